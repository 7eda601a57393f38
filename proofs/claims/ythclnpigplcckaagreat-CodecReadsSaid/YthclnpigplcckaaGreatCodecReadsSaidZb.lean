/- A part of the proof of CodecReadsSaid: the texts that it leans on, one behind the other. No condition but those that each theorem states. -/
import Derived.Test.YthclnpigplcckaaGreatCodecReadsSaidZa
import Derived.Laws.Bits64b
import Derived.Laws.Bits128
import Derived.Laws.BitsAllLaws
import Derived.Great.FillDense
set_option linter.unusedVariables false
set_option linter.unusedSimpArgs false
/- Small arithmetic of machine words, as the walks spell it. No program. -/
namespace Go.Rc
open Go

theorem xor_max (x : Nat) (hx : x < 18446744073709551616) : 18446744073709551615 ^^^ x = 18446744073709551615 - x := by
  have h : (BitVec.allOnes 64 ^^^ BitVec.ofNat 64 x).toNat = 2 ^ 64 - 1 - x := by
    rw [BitVec.allOnes_xor, BitVec.toNat_not, BitVec.toNat_ofNat, Nat.mod_eq_of_lt (by simpa using hx)]
  rw [BitVec.toNat_xor, BitVec.toNat_allOnes, BitVec.toNat_ofNat, Nat.mod_eq_of_lt (by simpa using hx)] at h
  simpa using h
theorem u64_max : IntKind.u64.max = ((18446744073709551615 : Nat) : Int) := by decide
theorem zig_neg {n : Int} (h : -maxN ≤ n) (h0 : n < 0) : bits .xor .u64 IntKind.u64.max (IntKind.u64.wrap (IntKind.u64.wrap n * 2)) = (zig n : Int) := by
  unfold maxN at h
  have e : IntKind.u64.wrap (IntKind.u64.wrap n * 2) = ((18446744073709551616 - (-2 * n).toNat : Nat) : Int) := by
    rw [IntKind.wrap_u64, IntKind.wrap_u64]; omega
  rw [e, u64_max, bits_xor_u64_nat _ _ (by decide) (by omega), xor_max _ (by omega)]
  unfold zig
  rw [if_neg (by omega)]
  omega
theorem zig_pos {n : Int} (h0 : ¬ n < 0) : n * 2 = (zig n : Int) := by
  unfold zig
  rw [if_pos (by omega)]; omega
theorem zig_le {n : Int} (h : -maxN ≤ n ∧ n ≤ maxN) : zig n ≤ 2199023255552 := by
  unfold maxN at h
  unfold zig
  split <;> omega
theorem or128 (u : Nat) : bits .or .u8 (IntKind.u8.wrap (u : Int)) 128 = ((128 + u % 128 : Nat) : Int) := by
  have e : IntKind.u8.wrap (u : Int) = ((u % 256 : Nat) : Int) := by
    simp [IntKind.wrap, IntKind.bits, IntKind.signed]
  have e2 : (128 : Int) = ((128 : Nat) : Int) := rfl
  rw [e, e2, u8_or_nat _ _ (by omega) (by decide)]
  congr 1
  have h1 : 128 ||| (u % 256) % 128 = 128 + (u % 256) % 128 := by
    have := Nat.shiftLeft_add_eq_or_of_lt (b := (u % 256) % 128) (i := 7) (by omega) 1
    simpa using this.symm
  have h2 : (u % 256) ||| 128 = 128 ||| (u % 256) % 128 := by
    apply Nat.eq_of_testBit_eq
    intro i
    rw [Nat.testBit_or, Nat.testBit_or]
    by_cases hi : i < 7
    · have : (u % 256 % 2 ^ 7).testBit i = (u % 256).testBit i := by rw [Nat.testBit_mod_two_pow]; simp [hi]
      rw [show (u % 256 % 128) = u % 256 % 2 ^ 7 by rfl, this, Bool.or_comm]
    · by_cases h7 : i = 7
      · subst h7
        have : (128 : Nat).testBit 7 = true := by decide
        rw [this]; simp
      · have : ((u % 256) % 128).testBit i = false := Nat.testBit_lt_two_pow (Nat.lt_of_lt_of_le (Nat.mod_lt _ (by decide)) (by have : 2 ^ 7 ≤ 2 ^ i := Nat.pow_le_pow_right (by decide) (by omega); simpa using this))
        have h3 : (u % 256).testBit i = false := Nat.testBit_lt_two_pow (Nat.lt_of_lt_of_le (Nat.mod_lt _ (by decide)) (by have : 2 ^ 8 ≤ 2 ^ i := Nat.pow_le_pow_right (by decide) (by omega); simpa using this))
        rw [this, h3]; simp
  rw [h2, h1]
  omega
theorem wrap_u8 (u : Int) : IntKind.u8.wrap u = u % 256 := by simp [IntKind.wrap, IntKind.bits, IntKind.signed]
theorem or128' (u : Nat) : bits .or .u8 ((u : Int) % 256) 128 = ((128 + u % 128 : Nat) : Int) := by rw [← wrap_u8]; exact or128 u
theorem and127 (x : Nat) (hx : x < 256) : bits .and .u8 (x : Int) 127 = ((x % 128 : Nat) : Int) := by
  have e2 : (127 : Int) = ((127 : Nat) : Int) := rfl
  rw [e2, u8_and_nat _ _ hx (by decide)]
  congr 1
  exact Nat.and_two_pow_sub_one_eq_mod x 7
theorem or_shift {u x i : Nat} (hu : u < 128 ^ i) (hx : x < 256) (hi : i < 6) :
    bits .or .u64 (u : Int) (IntKind.u64.wrap (IntKind.u64.wrap (bits .and .u8 (x : Int) 127) * 2 ^ (7 * i))) = ((u + x % 128 * 128 ^ i : Nat) : Int) := by
  have hp : (128 : Nat) ^ i = 2 ^ (7 * i) := by rw [Nat.pow_mul]
  have hle : (128 : Nat) ^ i ≤ 128 ^ 5 := Nat.pow_le_pow_right (by decide) (by omega)
  have h5 : (128 : Nat) ^ 5 = 34359738368 := by decide
  have hm : x % 128 < 128 := Nat.mod_lt _ (by decide)
  have hml : x % 128 * 128 ^ i ≤ 127 * 34359738368 := Nat.mul_le_mul (by omega) (by omega)
  have e1 : IntKind.u64.wrap (bits .and .u8 (x : Int) 127) = ((x % 128 : Nat) : Int) := by
    rw [and127 x hx, IntKind.wrap_u64]; omega
  have e2 : ((x % 128 : Nat) : Int) * 2 ^ (7 * i) = ((x % 128 * 128 ^ i : Nat) : Int) := by rw [hp]; simp
  rw [e1, e2]
  have e3 : IntKind.u64.wrap ((x % 128 * 128 ^ i : Nat) : Int) = ((x % 128 * 128 ^ i : Nat) : Int) := by rw [IntKind.wrap_u64]; omega
  rw [e3, bits_or_u64_nat _ _ (by omega) (by omega)]
  congr 1
  rw [hp] at hu ⊢
  have := Nat.shiftLeft_add_eq_or_of_lt hu (x % 128)
  rw [Nat.shiftLeft_eq] at this
  rw [Nat.or_comm, ← this, Nat.add_comm]
theorem not_i64 (a : Nat) (ha : a < 9223372036854775808) : bits .xor .i64 (-1) (a : Int) = -1 - (a : Int) := by
  have h1 : (BitVec.ofInt 64 (-1)) = BitVec.allOnes 64 := by decide
  have h2 : (BitVec.ofInt 64 (a : Int)).toNat = a := by
    rw [BitVec.ofInt_natCast, BitVec.toNat_ofNat]; exact Nat.mod_eq_of_lt (by omega)
  show IntKind.i64.wrap ((BitVec.ofInt 64 (-1) ^^^ BitVec.ofInt 64 (a : Int)).toNat : Int) = _
  rw [h1, BitVec.allOnes_xor, BitVec.toNat_not, h2, IntKind.wrap_i64]
  omega
theorem zag_odd {u : Nat} (h : u % 2 = 1) (hl : u ≤ 8796093022208) : bits .xor .i64 (-1) ((u : Int) / 2) = zag u := by
  have e : (u : Int) / 2 = ((u / 2 : Nat) : Int) := by omega
  rw [e]
  have h1 : bits .xor .i64 (-1) ((u / 2 : Nat) : Int) = -1 - ((u / 2 : Nat) : Int) := not_i64 (u / 2) (by omega)
  rw [h1]
  unfold zag
  rw [if_pos h]; omega
theorem zag_even {u : Nat} (h : u % 2 = 0) : (u : Int) / 2 = zag u := by
  unfold zag
  rw [if_neg (by omega)]
theorem and1 (u : Nat) (hl : u ≤ 8796093022208) : bits .and .u64 (u : Int) 1 = ((u % 2 : Nat) : Int) := by
  have e2 : (1 : Int) = ((1 : Nat) : Int) := rfl
  rw [e2, bits_and_u64_nat _ _ (by omega) (by decide)]
  congr 1
  exact Nat.and_two_pow_sub_one_eq_mod u 1
end Go.Rc
/- codec's form.read. -/
namespace Go.Proofs.YthclnpigplcckaaGreat
open Go.RowKit Go.Lb Go.Rc

theorem Tryz.elem22 : Tryz.prog.elem 22 = 5 := by kernel_rfl
def ReadPost (B f : Nat) (l : List Nat) (b : Bool) (w : World) (e : Ending) (w' : World) : Prop :=
  ∃ (n : Int) (l' : List Nat) (b' : Bool), e = .returned (.int .i64 n) ∧ Fr B w' f l' b' ∧ Upd [f] w w' ∧ ROk nget l b n l' b'

section
variable {B f : Nat} {l : List Nat} {b : Bool} {w : World} {a a' : Option Addr} {c c' i : Nat} {z : Int}
theorem read_none (h : In 108 cR B w f l b a c) (hn : nget l = none) : ReadPost B f l b w (.returned (.int .i64 0)) (w.setCell ⟨f, 2, none⟩ (.bool true)) := by
  have uS : Upd [f] w (w.setCell ⟨f, 2, none⟩ (.bool true)) := (Upd.refl _ _).setCell (by simp) _
  refine ⟨0, l, true, rfl, ⟨a, c, ⟨h.blk.set 2 (.bool true), h.byte.upd uS (fun k hk => ?_), h.cap, h.low⟩⟩, uS, ⟨fun h => (by cases h), fun _ => .inr hn⟩⟩
  have := h.low
  simp; omega
theorem read_some (h : In 108 cR B w f l b a c) (hB : Bytes w (· < B) a' (l.drop (i + 1))) (hc : l.length - (i + 1) ≤ c' ∧ c' ≤ c) (hn : nget l = some (z, l.drop (i + 1))) :
    ReadPost B f l b w (.returned (.int .i64 z)) (w.setCell ⟨f, 0, none⟩ (.slice a' (l.length - (i + 1)) c')) := by
  have uS : Upd [f] w (w.setCell ⟨f, 0, none⟩ (.slice a' (l.length - (i + 1)) c')) := (Upd.refl _ _).setCell (by simp) _
  refine ⟨z, l.drop (i + 1), b, rfl, ⟨a', c', ⟨?_, hB.upd uS (fun k hk => ?_), ?_, h.low⟩⟩, uS, ⟨fun h => ⟨h, hn⟩, .inl⟩⟩
  · rw [List.length_drop]; exact h.blk.set 0 _
  · have := h.low
    simp; omega
  · have := h.cap
    simp; omega
theorem read_cut (h : In 108 cR B w f l b a c) (hB : Bytes w (· < B) a' (l.drop (i + 1))) (hc : l.length - (i + 1) ≤ c' ∧ c' ≤ c) (hn : nget l = none) :
    ReadPost B f l b w (.returned (.int .i64 0)) ((w.setCell ⟨f, 0, none⟩ (.slice a' (l.length - (i + 1)) c')).setCell ⟨f, 2, none⟩ (.bool true)) := by
  have uS : Upd [f] w ((w.setCell ⟨f, 0, none⟩ (.slice a' (l.length - (i + 1)) c')).setCell ⟨f, 2, none⟩ (.bool true)) := ((Upd.refl _ _).setCell (by simp) _).setCell (by simp) _
  refine ⟨0, l.drop (i + 1), true, rfl, ⟨a', c', ⟨?_, hB.upd uS (fun k hk => ?_), ?_, h.low⟩⟩, uS, ⟨fun h => (by cases h), fun _ => .inr hn⟩⟩
  · rw [List.length_drop]; exact (h.blk.set 0 _).set 2 _
  · have := h.low
    simp; omega
  · have := h.cap
    simp; omega
end

set_option maxRecDepth 20000 in
set_option maxHeartbeats 4000000 in
theorem read_post (B f : Nat) (l : List Nat) (b : Bool) (w : World) (h : Fr B w f l b) :
    Calls Tryz.prog 113 #[.pointer (some ⟨f, 0, none⟩)] w (ReadPost B f l b w) := by
  obtain ⟨i5, hi5, hz0, hz1, hz2⟩ := infoU8
  obtain ⟨a, c, h⟩ := h
  have H := Lib.hid h
  have c0 := h.blk.cell (o := 0) rfl
  have c2 := h.blk.cell (o := 2) rfl
  have hfz := h.blk.frozen 0
  have hfz2 := h.blk.frozen 2
  have hlt := h.blk.lt
  obtain ⟨hc1, hc2⟩ := h.cap
  unfold maxLen at hc2
  clear h
  go_enter Tryz.func113, Tryz.ntmps113
  go_wp2_with fail
  go_loopg [3, 4] 6 (fun g s t wr => ∃ (i : Nat), t = .int .i64 i ∧ 6 - i = g ∧ i ≤ 6 ∧ i ≤ l.length ∧ s = .int .u64 (val (l.take i)) ∧ (∀ x ∈ l.take i, 128 ≤ x) ∧ wr = w)
  case atStart => exact ⟨0, rfl, rfl, by omega, by omega, by simp [val], by simp, rfl⟩
  case round =>
    obtain ⟨i, rfl, hg, hi6, hil, rfl, hall, rfl⟩ := hrel
    have HA := Lib.hid hall
    have HG := Lib.hid hg
    clear hall hg
    by_cases hlt6 : i < 6
    · have t6 : decide ((i : Int) < 6) = true := by simp; omega
      by_cases hll : i < l.length
      · have tl : decide (i < l.length) = true := by simp; omega
        obtain ⟨x, hx⟩ : ∃ x, l[i]? = some x := ⟨_, List.getElem?_eq_getElem hll⟩
        obtain ⟨hx2, d, o, rfl, hdB, hdl, hcell⟩ := H.out.byte i x hx
        have HX := Lib.hid hx
        have hv : val (l.take i) < 128 ^ i := by
          have := val_lt (l.take i)
          rwa [show (l.take i).length = i by simp; omega] at this
        have hor := or_shift (x := x) hv hx2 hlt6
        have hv2 : val (l.take i) + x % 128 * 128 ^ i < 128 ^ (i + 1) := by
          have h1 : x % 128 * 128 ^ i ≤ 127 * 128 ^ i := Nat.mul_le_mul_right _ (by omega)
          rw [Nat.pow_succ]; omega
        have hv3 : (128 : Nat) ^ (i + 1) ≤ 128 ^ 6 := Nat.pow_le_pow_right (by decide) (by omega)
        have h6 : (128 : Nat) ^ 6 = 4398046511104 := by decide
        have HS := Lib.hid (val_snoc (l.take i) x)
        have hsn : l.take (i + 1) = l.take i ++ [x] := take_snoc hx
        have HSN := Lib.hid hsn
        obtain ⟨u2, hu2⟩ : ∃ u2, u2 = val (l.take i) + x % 128 * 128 ^ i := ⟨_, rfl⟩
        rw [← hu2] at hor hv2
        have HU2 := Lib.hid hu2
        have hu2l : u2 ≤ 8796093022208 := by omega
        clear hx hu2 hv hv3 h6 hsn hv2
        unfold bv at hcell
        go_upto_if 36 with fail
        by_cases hx128 : x < 128
        · have tx : decide ((128 : Int) ≤ (x : Int)) = false := by simp; omega
          obtain ⟨a', c', hsl, hB', hcc⟩ := bytes_from (P := Tryz.prog) (t := 22) (by rw [Tryz.elem22]; exact Tryz.underlying22) Tryz.elem22 hi5 hz1 H.out.byte (i + 1) (by omega) H.out.cap.1
          rw [show ((i + 1 : Nat) : Int) = (i : Int) + 1 from by omega] at hsl
          have HSL := Lib.hid hsl
          have HB' := Lib.hid hB'
          clear hsl hB'
          have hng := nget_at HX.out HA.out hlt6 hx128
          rw [show x * 128 ^ i = x % 128 * 128 ^ i by rw [Nat.mod_eq_of_lt hx128], ← HU2.out] at hng
          have HNG := Lib.hid hng
          clear hng
          obtain ⟨z, hz⟩ : ∃ z, z = zag u2 := ⟨_, rfl⟩
          have hpar : (bits BinOp.and IntKind.u64 (u2 : Int) 1 = 1 ∧ bits .xor .i64 (-1) ((u2 : Int) / 2) = z) ∨ (bits BinOp.and IntKind.u64 (u2 : Int) 1 = 0 ∧ (u2 : Int) / 2 = z) := by
            rw [and1 u2 hu2l]
            rcases Nat.mod_two_eq_zero_or_one u2 with h | h
            · right; exact ⟨by rw [h]; rfl, by rw [hz, zag_even h]⟩
            · left; exact ⟨by rw [h]; rfl, by rw [hz, zag_odd h hu2l]⟩
          have HZ := Lib.hid hz
          clear hz
          have HP := Lib.hid hpar
          clear hpar
          go_upto_if 52 with (refine wpList_run (o := ⟨some 44, .slice 22 (.tmp 41) (some (.tmp 43)) none none, _, _, _, _⟩) rfl (exec_sliceAt (by rfl) (by rfl) (by rfl) (by rfl) HSL.out) ?_)
          rcases HP.out with ⟨p1, p2⟩ | ⟨p1, p2⟩
          all_goals
            clear hor c0 hcell tl t6 tx HP
            by_cases hxz : 0 < i ∧ x = 0
            · have HF := Lib.hid (read_cut (i := i) H.out HB'.out hcc (by rw [HNG.out, if_pos hxz]))
              obtain ⟨hi0, hx0⟩ := hxz
              have ti : decide ((0 : Int) < (i : Int)) = true := by simp; omega
              have ti2 : ((x : Int) == 0) = true := by rw [beq_iff_eq]; omega
              have ti3 : decide (x = 0) = true := by simpa using hx0
              have ti4 : decide (0 < i) = true := by simpa using hi0
              clear hx0
              subst p2
              go_wp2_with fail
              refine bodyPost_ret (results_tmp rfl _ _ _) rfl ?_
              exact HF.out
            · have ti : (decide ((0 : Int) < (i : Int)) = false ∧ decide (0 < i) = false ∧ ¬ 0 < i) ∨ (decide ((0 : Int) < (i : Int)) = true ∧ decide (0 < i) = true ∧ ((x : Int) == 0) = false ∧ ¬ x = 0) := by
                by_cases hi0 : 0 < i
                · right
                  refine ⟨by simpa using hi0, by simpa using hi0, ?_, by omega⟩
                  rw [beq_eq_false_iff_ne]; omega
                · left; exact ⟨by simp; omega, by simpa using hi0, hi0⟩
              by_cases hr : -maxN ≤ z ∧ z ≤ maxN
              · have HF := Lib.hid (read_some (i := i) H.out HB'.out hcc (by rw [HNG.out, if_neg hxz, ← HZ.out, if_pos hr]))
                unfold maxN at hr
                obtain ⟨hr1, hr2⟩ := hr
                have tz1 : decide (z < -1099511627776) = false := by simp; omega
                have tz2 : decide (1099511627776 < z) = false := by simp; omega
                clear hxz
                rcases ti with ⟨ti, ti2, ti3⟩ | ⟨ti, ti2, ti3, ti4⟩
                all_goals
                  subst p2
                  go_wp2_with fail
                  refine bodyPost_ret (results_tmp rfl _ _ _) rfl ?_
                  exact HF.out
              · have HF := Lib.hid (read_cut (i := i) H.out HB'.out hcc (by rw [HNG.out, if_neg hxz, ← HZ.out, if_neg hr]))
                unfold maxN at hr
                have tz : (decide (z < -1099511627776) = true) ∨ (decide (z < -1099511627776) = false ∧ decide (1099511627776 < z) = true) := by
                  by_cases h1 : z < -1099511627776
                  · left; simpa using h1
                  · right; refine ⟨by simpa using h1, by simp; omega⟩
                clear hxz hr
                rcases ti with ⟨ti, ti2, ti3⟩ | ⟨ti, ti2, ti3, ti4⟩ <;> rcases tz with tz | ⟨tz, tz2⟩
                all_goals
                  subst p2
                  go_wp2_with fail
                  all_goals first
                    | (refine bodyPost_ret (results_tmp rfl _ _ _) rfl ?_; exact HF.out)
                    | (exfalso; simp only [decide_eq_true_eq, decide_eq_false_iff_not] at *; omega)
        · have tx : decide ((128 : Int) ≤ (x : Int)) = true := by simp; omega
          go_wp2_with fail
          go_roundg (6 - (i + 1))
          case measure => have := HG.out; omega
          case rel => exact ⟨i + 1, by go_num, rfl, by omega, by omega, by rw [HSN.out, HS.out, show (l.take i).length = i by simp; omega, ← HU2.out], fun y hy => by
            rw [HSN.out] at hy
            rcases List.mem_append.1 hy with hy | hy
            · exact HA.out y hy
            · simp at hy; omega, rfl⟩
      · have tl : decide (i < l.length) = false := by simp; omega
        have HF := Lib.hid (read_none H.out (nget_end HA.out hi6 hil (.inr (by omega))))
        go_wp2_with fail
        refine bodyPost_ret (results_tmp rfl _ _ _) rfl ?_
        exact HF.out
    · have t6 : decide ((i : Int) < 6) = false := by simp; omega
      have HF := Lib.hid (read_none H.out (nget_end HA.out hi6 hil (.inl (by omega))))
      go_wp2_with fail
      refine bodyPost_ret (results_tmp rfl _ _ _) rfl ?_
      exact HF.out
end Go.Proofs.YthclnpigplcckaaGreat
/- codec's form.num, writing. -/
namespace Go.Proofs.YthclnpigplcckaaGreat
open Go.RowKit Go.Lb Go.Rc

set_option maxRecDepth 20000 in
set_option maxHeartbeats 1000000 in
theorem num_wb (B : Nat) (X : List Nat) (f p q : Nat) (n : Int) (o : List Nat) (b : Bool) (w : World) (h : Fw B X w f o b) (hp : w.cell? ⟨p, q, none⟩ = some (.int .i64 n)) (hn : ¬ (-maxN ≤ n ∧ n ≤ maxN)) :
    Calls Tryz.prog 90 #[.pointer (some ⟨f, 0, none⟩), .pointer (some ⟨p, q, none⟩)] w fun e w' => e = .returned (.tuple #[]) ∧ Fw B X w' f o true ∧ Kp B X w w' := by
  have HM := Lib.hid (out_mark (i := 2) (fun _ _ _ => rfl) h true)
  obtain ⟨hX, v, h, hs⟩ := h
  have c1 := h.blk.cell (o := 1) rfl
  have c2 := h.blk.cell (o := 2) rfl
  have hfz := h.blk.frozen 2
  have hlt := h.blk.lt
  unfold maxN at hn
  clear h hs hX
  by_cases h1 : n < -1099511627776
  · have d1 : decide (n < -1099511627776) = true := by simpa using h1
    clear hn h1
    go_enter Tryz.func90, Tryz.ntmps90
    go_wp2_with fail
    refine bodyPost_ret (results_none rfl _ _ _) rfl ?_
    exact ⟨rfl, HM.out⟩
  · have d1 : decide (n < -1099511627776) = false := by simpa using h1
    have d2 : decide (1099511627776 < n) = true := by simp; omega
    clear hn h1
    go_enter Tryz.func90, Tryz.ntmps90
    go_wp2_with fail
    refine bodyPost_ret (results_none rfl _ _ _) rfl ?_
    exact ⟨rfl, HM.out⟩

set_option maxRecDepth 20000 in
set_option maxHeartbeats 1000000 in
theorem num_wg (B : Nat) (X : List Nat) (f p q : Nat) (n : Int) (o : List Nat) (b : Bool) (w : World) (h : Fw B X w f o b) (hp : w.cell? ⟨p, q, none⟩ = some (.int .i64 n)) (hn : -maxN ≤ n ∧ n ≤ maxN) (hl : o.length + 6 ≤ 1099511627776) :
    Calls Tryz.prog 90 #[.pointer (some ⟨f, 0, none⟩), .pointer (some ⟨p, q, none⟩)] w fun e w' => e = .returned (.tuple #[]) ∧ Fw B X w' f (o ++ nput n) b ∧ Kp B X w w' := by
  obtain ⟨i5, hi5, hz0, hz1, hz2⟩ := infoU8
  have H := Lib.hid h
  obtain ⟨hX, v, h, hs⟩ := h
  have c0 := h.blk.cell (o := 0) rfl
  have c1 := h.blk.cell (o := 1) rfl
  have hfz := h.blk.frozen 0
  have hlt := h.blk.lt
  have hzl := zig_le hn
  have Hlen := Lib.hid (show (nput n).length ≤ 6 from nput_len hn)
  have HN := Lib.hid hn
  unfold maxN at hn
  clear h hs hX
  have d1 : decide (n < -1099511627776) = false := by simp; omega
  have d2 : decide (1099511627776 < n) = false := by simp; omega
  by_cases h0 : n < 0
  all_goals
    first | (have d3 : decide (n < 0) = true := by simpa using h0) | (have d3 : decide (n < 0) = false := by simpa using h0)
    first | (have hz := zig_neg HN.out.1 h0) | (have hz := zig_pos h0)
    go_enter Tryz.func90, Tryz.ntmps90
    go_wp2_with fail
    clear hz
    go_loopg [4] (zig n) (fun g s wr => ∃ (u : Nat) (o' : List Nat), s = .int .u64 u ∧ u ≤ 2199023255552 ∧ u = g ∧ o' ++ vput u = o ++ nput n ∧ Fw B X wr f o' b ∧ Kp B X w wr)
    case atStart => exact ⟨zig n, o, rfl, hzl, rfl, rfl, H.out, Kp.refl _ _ _⟩
    case round =>
      obtain ⟨u, o', rfl, hu, rfl, ho, hF, hK⟩ := hrel
      have HK := Lib.hid hK
      obtain ⟨hX, v, h, hs⟩ := hF
      have hlo : o'.length + (vput u).length = o.length + (nput n).length := by rw [← List.length_append, ho, List.length_append]
      have hlo2 : o'.length ≤ o.length + 6 := by have := Hlen.out; omega
      have k0 := h.blk.cell (o := 0) rfl
      have kfz := h.blk.frozen 0
      have klt := h.blk.lt
      have Hr := Lib.hid h.row
      obtain ⟨va, vc, rfl⟩ := own_shape h.row
      have HH := Lib.hid h
      have HS := Lib.hid hs
      have HX := Lib.hid hX
      by_cases hlt128 : u < 128
      · have ht : decide ((128 : Int) ≤ (u : Int)) = false := by simp; omega
        have hvp : vput u = [u] := by unfold vput; rw [if_pos hlt128]
        rw [hvp] at ho
        have HO := Lib.hid ho
        clear ho hK h hs hX hvp hlo
        go_wp2_with (at_builtin; refine wpList_append_mine rfl (.tmp 57) (.tmp 60) 22 rfl 0 5 i5 (.int .u8 0) 1 1 Tryz.underlying22 hi5 hz0 hz1 hz2 rfl (by decide) (.slice va o'.length vc) o'.length (o'.map bv) rfl (World.ownsRow.alloc Hr.out _) ⟨wr.heap.size, 0, none⟩ 1 1 [bv u] rfl rfl (Blk.news (Blk.new _ 5 [bv u])) (by simp [bv, Value.oneCell']) (by unfold maxLen; omega) (by omega) (by simp) ?_; intro v' w11 ho hg hgb; obtain ⟨va', vc', rfl⟩ := own_shape ho; have Hn := Lib.hid (out_step (mk := cW) (B := B) (X := X) (news := [u]) (fun _ _ _ => rfl) (fun _ _ => rfl) HH.out HS.out HX.out ((Upd.refl _ _).alloc _) (by simp; omega) ho hg hgb); have e0 := Hn.out.2.1; have e1 := Hn.out.2.2.1; have e2 := Hn.out.2.2.2; clear ho hg hgb)
        go_end0
        exact ⟨rfl, by rw [← HO.out]; exact Hn.out.1.1, HK.out.trans Hn.out.1.2⟩
      · have ht : decide ((128 : Int) ≤ (u : Int)) = true := by simp; omega
        have hvp : vput u = (128 + u % 128) :: vput (u / 128) := by conv => { lhs; unfold vput }; rw [if_neg hlt128]
        rw [hvp] at ho
        have HO := Lib.hid ho
        have hor := or128' u
        obtain ⟨m, hm⟩ : ∃ m, m = 128 + u % 128 := ⟨_, rfl⟩
        rw [← hm] at hor HO
        have hm2 : m < 256 := by omega
        clear hm
        clear ho hK h hs hX hvp hlo
        go_wp2_with (at_builtin; refine wpList_append_mine rfl (.tmp 45) (.tmp 49) 22 rfl 0 5 i5 (.int .u8 0) 1 1 Tryz.underlying22 hi5 hz0 hz1 hz2 rfl (by decide) (.slice va o'.length vc) o'.length (o'.map bv) rfl (World.ownsRow.alloc Hr.out _) ⟨wr.heap.size, 0, none⟩ 1 1 [bv m] rfl rfl (Blk.news (Blk.new _ 5 [bv m])) (by simp [bv, Value.oneCell']) (by unfold maxLen; omega) (by omega) (by simp) ?_; intro v' w11 ho hg hgb; obtain ⟨va', vc', rfl⟩ := own_shape ho; have Hn := Lib.hid (out_step (mk := cW) (B := B) (X := X) (news := [m]) (fun _ _ _ => rfl) (fun _ _ => rfl) HH.out HS.out HX.out ((Upd.refl _ _).alloc _) (by simp; omega) ho hg hgb); have e0 := Hn.out.2.1; have e1 := Hn.out.2.2.1; have e2 := Hn.out.2.2.2; clear ho hg hgb)
        go_roundg (u / 128)
        case measure => omega
        case rel => exact ⟨u / 128, o' ++ [m], by rw [Int.natCast_ediv]; rfl, by omega, rfl, by rw [← HO.out]; simp, Hn.out.1.1, HK.out.trans Hn.out.1.2⟩

theorem num_w (B : Nat) (X : List Nat) (f p q : Nat) (n : Int) (o : List Nat) (b : Bool) (w : World) (h : Fw B X w f o b) (hp : w.cell? ⟨p, q, none⟩ = some (.int .i64 n)) (hl : o.length + 6 ≤ 1099511627776) :
    Calls Tryz.prog 90 #[.pointer (some ⟨f, 0, none⟩), .pointer (some ⟨p, q, none⟩)] w fun e w' => e = .returned (.tuple #[]) ∧ ∃ o' b', Fw B X w' f o' b' ∧ Kp B X w w' ∧ Sch.num.Wr (.num n) o b o' b' := by
  by_cases hn : -maxN ≤ n ∧ n ≤ maxN
  · refine (num_wg B X f p q n o b w h hp hn hl).mono fun e w' ⟨he, h1, h2⟩ => ⟨he, _, _, h1, h2, ⟨by simp [Sch.good, hn], fun _ => rfl, ?_⟩⟩
    have := nput_len hn
    simp only [Sch.wmax, List.length_append]; omega
  · refine (num_wb B X f p q n o b w h hp hn).mono fun e w' ⟨he, h1, h2⟩ => ⟨he, _, _, h1, h2, ⟨by simp [Sch.good, hn], (fun h => by cases h), by omega⟩⟩
end Go.Proofs.YthclnpigplcckaaGreat
/- codec's form.num and form.many, reading; form.many writing. -/
namespace Go.Proofs.YthclnpigplcckaaGreat
open Go.RowKit Go.Lb Go.Rc

/-- What a thing's reading does: w' is w but for the form and the record at p. -/
def RdPost (s : Sch) (B f p : Nat) (tp : TypeId) (pre post : List Value) (l : List Nat) (b : Bool) (w : World) (e : Ending) (w' : World) : Prop :=
  e = .returned (.tuple #[]) ∧ ∃ v cs l' b', Fr B w' f l' b' ∧ Upd [f, p] w w' ∧ Blk w' p tp (pre ++ cs ++ post) ∧ s.Rep w' (Nw w.heap.size w') cs v ∧ s.Rd l b v l' b'
/-- Function K reads things of shape s: into a record's cells that are nothing's. -/
def Reads (K : Nat) (s : Sch) : Prop := ∀ (B f p q : Nat) (tp : TypeId) (pre post : List Value) (l : List Nat) (b : Bool) (w : World), Fr B w f l b → B ≤ p → p ≠ f → q = pre.length → Blk w p tp (pre ++ s.zc ++ post) →
  Calls Tryz.prog K #[.pointer (some ⟨f, 0, none⟩), .pointer (some ⟨p, q, none⟩)] w (RdPost s B f p tp pre post l b w)
/-- What a thing's writing does. -/
def WrPost (s : Sch) (B : Nat) (X : List Nat) (f : Nat) (v : Val) (o : List Nat) (b : Bool) (w : World) (e : Ending) (w' : World) : Prop :=
  e = .returned (.tuple #[]) ∧ ∃ o' b', Fw B X w' f o' b' ∧ Kp B X w w' ∧ s.Wr v o b o' b'
/-- Function K writes things of shape s: out of a record's cells. -/
def Writes (K : Nat) (s : Sch) : Prop := ∀ (B : Nat) (X : List Nat) (f p q : Nat) (tp : TypeId) (pre cs post : List Value) (v : Val) (o : List Nat) (b : Bool) (w : World), Fw B X w f o b → p ∈ X → q = pre.length → Blk w p tp (pre ++ cs ++ post) → s.Rep w (· < B) cs v → o.length + s.wmax v ≤ 1099511627776 →
  Calls Tryz.prog K #[.pointer (some ⟨f, 0, none⟩), .pointer (some ⟨p, q, none⟩)] w (WrPost s B X f v o b w)

theorem mid_at {α : Type} {pre post : List α} {x : α} : (pre ++ [x] ++ post)[pre.length]? = some x := by simp
theorem mid_set {α : Type} {pre post : List α} {x y : α} : (pre ++ [x] ++ post).set pre.length y = pre ++ [y] ++ post := by simp

set_option maxRecDepth 20000 in
set_option maxHeartbeats 1000000 in
/-- num reads into whatever cell there is. -/
theorem num_r' (B f p q : Nat) (tp : TypeId) (u : Value) (pre post : List Value) (l : List Nat) (b : Bool) (w : World) (h : Fr B w f l b) (hB : B ≤ p) (hpf : p ≠ f) (hq : q = pre.length) (hp : Blk w p tp (pre ++ [u] ++ post)) :
    Calls Tryz.prog 90 #[.pointer (some ⟨f, 0, none⟩), .pointer (some ⟨p, q, none⟩)] w fun e w' => e = .returned (.tuple #[]) ∧ ∃ (n : Int) (l' : List Nat) (b' : Bool), Fr B w' f l' b' ∧ Upd [f, p] w w' ∧ Blk w' p tp (pre ++ [.int .i64 n] ++ post) ∧ ROk nget l b n l' b' := by
  subst hq
  have H := Lib.hid h
  have HP := Lib.hid hp
  obtain ⟨a, c, h⟩ := h
  have c1 := h.blk.cell (o := 1) rfl
  clear h hp
  go_enter Tryz.func90, Tryz.ntmps90
  go_wp2_with fail
  refine (read_post B f l b _ H.out).mono ?_
  rintro e w1 ⟨n, l', b', rfl, h1, h2, h3⟩
  have hb1 := h2.blk HP.out (by simpa using hpf)
  have k1 := hb1.cell (o := pre.length) mid_at
  have k2 := hb1.frozen pre.length
  have k3 := hb1.lt
  have HR := Lib.hid h3
  have uS : Upd [p] w1 (w1.setCell ⟨p, pre.length, none⟩ (.int .i64 n)) := (Upd.refl _ _).setCell (by simp) _
  have HF : Hid (Fr B (w1.setCell ⟨p, pre.length, none⟩ (.int .i64 n)) f l' b' ∧ Upd [f, p] w (w1.setCell ⟨p, pre.length, none⟩ (.int .i64 n)) ∧ Blk (w1.setCell ⟨p, pre.length, none⟩ (.int .i64 n)) p tp (pre ++ [.int .i64 n] ++ post)) := by
    refine Lib.hid ⟨h1.upd uS (fun k hk => ?_), (h2.mono (by simp)).trans uS (by simp), ?_⟩
    · simp at hk; subst hk; exact ⟨hpf, hB⟩
    · have := hb1.set pre.length (.int .i64 n)
      rwa [mid_set] at this
  clear h1 h2 h3 hb1 uS
  go_wp2_with fail
  refine bodyPost_ret (results_none rfl _ _ _) rfl ?_
  exact ⟨rfl, n, l', b', HF.out.1, HF.out.2.1, HF.out.2.2, HR.out⟩

theorem num_reads : Reads 90 .num := fun B f p q tp pre post l b w h hB hpf hq hp => by
  refine (num_r' B f p q tp _ pre post l b w h hB hpf hq hp).mono fun e w' ⟨he, n, l', b', h1, h2, h3, h4⟩ => ?_
  exact ⟨he, .num n, [.int .i64 n], l', b', h1, h2, h3, Sch.Rep.num_mk n, Sch.Rd.num h4⟩
theorem num_writes : Writes 90 .num := fun B X f p q tp pre cs post v o b w h hX hq hp hr hl => by
  obtain ⟨n, rfl, rfl⟩ := hr
  subst hq
  exact num_w B X f p _ n o b w h (hp.cell mid_at) (by simpa [Sch.wmax] using hl)
end Go.Proofs.YthclnpigplcckaaGreat
/- codec's form.many, writing and reading. -/
namespace Go.Proofs.YthclnpigplcckaaGreat
open Go.RowKit Go.Lb Go.Rc

theorem fw_mark {B f : Nat} {X : List Nat} {o : List Nat} {b : Bool} {w : World} (h : Fw B X w f o b) : w.cell? ⟨f, 2, none⟩ = some (.bool b) ∧ w.frozen? ⟨f, 2, none⟩ = false ∧ w.cell? ⟨f, 1, none⟩ = some (.bool false) ∧ f < w.heap.size := by
  obtain ⟨_, v, h, _⟩ := h
  exact ⟨h.blk.cell rfl, h.blk.frozen 2, h.blk.cell rfl, h.blk.lt⟩
theorem fr_mark {B f : Nat} {l : List Nat} {b : Bool} {w : World} (h : Fr B w f l b) : w.cell? ⟨f, 2, none⟩ = some (.bool b) ∧ w.frozen? ⟨f, 2, none⟩ = false ∧ w.cell? ⟨f, 1, none⟩ = some (.bool true) ∧ f < w.heap.size ∧ B ≤ f := by
  obtain ⟨a, c, h⟩ := h
  exact ⟨h.blk.cell rfl, h.blk.frozen 2, h.blk.cell rfl, h.blk.lt, h.low⟩
/-- The mark is set while reading. -/
theorem fr_set {B f : Nat} {l : List Nat} {b : Bool} {w : World} (h : Fr B w f l b) (b' : Bool) : Fr B (w.setCell ⟨f, 2, none⟩ (.bool b')) f l b' ∧ Upd [f] w (w.setCell ⟨f, 2, none⟩ (.bool b')) := by
  obtain ⟨a, c, h⟩ := h
  have uS : Upd [f] w (w.setCell ⟨f, 2, none⟩ (.bool b')) := (Upd.refl _ _).setCell (by simp) _
  refine ⟨⟨a, c, ⟨h.blk.set 2 (.bool b'), h.byte.upd uS (fun k hk => ?_), h.cap, h.low⟩⟩, uS⟩
  have := h.low
  simp; omega

def ManyW (B : Nat) (X : List Nat) (f k most : Nat) (o : List Nat) (b : Bool) (w : World) (e : Ending) (w' : World) : Prop :=
  ∃ (r : Int) (o' : List Nat) (b' : Bool), e = .returned (.int .i64 r) ∧ Fw B X w' f o' b' ∧ Kp B X w w' ∧ WOk (k ≤ most) (nput k) 6 o b o' b'

set_option maxRecDepth 20000 in
set_option maxHeartbeats 1000000 in
theorem many_w (B : Nat) (X : List Nat) (f k most : Nat) (o : List Nat) (b : Bool) (w : World) (h : Fw B X w f o b) (hl : o.length + 6 ≤ 1099511627776) (hm : most ≤ 65536) :
    Calls Tryz.prog 94 #[.pointer (some ⟨f, 0, none⟩), .int .i64 k, .int .i64 most] w (ManyW B X f k most o b w) := by
  have hN := h.new ((Upd.refl [] w).alloc (.cells #[.int .i64 (k : Int)] 3)) (x := w.heap.size) (Nat.le_refl _) (by simp)
  have HN := Lib.hid hN
  have Hfresh := Lib.hid h.fresh
  have hB := h.base
  clear h hN
  go_enter Tryz.func94, Tryz.ntmps94
  go_wp2_with fail
  refine (num_w B (w.heap.size :: X) f _ _ k o b _ HN.out ((Blk.new w 3 [.int .i64 (k : Int)]).cell rfl) hl).mono ?_
  rintro e w1 ⟨rfl, o', b', h1, h2, h3⟩
  have hbn := h2.blk (Blk.new w 3 [.int .i64 (k : Int)]) (.inr (by simp))
  have c0 := hbn.cell (o := 0) rfl
  obtain ⟨m2, m3, _, m5⟩ := fw_mark h1
  have HM := Lib.hid (out_mark (i := 2) (fun _ _ _ => rfl) h1.less true)
  have hK : Kp B X w w1 := (Kp.of_nil ((Upd.refl [] w).alloc _)).trans h2.drop
  have HK := Lib.hid hK
  have H1 := Lib.hid h1.less
  have H3 := Lib.hid h3
  clear h1 h2 h3 hbn hK
  have t1 : decide ((k : Int) < 0) = false := by rw [decide_eq_false_iff_not]; omega
  by_cases hk : k ≤ most
  · have t2 : decide (most < k) = false := by simp; omega
    have HF : Hid (ManyW B X f k most o b w (.returned (.int .i64 k)) w1) := Lib.hid ⟨_, o', b', rfl, H1.out, HK.out, by
      refine ⟨?_, H3.out.out, H3.out.len⟩
      rw [H3.out.bad]
      simp only [Sch.good, maxN, hk, and_true]
      constructor
      · exact fun h => h.1
      · intro h; exact ⟨h, by omega, by omega⟩⟩
    clear hk
    go_wp2_with fail
    go_ret
    exact HF.out
  · have t2 : decide (most < k) = true := by simp; omega
    have HF : Hid (ManyW B X f k most o b w (.returned (.int .i64 0)) (w1.setCell ⟨f, 2, none⟩ (.bool true))) := Lib.hid ⟨_, o', true, rfl, HM.out.1, HK.out.trans HM.out.2, ⟨by simp [hk], fun h => (by cases h), H3.out.len⟩⟩
    clear hk
    go_wp2_with fail
    go_ret
    exact HF.out

/-- How many there are of something. -/
def mget (most : Nat) (l : List Nat) : Option (Nat × List Nat) := match nget l with
  | none => none
  | some (n, r) => if 0 ≤ n ∧ n ≤ most then some (n.toNat, r) else none
def ManyR (B f most : Nat) (l : List Nat) (b : Bool) (w : World) (e : Ending) (w' : World) : Prop :=
  ∃ (k : Nat) (l' : List Nat) (b' : Bool), e = .returned (.int .i64 k) ∧ k ≤ most ∧ Fr B w' f l' b' ∧ Upd [f] w w' ∧ ROk (mget most) l b k l' b'

set_option maxRecDepth 20000 in
set_option maxHeartbeats 1000000 in
theorem many_r (B f most : Nat) (n0 : Int) (l : List Nat) (b : Bool) (w : World) (h : Fr B w f l b) :
    Calls Tryz.prog 94 #[.pointer (some ⟨f, 0, none⟩), .int .i64 n0, .int .i64 most] w (ManyR B f most l b w) := by
  obtain ⟨_, _, _, hf, hBf⟩ := fr_mark h
  have HN := Lib.hid (h.upd ((Upd.refl [] w).alloc (.cells #[.int .i64 n0] 3)) (by simp))
  clear h
  go_enter Tryz.func94, Tryz.ntmps94
  go_wp2_with fail
  refine (num_r' B f w.heap.size 0 3 (.int .i64 n0) [] [] l b _ HN.out (by omega) (by omega) rfl (Blk.new w _ _)).mono ?_
  rintro e w1 ⟨rfl, n, l', b', h1, h2, h3, h4⟩
  have c0 := h3.cell (o := 0) rfl
  obtain ⟨m2, m3, _, m5, _⟩ := fr_mark h1
  have HM := Lib.hid (fr_set h1 true)
  have HU : Hid (Upd [f] w w1) := Lib.hid (((Upd.refl [f] w).alloc _).trans h2 (by intro x hx; simp at hx; rcases hx with rfl | rfl; simp; right; exact Nat.le_refl _))
  have H1 := Lib.hid h1
  have H4 := Lib.hid h4
  clear h1 h2 h3 h4
  by_cases hn : 0 ≤ n ∧ n ≤ most
  · obtain ⟨k, rfl⟩ := Int.eq_ofNat_of_zero_le hn.1
    have t1 : decide ((k : Int) < 0) = false := by rw [decide_eq_false_iff_not]; omega
    have t2 : decide (most < k) = false := by simp; omega
    have HF : Hid (ManyR B f most l b w (.returned (.int .i64 k)) w1) := Lib.hid ⟨k, l', b', rfl, by omega, H1.out, HU.out, ⟨fun e => ⟨(H4.out.good e).1, by simp only [mget, (H4.out.good e).2]; rw [if_pos hn]; simp⟩, fun e => (H4.out.bad e).imp id fun h => by simp only [mget, h]⟩⟩
    clear hn
    go_wp2_with fail
    go_ret
    exact HF.out
  · have HF : Hid (ManyR B f most l b w (.returned (.int .i64 0)) (w1.setCell ⟨f, 2, none⟩ (.bool true))) := Lib.hid ⟨0, l', true, rfl, by omega, HM.out.1, HU.out.trans HM.out.2 (by simp), ⟨fun e => (by cases e), fun _ => by
      cases b' with
      | true => exact (H4.out.bad rfl).imp id fun h => by simp only [mget, h]
      | false => right; simp only [mget, (H4.out.good rfl).2]; rw [if_neg hn]⟩⟩
    have t : (decide (n < 0) = true) ∨ (decide (n < 0) = false ∧ decide ((most : Int) < n) = true) := by
      by_cases h0 : n < 0
      · left; simpa using h0
      · right; exact ⟨by simpa using h0, by simp; omega⟩
    clear hn
    rcases t with t | ⟨t, t2⟩
    all_goals
      go_wp2_with fail
      go_ret
      exact HF.out
end Go.Proofs.YthclnpigplcckaaGreat
/- codec's form.nums, writing and reading: numbers one behind the other in a record. -/
namespace Go.Proofs.YthclnpigplcckaaGreat
open Go.RowKit Go.Lb Go.Rc

def iv (n : Int) : Value := .int .i64 n
def NumsW (B : Nat) (X : List Nat) (f : Nat) (ns : List Int) (o : List Nat) (b : Bool) (w : World) (e : Ending) (w' : World) : Prop :=
  e = .returned (.tuple #[]) ∧ ∃ o' b', Fw B X w' f o' b' ∧ Kp B X w w' ∧ WSeq (nums ns) o b o' b'
theorem wsum_nums (ns : List Int) : wsum (nums ns) = 6 * ns.length := by
  induction ns with
  | nil => rfl
  | cons n ns ih => simp only [nums, wsum, List.map_cons, List.sum_cons, Sch.wmax, List.length_cons] at ih ⊢; omega

set_option maxRecDepth 20000 in
set_option maxHeartbeats 1000000 in
theorem nums_w (B : Nat) (X : List Nat) (f ab p q k : Nat) (ns : List Int) (tp : TypeId) (pre post : List Value) (o : List Nat) (b : Bool) (w : World) (h : Fw B X w f o b) (hk : ns.length = k) (ha : ab ∈ X) (hX : p ∈ X) (hq : q = pre.length)
    (hpt : ∀ i, i < k → w.cell? ⟨ab, i, none⟩ = some (.pointer (some ⟨p, q + i, none⟩))) (hp : Blk w p tp (pre ++ ns.map iv ++ post)) (hl : o.length + 6 * k ≤ 1099511627776) :
    Calls Tryz.prog 49 #[.pointer (some ⟨f, 0, none⟩), .slice (some ⟨ab, 0, none⟩) k k] w (NumsW B X f ns o b w) := by
  subst hk hq
  have H := Lib.hid h
  have HX := Lib.hid hX
  have HA := Lib.hid ha
  have HP := Lib.hid hp
  have HPT := Lib.hid hpt
  have hal := h.1 ab ha
  clear h hX ha hp hpt
  go_enter Tryz.func49, Tryz.ntmps49
  go_wp2_with fail
  go_loopg [5, 8] ns.length (fun g s t wr => ∃ (i : Nat) (o' : List Nat) (b' : Bool), t = .int .i64 i ∧ ns.length - i = g ∧ i ≤ ns.length ∧ Fw B X wr f o' b' ∧ Kp B X w wr ∧ WSeq (nums (ns.take i)) o b o' b')
  case atStart => exact ⟨0, o, b, rfl, rfl, by omega, H.out, Kp.refl _ _ _, rfl, rfl⟩
  case round =>
    obtain ⟨i, o', b', rfl, hg, hi, hF, hK, hW⟩ := hrel
    have HG := Lib.hid hg
    have HF := Lib.hid hF
    have HK := Lib.hid hK
    have HW := Lib.hid hW
    clear hg hF hK hW
    by_cases hlt : i < ns.length
    · have t1 : decide (i < ns.length) = true := by simpa using hlt
      have c1 := (HK.out.cell (o := i) hal (.inr HA.out)).trans (HPT.out i hlt)
      obtain ⟨n, hn⟩ : ∃ n, ns[i]? = some n := ⟨_, List.getElem?_eq_getElem hlt⟩
      have HN := Lib.hid hn
      have hc : wr.cell? ⟨p, pre.length + i, none⟩ = some (.int .i64 n) := (HK.out.blk HP.out (.inr HX.out)).cell (by
        rw [List.append_assoc, List.getElem?_append_right (by omega), Nat.add_sub_cancel_left, List.getElem?_append_left (by simpa using hlt), List.getElem?_map, hn]; rfl)
      have HC := Lib.hid hc
      have hwl := HW.out.len
      rw [wsum_nums, List.length_take] at hwl
      have hol : o'.length + 6 ≤ 1099511627776 := by omega
      clear hn hc hwl
      go_wp2_with fail
      refine (num_w B X f p _ n o' b' _ HF.out HC.out hol).mono ?_
      rintro e w1 ⟨rfl, o2, b2, h1, h2, h3⟩
      have H1 := Lib.hid h1
      have H2 := Lib.hid h2
      have H3 := Lib.hid h3
      clear h1 h2 h3
      go_wp2_with fail
      go_roundg (ns.length - (i + 1))
      case measure => have := HG.out; omega
      case rel => exact ⟨i + 1, o2, b2, by go_num, rfl, by omega, H1.out, HK.out.trans H2.out, by
        rw [take_snoc HN.out]
        simp only [nums, List.map_append, List.map_cons, List.map_nil]
        exact WSeq.snoc HW.out H3.out⟩
    · obtain rfl : i = ns.length := by omega
      go_wp2_with fail
      go_end0
      refine ⟨rfl, o', b', HF.out, HK.out, ?_⟩
      have := HW.out
      rwa [List.take_length] at this

def NumsR (B f p k : Nat) (tp : TypeId) (pre post : List Value) (l : List Nat) (b : Bool) (w : World) (e : Ending) (w' : World) : Prop :=
  e = .returned (.tuple #[]) ∧ ∃ (ns : List Int) (l' : List Nat) (b' : Bool), ns.length = k ∧ Fr B w' f l' b' ∧ Upd [f, p] w w' ∧ Blk w' p tp (pre ++ ns.map iv ++ post) ∧ RSeq (nums ns) l b l' b'

set_option maxRecDepth 20000 in
set_option maxHeartbeats 1000000 in
theorem nums_r (B f ab p q k : Nat) (us : List Value) (tp : TypeId) (pre post : List Value) (l : List Nat) (b : Bool) (w : World) (h : Fr B w f l b) (hk : us.length = k) (hB : B ≤ p) (hpf : p ≠ f) (haf : ab ≠ f) (hap : ab ≠ p) (hal : ab < w.heap.size) (hq : q = pre.length)
    (hpt : ∀ i, i < k → w.cell? ⟨ab, i, none⟩ = some (.pointer (some ⟨p, q + i, none⟩))) (hp : Blk w p tp (pre ++ us ++ post)) (hkl : k ≤ 100) :
    Calls Tryz.prog 49 #[.pointer (some ⟨f, 0, none⟩), .slice (some ⟨ab, 0, none⟩) k k] w (NumsR B f p k tp pre post l b w) := by
  subst hk hq
  have H := Lib.hid h
  have HP := Lib.hid hp
  have HPT := Lib.hid hpt
  clear h hp hpt
  go_enter Tryz.func49, Tryz.ntmps49
  go_wp2_with fail
  go_loopg [5, 8] us.length (fun g s t wr => ∃ (i : Nat) (ns : List Int) (l' : List Nat) (b' : Bool), t = .int .i64 i ∧ us.length - i = g ∧ i ≤ us.length ∧ ns.length = i ∧ Fr B wr f l' b' ∧ Upd [f, p] w wr ∧ Blk wr p tp (pre ++ ns.map iv ++ (us.drop i ++ post)) ∧ RSeq (nums ns) l b l' b')
  case atStart => exact ⟨0, [], l, b, rfl, rfl, by omega, rfl, H.out, Upd.refl _ _, by simpa using HP.out, rfl, rfl⟩
  case round =>
    obtain ⟨i, ns, l', b', rfl, hg, hi, hns, hF, hK, hbk, hW⟩ := hrel
    have HG := Lib.hid hg
    have HF := Lib.hid hF
    have HK := Lib.hid hK
    have HW := Lib.hid hW
    have HNS := Lib.hid hns
    have HBK := Lib.hid hbk
    clear hg hF hK hW hns hbk
    by_cases hlt : i < us.length
    · have t1 : decide (i < us.length) = true := by simpa using hlt
      have c1 := (HK.out.cell (a := ⟨ab, i, none⟩) hal (by simp; exact ⟨haf, hap⟩)).trans (HPT.out i hlt)
      have hb2 : Blk wr p tp ((pre ++ ns.map iv) ++ [us[i]] ++ (us.drop (i + 1) ++ post)) := by
        have e : (pre ++ ns.map iv) ++ [us[i]] ++ (us.drop (i + 1) ++ post) = pre ++ ns.map iv ++ (us.drop i ++ post) := by
          rw [List.drop_eq_getElem_cons hlt]
          simp only [List.append_assoc, List.cons_append, List.nil_append]
        rw [e]; exact HBK.out
      have HB2 := Lib.hid hb2
      clear hb2
      go_wp2_with fail
      refine (num_r' B f p _ tp _ (pre ++ ns.map iv) (us.drop (i + 1) ++ post) l' b' _ HF.out hB hpf (by simp [HNS.out]) HB2.out).mono ?_
      rintro e w1 ⟨rfl, n, l2, b2, h1, h2, h3, h4⟩
      have H1 := Lib.hid h1
      have H2 := Lib.hid h2
      have H3 := Lib.hid h3
      have H4 := Lib.hid h4
      clear h1 h2 h3 h4
      go_wp2_with fail
      go_roundg (us.length - (i + 1))
      case measure => have := HG.out; omega
      case rel => exact ⟨i + 1, ns ++ [n], l2, b2, by go_num, rfl, by omega, by simp [HNS.out], H1.out, HK.out.trans H2.out (by simp), by simpa [iv] using H3.out, by
        simp only [nums, List.map_append, List.map_cons, List.map_nil]
        exact RSeq.snoc HW.out (Sch.Rd.num H4.out)⟩
    · obtain rfl : i = us.length := by omega
      go_wp2_with fail
      go_end0
      exact ⟨rfl, ns, l', b', HNS.out, HF.out, HK.out, by simpa using HBK.out, HW.out⟩
end Go.Proofs.YthclnpigplcckaaGreat
/- A record's fields, one behind the other: where a writing or a reading stands. -/
namespace Go.Rc
open Go Go.RowKit Go.Lb
/-- How many cells fields have. -/
def fsize : List (Sch × Val) → Nat
  | [] => 0
  | x :: l => x.1.size + fsize l
theorem fsize_append : ∀ l m : List (Sch × Val), fsize (l ++ m) = fsize l + fsize m
  | [], m => by simp [fsize]
  | x :: l, m => by simp [fsize, fsize_append l m]; omega
theorem fsize_nums (ns : List Int) : fsize (nums ns) = ns.length := by
  induction ns with
  | nil => rfl
  | cons n ns ih => simp only [nums, List.map_cons, fsize, List.length_cons, Sch.size] at ih ⊢; omega
/-- Cells that read as fields. -/
def RepSeq (w : World) (ok : Nat → Prop) (l : List (Sch × Val)) (cs : List Value) : Prop := (tup (l.map (·.1))).Rep w ok cs (vtup (l.map (·.2)))
section
variable {w w' : World} {ok ok' : Nat → Prop} {l m : List (Sch × Val)} {cs c : List Value} {s : Sch} {v : Val}
theorem RepSeq.nil : RepSeq w ok [] [] := ⟨rfl, rfl⟩
theorem RepSeq.open (h : RepSeq w ok ((s, v) :: l) cs) : ∃ c r, cs = c ++ r ∧ s.Rep w ok c v ∧ RepSeq w ok l r := by
  obtain ⟨c1, c2, x, y, h1, h2, h3, h4⟩ := h
  simp only [List.map_cons, vtup, Val.pair.injEq] at h2
  obtain ⟨rfl, rfl⟩ := h2
  exact ⟨c1, c2, h1, h3, h4⟩
theorem RepSeq.cons {r : List Value} (h : s.Rep w ok c v) (k : RepSeq w ok l r) : RepSeq w ok ((s, v) :: l) (c ++ r) := ⟨_, _, _, _, rfl, rfl, h, k⟩
theorem RepSeq.append : ∀ {l : List (Sch × Val)} {cs : List Value}, RepSeq w ok l cs → RepSeq w ok m c → RepSeq w ok (l ++ m) (cs ++ c)
  | [], cs, h, k => by obtain ⟨rfl, _⟩ := h; exact k
  | (s, v) :: l, cs, h, k => by
    obtain ⟨c1, r, rfl, h1, h2⟩ := h.open
    rw [List.append_assoc]
    exact RepSeq.cons h1 (RepSeq.append h2 k)
theorem RepSeq.snoc (h : RepSeq w ok l cs) (k : s.Rep w ok c v) : RepSeq w ok (l ++ [(s, v)]) (cs ++ c) := by
  have h2 : RepSeq w ok [(s, v)] c := by
    have := RepSeq.cons (l := []) k RepSeq.nil
    rwa [List.append_nil] at this
  exact h.append h2
theorem RepSeq.len : ∀ {l : List (Sch × Val)} {cs : List Value}, RepSeq w ok l cs → cs.length = fsize l
  | [], cs, h => by obtain ⟨rfl, _⟩ := h; rfl
  | (s, v) :: l, cs, h => by
    obtain ⟨c1, r, rfl, h1, h2⟩ := h.open
    rw [List.length_append, h1.len, RepSeq.len h2, fsize]
theorem RepSeq.keep (hk : ∀ b, ok b → b < w.heap.size → ok' b ∧ w'.heap[b]? = w.heap[b]?) (hs : w.heap.size ≤ w'.heap.size) (h : RepSeq w ok l cs) : RepSeq w' ok' l cs := Sch.Rep.keep hk hs h
theorem RepSeq.opn : ∀ {ns : List Int} {r : List Value}, RepSeq w ok (nums ns ++ l) r → ∃ r', r = ns.map (fun n => Value.int .i64 n) ++ r' ∧ RepSeq w ok l r'
  | [], r, h => ⟨r, rfl, h⟩
  | n :: ns, r, h => by
    obtain ⟨c1, r1, rfl, ⟨k, rfl, hk⟩, h2⟩ := RepSeq.open (l := nums ns ++ l) h
    cases hk
    obtain ⟨r', rfl, h3⟩ := RepSeq.opn (ns := ns) h2
    exact ⟨r', rfl, h3⟩
theorem repseq_nums (ns : List Int) : RepSeq w ok (Rc.nums ns) (ns.map fun n => Value.int .i64 n) := by
  induction ns with
  | nil => exact RepSeq.nil
  | cons n ns ih => exact RepSeq.cons (c := [_]) (Sch.Rep.num_mk n) ih
end
theorem wsum_cons (x : Sch × Val) (l : List (Sch × Val)) : wsum (x :: l) = x.1.wmax x.2 + wsum l := by simp [wsum]
theorem wsum_append (l m : List (Sch × Val)) : wsum (l ++ m) = wsum l + wsum m := by simp [wsum]
theorem tup_wmax : ∀ l : List (Sch × Val), (tup (l.map (·.1))).wmax (vtup (l.map (·.2))) = wsum l
  | [] => rfl
  | x :: l => by rw [wsum_cons, ← tup_wmax l]; rfl

/-- Where a writing stands: done is written, rest stands in block p behind. -/
structure WrSt (T U : TypeId) (mk : Value → Bool → List Value) (B : Nat) (X : List Nat) (f p : Nat) (tp : TypeId) (q0 : Nat) (w wc : World) (o : List Nat) (b : Bool) (oc : List Nat) (bc : Bool) (done rest : List (Sch × Val)) : Prop where
  fw : St T U mk B X wc f oc bc
  kp : Kp B X w wc
  seq : WSeq done o b oc bc
  mem : p ∈ X
  blk : ∃ pre cr post, Blk wc p tp (pre ++ cr ++ post) ∧ pre.length = q0 + fsize done ∧ RepSeq wc (· < B) rest cr
  len : oc.length + wsum rest ≤ 1099511627776
section
variable {T U tp : TypeId} {mk : Value → Bool → List Value} {B f p q0 : Nat} {X : List Nat} {w wc w' : World} {o oc o' : List Nat} {b bc b' : Bool} {done rest m : List (Sch × Val)}
theorem WrSt.start {pre cs post : List Value} (h : St T U mk B X w f o b) (hp : p ∈ X) (hb : Blk w p tp (pre ++ cs ++ post)) (hr : RepSeq w (· < B) rest cs) (hl : o.length + wsum rest ≤ 1099511627776) : WrSt T U mk B X f p tp pre.length w w o b o b [] rest :=
  ⟨h, Kp.refl _ _ _, ⟨rfl, rfl⟩, hp, ⟨pre, cs, post, hb, rfl, hr⟩, hl⟩
theorem WrSt.upd (h : WrSt T U mk B X f p tp q0 w wc o b oc bc done rest) (u : Upd [] wc w') : WrSt T U mk B X f p tp q0 w w' o b oc bc done rest := by
  obtain ⟨pre, cr, post, h1, h2, h3⟩ := h.blk
  exact ⟨h.fw.same u, h.kp.trans (Kp.of_nil u), h.seq, h.mem, ⟨pre, cr, post, u.blk h1 (by simp), h2, h3.upd u (by simp)⟩, h.len⟩
/-- What comes next is written. -/
theorem WrSt.next (h : WrSt T U mk B X f p tp q0 w wc o b oc bc done (m ++ rest)) (h1 : St T U mk B X w' f o' b') (h2 : Kp B X wc w') (h3 : WSeq m oc bc o' b') : WrSt T U mk B X f p tp q0 w w' o b o' b' (done ++ m) rest := by
  obtain ⟨pre, cr, post, k1, k2, k3⟩ := h.blk
  have hm : ∃ c r, cr = c ++ r ∧ c.length = fsize m ∧ RepSeq wc (· < B) rest r := by
    clear k1 h h3
    induction m generalizing cr with
    | nil => exact ⟨[], cr, rfl, rfl, k3⟩
    | cons x m ih =>
      obtain ⟨c, r, rfl, j1, j2⟩ := RepSeq.open (s := x.1) (v := x.2) k3
      obtain ⟨c', r', rfl, j3, j4⟩ := ih r j2
      exact ⟨c ++ c', r', by simp, by simp [j1.len, j3, fsize], j4⟩
  obtain ⟨c, r, rfl, j1, j2⟩ := hm
  refine ⟨h1, h.kp.trans h2, h.seq.append h3, h.mem, ⟨pre ++ c, r, post, ?_, by rw [List.length_append, k2, j1, fsize_append]; omega, j2.keep (fun k hk hl => ⟨hk, h2.block k hl (.inl hk)⟩) h2.size⟩, ?_⟩
  · have := h2.blk k1 (.inr h.mem)
    simpa only [List.append_assoc] using this
  · have := h3.len
    have := h.len
    rw [wsum_append] at this
    omega
/-- What comes next, in memory. -/
theorem WrSt.range {s : Sch} {v : Val} (h : WrSt T U mk B X f p tp q0 w wc o b oc bc done ((s, v) :: rest)) : ∃ c, s.Rep wc (· < B) c v ∧ wc.rangeAt p (q0 + fsize done) c := by
  obtain ⟨pre, cr, post, k1, k2, k3⟩ := h.blk
  obtain ⟨c, r, rfl, j1, j2⟩ := k3.open
  refine ⟨c, j1, fun j u hu => ?_⟩
  have hj := (List.getElem?_eq_some_iff.1 hu).1
  refine k1.cell ?_
  rw [← k2, List.append_assoc, List.getElem?_append_right (by omega), Nat.add_sub_cancel_left, List.append_assoc, List.getElem?_append_left hj, hu]
theorem WrSt.isNum {v : Val} (h : WrSt T U mk B X f p tp q0 w wc o b oc bc done ((.num, v) :: rest)) : ∃ n, v = .num n := by
  obtain ⟨c, ⟨n, _, rfl⟩, _⟩ := h.range
  exact ⟨n, rfl⟩
end

/-- Where a reading stands: the fields fs are read into block p, the rest of its cells are nothing's. -/
structure RdSt (T : TypeId) (mk : Value → Bool → List Value) (B f p : Nat) (tp : TypeId) (pre post : List Value) (w wc : World) (l : List Nat) (b : Bool) (lc : List Nat) (bc : Bool) (fs : List (Sch × Val)) (rest : List Sch) : Prop where
  fr : Rs T mk B wc f lc bc
  upd : Upd [f, p] w wc
  blk : ∃ cs, Blk wc p tp (pre ++ cs ++ ((tup rest).zc ++ post)) ∧ RepSeq wc (Nw w.heap.size wc) fs cs
  seq : RSeq fs l b lc bc
  low : B ≤ p ∧ p ≠ f ∧ p < w.heap.size ∧ f < w.heap.size
section
variable {T tp : TypeId} {mk : Value → Bool → List Value} {B f p : Nat} {w wc w' : World} {l lc l' : List Nat} {b bc b' : Bool} {fs m : List (Sch × Val)} {rest : List Sch} {pre post : List Value}
theorem RdSt.start (h : Rs T mk B w f l b) (hB : B ≤ p) (hpf : p ≠ f) (hb : Blk w p tp (pre ++ (tup rest).zc ++ post)) (hf : f < w.heap.size) : RdSt T mk B f p tp pre post w w l b l b [] rest :=
  ⟨h, Upd.refl _ _, ⟨[], by simpa using hb, RepSeq.nil⟩, ⟨rfl, rfl⟩, hB, hpf, hb.lt, hf⟩
theorem RdSt.same (h : RdSt T mk B f p tp pre post w wc l b lc bc fs rest) (u : Upd [] wc w') : RdSt T mk B f p tp pre post w w' l b lc bc fs rest := by
  obtain ⟨cs, h1, h2⟩ := h.blk
  exact ⟨h.fr.upd u (by simp), h.upd.trans u (by simp), ⟨cs, u.blk h1 (by simp), h2.updN u (by simp)⟩, h.seq, h.low⟩
theorem RdSt.next {c : List Value} {rest1 : List Sch} {q : Nat} (h : RdSt T mk B f p tp pre post w wc l b lc bc fs (m.map (·.1) ++ rest)) {cs : List Value} (hcs : RepSeq wc (Nw w.heap.size wc) fs cs) (h1 : Rs T mk B w' f l' b') (h2 : Upd [f, p] wc w') (h3 : Blk w' p tp (pre ++ cs ++ c ++ ((tup rest).zc ++ post)))
    (h4 : RepSeq w' (Nw wc.heap.size w') m c) (h5 : RSeq m lc bc l' b') : RdSt T mk B f p tp pre post w w' l b l' b' (fs ++ m) rest := by
  refine ⟨h1, h.upd.trans h2 (by simp), ⟨cs ++ c, by simpa only [List.append_assoc] using h3, ?_⟩, h.seq.append h5, h.low⟩
  refine RepSeq.append (Sch.Rep.updN hcs h2 (fun k hk => ?_)) (h4.keep (fun k hk hl => ⟨hk.go h.upd.size rfl, rfl⟩) (Nat.le_refl _))
  have := h.low
  simp; omega
end
end Go.Rc
namespace Go.Proofs.YthclnpigplcckaaGreat
open Go.RowKit Go.Lb Go.Rc
section
variable {tp : TypeId} {B f p q0 q : Nat} {X : List Nat} {w wc wd : World} {o oc : List Nat} {b bc : Bool} {done rest : List (Sch × Val)}
abbrev CWr (B : Nat) (X : List Nat) (f p : Nat) (tp : TypeId) (q0 : Nat) (w wc : World) (o : List Nat) (b : Bool) (oc : List Nat) (bc : Bool) (done rest : List (Sch × Val)) : Prop := WrSt 108 5 cW B X f p tp q0 w wc o b oc bc done rest
abbrev OWr (B : Nat) (X : List Nat) (f p : Nat) (tp : TypeId) (q0 : Nat) (w wc : World) (o : List Nat) (b : Bool) (oc : List Nat) (bc : Bool) (done rest : List (Sch × Val)) : Prop := WrSt 131 5 oW B X f p tp q0 w wc o b oc bc done rest
abbrev CRd (B f p : Nat) (tp : TypeId) (pre post : List Value) (w wc : World) (l : List Nat) (b : Bool) (lc : List Nat) (bc : Bool) (fs : List (Sch × Val)) (rest : List Sch) : Prop := RdSt 108 cR B f p tp pre post w wc l b lc bc fs rest
/-- The next field is written. -/
theorem CWr.go {K : Nat} {s : Sch} {v : Val} (C : Writes K s) (h : CWr B X f p tp q0 w wc o b oc bc done ((s, v) :: rest)) (hq : q = q0 + fsize done) :
    Calls Tryz.prog K #[.pointer (some ⟨f, 0, none⟩), .pointer (some ⟨p, q, none⟩)] wc fun e w' => e = .returned (.tuple #[]) ∧ ∃ o' b', CWr B X f p tp q0 w w' o b o' b' (done ++ [(s, v)]) rest := by
  obtain ⟨pre, cr, post, k1, k2, k3⟩ := h.blk
  obtain ⟨c, r, rfl, j1, j2⟩ := k3.open
  have hl := h.len
  rw [wsum_cons] at hl
  refine (C B X f p q tp pre c (r ++ post) v oc bc wc h.fw h.mem (by omega) (by simpa only [List.append_assoc] using k1) j1 (by dsimp only at hl; omega)).mono fun e w' ⟨he, o', b', h1, h2, h3⟩ => ?_
  exact ⟨he, o', b', WrSt.next (m := [(s, v)]) h h1 h2 (WSeq.one h3)⟩
/-- The next numbers are written. -/
theorem CWr.goNums {ns : List Int} {ab k : Nat} {t : TypeId} {vs : List Value} (h : CWr B X f p tp q0 w wc o b oc bc done (nums ns ++ rest)) (hk : ns.length = k) (u : Upd [] wc wd) (ha : wc.heap.size ≤ ab) (hv : Blk wd ab t vs) (hvs : vs = (List.range k).map fun i => .pointer (some ⟨p, q0 + fsize done + i, none⟩)) :
    Calls Tryz.prog 49 #[.pointer (some ⟨f, 0, none⟩), .slice (some ⟨ab, 0, none⟩) k k] wd fun e w' => e = .returned (.tuple #[]) ∧ ∃ o' b', CWr B X f p tp q0 w w' o b o' b' (done ++ nums ns) rest := by
  have h' := h.upd u
  obtain ⟨pre, cr, post, k1, k2, k3⟩ := h'.blk
  obtain ⟨r, rfl, j2⟩ := k3.opn
  have hl := h.len
  rw [wsum_append, wsum_nums] at hl
  refine (nums_w B (ab :: X) f ab p (q0 + fsize done) k ns tp pre (r ++ post) oc bc wd (h.fw.new u ha hv.lt) hk (by simp) (by simp [h.mem]) (by omega) ?_ (by have e : ns.map iv = ns.map (fun n => Value.int .i64 n) := rfl; rw [e]; simpa only [List.append_assoc] using k1) (by omega)).mono ?_
  · intro i hi
    refine hv.cell ?_
    rw [hvs, List.getElem?_map, List.getElem?_range hi]; rfl
  · rintro e w' ⟨he, o', b', h1, h2, h3⟩
    exact ⟨he, o', b', h'.next h1.less h2.drop h3⟩
theorem CWr.fin {s : Sch} {v : Val} (h : CWr B X f p tp q0 w wc o b oc bc done []) (hs : s = tup (done.map (·.1))) (hv : v = vtup (done.map (·.2))) : WrPost s B X f v o b w (.returned (.tuple #[])) wc := by
  subst hs hv
  exact ⟨rfl, oc, bc, h.fw, h.kp, WSeq.tup h.seq⟩
end
section
variable {tp : TypeId} {B f p q : Nat} {w wc wd : World} {l lc : List Nat} {b bc : Bool} {fs : List (Sch × Val)} {rest : List Sch} {pre post : List Value}
/-- The next field is read. -/
theorem CRd.go {K : Nat} {s : Sch} (C : Reads K s) (h : CRd B f p tp pre post w wc l b lc bc fs (s :: rest)) (hq : q = pre.length + fsize fs) :
    Calls Tryz.prog K #[.pointer (some ⟨f, 0, none⟩), .pointer (some ⟨p, q, none⟩)] wc fun e w' => e = .returned (.tuple #[]) ∧ ∃ v l' b', CRd B f p tp pre post w w' l b l' b' (fs ++ [(s, v)]) rest := by
  obtain ⟨cs, k1, k2⟩ := h.blk
  have hz : pre ++ cs ++ ((tup (s :: rest)).zc ++ post) = (pre ++ cs) ++ s.zc ++ ((tup rest).zc ++ post) := by simp [tup, Sch.zc]
  rw [hz] at k1
  refine (C B f p q tp (pre ++ cs) ((tup rest).zc ++ post) lc bc wc h.fr h.low.1 h.low.2.1 (by rw [List.length_append, k2.len]; exact hq) k1).mono fun e w' ⟨he, v, c, l', b', h1, h2, h3, h4, h5⟩ => ?_
  refine ⟨he, v, l', b', RdSt.next (m := [(s, v)]) (rest1 := []) (q := 0) h k2 h1 h2 h3 ?_ (RSeq.one h5)⟩
  have := RepSeq.cons (l := []) h4 RepSeq.nil
  rwa [List.append_nil] at this
theorem num_zc : ∀ k, (tup (List.replicate k .num ++ rest)).zc = List.replicate k (.int .i64 0) ++ (tup rest).zc
  | 0 => rfl
  | k + 1 => by rw [List.replicate_succ, List.cons_append, tup, Sch.zc, num_zc k, List.replicate_succ]; rfl
theorem nums_fst (ns : List Int) : (nums ns).map (·.1) = List.replicate ns.length .num := by
  induction ns with
  | nil => rfl
  | cons n ns ih => simp only [nums, List.map_cons, List.length_cons, List.replicate_succ] at ih ⊢; rw [ih]
theorem CRd.goNums {ab k : Nat} {t : TypeId} {vs : List Value} (h : CRd B f p tp pre post w wc l b lc bc fs (List.replicate k .num ++ rest)) (u : Upd [] wc wd) (ha : wc.heap.size ≤ ab) (hv : Blk wd ab t vs) (hvs : vs = (List.range k).map fun i => .pointer (some ⟨p, pre.length + fsize fs + i, none⟩)) (hk : k ≤ 100) :
    Calls Tryz.prog 49 #[.pointer (some ⟨f, 0, none⟩), .slice (some ⟨ab, 0, none⟩) k k] wd fun e w' => e = .returned (.tuple #[]) ∧ ∃ ns l' b', ns.length = k ∧ CRd B f p tp pre post w w' l b l' b' (fs ++ nums ns) rest := by
  have h' := h.same u
  obtain ⟨cs, k1, k2⟩ := h'.blk
  rw [num_zc] at k1
  have hl := h.low
  have hsz := h.upd.size
  refine (nums_r B f ab p (pre.length + fsize fs) k (List.replicate k (.int .i64 0)) tp (pre ++ cs) ((tup rest).zc ++ post) lc bc wd h'.fr (by simp) hl.1 hl.2.1 (by omega) (by omega) hv.lt (by rw [List.length_append, k2.len]) ?_ (by simpa only [List.append_assoc] using k1) hk).mono ?_
  · intro i hi
    refine hv.cell ?_
    rw [hvs, List.getElem?_map, List.getElem?_range hi]; rfl
  · rintro e w' ⟨he, ns, l', b', hn, h1, h2, h3, h4⟩
    refine ⟨he, ns, l', b', hn, RdSt.next (m := nums ns) (rest1 := []) (q := 0) ?_ k2 h1 h2 h3 (repseq_nums ns) h4⟩
    rw [nums_fst, hn]; exact h'
theorem CRd.fin {s : Sch} (h : CRd B f p tp pre post w wc l b lc bc fs []) (hs : s = tup (fs.map (·.1))) : RdPost s B f p tp pre post l b w (.returned (.tuple #[])) wc := by
  subst hs
  obtain ⟨cs, k1, k2⟩ := h.blk
  exact ⟨rfl, vtup (fs.map fun x : Sch × Val => x.2), cs, lc, bc, h.fr, h.upd, by simpa [tup, Sch.zc] using k1, k2, RSeq.tup h.seq⟩
end
end Go.Proofs.YthclnpigplcckaaGreat
/- Lists in a record: what the walks of codec's list share. -/
namespace Go.Rc
open Go Go.RowKit Go.Lb
/-- The list so far. -/
abbrev LWk (s : Sch) (n : Nat) (l : List Val) (o : List Nat) (b : Bool) (o' : List Nat) (b' : Bool) : Prop :=
  WOk (n ≤ 64 ∧ ∀ x ∈ l, s.good x) (nput n ++ l.flatMap s.put) (6 + (l.map s.wmax).sum) o b o' b'
theorem sum_take (l : List Nat) (i : Nat) : (l.take i).sum ≤ l.sum := by
  have h : (l.take i ++ l.drop i).sum = l.sum := by rw [List.take_append_drop]
  rw [List.sum_append] at h
  omega
section
variable {s : Sch} {n : Nat} {l : List Val} {o o1 o2 : List Nat} {b b1 b2 : Bool} {x : Val}
theorem LWk.start (h : WOk (n ≤ 64) (nput n) 6 o b o1 b1) : LWk s n [] o b o1 b1 := h.cast (by simp) (by simp) (by simp)
theorem LWk.snoc (h : LWk s n l o b o1 b1) (k : s.Wr x o1 b1 o2 b2) : LWk s n (l ++ [x]) o b o2 b2 := by
  refine (WOk.seq h k).cast ?_ (fun _ => by simp) (by simp; omega)
  constructor
  · rintro ⟨⟨h1, h2⟩, h3⟩
    refine ⟨h1, fun y hy => ?_⟩
    rcases List.mem_append.1 hy with hy | hy
    · exact h2 y hy
    · simp at hy; subst hy; exact h3
  · rintro ⟨h1, h2⟩
    exact ⟨⟨h1, fun y hy => h2 y (by simp [hy])⟩, h2 x (by simp)⟩
theorem LWk.fin (h : LWk s l.length l o b o1 b1) : (Sch.list s).Wr (.list l) o b o1 b1 := h.cast Iff.rfl (fun _ => rfl) (Nat.le_refl _)
/-- Something was wrong already. -/
theorem LWk.early {i : Nat} (h : LWk s l.length (l.take i) o b o1 true) : (Sch.list s).Wr (.list l) o b o1 true := by
  refine ⟨⟨fun e => (by cases e), fun ⟨e1, e2⟩ => ?_⟩, fun e => (by cases e), ?_⟩
  · exact h.bad.2 ⟨e1, e2.1, fun x hx => e2.2 x (List.mem_of_mem_take hx)⟩
  · have h1 := h.len
    have h2 : ((l.take i).map s.wmax).sum ≤ (l.map s.wmax).sum := by rw [List.map_take]; exact sum_take _ _
    simp only [Sch.wmax]; omega
theorem LWk.room {i : Nat} (h : LWk s l.length (l.take i) o b o1 b1) (hx : l[i]? = some x) (hl : o.length + (Sch.list s).wmax (.list l) ≤ 1099511627776) : o1.length + s.wmax x ≤ 1099511627776 := by
  have h1 := h.len
  have h2 : ((l.take (i + 1)).map s.wmax).sum ≤ (l.map s.wmax).sum := by rw [List.map_take]; exact sum_take _ _
  rw [take_snoc hx] at h2
  simp only [Sch.wmax, List.map_append, List.sum_append, List.map_cons, List.map_nil, List.sum_cons, List.sum_nil] at hl h2
  omega
end
/-- Things that stand in a row that came in. -/
def Elems (w : World) (ok : Nat → Prop) (s : Sch) (k : Nat) (a : Option Addr) (l : List Val) : Prop := ∀ i x, l[i]? = some x → ∃ b o us, a = some ⟨b, o, none⟩ ∧ ok b ∧ b < w.heap.size ∧ w.rangeAt b (o + i * k) us ∧ s.Rep w ok us x
theorem Elems.keep {w w' : World} {ok ok' : Nat → Prop} (hk : ∀ b, ok b → b < w.heap.size → ok' b ∧ w'.heap[b]? = w.heap[b]?) (hs : w.heap.size ≤ w'.heap.size) {s : Sch} {k : Nat} {a : Option Addr} {l : List Val} (h : Elems w ok s k a l) : Elems w' ok' s k a l := fun i x hx => by
  obtain ⟨b, o, us, k1, k2, k3, k4, k5⟩ := h i x hx
  obtain ⟨m1, m2⟩ := hk b k2 k3
  exact ⟨b, o, us, k1, m1, by omega, rangeAt_keep k4 m2, k5.keep hk hs⟩
theorem run_buildSlice1 {P : Program} (w : World) (t e : TypeId) (ie : TypeInfo) (z : Value) (us : List Value) (n : Nat) (hu : P.underlying t = some (.slice e)) (hie : P.info? e = some ie) (hz : ie.zero = some z) (hs : ie.size = n) (hn : us.length = n) (h0 : 0 < n) (h9 : n ≤ 10000) :
    (Instr.buildSlice t 1 #[(0, .agg us.toArray)]).run P w = .ok (.slice (some ⟨w.heap.size, 0, none⟩) 1 1) (w.alloc (.cells us.toArray e)) := by
  subst hs
  refine Go.run_buildSlice w t e 1 _ us.toArray ie z hu hie hz (by omega) (by omega) ?_
  have := Go.Great.fill_whole h0 [.agg us.toArray] ((Array.range (1 * ie.size)).map (z.cells[· % z.cells.size]!)) (by simp [Value.cells, hn]) (by simp)
  simpa [Value.cells] using this
theorem own_lo {w : World} {base n sz : Nat} {e : TypeId} {v : Value} {xs : List Value} (h : w.ownsRow base e sz v n xs) {g : Nat} (hg : v.ownBlock = some g) : base ≤ g ∧ g < w.heap.size := by
  rcases h.2 with ⟨rfl, _⟩ | ⟨g', cap, cur, rfl, hb, h1, _⟩
  · simp [Value.ownBlock] at hg
  · simp [Value.ownBlock] at hg
    subst hg
    exact ⟨hb, lt_of_block h1⟩
theorem own_shape' {w : World} {base n sz : Nat} {e : TypeId} {v : Value} {xs : List Value} (h : w.ownsRow base e sz v n xs) : ∃ a c, v = .slice a n c := by
  rcases h.2 with ⟨rfl, rfl⟩ | ⟨g, cap, cur, rfl, _⟩
  · exact ⟨none, 0, rfl⟩
  · exact ⟨_, _, rfl⟩
theorem own_is {w : World} {base n sz : Nat} {e : TypeId} {v : Value} {xs : List Value} (h : w.ownsRow base e sz v n xs) : (v = .slice none 0 0 ∧ n = 0) ∨ ∃ g c, v = .slice (some ⟨g, 0, none⟩) n c ∧ base ≤ g ∧ g < w.heap.size ∧ n ≤ c ∧ c ≤ maxLen := by
  rcases h.2 with ⟨rfl, rfl⟩ | ⟨g', cap, cur, rfl, hb, h1, h2, h3, _⟩
  · exact .inl ⟨rfl, rfl⟩
  · exact .inr ⟨_, _, rfl, hb, lt_of_block h1, h2, h3⟩

/-- How many there are of something. -/
def lget (most : Nat) (l : List Nat) : Option (Nat × List Nat) := match nget l with
  | none => none
  | some (n, r) => if 0 ≤ n ∧ n ≤ most then some (n.toNat, r) else none
theorem list_get (s : Sch) (l : List Nat) : (Sch.list s).get l = match lget 64 l with
    | none => none
    | some (k, r) => match many s.get k r with
      | none => none
      | some (xs, r2) => some (.list xs, r2) := by
  unfold lget
  simp only [Sch.get]
  cases nget l with
  | none => rfl
  | some p =>
    obtain ⟨n, r⟩ := p
    dsimp only
    by_cases h : 0 ≤ n ∧ n ≤ 64
    · rw [if_pos h, if_pos (by omega)]
      rfl
    · rw [if_neg h, if_neg (by omega)]
/-- Where the reading of a list stands: i things of k are read, their cells stand in the row v. -/
structure LRdSt (s : Sch) (T : TypeId) (mk : Value → Bool → List Value) (F : List Nat) (B f : Nat) (el : TypeId) (sz : Nat) (w wc : World) (k : Nat) (l : List Nat) (b : Bool) (i : Nat) (lc : List Nat) (bc : Bool) (v : Value) (xss : List (List Value)) (xs : List Val) : Prop where
  fr : Rs T mk B wc f lc bc
  upd : Upd F w wc
  row : wc.ownsRow w.heap.size el sz v i xss.flatten
  wid : ∀ x ∈ xss, x.length = sz
  cnt : xss.length = i ∧ xs.length = i
  rep : ∀ (j : Nat) (us : List Value) (x : Val), xss[j]? = some us → xs[j]? = some x → s.Rep wc (fun b => Nw w.heap.size wc b ∧ v.ownBlock ≠ some b) us x
  good : bc = false → b = false ∧ ∃ r, lget 64 l = some (k, r) ∧ many s.get i r = some (xs, lc)
  bad : bc = true → b = true ∨ (Sch.list s).get l = none
  low : ∀ x ∈ F, x < w.heap.size
section
variable {s : Sch} {T el : TypeId} {mk : Value → Bool → List Value} {F : List Nat} {B f sz k i : Nat} {w wc w2 w3 w4 : World} {l lc l2 : List Nat} {b bc b2 : Bool} {v v' : Value} {xss : List (List Value)} {xs : List Val} {us : List Value} {x : Val}
theorem LRdSt.start (h : Rs T mk B wc f lc bc) (u : Upd F w wc) (hF : ∀ x ∈ F, x < w.heap.size) (hr : ROk (lget 64) l b k lc bc) : LRdSt s T mk F B f el sz w wc k l b 0 lc bc (.slice none 0 0) [] [] :=
  ⟨h, u, ⟨by simp, .inl ⟨rfl, rfl⟩⟩, by simp, ⟨rfl, rfl⟩, fun j us x hj => by simp at hj, fun e => ⟨(hr.good e).1, lc, (hr.good e).2, rfl⟩, fun e => (hr.bad e).imp id fun h => by rw [list_get, h], hF⟩
theorem LRdSt.upd' (h : LRdSt s T mk F B f el sz w wc k l b i lc bc v xss xs) (u : Upd [] wc w2) : LRdSt s T mk F B f el sz w w2 k l b i lc bc v xss xs :=
  ⟨h.fr.upd u (by simp), h.upd.trans u (by simp), u.row h.row (by simp), h.wid, h.cnt, fun j us x h1 h2 => (h.rep j us x h1 h2).keep (fun k hk hl => ⟨⟨hk.1.go (Nat.le_refl _) (u.block k hl (by simp)), hk.2⟩, u.block k hl (by simp)⟩) u.size, h.good, h.bad, h.low⟩
theorem LRdSt.next (h : LRdSt s T mk F B f el sz w wc k l b i lc bc v xss xs) (hik : i < k) (hU : Upd F wc w2) (hr : s.Rep w2 (Nw wc.heap.size w2) us x) (hus : us.length = sz) (hd : s.Rd lc bc x l2 b2)
    (hg : w2.grownBy w3 v.ownBlock) (hown : w3.ownsRow w.heap.size el sz v' (i + 1) (xss.flatten ++ us)) (hv : v'.ownBlock = v.ownBlock ∨ v'.ownBlock = some w2.heap.size) (u4 : Upd F w3 w4) (h1 : Rs T mk B w4 f l2 b2) :
    LRdSt s T mk F B f el sz w w4 k l b (i + 1) l2 b2 v' (xss ++ [us]) (xs ++ [x]) := by
  have hsz := h.upd.size
  have hsz2 := hU.size
  have hsz3 := hg.size
  have hob : ∀ g, v.ownBlock = some g → w.heap.size ≤ g ∧ g < wc.heap.size := fun g hg => own_lo h.row hg
  have hFn : ∀ g, w.heap.size ≤ g → g ∉ F := fun g h1 h2 => by have := h.low g h2; omega
  have step : ∀ j, j < w2.heap.size → w.heap.size ≤ j → v.ownBlock ≠ some j → w4.heap[j]? = w2.heap[j]? := fun j hj hw hne =>
    (u4.block j (Nat.lt_of_lt_of_le hj hsz3) (hFn j hw)).trans (hg.block j hj (fun e => hne e.symm))
  have hne' : ∀ j, j < w2.heap.size → v.ownBlock ≠ some j → v'.ownBlock ≠ some j := fun j hj hne => by
    rcases hv with h2 | h2 <;> rw [h2]
    · exact hne
    · intro e; simp at e; omega
  refine ⟨h1, ?_, ?_, ?_, ?_, ?_, ?_, ?_, h.low⟩
  · exact ((h.upd.trans hU (fun x hx => .inl hx)).grown hg (fun g hg => .inr (hob g hg).1)).trans u4 (fun x hx => .inl hx)
  · rw [List.flatten_append, List.flatten_singleton]
    exact u4.row hown (fun g hg => hFn g (own_lo hown hg).1)
  · intro y hy
    rcases List.mem_append.1 hy with hy | hy
    · exact h.wid y hy
    · simp at hy; subst hy; exact hus
  · simp [h.cnt.1, h.cnt.2]
  · intro j us' x' hj hx
    by_cases hji : j < i
    · rw [List.getElem?_append_left (by rw [h.cnt.1]; exact hji)] at hj
      rw [List.getElem?_append_left (by rw [h.cnt.2]; exact hji)] at hx
      refine (h.rep j us' x' hj hx).keep (fun k hk hl => ?_) (by have := u4.size; omega)
      have e := (step k (by omega) hk.1.1 hk.2).trans (hU.block k hl (hFn k hk.1.1))
      exact ⟨⟨hk.1.go (Nat.le_refl _) e, hne' k (by omega) hk.2⟩, e⟩
    · have hji2 : j = i := by
        have := (List.getElem?_eq_some_iff.1 hj).1
        rw [List.length_append, h.cnt.1] at this
        simp at this; omega
      subst hji2
      rw [List.getElem?_append_right (by rw [h.cnt.1]; exact Nat.le_refl _), h.cnt.1, Nat.sub_self] at hj
      rw [List.getElem?_append_right (by rw [h.cnt.2]; exact Nat.le_refl _), h.cnt.2, Nat.sub_self] at hx
      simp at hj hx
      subst hj hx
      refine hr.keep (fun k hk hl => ?_) (by have := u4.size; omega)
      have hk1 := hk.1
      have hne : v.ownBlock ≠ some k := fun e => by have := hob k e; omega
      have e := step k hl (by omega) hne
      exact ⟨⟨hk.go (by omega) e, hne' k hl hne⟩, e⟩
  · intro e
    obtain ⟨e0, hget⟩ := hd.good e
    obtain ⟨e1, r, e2, e3⟩ := h.good e0
    refine ⟨e1, r, e2, ?_⟩
    rw [many_snoc s.get i r xs lc e3, hget]
  · intro e
    cases bc with
    | true => exact h.bad rfl
    | false =>
      obtain ⟨e1, r, e2, e3⟩ := h.good rfl
      right
      rcases hd.bad e with h2 | h2
      · cases h2
      · have hm : many s.get (i + 1) r = none := by rw [many_snoc s.get i r xs lc e3, h2]
        rw [list_get, e2]
        dsimp only
        rw [many_fail s.get (i + 1) k r hm (by omega)]
theorem LRdSt.rd (h : LRdSt s T mk F B f el sz w wc k l b i lc bc v xss xs) (hi : bc = true ∨ i = k) : (Sch.list s).Rd l b (.list xs) lc bc := by
  refine ⟨fun e => ?_, h.bad⟩
  rcases hi with h1 | rfl
  · rw [h1] at e; cases e
  · obtain ⟨e1, r, e2, e3⟩ := h.good e
    refine ⟨e1, ?_⟩
    rw [list_get, e2]
    dsimp only
    rw [e3]
theorem LRdSt.isRep (h : LRdSt s T mk F B f el s.size w wc k l b i lc bc v xss xs) : (Sch.list s).Rep wc (Nw w.heap.size wc) [v] (.list xs) := by
  have hc := h.cnt
  rcases own_is h.row with ⟨rfl, h0⟩ | ⟨g, c, rfl, hg, hgl, hic, _⟩
  · have hx : xs = [] := List.eq_nil_of_length_eq_zero (by omega)
    subst hx
    exact ⟨none, 0, [], rfl, rfl, fun i x h => by simp at h⟩
  · refine ⟨_, c, xs, by rw [hc.2], rfl, fun j x hx => ?_⟩
    have hj := (List.getElem?_eq_some_iff.1 hx).1
    have hus : xss[j]? = some xss[j] := List.getElem?_eq_getElem (by omega)
    refine ⟨g, 0, xss[j], rfl, ⟨hg, own_soft h.row rfl⟩, hgl, ?_, (h.rep j _ x hus hx).mono (fun b hb _ => hb.1)⟩
    rw [Nat.zero_add]
    exact row_range h.row h.wid hus
end
end Go.Rc
namespace Go.Proofs.YthclnpigplcckaaGreat
open Go.RowKit Go.Lb Go.Rc
/-- Function L writes lists, of which function K writes each. -/
def LWrites (L K : Nat) (s : Sch) : Prop := ∀ (B : Nat) (X : List Nat) (f p q : Nat) (tp : TypeId) (pre cs post : List Value) (v : Val) (o : List Nat) (b : Bool) (w : World), Fw B X w f o b → p ∈ X → q = pre.length → Blk w p tp (pre ++ cs ++ post) → (Sch.list s).Rep w (· < B) cs v → o.length + (Sch.list s).wmax v ≤ 1099511627776 →
  Calls Tryz.prog L #[.pointer (some ⟨f, 0, none⟩), .pointer (some ⟨p, q, none⟩), .func (.func K) #[.pointer (some ⟨f, 0, none⟩)] #[]] w (WrPost (.list s) B X f v o b w)
def LReads (L K : Nat) (s : Sch) : Prop := ∀ (B f p q : Nat) (tp : TypeId) (pre post : List Value) (l : List Nat) (b : Bool) (w : World), Fr B w f l b → B ≤ p → p ≠ f → q = pre.length → Blk w p tp (pre ++ [.slice none 0 0] ++ post) →
  Calls Tryz.prog L #[.pointer (some ⟨f, 0, none⟩), .pointer (some ⟨p, q, none⟩), .func (.func K) #[.pointer (some ⟨f, 0, none⟩)] #[]] w (RdPost (.list s) B f p tp pre post l b w)
section
variable {tp : TypeId} {B f p q0 q : Nat} {X : List Nat} {w wc wd : World} {o oc : List Nat} {b bc : Bool} {done rest : List (Sch × Val)}
theorem CWr.goList {L K : Nat} {s : Sch} {v : Val} (C : LWrites L K s) (h : CWr B X f p tp q0 w wc o b oc bc done ((.list s, v) :: rest)) (hq : q = q0 + fsize done) :
    Calls Tryz.prog L #[.pointer (some ⟨f, 0, none⟩), .pointer (some ⟨p, q, none⟩), .func (.func K) #[.pointer (some ⟨f, 0, none⟩)] #[]] wc fun e w' => e = .returned (.tuple #[]) ∧ ∃ o' b', CWr B X f p tp q0 w w' o b o' b' (done ++ [(.list s, v)]) rest := by
  obtain ⟨pre, cr, post, k1, k2, k3⟩ := h.blk
  obtain ⟨c, r, rfl, j1, j2⟩ := k3.open
  have hl := h.len
  rw [wsum_cons] at hl
  refine (C B X f p q tp pre c (r ++ post) v oc bc wc h.fw h.mem (by omega) (by simpa only [List.append_assoc] using k1) j1 (by dsimp only at hl; omega)).mono fun e w' ⟨he, o', b', h1, h2, h3⟩ => ?_
  exact ⟨he, o', b', WrSt.next (m := [(.list s, v)]) h h1 h2 (WSeq.one h3)⟩
end
section
variable {tp : TypeId} {B f p q : Nat} {w wc wd : World} {l lc : List Nat} {b bc : Bool} {fs : List (Sch × Val)} {rest : List Sch} {pre post : List Value}
theorem CRd.goList {L K : Nat} {s : Sch} (C : LReads L K s) (h : CRd B f p tp pre post w wc l b lc bc fs (.list s :: rest)) (hq : q = pre.length + fsize fs) :
    Calls Tryz.prog L #[.pointer (some ⟨f, 0, none⟩), .pointer (some ⟨p, q, none⟩), .func (.func K) #[.pointer (some ⟨f, 0, none⟩)] #[]] wc fun e w' => e = .returned (.tuple #[]) ∧ ∃ v l' b', CRd B f p tp pre post w w' l b l' b' (fs ++ [(.list s, v)]) rest := by
  obtain ⟨cs, k1, k2⟩ := h.blk
  have hz : pre ++ cs ++ ((tup (.list s :: rest)).zc ++ post) = (pre ++ cs) ++ [.slice none 0 0] ++ ((tup rest).zc ++ post) := by simp [tup, Sch.zc]
  rw [hz] at k1
  refine (C B f p q tp (pre ++ cs) ((tup rest).zc ++ post) lc bc wc h.fr h.low.1 h.low.2.1 (by rw [List.length_append, k2.len]; exact hq) k1).mono fun e w' ⟨he, v, c, l', b', h1, h2, h3, h4, h5⟩ => ?_
  refine ⟨he, v, l', b', RdSt.next (m := [(.list s, v)]) (rest1 := []) (q := 0) h k2 h1 h2 h3 ?_ (RSeq.one h5)⟩
  have := RepSeq.cons (l := []) h4 RepSeq.nil
  rwa [List.append_nil] at this
end
end Go.Proofs.YthclnpigplcckaaGreat
/- The shapes of the records. -/
namespace Go.Rc
def sRes : Sch := tup [.num, .num]
def sGroup : Sch := tup [.num, sRes]
def sJob : Sch := tup [.num, .num, .num, .num, .list sGroup, .num, .flag]
def sNode : Sch := tup [.num, sRes, .flag, .flag, .num, .num, .num]
def sAlloc : Sch := tup [.num, .num, .num, .num, .num, .num, .num, sRes, .flag, .num]
def sResult : Sch := tup [.num, .num, .list sAlloc]
def sConf : Sch := tup [.list .num, .list .num]
def sPlan : Sch := tup [.num, .num, .num, .list .num, .list sAlloc, .flag]
def sReport : Sch := tup [.num, .num]
def sCmd : Sch := tup [.num, .num, .num, sJob, sNode, .list sReport, sPlan, sConf]
def sEntry : Sch := tup [.num, .num, sCmd]
def sMsg : Sch := tup [.num, .num, .num, .num, .num, .num, .num, .flag, .num, .num, .num, .num, .list sEntry, sConf, .raw, sCmd, sResult]
def sSnapshot : Sch := tup [.num, .num, sConf, .raw]
def sEval : Sch := tup [.num, .num, .num, .num]
def sDeploy : Sch := tup [.num, .num, .num, .num]
def sSeen : Sch := tup [.num, .num, sResult]
def sStore : Sch := tup [.num, .num, .list sJob, .list sJob, .list sNode, .list sAlloc, .list sEval, .list sDeploy, .list sSeen]
end Go.Rc
/- What the walks need of the records' types. -/
namespace Go.Proofs.YthclnpigplcckaaGreat
open Go.RowKit Go.Lb Go.Rc
theorem list_len {a b : Option Addr} {n m c d : Nat} (h : Value.slice a n c = .slice b m d) : n = m := by cases h; rfl
theorem info3 : ∃ i, Tryz.prog.info? 3 = some i ∧ i.zero = some (.int .i64 0) ∧ i.size = 1 ∧ i.bytes = 8 := by
  obtain ⟨i, h1, h2, h3, h4⟩ := info_parts (show (Tryz.prog.info? 3).map (fun i => (i.zero, i.size, i.bytes)) = some (some (.int .i64 0), 1, 8) by kernel_rfl)
  exact ⟨i, h1, h2, h3, h4⟩
theorem Tryz.elem31 : Tryz.prog.elem 31 = 3 := by kernel_rfl
theorem zcRes : sRes.zc.length = 2 := rfl
theorem Tryz.size27 : (Tryz.prog.info? 27).map (·.size) = some 2 := by kernel_rfl
theorem zero27 (w : World) : (zeroValue 27).run Tryz.prog w = .ok (.agg sRes.zc.toArray) w := by kernel_rfl
theorem zcGroup : sGroup.zc.length = 3 := rfl
theorem Tryz.size187 : (Tryz.prog.info? 187).map (·.size) = some 3 := by kernel_rfl
theorem zero187 (w : World) : (zeroValue 187).run Tryz.prog w = .ok (.agg sGroup.zc.toArray) w := by kernel_rfl
theorem info187 : ∃ i, Tryz.prog.info? 187 = some i ∧ i.zero = some (.agg sGroup.zc.toArray) ∧ i.size = 3 ∧ i.bytes = 24 := by
  obtain ⟨i, h1, h2, h3, h4⟩ := info_parts (show (Tryz.prog.info? 187).map (fun i => (i.zero, i.size, i.bytes)) = some (some (.agg sGroup.zc.toArray), 3, 24) by kernel_rfl)
  exact ⟨i, h1, h2, h3, h4⟩
theorem Tryz.elem23 : Tryz.prog.elem 23 = 187 := by kernel_rfl
theorem zcJob : sJob.zc.length = 7 := rfl
theorem Tryz.size25 : (Tryz.prog.info? 25).map (·.size) = some 7 := by kernel_rfl
theorem zero25 (w : World) : (zeroValue 25).run Tryz.prog w = .ok (.agg sJob.zc.toArray) w := by kernel_rfl
theorem info25 : ∃ i, Tryz.prog.info? 25 = some i ∧ i.zero = some (.agg sJob.zc.toArray) ∧ i.size = 7 ∧ i.bytes = 72 := by
  obtain ⟨i, h1, h2, h3, h4⟩ := info_parts (show (Tryz.prog.info? 25).map (fun i => (i.zero, i.size, i.bytes)) = some (some (.agg sJob.zc.toArray), 7, 72) by kernel_rfl)
  exact ⟨i, h1, h2, h3, h4⟩
theorem Tryz.elem64 : Tryz.prog.elem 64 = 25 := by kernel_rfl
theorem zcNode : sNode.zc.length = 8 := rfl
theorem Tryz.size29 : (Tryz.prog.info? 29).map (·.size) = some 8 := by kernel_rfl
theorem zero29 (w : World) : (zeroValue 29).run Tryz.prog w = .ok (.agg sNode.zc.toArray) w := by kernel_rfl
theorem info29 : ∃ i, Tryz.prog.info? 29 = some i ∧ i.zero = some (.agg sNode.zc.toArray) ∧ i.size = 8 ∧ i.bytes = 56 := by
  obtain ⟨i, h1, h2, h3, h4⟩ := info_parts (show (Tryz.prog.info? 29).map (fun i => (i.zero, i.size, i.bytes)) = some (some (.agg sNode.zc.toArray), 8, 56) by kernel_rfl)
  exact ⟨i, h1, h2, h3, h4⟩
theorem Tryz.elem65 : Tryz.prog.elem 65 = 29 := by kernel_rfl
theorem zcAlloc : sAlloc.zc.length = 11 := rfl
theorem Tryz.size162 : (Tryz.prog.info? 162).map (·.size) = some 11 := by kernel_rfl
theorem zero162 (w : World) : (zeroValue 162).run Tryz.prog w = .ok (.agg sAlloc.zc.toArray) w := by kernel_rfl
theorem info162 : ∃ i, Tryz.prog.info? 162 = some i ∧ i.zero = some (.agg sAlloc.zc.toArray) ∧ i.size = 11 ∧ i.bytes = 88 := by
  obtain ⟨i, h1, h2, h3, h4⟩ := info_parts (show (Tryz.prog.info? 162).map (fun i => (i.zero, i.size, i.bytes)) = some (some (.agg sAlloc.zc.toArray), 11, 88) by kernel_rfl)
  exact ⟨i, h1, h2, h3, h4⟩
theorem Tryz.elem32 : Tryz.prog.elem 32 = 162 := by kernel_rfl
theorem zcResult : sResult.zc.length = 3 := rfl
theorem Tryz.size53 : (Tryz.prog.info? 53).map (·.size) = some 3 := by kernel_rfl
theorem zero53 (w : World) : (zeroValue 53).run Tryz.prog w = .ok (.agg sResult.zc.toArray) w := by kernel_rfl
theorem zcConf : sConf.zc.length = 2 := rfl
theorem Tryz.size36 : (Tryz.prog.info? 36).map (·.size) = some 2 := by kernel_rfl
theorem zero36 (w : World) : (zeroValue 36).run Tryz.prog w = .ok (.agg sConf.zc.toArray) w := by kernel_rfl
theorem zcPlan : sPlan.zc.length = 6 := rfl
theorem Tryz.size34 : (Tryz.prog.info? 34).map (·.size) = some 6 := by kernel_rfl
theorem zero34 (w : World) : (zeroValue 34).run Tryz.prog w = .ok (.agg sPlan.zc.toArray) w := by kernel_rfl
theorem zcReport : sReport.zc.length = 2 := rfl
theorem Tryz.size118 : (Tryz.prog.info? 118).map (·.size) = some 2 := by kernel_rfl
theorem zero118 (w : World) : (zeroValue 118).run Tryz.prog w = .ok (.agg sReport.zc.toArray) w := by kernel_rfl
theorem info118 : ∃ i, Tryz.prog.info? 118 = some i ∧ i.zero = some (.agg sReport.zc.toArray) ∧ i.size = 2 ∧ i.bytes = 16 := by
  obtain ⟨i, h1, h2, h3, h4⟩ := info_parts (show (Tryz.prog.info? 118).map (fun i => (i.zero, i.size, i.bytes)) = some (some (.agg sReport.zc.toArray), 2, 16) by kernel_rfl)
  exact ⟨i, h1, h2, h3, h4⟩
theorem Tryz.elem30 : Tryz.prog.elem 30 = 118 := by kernel_rfl
theorem zcCmd : sCmd.zc.length = 27 := rfl
theorem Tryz.size38 : (Tryz.prog.info? 38).map (·.size) = some 27 := by kernel_rfl
theorem zero38 (w : World) : (zeroValue 38).run Tryz.prog w = .ok (.agg sCmd.zc.toArray) w := by kernel_rfl
theorem zcEntry : sEntry.zc.length = 29 := rfl
theorem Tryz.size47 : (Tryz.prog.info? 47).map (·.size) = some 29 := by kernel_rfl
theorem zero47 (w : World) : (zeroValue 47).run Tryz.prog w = .ok (.agg sEntry.zc.toArray) w := by kernel_rfl
theorem info47 : ∃ i, Tryz.prog.info? 47 = some i ∧ i.zero = some (.agg sEntry.zc.toArray) ∧ i.size = 29 ∧ i.bytes = 320 := by
  obtain ⟨i, h1, h2, h3, h4⟩ := info_parts (show (Tryz.prog.info? 47).map (fun i => (i.zero, i.size, i.bytes)) = some (some (.agg sEntry.zc.toArray), 29, 320) by kernel_rfl)
  exact ⟨i, h1, h2, h3, h4⟩
theorem Tryz.elem51 : Tryz.prog.elem 51 = 47 := by kernel_rfl
theorem zcMsg : sMsg.zc.length = 46 := rfl
theorem Tryz.size55 : (Tryz.prog.info? 55).map (·.size) = some 46 := by kernel_rfl
theorem zero55 (w : World) : (zeroValue 55).run Tryz.prog w = .ok (.agg sMsg.zc.toArray) w := by kernel_rfl
theorem zcSnapshot : sSnapshot.zc.length = 5 := rfl
theorem Tryz.size60 : (Tryz.prog.info? 60).map (·.size) = some 5 := by kernel_rfl
theorem zero60 (w : World) : (zeroValue 60).run Tryz.prog w = .ok (.agg sSnapshot.zc.toArray) w := by kernel_rfl
theorem zcEval : sEval.zc.length = 4 := rfl
theorem Tryz.size167 : (Tryz.prog.info? 167).map (·.size) = some 4 := by kernel_rfl
theorem zero167 (w : World) : (zeroValue 167).run Tryz.prog w = .ok (.agg sEval.zc.toArray) w := by kernel_rfl
theorem info167 : ∃ i, Tryz.prog.info? 167 = some i ∧ i.zero = some (.agg sEval.zc.toArray) ∧ i.size = 4 ∧ i.bytes = 32 := by
  obtain ⟨i, h1, h2, h3, h4⟩ := info_parts (show (Tryz.prog.info? 167).map (fun i => (i.zero, i.size, i.bytes)) = some (some (.agg sEval.zc.toArray), 4, 32) by kernel_rfl)
  exact ⟨i, h1, h2, h3, h4⟩
theorem Tryz.elem66 : Tryz.prog.elem 66 = 167 := by kernel_rfl
theorem zcDeploy : sDeploy.zc.length = 4 := rfl
theorem Tryz.size172 : (Tryz.prog.info? 172).map (·.size) = some 4 := by kernel_rfl
theorem zero172 (w : World) : (zeroValue 172).run Tryz.prog w = .ok (.agg sDeploy.zc.toArray) w := by kernel_rfl
theorem info172 : ∃ i, Tryz.prog.info? 172 = some i ∧ i.zero = some (.agg sDeploy.zc.toArray) ∧ i.size = 4 ∧ i.bytes = 32 := by
  obtain ⟨i, h1, h2, h3, h4⟩ := info_parts (show (Tryz.prog.info? 172).map (fun i => (i.zero, i.size, i.bytes)) = some (some (.agg sDeploy.zc.toArray), 4, 32) by kernel_rfl)
  exact ⟨i, h1, h2, h3, h4⟩
theorem Tryz.elem67 : Tryz.prog.elem 67 = 172 := by kernel_rfl
theorem zcSeen : sSeen.zc.length = 5 := rfl
theorem Tryz.size177 : (Tryz.prog.info? 177).map (·.size) = some 5 := by kernel_rfl
theorem zero177 (w : World) : (zeroValue 177).run Tryz.prog w = .ok (.agg sSeen.zc.toArray) w := by kernel_rfl
theorem info177 : ∃ i, Tryz.prog.info? 177 = some i ∧ i.zero = some (.agg sSeen.zc.toArray) ∧ i.size = 5 ∧ i.bytes = 56 := by
  obtain ⟨i, h1, h2, h3, h4⟩ := info_parts (show (Tryz.prog.info? 177).map (fun i => (i.zero, i.size, i.bytes)) = some (some (.agg sSeen.zc.toArray), 5, 56) by kernel_rfl)
  exact ⟨i, h1, h2, h3, h4⟩
theorem Tryz.elem68 : Tryz.prog.elem 68 = 177 := by kernel_rfl
theorem zcStore : sStore.zc.length = 9 := rfl
theorem Tryz.size70 : (Tryz.prog.info? 70).map (·.size) = some 9 := by kernel_rfl
theorem zero70 (w : World) : (zeroValue 70).run Tryz.prog w = .ok (.agg sStore.zc.toArray) w := by kernel_rfl
end Go.Proofs.YthclnpigplcckaaGreat
/- codec's form.raw, writing and reading: bytes behind a row of one's own. -/
namespace Go.Rc
open Go Go.RowKit Go.Lb
section
variable {P : Program} {w : World} {base n c : Nat} {t ty U : TypeId} {i : TypeInfo} {z v : Value} {xs : List Value} {ok : Nat → Prop} {a : Option Addr} {l : List Nat}
theorem append_bytes (ht : P.underlying t = some (.slice U)) (hi : P.info? U = some i) (hz : i.zero = some z) (hs : i.size = 1) (hby : i.bytes = 1) (hzs : z.cells.size = 1)
    (hown : w.ownsRow base U 1 v n xs) (hb : Bytes w ok a l) (h63 : n + l.length ≤ 100000000000000) (hbase : base ≤ w.heap.size) :
    ∃ v' w', (Builtin.append_ #[t, t] ty #[v, .slice a l.length c]).run P w = .ok v' w' ∧ w'.ownsRow base U 1 v' (n + l.length) (xs ++ l.map bv) ∧ w.grownBy w' v.ownBlock ∧ (v'.ownBlock = v.ownBlock ∨ v'.ownBlock = some w.heap.size) := by
  cases l with
  | nil =>
    refine ⟨v, w, ?_, by simpa using hown, ⟨rfl, rfl, rfl, Nat.le_refl _, fun _ _ _ => rfl⟩, .inl rfl⟩
    rcases hown.2 with ⟨rfl, rfl⟩ | ⟨g, cap, cur, rfl, _, hg, hnc, _⟩
    · cases a with
      | none => simp [Builtin.append_, run_underlying ht, sizeOf, typeInfo, hi, Builtin.lenOf, Builtin.firstCells]
      | some ad =>
        have hfc := run_firstCells_some (P := P) w i.size 0 ad 0 c [] (by simp) (by simp)
        simp [Builtin.append_, run_underlying ht, sizeOf, typeInfo, hi, Builtin.lenOf, hfc]
    · cases a with
      | none => simp [Builtin.append_, run_underlying ht, sizeOf, typeInfo, hi, Builtin.lenOf, Builtin.firstCells, hnc, storeCells]
      | some ad =>
        have hfc := run_firstCells_some (P := P) w i.size 0 ad 0 c [] (by simp) (by simp)
        simp [Builtin.append_, run_underlying ht, sizeOf, typeInfo, hi, Builtin.lenOf, hfc, hnc, storeCells]
  | cons x l =>
    obtain ⟨_, b, o, rfl, _⟩ := hb 0 x rfl
    refine run_append_mine (P := P) w base t ty U i z 1 1 ht hi hz hs hby hzs (by decide) v n xs hown ⟨b, o, none⟩ (x :: l).length c ((x :: l).map bv) (by simp) ?_ ?_ (by unfold maxLen; omega) (by omega) hbase
    · intro j u hu
      rw [List.getElem?_map] at hu
      obtain ⟨y, hy, rfl⟩ := Option.map_eq_some_iff.1 hu
      obtain ⟨_, b', o', e, _, _, h5⟩ := hb j y hy
      cases e
      rw [Addr.add_lit]; exact h5
    · intro u hu
      obtain ⟨y, _, rfl⟩ := List.mem_map.1 hu
      rfl
theorem exec_append {o : Oper} {a : Act} {s x : Operand} {t : TypeId} {v u r : Value} {w' : World} (ho : o.op = .call { callee := .builtin .append, args := #[s, x], argTypes := #[t, t] }) (hs : a.eval s = v) (hx : a.eval x = u)
    (h : (Builtin.append_ #[t, t] o.type #[v, u]).run P w = .ok r w') : (execOp a.eval o).run P w = .ok (.value r) w' := by
  unfold execOp
  simp only [ho, resolve, invoke, builtin, Sem.run_bind, Sem.run_pure, Result.andThen_ok, List.map_toArray, List.map_cons, List.map_nil, hs, hx, h]
end
end Go.Rc
namespace Go.Proofs.YthclnpigplcckaaGreat
open Go.RowKit Go.Lb Go.Rc
theorem raw_get (l : List Nat) : Sch.raw.get l = match mget 65536 l with
    | none => none
    | some (k, r) => if k ≤ r.length then some (.raw (r.take k), r.drop k) else none := by
  unfold mget
  simp only [Sch.get]
  cases nget l with
  | none => rfl
  | some p =>
    obtain ⟨n, r⟩ := p
    dsimp only
    by_cases h : 0 ≤ n ∧ n ≤ 65536
    · rw [if_pos (show 0 ≤ n ∧ n ≤ (65536 : Nat) by omega)]
      dsimp only
      by_cases h2 : n.toNat ≤ r.length
      · rw [if_pos h2, if_pos (by omega)]
      · rw [if_neg h2, if_neg (by omega)]
    · rw [if_neg (show ¬ (0 ≤ n ∧ n ≤ (65536 : Nat)) by omega), if_neg (by omega)]

set_option maxRecDepth 20000 in
set_option maxHeartbeats 1000000 in
theorem raw_writes : Writes 70 .raw := by
  intro B X f p q tp pre cs post v o b w h hX hq hp hr hl
  obtain ⟨i5, hi5, hz0, hz1, hz2⟩ := infoU8
  obtain ⟨a, c, l, rfl, rfl, hby⟩ := hr
  subst hq
  have H := Lib.hid h
  have HP := Lib.hid hp
  have HX := Lib.hid hX
  have HBY := Lib.hid hby
  have hl2 : o.length + (6 + l.length) ≤ 1099511627776 := hl
  have c0 := hp.cell (o := pre.length) mid_at
  have hB := h.base
  clear h hX hp hby hl
  go_enter Tryz.func70, Tryz.ntmps70
  go_wp2_with fail
  refine (many_w B X f l.length 65536 o b _ H.out (by omega) (by decide)).mono ?_
  rintro e w1 ⟨r, o1, b1, rfl, h1, h2, h3⟩
  obtain ⟨m2, m3, m4, m5⟩ := fw_mark h1
  have hbp := h2.blk HP.out (.inr HX.out)
  have hbyt : Bytes w1 (· < B) a l := HBY.out.keep (fun k hk hl => ⟨hk, h2.block k hl (.inl hk)⟩) h2.size
  have H2 := Lib.hid h2
  have H3 := Lib.hid h3
  have ho1 := h3.len
  obtain ⟨hX1, vb, hO, hs⟩ := h1
  obtain ⟨ga, gc, rfl⟩ := own_shape hO.row
  have HR : Hid (∀ w', Upd (Value.slice ga o1.length gc).ownBlock.toList w1 w' → w'.cell? ⟨f, 0, none⟩ = some (.slice ga o1.length gc) ∧ w'.cell? ⟨p, pre.length, none⟩ = some (.slice a l.length c)) := Lib.hid fun w' u => by
    refine ⟨(u.blk hO.blk (fun hm => ?_)).cell rfl, (u.blk hbp (fun hm => ?_)).cell mid_at⟩
    · exact hO.ne (by simpa using hm)
    · exact (hs p (List.mem_cons_of_mem _ hm)).2.1 HX.out
  have HO := Lib.hid hO
  have HS := Lib.hid hs
  have HX1 := Lib.hid hX1
  have HBYT := Lib.hid hbyt
  clear h2 h3 hO hs hbp hX1 hbyt
  go_wp2_with fail
  refine wp_region_lex (fun w' => Upd (Value.slice ga o1.length gc).ownBlock.toList w1 w') 11 [(0, true), (1, true), (2, true), (3, true), (4, true), (5, true), (6, true), (7, true), (8, false), (9, false), (10, false), (11, false)] (by kernel_rfl) (by kernel_rfl) (by kernel_rfl) (by kernel_rfl) (fun _ _ d _ _ h => by cases d <;> exact h) ?_
  simp only [lexOps, List.map_cons, List.map_nil, List.getD_cons_zero, List.getD_cons_succ]
  have hS0 : Upd (Value.slice ga o1.length gc).ownBlock.toList w1 w1.drew := (Upd.refl _ _).drew
  iterate 8 (refine lex_read rfl (by exact hS0) (v := ?_) (fun w' hw => ?_) ?_; rotate_left; (focus (obtain ⟨k1, k2⟩ := HR.out w' hw; go_simp; try with_reducible rfl)); simp only [Act.put, List.setIfInBounds_toArray, List.set_cons_zero, List.set_cons_succ])
  obtain ⟨v', w3, hrun, hown, hg, hv⟩ := append_bytes (P := Tryz.prog) (ty := 22) (c := c) Tryz.underlying22 hi5 hz0 hz1 hz2 rfl ((Upd.refl [] w1).drew.row HO.out.row (by simp)) (HBYT.out.upd (Upd.refl [] w1).drew (by simp)) (by omega) (Nat.zero_le _)
  have HF := Lib.hid (out_step (mk := cW) (B := B) (X := X) (news := l) (fun _ _ _ => rfl) (fun _ _ => rfl) HO.out HS.out HX1.out (Upd.refl [] w1).drew (fun x hx => by
    obtain ⟨i, hi⟩ := List.mem_iff_getElem?.1 hx
    exact (HBYT.out i x hi).1) hown hg hv)
  have hS3 : Upd (Value.slice ga o1.length gc).ownBlock.toList w1 w3 := hS0.grown hg (fun k hk => .inl (by simp [hk]))
  obtain ⟨va', vc', rfl⟩ := own_shape hown
  have e0 := HF.out.2.1
  have e1 := HF.out.2.2.1
  have e2 := HF.out.2.2.2
  have HG : Hid (WrPost .raw B X f (.raw l) o b w (.returned (.tuple #[])) (w3.setCell ⟨f, 0, none⟩ (.slice va' (o1.length + l.length) vc'))) := Lib.hid ⟨rfl, o1 ++ l, b1, HF.out.1.1, H2.out.trans HF.out.1.2, by
    refine ⟨?_, ?_, ?_⟩
    · rw [H3.out.bad]
      constructor
      · rintro ⟨h1, h2⟩
        exact ⟨h1, h2, fun x hx => by
          obtain ⟨i, hi⟩ := List.mem_iff_getElem?.1 hx
          exact (HBYT.out i x hi).1⟩
      · rintro ⟨h1, h2, _⟩
        exact ⟨h1, h2⟩
    · intro e
      rw [H3.out.out e, List.append_assoc]; rfl
    · simp only [List.length_append, Sch.wmax]
      omega⟩
  refine lex_run rfl (exec_append (by rfl) (by rfl) (by rfl) hrun) (fun _ => hS3) ?_
  clear hrun hown hg hv
  try simp only [Act.put, List.setIfInBounds_toArray, List.set_cons_zero, List.set_cons_succ]
  iterate 2 (refine lex_do rfl (fun K hK => ?_); go_simp; refine hK _ _ (fun _ => hS3) ?_; clear hK K; try simp only [Act.put, List.setIfInBounds_toArray, List.set_cons_zero, List.set_cons_succ])
  refine lex_do rfl (fun K hK => ?_)
  go_simp
  refine hK _ _ (fun h => absurd rfl h) ?_
  clear hK K
  try simp only [Act.put, List.setIfInBounds_toArray, List.set_cons_zero, List.set_cons_succ]
  refine lex_nil ?_
  go_wp2_with fail
  go_end0
  exact HG.out

theorem bytes_own {w : World} {ok : Nat → Prop} {n : Nat} {v : Value} {l : List Nat} {base : Nat} (h : w.ownsRow base 5 1 v l.length (l.map bv)) (hl : ∀ x ∈ l, x < 256) (hok : ∀ b, base ≤ b → Soft w b → ok b) : ∃ a c, v = .slice a l.length c ∧ Bytes w ok a l := by
  rcases own_is h with ⟨rfl, h0⟩ | ⟨g, c, rfl, hg, hgl, _⟩
  · rw [h0]
    exact ⟨none, 0, rfl, by rw [List.eq_nil_of_length_eq_zero h0]; exact Bytes.nil _ _ _⟩
  · refine ⟨_, c, rfl, fun i x hx => ?_⟩
    have hi := (List.getElem?_eq_some_iff.1 hx).1
    refine ⟨hl x (List.mem_of_getElem? hx), g, 0, rfl, hok g hg (own_soft h rfl), hgl, ?_⟩
    rw [Nat.zero_add, h.cellAt i (by omega), List.getElem?_map, hx]; rfl

set_option maxRecDepth 20000 in
set_option maxHeartbeats 1000000 in
theorem raw_reads : Reads 70 .raw := by
  intro B f p q tp pre post l b w h hB hpf hq hp
  obtain ⟨i5, hi5, hz0, hz1, hz2⟩ := infoU8
  subst hq
  have c0 := hp.cell (o := pre.length) mid_at
  obtain ⟨_, _, _, hf, hBf⟩ := fr_mark h
  have hplt := hp.lt
  have H := Lib.hid h
  have HP := Lib.hid hp
  clear h hp
  go_enter Tryz.func70, Tryz.ntmps70
  go_wp2_with fail
  refine (many_r B f 65536 _ l b _ H.out).mono ?_
  rintro e w1 ⟨k, l1, b1, rfl, hk, h1, h2, h3⟩
  obtain ⟨m2, m3, m4, m5, _⟩ := fr_mark h1
  have hbp := h2.blk HP.out (by simpa using hpf)
  have p0 := hbp.cell (o := pre.length) mid_at
  have pz := hbp.frozen pre.length
  have plt := hbp.lt
  have hsz1 := h2.size
  have HM := Lib.hid (fr_set h1 true)
  have HBP := Lib.hid hbp
  obtain ⟨a, c, hI⟩ := h1
  have f0 := hI.blk.cell (o := 0) rfl
  have fz := hI.blk.frozen 0
  have HI := Lib.hid hI
  have hcap := hI.cap
  have hm := hcap.2
  unfold maxLen at hm
  have H2 := Lib.hid h2
  have H3 := Lib.hid h3
  clear h2 h3 hbp hI
  by_cases hkl : l1.length < k
  · have t1 : decide (l1.length < k) = true := by simpa using hkl
    have HF : Hid (RdPost .raw B f p tp pre post l b w (.returned (.tuple #[])) (w1.setCell ⟨f, 2, none⟩ (.bool true))) := Lib.hid ⟨rfl, .raw [], [.slice none 0 0], l1, true, HM.out.1, (H2.out.mono (by simp)).trans HM.out.2 (by simp), HM.out.2.blk HBP.out (by simpa using hpf), ⟨none, 0, [], rfl, rfl, Bytes.nil _ _ _⟩, ⟨fun e => (by cases e), fun _ => by
      cases b1 with
      | true => exact (H3.out.bad rfl).imp id fun h => by rw [raw_get, h]
      | false =>
        right
        rw [raw_get, (H3.out.good rfl).2]
        dsimp only
        rw [if_neg (by omega)]⟩⟩
    go_wp2_with fail
    go_end0
    exact HF.out
  · have t1 : decide (l1.length < k) = false := by simpa using hkl
    have hkl' : k ≤ l1.length := by omega
    have HRD : Hid (Sch.raw.Rd l b (.raw (l1.take k)) (l1.drop k) b1) := Lib.hid ⟨fun e => ⟨(H3.out.good e).1, by rw [raw_get, (H3.out.good e).2]; dsimp only; rw [if_pos hkl']⟩, fun e => (H3.out.bad e).imp id fun h => by rw [raw_get, h]⟩
    have HIN : Hid (∀ w' a' c', Upd [p] w1 w' → Bytes w' (· < B) a' (l1.drop k) → l1.length - k ≤ c' ∧ c' ≤ c → Blk w' f 108 (cR (.slice a l1.length c) b1) ∧ Fr B (w'.setCell ⟨f, 0, none⟩ (.slice a' (l1.length - k) c')) f (l1.drop k) b1) := Lib.hid fun w' a' c' u hB' hcc => by
      have hb := u.blk HI.out.blk (by simp; omega)
      have uS : Upd [f] w' (w'.setCell ⟨f, 0, none⟩ (.slice a' (l1.length - k) c')) := (Upd.refl _ _).setCell (by simp) _
      have hlow := HI.out.low
      refine ⟨hb, a', c', ⟨?_, hB'.upd uS (fun k hk => by simp; omega), ?_, hlow⟩⟩
      · rw [List.length_drop]; exact hb.set 0 _
      · rw [List.length_drop]; omega
    by_cases hk0 : k = 0
    · subst hk0
      obtain ⟨a', c', hsl, hB', hcc⟩ := bytes_from (P := Tryz.prog) (t := 22) (by rw [Tryz.elem22]; exact Tryz.underlying22) Tryz.elem22 hi5 hz1 HI.out.byte 0 hkl' hcap.1
      have HF : Hid (RdPost .raw B f p tp pre post l b w (.returned (.tuple #[])) (w1.setCell ⟨f, 0, none⟩ (.slice a' (l1.length - 0) c'))) := Lib.hid (by
        have uS : Upd [f] w1 (w1.setCell ⟨f, 0, none⟩ (.slice a' (l1.length - 0) c')) := (Upd.refl _ _).setCell (by simp) _
        refine ⟨rfl, .raw [], [.slice none 0 0], _, b1, (HIN.out w1 a' c' (Upd.refl _ _) hB' hcc).2, (H2.out.mono (by simp)).trans uS (by simp), uS.blk HBP.out (by simpa using hpf), ⟨none, 0, [], rfl, rfl, Bytes.nil _ _ _⟩, ?_⟩
        simpa using HRD.out)
      have HSL := Lib.hid hsl
      clear hsl hB'
      go_wp2_with (refine wpList_run (o := ⟨some 54, .slice 22 (.tmp 52) (some (.tmp 53)) none none, _, _, _, _⟩) rfl (exec_sliceAt (by rfl) (by rfl) (by rfl) (by rfl) HSL.out) ?_)
      go_end0
      exact HF.out
    · have t2 : decide (0 < k) = true := by simp; omega
      obtain ⟨at', hst, hBt⟩ := bytes_to (P := Tryz.prog) (t := 22) (by rw [Tryz.elem22]; exact Tryz.underlying22) Tryz.elem22 hi5 hz1 HI.out.byte k hkl' hcap.1
      have htl : (l1.take k).length = k := by simp; omega
      obtain ⟨v', w3, hrun, hown, hg, hv⟩ := append_bytes (P := Tryz.prog) (w := w1) (base := w1.heap.size) (ty := 22) (c := c) (v := .slice none 0 0) (n := 0) (xs := []) Tryz.underlying22 hi5 hz0 hz1 hz2 rfl ⟨rfl, .inl ⟨rfl, rfl⟩⟩ hBt (by omega) (Nat.le_refl _)
      rw [htl] at hrun
      have hbyte : ∀ x ∈ l1.take k, x < 256 := fun x hx => by
        obtain ⟨i, hi⟩ := List.mem_iff_getElem?.1 hx
        exact (hBt i x hi).1
      have u3 : Upd [] w1 w3 := (Upd.refl _ _).grown hg (fun k hk => by simp [Value.ownBlock] at hk)
      obtain ⟨ra, rc, rfl, hRb⟩ := bytes_own (n := 0) (ok := Nw w.heap.size w3) (by simpa using hown) hbyte (fun b hb hs => ⟨Nat.le_trans hsz1 hb, hs⟩)
      have hbp3 := u3.blk HBP.out (by simp)
      have q1 := hbp3.cell (o := pre.length) mid_at
      have q2 := hbp3.frozen pre.length
      have q3 := hbp3.lt
      have uS : Upd [p] w3 (w3.setCell ⟨p, pre.length, none⟩ (.slice ra (l1.take k).length rc)) := (Upd.refl _ _).setCell (by simp) _
      have u4 : Upd [p] w1 (w3.setCell ⟨p, pre.length, none⟩ (.slice ra (l1.take k).length rc)) := (u3.mono (by simp)).trans uS (by simp)
      have hlow := HI.out.low
      obtain ⟨a', c', hsl, hB', hcc⟩ := bytes_from (P := Tryz.prog) (t := 22) (by rw [Tryz.elem22]; exact Tryz.underlying22) Tryz.elem22 hi5 hz1 (HI.out.byte.upd u4 (fun k hk => by simp; omega)) k hkl' hcap.1
      obtain ⟨j1, j2⟩ := HIN.out _ a' c' u4 hB' hcc
      have g0 := j1.cell (o := 0) rfl
      have gz := j1.frozen 0
      have gl := j1.lt
      have f3 := ((u3.blk HI.out.blk (by simp)).cell (o := 0) rfl)
      have f3z := ((u3.blk HI.out.blk (by simp)).frozen 0)
      have f3l := (u3.blk HI.out.blk (by simp)).lt
      have hbp4 : Blk (w3.setCell ⟨p, pre.length, none⟩ (.slice ra (l1.take k).length rc)) p tp (pre ++ [.slice ra (l1.take k).length rc] ++ post) := by
        have := hbp3.set pre.length (.slice ra (l1.take k).length rc)
        rwa [show Sch.raw.zc = [Value.slice none 0 0] from rfl, mid_set] at this
      have HF : Hid (RdPost .raw B f p tp pre post l b w (.returned (.tuple #[])) ((w3.setCell ⟨p, pre.length, none⟩ (.slice ra (l1.take k).length rc)).setCell ⟨f, 0, none⟩ (.slice a' (l1.length - k) c'))) := Lib.hid (by
        have uS2 : Upd [f] (w3.setCell ⟨p, pre.length, none⟩ (.slice ra (l1.take k).length rc)) ((w3.setCell ⟨p, pre.length, none⟩ (.slice ra (l1.take k).length rc)).setCell ⟨f, 0, none⟩ (.slice a' (l1.length - k) c')) := (Upd.refl _ _).setCell (by simp) _
        refine ⟨rfl, .raw (l1.take k), [.slice ra (l1.take k).length rc], _, b1, j2, ((H2.out.mono (by simp)).trans u4 (by simp)).trans uS2 (by simp), uS2.blk hbp4 (by simpa using hpf), ⟨ra, rc, l1.take k, rfl, rfl, ?_⟩, HRD.out⟩
        exact (hRb.updN uS (fun k hk => by simp; omega)).updN uS2 (fun k hk => by simp; omega))
      have HSL := Lib.hid hsl
      have HST := Lib.hid hst
      have HRUN := Lib.hid hrun
      rw [htl] at HF g0 gz gl hbp4 j1 HRUN HSL
      clear hB' hsl hst hrun hown hg hv hBt u3 hRb hbp3 uS u4 j1 j2 hbp4 hbyte
      go_wp2_with (first | (refine wpList_run (o := ⟨some 45, .slice 22 (.tmp 43) none (some (.tmp 44)) none, _, _, _, _⟩) rfl (exec_sliceAt (by rfl) (by rfl) (by rfl) (by rfl) HST.out) ?_) | (at_builtin; refine wpList_run rfl (exec_append (by rfl) (by rfl) (by rfl) HRUN.out) ?_) | (refine wpList_run (o := ⟨some 54, .slice 22 (.tmp 52) (some (.tmp 53)) none none, _, _, _, _⟩) rfl (exec_sliceAt (by rfl) (by rfl) (by rfl) (by rfl) HSL.out) ?_))
      go_end0
      exact HF.out
end Go.Proofs.YthclnpigplcckaaGreat
/- What writing and reading a whole record say. -/
namespace Go.Proofs.YthclnpigplcckaaGreat
open Go.RowKit Go.Lb Go.Rc
theorem _root_.Go.Rc.Bytes.mono' {w : World} {n : Nat} {a : Option Addr} {l : List Nat} (h : Bytes w (· < n) a l) (hn : n ≤ w.heap.size) : Bytes w (· < w.heap.size) a l :=
  h.keep (fun k hk hl => ⟨hl, rfl⟩) (Nat.le_refl _)
/-- A record is written: its bytes are new, or it may not be. -/
def PutIs (s : Sch) (v : Val) (w : World) (e : Ending) (w' : World) : Prop := Upd [] w w' ∧
  ((s.good v ∧ ∃ a c, e = .returned (.tuple #[.slice a (s.put v).length c, .int .i64 0]) ∧ w'.ownsRow w.heap.size 5 1 (.slice a (s.put v).length c) (s.put v).length ((s.put v).map bv)) ∨
   (¬ s.good v ∧ e = .returned (.tuple #[.slice none 0 0, .int .i64 1])))
/-- Function K writes records of shape s. -/
def Puts (K : Nat) (s : Sch) : Prop := ∀ (cs : List Value) (v : Val) (w : World), s.Rep w (· < w.heap.size) cs v → s.wmax v ≤ 1099511627776 → Calls Tryz.prog K #[.agg cs.toArray] w (PutIs s v w)
/-- Bytes are read as a record. -/
def GetIs (s : Sch) (l : List Nat) (w : World) (e : Ending) (w' : World) : Prop := Upd [] w w' ∧
  ∃ cs v r, e = .returned (.tuple #[.agg cs.toArray, .bool r]) ∧ s.Rep w' (Nw w.heap.size w') cs v ∧ (r = true → s.get l = some (v, [])) ∧ (r = false → (∀ v', s.get l ≠ some (v', [])) ∧ v = s.zero)
def Gets (K : Nat) (s : Sch) : Prop := ∀ (a : Option Addr) (c : Nat) (l : List Nat) (w : World), Bytes w (· < w.heap.size) a l → l.length ≤ c ∧ c ≤ maxLen → Calls Tryz.prog K #[.slice a l.length c] w (GetIs s l w)
theorem kp_up {B : Nat} {X : List Nat} {w W w' : World} (h : Kp B X W w') (u : Upd [] w W) (hB : w.heap.size = B) : Upd [] w w' :=
  ⟨h.os.trans u.os, h.tape.trans u.tape, h.output.trans u.output, Nat.le_trans u.size h.size, fun k hk _ => (h.block k (Nat.lt_of_lt_of_le hk u.size) (.inl (by omega))).trans (u.block k hk (by simp))⟩
theorem own_rebase {w : World} {b1 b2 n sz : Nat} {e : TypeId} {v : Value} {xs : List Value} (h : w.ownsRow b1 e sz v n xs) (hb : ∀ k, v.ownBlock = some k → b2 ≤ k) : w.ownsRow b2 e sz v n xs := by
  refine ⟨h.1, ?_⟩
  rcases h.2 with h2 | ⟨g, cap, cur, rfl, h1, rest⟩
  · exact .inl h2
  · exact .inr ⟨g, cap, cur, rfl, hb g rfl, rest⟩
theorem putIs_good {T : TypeId} {mk : Value → Bool → List Value} {s : Sch} {v : Val} {w W w' : World} {f : Nat} {X : List Nat} {o : List Nat} (h1 : St T 5 mk w.heap.size X w' f o false) (h2 : Kp w.heap.size X W w') (u : Upd [] w W) (h3 : s.Wr v [] false o false) :
    ∃ a c, w'.cell? ⟨f, 0, none⟩ = ((mk (.slice a (s.put v).length c) false)[0]?) ∧ PutIs s v w (.returned (.tuple #[.slice a (s.put v).length c, .int .i64 0])) w' := by
  obtain ⟨_, vb, hO, hs⟩ := h1
  have ho : o = s.put v := by simpa using h3.out rfl
  subst ho
  obtain ⟨a, c, rfl⟩ := own_shape hO.row
  refine ⟨a, c, ?_, kp_up h2 u rfl, .inl ⟨(h3.bad.1 rfl).2, a, c, rfl, own_rebase hO.row (fun k hk => (hs k (by simp [hk])).1)⟩⟩
  have hb := hO.blk
  unfold Blk at hb
  simp [World.cell?, hb]
theorem putIs_bad {s : Sch} {v : Val} {w W w' : World} {X : List Nat} {o : List Nat} (h2 : Kp w.heap.size X W w') (u : Upd [] w W) (h3 : s.Wr v [] false o true) :
    PutIs s v w (.returned (.tuple #[.slice none 0 0, .int .i64 1])) w' :=
  ⟨kp_up h2 u rfl, Or.inr ⟨fun hg => absurd (h3.bad.2 ⟨rfl, hg⟩) (by decide), rfl⟩⟩
theorem fresh_out {T : TypeId} {mk : Value → Bool → List Value} {w : World} {p : Nat} {A : Obj} (hp : p = w.heap.size) : St T 5 mk w.heap.size [p] ((w.alloc A).alloc (.cells (mk (.slice none 0 0) false).toArray T)) (w.heap.size + 1) [] false := by
  subst hp
  refine ⟨by simp; omega, .slice none 0 0, ⟨Blk.new2 w A T _, ⟨rfl, .inl ⟨rfl, rfl⟩⟩, by simp [Value.ownBlock], by simp⟩, fun k hk => ?_⟩
  simp [Value.ownBlock] at hk
  subst hk
  simp
end Go.Proofs.YthclnpigplcckaaGreat
