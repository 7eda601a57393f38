/- CodecErrors returns true for every input, and the input reads afterwards as it did. Condition: none. -/
import Derived.Test.YtpoplipjombdbaaZae
set_option linter.unusedVariables false
set_option linter.unusedSimpArgs false
/- law01's CodecErrors, walked. -/
namespace Go.Crc
theorem add_xor_pow {c k : Nat} (h : c < 2 ^ k) : c ^^^ 2 ^ k = c + 2 ^ k := by
  have := Nat.two_pow_add_eq_or_of_lt h 1
  rw [Nat.mul_one] at this
  rw [Nat.add_comm, this]
  apply Nat.eq_of_testBit_eq
  intro i
  rw [Nat.testBit_xor, Nat.testBit_or]
  by_cases hi : i = k
  · subst hi
    rw [Nat.testBit_lt_two_pow h]; simp
  · have : (2 ^ k).testBit i = false := by rw [Nat.testBit_two_pow]; simp; omega
    rw [this]; simp
/-- What the bytes are when the first k of the bits were looked at. -/
structure Turned (fr : List Nat) (bit k : Nat) (L : List Nat) (t : Bool) (C : Nat) : Prop where
  len : L.length = fr.length
  head : L.take 4 = fr.take 4
  byte : ∀ b ∈ L, b < 256
  lt : C < 2 ^ k
  num : num L = num fr ^^^ (C * 2 ^ (32 + bit))
  none : t = false → L = fr ∧ C = 0
  some : t = true → C ≠ 0
theorem Turned.start {fr : List Nat} (bit : Nat) (h : ∀ b ∈ fr, b < 256) : Turned fr bit 0 fr false 0 :=
  ⟨rfl, rfl, h, by simp, by simp, fun _ => ⟨rfl, rfl⟩, fun h => by cases h⟩
theorem Turned.skip {fr L : List Nat} {bit k C : Nat} {t : Bool} (h : Turned fr bit k L t C) : Turned fr bit (k + 1) L t C :=
  ⟨h.len, h.head, h.byte, Nat.lt_of_lt_of_le h.lt (Nat.pow_le_pow_right (by decide) (by omega)), h.num, h.none, h.some⟩
theorem xor_byte {x j : Nat} (hx : x < 256) (hj : j < 8) : x ^^^ 2 ^ j < 256 :=
  Nat.xor_lt_two_pow (n := 8) hx (Nat.pow_lt_pow_right (by decide) hj)
theorem Turned.flip {fr L : List Nat} {bit k C x : Nat} {t : Bool} (h : Turned fr bit k L t C) (hx : L[4 + (bit + k) / 8]? = Option.some x) :
    Turned fr bit (k + 1) (L.set (4 + (bit + k) / 8) (x ^^^ 2 ^ ((bit + k) % 8))) true (C + 2 ^ k) := by
  have hm := Nat.mod_lt (bit + k) (show 0 < 8 by decide)
  refine ⟨by simp [h.len], ?_, ?_, ?_, ?_, (fun e => by cases e), fun _ => ?_⟩
  · rw [List.take_set_of_le (by omega)]; exact h.head
  · intro b hb
    rcases List.mem_or_eq_of_mem_set hb with hb | rfl
    · exact h.byte b hb
    · exact xor_byte (h.byte x (List.mem_of_getElem? hx)) hm
  · have := h.lt
    rw [Nat.pow_succ]; omega
  · rw [num_flip L _ _ x hx, h.num, Nat.xor_assoc]
    congr 1
    rw [← add_xor_pow h.lt, ← Nat.shiftLeft_eq, ← Nat.shiftLeft_eq, Nat.shiftLeft_xor_distrib]
    congr 1
    rw [Nat.shiftLeft_eq, ← Nat.pow_add]
    congr 1; omega
  · have := Nat.pow_pos (n := k) (show 0 < 2 by decide); omega
theorem Turned.wrong {k p : Nat} {body L : List Nat} {bit n C : Nat} (hf : Fits k p body) (h : Turned (frame k p body) bit n L true C) (hn : n ≤ 32) (hb : bit ≤ 8 * (11 + body.length)) : find L = .wrong := by
  have hlen : L.length = 15 + body.length := by rw [h.len, frame_len]
  refine find_burst hf h.byte hlen h.head (c := C) (n := 32 + bit) (Nat.lt_of_lt_of_le h.lt (Nat.pow_le_pow_right (by decide) hn)) (h.some rfl) (by omega) ?_
  rw [num_diff _ _ (by rw [h.len]), h.num, ← Nat.xor_assoc, Nat.xor_self, Nat.zero_xor]
end Go.Crc
namespace Go.Proofs.Ytpoplipjombdbaa
open Go.RowKit Go.Lb Go.Rc Go.Crc

set_option maxRecDepth 20000 in
set_option maxHeartbeats 8000000 in
theorem errors_ok (ok : Nat → Prop) (k p at_ : Int) (chg : Nat) (a : Option Addr) (c : Nat) (body : List Nat) (w : World) (hb : Bytes w ok a body) (hch : chg < 4294967296) :
    Calls Try.prog 3 #[.int .i64 k, .int .i64 p, .slice a body.length c, .int .i64 at_, .int .u32 (chg : Int)] w fun e w' => e = .returned (.bool true) ∧ Upd [] w w' := by
  have HB := Lib.hid hb
  clear hb
  by_cases hm : MayFrame k p body
  · have HM := Lib.hid hm
    have hbl : body.length ≤ 1048576 := hm.2.2.2.2
    obtain ⟨fr, hfr⟩ : ∃ fr, fr = frame k.toNat p.toNat body := ⟨_, rfl⟩
    have fits := may_fits hm (bytes_lt HB.out)
    have HFB : Hid (∀ x ∈ fr, x < 256) := Lib.hid (by rw [hfr]; exact frame_byte fits)
    have hfl : fr.length = 15 + body.length := by rw [hfr, frame_len]
    have HFIND : Hid (find fr = .whole k.toNat p.toNat body) := Lib.hid (by
      have := find_frame fits []
      rw [List.append_nil] at this
      rw [hfr]; exact this)
    have HWRONG : Hid (∀ bit L C, bit ≤ 8 * (11 + body.length) → Turned fr bit 32 L true C → find L = .wrong) := Lib.hid (fun bit L C h1 h2 => by
      rw [hfr] at h2
      exact Turned.wrong fits h2 (Nat.le_refl _) h1)
    have HFR := Lib.hid hfr
    have HFL := Lib.hid hfl
    clear hfr fits hfl hm
    go_enter Try.func3, Try.ntmps3
    go_wp2_with fail
    refine (frame_any _ k p a c body _ HB.out).mono ?_
    rintro e w1 ⟨u1, ⟨_, v1, rfl, r1⟩ | ⟨hno, _⟩⟩
    rotate_left
    · exact absurd HM.out hno
    rw [← HFR.out] at r1
    have U1 := Lib.hid u1
    have R1 := Lib.hid r1
    obtain ⟨a1, c1, rfl⟩ := r1.shape
    clear u1 r1
    go_wp2_with fail
    refine (known_true _).mono ?_
    rintro e w2 ⟨rfl, u2⟩
    have U2 := Lib.hid (U1.out.trans u2 (by simp))
    have R2 : Hid (Row w.heap.size w2 (.slice a1 fr.length c1) fr) := Lib.hid (u2.row R1.out (by simp))
    have hcap := R1.out.cap
    clear u2
    have hfl2 : fr.length ≤ 1048591 := by have := HFL.out; omega
    have hfl3 : 15 ≤ fr.length := by have := HFL.out; omega
    obtain ⟨bs, hbs⟩ : ∃ bs : Nat, bs = 8 * (fr.length - 4) := ⟨_, rfl⟩
    have hbi : (8 : Int) * ((fr.length : Int) - 4) = (bs : Int) := by omega
    have hz : ∃ m : Nat, m < bs ∧ (at_.tmod (bs : Int) = (m : Int) ∨ at_.tmod (bs : Int) = (m : Int) - (bs : Int)) := by
      rcases tmod_at (n := (bs : Int)) (by omega) at_ with ⟨h1, h2⟩ | ⟨h1, h2, h3⟩
      · exact ⟨(at_.tmod (bs : Int)).toNat, by omega, .inl (by omega)⟩
      · exact ⟨(at_.tmod (bs : Int) + (bs : Int)).toNat, by omega, .inr (by omega)⟩
    obtain ⟨m, hm, hz⟩ := hz
    have hbsl : bs ≤ 8388696 := by omega
    have hbs0 : ((bs : Int) == 0) = false := by rw [beq_eq_false_iff_ne]; omega
    have HBS := Lib.hid hbs
    have hA1 : ∃ g, a1 = some ⟨g, 0, none⟩ ∧ w.heap.size ≤ g ∧ g < w2.heap.size := by
      rcases R2.out.2 with ⟨h1, h2⟩ | ⟨g, cap, cur, h1, h2, h3, _⟩
      · omega
      · exact ⟨g, by cases h1; rfl, h2, lt_of_block h3⟩
    obtain ⟨g, rfl, hgl, hgh⟩ := hA1
    clear hbs
    rcases hz with hz | hz
    case' inl => have t1 : decide ((m : Int) < 0) = false := by simp
    case' inr => have t1 : decide ((m : Int) - (bs : Int) < 0) = true := by simp; omega
    all_goals
      go_wp2_with fail
      (try rw [Int.sub_add_cancel])
      go_loopg [15, 16, 17] 32 (fun gk t v n wr => ∃ (i : Nat) (L : List Nat) (tb : Bool) (C : Nat), v = .int .i64 i ∧ 32 - i = gk ∧ i ≤ 32 ∧ t = .bool tb ∧ Turned fr m i L tb C ∧ Row w.heap.size wr (.slice (some ⟨g, 0, none⟩) L.length c1) L ∧ Upd [] w wr)
      case atStart => exact ⟨0, fr, false, 0, rfl, rfl, by omega, rfl, Turned.start m HFB.out, R2.out, U2.out⟩
      case round =>
        obtain ⟨i, L, tb, C, rfl, hg, hi, rfl, hT, hR, hU⟩ := hrel
        have HG := Lib.hid hg
        have HT := Lib.hid hT
        have HR := Lib.hid hR
        have HU := Lib.hid hU
        have hLl : L.length = fr.length := hT.len
        clear hg hT hR hU
        by_cases hlt : i < 32
        · have t2 : decide ((i : Int) < 32) = true := by simp; omega
          by_cases hin : m + i < bs
          · have t3 : decide ((m : Int) + (i : Int) < (bs : Int)) = true := by simp; omega
            obtain ⟨q, hq⟩ : ∃ q : Nat, q = chg / 2 ^ i := ⟨_, rfl⟩
            have hq1 : (chg : Int) / 2 ^ i = (q : Int) := by rw [hq]; simp
            have hq2 : q ≤ chg := by rw [hq]; exact Nat.div_le_self _ _
            clear hq
            obtain ⟨j, hj⟩ : ∃ j : Nat, j = m + i := ⟨_, rfl⟩
            have hj1 : (m : Int) + (i : Int) = (j : Int) := by omega
            have hjb : j < bs := by omega
            have t5 : decide ((j : Int) < (bs : Int)) = true := by simp; omega
            obtain ⟨j8, hj8⟩ : ∃ x, x = j / 8 := ⟨_, rfl⟩
            obtain ⟨jm, hjm⟩ : ∃ x, x = j % 8 := ⟨_, rfl⟩
            have hj2 : (j : Int) / 8 = (j8 : Int) := by omega
            have hj3 : (j : Int) % 8 = (jm : Int) := by omega
            have hjl : 4 + j8 < fr.length := by have := HBS.out; omega
            have hjm8 : jm < 8 := by omega
            have HJ : Hid (j = m + i ∧ j8 = j / 8 ∧ jm = j % 8) := Lib.hid ⟨hj, hj8, hjm⟩
            clear hj hj8 hjm
            rcases Nat.mod_two_eq_zero_or_one q with hb | hb
            · have t4 : ((q : Int) % 2 == 1) = false := by rw [beq_eq_false_iff_ne]; omega
              go_wp2_with fail
              go_roundg (32 - (i + 1))
              case measure => have := HG.out; omega
              case rel => exact ⟨i + 1, L, tb, C, by go_num, rfl, by omega, rfl, HT.out.skip, HR.out, HU.out⟩
            · have t4 : ((q : Int) % 2 == 1) = true := by rw [beq_iff_eq]; omega
              have hRW : wr.ownsRow w.heap.size 5 1 (.slice (some ⟨g, 0, none⟩) fr.length c1) fr.length (L.map bv) := by
                have h2 : wr.ownsRow w.heap.size 5 1 (.slice (some ⟨g, 0, none⟩) L.length c1) L.length (L.map bv) := HR.out
                rw [hLl] at h2
                exact h2
              obtain ⟨x, hx⟩ : ∃ x, L[4 + j8]? = some x := ⟨_, List.getElem?_eq_getElem (by omega)⟩
              have hx2 := HT.out.byte x (List.mem_of_getElem? hx)
              have k1 : wr.cell? ⟨g, 4 + j8, none⟩ = some (.int .u8 (x : Int)) := by
                rw [hRW.cellAt (4 + j8) (by omega), List.getElem?_map, hx]; rfl
              have k2 : wr.frozen? ⟨g, 4 + j8, none⟩ = false := hRW.frozenAt _
              have HX := Lib.hid hx
              have hxx : ∃ y : Nat, y = 2 ^ jm ∧ y < 256 := ⟨_, rfl, by have : 2 ^ jm ≤ 2 ^ 7 := Nat.pow_le_pow_right (by decide) (by omega); omega⟩
              obtain ⟨y, hy, hy2⟩ := hxx
              have HRW := Lib.hid hRW
              clear hx hRW
              go_wp2_with fail
              go_region
              go_wp2_with fail
              go_roundg (32 - (i + 1))
              case measure => have := HG.out; omega
              case rel =>
                have e1 : bits .xor .u8 (x : Int) ((2 : Int) ^ jm % 256) = ((x ^^^ 2 ^ jm : Nat) : Int) := by
                  have e2 : ((2 : Int) ^ jm % 256) = ((2 ^ jm : Nat) : Int) := by
                    rw [show (2 : Int) ^ jm = ((2 ^ jm : Nat) : Int) by simp, ← hy]; omega
                  rw [e2]
                  exact u8_xor_nat _ _ hx2 (by rw [← hy]; exact hy2)
                rw [e1]
                have hfl := HT.out.flip (x := x) (by rw [← HJ.out.1, ← HJ.out.2.1]; exact HX.out)
                rw [← HJ.out.1, ← HJ.out.2.1, ← HJ.out.2.2] at hfl
                have hr2 := (HRW.out.stored (4 + j8) (.int .u8 ((x ^^^ 2 ^ jm : Nat) : Int))).1
                refine ⟨i + 1, L.set (4 + j8) (x ^^^ 2 ^ jm), true, C + 2 ^ i, by go_num, rfl, by omega, rfl, hfl, ?_, (HU.out.setCell (.inr hgl) _).drew⟩
                have hr3 : Row w.heap.size (wr.setCell ⟨g, 4 + j8, none⟩ (.int .u8 ((x ^^^ 2 ^ jm : Nat) : Int))) (.slice (some ⟨g, 0, none⟩) (L.set (4 + j8) (x ^^^ 2 ^ jm)).length c1) (L.set (4 + j8) (x ^^^ 2 ^ jm)) := by
                  have e3 : (L.set (4 + j8) (x ^^^ 2 ^ jm)).map bv = (L.map bv).set (4 + j8) (.int .u8 ((x ^^^ 2 ^ jm : Nat) : Int)) := by rw [List.map_set]; rfl
                  show World.ownsRow _ _ _ _ _ _ _
                  rw [e3, List.length_set, hLl]; exact hr2
                exact (Upd.refl [] _).drew.row hr3 (by simp)
          · have t3 : decide ((m : Int) + (i : Int) < (bs : Int)) = false := by simp; omega
            go_wp2_with fail
            go_roundg (32 - (i + 1))
            case measure => have := HG.out; omega
            case rel => exact ⟨i + 1, L, tb, C, by go_num, rfl, by omega, rfl, HT.out.skip, HR.out, HU.out⟩
        · obtain rfl : i = 32 := by omega
          have HBYT : Hid (Bytes wr (w.heap.size ≤ ·) (some ⟨g, 0, none⟩) L) := Lib.hid (HR.out.bytes HT.out.byte rfl)
          cases tb with
          | false =>
            obtain ⟨hLfr, _⟩ := HT.out.none rfl
            subst hLfr
            have tu : ((15 + (body.length : Int)) == (L.length : Int)) = true := by rw [beq_iff_eq]; have := HFL.out; omega
            go_wp2_with fail
            refine (unframe_any _ (some ⟨g, 0, none⟩) c1 L wr HBYT.out hcap.1 (by omega)).mono ?_
            rintro e w3 ⟨u3, hun⟩
            rw [HFIND.out] at hun
            obtain ⟨v3, rfl, r3⟩ := hun
            have U3 := Lib.hid (HU.out.trans u3 (by simp))
            clear u3 r3
            go_wp2_with fail
            go_ret
            exact ⟨rfl, U3.out⟩
          | true =>
            have HW2 := Lib.hid (HWRONG.out m L C (by have := HBS.out; have := HFL.out; omega) HT.out)
            go_wp2_with fail
            rw [← hLl]
            refine (unframe_any _ (some ⟨g, 0, none⟩) c1 L wr HBYT.out (by omega) (by omega)).mono ?_
            rintro e w3 ⟨u3, hun⟩
            rw [HW2.out] at hun
            obtain rfl := hun
            have U3 := Lib.hid (HU.out.trans u3 (by simp))
            clear u3
            go_wp2_with fail
            go_ret
            exact ⟨rfl, U3.out⟩
  · have HM := Lib.hid hm
    clear hm
    go_enter Try.func3, Try.ntmps3
    go_wp2_with fail
    refine (frame_any _ k p a c body _ HB.out).mono ?_
    rintro e w1 ⟨u1, ⟨hno, _⟩ | ⟨_, rfl⟩⟩
    · exact absurd hno HM.out
    have U1 := Lib.hid u1
    clear u1
    go_wp2_with fail
    refine (known_true _).mono ?_
    rintro e w4 ⟨rfl, u4⟩
    have U4 := Lib.hid (U1.out.trans u4 (by simp))
    clear u4
    go_wp2_with fail
    go_ret
    exact ⟨rfl, U4.out⟩
end Go.Proofs.Ytpoplipjombdbaa
namespace Go.Proofs.Ytpoplipjombdbaa.codecErrors
open Go.ChangeShapes Go.WideShapes Go.ChangeAt Go.RowKit Go.Lb Go.Rc

set_option maxRecDepth 100000 in
theorem contract (H : Type) (enc : TypeId × Value → H) (W : World) (base : Nat) (args : Array Value) (ds gs : List (DataW H)) (before : List MemPlace)
    (hval : ∀ (j : Nat) t v, Try.f3.params[j]? = some t → args[j]? = some v → Value.okWide Try.prog W .any base t v)
    (hW : DataW.Whole enc Try.prog Try.f3.params.toList Rows.codecErrorsSpec.vars false W args.toList ds gs before)  :
    Calls Try.prog 3 args W fun e W' => ∃ v, e = .returned v ∧ Rows.codecErrorsSpec.post enc Try.prog Try.f3 false true false false W args v W' := by
  have hW' := hW
  obtain ⟨p, q, hA0, hV, rfl, hfz, hnd⟩ := hW
  have hA : DataW.TrodAll enc Try.prog W 0 (fun _ => true) true Try.f3.params.toList args.toList ds p := hA0
  rw [Try.params3] at hA hval
  obtain ⟨v0, vs0, d0, ds0, p0, q0, hargs, rfl, rfl, h0, r0⟩ := trodAll_cons hA
  obtain ⟨v1, vs1, d1, ds1, p1, q1, rfl, rfl, rfl, h1, r1⟩ := trodAll_cons r0
  obtain ⟨v2, vs2, d2, ds2, p2, q2, rfl, rfl, rfl, h2, r2⟩ := trodAll_cons r1
  obtain ⟨v3, vs3, d3, ds3, p3, q3, rfl, rfl, rfl, h3, r3⟩ := trodAll_cons r2
  obtain ⟨v4, vs4, d4, ds4, p4, q4, rfl, rfl, rfl, h4, r4⟩ := trodAll_cons r3
  obtain ⟨rfl, rfl, rfl⟩ := trodAll_nil r4
  obtain rfl : args = #[v0, v1, v2, v3, v4] := by cases args; simp_all
  obtain ⟨rfl, rfl⟩ := trodVars_none hV
  have k0 := h0
  have lt0 : ∀ x ∈ p0, x.block < W.heap.size := by obtain ⟨m, hm⟩ := k0; exact DataW.trod_lt m _ _ _ hm
  have k1 := h1
  have lt1 : ∀ x ∈ p1, x.block < W.heap.size := by obtain ⟨m, hm⟩ := k1; exact DataW.trod_lt m _ _ _ hm
  have k2 := h2
  have lt2 : ∀ x ∈ p2, x.block < W.heap.size := by obtain ⟨m, hm⟩ := k2; exact DataW.trod_lt m _ _ _ hm
  have k3 := h3
  have lt3 : ∀ x ∈ p3, x.block < W.heap.size := by obtain ⟨m, hm⟩ := k3; exact DataW.trod_lt m _ _ _ hm
  have k4 := h4
  have lt4 : ∀ x ∈ p4, x.block < W.heap.size := by obtain ⟨m, hm⟩ := k4; exact DataW.trod_lt m _ _ _ hm
  obtain ⟨x0, rfl, rfl, rfl, wx0⟩ := open_int Try.underlying3 (hval 0 3 v0 rfl rfl) h0
  obtain ⟨x1, rfl, rfl, rfl, wx1⟩ := open_int Try.underlying3 (hval 1 3 v1 rfl rfl) h1
  obtain ⟨a2, len2, cap2, rfl⟩ := okWide_slice Try.underlying22 (hval 2 22 v2 rfl rfl)
  obtain ⟨l2, rfl, hc2, hm2, hu2, hB2⟩ := arg_bytes Try.underlying22 Try.underlying5 (by kernel_rfl) h2
  obtain ⟨x3, rfl, rfl, rfl, wx3⟩ := open_int Try.underlying3 (hval 3 3 v3 rfl rfl) h3
  obtain ⟨z4, rfl, rfl, rfl, wx4⟩ := open_int Try.underlying23 (hval 4 23 v4 rfl rfl) h4
  rw [Lit.wf_int_iff] at wx4
  obtain ⟨x4, rfl⟩ : ∃ n : Nat, z4 = n := ⟨z4.toNat, (Int.toNat_of_nonneg wx4.1).symm⟩
  have hx4 : x4 < 4294967296 := by have h : ((x4 : Nat) : Int) ≤ 4294967295 := wx4.2; omega
  clear hA0
  refine (errors_ok _ x0 x1 x3 x4 a2 cap2 l2 W hB2 hx4).mono fun e W' ⟨he, bel⟩ => ?_
  subst he
  exact ⟨_, rfl, _, _, _, [], _, [], hW', trodAll_mk1 (shut_bool Try.underlying4 _), (trodAll_cons_mk (Below.trod Try.laidOut (by kernel_rfl) (of_decide_eq_true (by kernel_rfl)) k0 bel.below lt0) (trodAll_cons_mk (Below.trod Try.laidOut (by kernel_rfl) (of_decide_eq_true (by kernel_rfl)) k1 bel.below lt1) (trodAll_cons_mk (Below.trod Try.laidOut (by kernel_rfl) (of_decide_eq_true (by kernel_rfl)) k2 bel.below lt2) (trodAll_cons_mk (Below.trod Try.laidOut (by kernel_rfl) (of_decide_eq_true (by kernel_rfl)) k3 bel.below lt3) (trodAll_cons_mk (Below.trod Try.laidOut (by kernel_rfl) (of_decide_eq_true (by kernel_rfl)) k4 bel.below lt4) trodAll_mk0))))), rfl, bel.below.frame _, fun h => by cases h⟩

set_option maxRecDepth 100000 in
theorem lifted (os : Os) (started : os.Started) (H : Type) (enc : TypeId × Value → H) :
    ReturnsInHanded {} Try.checked os 3 .any (Rows.codecErrorsSpec.pre6 enc Try.prog Try.f3 Rows.codecErrorsRow.domain false) (Rows.codecErrorsSpec.post enc Try.prog Try.f3 false true false false) := by
  refine returnsInHanded_of_change (C := Try.checked) Try.own started (by kernel_rfl) Try.func3
    (ChangeSpec.witness6 (enc := enc) (C := Try.checked) false ⟨#[], #[.int .i64 0, .int .i64 0, .slice none 0 0, .int .i64 0, .int .u32 0], []⟩ 8 (by kernel_rfl) (by kernel_rfl) (by kernel_rfl) (by kernel_rfl)) ?_
  intro W base args ds gs before hval hW hcnd _
  exact contract H enc W base args ds gs before hval hW

theorem closed : joinedFacts Try.prog 3 Try.f3 Rows.codecErrorsSpec Rows.codecErrorsRow = true := by
  unfold joinedFacts
  rw [Try.words1, Try.words2, Try.words3]
  kernel_rfl

theorem proved : Rows.CodecErrorsSaid :=
  OpenClaim.holds_of_wide 3 Try.f3 rfl rfl rfl rfl rfl rfl rfl ⟨rfl, rfl, rfl, rfl, rfl⟩ rfl rfl rfl rfl rfl (by kernel_rfl) Try.func3 closed
    (of_decide_eq_true (by kernel_rfl)) (by unfold Func.isWrapper; first | (rw [if_pos (by decide +kernel)]; kernel_rfl) | (rw [if_neg (by decide +kernel)]; exact ⟨rfl, rfl⟩))
    (fun os started H enc _ => lifted os started H enc)
#print axioms proved
end Go.Proofs.Ytpoplipjombdbaa.codecErrors
