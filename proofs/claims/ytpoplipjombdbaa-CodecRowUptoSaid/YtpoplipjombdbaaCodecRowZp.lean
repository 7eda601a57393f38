/- CodecRow returns true for every input of bulk at most 1048576, and the input reads afterwards as it did. Condition: the bulk. -/
import Derived.Test.YtpoplipjombdbaaZae
set_option linter.unusedVariables false
set_option linter.unusedSimpArgs false
/- law01's CodecRow, walked. -/
namespace Go.Rc
open Go Go.RowKit Go.Lb
/-- A list of bytes that came in, opened. -/
theorem raws_of {w : World} {ok : Nat → Prop} {a : Option Addr} {c : Nat} : ∀ (n : Nat) (L : List Val), L.length = n → (∀ (i : Nat) (x : Val), L[i]? = some x → ∃ us, Sch.raw.Rep w ok us x) → ∃ Ls : List (List Nat), L = Ls.map Val.raw
  | 0, L, h, _ => ⟨[], by rw [List.eq_nil_of_length_eq_zero h]; rfl⟩
  | n + 1, [], h, _ => by simp at h
  | n + 1, x :: L, h, hr => by
    obtain ⟨us, a', c', l, _, rfl, _⟩ := hr 0 x rfl
    obtain ⟨Ls, rfl⟩ := raws_of (w := w) (ok := ok) (a := a) (c := c) n L (by simpa using h) (fun i y hy => hr (i + 1) y (by simpa using hy))
    exact ⟨l :: Ls, rfl⟩
/-- The slices of a list of bytes, and their bytes. -/
def Slices (w : World) (a : Option Addr) (Ls : List (List Nat)) : Prop := ∀ i l, Ls[i]? = some l → ∃ b o a1 c1, a = some ⟨b, o, none⟩ ∧ w.cell? ⟨b, o + i, none⟩ = some (.slice a1 l.length c1) ∧ Bytes w (· < w.heap.size) a1 l
theorem slices_of {w : World} {cs : List Value} {v : Val} (h : (Sch.list .raw).Rep w (· < w.heap.size) cs v) : ∃ a c Ls, cs = [.slice a Ls.length c] ∧ Slices w a Ls ∧ (Sch.list .raw).wmax v = 6 + (Ls.map fun l => 6 + l.length).sum := by
  obtain ⟨a, c, L, rfl, rfl, h⟩ := h
  obtain ⟨Ls, rfl⟩ := raws_of (a := a) (c := c) (w := w) (ok := (· < w.heap.size)) _ L rfl (fun i x hx => by
    obtain ⟨b, o, us, _, _, _, _, h5⟩ := h i x hx
    exact ⟨us, h5⟩)
  refine ⟨a, c, Ls, by simp, fun i l hl => ?_, ?_⟩
  · obtain ⟨b, o, us, rfl, _, _, h4, h5⟩ := h i (.raw l) (by rw [List.getElem?_map, hl]; rfl)
    obtain ⟨a1, c1, l1, rfl, hv, h6⟩ := h5
    cases hv
    refine ⟨b, o, a1, c1, rfl, ?_, h6⟩
    have := h4 0 _ rfl
    simpa [Sch.size] using this
  · simp only [Sch.wmax, List.map_map]; rfl
theorem Slices.upd {w w' : World} {a : Option Addr} {Ls : List (List Nat)} (h : Slices w a Ls) (u : Upd [] w w') : Slices w' a Ls := fun i l hl => by
  obtain ⟨b, o, a1, c1, h1, h2, h3⟩ := h i l hl
  have hb : b < w.heap.size := block_lt_of_cell h2
  exact ⟨b, o, a1, c1, h1, by rw [u.cell (a := ⟨b, o + i, none⟩) hb (by simp)]; exact h2, h3.keep (fun k hk hl => ⟨Nat.lt_of_lt_of_le hl u.size, u.block k hl (by simp)⟩) u.size⟩
end Go.Rc
namespace Go.Crc
open Go.Rc
/-- Frames one behind the other: m of them from the i-th on. -/
def line (first : Nat) (B : Nat → List Nat) : Nat → Nat → List Nat
  | _, 0 => []
  | i, m + 1 => frame (i % 256) (first + i) (B i) ++ line first B (i + 1) m
theorem line_snoc (f : Nat) (B : Nat → List Nat) : ∀ (m i : Nat), line f B i (m + 1) = line f B i m ++ frame ((i + m) % 256) (f + (i + m)) (B (i + m))
  | 0, i => by simp [line]
  | m + 1, i => by
    rw [line, line_snoc f B m (i + 1), line, List.append_assoc, show i + 1 + m = i + (m + 1) by omega]
theorem line_len (f : Nat) (Ls : List (List Nat)) : ∀ i, i ≤ Ls.length → (line f (fun i => Ls.getD i []) 0 i).length ≤ 3 * ((Ls.take i).map fun l => 6 + l.length).sum
  | 0, _ => by simp [line]
  | i + 1, h => by
    have ih := line_len f Ls i (by omega)
    have hx : Ls[i]? = some (Ls[i]'(by omega)) := List.getElem?_eq_getElem (by omega)
    rw [line_snoc, Lb.take_snoc hx, List.length_append, frame_len, List.map_append, List.sum_append]
    simp only [Nat.zero_add, List.getD_eq_getElem?_getD, hx, Option.getD_some, List.map_cons, List.map_nil, List.sum_cons, List.sum_nil] at ih ⊢
    omega
theorem line_le (f : Nat) (Ls : List (List Nat)) {i : Nat} (h : i ≤ Ls.length) : (line f (fun i => Ls.getD i []) 0 i).length ≤ 3 * (Ls.map fun l => 6 + l.length).sum := by
  have h1 := line_len f Ls i h
  have h2 := sum_take (Ls.map fun l => 6 + l.length) i
  rw [← List.map_take] at h2
  omega
theorem many_le (Ls : List (List Nat)) : 6 * Ls.length ≤ (Ls.map fun l => 6 + l.length).sum := by
  induction Ls with
  | nil => simp
  | cons l r ih => simp only [List.length_cons, List.map_cons, List.sum_cons]; omega
theorem line_byte {f : Nat} {B : Nat → List Nat} : ∀ (m i : Nat), (∀ j, i ≤ j → j < i + m → Fits (j % 256) (f + j) (B j)) → ∀ x ∈ line f B i m, x < 256
  | 0, i, _, x, hx => by simp [line] at hx
  | m + 1, i, h, x, hx => by
    rw [line] at hx
    rcases List.mem_append.1 hx with hx | hx
    · exact frame_byte (h i (by omega) (by omega)) x hx
    · exact line_byte m (i + 1) (fun j h1 h2 => h j (by omega) (by omega)) x hx
end Go.Crc
namespace Go.Proofs.Ytpoplipjombdbaa
open Go.RowKit Go.Lb Go.Rc Go.Crc

set_option maxRecDepth 20000 in
set_option maxHeartbeats 1000000 in
theorem line_ok (a : Option Addr) (c : Nat) (Ls : List (List Nat)) (from_ : Int) (w : World) (hs : Slices w a Ls) (hl : (Ls.map fun l => 6 + l.length).sum ≤ 6291456) :
    Calls Try.prog 4 #[.slice a Ls.length c, .int .i64 from_] w fun e w' => e = .returned (.bool true) ∧ Upd [] w w' := by
  obtain ⟨i5, hi5, hz0, hz1, hz2⟩ := infoU8
  have HTT : Hid (Try.prog.underlying 22 = some (.slice (Try.prog.elem 22))) := Lib.hid <| by rw [Try.elem22]; exact Try.underlying22
  have HS := Lib.hid hs
  obtain ⟨B, hB⟩ : ∃ B, B = fun i => Ls.getD i [] := ⟨_, rfl⟩
  obtain ⟨n, hn⟩ : ∃ n, n = Ls.length := ⟨_, rfl⟩
  have hml := many_le Ls
  have hn2 : n ≤ 1048576 := by omega
  have HBI : Hid (∀ i, i < n → Ls[i]? = some (B i)) := Lib.hid (fun i hi => by
    rw [hB]
    show _ = some (Ls.getD i [])
    rw [List.getD_eq_getElem?_getD, List.getElem?_eq_getElem (by omega)]; rfl)
  have HLL : Hid (∀ f i, i ≤ n → (line f B 0 i).length ≤ 18874368) := Lib.hid (fun f i hi => by
    have := line_le f Ls (i := i) (by omega)
    rw [← hB] at this
    omega)
  rw [← hn]
  clear hs hl hB hn hml
  obtain ⟨f, z, hf2, hzt, hz⟩ : ∃ (f : Nat) (z : Int), f ≤ 1000000 ∧ from_.tmod 1000000 = z ∧ (z = (f : Int) ∨ (z = -(f : Int) ∧ 0 < f)) := by
    rcases tmod_at (n := 1000000) (by omega) from_ with ⟨h1, h2⟩ | ⟨h1, h2, h3⟩
    · exact ⟨(from_.tmod 1000000).toNat, _, by omega, rfl, .inl (by omega)⟩
    · exact ⟨(-(from_.tmod 1000000)).toNat, _, by omega, rfl, .inr ⟨by omega, by omega⟩⟩
  have HMAY : Hid (∀ i, i < n → (B i).length ≤ 1048576 → MayFrame ((i : Int) % 256) ((f : Int) + (i : Int)) (B i)) := Lib.hid (fun i hi h => ⟨by omega, by omega, by omega, by omega, h⟩)
  have HFITS : Hid (∀ i, i < n → (B i).length ≤ 1048576 → (∀ x ∈ B i, x < 256) → Fits (i % 256) (f + i) (B i)) := Lib.hid (fun i hi h hb => ⟨by omega, by omega, h, hb⟩)
  rcases hz with rfl | ⟨rfl, h0⟩
  case' inl => have t1 : decide ((f : Int) < 0) = false := by simp
  case' inr =>
    have t1 : decide (-(f : Int) < 0) = true := by simp; omega
    have t1' : decide (0 < f) = true := by simpa using h0
  all_goals
    go_enter Try.func4, Try.ntmps4
    go_wp2_with fail
    (try rw [Int.neg_neg])
    go_loopg [6, 7] n (fun g s t wr => ∃ i : Nat, t = .int .i64 i ∧ n - i = g ∧ i ≤ n ∧ (∀ j, j < i → (B j).length ≤ 1048576) ∧ Row w.heap.size wr s (line f B 0 i) ∧ Upd [] w wr)
    case atStart => exact ⟨0, rfl, rfl, by omega, fun j hj => by omega, Row.nil _ _, Upd.refl _ _⟩
    case round =>
      obtain ⟨i, rfl, hg, hi, hfit, hR, hU⟩ := hrel
      have HG := Lib.hid hg
      have HFT := Lib.hid hfit
      have HR := Lib.hid hR
      have HU := Lib.hid hU
      have hLl := HLL.out f i hi
      have hsz := hU.size
      obtain ⟨a0, c0, rfl⟩ := hR.shape
      clear hg hfit hR hU
      by_cases hlt : i < n
      · have t2 : decide ((i : Int) < (n : Int)) = true := by simp; omega
        obtain ⟨b, o, a1, c1, rfl, k1, k3⟩ := HS.out.upd HU.out i (B i) (HBI.out i hlt)
        have HBY := Lib.hid k3
        clear k3
        by_cases hbl : (B i).length ≤ 1048576
        · have HM := Lib.hid (HMAY.out i hlt hbl)
          go_wp2_with fail
          refine (frame_any _ ((i : Int) % 256) ((f : Int) + (i : Int)) a1 c1 (B i) _ HBY.out).mono ?_
          rintro e w1 ⟨u1, ⟨_, v1, rfl, r1⟩ | ⟨hno, _⟩⟩
          rotate_left
          · exact absurd HM.out hno
          have hfr : frame ((i : Int) % 256).toNat ((f : Int) + (i : Int)).toNat (B i) = frame (i % 256) (f + i) (B i) := by
            congr 1
          rw [hfr] at r1
          obtain ⟨a2, c2, rfl⟩ := r1.shape
          obtain ⟨ln, hln⟩ : ∃ ln, ln = line f B 0 i := ⟨_, rfl⟩
          obtain ⟨fr, hfr2⟩ : ∃ fr, fr = frame (i % 256) (f + i) (B i) := ⟨_, rfl⟩
          have hfl : fr.length = 15 + (B i).length := by rw [hfr2, frame_len]
          have HSN : Hid (line f B 0 (i + 1) = ln ++ fr) := Lib.hid (by rw [line_snoc, Nat.zero_add, hln, hfr2])
          have HFB : Hid (∀ x ∈ fr, x < 256) := Lib.hid (by rw [hfr2]; exact frame_byte (HFITS.out i hlt hbl (bytes_lt HBY.out)))
          rw [← hln] at HR hLl
          rw [← hfr2] at r1
          have U1 := Lib.hid (HU.out.trans u1 (by simp))
          have s1 := U1.out.size
          have HR1 : Hid (Row w.heap.size w1 (.slice a0 ln.length c0) ln) := Lib.hid (u1.row HR.out (by simp))
          have HB1 : Hid (Bytes w1 (wr.heap.size ≤ ·) a2 fr) := Lib.hid (r1.bytes HFB.out rfl)
          obtain ⟨v5, w5, hrun, hown, hg, hv⟩ := append_bytes (P := Try.prog) (ty := 22) (c := c2) Try.underlying22 hi5 hz0 hz1 hz2 rfl HR1.out HB1.out (by omega) s1
          have R5 : Hid (Row w.heap.size w5 v5 (ln ++ fr)) := Lib.hid (Row.mk hown)
          have U5 : Hid (Upd [] w w5) := Lib.hid (U1.out.grown hg (fun k hk => .inr (own_lo HR1.out hk).1))
          have HRUN := Lib.hid hrun
          have hff : ∀ j, j < i + 1 → (B j).length ≤ 1048576 := fun j hj => by
            by_cases e : j = i
            · subst e; exact hbl
            · exact HFT.out j (by omega)
          have HFF := Lib.hid hff
          rw [← hfr2, ← hln]
          clear hrun hown hg hv u1 r1 hfr hff k1 hfr2 hln hfl
          go_wp2_with (at_builtin; refine wpList_run rfl (exec_append (by rfl) (by rfl) (by rfl) HRUN.out) ?_)
          go_roundg (n - (i + 1))
          case measure => have := HG.out; omega
          case rel => exact ⟨i + 1, by go_num, rfl, by omega, HFF.out, by rw [HSN.out]; exact R5.out, U5.out⟩
        · have t3 : decide ((1048576 : Int) < ((B i).length : Int)) = true := by simp; omega
          go_wp2_with fail
          refine (frame_any _ ((i : Int) % 256) ((f : Int) + (i : Int)) a1 c1 (B i) _ HBY.out).mono ?_
          rintro e w1 ⟨u1, ⟨hm, _⟩ | ⟨_, rfl⟩⟩
          · exact absurd hm.2.2.2.2 hbl
          have U1 := Lib.hid (HU.out.trans u1 (by simp))
          have q1 : w1.cell? ⟨b, o + i, none⟩ = some (.slice a1 (B i).length c1) := (u1.cell (a := ⟨b, o + i, none⟩) (block_lt_of_cell k1) (by simp)).trans k1
          clear u1 k1
          go_wp2_with fail
          go_ret
          exact ⟨rfl, U1.out⟩
      · obtain rfl : i = n := by omega
        obtain ⟨l0, hl0⟩ : ∃ l0, l0 = line f B 0 i := ⟨_, rfl⟩
        have HB0 : Hid (Bytes wr (fun _ => True) a0 l0) := Lib.hid (by
          rw [hl0]
          have := line_byte (f := f) (B := B) i 0 (fun j _ hj => HFITS.out j (by omega) (HFT.out j (by omega)) (by
            obtain ⟨b, o, a1, c1, _, _, k3⟩ := HS.out j (B j) (HBI.out j (by omega))
            exact bytes_lt k3))
          exact (HR.out.bytes this rfl).keep (fun k hk hl => ⟨trivial, rfl⟩) (Nat.le_refl _))
        have HL0 : Hid (l0 = line f B 0 i) := Lib.hid hl0
        rw [← hl0] at hLl
        have hc0 : l0.length ≤ c0 := by rw [hl0]; exact HR.out.cap.1
        rw [← hl0]
        clear hl0
        go_wp2_with fail
        go_loopg [6, 10] i (fun g s t w2 => ∃ (k : Nat) (l : List Nat) (a2 : Option Addr) (c2 : Nat), t = .int .i64 k ∧ s = .slice a2 l.length c2 ∧ i - k = g ∧ k ≤ i ∧ l = line f B k (i - k) ∧ l.length ≤ 18874368 ∧ l.length ≤ c2 ∧ Bytes w2 (fun _ => True) a2 l ∧ Upd [] w w2)
        case atStart => exact ⟨0, l0, a0, c0, rfl, rfl, rfl, by omega, HL0.out, hLl, hc0, HB0.out, HU.out⟩
        case round =>
          obtain ⟨k, l, a2, c2, rfl, rfl, hg, hk, hl, hll, hlc, hB2, hU2⟩ := hrel
          have HG2 := Lib.hid hg
          have HB2 := Lib.hid hB2
          have HU2 := Lib.hid hU2
          clear hg hB2 hU2
          by_cases hlt : k < i
          · have t2 : decide ((k : Int) < (i : Int)) = true := by simp; omega
            obtain ⟨m, hm⟩ : ∃ m, i - k = m + 1 := ⟨i - k - 1, by omega⟩
            rw [hm, line] at hl
            obtain ⟨b, o, a1, c1, rfl, k1, k3⟩ := HS.out.upd HU2.out k (B k) (HBI.out k (by omega))
            have hbl := HFT.out k (by omega)
            have HBY := Lib.hid k3
            have hft := HFITS.out k (by omega) hbl (bytes_lt k3)
            have HFIND : Hid (find l = .whole (k % 256) (f + k) (B k)) := Lib.hid (by rw [hl]; exact find_frame hft _)
            have hln : 15 + (B k).length ≤ l.length := by rw [hl, List.length_append, frame_len]; omega
            have HDR : Hid (l.drop (15 + (B k).length) = line f B (k + 1) (i - (k + 1))) := Lib.hid (by
              rw [hl, show i - (k + 1) = m by omega, List.drop_append, List.drop_of_length_le (by rw [frame_len]; omega), frame_len, Nat.sub_self]; rfl)
            clear k3 hft hl hm
            go_wp2_with fail
            with_reducible refine (unframe_any _ a2 c2 l wr HB2.out hlc (by omega)).mono ?_
            rintro e w3 ⟨u3, hun⟩
            rw [HFIND.out] at hun
            obtain ⟨v3, rfl, r3⟩ := hun
            obtain ⟨a3, c3, rfl⟩ := r3.shape
            have U3 := Lib.hid (HU2.out.trans u3 (by simp))
            have HBY3 := Lib.hid (r3.bytes (bytes_lt HBY.out) rfl)
            have HBK3 := Lib.hid (HBY.out.keep (ok' := fun _ => True) (fun k hk hl => ⟨trivial, u3.block k hl (by simp)⟩) u3.size)
            have HB3 := Lib.hid (HB2.out.upd u3 (by simp))
            have q1 : w3.cell? ⟨b, o + k, none⟩ = some (.slice a1 (B k).length c1) := (u3.cell (a := ⟨b, o + k, none⟩) (block_lt_of_cell k1) (by simp)).trans k1
            have t3 : decide (15 + ((B k).length : Int) < 15) = false := by simp; omega
            have t4 : decide ((l.length : Int) < 15 + ((B k).length : Int)) = false := by simp; omega
            have t5 : (((k % 256 : Nat) : Int) == (k : Int) % 256) = true := by rw [beq_iff_eq]; omega
            have t6 : (((f + k : Nat) : Int) == (f : Int) + (k : Int)) = true := by rw [beq_iff_eq]; omega
            clear u3 r3 k1
            go_wp2_with fail
            with_reducible refine (same_any _ _ a3 a1 c3 c1 (B k) (B k) _ HBY3.out HBK3.out (by omega)).mono ?_
            rintro e w4 ⟨rfl, u4⟩
            have U4 := Lib.hid (U3.out.trans u4 (by simp))
            have HB4 := Lib.hid (HB3.out.upd u4 (by simp))
            rw [show (B k == B k) = true by simp]
            clear u4
            go_wp2_with (refine wpList_run (o := ⟨some 102, .slice 22 (.tmp 100) (some (.tmp 101)) none none, _, _, _, _⟩) rfl (exec_sliceAt (by rfl) (by rfl) (by rfl) (by rfl) (sub_l HTT.out Try.elem22 hi5 hz1 (lo := 15 + (B k).length) (by first | rfl | omega) (by omega))) ?_)
            go_roundg (i - (k + 1))
            case measure => have := HG2.out; omega
            case rel => exact ⟨k + 1, l.drop (15 + (B k).length), suba a2 (15 + (B k).length) c2, c2 - (15 + (B k).length), by go_num, by rw [List.length_drop], rfl, by omega, HDR.out, by rw [List.length_drop]; omega, by rw [List.length_drop]; omega, suba_from HB4.out _ hlc, U4.out⟩
          · obtain rfl : k = i := by omega
            obtain rfl : l = [] := by rw [hl, Nat.sub_self]; rfl
            clear hl hll hlc
            go_wp2_with fail
            refine (known_true _).mono ?_
            rintro e w4 ⟨rfl, u4⟩
            have U4 := Lib.hid (HU2.out.trans u4 (by simp))
            clear u4
            go_wp2_with fail
            go_ret
            exact ⟨rfl, U4.out⟩
end Go.Proofs.Ytpoplipjombdbaa
namespace Go.Proofs.Ytpoplipjombdbaa.codecRow
open Go.ChangeShapes Go.WideShapes Go.ChangeAt Go.RowKit Go.Lb Go.Rc

set_option maxRecDepth 100000 in
theorem contract (H : Type) (enc : TypeId × Value → H) (W : World) (base : Nat) (args : Array Value) (ds gs : List (DataW H)) (before : List MemPlace)
    (hval : ∀ (j : Nat) t v, Try.f4.params[j]? = some t → args[j]? = some v → Value.okWide Try.prog W .any base t v)
    (hW : DataW.Whole enc Try.prog Try.f4.params.toList Rows.codecRowSpec.vars false W args.toList ds gs before) (hk : Rows.uptoSmall H (ds ++ gs) = true) :
    Calls Try.prog 4 args W fun e W' => ∃ v, e = .returned v ∧ Rows.codecRowSpec.post enc Try.prog Try.f4 false true false false W args v W' := by
  have hW' := hW
  obtain ⟨p, q, hA0, hV, rfl, hfz, hnd⟩ := hW
  have hA : DataW.TrodAll enc Try.prog W 0 (fun _ => true) true Try.f4.params.toList args.toList ds p := hA0
  rw [Try.params4] at hA hval
  obtain ⟨v0, vs0, d0, ds0, p0, q0, hargs, rfl, rfl, h0, r0⟩ := trodAll_cons hA
  obtain ⟨v1, vs1, d1, ds1, p1, q1, rfl, rfl, rfl, h1, r1⟩ := trodAll_cons r0
  obtain ⟨rfl, rfl, rfl⟩ := trodAll_nil r1
  obtain rfl : args = #[v0, v1] := by cases args; simp_all
  obtain ⟨rfl, rfl⟩ := trodVars_none hV
  have k0 := h0
  have lt0 : ∀ x ∈ p0, x.block < W.heap.size := by obtain ⟨m, hm⟩ := k0; exact DataW.trod_lt m _ _ _ hm
  have k1 := h1
  have lt1 : ∀ x ∈ p1, x.block < W.heap.size := by obtain ⟨m, hm⟩ := k1; exact DataW.trod_lt m _ _ _ hm
  have hb := bulk_of hk
  simp only [List.append_nil, List.nil_append, List.cons_append, Rows.uptoBulkAll, Nat.add_zero] at hb
  obtain ⟨a0, len0, cap0, rfl⟩ := okWide_slice Try.underlying31 (hval 0 31 v0 rfl rfl)
  obtain ⟨y0, hr0, hu0⟩ := arg_list (m := 20) (s := .list .raw) (by kernel_rfl) h0
  obtain ⟨b0, c0, Ls0, hcs0, hsl0, hwm0⟩ := slices_of hr0
  simp only [List.cons.injEq, Value.slice.injEq, and_true] at hcs0
  obtain ⟨rfl, rfl, rfl⟩ := hcs0
  obtain ⟨x1, rfl, rfl, rfl, wx1⟩ := open_int Try.underlying3 (hval 1 3 v1 rfl rfl) h1
  clear hA0
  refine (line_ok a0 cap0 Ls0 x1 W hsl0 (by omega)).mono fun e W' ⟨he, bel⟩ => ?_
  subst he
  exact ⟨_, rfl, _, _, _, [], _, [], hW', trodAll_mk1 (shut_bool Try.underlying4 _), (trodAll_cons_mk (Below.trod Try.laidOut (by kernel_rfl) (of_decide_eq_true (by kernel_rfl)) k0 bel.below lt0) (trodAll_cons_mk (Below.trod Try.laidOut (by kernel_rfl) (of_decide_eq_true (by kernel_rfl)) k1 bel.below lt1) trodAll_mk0)), rfl, bel.below.frame _, fun h => by cases h⟩

set_option maxRecDepth 100000 in
theorem lifted (os : Os) (started : os.Started) (H : Type) (enc : TypeId × Value → H) (F : Stop.Interp) :
    ReturnsInHanded {} Try.checked os 4 .any ((Rows.OpenSpec.upto Rows.codecRowSpec).pre6 enc Try.prog Try.f4 Rows.codecRowUptoRow.domain false) (((Rows.OpenSpec.upto Rows.codecRowSpec).at F).post enc Try.prog Try.f4 false true false false) := by
  refine returnsInHanded_of_cond (C := Try.checked) (s := Rows.OpenSpec.upto Rows.codecRowSpec) (k := Rows.uptoSmall) rfl Try.own started (by kernel_rfl) Try.func4
    (OpenSpec.witness (enc := enc) (C := Try.checked) (s := Rows.OpenSpec.upto Rows.codecRowSpec) (k := Rows.uptoSmall) rfl false ⟨#[], #[.slice none 0 0, .int .i64 0], []⟩ 8 (by kernel_rfl) (by kernel_rfl) (by kernel_rfl)
      (x := ([.nil, .lit (.int .i64 0)], [], [])) (by kernel_rfl) rfl (by kernel_rfl)) ?_
  intro W base args ds gs before hval hW _ hk _
  exact contract H enc W base args ds gs before hval hW hk

theorem closed : joinedFacts Try.prog 4 Try.f4 (Rows.OpenSpec.upto Rows.codecRowSpec).bare Rows.codecRowUptoRow = true := by
  unfold joinedFacts
  rw [Try.words1, Try.words2, Try.words3]
  kernel_rfl

theorem proved : Rows.CodecRowUptoSaid :=
  OpenClaim.holds_of_cond 4 Try.f4 rfl rfl rfl rfl rfl rfl rfl ⟨rfl, rfl, rfl, rfl, rfl⟩ rfl rfl rfl rfl rfl (by kernel_rfl) Try.func4 closed
    (of_decide_eq_true (by kernel_rfl)) (by unfold Func.isWrapper; first | (rw [if_pos (by decide +kernel)]; kernel_rfl) | (rw [if_neg (by decide +kernel)]; exact ⟨rfl, rfl⟩))
    (fun os started H enc _ F => lifted os started H enc F)
#print axioms proved
end Go.Proofs.Ytpoplipjombdbaa.codecRow
