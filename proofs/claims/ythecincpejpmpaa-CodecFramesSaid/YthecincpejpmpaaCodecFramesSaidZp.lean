/- CodecFrames returns true for every input, and the input reads afterwards as it did. No condition. -/
import Derived.Test.YthecincpejpmpaaZfh
import Derived.SizedLaws
set_option linter.unusedVariables false
set_option linter.unusedSimpArgs false
/- law01's CodecFrames, walked. -/
namespace Go.Proofs.Ythecincpejpmpaa
open Go.RowKit Go.Lb Go.Rc Go.Crc
theorem may_fits {k p : Int} {body : List Nat} (h : MayFrame k p body) (hb : ∀ x ∈ body, x < 256) : Fits k.toNat p.toNat body := by
  obtain ⟨h1, h2, h3, h4, h5⟩ := h
  exact ⟨by omega, by omega, by omega, hb⟩
theorem bytes_lt {w : World} {ok : Nat → Prop} {a : Option Addr} {l : List Nat} (h : Bytes w ok a l) : ∀ x ∈ l, x < 256 := fun x hx => by
  obtain ⟨i, hi⟩ := List.mem_iff_getElem?.1 hx
  exact (h i x hi).1

set_option maxRecDepth 20000 in
set_option maxHeartbeats 4000000 in
theorem frames_no (ok ok2 : Nat → Prop) (k p : Int) (a a2 : Option Addr) (c c2 n2 : Nat) (body : List Nat) (w : World) (hb : Bytes w ok a body) (hm : ¬ MayFrame k p body) :
    Calls Try.prog 3 #[.int .i64 k, .int .i64 p, .slice a body.length c, .slice a2 n2 c2] w fun e w' => e = .returned (.bool true) ∧ Upd [] w w' := by
  have HB := Lib.hid hb
  have HM := Lib.hid hm
  clear hb hm
  go_enter Try.func3, Try.ntmps3
  go_wp2_with fail
  refine (frame_any _ k p a c body _ HB.out).mono ?_
  rintro e w1 ⟨u1, ⟨hno, _⟩ | ⟨_, rfl⟩⟩
  · exact absurd hno HM.out
  have U1 := Lib.hid u1
  clear u1
  go_wp2_with fail
  refine (rframe_any _ k p a c body _ (HB.out.upd U1.out (by simp))).mono ?_
  rintro e w2 ⟨u2, ⟨hno, _⟩ | ⟨_, rfl⟩⟩
  · exact absurd hno HM.out
  have U2 := Lib.hid (U1.out.trans u2 (by simp))
  clear u2
  go_wp2_with fail
  refine (same_any (fun _ => True) (fun _ => True) none none 0 0 [] [] _ (Bytes.nil _ _ _) (Bytes.nil _ _ _) (by simp)).mono ?_
  rintro e w3 ⟨rfl, u3⟩
  have U3 := Lib.hid (U2.out.trans u3 (by simp))
  clear u3
  rw [show (([] : List Nat) == []) = true by rfl]
  go_wp2_with fail
  refine (known_true _).mono ?_
  rintro e w4 ⟨rfl, u4⟩
  have U4 := Lib.hid (U3.out.trans u4 (by simp))
  clear u4
  go_wp2_with fail
  go_ret
  exact ⟨rfl, U4.out⟩

set_option maxRecDepth 20000 in
set_option maxHeartbeats 4000000 in
theorem frames_yes (ok ok2 : Nat → Prop) (k p : Nat) (a a2 : Option Addr) (c c2 : Nat) (body behind : List Nat) (w : World) (hb : Bytes w ok a body) (hb2 : Bytes w ok2 a2 behind) (hs : behind.length ≤ 140737488351232) (hm : MayFrame (k : Int) (p : Int) body) :
    Calls Try.prog 3 #[.int .i64 (k : Int), .int .i64 (p : Int), .slice a body.length c, .slice a2 behind.length c2] w fun e w' => e = .returned (.bool true) ∧ Upd [] w w' := by
  obtain ⟨i5, hi5, hz0, hz1, hz2⟩ := infoU8
  have HB := Lib.hid hb
  have HB2 := Lib.hid hb2
  have HM := Lib.hid hm
  have hbl : body.length ≤ 1048576 := hm.2.2.2.2
  clear hb hb2 hm
  obtain ⟨fr, hfr⟩ : ∃ fr, fr = frame k p body := ⟨_, rfl⟩
  have fits : Fits k p body := by
    have := may_fits HM.out (bytes_lt HB.out)
    rwa [Int.toNat_natCast, Int.toNat_natCast] at this
  have HFB : Hid (∀ x ∈ fr, x < 256) := Lib.hid (by rw [hfr]; exact frame_byte fits)
  have HFIND : Hid (find (fr ++ behind) = .whole k p body) := Lib.hid (by rw [hfr]; exact find_frame fits behind)
  have hfl : fr.length = 15 + body.length := by rw [hfr, frame_len]
  have HFR := Lib.hid hfr
  have HFL := Lib.hid hfl
  clear hfr fits hfl
  go_enter Try.func3, Try.ntmps3
  go_wp2_with fail
  refine (frame_any _ (k : Int) (p : Int) a c body _ HB.out).mono ?_
  rintro e w1 ⟨u1, ⟨_, v1, rfl, r1⟩ | ⟨hno, _⟩⟩
  rotate_left
  · exact absurd HM.out hno
  rw [Int.toNat_natCast, Int.toNat_natCast, ← HFR.out] at r1
  have U1 := Lib.hid u1
  have R1 := Lib.hid r1
  obtain ⟨a1, c1, rfl⟩ := r1.shape
  clear u1 r1
  go_wp2_with fail
  refine (rframe_any _ (k : Int) (p : Int) a c body _ (HB.out.upd U1.out (by simp))).mono ?_
  rintro e w2 ⟨u2, ⟨_, v2, rfl, r2⟩ | ⟨hno, _⟩⟩
  rotate_left
  · exact absurd HM.out hno
  rw [Int.toNat_natCast, Int.toNat_natCast, ← HFR.out] at r2
  have U2 := Lib.hid (U1.out.trans u2 (by simp))
  have R1b : Hid (Row w.heap.size w2 (.slice a1 fr.length c1) fr) := Lib.hid (u2.row R1.out (by simp))
  have R2 := Lib.hid r2
  obtain ⟨a2', c2', rfl⟩ := r2.shape
  clear u2 r2 R1
  go_wp2_with fail
  refine (same_any _ _ a1 a2' c1 c2' fr fr _ (R1b.out.bytes HFB.out rfl) (R2.out.bytes HFB.out rfl) (by have := HFL.out; omega)).mono ?_
  rintro e w3 ⟨rfl, u3⟩
  have U3 := Lib.hid (U2.out.trans u3 (by simp))
  have R3 : Hid (Row w.heap.size w3 (.slice a1 fr.length c1) fr) := Lib.hid (u3.row R1b.out (by simp))
  clear u3 R1b R2
  rw [show (fr == fr) = true by simp]
  go_wp2_with fail
  refine (known_true _).mono ?_
  rintro e w4 ⟨rfl, u4⟩
  have U4 := Lib.hid (U3.out.trans u4 (by simp))
  have R4 : Hid (Row w.heap.size w4 (.slice a1 fr.length c1) fr) := Lib.hid (u4.row R3.out (by simp))
  clear u4 R3 U1 U2 U3
  have s4 := U4.out.size
  obtain ⟨v5, w5, hrun, hown, hg, hv⟩ := append_bytes (P := Try.prog) (ty := 22) (c := c2) Try.underlying22 hi5 hz0 hz1 hz2 rfl R4.out (HB2.out.upd U4.out (by simp)) (by have := HFL.out; omega) s4
  have R5 : Hid (Row w.heap.size w5 v5 (fr ++ behind)) := Lib.hid (Row.mk hown)
  have U5 : Hid (Upd [] w w5) := Lib.hid (U4.out.grown hg (fun k hk => .inr (own_lo R4.out hk).1))
  have HRUN := Lib.hid hrun
  clear hrun hown hg hv
  obtain ⟨fb, hfb⟩ : ∃ fb, fb = fr ++ behind := ⟨_, rfl⟩
  rw [← hfb] at R5 HFIND
  have HFBB : Hid (∀ x ∈ fb, x < 256) := Lib.hid (by
    rw [hfb]; intro x hx
    rcases List.mem_append.1 hx with hx | hx
    · exact HFB.out x hx
    · exact bytes_lt HB2.out x hx)
  have HFBL : Hid (fb.length = fr.length + behind.length) := Lib.hid (by rw [hfb]; simp)
  clear hfb
  obtain ⟨a5, c5, rfl⟩ := R5.out.shape
  go_wp2_with (at_builtin; refine wpList_run rfl (exec_append (by rfl) (by rfl) (by rfl) HRUN.out) ?_)
  refine (unframe_any _ a5 c5 fb w5 (R5.out.bytes HFBB.out rfl) R5.out.cap.1 (by have := HFL.out; have := HFBL.out; omega)).mono ?_
  rintro e w6 ⟨u6, hun⟩
  rw [HFIND.out] at hun
  obtain ⟨v6, rfl, r6⟩ := hun
  have U6 := Lib.hid (U5.out.trans u6 (by simp))
  have R5b : Hid (Row w.heap.size w6 (.slice a5 fb.length c5) fb) := Lib.hid (u6.row R5.out (by simp))
  have s6 := u6.size
  have R6 := Lib.hid r6
  obtain ⟨a6, c6, rfl⟩ := r6.shape
  have HA5 : Hid (∃ g, a5 = some ⟨g, 0, none⟩ ∧ w.heap.size ≤ g ∧ g < w5.heap.size) := Lib.hid (by
    rcases R5.out.2 with ⟨h1, h2⟩ | ⟨g, cap, cur, h1, h2, h3, _⟩
    · have := HFL.out; have := HFBL.out; omega
    · exact ⟨g, by cases h1; rfl, h2, lt_of_block h3⟩)
  clear u6 r6 R4 R5 U4 U5
  obtain ⟨g, rfl, hgl, hgh⟩ := HA5.out
  clear HA5
  have hfbl : fb.length ≤ 140737489399823 := by have := HFL.out; have := HFBL.out; omega
  go_wp2_with fail
  go_loopg [19] fb.length (fun m t wr => ∃ (i : Nat) (xs : List Value), t = .int .i64 i ∧ fb.length - i = m ∧ i ≤ fb.length ∧ wr.ownsRow w.heap.size 5 1 (.slice (some ⟨g, 0, none⟩) fb.length c5) fb.length xs ∧ Upd [] w wr ∧ Upd [g] w6 wr)
  case atStart => exact ⟨0, _, rfl, rfl, by omega, R5b.out, U6.out, Upd.refl _ _⟩
  case round =>
    obtain ⟨i, xs, rfl, hm, hi, hO, hU, hV⟩ := hrel
    have HG := Lib.hid hm
    have HO := Lib.hid hO
    have HU := Lib.hid hU
    have HV := Lib.hid hV
    clear hm hO hU hV
    have hxl : xs.length = fb.length := by have := HO.out.1; simpa using this
    by_cases hlt : i < fb.length
    · have t1 : decide ((i : Int) < (fb.length : Int)) = true := by rw [decide_eq_true_iff]; omega
      obtain ⟨old, hold⟩ : ∃ x, xs[i]? = some x := ⟨_, List.getElem?_eq_getElem (by omega)⟩
      have k1 : wr.cell? ⟨g, i, none⟩ = some old := (HO.out.cellAt i (by omega)).trans hold
      have k2 : wr.frozen? ⟨g, i, none⟩ = false := HO.out.frozenAt i
      clear hold hxl
      go_wp2_with fail
      go_roundg (fb.length - (i + 1))
      case measure => have := HG.out; omega
      case rel => exact ⟨i + 1, _, by go_num, rfl, by omega, (HO.out.stored i _).1, HU.out.setCell (.inr hgl) _, HV.out.setCell (.inl (by simp)) _⟩
    · obtain rfl : i = fb.length := by omega
      have t1 : decide ((fb.length : Int) < (fb.length : Int)) = false := by rw [decide_eq_false_iff_not]; omega
      clear hxl
      have B6 : Hid (Bytes wr (w5.heap.size ≤ ·) a6 body) := Lib.hid ((R6.out.bytes (bytes_lt HB.out) rfl).upd HV.out (fun b hb => by rw [List.mem_singleton]; omega))
      have tu : ((15 + (body.length : Int)) == (fr.length : Int)) = true := by rw [beq_iff_eq]; have := HFL.out; omega
      go_wp2_with fail
      refine (same_any _ _ a6 a c6 c body body _ B6.out (HB.out.upd HU.out (by simp)) (by omega)).mono ?_
      rintro e w7 ⟨rfl, u7⟩
      have U7 := Lib.hid (HU.out.trans u7 (by simp))
      clear u7
      rw [show (body == body) = true by simp]
      go_wp2_with fail
      go_ret
      exact ⟨rfl, U7.out⟩

theorem frames_ok (ok ok2 : Nat → Prop) (k p : Int) (a a2 : Option Addr) (c c2 : Nat) (body behind : List Nat) (w : World) (hb : Bytes w ok a body) (hb2 : Bytes w ok2 a2 behind) (hs : behind.length ≤ 140737488351232) :
    Calls Try.prog 3 #[.int .i64 k, .int .i64 p, .slice a body.length c, .slice a2 behind.length c2] w fun e w' => e = .returned (.bool true) ∧ Upd [] w w' := by
  by_cases hm : MayFrame k p body
  · obtain ⟨k, rfl⟩ : ∃ n : Nat, k = n := ⟨k.toNat, (Int.toNat_of_nonneg hm.1).symm⟩
    obtain ⟨p, rfl⟩ : ∃ n : Nat, p = n := ⟨p.toNat, (Int.toNat_of_nonneg hm.2.2.1).symm⟩
    exact frames_yes ok ok2 k p a a2 c c2 body behind w hb hb2 hs hm
  · exact frames_no ok ok2 k p a a2 c c2 behind.length body w hb hm
end Go.Proofs.Ythecincpejpmpaa
namespace Go.Proofs.Ythecincpejpmpaa.codecFrames
open Go.ChangeShapes Go.WideShapes Go.ChangeAt Go.RowKit Go.Lb Go.Rc

set_option maxRecDepth 100000 in
theorem contract (H : Type) (enc : TypeId × Value → H) (W : World) (base : Nat) (args : Array Value) (ds gs : List (DataW H)) (before : List MemPlace)
    (hval : ∀ (j : Nat) t v, Try.f3.params[j]? = some t → args[j]? = some v → Value.okWide Try.prog W .any base t v)
    (hW : DataW.Whole enc Try.prog Try.f3.params.toList Rows.codecFramesSpec.vars false W args.toList ds gs before)
    (hsz : (DataW.weightsEach Try.prog (Try.f3.params.toList ++ Rows.codecFramesSpec.plain.varTypes Try.prog) (ds ++ gs)).all (· ≤ reachBytes) = true) :
    Calls Try.prog 3 args W fun e W' => ∃ v, e = .returned v ∧ Rows.codecFramesSpec.post enc Try.prog Try.f3 false true false false W args v W' := by
  have hW' := hW
  obtain ⟨p, q, hA0, hV, rfl, hfz, hnd⟩ := hW
  have hA : DataW.TrodAll enc Try.prog W 0 (fun _ => true) true Try.f3.params.toList args.toList ds p := hA0
  rw [Try.params3] at hA hval hsz
  obtain ⟨v0, vs0, d0, ds0, p0, q0, hargs, rfl, rfl, h0, s0⟩ := trodAll_cons hA
  obtain ⟨v1, vs1, d1, ds1, p1, q1, rfl, rfl, rfl, h1, s1⟩ := trodAll_cons s0
  obtain ⟨v2, vs2, d2, ds2, p2, q2, rfl, rfl, rfl, h2, s2⟩ := trodAll_cons s1
  obtain ⟨v3, vs3, d3, ds3, p3, q3, rfl, rfl, rfl, h3, s3⟩ := trodAll_cons s2
  obtain ⟨rfl, rfl, rfl⟩ := trodAll_nil s3
  have hz0 : (DataW.weightsEach Try.prog (3 :: 3 :: 22 :: 22 :: Rows.codecFramesSpec.plain.varTypes Try.prog) (d0 :: d1 :: d2 :: d3 :: gs)).all (· ≤ reachBytes) = true := hsz
  obtain ⟨r0, hz1⟩ := reached_of hz0
  obtain ⟨r1, hz2⟩ := reached_of hz1
  obtain ⟨r2, hz3⟩ := reached_of hz2
  obtain ⟨r3, hz4⟩ := reached_of hz3
  obtain rfl : args = #[v0, v1, v2, v3] := by cases args; simp_all
  obtain ⟨rfl, rfl⟩ := trodVars_none hV
  have k0 := h0
  have lt0 : ∀ x ∈ p0, x.block < W.heap.size := by obtain ⟨m, hm⟩ := k0; exact DataW.trod_lt m _ _ _ hm
  have k1 := h1
  have lt1 : ∀ x ∈ p1, x.block < W.heap.size := by obtain ⟨m, hm⟩ := k1; exact DataW.trod_lt m _ _ _ hm
  have k2 := h2
  have lt2 : ∀ x ∈ p2, x.block < W.heap.size := by obtain ⟨m, hm⟩ := k2; exact DataW.trod_lt m _ _ _ hm
  have k3 := h3
  have lt3 : ∀ x ∈ p3, x.block < W.heap.size := by obtain ⟨m, hm⟩ := k3; exact DataW.trod_lt m _ _ _ hm
  obtain ⟨x0, rfl, rfl, rfl, wx0⟩ := open_int Try.underlying3 (hval 0 3 v0 rfl rfl) h0
  obtain ⟨x1, rfl, rfl, rfl, wx1⟩ := open_int Try.underlying3 (hval 1 3 v1 rfl rfl) h1
  obtain ⟨a2, len2, cap2, rfl⟩ := okWide_slice Try.underlying22 (hval 2 22 v2 rfl rfl)
  have hl2 := slice_r Try.underlying22 (z := 1) (by kernel_rfl) h2 r2
  obtain ⟨l2, rfl, hc2, hm2, hu2, hB2⟩ := arg_bytes Try.underlying22 Try.underlying5 (by kernel_rfl) h2
  simp only [reachBytes] at hl2
  obtain ⟨a3, len3, cap3, rfl⟩ := okWide_slice Try.underlying22 (hval 3 22 v3 rfl rfl)
  have hl3 := slice_r Try.underlying22 (z := 1) (by kernel_rfl) h3 r3
  obtain ⟨l3, rfl, hc3, hm3, hu3, hB3⟩ := arg_bytes Try.underlying22 Try.underlying5 (by kernel_rfl) h3
  simp only [reachBytes] at hl3
  clear hA0 hsz hz0
  refine (frames_ok _ _ x0 x1 a2 a3 cap2 cap3 l2 l3 W hB2 hB3 (by omega)).mono fun e W' ⟨he, bel⟩ => ?_
  subst he
  exact ⟨_, rfl, _, _, _, [], _, [], hW', trodAll_mk1 (shut_bool Try.underlying4 _), (trodAll_cons_mk (Below.trod Try.laidOut (by kernel_rfl) (of_decide_eq_true (by kernel_rfl)) k0 bel.below lt0) (trodAll_cons_mk (Below.trod Try.laidOut (by kernel_rfl) (of_decide_eq_true (by kernel_rfl)) k1 bel.below lt1) (trodAll_cons_mk (Below.trod Try.laidOut (by kernel_rfl) (of_decide_eq_true (by kernel_rfl)) k2 bel.below lt2) (trodAll_cons_mk (Below.trod Try.laidOut (by kernel_rfl) (of_decide_eq_true (by kernel_rfl)) k3 bel.below lt3) trodAll_mk0)))), rfl, bel.below.frame _, fun h => by cases h⟩

set_option maxRecDepth 100000 in
theorem lifted (os : Os) (started : os.Started) (H : Type) (enc : TypeId × Value → H) :
    ReturnsInHanded {} Try.checked os 3 .any (Rows.codecFramesSpec.pre6 enc Try.prog Try.f3 Rows.codecFramesRow.domain false) (Rows.codecFramesSpec.post enc Try.prog Try.f3 false true false false) := by
  refine returnsInHanded_of_change_sized (C := Try.checked) Try.own started (by kernel_rfl) Try.func3
    (ChangeSpec.witness6 (enc := enc) (C := Try.checked) false ⟨#[], #[.int .i64 0, .int .i64 0, .slice none 0 0, .slice none 0 0], []⟩ 8 (by kernel_rfl) (by kernel_rfl) (by kernel_rfl) (by kernel_rfl)) ?_
  intro W base args ds gs before hval hW hcnd hsz _
  exact contract H enc W base args ds gs before hval hW hsz

theorem closed : joinedFacts Try.prog 3 Try.f3 Rows.codecFramesSpec Rows.codecFramesRow = true := by
  unfold joinedFacts
  rw [Try.words1, Try.words2, Try.words3]
  kernel_rfl

theorem proved : Rows.CodecFramesSaid :=
  OpenClaim.holds_of_wide 3 Try.f3 rfl rfl rfl rfl rfl rfl rfl ⟨rfl, rfl, rfl, rfl, rfl⟩ rfl rfl rfl rfl rfl (by kernel_rfl) Try.func3 closed
    (of_decide_eq_true (by kernel_rfl)) (by unfold Func.isWrapper; first | (rw [if_pos (by decide +kernel)]; kernel_rfl) | (rw [if_neg (by decide +kernel)]; exact ⟨rfl, rfl⟩))
    (fun os started H enc _ => lifted os started H enc)
#print axioms proved
end Go.Proofs.Ythecincpejpmpaa.codecFrames
