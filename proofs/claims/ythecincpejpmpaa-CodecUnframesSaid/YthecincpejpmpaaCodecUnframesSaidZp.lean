/- CodecUnframes returns true for every input, and the input reads afterwards as it did. No condition. -/
import Derived.Test.YthecincpejpmpaaZfh
import Derived.SizedLaws
set_option linter.unusedVariables false
set_option linter.unusedSimpArgs false
/- law01's CodecUnframes, walked. -/
namespace Go.Proofs.Ythecincpejpmpaa
open Go.RowKit Go.Lb Go.Rc Go.Crc

set_option maxRecDepth 20000 in
set_option maxHeartbeats 4000000 in
theorem unframes_ok (a : Option Addr) (c : Nat) (l : List Nat) (w : World) (hb : Bytes w (· < w.heap.size) a l) (hc : l.length ≤ c) (hl : l.length ≤ 225000000000000) :
    Calls Try.prog 4 #[.slice a l.length c] w fun e w' => e = .returned (.bool true) ∧ Upd [] w w' := by
  have HB := Lib.hid hb
  have HC := Lib.hid hc
  clear hb hc
  cases hf : find l with
  | torn =>
    have HFI := Lib.hid hf
    clear hf
    go_enter Try.func4, Try.ntmps4
    go_wp2_with fail
    refine (unframe_any _ a c l _ HB.out HC.out hl).mono ?_
    rintro e w1 ⟨u1, h1⟩
    rw [HFI.out] at h1
    obtain rfl := h1
    have U1 := Lib.hid u1
    clear u1
    go_wp2_with fail
    refine (runframe_any _ a c l _ (HB.out.upd U1.out (by simp)) HC.out hl).mono ?_
    rintro e w2 ⟨u2, h2⟩
    rw [HFI.out] at h2
    obtain rfl := h2
    have U2 := Lib.hid (U1.out.trans u2 (by simp))
    clear u2
    go_wp2_with fail
    refine (same_any (fun _ => True) (fun _ => True) none none 0 0 [] [] _ (Bytes.nil _ _ _) (Bytes.nil _ _ _) (by simp)).mono ?_
    rintro e w3 ⟨rfl, u3⟩
    have U3 := Lib.hid (U2.out.trans u3 (by simp))
    clear u3
    rw [show (([] : List Nat) == []) = true by rfl]
    go_wp2_with fail
    refine (known_true _).mono ?_
    rintro e w4 ⟨rfl, u4⟩
    have U4 := Lib.hid (U3.out.trans u4 (by simp))
    clear u4
    go_wp2_with fail
    go_ret
    exact ⟨rfl, U4.out⟩
  | wrong =>
    have HFI := Lib.hid hf
    clear hf
    go_enter Try.func4, Try.ntmps4
    go_wp2_with fail
    refine (unframe_any _ a c l _ HB.out HC.out hl).mono ?_
    rintro e w1 ⟨u1, h1⟩
    rw [HFI.out] at h1
    obtain rfl := h1
    have U1 := Lib.hid u1
    clear u1
    go_wp2_with fail
    refine (runframe_any _ a c l _ (HB.out.upd U1.out (by simp)) HC.out hl).mono ?_
    rintro e w2 ⟨u2, h2⟩
    rw [HFI.out] at h2
    obtain rfl := h2
    have U2 := Lib.hid (U1.out.trans u2 (by simp))
    clear u2
    go_wp2_with fail
    refine (same_any (fun _ => True) (fun _ => True) none none 0 0 [] [] _ (Bytes.nil _ _ _) (Bytes.nil _ _ _) (by simp)).mono ?_
    rintro e w3 ⟨rfl, u3⟩
    have U3 := Lib.hid (U2.out.trans u3 (by simp))
    clear u3
    rw [show (([] : List Nat) == []) = true by rfl]
    go_wp2_with fail
    refine (known_true _).mono ?_
    rintro e w4 ⟨rfl, u4⟩
    have U4 := Lib.hid (U3.out.trans u4 (by simp))
    clear u4
    go_wp2_with fail
    go_ret
    exact ⟨rfl, U4.out⟩
  | whole k p body =>
    have HFI := Lib.hid hf
    have hft := (find_whole (fun x hx => by obtain ⟨i, hi⟩ := List.mem_iff_getElem?.1 hx; exact (HB.out i x hi).1) hf).1
    have HBY := Lib.hid hft.byte
    have hbl := hft.len
    clear hf hft
    go_enter Try.func4, Try.ntmps4
    go_wp2_with fail
    refine (unframe_any _ a c l _ HB.out HC.out hl).mono ?_
    rintro e w1 ⟨u1, h1⟩
    rw [HFI.out] at h1
    obtain ⟨v1, rfl, r1⟩ := h1
    have U1 := Lib.hid u1
    have R1 := Lib.hid r1
    obtain ⟨a1, c1, rfl⟩ := r1.shape
    clear u1 r1
    go_wp2_with fail
    refine (runframe_any _ a c l _ (HB.out.upd U1.out (by simp)) HC.out hl).mono ?_
    rintro e w2 ⟨u2, h2⟩
    rw [HFI.out] at h2
    obtain ⟨v2, rfl, r2⟩ := h2
    have U2 := Lib.hid (U1.out.trans u2 (by simp))
    have B1 := Lib.hid ((R1.out.bytes HBY.out rfl).upd u2 (by simp))
    have R2 := Lib.hid r2
    obtain ⟨a2, c2, rfl⟩ := r2.shape
    clear u2 r2
    go_wp2_with fail
    refine (same_any _ _ a1 a2 c1 c2 body body _ B1.out (R2.out.bytes HBY.out rfl) (by omega)).mono ?_
    rintro e w3 ⟨rfl, u3⟩
    have U3 := Lib.hid (U2.out.trans u3 (by simp))
    clear u3
    rw [show (body == body) = true by simp]
    go_wp2_with fail
    refine (known_true _).mono ?_
    rintro e w4 ⟨rfl, u4⟩
    have U4 := Lib.hid (U3.out.trans u4 (by simp))
    clear u4
    go_wp2_with fail
    go_ret
    exact ⟨rfl, U4.out⟩
end Go.Proofs.Ythecincpejpmpaa
namespace Go.Proofs.Ythecincpejpmpaa.codecUnframes
open Go.ChangeShapes Go.WideShapes Go.ChangeAt Go.RowKit Go.Lb Go.Rc

set_option maxRecDepth 100000 in
theorem contract (H : Type) (enc : TypeId × Value → H) (W : World) (base : Nat) (args : Array Value) (ds gs : List (DataW H)) (before : List MemPlace)
    (hval : ∀ (j : Nat) t v, Try.f4.params[j]? = some t → args[j]? = some v → Value.okWide Try.prog W .any base t v)
    (hW : DataW.Whole enc Try.prog Try.f4.params.toList Rows.codecUnframesSpec.vars false W args.toList ds gs before)
    (hsz : (DataW.weightsEach Try.prog (Try.f4.params.toList ++ Rows.codecUnframesSpec.plain.varTypes Try.prog) (ds ++ gs)).all (· ≤ reachBytes) = true) :
    Calls Try.prog 4 args W fun e W' => ∃ v, e = .returned v ∧ Rows.codecUnframesSpec.post enc Try.prog Try.f4 false true false false W args v W' := by
  have hW' := hW
  obtain ⟨p, q, hA0, hV, rfl, hfz, hnd⟩ := hW
  have hA : DataW.TrodAll enc Try.prog W 0 (fun _ => true) true Try.f4.params.toList args.toList ds p := hA0
  rw [Try.params4] at hA hval hsz
  obtain ⟨v0, vs0, d0, ds0, p0, q0, hargs, rfl, rfl, h0, s0⟩ := trodAll_cons hA
  obtain ⟨rfl, rfl, rfl⟩ := trodAll_nil s0
  have hz0 : (DataW.weightsEach Try.prog (22 :: Rows.codecUnframesSpec.plain.varTypes Try.prog) (d0 :: gs)).all (· ≤ reachBytes) = true := hsz
  obtain ⟨r0, hz1⟩ := reached_of hz0
  obtain rfl : args = #[v0] := by cases args; simp_all
  obtain ⟨rfl, rfl⟩ := trodVars_none hV
  have k0 := h0
  have lt0 : ∀ x ∈ p0, x.block < W.heap.size := by obtain ⟨m, hm⟩ := k0; exact DataW.trod_lt m _ _ _ hm
  obtain ⟨a0, len0, cap0, rfl⟩ := okWide_slice Try.underlying22 (hval 0 22 v0 rfl rfl)
  have hl0 := slice_r Try.underlying22 (z := 1) (by kernel_rfl) h0 r0
  obtain ⟨l0, rfl, hc0, hm0, hu0, hB0⟩ := arg_bytes Try.underlying22 Try.underlying5 (by kernel_rfl) h0
  simp only [reachBytes] at hl0
  clear hA0 hsz hz0
  refine (unframes_ok a0 cap0 l0 W hB0 hc0 (by omega)).mono fun e W' ⟨he, bel⟩ => ?_
  subst he
  exact ⟨_, rfl, _, _, _, [], _, [], hW', trodAll_mk1 (shut_bool Try.underlying4 _), (trodAll_cons_mk (Below.trod Try.laidOut (by kernel_rfl) (of_decide_eq_true (by kernel_rfl)) k0 bel.below lt0) trodAll_mk0), rfl, bel.below.frame _, fun h => by cases h⟩

set_option maxRecDepth 100000 in
theorem lifted (os : Os) (started : os.Started) (H : Type) (enc : TypeId × Value → H) :
    ReturnsInHanded {} Try.checked os 4 .any (Rows.codecUnframesSpec.pre6 enc Try.prog Try.f4 Rows.codecUnframesRow.domain false) (Rows.codecUnframesSpec.post enc Try.prog Try.f4 false true false false) := by
  refine returnsInHanded_of_change_sized (C := Try.checked) Try.own started (by kernel_rfl) Try.func4
    (ChangeSpec.witness6 (enc := enc) (C := Try.checked) false ⟨#[], #[.slice none 0 0], []⟩ 8 (by kernel_rfl) (by kernel_rfl) (by kernel_rfl) (by kernel_rfl)) ?_
  intro W base args ds gs before hval hW hcnd hsz _
  exact contract H enc W base args ds gs before hval hW hsz

theorem closed : joinedFacts Try.prog 4 Try.f4 Rows.codecUnframesSpec Rows.codecUnframesRow = true := by
  unfold joinedFacts
  rw [Try.words1, Try.words2, Try.words3]
  kernel_rfl

theorem proved : Rows.CodecUnframesSaid :=
  OpenClaim.holds_of_wide 4 Try.f4 rfl rfl rfl rfl rfl rfl rfl ⟨rfl, rfl, rfl, rfl, rfl⟩ rfl rfl rfl rfl rfl (by kernel_rfl) Try.func4 closed
    (of_decide_eq_true (by kernel_rfl)) (by unfold Func.isWrapper; first | (rw [if_pos (by decide +kernel)]; kernel_rfl) | (rw [if_neg (by decide +kernel)]; exact ⟨rfl, rfl⟩))
    (fun os started H enc _ => lifted os started H enc)
#print axioms proved
end Go.Proofs.Ythecincpejpmpaa.codecUnframes
