/- CodecTorn returns true for every input, and the input reads afterwards as it did. No condition. -/
import Derived.Test.YthecincpejpmpaaZfh
import Derived.SizedLaws
set_option linter.unusedVariables false
set_option linter.unusedSimpArgs false
/- law01's CodecTorn, walked. -/
namespace Go.Proofs.Ythecincpejpmpaa
open Go.RowKit Go.Lb Go.Rc Go.Crc

theorem may_fits {k p : Int} {body : List Nat} (h : MayFrame k p body) (hb : ∀ x ∈ body, x < 256) : Fits k.toNat p.toNat body := by
  obtain ⟨h1, h2, h3, h4, h5⟩ := h
  exact ⟨by omega, by omega, by omega, hb⟩
theorem bytes_lt {w : World} {ok : Nat → Prop} {a : Option Addr} {l : List Nat} (h : Bytes w ok a l) : ∀ x ∈ l, x < 256 := fun x hx => by
  obtain ⟨i, hi⟩ := List.mem_iff_getElem?.1 hx
  exact (h i x hi).1

theorem tmod_at {n : Int} (h : 0 < n) (x : Int) : (0 ≤ x.tmod n ∧ x.tmod n < n) ∨ (x.tmod n < 0 ∧ 0 ≤ x.tmod n + n ∧ x.tmod n + n < n) := by
  have h1 := Int.tmod_lt_of_pos x h
  have h2 := Int.lt_tmod_of_pos x h
  omega

set_option maxRecDepth 20000 in
set_option maxHeartbeats 4000000 in
theorem torn_ok (ok : Nat → Prop) (k p at_ : Int) (a : Option Addr) (c : Nat) (body : List Nat) (w : World) (hb : Bytes w ok a body) :
    Calls Try.prog 5 #[.int .i64 k, .int .i64 p, .slice a body.length c, .int .i64 at_] w fun e w' => e = .returned (.bool true) ∧ Upd [] w w' := by
  obtain ⟨i5, hi5, hz0, hz1, hz2⟩ := infoU8
  have HTT : Hid (Try.prog.underlying 22 = some (.slice (Try.prog.elem 22))) := Lib.hid <| by rw [Try.elem22]; exact Try.underlying22
  have HB := Lib.hid hb
  clear hb
  by_cases hm : MayFrame k p body
  · have HM := Lib.hid hm
    have hbl : body.length ≤ 1048576 := hm.2.2.2.2
    obtain ⟨fr, hfr⟩ : ∃ fr, fr = frame k.toNat p.toNat body := ⟨_, rfl⟩
    have fits := may_fits hm (bytes_lt HB.out)
    have HFB : Hid (∀ x ∈ fr, x < 256) := Lib.hid (by rw [hfr]; exact frame_byte fits)
    have hfl : fr.length = 15 + body.length := by rw [hfr, frame_len]
    have HCUT : Hid (∀ n, n < fr.length → find (fr.take n) = .torn) := Lib.hid (fun n hn => by rw [hfr]; exact find_cut fits (by rw [hfl] at hn; exact hn))
    have HFR := Lib.hid hfr
    have HFL := Lib.hid hfl
    clear hfr fits hfl hm
    go_enter Try.func5, Try.ntmps5
    go_wp2_with fail
    refine (frame_any _ k p a c body _ HB.out).mono ?_
    rintro e w1 ⟨u1, ⟨_, v1, rfl, r1⟩ | ⟨hno, _⟩⟩
    rotate_left
    · exact absurd HM.out hno
    rw [← HFR.out] at r1
    have U1 := Lib.hid u1
    have R1 := Lib.hid r1
    obtain ⟨a1, c1, rfl⟩ := r1.shape
    clear u1 r1
    go_wp2_with fail
    refine (known_true _).mono ?_
    rintro e w2 ⟨rfl, u2⟩
    have U2 := Lib.hid (U1.out.trans u2 (by simp))
    have R2 : Hid (Row w.heap.size w2 (.slice a1 fr.length c1) fr) := Lib.hid (u2.row R1.out (by simp))
    have hcap := R1.out.cap
    clear u2
    have hn0 : ((fr.length : Int) == 0) = false := by rw [beq_eq_false_iff_ne]; have := HFL.out; omega
    have hfl2 : fr.length ≤ 1048591 := by have := HFL.out; omega
    have hfl3 : 0 < fr.length := by have := HFL.out; omega
    have hz : ∃ m : Nat, m < fr.length ∧ (at_.tmod (fr.length : Int) = (m : Int) ∨ at_.tmod (fr.length : Int) = (m : Int) - (fr.length : Int)) := by
      rcases tmod_at (n := (fr.length : Int)) (by omega) at_ with ⟨h1, h2⟩ | ⟨h1, h2, h3⟩
      · exact ⟨(at_.tmod (fr.length : Int)).toNat, by omega, .inl (by omega)⟩
      · exact ⟨(at_.tmod (fr.length : Int) + (fr.length : Int)).toNat, by omega, .inr (by omega)⟩
    obtain ⟨m, hm, hz⟩ := hz
    have HBM : Hid (Bytes w2 (w.heap.size ≤ ·) (suba a1 0 c1) (fr.take m)) := Lib.hid (suba_to (R2.out.bytes HFB.out rfl) m hcap.1)
    have hml : (fr.take m).length = m := by rw [List.length_take]; omega
    have C3 := unframe_any _ (suba a1 0 c1) c1 (fr.take m) w2 HBM.out (by rw [hml]; omega) (by rw [hml]; omega)
    rw [hml] at C3
    have HC3 := Lib.hid C3
    have HCT := Lib.hid (HCUT.out m hm)
    clear C3 hml
    rcases hz with hz | hz
    · have t1 : decide ((m : Int) < 0) = false := by simp
      go_wp2_with (refine wpList_run (o := ⟨some 44, .slice 22 (.tmp 42) none (some (.tmp 43)) none, _, _, _, _⟩) rfl (exec_sliceAt (by rfl) (by rfl) (by rfl) (by rfl) (sub_h HTT.out Try.elem22 hi5 hz1 (up := m) (by first | rfl | omega) (by omega))) ?_)
      refine HC3.out.mono ?_
      rintro e w3 ⟨u3, h3⟩
      rw [HCT.out] at h3
      obtain rfl := h3
      have U3 := Lib.hid (U2.out.trans u3 (by simp))
      clear u3
      go_wp2_with fail
      go_ret
      exact ⟨rfl, U3.out⟩
    · have t1 : decide ((m : Int) - (fr.length : Int) < 0) = true := by simp; omega
      have t2 : wrap64 ((m : Int) - (fr.length : Int) + (fr.length : Int)) = (m : Int) := by unfold wrap64; omega
      have T2 := Lib.hid t2
      clear t2
      go_wp2_with (refine wpList_run (o := ⟨some 44, .slice 22 (.tmp 42) none (some (.tmp 43)) none, _, _, _, _⟩) rfl (exec_sliceAt (by rfl) (by rfl) (by rfl) (by rfl) (sub_h HTT.out Try.elem22 hi5 hz1 (up := m) (by first | rfl | exact T2.out | (unfold wrap64; omega) | (rw [wrapIn (by omega) (by omega)]; omega)) (by omega))) ?_)
      refine HC3.out.mono ?_
      rintro e w3 ⟨u3, h3⟩
      rw [HCT.out] at h3
      obtain rfl := h3
      have U3 := Lib.hid (U2.out.trans u3 (by simp))
      clear u3
      go_wp2_with fail
      go_ret
      exact ⟨rfl, U3.out⟩
  · have HM := Lib.hid hm
    clear hm
    go_enter Try.func5, Try.ntmps5
    go_wp2_with fail
    refine (frame_any _ k p a c body _ HB.out).mono ?_
    rintro e w1 ⟨u1, ⟨hno, _⟩ | ⟨_, rfl⟩⟩
    · exact absurd hno HM.out
    have U1 := Lib.hid u1
    clear u1
    go_wp2_with fail
    refine (known_true _).mono ?_
    rintro e w4 ⟨rfl, u4⟩
    have U4 := Lib.hid (U1.out.trans u4 (by simp))
    clear u4
    go_wp2_with fail
    go_ret
    exact ⟨rfl, U4.out⟩
end Go.Proofs.Ythecincpejpmpaa
namespace Go.Proofs.Ythecincpejpmpaa.codecTorn
open Go.ChangeShapes Go.WideShapes Go.ChangeAt Go.RowKit Go.Lb Go.Rc

set_option maxRecDepth 100000 in
theorem contract (H : Type) (enc : TypeId × Value → H) (W : World) (base : Nat) (args : Array Value) (ds gs : List (DataW H)) (before : List MemPlace)
    (hval : ∀ (j : Nat) t v, Try.f5.params[j]? = some t → args[j]? = some v → Value.okWide Try.prog W .any base t v)
    (hW : DataW.Whole enc Try.prog Try.f5.params.toList Rows.codecTornSpec.vars false W args.toList ds gs before)
    (hsz : (DataW.weightsEach Try.prog (Try.f5.params.toList ++ Rows.codecTornSpec.plain.varTypes Try.prog) (ds ++ gs)).all (· ≤ reachBytes) = true) :
    Calls Try.prog 5 args W fun e W' => ∃ v, e = .returned v ∧ Rows.codecTornSpec.post enc Try.prog Try.f5 false true false false W args v W' := by
  have hW' := hW
  obtain ⟨p, q, hA0, hV, rfl, hfz, hnd⟩ := hW
  have hA : DataW.TrodAll enc Try.prog W 0 (fun _ => true) true Try.f5.params.toList args.toList ds p := hA0
  rw [Try.params5] at hA hval hsz
  obtain ⟨v0, vs0, d0, ds0, p0, q0, hargs, rfl, rfl, h0, s0⟩ := trodAll_cons hA
  obtain ⟨v1, vs1, d1, ds1, p1, q1, rfl, rfl, rfl, h1, s1⟩ := trodAll_cons s0
  obtain ⟨v2, vs2, d2, ds2, p2, q2, rfl, rfl, rfl, h2, s2⟩ := trodAll_cons s1
  obtain ⟨v3, vs3, d3, ds3, p3, q3, rfl, rfl, rfl, h3, s3⟩ := trodAll_cons s2
  obtain ⟨rfl, rfl, rfl⟩ := trodAll_nil s3
  have hz0 : (DataW.weightsEach Try.prog (3 :: 3 :: 22 :: 3 :: Rows.codecTornSpec.plain.varTypes Try.prog) (d0 :: d1 :: d2 :: d3 :: gs)).all (· ≤ reachBytes) = true := hsz
  obtain ⟨r0, hz1⟩ := reached_of hz0
  obtain ⟨r1, hz2⟩ := reached_of hz1
  obtain ⟨r2, hz3⟩ := reached_of hz2
  obtain ⟨r3, hz4⟩ := reached_of hz3
  obtain rfl : args = #[v0, v1, v2, v3] := by cases args; simp_all
  obtain ⟨rfl, rfl⟩ := trodVars_none hV
  have k0 := h0
  have lt0 : ∀ x ∈ p0, x.block < W.heap.size := by obtain ⟨m, hm⟩ := k0; exact DataW.trod_lt m _ _ _ hm
  have k1 := h1
  have lt1 : ∀ x ∈ p1, x.block < W.heap.size := by obtain ⟨m, hm⟩ := k1; exact DataW.trod_lt m _ _ _ hm
  have k2 := h2
  have lt2 : ∀ x ∈ p2, x.block < W.heap.size := by obtain ⟨m, hm⟩ := k2; exact DataW.trod_lt m _ _ _ hm
  have k3 := h3
  have lt3 : ∀ x ∈ p3, x.block < W.heap.size := by obtain ⟨m, hm⟩ := k3; exact DataW.trod_lt m _ _ _ hm
  obtain ⟨x0, rfl, rfl, rfl, wx0⟩ := open_int Try.underlying3 (hval 0 3 v0 rfl rfl) h0
  obtain ⟨x1, rfl, rfl, rfl, wx1⟩ := open_int Try.underlying3 (hval 1 3 v1 rfl rfl) h1
  obtain ⟨a2, len2, cap2, rfl⟩ := okWide_slice Try.underlying22 (hval 2 22 v2 rfl rfl)
  have hl2 := slice_r Try.underlying22 (z := 1) (by kernel_rfl) h2 r2
  obtain ⟨l2, rfl, hc2, hm2, hu2, hB2⟩ := arg_bytes Try.underlying22 Try.underlying5 (by kernel_rfl) h2
  simp only [reachBytes] at hl2
  obtain ⟨x3, rfl, rfl, rfl, wx3⟩ := open_int Try.underlying3 (hval 3 3 v3 rfl rfl) h3
  clear hA0 hsz hz0
  refine (torn_ok _ x0 x1 x3 a2 cap2 l2 W hB2).mono fun e W' ⟨he, bel⟩ => ?_
  subst he
  exact ⟨_, rfl, _, _, _, [], _, [], hW', trodAll_mk1 (shut_bool Try.underlying4 _), (trodAll_cons_mk (Below.trod Try.laidOut (by kernel_rfl) (of_decide_eq_true (by kernel_rfl)) k0 bel.below lt0) (trodAll_cons_mk (Below.trod Try.laidOut (by kernel_rfl) (of_decide_eq_true (by kernel_rfl)) k1 bel.below lt1) (trodAll_cons_mk (Below.trod Try.laidOut (by kernel_rfl) (of_decide_eq_true (by kernel_rfl)) k2 bel.below lt2) (trodAll_cons_mk (Below.trod Try.laidOut (by kernel_rfl) (of_decide_eq_true (by kernel_rfl)) k3 bel.below lt3) trodAll_mk0)))), rfl, bel.below.frame _, fun h => by cases h⟩

set_option maxRecDepth 100000 in
theorem lifted (os : Os) (started : os.Started) (H : Type) (enc : TypeId × Value → H) :
    ReturnsInHanded {} Try.checked os 5 .any (Rows.codecTornSpec.pre6 enc Try.prog Try.f5 Rows.codecTornRow.domain false) (Rows.codecTornSpec.post enc Try.prog Try.f5 false true false false) := by
  refine returnsInHanded_of_change_sized (C := Try.checked) Try.own started (by kernel_rfl) Try.func5
    (ChangeSpec.witness6 (enc := enc) (C := Try.checked) false ⟨#[], #[.int .i64 0, .int .i64 0, .slice none 0 0, .int .i64 0], []⟩ 8 (by kernel_rfl) (by kernel_rfl) (by kernel_rfl) (by kernel_rfl)) ?_
  intro W base args ds gs before hval hW hcnd hsz _
  exact contract H enc W base args ds gs before hval hW hsz

theorem closed : joinedFacts Try.prog 5 Try.f5 Rows.codecTornSpec Rows.codecTornRow = true := by
  unfold joinedFacts
  rw [Try.words1, Try.words2, Try.words3]
  kernel_rfl

theorem proved : Rows.CodecTornSaid :=
  OpenClaim.holds_of_wide 5 Try.f5 rfl rfl rfl rfl rfl rfl rfl ⟨rfl, rfl, rfl, rfl, rfl⟩ rfl rfl rfl rfl rfl (by kernel_rfl) Try.func5 closed
    (of_decide_eq_true (by kernel_rfl)) (by unfold Func.isWrapper; first | (rw [if_pos (by decide +kernel)]; kernel_rfl) | (rw [if_neg (by decide +kernel)]; exact ⟨rfl, rfl⟩))
    (fun os started H enc _ => lifted os started H enc)
#print axioms proved
end Go.Proofs.Ythecincpejpmpaa.codecTorn
