/- CodecStores returns true for every input of bulk at most 1048576, and the input reads afterwards as it did. Condition: the bulk. -/
import Derived.Test.YtpfnbilopagepaaZag
set_option linter.unusedVariables false
set_option linter.unusedSimpArgs false
/- law01's CodecStores, walked. -/
namespace Go.Proofs.Ytpfnbilopagepaa
open Go.RowKit Go.Lb Go.Rc

set_option maxRecDepth 20000 in
set_option maxHeartbeats 4000000 in
theorem stores_ok (cs ds : List Value) (v v' : Val) (w : World) (hr : sStore.Rep w (· < w.heap.size) cs v) (hl : sStore.wmax v ≤ 1099511627776) (hr2 : sSnapshot.Rep w (· < w.heap.size) ds v') (hl2 : sSnapshot.wmax v' ≤ 1099511627776) :
    Calls Try.prog 17 #[.agg cs.toArray, .agg ds.toArray] w fun e w' => e = .returned (.bool true) ∧ Upd [] w w' := by
  have hlen : cs.length = 9 := hr.len
  have hlen2 : ds.length = 5 := hr2.len
  obtain ⟨g1, hg1⟩ := good_dec sStore v
  obtain ⟨p1, hp1⟩ : ∃ p, p = bytesOf g1 sStore v := ⟨_, rfl⟩
  have HG1 := Lib.hid hg1
  have HP1 := Lib.hid hp1
  have HR1 := Lib.hid (rep_all hr (((Upd.refl [] w).alloc (.cells cs.toArray 101)).alloc (.cells ds.toArray 103)))
  have HL1 : Hid (sStore.wmax v ≤ 1099511627776) := Lib.hid (hl)
  clear hg1 hp1
  obtain ⟨g2, hg2⟩ := good_dec sSnapshot v'
  obtain ⟨p2, hp2⟩ : ∃ p, p = bytesOf g2 sSnapshot v' := ⟨_, rfl⟩
  have HG2 := Lib.hid hg2
  have HP2 := Lib.hid hp2
  have HR2 := Lib.hid (rep_all hr2 (((Upd.refl [] w).alloc (.cells cs.toArray 101)).alloc (.cells ds.toArray 103)))
  have HL2 : Hid (sSnapshot.wmax v' ≤ 1099511627776) := Lib.hid (hl2)
  clear hg2 hp2
  have HB1 := Lib.hid ((Blk.new w 101 cs).alloc (.cells ds.toArray 103))
  have HN0 := Lib.hid (Blk.new2 w (.cells cs.toArray 101) 103 ds)
  have UW : Hid (Upd [] w ((w.alloc (.cells cs.toArray 101)).alloc (.cells ds.toArray 103))) := Lib.hid (((Upd.refl _ _).alloc _).alloc _)
  have U10 : Hid (Upd [] ((w.alloc (.cells cs.toArray 101)).alloc (.cells ds.toArray 103)) ((w.alloc (.cells cs.toArray 101)).alloc (.cells ds.toArray 103))) := Lib.hid (Upd.refl _ _)
  clear hr hl hr2 hl2
  go_enter Try.func17, Try.ntmps17
  go_wp2_with (refine wpList_load_blk rfl 101 (.tmp 2) rfl w.heap.size rfl HB1.out Try.underlying101 rfl (by rw [hlen]; exact Try.size101) ?_)
  refine (puts_u putStore_puts (rep_all HR1.out U10.out) HL1.out HG1.out HP1.out).mono ?_
  rintro e w1a ⟨a1a, c1a, rfl, u, b, hc⟩
  have U1a := Lib.hid (U10.out.trans u (by simp))
  have B1a := Lib.hid b
  have HC1a := Lib.hid hc
  have HB1a := Lib.hid (u.blk HB1.out (by simp))
  clear u b hc
  go_wp2_with (refine wpList_load_blk rfl 101 (.tmp 2) rfl w.heap.size rfl HB1a.out Try.underlying101 rfl (by rw [hlen]; exact Try.size101) ?_)
  refine (puts_u rputStore_puts (rep_all HR1.out U1a.out) HL1.out HG1.out HP1.out).mono ?_
  rintro e w1b ⟨a1b, c1b, rfl, u, b, hc⟩
  have U1b := Lib.hid (U1a.out.trans u (by simp))
  have B1ab := Lib.hid (bytes_all B1a.out u)
  have B1b := Lib.hid b
  have HB1b := Lib.hid (u.blk HB1a.out (by simp))
  clear u b hc
  go_wp2_with fail
  refine (gets_u getStore_gets B1ab.out HC1a.out (by rw [HP1.out]; exact get_bytesOf HG1.out) (by rw [HP1.out]; exact get_none rfl)).mono ?_
  rintro e w1c ⟨cs1, v1, rfl, u, rc, ev, gv⟩
  have U1c := Lib.hid (U1b.out.trans u (by simp))
  have B1ac := Lib.hid (bytes_all B1ab.out u)
  have B1bc := Lib.hid (bytes_all B1b.out u)
  have HB1c := Lib.hid (u.blk HB1b.out (by simp))
  have HCS1 : Hid (cs1.length = 9) := Lib.hid rc.len
  have HONE1 := Lib.hid rc.one
  have RC1 := Lib.hid rc
  have EV1 := Lib.hid ev
  have GV1 := Lib.hid gv
  obtain ⟨q1, hq⟩ : ∃ q, q = bytesOf true sStore v1 := ⟨_, rfl⟩
  have HQ1 := Lib.hid hq
  clear u rc ev gv hq
  go_wp2_with (first | (refine wpList_alloc_blk rfl 101 rfl sStore.zc (zero101 _) ?_; intro wA hA uA; have HA1 := Lib.hid hA; have UA1 := Lib.hid uA; clear hA uA) | (refine wpList_store_blk (o := ⟨none, .store 101 (.tmp 9) (.tmp 28), _, _, _, _⟩) rfl 101 (.tmp 9) (.tmp 28) rfl w1c.heap.size cs1 rfl rfl HA1.out (by rw [HCS1.out]; exact Try.size101) (by rw [HCS1.out]; rfl) HONE1.out ?_; intro w1d hd ud; have HD1 := Lib.hid hd; have UD1 : Hid (Upd [] w1c w1d) := Lib.hid (UA1.out.trans ud (by simp)); clear hd ud) | (refine wpList_load_blk rfl 101 (.tmp 9) rfl w1c.heap.size rfl HD1.out Try.underlying101 rfl (by rw [HCS1.out]; exact Try.size101) ?_))
  refine (puts_u (g := true) putStore_puts (rep_all RC1.out UD1.out) (Nat.le_trans (Sch.wmax_le _ _ GV1.out) (of_decide_eq_true (by kernel_rfl))) ⟨fun _ => GV1.out, fun _ => rfl⟩ HQ1.out).mono ?_
  rintro e w1e ⟨a1e, c1e, rfl, u, b, hc⟩
  have U1e := Lib.hid ((U1c.out.trans UD1.out (by simp)).trans u (by simp))
  have B1e := Lib.hid b
  have B1ae := Lib.hid (bytes_all (bytes_all B1ac.out UD1.out) u)
  have B1be := Lib.hid (bytes_all (bytes_all B1bc.out UD1.out) u)
  have HB1e := Lib.hid (u.blk (UD1.out.blk HB1c.out (by simp)) (by simp))
  clear u b hc
  go_wp2_with fail
  refine (both_ok a1a a1b a1e c1a c1b c1e p1 q1 g1 _ _ B1ae.out B1be.out B1e.out (by rw [HP1.out]; exact bytesOf_len HG1.out HL1.out) (fun e => ⟨rfl, by rw [HQ1.out, HP1.out, EV1.out e, e]⟩)).mono ?_
  rintro e w1f ⟨rfl, u⟩
  have U1f := Lib.hid (U1e.out.trans u (by simp))
  have HB1f := Lib.hid (u.blk HB1e.out (by simp))
  clear u
  go_wp2_with fail
  refine (known_true _).mono ?_
  rintro e wz ⟨rfl, u⟩
  have UZ := Lib.hid (U1f.out.trans u (by simp))
  have HBZ := Lib.hid (u.blk HB1f.out (by simp))
  clear u
  have HB2 := Lib.hid (UZ.out.blk HN0.out (by simp))
  go_wp2_with (refine wpList_load_blk rfl 103 (.tmp 3) rfl (w.heap.size + 1) rfl HB2.out Try.underlying103 rfl (by rw [hlen2]; exact Try.size103) ?_)
  refine (puts_u putSnapshot_puts (rep_all HR2.out UZ.out) HL2.out HG2.out HP2.out).mono ?_
  rintro e w2a ⟨a2a, c2a, rfl, u, b, hc⟩
  have U2a := Lib.hid (UZ.out.trans u (by simp))
  have B2a := Lib.hid b
  have HC2a := Lib.hid hc
  have HB2a := Lib.hid (u.blk HB2.out (by simp))
  clear u b hc
  go_wp2_with (refine wpList_load_blk rfl 103 (.tmp 3) rfl (w.heap.size + 1) rfl HB2a.out Try.underlying103 rfl (by rw [hlen2]; exact Try.size103) ?_)
  refine (puts_u rputSnapshot_puts (rep_all HR2.out U2a.out) HL2.out HG2.out HP2.out).mono ?_
  rintro e w2b ⟨a2b, c2b, rfl, u, b, hc⟩
  have U2b := Lib.hid (U2a.out.trans u (by simp))
  have B2ab := Lib.hid (bytes_all B2a.out u)
  have B2b := Lib.hid b
  have HB2b := Lib.hid (u.blk HB2a.out (by simp))
  clear u b hc
  go_wp2_with fail
  refine (gets_u getSnapshot_gets B2ab.out HC2a.out (by rw [HP2.out]; exact get_bytesOf HG2.out) (by rw [HP2.out]; exact get_none rfl)).mono ?_
  rintro e w2c ⟨cs2, v2, rfl, u, rc, ev, gv⟩
  have U2c := Lib.hid (U2b.out.trans u (by simp))
  have B2ac := Lib.hid (bytes_all B2ab.out u)
  have B2bc := Lib.hid (bytes_all B2b.out u)
  have HB2c := Lib.hid (u.blk HB2b.out (by simp))
  have HCS2 : Hid (cs2.length = 5) := Lib.hid rc.len
  have HONE2 := Lib.hid rc.one
  have RC2 := Lib.hid rc
  have EV2 := Lib.hid ev
  have GV2 := Lib.hid gv
  obtain ⟨q2, hq⟩ : ∃ q, q = bytesOf true sSnapshot v2 := ⟨_, rfl⟩
  have HQ2 := Lib.hid hq
  clear u rc ev gv hq
  go_wp2_with (first | (refine wpList_alloc_blk rfl 103 rfl sSnapshot.zc (zero103 _) ?_; intro wA hA uA; have HA2 := Lib.hid hA; have UA2 := Lib.hid uA; clear hA uA) | (refine wpList_store_blk (o := ⟨none, .store 103 (.tmp 13) (.tmp 61), _, _, _, _⟩) rfl 103 (.tmp 13) (.tmp 61) rfl w2c.heap.size cs2 rfl rfl HA2.out (by rw [HCS2.out]; exact Try.size103) (by rw [HCS2.out]; rfl) HONE2.out ?_; intro w2d hd ud; have HD2 := Lib.hid hd; have UD2 : Hid (Upd [] w2c w2d) := Lib.hid (UA2.out.trans ud (by simp)); clear hd ud) | (refine wpList_load_blk rfl 103 (.tmp 13) rfl w2c.heap.size rfl HD2.out Try.underlying103 rfl (by rw [HCS2.out]; exact Try.size103) ?_))
  refine (puts_u (g := true) putSnapshot_puts (rep_all RC2.out UD2.out) (Nat.le_trans (Sch.wmax_le _ _ GV2.out) (of_decide_eq_true (by kernel_rfl))) ⟨fun _ => GV2.out, fun _ => rfl⟩ HQ2.out).mono ?_
  rintro e w2e ⟨a2e, c2e, rfl, u, b, hc⟩
  have U2e := Lib.hid ((U2c.out.trans UD2.out (by simp)).trans u (by simp))
  have B2e := Lib.hid b
  have B2ae := Lib.hid (bytes_all (bytes_all B2ac.out UD2.out) u)
  have B2be := Lib.hid (bytes_all (bytes_all B2bc.out UD2.out) u)
  have HB2e := Lib.hid (u.blk (UD2.out.blk HB2c.out (by simp)) (by simp))
  clear u b hc
  go_wp2_with fail
  refine (both_ok a2a a2b a2e c2a c2b c2e p2 q2 g2 _ _ B2ae.out B2be.out B2e.out (by rw [HP2.out]; exact bytesOf_len HG2.out HL2.out) (fun e => ⟨rfl, by rw [HQ2.out, HP2.out, EV2.out e, e]⟩)).mono ?_
  rintro e w2f ⟨rfl, u⟩
  have U2f := Lib.hid (U2e.out.trans u (by simp))
  have HB2f := Lib.hid (u.blk HB2e.out (by simp))
  clear u
  have UF := Lib.hid (UW.out.trans U2f.out (by simp))
  go_wp2_with fail
  go_ret
  exact ⟨rfl, UF.out⟩
end Go.Proofs.Ytpfnbilopagepaa
namespace Go.Proofs.Ytpfnbilopagepaa.codecStores
open Go.ChangeShapes Go.WideShapes Go.ChangeAt Go.RowKit Go.Lb Go.Rc

set_option maxRecDepth 100000 in
theorem contract (H : Type) (enc : TypeId × Value → H) (W : World) (base : Nat) (args : Array Value) (ds gs : List (DataW H)) (before : List MemPlace)
    (hval : ∀ (j : Nat) t v, Try.f17.params[j]? = some t → args[j]? = some v → Value.okWide Try.prog W .any base t v)
    (hW : DataW.Whole enc Try.prog Try.f17.params.toList Rows.codecStoresSpec.vars false W args.toList ds gs before) (hk : Rows.uptoSmall H (ds ++ gs) = true) :
    Calls Try.prog 17 args W fun e W' => ∃ v, e = .returned v ∧ Rows.codecStoresSpec.post enc Try.prog Try.f17 false true false false W args v W' := by
  have hW' := hW
  obtain ⟨p, q, hA0, hV, rfl, hfz, hnd⟩ := hW
  have hA : DataW.TrodAll enc Try.prog W 0 (fun _ => true) true Try.f17.params.toList args.toList ds p := hA0
  rw [Try.params17] at hA hval
  obtain ⟨v0, vs0, d0, ds0, p0, q0, hargs, rfl, rfl, h0, r0⟩ := trodAll_cons hA
  obtain ⟨v1, vs1, d1, ds1, p1, q1, rfl, rfl, rfl, h1, r1⟩ := trodAll_cons r0
  obtain ⟨rfl, rfl, rfl⟩ := trodAll_nil r1
  obtain rfl : args = #[v0, v1] := by cases args; simp_all
  obtain ⟨rfl, rfl⟩ := trodVars_none hV
  have k0 := h0
  have lt0 : ∀ x ∈ p0, x.block < W.heap.size := by obtain ⟨m, hm⟩ := k0; exact DataW.trod_lt m _ _ _ hm
  have k1 := h1
  have lt1 : ∀ x ∈ p1, x.block < W.heap.size := by obtain ⟨m, hm⟩ := k1; exact DataW.trod_lt m _ _ _ hm
  have hb := bulk_of hk
  simp only [List.append_nil, List.nil_append, List.cons_append, Rows.uptoBulkAll, Nat.add_zero] at hb
  obtain ⟨ar0, rfl, hz0⟩ := okWide_struct Try.underlying101 (hval 0 101 v0 rfl rfl)
  obtain ⟨cs0, rfl⟩ : ∃ cs : List Value, ar0 = cs.toArray := ⟨ar0.toList, by simp⟩
  obtain ⟨y0, hr0, hu0⟩ := arg_sch (m := 14) (s := Rc.sStore) (by kernel_rfl) h0
  obtain ⟨ar1, rfl, hz1⟩ := okWide_struct Try.underlying103 (hval 1 103 v1 rfl rfl)
  obtain ⟨cs1, rfl⟩ : ∃ cs : List Value, ar1 = cs.toArray := ⟨ar1.toList, by simp⟩
  obtain ⟨y1, hr1, hu1⟩ := arg_sch (m := 14) (s := Rc.sSnapshot) (by kernel_rfl) h1
  clear hA0
  refine (stores_ok cs0 cs1 y0 y1 W hr0 (by omega) hr1 (by omega)).mono fun e W' ⟨he, bel⟩ => ?_
  subst he
  exact ⟨_, rfl, _, _, _, [], _, [], hW', trodAll_mk1 (shut_bool Try.underlying4 _), (trodAll_cons_mk (Below.trod Try.laidOut (by kernel_rfl) (of_decide_eq_true (by kernel_rfl)) k0 bel.below lt0) (trodAll_cons_mk (Below.trod Try.laidOut (by kernel_rfl) (of_decide_eq_true (by kernel_rfl)) k1 bel.below lt1) trodAll_mk0)), rfl, bel.below.frame _, fun h => by cases h⟩

set_option maxRecDepth 100000 in
theorem lifted (os : Os) (started : os.Started) (H : Type) (enc : TypeId × Value → H) (F : Stop.Interp) :
    ReturnsInHanded {} Try.checked os 17 .any ((Rows.OpenSpec.upto Rows.codecStoresSpec).pre6 enc Try.prog Try.f17 Rows.codecStoresUptoRow.domain false) (((Rows.OpenSpec.upto Rows.codecStoresSpec).at F).post enc Try.prog Try.f17 false true false false) := by
  refine returnsInHanded_of_cond (C := Try.checked) (s := Rows.OpenSpec.upto Rows.codecStoresSpec) (k := Rows.uptoSmall) rfl Try.own started (by kernel_rfl) Try.func17
    (OpenSpec.witness (enc := enc) (C := Try.checked) (s := Rows.OpenSpec.upto Rows.codecStoresSpec) (k := Rows.uptoSmall) rfl false ⟨#[], #[.agg Rc.sStore.zc.toArray, .agg Rc.sSnapshot.zc.toArray], []⟩ 8 (by kernel_rfl) (by kernel_rfl) (by kernel_rfl)
      (x := ([.agg [.lit (.int .i64 0), .lit (.int .i64 0), .nil, .nil, .nil, .nil, .nil, .nil, .nil], .agg [.lit (.int .i64 0), .lit (.int .i64 0), .agg [.nil, .nil], .nil]], [], [])) (by kernel_rfl) rfl (by kernel_rfl)) ?_
  intro W base args ds gs before hval hW _ hk _
  exact contract H enc W base args ds gs before hval hW hk

theorem closed : joinedFacts Try.prog 17 Try.f17 (Rows.OpenSpec.upto Rows.codecStoresSpec).bare Rows.codecStoresUptoRow = true := by
  unfold joinedFacts
  rw [Try.words1, Try.words2, Try.words3]
  kernel_rfl

theorem proved : Rows.CodecStoresUptoSaid :=
  OpenClaim.holds_of_cond 17 Try.f17 rfl rfl rfl rfl rfl rfl rfl ⟨rfl, rfl, rfl, rfl, rfl⟩ rfl rfl rfl rfl rfl (by kernel_rfl) Try.func17 closed
    (of_decide_eq_true (by kernel_rfl)) (by unfold Func.isWrapper; first | (rw [if_pos (by decide +kernel)]; kernel_rfl) | (rw [if_neg (by decide +kernel)]; exact ⟨rfl, rfl⟩))
    (fun os started H enc _ F => lifted os started H enc F)
#print axioms proved
end Go.Proofs.Ytpfnbilopagepaa.codecStores
