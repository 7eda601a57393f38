/- Pass: a number for who waits for another server. -/
import Derived.Test.YtenmcllnddmdhaaTake
set_option linter.unusedVariables false
set_option linter.unusedSimpArgs false
namespace Go.Lb
open Go Go.RowKit Go.ChangeMaps
variable {P : Program}
theorem wp_mapUpdate_new {o : Oper} {a : Act} {w : World} {K : Act → World → Prop} {Q : Exit → Act → World → Prop} {m : Nat} {es : List (Int × Value)} {t kt et : TypeId} (x k v : Operand) (ho : o.op = .mapUpdate t x k v) (k' : Int) (v' : Value)
    (hx : a.eval x = .map (some m)) (hk' : a.eval k = .int .i64 k') (hv : a.eval v = v') (hm : MapIs w m es) (ht : P.underlying t = some (.map kt et)) (hk : P.underlying kt = some (.int .i64)) (hn : ∀ p ∈ es, p.1 ≠ k')
    (h : ∀ w', MapIs w' m (es ++ [(k', v')]) → Upd [m] w w' → K (a.put o.dst undef) w') : o.wp P a w K Q := by
  obtain ⟨w', hr, h1, h2⟩ := run_mapUpdate_new hm ht hk k' v' hn
  unfold Oper.wp execOp
  simp only [ho, hx, hk', hv, Sem.run_bind, hr, Result.andThen_ok, Sem.run_pure]
  exact h w' h1 h2
end Go.Lb
namespace Go.Proofs.Ytenmcllnddmdhaa
open Go.RowKit Go.Lb Go.Conc

theorem esV_snoc (es : List (Int × Int × Int)) (k n c : Int) : esV (es ++ [(k, n, c)]) = esV es ++ [(k, .agg (whoL n c).toArray)] := by simp [esV]
theorem esV_ne {es : List (Int × Int × Int)} {k : Int} (h : ∀ p ∈ es, p.1 ≠ k) : ∀ p ∈ esV es, p.1 ≠ k := by
  intro p hp
  simp only [esV, List.mem_map] at hp
  obtain ⟨y, hy, rfl⟩ := hp
  exact h y hy

set_option maxHeartbeats 1000000 in
theorem pass_full (f : Nat) (F : List Nat) (s : Said) (n c : Int) (w : World) (h : FrontIs w f F s) (hl : 64 ≤ s.es.length) (hl2 : s.es.length ≤ 64) :
    Calls Try.prog 10 #[.pointer (some ⟨f, 0, none⟩), .agg (whoL n c).toArray] w fun e w' => e = .returned (.tuple #[.int .i64 0, .int .i64 2]) ∧ FPost w f F s w' := by
  have hA := h.upd ((Upd.refl [] w).alloc (.cells (whoL n c).toArray 44)) (by simp)
  obtain ⟨p, hA, hF⟩ := hA
  have h2 := hA.blk.cell (o := 2) rfl
  have hm := hA.map
  have he : (esV s.es).length = s.es.length := by simp [esV]
  have hq := run_len_mapIs (P := Try.prog) (ty := 3) hm Try.underlying73
  rw [he] at hq
  have hd : decide ((64 : Int) ≤ (s.es.length : Int)) = true := by simp; omega
  have H := Lib.hid h
  clear h hA hF hm he
  generalize s.es.length = x at *
  go_enter Try.func10, Try.ntmps10
  go_wp2_with fail
  go_ret2
  exact ⟨rfl, F, H.out.upd ((Upd.refl [] w).alloc _) (by simp), (Upd.refl _ _).alloc _, fun k hk => .inl hk⟩

/-- The numbers and the map are new, all else is as it was. -/
theorem pass_post {w w1 : World} {f : Nat} {F : List Nat} {p : Parts} {s : Said} {es : List (Int × Int × Int)} {ps : Int} (h : FrontAt w f p s) (hF : ∀ k ∈ foot f p, k ∈ F ∧ k < w.heap.size)
    (hu : Upd [f, p.m] w w1) (hb : Blk w1 f 79 [p.v, p.rv, .map (some p.m), .int .i64 s.rd, .int .i64 ps, .pointer (some ⟨p.b, 0, none⟩)]) (hm : MapIs w1 p.m (esV es)) :
    FPost w f F { s with es := es, ps := ps } w1 := by
  have nd := h.nd
  simp only [List.nodup_cons, List.mem_cons, List.not_mem_nil, or_false, not_or, not_false_eq_true, List.nodup_nil, and_true] at nd
  refine ⟨foot f p, ⟨⟨p.v, p.rv, p.m, p.b, p.c⟩, ⟨hb, ?_, ?_, hm, ?_, h.nd, h.av, h.ar⟩, ?_⟩, ?_, ?_⟩
  · exact hu.row h.rowL (by intro k hk; have := h.av k hk; simp at this ⊢; exact ⟨this.1, this.2.1⟩)
  · exact hu.row h.rowR (by intro k hk; have := (h.ar k hk).1; simp at this ⊢; exact ⟨this.1, this.2.1⟩)
  · exact h.box.upd hu (by simp; exact ⟨fun e => nd.1.2.1 e.symm, fun e => nd.2.1.1 e.symm⟩) (by simp; exact ⟨fun e => nd.1.2.2 e.symm, fun e => nd.2.1.2 e.symm⟩)
  · intro k hk
    have h1 := (hF k hk).2
    have := hu.size
    exact ⟨hk, by omega⟩
  · exact hu.mono (fun k hk => by
      simp only [List.mem_cons, List.not_mem_nil, or_false] at hk
      rcases hk with rfl | rfl
      · exact .inl (hF _ (by simp [foot])).1
      · exact .inl (hF _ (by simp [foot])).1)
  · intro k hk; exact .inl (hF k hk).1

set_option maxRecDepth 20000 in
set_option maxHeartbeats 1000000 in
theorem pass_ok (f : Nat) (F : List Nat) (s : Said) (n c : Int) (w : World) (h : FrontIs w f F s) (hl : s.es.length < 64) (hp0 : 0 ≤ s.ps) (hp1 : s.ps < 9223372036854775807) (hn : ∀ p ∈ s.es, p.1 ≠ s.ps + 1) :
    Calls Try.prog 10 #[.pointer (some ⟨f, 0, none⟩), .agg (whoL n c).toArray] w fun e w' => e = .returned (.tuple #[.int .i64 (s.ps + 1), .int .i64 0]) ∧ FPost w f F { s with es := s.es ++ [(s.ps + 1, n, c)], ps := s.ps + 1 } w' := by
  obtain ⟨p, hA0, hF⟩ := h
  have u0 := (Upd.refl [] w).alloc (.cells (whoL n c).toArray 44)
  have hA := hA0.upd u0 (by simp)
  have h2 := hA.blk.cell (o := 2) rfl
  have h4 := hA.blk.cell (o := 4) rfl
  have hfz := hA.blk.frozen 4
  have hm := hA.map
  have he : (esV s.es).length = s.es.length := by simp [esV]
  have hq := run_len_mapIs (P := Try.prog) (ty := 3) hm Try.underlying73
  rw [he] at hq
  have hd : decide ((64 : Int) ≤ (s.es.length : Int)) = false := by simp; omega
  have hlf := hA0.blk.lt
  have lf := (hF f (by simp [foot])).2
  have nd := hA.nd
  simp only [List.nodup_cons, List.mem_cons, List.not_mem_nil, or_false, not_or, not_false_eq_true, List.nodup_nil, and_true] at nd
  have us : Upd [f] w (w.setCell ⟨f, 4, none⟩ (.int .i64 (s.ps + 1))) := (Upd.refl _ _).setCell (by simp) _
  have HB' := Blk.new (w.setCell ⟨f, 4, none⟩ (.int .i64 (s.ps + 1))) 44 (whoL n c)
  rw [World.size_setCell] at HB'
  have HB := Lib.hid HB'
  have Hf := Lib.hid ((hA0.blk.set 4 (.int .i64 (s.ps + 1))).alloc (.cells (whoL n c).toArray 44))
  have HM := Lib.hid ((hA0.map.upd us (by simpa using fun e => nd.1.1 e.symm)).upd ((Upd.refl [] _).alloc (.cells (whoL n c).toArray 44)) (by simp))
  have HA0 := Lib.hid hA0
  have HF := Lib.hid hF
  have HU := Lib.hid (us.alloc (.cells (whoL n c).toArray 44))
  have Hn := Lib.hid (esV_ne hn)
  have Hnd := Lib.hid nd
  clear hA hA0 hF hm he u0 us hn nd HB'
  go_enter Try.func10, Try.ntmps10
  go_wp2_with fail
  clear hq h2 h4 hfz
  generalize (w.setCell ⟨f, 4, none⟩ (.int .i64 (s.ps + 1))).alloc (.cells (whoL n c).toArray 44) = wB at *
  have HR : Hid (∀ w', Upd [] wB w' → w'.cell? ⟨f, 2, none⟩ = some (.map (some p.m)) ∧ w'.cell? ⟨f, 4, none⟩ = some (.int .i64 (s.ps + 1)) ∧ w'.rangeAt w.heap.size 0 (whoL n c)) := 
    Lib.hid fun w' u => ⟨(u.blk Hf.out (by simp)).cell rfl, (u.blk Hf.out (by simp)).cell rfl, (u.blk HB.out (by simp)).range⟩
  refine wp_region_lex (fun w' => Upd [] wB w') 9 [(0, true), (1, true), (2, true), (3, true), (4, true), (5, true), (6, true), (7, true), (8, true), (9, false)] (by kernel_rfl) (by kernel_rfl) (by kernel_rfl) (by kernel_rfl) (fun _ _ d _ _ h => by cases d <;> exact h) ?_
  simp only [lexOps, List.map_cons, List.map_nil, List.getD_cons_zero, List.getD_cons_succ]
  have hS0 : Upd [] wB wB.drew := (Upd.refl _ _).drew
  iterate 8 (refine lex_read rfl (by assumption) (v := ?_) (fun w' hw => ?_) ?_; rotate_left; (focus (obtain ⟨k1, k2, k3⟩ := HR.out w' hw; clear k3; go_simp; try with_reducible rfl)); simp only [Act.put, List.setIfInBounds_toArray, List.set_cons_zero, List.set_cons_succ])
  refine lex_read rfl (by exact hS0) (fun w' hw => exec_load (by rfl) (by rfl) (run_loadAt_mid w' w.heap.size 0 44 (whoL n c) _ (HR.out w' hw).2.2 Try.underlying44 rfl (by exact Try.size44))) ?_
  try simp only [Act.put, List.setIfInBounds_toArray, List.set_cons_zero, List.set_cons_succ]
  refine lex_do rfl (fun K hK => ?_)
  refine wp_mapUpdate_new _ _ _ (by rfl) (s.ps + 1) (.agg (whoL n c).toArray) (by rfl) (by rfl) (by rfl) (HM.out.upd hS0 (by simp)) Try.underlying73 Try.underlying3 Hn.out ?_
  intro w2 hm2 hu2
  rw [← esV_snoc] at hm2
  have hb2 := hu2.blk ((hS0.blk Hf.out (by simp))) (by simpa using Hnd.out.1.1)
  have q4 := hb2.cell (o := 4) rfl
  have Hx := Lib.hid (pass_post HA0.out HF.out (((HU.out.mono (by simp)).trans hS0 (by simp)).trans hu2 (by simp)) hb2 hm2)
  refine hK _ _ (fun h => absurd rfl h) ?_
  clear hK K hS0 hb2 hm2 hu2
  try simp only [Act.put, List.setIfInBounds_toArray, List.set_cons_zero, List.set_cons_succ]
  refine lex_nil ?_
  go_wp2_with fail
  go_ret2
  exact ⟨rfl, Hx.out⟩
end Go.Proofs.Ytenmcllnddmdhaa
