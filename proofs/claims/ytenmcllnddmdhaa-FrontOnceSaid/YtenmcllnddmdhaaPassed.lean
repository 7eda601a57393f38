/- Passed: another server's answer. -/
import Derived.Test.YtenmcllnddmdhaaPass
set_option linter.unusedVariables false
set_option linter.unusedSimpArgs false
namespace Go.Lb
open Go Go.RowKit Go.ChangeMaps
variable {P : Program}
theorem wp_delete_some {o : Oper} {a : Act} {w : World} {K : Act → World → Prop} {Q : Exit → Act → World → Prop} {m : Nat} {A B : List (Int × Value)} {u : Value} {t kt et : TypeId} (x k : Operand) (ho : o.op = .call { callee := .builtin .delete, args := #[x, k], argTypes := #[t, kt] }) (k' : Int)
    (hx : a.eval x = .map (some m)) (hk' : a.eval k = .int .i64 k') (hm : MapIs w m (A ++ (k', u) :: B)) (ht : P.underlying t = some (.map kt et)) (hk : P.underlying kt = some (.int .i64)) (hn : ∀ p ∈ A, p.1 ≠ k')
    (h : ∀ w', MapIs w' m (A ++ B) → Upd [m] w w' → K (a.put o.dst (.tuple #[])) w') : o.wp P a w K Q := by
  obtain ⟨w', hr, h1, h2⟩ := run_delete_some (P := P) (ty := o.type) hm ht hk hn
  unfold Oper.wp execOp
  simp only [ho, resolve, invoke, builtin, Sem.run_bind, Sem.run_pure, Result.andThen_ok, List.map_toArray, List.map_cons, List.map_nil, hx, hk', hr]
  exact h w' h1 h2
theorem wpList_delete_some {ops : Array Oper} {rest : List Oper} {o : Oper} {a : Act} {w : World} {Q : Exit → Act → World → Prop} {m : Nat} {A B : List (Int × Value)} {u : Value} {t kt et : TypeId} (hgd : o.guard = none) (x k : Operand) (ho : o.op = .call { callee := .builtin .delete, args := #[x, k], argTypes := #[t, kt] }) (k' : Int)
    (hx : a.eval x = .map (some m)) (hk' : a.eval k = .int .i64 k') (hm : MapIs w m (A ++ (k', u) :: B)) (ht : P.underlying t = some (.map kt et)) (hk : P.underlying kt = some (.int .i64)) (hn : ∀ p ∈ A, p.1 ≠ k')
    (h : ∀ w', MapIs w' m (A ++ B) → Upd [m] w w' → wpList P ops Q rest (a.put o.dst (.tuple #[])) w') : wpList P ops Q (o :: rest) a w :=
  wpList_plain hgd fun _ hK => wp_delete_some x k ho k' hx hk' hm ht hk hn fun w' h1 h2 => hK _ _ (h w' h1 h2)
end Go.Lb
namespace Go.Proofs.Ytenmcllnddmdhaa
open Go.RowKit Go.Lb Go.Conc

theorem zero44 (w : World) : (zeroValue 44).run Try.prog w = .ok (.agg (whoL 0 0).toArray) w := by kernel_rfl
theorem zeroI44 (w : World) : (Try.prog.info? 44).map (·.zero) = some (some (.agg (whoL 0 0).toArray)) := by kernel_rfl

set_option maxRecDepth 20000 in
set_option maxHeartbeats 1000000 in
theorem passed_none (f : Nat) (F : List Nat) (s : Said) (k val : Int) (w : World) (h : FrontIs w f F s) (hn : ∀ p ∈ s.es, p.1 ≠ k) :
    Calls Try.prog 11 #[.pointer (some ⟨f, 0, none⟩), .int .i64 k, .agg #[.int .i64 0, .int .i64 val, .slice none 0 0]] w fun e w' => e = .returned (.tuple #[]) ∧ FPost w f F s w' := by
  have u0 := (Upd.refl [] w).alloc (.cells #[.int .i64 0, .int .i64 val, .slice none 0 0] 49)
  have hA := h.upd u0 (by simp)
  obtain ⟨p, hA, hF⟩ := hA
  have h2 := hA.blk.cell (o := 2) rfl
  have hlk := run_lookup_none hA.map Try.underlying73 Try.underlying3 (zero44 _) k (esV_ne hn)
  have H := Lib.hid h
  have HU := Lib.hid u0
  clear h hA hF u0 hn
  go_enter Try.func11, Try.ntmps11
  go_wp2_with (first | (refine wpList_alloc_blk rfl 44 rfl (whoL 0 0) (zero44 _) ?_; intro w2 hb2 hu2) | (refine wpList_store_blk rfl 44 (.tmp 6) (.tmp 15) rfl _ (whoL 0 0) rfl rfl hb2 Try.size44 rfl (whoL_one _ _) ?_; intro w3 hb3 hu3))
  go_end0
  have u1 := HU.out.trans (hu2.trans hu3 (by simp)) (by simp)
  exact ⟨rfl, F, H.out.upd u1 (by simp), u1.mono (by simp), fun k hk => .inl hk⟩

theorem passed_post {w w1 w2 : World} {f : Nat} {F : List Nat} {p : Parts} {s : Said} {es : List (Int × Int × Int)} {q : List Dn} (h : FrontAt w f p s) (hF : ∀ k ∈ foot f p, k ∈ F ∧ k < w.heap.size)
    (hu : Upd [p.m] w w1) (hm : MapIs w1 p.m (esV es)) (hu2 : Upd [p.c] w1 w2) (hb : BoxAt w2 p.b p.c 256 (q.map Dn.val')) :
    FPost w f F { s with es := es, q := q } w2 := by
  have nd := h.nd
  simp only [List.nodup_cons, List.mem_cons, List.not_mem_nil, or_false, not_or, not_false_eq_true, List.nodup_nil, and_true] at nd
  have hb1 : Blk w1 f 79 _ := hu.blk h.blk (by simpa using nd.1.1)
  obtain ⟨F1, ⟨p1, h1, h2⟩, hU, h3⟩ := pass_post h hF (hu.mono (by simp)) hb1 hm
  have nd2 := nd
  have hA1 : FrontAt w1 f p { s with es := es, ps := s.ps } := by
    refine ⟨hb1, ?_, ?_, hm, ?_, h.nd, h.av, h.ar⟩
    · exact hu.row h.rowL (by intro k hk; have := h.av k hk; simp at this ⊢; exact this.2.1)
    · exact hu.row h.rowR (by intro k hk; have := (h.ar k hk).1; simp at this ⊢; exact this.2.1)
    · exact h.box.upd hu (by simpa using fun e => nd.2.1.1 e.symm) (by simpa using fun e => nd.2.1.2 e.symm)
  have hF1 : ∀ k ∈ foot f p, k ∈ F ∧ k < w1.heap.size := fun k hk => ⟨(hF k hk).1, Nat.lt_of_lt_of_le (hF k hk).2 hu.size⟩
  obtain ⟨F2, k1, k2, k3⟩ := box_post hA1 hF1 (Upd.refl _ _) hu2 hb
  have hmF : p.m ∈ F := (hF _ (by simp [foot])).1
  refine ⟨F2, k1, (hu.mono (by simp; exact .inl hmF)).trans k2 (fun k hk => .inl hk), fun k hk => ?_⟩
  rcases k3 k hk with h | h
  · exact .inl h
  · exact .inr (by have := hu.size; omega)

theorem esV_mid (A B : List (Int × Int × Int)) (k n c : Int) : esV (A ++ (k, n, c) :: B) = esV A ++ (k, .agg (whoL n c).toArray) :: esV B := by simp [esV]
theorem esV_app (A B : List (Int × Int × Int)) : esV (A ++ B) = esV A ++ esV B := by simp [esV]

theorem build51b (x : List Value) (n c k val : Int) (w : World) : (Instr.build 51 #[(0, .agg (whoL n c).toArray), (2, .agg #[.int .i64 k, .int .i64 val, .slice none 0 0])]).run Try.prog w = .ok (.agg (doneL (whoL n c) 0 k val (.slice none 0 0)).toArray) w := by kernel_rfl

set_option maxRecDepth 100000 in
set_option maxHeartbeats 1600000 in
theorem passed_some (f : Nat) (F : List Nat) (s : Said) (A B : List (Int × Int × Int)) (k n c val : Int) (w : World) (h : FrontIs w f F s) (he : s.es = A ++ (k, n, c) :: B) (hn : ∀ p ∈ A, p.1 ≠ k) :
    Calls Try.prog 11 #[.pointer (some ⟨f, 0, none⟩), .int .i64 k, .agg #[.int .i64 0, .int .i64 val, .slice none 0 0]] w fun e w' => e = .returned (.tuple #[]) ∧
      FPost w f F { s with es := A ++ B, q := putQ 256 s.q ⟨n, c, 0, val, .slice none 0 0⟩ } w' := by
  obtain ⟨p, hA0, hF⟩ := h
  have u0 := (Upd.refl [] w).alloc (.cells #[.int .i64 0, .int .i64 val, .slice none 0 0] 49)
  have hA := hA0.upd u0 (by simp)
  have h2 := hA.blk.cell (o := 2) rfl
  have hm := hA.map
  rw [he, esV_mid] at hm
  have hlk := run_lookup_some hm Try.underlying73 Try.underlying3 (esV_ne hn)
  have HB0 := Lib.hid (Blk.new w 49 [.int .i64 0, .int .i64 val, .slice none 0 0])
  have HM : Hid (∀ w', Upd [] (w.alloc (.cells #[.int .i64 0, .int .i64 val, .slice none 0 0] 49)) w' → MapIs w' p.m (esV A ++ (k, .agg (whoL n c).toArray) :: esV B)) := Lib.hid fun w' u => hm.upd u (by simp)
  have HC : Hid (∀ w', Upd [] (w.alloc (.cells #[.int .i64 0, .int .i64 val, .slice none 0 0] 49)) w' → w'.cell? ⟨f, 2, none⟩ = some (.map (some p.m))) := Lib.hid fun w' u => (u.blk hA.blk (by simp)).cell rfl
  have nd := hA.nd
  simp only [List.nodup_cons, List.mem_cons, List.not_mem_nil, or_false, not_or, not_false_eq_true, List.nodup_nil, and_true] at nd
  have lm := (hF p.m (by simp [foot])).2
  have lc := (hF p.c (by simp [foot])).2
  have Hnd := Lib.hid nd
  have HA0 := Lib.hid hA0
  have HA := Lib.hid hA
  have HF := Lib.hid hF
  have HU := Lib.hid u0
  have Hn := Lib.hid (esV_ne hn)
  clear hA hA0 hF u0 hn he hm nd
  go_enter Try.func11, Try.ntmps11
  go_wp2_with (first | (refine wpList_alloc_blk rfl 44 rfl (whoL 0 0) (zero44 _) ?_; intro w2 hb2 hu2) | (refine wpList_store_blk (o := ⟨none, .store 44 (.tmp 6) (.tmp 15), _, _, _, _⟩) rfl 44 (.tmp 6) (.tmp 15) rfl _ (whoL n c) rfl rfl hb2 Try.size44 rfl (whoL_one _ _) ?_; intro w3 hb3 hu3; have hu03 := hu2.trans hu3 (by simp); have h23 := HC.out w3 hu03) | (refine wpList_delete_some rfl (.tmp 21) (.tmp 22) rfl k rfl rfl (HM.out _ hu03) Try.underlying73 Try.underlying3 Hn.out ?_; intro w4 hm4 hu4))
  clear hlk h2 h23
  have hsA : (w.alloc (.cells #[.int .i64 0, .int .i64 val, .slice none 0 0] 49)).heap.size = w.heap.size + 1 := by simp
  rw [hsA] at hb3
  have lf := (HF.out f (by simp [foot])).2
  have hbf := hu4.blk (hu03.blk HA.out.blk (by simp)) (by simpa using Hnd.out.1.1)
  have hbr := hu4.blk (hu03.blk HB0.out (by simp)) (by simp; omega)
  have hbw := hu4.blk hb3 (by simp; omega)
  have hbx := (HA.out.box.upd hu03 (by simp) (by simp)).upd hu4 (by simpa using fun e => Hnd.out.2.1.1 e.symm) (by simpa using fun e => Hnd.out.2.1.2 e.symm)
  have HR : Hid (∀ w', Upd [p.c] w4 w' → w'.cell? ⟨f, 5, none⟩ = some (.pointer (some ⟨p.b, 0, none⟩)) ∧ w'.cell? ⟨w.heap.size, 0, none⟩ = some (.int .i64 0) ∧ w'.cell? ⟨w.heap.size, 1, none⟩ = some (.int .i64 val) ∧ w'.cell? ⟨w.heap.size, 2, none⟩ = some (.slice none 0 0) ∧ w'.rangeAt (w.heap.size + 1) 0 (whoL n c)) := by
    refine Lib.hid fun w' u => ?_
    have k1 := u.blk hbr (by simp; omega)
    exact ⟨(u.blk hbf (by simpa using Hnd.out.1.2.2)).cell rfl, k1.cell rfl, k1.cell rfl, k1.cell rfl, (u.blk hbw (by simp; omega)).range⟩
  have HX := Lib.hid hbx
  have HM4 := Lib.hid hm4
  have HU4 : Hid (Upd [p.m] w w4) := Lib.hid ((((HU.out.trans hu03 (by simp)).mono (by simp)).trans hu4 (by simp)))
  clear hbf hbr hbw hbx hu4 hm4 hu03 hu3 hu2 hb2 hb3 hsA
  simp only [Act.put]
  refine wp_region_lex (fun w' => Upd [p.c] w4 w') 99 [(0, true), (1, true), (2, true), (3, true), (4, true), (5, true), (6, false), (7, true), (8, false)] (by kernel_rfl) (by kernel_rfl) (by kernel_rfl) (by kernel_rfl) (fun _ _ d _ _ h => by cases d <;> exact h) ?_
  simp only [lexOps, List.map_cons, List.map_nil, List.getD_cons_zero, List.getD_cons_succ]
  have hS0 : Upd [p.c] w4 w4.drew := (Upd.refl _ _).drew
  iterate 4 (refine lex_read rfl (by assumption) (v := ?_) (fun w' hw => ?_) ?_; rotate_left; (focus (obtain ⟨k1, k2, k3, k4, k5⟩ := HR.out w' hw; clear k5; go_simp; try with_reducible rfl)); simp only [Act.put, List.setIfInBounds_toArray, List.set_cons_zero, List.set_cons_succ])
  refine lex_read rfl (by exact hS0) (fun w' hw => exec_load (by rfl) (by rfl) (run_loadAt_mid w' (w.heap.size + 1) 0 44 (whoL n c) _ (HR.out w' hw).2.2.2.2 Try.underlying44 rfl (by exact Try.size44))) ?_
  try simp only [Act.put, List.setIfInBounds_toArray, List.set_cons_zero, List.set_cons_succ]
  iterate 1 (refine lex_read rfl (by assumption) (v := ?_) (fun w' hw => ?_) ?_; rotate_left; (focus (obtain ⟨k1, k2, k3, k4, k5⟩ := HR.out w' hw; clear k5; go_simp; try with_reducible rfl)); simp only [Act.put, List.setIfInBounds_toArray, List.set_cons_zero, List.set_cons_succ])
  refine lex_do rfl (fun K hK => ?_)
  go_simp
  refine (own_nil 0 val _).mono ?_
  rintro e w5 ⟨rfl, u5⟩
  have hS5 : Upd [p.c] w4 w5 := hS0.trans u5 (by simp)
  refine hK _ _ (fun _ => hS5) ?_
  clear hK K
  try simp only [Act.put, List.setIfInBounds_toArray, List.set_cons_zero, List.set_cons_succ]
  refine lex_read rfl (by exact hS5) (fun w' hw => exec_build (by rfl) (by simp [Act.eval]) (build51b [] n c 0 val _)) ?_
  try simp only [Act.put, List.setIfInBounds_toArray, List.set_cons_zero, List.set_cons_succ]
  refine lex_do rfl (fun K hK => ?_)
  go_simp
  have u45 : Upd [] w4 w5 := ((Upd.refl [] w4).drew).trans u5 (by simp)
  refine (box_put_any p.b p.c 256 (s.q.map Dn.val') (Dn.cells ⟨n, c, 0, val, .slice none 0 0⟩) _ (HX.out.upd u45 (by simp) (by simp)) rfl).mono ?_
  rintro e w6 ⟨r, rfl, hb6, u6⟩
  have hb6' : BoxAt w6 p.b p.c 256 ((putQ 256 s.q (⟨n, c, 0, val, .slice none 0 0⟩ : Dn)).map Dn.val') := by rw [putQ_map]; exact hb6
  have Hx := Lib.hid (passed_post (es := A ++ B) HA0.out HF.out HU4.out (by rw [esV_app]; exact HM4.out) ((u45.mono (by simp)).trans u6 (by simp)) hb6')
  refine hK _ _ (fun _ => hS5.trans u6 (by simp)) ?_
  clear hK K hb6 hb6' u6 u5 u45 hS5 hS0
  try simp only [Act.put, List.setIfInBounds_toArray, List.set_cons_zero, List.set_cons_succ]
  refine lex_nil ?_
  go_wp2_with fail
  go_end0
  exact ⟨rfl, Hx.out⟩
end Go.Proofs.Ytenmcllnddmdhaa
