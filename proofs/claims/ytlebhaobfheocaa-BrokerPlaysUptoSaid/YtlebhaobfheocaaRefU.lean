/- coxswainref15.Broker's Update: what its steps leave. -/
import Derived.Test.YtlebhaobfheocaaRefD
import Derived.Deep.AppendLies
set_option linter.unusedVariables false
set_option linter.unusedSimpArgs false
namespace Go.Proofs.Ytlebhaobfheocaa
open Go.RowKit Go.Lb Go.Hp

/-- What is so between two evaluations. -/
structure RuI (w : World) (r q : Nat) (fo : List Nat) (st : List Value) (R : List Rf) (v : Value) (wr : World) : Prop where
  rb : RbAt wr r v R
  ft : ∀ k ∈ rfoot r v, k < wr.heap.size ∧ (k ∈ fo ∨ w.heap.size ≤ k) ∧ k ≠ q
  upd : Upd fo w wr
  st : Blk wr q 34 st
theorem RuI.any {w wr w' : World} {r q : Nat} {fo : List Nat} {st : List Value} {R : List Rf} {v : Value} (h : RuI w r q fo st R v wr) (u : Upd [] wr w') : RuI w r q fo st R v w' :=
  ⟨h.rb.any u, fun k hk => ⟨Nat.lt_of_lt_of_le (h.ft k hk).1 u.size, (h.ft k hk).2⟩, h.upd.trans u (by simp), u.blk h.st (by simp)⟩
theorem RuI.put {w wr w' : World} {r q s c i : Nat} {fo : List Nat} {st : List Value} {R : List Rf} {y : Rf} (h : RuI w r q fo st R (.slice (some ⟨s, 0, none⟩) R.length c) wr) (u : Upd [s] wr w')
    (ho : w'.ownsRow 0 71 9 (.slice (some ⟨s, 0, none⟩) R.length c) R.length ((rvals R).set i y.vals).flatten) : RuI w r q fo st (R.set i y) (.slice (some ⟨s, 0, none⟩) (R.set i y).length c) w' := by
  have hs := h.ft s (by simp [rfoot, Value.ownBlock])
  rw [List.length_set]
  refine ⟨h.rb.put u ho, fun k hk => ⟨Nat.lt_of_lt_of_le (h.ft k hk).1 u.size, (h.ft k hk).2⟩, h.upd.trans u (fun k hk => by simp at hk; subst hk; exact hs.2.1), u.blk h.st (by simpa using Ne.symm hs.2.2)⟩
theorem RuI.app {w wr W w1 : World} {r q g cap : Nat} {fo : List Nat} {st : List Value} {R : List Rf} {v : Value} {y : Rf} (h : RuI w r q fo st R v wr) (hW : Upd [] wr W)
    (ho : w1.ownsRow 0 71 9 (.slice (some ⟨g, 0, none⟩) (R.length + 1) cap) (R.length + 1) ((rvals R).flatten ++ y.vals)) (hg : W.grownBy w1 v.ownBlock) (hgb : v.ownBlock = some g ∨ g = W.heap.size) (hlt : g < w1.heap.size) :
    RuI w r q fo st (R ++ [y]) (.slice (some ⟨g, 0, none⟩) (R ++ [y]).length cap) (w1.setCell ⟨r, 0, none⟩ (.slice (some ⟨g, 0, none⟩) (R.length + 1) cap)) := by
  have s1 := hW.size
  have s2 := hg.size
  have s0 := h.upd.size
  have hr := h.ft r (by simp [rfoot])
  have hv : ∀ k, v.ownBlock = some k → k ∈ rfoot r v := fun k hk => by simp [rfoot, hk]
  have u3 : Upd v.ownBlock.toList wr w1 := (hW.mono (by simp)).grown hg (by intro k hk; simp [hk])
  have uS : Upd [r] w1 (w1.setCell ⟨r, 0, none⟩ (.slice (some ⟨g, 0, none⟩) (R.length + 1) cap)) := (Upd.refl _ _).setCell (by simp) _
  have hql : q < wr.heap.size := h.st.lt
  have hgr : g ≠ r := by
    rcases hgb with e | e
    · intro e2; exact h.rb.ne (by rw [e, e2])
    · omega
  have e : (R ++ [y]).length = R.length + 1 := by simp
  rw [e]
  refine ⟨⟨(u3.blk h.rb.blk (by simpa using h.rb.ne)).set 0 _, ?_, by simp [Value.ownBlock, hgr]⟩, fun k hk => ?_, ?_, ?_⟩
  · have := uS.row ho (by intro k hk; simp [Value.ownBlock] at hk; subst hk; simpa using hgr)
    rw [e]
    simpa [rvals] using this
  · simp only [World.size_setCell]
    simp only [rfoot, Value.ownBlock, Option.toList, List.mem_cons, List.not_mem_nil, or_false] at hk
    rcases hk with rfl | rfl
    · exact ⟨by omega, hr.2⟩
    · rcases hgb with e | e
      · exact ⟨hlt, (h.ft _ (hv _ e)).2⟩
      · exact ⟨hlt, .inr (by omega), by omega⟩
  · refine (h.upd.trans u3 (fun k hk => ?_)).trans uS (fun k hk => ?_)
    · exact (h.ft k (hv k (by simpa using hk))).2.1
    · simp at hk; subst hk; exact hr.2.1
  · exact uS.blk (u3.blk h.st (fun hk => (h.ft _ (hv _ (by simpa using hk))).2.2 rfl)) (by simpa using fun e => hr.2.2 e.symm)

theorem put_rows {w : World} {s c n i : Nat} {R : List Rf} {x : Rf} (e : Ev) (hrow : w.ownsRow 0 71 9 (.slice (some ⟨s, 0, none⟩) n c) n (rvals R).flatten) (hx : R[i]? = some x) :
    ((((w.setCell ⟨s, i * 9, none⟩ (.int .i64 e.job)).setCell ⟨s, i * 9 + 1, none⟩ (.int .i64 e.pr)).setCell ⟨s, i * 9 + 2, none⟩ (.int .i64 e.st)).setCell ⟨s, i * 9 + 3, none⟩ (.int .i64 e.ix)).ownsRow 0 71 9 (.slice (some ⟨s, 0, none⟩) n c) n ((rvals R).set i (Rf.vals { x with ev := e })).flatten := by
  have hi := (List.getElem?_eq_some_iff.1 hx).1
  have hiv : i < (rvals R).length := by simpa [rvals] using hi
  obtain ⟨⟨xj, xp, xs, xi⟩, xc, xo, xh, xw, xt⟩ := x
  have r1 := row_cell_set hrow (rvals_len R) (sets9 hx) (show 0 < 9 by omega) (.int .i64 e.job)
  rw [Nat.add_zero] at r1
  have r2 := row_cell_set r1 (set_len9 (rvals_len R) rfl) (i := i) (k := 1) (x := (Rf.vals ⟨⟨xj, xp, xs, xi⟩, xc, xo, xh, xw, xt⟩).set 0 (.int .i64 e.job)) (by simp [hiv]) (by omega) (.int .i64 e.pr)
  rw [List.set_set] at r2
  have r3 := row_cell_set r2 (set_len9 (rvals_len R) rfl) (i := i) (k := 2) (x := ((Rf.vals ⟨⟨xj, xp, xs, xi⟩, xc, xo, xh, xw, xt⟩).set 0 (.int .i64 e.job)).set 1 (.int .i64 e.pr)) (by simp [hiv]) (by omega) (.int .i64 e.st)
  rw [List.set_set] at r3
  have r4 := row_cell_set r3 (set_len9 (rvals_len R) rfl) (i := i) (k := 3) (x := (((Rf.vals ⟨⟨xj, xp, xs, xi⟩, xc, xo, xh, xw, xt⟩).set 0 (.int .i64 e.job)).set 1 (.int .i64 e.pr)).set 2 (.int .i64 e.st)) (by simp [hiv]) (by omega) (.int .i64 e.ix)
  rw [List.set_set] at r4
  exact r4
theorem u1_none {R : List Rf} {e : Ev} (hs : e.st = 1) (h : ∀ x ∈ R, rJob e.job x = false) : u1 R e = R ++ [rNew e] := by
  unfold u1
  rw [if_pos hs, List.any_eq_false.2 (fun x hx => by rw [h x hx]; simp)]
  simp
theorem u1_some {R : List Rf} {e : Ev} {i : Nat} {x : Rf} (hs : e.st = 1) (hx : R[i]? = some x) (hp : rJob e.job x = true) (hb : ∀ j y, j < i → R[j]? = some y → rJob e.job y = false) : u1 R e = R.set i (rPut e x) := by
  unfold u1
  rw [if_pos hs, List.any_eq_true.2 ⟨x, List.mem_of_getElem? hx, hp⟩]
  exact IdxR.up hx hp hb
theorem set_same {R : List Rf} {i : Nat} {x : Rf} (hx : R[i]? = some x) : R.set i x = R := by
  refine List.ext_getElem? fun j => ?_
  rw [List.getElem?_set]
  have := (List.getElem?_eq_some_iff.1 hx).1
  split
  · rename_i e; subst e
    rw [List.getElem?_eq_getElem this] at hx ⊢
    simp at hx
    simp [this, hx]
  · rfl
theorem build71 (e : Ev) (w : World) : (Instr.build 71 #[(0, .agg e.vals.toArray)]).run Try.prog w = .ok (.agg (Rf.vals (rNew e)).toArray) w := by kernel_rfl

def keepR (es : List Ev) (x : Rf) : Bool := !(!x.had && !pend es x.ev.job)
def keepTo (es : List Ev) (R : List Rf) (i : Nat) : List Rf := (R.take i).filter (keepR es)
theorem keep_yes {es : List Ev} {R : List Rf} {i : Nat} {x : Rf} (hx : R[i]? = some x) (h : keepR es x = true) : keepTo es R (i + 1) = keepTo es R i ++ [x] := by
  unfold keepTo; rw [take_snoc hx, List.filter_append]; simp [h]
theorem keep_no {es : List Ev} {R : List Rf} {i : Nat} {x : Rf} (hx : R[i]? = some x) (h : keepR es x = false) : keepTo es R (i + 1) = keepTo es R i := by
  unfold keepTo; rw [take_snoc hx, List.filter_append]; simp [h]
theorem keep_len (es : List Ev) (R : List Rf) (i : Nat) : (keepTo es R i).length ≤ R.length := by
  unfold keepTo
  have := List.length_filter_le (keepR es) (R.take i)
  have := List.length_take_le' i R
  omega
theorem RbPost.weak {w w' : World} {r : Nat} {F G : List Nat} {R : List Rf} (h : RbPost w r G R w') (hG : ∀ k ∈ G, k ∈ F ∨ w.heap.size ≤ k) : RbPost w r F R w' := by
  obtain ⟨F', h1, h2, h3⟩ := h
  refine ⟨F', h1, h2.mono hG, fun k hk => ?_⟩
  rcases h3 k hk with h4 | h4
  · exact hG k h4
  · exact .inr h4
theorem RbPost.after {w w1 w' : World} {r : Nat} {F : List Nat} {R : List Rf} (u : Upd F w w1) (h : RbPost w1 r F R w') : RbPost w r F R w' := by
  obtain ⟨F', h1, h2, h3⟩ := h
  refine ⟨F', h1, u.trans h2 (fun k hk => .inl hk), fun k hk => ?_⟩
  rcases h3 k hk with h4 | h4
  · exact .inl h4
  · exact .inr (Nat.le_trans u.size h4)
def pnd (e : Ev) (j : Int) : Bool := e.st == 1 && e.job == j
theorem pend_take {es : List Ev} {k : Nat} {e : Ev} (he : es[k]? = some e) (j : Int) : pend (es.take (k + 1)) j = (pend (es.take k) j || pnd e j) := by
  unfold pend pnd
  rw [take_snoc he, List.any_append]
  simp
end Go.Proofs.Ytlebhaobfheocaa
