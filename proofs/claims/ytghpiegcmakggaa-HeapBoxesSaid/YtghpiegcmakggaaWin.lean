/- A slice of one-cell things that looks at a part of a row of the call's own: append of one more, the tail. Over any program. -/
import Derived.Test.YtghpiegcmakggaaLib
import Derived.ArgAppend
set_option linter.unusedVariables false
set_option linter.unusedSimpArgs false
namespace Go.Lb
open Go Go.RowKit

/-- The slice v holds xs, one cell each, somewhere in a row of the call's own. -/
def Win (w : World) (e : TypeId) (v : Value) (xs : List Value) : Prop :=
  (v = .slice none 0 0 ∧ xs = []) ∨
  ∃ g o cap vs, v = .slice (some ⟨g, o, none⟩) xs.length cap ∧ Blk w g e vs ∧ xs.length ≤ cap ∧ cap ≤ maxLen ∧ o + cap ≤ vs.length ∧ ∀ i u, xs[i]? = some u → vs[o + i]? = some u

theorem Win.nil (w : World) (e : TypeId) : Win w e (.slice none 0 0) [] := .inl ⟨rfl, rfl⟩
theorem Win.shape {w : World} {e : TypeId} {v : Value} {xs : List Value} (h : Win w e v xs) : ∃ a c, v = .slice a xs.length c := by
  rcases h with ⟨rfl, rfl⟩ | ⟨g, o, cap, vs, rfl, _⟩
  · exact ⟨_, _, rfl⟩
  · exact ⟨_, _, rfl⟩
theorem Win.upd {w w' : World} {e : TypeId} {v : Value} {xs : List Value} (h : Win w e v xs) {F : List Nat} (u : Upd F w w') (hF : ∀ k, v.ownBlock = some k → k ∉ F) : Win w' e v xs := by
  rcases h with h | ⟨g, o, cap, vs, rfl, hb, r⟩
  · exact .inl h
  · exact .inr ⟨g, o, cap, vs, rfl, u.blk hb (hF g rfl), r⟩
theorem Win.lt {w : World} {e : TypeId} {v : Value} {xs : List Value} (h : Win w e v xs) : ∀ k, v.ownBlock = some k → k < w.heap.size := by
  intro k hk
  rcases h with ⟨rfl, _⟩ | ⟨g, o, cap, vs, rfl, hb, r⟩
  · cases hk
  · simp [Value.ownBlock] at hk; subst hk; exact hb.lt
theorem Win.head {w : World} {e : TypeId} {v x : Value} {xs : List Value} (h : Win w e v (x :: xs)) : ∃ g o cap, v = .slice (some ⟨g, o, none⟩) (xs.length + 1) cap ∧ w.cell? ⟨g, o, none⟩ = some x ∧ xs.length + 1 ≤ cap ∧ cap ≤ maxLen := by
  rcases h with ⟨_, h⟩ | ⟨g, o, cap, vs, rfl, hb, h1, h2, h3, h4⟩
  · cases h
  · exact ⟨g, o, cap, rfl, by have := h4 0 x rfl; exact hb.cell (by simpa using this), h1, h2⟩
theorem Win.tail {w : World} {e : TypeId} {x : Value} {xs : List Value} {g o cap : Nat} (h : Win w e (.slice (some ⟨g, o, none⟩) (xs.length + 1) cap) (x :: xs)) :
    Win w e (.slice (some ⟨g, if cap = 1 then o else o + 1, none⟩) xs.length (cap - 1)) xs := by
  rcases h with ⟨h, _⟩ | ⟨g', o', cap', vs, hv, hb, h1, h2, h3, h4⟩
  · cases h
  · simp at hv
    obtain ⟨⟨rfl, rfl⟩, rfl⟩ := hv
    simp at h1
    refine .inr ⟨g, _, cap - 1, vs, rfl, hb, by omega, by omega, by split <;> omega, fun i u hi => ?_⟩
    have hil := (List.getElem?_eq_some_iff.1 hi).1
    have := h4 (i + 1) u (by simpa using hi)
    rw [if_neg (by omega)]
    rw [show o + 1 + i = o + (i + 1) by omega]
    exact this

theorem arr_of_list (l : List Value) (a : Array Value) : l.toArray ++ a = (l ++ a.toList).toArray := by
  cases a; simp
theorem arr_of_list2 (l m : List Value) (a : Array Value) : l.toArray ++ m.toArray ++ a = (l ++ m ++ a.toList).toArray := by
  cases a; simp

section
variable {P : Program}
theorem run_append_win (w : World) (t ty e : TypeId) (i : TypeInfo) (z : Value) (bytes : Nat) (ht : P.underlying t = some (.slice e)) (hi : P.info? e = some i) (hz : i.zero = some z) (hsize : i.size = 1) (hby : i.bytes = bytes) (hzs : z.cells.size = 1)
    (v : Value) (xs : List Value) (hown : Win w e v xs) (a : Addr) (c : Nat) (x : Value) (hx : w.cell? a = some x) (ha : a.add 0 = a) (h1 : x.oneCell' = true) (h63 : xs.length + 1 ≤ maxLen) (hbytes : (xs.length + 1) * bytes ≤ 140737488355328) :
    ∃ v' w', (Builtin.append_ #[t, t] ty #[v, .slice (some a) 1 c]).run P w = .ok v' w' ∧ Win w' e v' (xs ++ [x]) ∧ w.grownBy w' v.ownBlock ∧ (v'.ownBlock = v.ownBlock ∨ v'.ownBlock = some w.heap.size) := by
  have hnews : ∀ j u, [x][j]? = some u → w.cell? (a.add j) = some u := by
    intro j u hj
    match j, hj with
    | 0, hj => simp at hj; subst hj; rw [ha]; exact hx
    | j + 1, hj => simp at hj
  have h63' : xs.length + 1 ≤ 9223372036854775807 := by simp only [maxLen] at h63; omega
  rcases hown with ⟨rfl, rfl⟩ | ⟨g, o, cap, vs, rfl, hb, g1, g2, g3, g4⟩
  · have hr := run_append_nil (P := P) w t ty e i z ht hi hz a 1 c [x] (by simp [hsize]) hnews (by omega) (by omega) (by rw [hby]; simp at hbytes; omega)
    have hge := grownCap_ge w 1 0 e
    have hcm : grownCap w 1 0 e ≤ maxLen := grownCap_le_maxLen w 1 0 e (by simpa using h63)
    refine ⟨_, _, hr, .inr ⟨w.heap.size, 0, _, [x] ++ (Builtin.zeroCells z.cells (grownCap w 1 0 e - 1)).toList, rfl, ?_, by simpa using hge, hcm, ?_, ?_⟩, ⟨rfl, rfl, rfl, by simp, fun k hk _ => Below.heap_alloc w.drew _ k hk⟩, .inr rfl⟩
    · rw [show ([x].toArray ++ Builtin.zeroCells z.cells (grownCap w 1 0 e - 1)) = ([x] ++ (Builtin.zeroCells z.cells (grownCap w 1 0 e - 1)).toList).toArray from arr_of_list _ _]
      exact Blk.new w.drew e _
    · simp [size_zeroCells, hzs]; omega
    · intro i u hi
      match i, hi with
      | 0, hi => simp at hi; subst hi; simp
      | i + 1, hi => simp at hi
  · by_cases hroom : xs.length + 1 ≤ cap
    · have hlt : o + xs.length < vs.length := by omega
      have hcl := hb.cell (o := o + xs.length) (List.getElem?_eq_getElem hlt)
      have hr := run_append_room_cells (P := P) w t ty e i ht hi g o xs.length cap a 1 c [x] (by simp [hsize]) hnews (by simp [h1]) hroom
        (by intro j hj; simp at hj; subst hj; rw [hsize, Nat.mul_one, Nat.add_zero, hcl]; rfl) (by intro j hj; exact hb.frozen _)
      rw [hsize, Nat.mul_one] at hr
      simp only [World.setCells] at hr
      refine ⟨_, _, hr, .inr ⟨g, o, cap, vs.set (o + xs.length) x, by simp, hb.set _ _, by simpa using hroom, g2, by simpa using g3, ?_⟩, ⟨rfl, rfl, rfl, by simp, fun k _ hk => Below.heap_setCell _ _ _ _ (fun e => hk (by simp [Value.ownBlock, e]))⟩, .inl rfl⟩
      intro i u hi
      by_cases e1 : i < xs.length
      · rw [List.getElem?_append_left e1] at hi
        rw [List.getElem?_set_ne (by omega)]
        exact g4 i u hi
      · have e2 : i = xs.length := by
          have := (List.getElem?_eq_some_iff.1 hi).1
          simp at this
          omega
        subst e2
        simp at hi
        subst hi
        simp [hlt]
    · have holds : ∀ j u, xs[j]? = some u → w.cell? ((⟨g, o, none⟩ : Addr).add j) = some u := by
        intro j u hj
        rw [Addr.add_lit]
        exact hb.cell (g4 j u hj)
      have hr := run_append_grow (P := P) w t ty e i z ht hi hz ⟨g, o, none⟩ xs.length cap xs (by simp [hsize]) holds a 1 c [x] (by simp [hsize]) hnews (by omega) (by omega) (growslice_fits (by omega) (by rw [hby]; exact hbytes))
      have hge := grownCap_ge w (xs.length + 1) cap e
      have hcm : grownCap w (xs.length + 1) cap e ≤ maxLen := grownCap_le_maxLen w (xs.length + 1) cap e h63
      refine ⟨_, _, hr, .inr ⟨w.heap.size, 0, _, xs ++ [x] ++ (Builtin.zeroCells z.cells (grownCap w (xs.length + 1) cap e - (xs.length + 1))).toList, by simp, ?_, by simpa using hge, hcm, ?_, ?_⟩, ⟨rfl, rfl, rfl, by simp, fun k hk _ => Below.heap_alloc w.drew _ k hk⟩, .inr rfl⟩
      · rw [arr_of_list2]
        exact Blk.new w.drew e _
      · simp [size_zeroCells, hzs]; omega
      · intro i u hi
        rw [Nat.zero_add, List.getElem?_append_left (by have := (List.getElem?_eq_some_iff.1 hi).1; exact this)]
        exact hi

theorem wpList_append_win {w : World} {ops : Array Oper} {rest : List Oper} {o : Oper} {a : Act} {Q : Exit → Act → World → Prop} (hgd : o.guard = none) (s x : Operand) (t : TypeId)
    (ho : o.op = .call { callee := .builtin .append, args := #[s, x], argTypes := #[t, t] })
    (e : TypeId) (i : TypeInfo) (z : Value) (bytes : Nat) (ht : P.underlying t = some (.slice e)) (hi : P.info? e = some i) (hz : i.zero = some z) (hsize : i.size = 1) (hby : i.bytes = bytes) (hzs : z.cells.size = 1)
    (v : Value) (xs : List Value) (hs : a.eval s = v) (hown : Win w e v xs) (ad : Addr) (c : Nat) (u : Value) (hx : a.eval x = .slice (some ad) 1 c) (hc : w.cell? ad = some u) (ha : ad.add 0 = ad) (h1 : u.oneCell' = true) (h63 : xs.length + 1 ≤ maxLen) (hbytes : (xs.length + 1) * bytes ≤ 140737488355328)
    (h : ∀ v' w', Win w' e v' (xs ++ [u]) → w.grownBy w' v.ownBlock → (v'.ownBlock = v.ownBlock ∨ v'.ownBlock = some w.heap.size) → wpList P ops Q rest (a.put o.dst v') w') : wpList P ops Q (o :: rest) a w := by
  refine wpList_plain hgd fun K hK => ?_
  obtain ⟨v', w', hr, h2, h3, h4⟩ := run_append_win (P := P) w t o.type e i z bytes ht hi hz hsize hby hzs v xs hown ad c u hc ha h1 h63 hbytes
  unfold Oper.wp execOp
  simp only [ho, resolve, invoke, builtin, Sem.run_bind, Sem.run_pure, Result.andThen_ok, List.map_toArray, List.map_cons, List.map_nil, hs, hx, hr]
  exact hK _ _ (h v' w' h2 h3 h4)
end
end Go.Lb
