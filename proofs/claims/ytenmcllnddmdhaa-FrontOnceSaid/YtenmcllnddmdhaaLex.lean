/- A region that draws its order, walked in one order: reads first under a condition on the world that all but the last operation keep, deeds in their forced order; over any program. -/
import Derived.Test.YtenmcllnddmdhaaTail
import Derived.OrdersHeld
set_option linter.unusedVariables false
set_option linter.unusedSimpArgs false
namespace Go.Lb
open Go Go.RowKit
variable {P : Program} {ops : Array Oper} {Q : Exit → Act → World → Prop} {md : Region.Mode} {S : World → Prop} {L : Nat}

/-- Whatever order is picked from here on, and S holds behind every operation but number L. -/
def wpAnyB (P : Program) (md : Region.Mode) (ops : Array Oper) (Q : Exit → Act → World → Prop) (S : World → Prop) (L : Nat) : Nat → Array Bool → Act → World → Prop
  | 0, listed, a, w => Region.ready md ops listed = [] ∧ Q .normal a w
  | fuel + 1, listed, a, w =>
    (Region.ready md ops listed = [] → Q .normal a w) ∧
    ∀ i ∈ Region.ready md ops listed, wpOp P ops Q i (fun a' w' => (i ≠ L → S w') ∧ wpAnyB P md ops Q S L fuel (listed.setIfInBounds i true) a' w') a w

theorem wpAny_of_but : ∀ (fuel : Nat) (listed : Array Bool) (a : Act) (w : World), wpAnyB P md ops Q S L fuel listed a w → wpAny P md ops Q fuel listed a w
  | 0, _, _, _, h => h
  | fuel + 1, _, _, _, h => ⟨h.1, fun i hi => wpOp_mono (fun a' w' h' => wpAny_of_but fuel _ a' w' h'.2) (h.2 i hi)⟩

theorem wpAnyB_first {i : Nat} {oi : Oper} {v : Value} (hi : ops[i]? = some oi) (hsel : ∀ (j : Nat) (o : Oper) cs b, ops[j]? = some o → o.op ≠ .select cs b)
    (hQ : ∀ c a w, Q (.panic c) (a.put oi.dst v) w → Q (.panic c) a w) (hL : ∀ oL, ops[L]? = some oL → ∃ e ∈ oL.after, Region.binds md e = true ∧ e.on = i) :
    ∀ (fuel : Nat) (listed : Array Bool) (a : Act) (w : World),
      (∀ j oj, ops[j]? = some oj → j ≠ i → listed.getD j true = false → (∀ e ∈ oj.after, Region.binds md e = true → e.on ≠ i) → oi.apart ops oj = true) →
      i ∈ Region.ready md ops listed → YieldsIf P ops S oi v a → S w →
      wpAnyB P md ops Q S L fuel (listed.setIfInBounds i true) (a.put oi.dst v) w → wpAnyB P md ops Q S L (fuel + 1) listed a w := by
  intro fuel
  induction fuel with
  | zero =>
    intro listed a w _ hr hy hS H
    refine ⟨fun h => (by rw [h] at hr; cases hr), fun j hj => ?_⟩
    by_cases hji : j = i
    · subst hji; exact hy.wpOp hi hS ⟨fun _ => hS, H⟩
    · have := ready_mono hj hji
      rw [H.1] at this
      cases this
  | succ fuel ih =>
    intro listed a w hfree hr hy hS H
    refine ⟨fun h => (by rw [h] at hr; cases hr), fun j hj => ?_⟩
    by_cases hji : j = i
    · subst hji; exact hy.wpOp hi hS ⟨fun _ => hS, H⟩
    · have h1 := H.2 j (ready_mono hj hji)
      obtain ⟨hjun, oj, hoj, hall⟩ := mem_ready.1 hj
      have hnot : ∀ e ∈ oj.after, Region.binds md e = true → e.on ≠ i := fun e he hb heq => by
        have h1 := hall e he hb
        have h0 := (mem_ready.1 hr).1
        rw [heq] at h1
        rcases Nat.lt_or_ge i listed.size with h' | h'
        · simp [h'] at h0 h1; rw [h0] at h1; cases h1
        · simp [Array.getElem?_eq_none h'] at h1
      have hjL : j ≠ L := by
        rintro rfl
        obtain ⟨e, he, hb, h3⟩ := hL oj hoj
        exact hnot e he hb h3
      have h2 := wpOp_putIf hoj (hfree j oj hoj hji hjun hnot) (fun cs b => hsel i oi cs b hi) (fun cs b => hsel j oj cs b hoj) hQ hy h1
      have hfree' : ∀ k ok, ops[k]? = some ok → k ≠ i → (listed.setIfInBounds j true).getD k true = false →
          (∀ e ∈ ok.after, Region.binds md e = true → e.on ≠ i) → oi.apart ops ok = true := fun k ok hk hki hun hno => by
        refine hfree k ok hk hki ?_ hno
        by_cases hjk : j = k
        · subst hjk; exact hjun
        · rw [getD_set_ne true hjk] at hun; exact hun
      refine wpOp_mono (fun a' w' h3 => ⟨h3.2.1, ih (listed.setIfInBounds j true) a' w' hfree' (ready_mono hr (Ne.symm hji)) h3.1 (h3.2.1 hjL) ?_⟩) h2
      rw [Array.setIfInBounds_comm _ _ hji]
      exact h3.2.2

/-- The order may be walked: what is read comes early and the last deed waits for it; a deed comes alone. -/
def lexOK (md : Region.Mode) (ops : Array Oper) (L : Nat) : List (Nat × Bool) → Array Bool → Bool
  | [], listed => (Region.ready md ops listed).isEmpty
  | (i, true) :: r, listed => Region.free md ops listed i && (Region.ready md ops listed).contains i && (match ops[L]? with | some o => o.after.any fun e => Region.binds md e && e.on == i | none => true) && lexOK md ops L r (listed.setIfInBounds i true)
  | (i, false) :: r, listed => (Region.ready md ops listed == [i]) && lexOK md ops L r (listed.setIfInBounds i true)

/-- The walk in that order. -/
def wpLex (P : Program) (ops : Array Oper) (Q : Exit → Act → World → Prop) (S : World → Prop) (L : Nat) : List (Nat × Bool) → Act → World → Prop
  | [], a, w => Q .normal a w
  | (i, true) :: r, a, w => S w ∧ ∃ o v, ops[i]? = some o ∧ YieldsIf P ops S o v a ∧ wpLex P ops Q S L r (a.put o.dst v) w
  | (i, false) :: r, a, w => wpOp P ops Q i (fun a' w' => (i ≠ L → S w') ∧ wpLex P ops Q S L r a' w') a w

theorem wpAnyB_of_lex (hs : Region.noSelect ops = true) (hQ : ∀ c a d v w, Q (.panic c) (Act.put a d v) w → Q (.panic c) a w) : ∀ (l : List (Nat × Bool)) (listed : Array Bool) (a : Act) (w : World),
    lexOK md ops L l listed = true → wpLex P ops Q S L l a w → wpAnyB P md ops Q S L l.length listed a w
  | [], listed, a, w, h, hw => ⟨by simpa [lexOK] using h, hw⟩
  | (i, true) :: r, listed, a, w, h, hw => by
    simp only [lexOK, Bool.and_eq_true] at h
    obtain ⟨⟨⟨hf, hr⟩, hL⟩, h⟩ := h
    obtain ⟨hS, o, v, ho, hy, hw⟩ := hw
    refine wpAnyB_first ho (Region.noSelect_spec hs) (fun c a w => hQ c a _ _ w) (fun oL hoL => ?_) r.length listed a w (Region.free_spec ho hf) (by simpa using hr) hy hS (wpAnyB_of_lex hs hQ r _ _ _ h hw)
    simp only [hoL, Array.any_eq_true'] at hL
    obtain ⟨e, he, hb⟩ := hL
    simp only [Bool.and_eq_true, beq_iff_eq] at hb
    exact ⟨e, he, hb.1, hb.2⟩
  | (i, false) :: r, listed, a, w, h, hw => by
    simp only [lexOK, Bool.and_eq_true, beq_iff_eq] at h
    obtain ⟨hr, h⟩ := h
    refine ⟨fun h0 => absurd (hr ▸ h0) (by simp), fun j hj => ?_⟩
    rw [hr] at hj
    obtain rfl : j = i := by simpa using hj
    exact wpOp_mono (fun a' w' h' => ⟨h'.1, wpAnyB_of_lex hs hQ r _ a' w' h h'.2⟩) hw

/-- The same walk, the operations written beside their numbers. -/
def wpLexO (P : Program) (ops : Array Oper) (Q : Exit → Act → World → Prop) (S : World → Prop) (L : Nat) : List (Nat × Bool × Oper) → Act → World → Prop
  | [], a, w => Q .normal a w
  | (_, true, o) :: r, a, w => S w ∧ ∃ v, YieldsIf P ops S o v a ∧ wpLexO P ops Q S L r (a.put o.dst v) w
  | (i, false, o) :: r, a, w => if Region.wanted o (yielded ops a.tmps) then o.wp P a w (fun a' w' => (i ≠ L → S w') ∧ wpLexO P ops Q S L r a' w') Q else wpLexO P ops Q S L r (a.put o.dst undef) w ∧ (i ≠ L → S w)
def lexOps (l : List Oper) (order : List (Nat × Bool)) : List (Nat × Bool × Oper) := order.map fun x => (x.1, x.2, l.getD x.1 default)

theorem lex_of_ops {l0 : List Oper} : ∀ (l : List (Nat × Bool)) (a : Act) (w : World), (∀ x ∈ l, x.1 < l0.length) → wpLexO P l0.toArray Q S L (lexOps l0 l) a w → wpLex P l0.toArray Q S L l a w
  | [], a, w, _, h => h
  | (i, true) :: r, a, w, hl, h => by
    obtain ⟨h1, v, h2, h3⟩ := h
    have hi : i < l0.length := hl (i, true) (by simp)
    have e : l0.getD i default = l0[i] := by simp [List.getD, hi]
    refine ⟨h1, l0.getD i default, v, ?_, h2, lex_of_ops r _ _ (fun x hx => hl x (by simp [hx])) h3⟩
    rw [e]; simp [hi]
  | (i, false) :: r, a, w, hl, h => by
    have hi : i < l0.length := hl (i, false) (by simp)
    have e : l0.getD i default = l0[i] := by simp [List.getD, hi]
    have ho : l0.toArray[i]? = some (l0.getD i default) := by rw [e]; simp [hi]
    simp only [lexOps, List.map_cons, wpLexO] at h
    unfold wpLex wpOp
    simp only [ho]
    split at h
    · rename_i hw
      rw [if_pos hw]
      exact .inl (Oper.wp_mono (fun a' w' h' => ⟨h'.1, lex_of_ops r _ _ (fun x hx => hl x (by simp [hx])) h'.2⟩) h)
    · rename_i hw
      rw [if_neg hw]
      exact ⟨h.2, lex_of_ops r _ _ (fun x hx => hl x (by simp [hx])) h.1⟩

theorem wp_region_lex {l0 : List Oper} (S : World → Prop) (L : Nat) (l : List (Nat × Bool)) {id : Nat} {a : Act} {w : World} (hm : P.follows .mixedOrders = true) (hs : Region.noSelect l0.toArray = true) (hl : (l.length == l0.length && l.all fun x => decide (x.1 < l0.length)) = true) (hB : lexOK .any l0.toArray L l (Array.replicate l0.length false) = true)
    (hQ : ∀ c a d v w, Q (.panic c) (Act.put a d v) w → Q (.panic c) a w) (h : wpLexO P l0.toArray Q S L (lexOps l0 l) a w.drew) : (Code.region id l0.toArray true).wp P Q a w := by
  simp only [Bool.and_eq_true, beq_iff_eq, List.all_eq_true, decide_eq_true_eq] at hl
  refine wp_region_any hm (wpAny_of_but (S := S) (L := L) _ _ _ _ ?_)
  have := wpAnyB_of_lex (md := .any) (Q := Q) hs hQ l _ a w.drew hB (lex_of_ops l _ _ hl.2 h)
  rwa [hl.1] at this

section
variable {r : List (Nat × Bool × Oper)} {a : Act} {w : World} {i : Nat} {o : Oper}
/-- What is read. -/
theorem lex_read (hgd : o.guard = none) (hS : S w) {v : Value} (h : ∀ w, S w → (execOp a.eval o).run P w = .ok (.value v) w) (hK : wpLexO P ops Q S L r (a.put o.dst v) w) : wpLexO P ops Q S L ((i, true, o) :: r) a w :=
  ⟨hS, v, .inl ⟨by simp [Region.wanted, hgd], h⟩, hK⟩
/-- What is done. -/
theorem lex_do (hgd : o.guard = none) (h : ∀ K : Act → World → Prop, (∀ a' w', (i ≠ L → S w') → wpLexO P ops Q S L r a' w' → K a' w') → o.wp P a w K Q) : wpLexO P ops Q S L ((i, false, o) :: r) a w := by
  unfold wpLexO
  rw [if_pos (by simp [Region.wanted, hgd])]
  exact h _ fun a' w' h1 h2 => ⟨h1, h2⟩
theorem lex_nil (h : Q .normal a w) : wpLexO P ops Q S L [] a w := h
theorem lex_run (hgd : o.guard = none) {v : Value} {w' : World} (h : (execOp a.eval o).run P w = .ok (.value v) w') (hS : i ≠ L → S w') (hK : wpLexO P ops Q S L r (a.put o.dst v) w') : wpLexO P ops Q S L ((i, false, o) :: r) a w :=
  lex_do hgd fun K k => wp_run h (k _ _ hS hK)
end
end Go.Lb
