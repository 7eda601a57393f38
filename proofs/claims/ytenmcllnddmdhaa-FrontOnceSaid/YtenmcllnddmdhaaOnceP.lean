/- FrontOnce, in plain lists: nobody is in two places. -/
import Derived.Test.YtenmcllnddmdhaaReads
import Derived.Test.YtenmcllnddmdhaaReady
import Derived.Test.YtenmcllnddmdhaaPassed
set_option linter.unusedVariables false
set_option linter.unusedSimpArgs false
namespace Go.Proofs.Ytenmcllnddmdhaa
open Go.RowKit Go.Lb Go.Conc

def cnt (s : Said) (a : Int) : Nat := (s.L.map Wt.n).count a + (s.R.map Rd.n).count a + (s.es.map fun p => p.2.1).count a + (s.q.map Dn.n).count a

/-- Each of the first n is in one place at most. -/
structure Once (n : Nat) (s : Said) : Prop where
  tot : ∀ a, cnt s a ≤ 1
  lim : ∀ a : Int, (n : Int) < a → cnt s a = 0
  lL : s.L.length ≤ 64
  lR : s.R.length ≤ 64
  lE : s.es.length ≤ 64
  lQ : s.q.length ≤ 256
  ps : 0 ≤ s.ps ∧ s.ps ≤ n
  rd : 0 ≤ s.rd ∧ s.rd ≤ n
  key : ∀ p ∈ s.es, p.1 ≤ s.ps
  al : ∀ d ∈ s.q, d.al.oneCell' = true

theorem Once.start : Once 0 Said.none := ⟨fun a => by simp [cnt, Said.none], fun a _ => by simp [cnt, Said.none], by simp [Said.none], by simp [Said.none], by simp [Said.none], by simp [Said.none], by simp [Said.none], by simp [Said.none], by simp [Said.none], by simp [Said.none]⟩

/-- Who goes from a list may be put into a row. -/
theorem cnt_fold {α τ : Type} (nm : α → Int) (p : α → Bool) (ks : τ → List Int) (st : τ → α → τ) (hst : ∀ q x, ks (st q x) = ks q ∨ (p x = true ∧ ks (st q x) = ks q ++ [nm x])) (a : Int) :
    ∀ (L : List α) (q : τ), ((L.filter fun x => !p x).map nm).count a + (ks (L.foldl st q)).count a ≤ (L.map nm).count a + (ks q).count a
  | [], q => by simp
  | x :: L, q => by
    have ih := cnt_fold nm p ks st hst a L (st q x)
    rcases hst q x with h | ⟨h1, h2⟩
    · rw [h] at ih
      simp only [List.foldl_cons, List.map_cons, List.count_cons]
      cases hp : p x
      · simp [hp, List.count_cons]; omega
      · simp [hp]; omega
    · rw [h2, List.count_append, List.count_singleton] at ih
      simp only [List.foldl_cons, List.map_cons, List.count_cons]
      simp only [h1, List.filter_cons, Bool.not_true, beq_iff_eq] at ih ⊢
      simp only [Bool.false_eq_true, if_false]
      omega

section
variable {n : Nat} {s s' : Said}
theorem Once.less (h : Once n s) (hc : ∀ a, cnt s' a ≤ cnt s a) (lL : s'.L.length ≤ s.L.length) (lR : s'.R.length ≤ s.R.length) (lE : s'.es.length ≤ s.es.length) (lQ : s'.q.length ≤ 256) (ps : s'.ps = s.ps) (rd : s'.rd = s.rd)
    (key : ∀ p ∈ s'.es, p ∈ s.es) (al : ∀ d ∈ s'.q, d.al.oneCell' = true) : Once (n + 1) s' := by
  have := h.ps
  have := h.rd
  refine ⟨fun a => Nat.le_trans (hc a) (h.tot a), fun a ha => ?_, by have := h.lL; omega, by have := h.lR; omega, by have := h.lE; omega, lQ, by rw [ps]; omega, by rw [rd]; omega, fun p hp => by rw [ps]; exact h.key p (key p hp), al⟩
  have h1 := hc a
  have h2 := h.lim a (by omega)
  omega
theorem Once.skip (h : Once n s) : Once (n + 1) s := h.less (fun a => Nat.le_refl _) (Nat.le_refl _) (Nat.le_refl _) (Nat.le_refl _) h.lQ rfl rfl (fun _ h => h) h.al

theorem cnt_new (h : Once n s) (hc : ∀ a, cnt s' a = cnt s a + if (n : Int) + 1 = a then 1 else 0) : (∀ a, cnt s' a ≤ 1) ∧ ∀ a : Int, ((n + 1 : Nat) : Int) < a → cnt s' a = 0 := by
  refine ⟨fun a => ?_, fun a ha => ?_⟩
  · rw [hc]
    split
    · rename_i e
      have := h.lim a (by omega)
      omega
    · have := h.tot a
      omega
  · rw [hc, if_neg (by omega)]
    exact h.lim a (by omega)

theorem Once.wait (h : Once n s) (hl : s.L.length < 64) (c ix tm : Int) : Once (n + 1) { s with L := s.L ++ [⟨(n : Int) + 1, c, ix, tm⟩] } := by
  have hc := cnt_new (s' := { s with L := s.L ++ [⟨(n : Int) + 1, c, ix, tm⟩] }) h (fun a => by simp only [cnt, List.map_append, List.count_append, List.map_cons, List.map_nil, List.count_singleton, beq_iff_eq]; omega)
  have := h.ps
  have := h.rd
  exact ⟨hc.1, hc.2, by simp; omega, h.lR, h.lE, h.lQ, by show 0 ≤ s.ps ∧ s.ps ≤ _; omega, by show 0 ≤ s.rd ∧ s.rd ≤ _; omega, h.key, h.al⟩
theorem Once.read (h : Once n s) (hl : s.R.length < 64) (c : Int) : Once (n + 1) { s with R := s.R ++ [⟨(n : Int) + 1, c, s.rd + 1, 0, false⟩], rd := s.rd + 1 } := by
  have hc := cnt_new (s' := { s with R := s.R ++ [⟨(n : Int) + 1, c, s.rd + 1, 0, false⟩], rd := s.rd + 1 }) h (fun a => by simp only [cnt, List.map_append, List.count_append, List.map_cons, List.map_nil, List.count_singleton, beq_iff_eq]; omega)
  have := h.ps
  have := h.rd
  exact ⟨hc.1, hc.2, h.lL, by simp; omega, h.lE, h.lQ, by show 0 ≤ s.ps ∧ s.ps ≤ _; omega, by show 0 ≤ s.rd + 1 ∧ s.rd + 1 ≤ _; omega, h.key, h.al⟩
theorem Once.pass (h : Once n s) (hl : s.es.length < 64) (c : Int) : Once (n + 1) { s with es := s.es ++ [(s.ps + 1, (n : Int) + 1, c)], ps := s.ps + 1 } := by
  have hc := cnt_new (s' := { s with es := s.es ++ [(s.ps + 1, (n : Int) + 1, c)], ps := s.ps + 1 }) h (fun a => by simp only [cnt, List.map_append, List.count_append, List.map_cons, List.map_nil, List.count_singleton, beq_iff_eq]; omega)
  have := h.ps
  have := h.rd
  refine ⟨hc.1, hc.2, h.lL, h.lR, by simp; omega, h.lQ, by show 0 ≤ s.ps + 1 ∧ s.ps + 1 ≤ _; omega, by show 0 ≤ s.rd ∧ s.rd ≤ _; omega, fun p hp => ?_, h.al⟩
  show p.1 ≤ s.ps + 1
  rcases List.mem_append.1 hp with h1 | h1
  · have := h.key p h1; omega
  · simp at h1; subst h1; simp
theorem Once.fresh (h : Once n s) : ∀ p ∈ s.es, p.1 ≠ s.ps + 1 := fun p hp e => by have := h.key p hp; omega

theorem putQ_n (q : List Dn) (d : Dn) : (putQ 256 q d).map Dn.n = q.map Dn.n ∨ (putQ 256 q d).map Dn.n = q.map Dn.n ++ [d.n] := by
  unfold putQ
  split
  · right; simp
  · left; rfl
theorem putQ_al {q : List Dn} {d : Dn} (h : ∀ d ∈ q, d.al.oneCell' = true) (hd : d.al.oneCell' = true) : ∀ x ∈ putQ 256 q d, x.al.oneCell' = true := by
  intro x hx
  unfold putQ at hx
  split at hx
  · rcases List.mem_append.1 hx with h1 | h1
    · exact h x h1
    · simp at h1; subst h1; exact hd
  · exact h x hx

theorem putQ_len {α : Type} (q : List α) (d : α) (h : q.length ≤ 256) : (putQ 256 q d).length ≤ 256 := by
  unfold putQ
  split
  · simp; omega
  · exact h
theorem fold_len (ix tm val : Int) : ∀ (L : List Wt) (q : List Dn), q.length ≤ 256 → (L.foldl (stepW ix tm val) q).length ≤ 256
  | [], q, h => h
  | x :: L, q, h => by
    refine fold_len ix tm val L _ ?_
    unfold stepW
    split
    · exact putQ_len _ _ h
    · exact h
theorem stR_len (ix : Int) : ∀ (L : List Rd) (q : List Int), q.length ≤ 256 → (L.foldl (stR ix) q).length ≤ 256
  | [], q, h => h
  | x :: L, q, h => by
    refine stR_len ix L _ ?_
    unfold stR
    split
    · split
      · simp; omega
      · exact h
    · exact h
theorem fold_al (ix tm val : Int) : ∀ (L : List Wt) (q : List Dn), (∀ d ∈ q, d.al.oneCell' = true) → ∀ d ∈ L.foldl (stepW ix tm val) q, d.al.oneCell' = true
  | [], q, h => h
  | x :: L, q, h => by
    refine fold_al ix tm val L _ ?_
    unfold stepW
    split
    · exact putQ_al h rfl
    · exact h

theorem Once.applied (h : Once n s) (ix tm val : Int) : Once (n + 1) (s.applied ix tm val) := by
  refine h.less (fun a => ?_) (List.length_filter_le _ _) (Nat.le_refl _) (Nat.le_refl _) (fold_len _ _ _ _ _ h.lQ) rfl rfl (fun _ h => h) (fold_al _ _ _ _ _ h.al)
  have := cnt_fold Wt.n (fun x => x.ix == ix) (List.map Dn.n) (stepW ix tm val) (fun q x => by
    unfold stepW
    by_cases hh : hitW ix tm x = true
    · rw [if_pos hh]
      rcases putQ_n q (dnOf ix val x) with h1 | h1
      · exact .inl h1
      · refine .inr ⟨?_, h1⟩
        simp only [hitW, Bool.and_eq_true] at hh
        exact hh.1
    · rw [if_neg hh]; exact .inl rfl) a s.L s.q
  simp only [cnt, Said.applied]
  omega

theorem Once.ready (h : Once n s) (ctx ix : Int) : Once (n + 1) { s with R := s.R.map (rdyd ctx ix) } := by
  have e : (s.R.map (rdyd ctx ix)).map Rd.n = s.R.map Rd.n := by
    rw [List.map_map]
    refine List.map_congr_left fun x _ => ?_
    simp only [Function.comp, rdyd]
    split <;> rfl
  refine h.less (fun a => ?_) (Nat.le_refl _) (by simp) (Nat.le_refl _) h.lQ rfl rfl (fun _ h => h) h.al
  simp only [cnt, e]
  omega

theorem Once.reads (h : Once n s) (ix : Int) (q' : List Dn) (hq : q'.map Dn.n = s.R.foldl (stR ix) (s.q.map Dn.n)) (ha : ∀ d ∈ q', d.al.oneCell' = true) : Once (n + 1) { s with R := s.R.filter (fun x => !hitR ix x), q := q' } := by
  refine h.less (fun a => ?_) (Nat.le_refl _) (List.length_filter_le _ _) (Nat.le_refl _) (by have := stR_len ix s.R (s.q.map Dn.n) (by simpa using h.lQ); rw [← hq] at this; simpa using this) rfl rfl (fun _ h => h) ha
  have := cnt_fold Rd.n (hitR ix) (fun q : List Int => q) (stR ix) (fun q x => by
    unfold stR
    by_cases hh : hitR ix x = true
    · rw [if_pos hh]
      split
      · exact .inr ⟨hh, rfl⟩
      · exact .inl rfl
    · rw [if_neg hh]; exact .inl rfl) a s.R (s.q.map Dn.n)
  simp only [cnt, hq]
  omega

theorem Once.drop (h : Once n s) : Once (n + 1) { s with R := [] } := by
  refine h.less (fun a => ?_) (Nat.le_refl _) (by simp) (Nat.le_refl _) h.lQ rfl rfl (fun _ h => h) h.al
  simp only [cnt, List.map_nil, List.count_nil]
  omega

theorem Once.passed (h : Once n s) {A B : List (Int × Int × Int)} {k m c val : Int} (he : s.es = A ++ (k, m, c) :: B) : Once (n + 1) { s with es := A ++ B, q := putQ 256 s.q ⟨m, c, 0, val, .slice none 0 0⟩ } := by
  refine h.less (fun a => ?_) (Nat.le_refl _) (Nat.le_refl _) (by rw [he]; simp) (putQ_len _ _ h.lQ) rfl rfl (fun p hp => ?_) (putQ_al h.al rfl)
  · simp only [cnt, he, List.map_append, List.map_cons, List.count_append, List.count_cons, beq_iff_eq]
    rcases putQ_n s.q ⟨m, c, 0, val, .slice none 0 0⟩ with h1 | h1
    · rw [h1]; omega
    · rw [h1, List.count_append, List.count_singleton]
      simp only [beq_iff_eq]
      omega
  · rw [he]
    rcases List.mem_append.1 hp with h1 | h1 <;> simp [h1]
end

theorem es_split (k : Int) : ∀ es : List (Int × Int × Int), (∀ p ∈ es, p.1 ≠ k) ∨ ∃ A m c B, es = A ++ (k, m, c) :: B ∧ ∀ p ∈ A, p.1 ≠ k
  | [] => .inl (by simp)
  | (k', m, c) :: es => by
    by_cases hk : k' = k
    · subst hk; exact .inr ⟨[], m, c, es, rfl, by simp⟩
    · rcases es_split k es with h | ⟨A, m', c', B, rfl, h⟩
      · exact .inl (by simpa [hk] using h)
      · exact .inr ⟨(k', m, c) :: A, m', c', B, rfl, by simpa [hk] using h⟩

/-- Who was had, and who is still to come: none twice. -/
structure Had (had : List Int) (s : Said) : Prop where
  tot : ∀ a, had.count a + (s.q.map Dn.n).count a ≤ 1
  al : ∀ d ∈ s.q, d.al.oneCell' = true
theorem Had.start {n : Nat} {s : Said} (h : Once n s) : Had [] s := ⟨fun a => by have := h.tot a; simp only [cnt] at this; simp; omega, h.al⟩
theorem Had.ne {had : List Int} {s : Said} {d : Dn} {q : List Dn} (h : Had had s) (hq : s.q = d :: q) (i : Nat) (hi : i < had.length) : had.getD i 0 ≠ d.n := by
  intro e
  have h1 := h.tot d.n
  rw [hq] at h1
  simp only [List.map_cons, List.count_cons_self] at h1
  have h2 : d.n ∈ had := by
    rw [← e, List.getD_eq_getElem?_getD, List.getElem?_eq_getElem hi]
    exact List.getElem_mem hi
  have := List.count_pos_iff.2 h2
  omega
theorem Had.next {had : List Int} {s : Said} {d : Dn} {q : List Dn} (h : Had had s) (hq : s.q = d :: q) : Had (had ++ [d.n]) { s with q := q } := by
  refine ⟨fun a => ?_, fun x hx => h.al x (by rw [hq]; simp [hx])⟩
  have h1 := h.tot a
  rw [hq] at h1
  simp only [List.map_cons, List.count_cons] at h1
  simp only [List.count_append, List.count_singleton]
  omega
end Go.Proofs.Ytenmcllnddmdhaa
