/- Plain laws on binary heaps kept in lists: rising and sinking keep what is there and restore the order. No program. No condition. -/
set_option linter.unusedVariables false
set_option linter.unusedSimpArgs false
namespace Go.Hp

/-- 'le' orders: it is a total preorder. -/
structure Ordd {α : Type} (le : α → α → Prop) : Prop where
  refl : ∀ x, le x x
  trans : ∀ x y z, le x y → le y z → le x z
  total : ∀ x y, le x y ∨ le y x

def par (i : Nat) : Nat := (i - 1) / 2

/-- From place m on no one is less than the one at half its place. -/
def Heaped {α : Type} (le : α → α → Prop) (n m : Nat) (g : Nat → α) : Prop := ∀ i, 0 < i → i < n → m ≤ par i → le (g (par i)) (g i)

def UpI {α : Type} (le : α → α → Prop) (n : Nat) (g : Nat → α) (k : Nat) : Prop :=
  (∀ i, 0 < i → i < n → i ≠ k → le (g (par i)) (g i)) ∧ (∀ i, 0 < i → i < n → par i = k → 0 < k → le (g (par k)) (g i))

def DownI {α : Type} (le : α → α → Prop) (n m : Nat) (g : Nat → α) (k : Nat) : Prop :=
  (∀ i, 0 < i → i < n → m ≤ par i → par i ≠ k → le (g (par i)) (g i)) ∧ (∀ i, 0 < i → i < n → par i = k → 0 < k → m ≤ par k → le (g (par k)) (g i))

def swf {α : Type} (g : Nat → α) (i j : Nat) : Nat → α := fun m => if m = i then g j else if m = j then g i else g m

section
variable {α : Type} {le : α → α → Prop} {n m k : Nat} {g : Nat → α}

theorem upI_last (h : Heaped le n 0 g) (hn : n = k + 1) (h0 : Heaped le k 0 g) : UpI le n g k :=
  ⟨fun i hi hn' _ => h i hi hn' (Nat.zero_le _), fun i hi hin hp => by unfold par at hp; omega⟩

theorem upI_push (h0 : Heaped le k 0 g) : UpI le (k + 1) g k :=
  ⟨fun i hi hn' hne => h0 i hi (by omega) (Nat.zero_le _), fun i hi hin hp => by unfold par at hp; omega⟩

theorem upI_done (h : UpI le n g k) (hk : k < n) (hd : k = 0 ∨ le (g (par k)) (g k)) : Heaped le n 0 g := by
  intro i hi hin _
  by_cases e : i = k
  · subst e; rcases hd with h0 | h0
    · omega
    · exact h0
  · exact h.1 i hi hin e

theorem upI_step (o : Ordd le) (h : UpI le n g k) (hk : k < n) (h0 : 0 < k) (hd : le (g k) (g (par k))) : UpI le n (swf g k (par k)) (par k) := by
  have hpk : par k < k := by unfold par; omega
  refine ⟨fun i hi hin hne => ?_, fun i hi hin hp hpp => ?_⟩
  · unfold swf
    by_cases e1 : i = k
    · subst e1
      rw [if_neg (by omega), if_pos rfl, if_pos rfl]; exact hd
    · rw [if_neg e1, if_neg hne]
      by_cases e2 : par i = k
      · rw [if_pos e2]; exact h.2 i hi hin e2 h0
      · rw [if_neg e2]
        by_cases e3 : par i = par k
        · rw [if_pos e3]
          have := h.1 i hi hin e1
          rw [e3] at this
          exact o.trans _ _ _ hd this
        · rw [if_neg e3]; exact h.1 i hi hin e1
  · have hpp2 : par (par k) < par k := by unfold par at *; omega
    have h1 := h.1 (par k) hpp (by omega) (by omega)
    unfold swf
    rw [if_neg (show par (par k) ≠ k by omega), if_neg (show par (par k) ≠ par k by omega)]
    by_cases e1 : i = k
    · rw [if_pos e1]; exact h1
    · rw [if_neg e1, if_neg (show i ≠ par k by intro e; subst e; unfold par at *; omega)]
      have := h.1 i hi hin e1
      rw [hp] at this
      exact o.trans _ _ _ h1 this

theorem downI_start (h : Heaped le n (k + 1) g) : DownI le n k g k :=
  ⟨fun i hi hin hm hne => h i hi hin (by omega), fun i hi hin hp h0 hm => by unfold par at hm; omega⟩

theorem downI_root (h : Heaped le n 0 g) (u : Nat → α) (hu : ∀ i, 0 < i → i < n → u i = g i) : DownI le n 0 u 0 :=
  ⟨fun i hi hin hm hne => by rw [hu i hi hin, hu (par i) (by omega) (by unfold par; omega)]; exact h i hi hin hm, fun i hi hin hp h0 => by omega⟩

theorem downI_done (h : DownI le n m g k) (hd : ∀ i, 0 < i → i < n → par i = k → le (g k) (g i)) : Heaped le n m g := by
  intro i hi hin hm
  by_cases e : par i = k
  · rw [e]; exact hd i hi hin e
  · exact h.1 i hi hin hm e

/-- c: the least child of k. -/
theorem downI_step (o : Ordd le) {c : Nat} (h : DownI le n m g k) (hc : par c = k) (hc0 : 0 < c) (hcn : c < n) (hmk : m ≤ k)
    (hd : le (g c) (g k)) (hmin : ∀ i, 0 < i → i < n → par i = k → le (g c) (g i)) : DownI le n m (swf g k c) c := by
  have hkc : k < c := by unfold par at hc; omega
  refine ⟨fun i hi hin hm hne => ?_, fun i hi hin hp h0 hm => ?_⟩
  · unfold swf
    by_cases e1 : i = c
    · subst e1
      rw [hc, if_pos rfl, if_neg (show ¬ i = k by omega), if_pos rfl]; exact hd
    · by_cases e2 : i = k
      · subst e2
        rw [if_pos rfl, if_neg (show par i ≠ i by unfold par; omega), if_neg hne]
        exact h.2 c hc0 hcn hc hi hm
      · rw [if_neg e2, if_neg e1]
        by_cases e3 : par i = k
        · rw [if_pos e3]; exact hmin i hi hin e3
        · rw [if_neg e3, if_neg hne]; exact h.1 i hi hin hm e3
  · have e1 : i ≠ c := by intro e; subst e; unfold par at hp; omega
    have e2 : i ≠ k := by intro e; subst e; unfold par at hp; omega
    have e3 : par c ≠ c := by omega
    unfold swf
    rw [if_neg e2, if_neg e1, hc, if_pos rfl, ← hp]
    exact h.1 i hi hin (by omega) (by omega)

theorem heaped_least (o : Ordd le) (h : Heaped le n 0 g) : ∀ i, i < n → le (g 0) (g i) := by
  intro i
  induction i using Nat.strongRecOn with
  | _ i ih =>
    intro hin
    by_cases h0 : i = 0
    · subst h0; exact o.refl _
    · have hp : par i < i := by unfold par; omega
      exact o.trans _ _ _ (ih (par i) hp (by omega)) (h i (by omega) hin (Nat.zero_le _))
end

section
variable {α : Type} [Inhabited α]

/-- Two places of a list exchanged. -/
def swp (L : List α) (i j : Nat) : List α := (L.set i (L.getD j default)).set j (L.getD i default)

@[simp] theorem swp_len (L : List α) (i j : Nat) : (swp L i j).length = L.length := by simp [swp]

theorem swp_at (L : List α) (i j : Nat) (hi : i < L.length) (hj : j < L.length) : ∀ m, (swp L i j).getD m default = swf (fun x => L.getD x default) i j m := by
  intro m
  unfold swp swf
  simp only [List.getD_eq_getElem?_getD, List.getElem?_set, List.length_set]
  by_cases e1 : j = m
  · subst e1
    by_cases e2 : j = i
    · subst e2; simp [hj]
    · simp [hj, e2]
  · by_cases e2 : i = m
    · subst e2; simp [hi, e1]
    · simp only [if_neg e1, if_neg e2, if_neg (Ne.symm e1), if_neg (Ne.symm e2)]

theorem swp_perm (L : List α) (i j : Nat) (hi : i < L.length) (hj : j < L.length) : (swp L i j).Perm L := by
  have h := (Array.swap_perm (xs := L.toArray) (i := i) (j := j) (by simpa using hi) (by simpa using hj))
  have h2 := h.toList
  have e : (L.toArray.swap i j (by simpa using hi) (by simpa using hj)).toList = swp L i j := by
    simp [Array.swap, swp, List.getD_eq_getElem?_getD, hi, hj]
  rw [e] at h2
  simpa using h2

end
end Go.Hp
