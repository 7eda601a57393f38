/- Rows of things of many cells: one read, one written anew; what stands in a row while things are taken out; over any program. -/
import Derived.Test.YtenmcllnddmdhaaWide
set_option linter.unusedVariables false
set_option linter.unusedSimpArgs false
namespace Go.Lb
open Go Go.RowKit

/-- Cells written one by one from place o on. -/
def setsFrom : List Value → Nat → List Value → List Value
  | xs, _, [] => xs
  | xs, o, v :: r => setsFrom (xs.set o v) (o + 1) r

theorem setsFrom_eq : ∀ (us xs : List Value) (o : Nat), o + us.length ≤ xs.length → setsFrom xs o us = xs.take o ++ us ++ xs.drop (o + us.length)
  | [], xs, o, _ => by simp [setsFrom]
  | v :: r, xs, o, h => by
    simp only [List.length_cons] at h
    rw [setsFrom, setsFrom_eq r (xs.set o v) (o + 1) (by simp; omega)]
    have e1 : (xs.set o v).take (o + 1) = xs.take o ++ [v] := by
      rw [List.take_add_one, List.take_set_of_le (by omega), List.getElem?_set_self (by omega)]; rfl
    rw [e1, List.drop_set_of_lt (by omega)]
    simp [List.length_cons, show o + 1 + r.length = o + (r.length + 1) by omega]

theorem flatten_drop {k : Nat} (xss : List (List Value)) (h : ∀ x ∈ xss, x.length = k) (n : Nat) : xss.flatten.drop (n * k) = (xss.drop n).flatten := by
  have h1 := flatten_take xss h n
  have h2 : xss.flatten.take (n * k) ++ xss.flatten.drop (n * k) = (xss.take n).flatten ++ (xss.drop n).flatten := by
    rw [List.take_append_drop, ← List.flatten_append, List.take_append_drop]
  rw [h1] at h2
  exact List.append_cancel_left h2

theorem flatten_setRow {k : Nat} (xss : List (List Value)) (h : ∀ x ∈ xss, x.length = k) (i : Nat) (hi : i < xss.length) (us : List Value) (hu : us.length = k) :
    setsFrom xss.flatten (i * k) us = (xss.set i us).flatten := by
  have hl := flatten_len xss h
  have h1 : (i + 1) * k ≤ xss.length * k := Nat.mul_le_mul_right _ (by omega)
  rw [Nat.add_mul, Nat.one_mul] at h1
  rw [setsFrom_eq us _ _ (by omega), flatten_take xss h, hu, show i * k + k = (i + 1) * k by rw [Nat.add_mul, Nat.one_mul], flatten_drop xss h, List.set_eq_take_append_cons_drop, if_pos hi]
  simp

section
variable {w : World} {base : Nat} {e : TypeId} {g n cap : Nat} {size : Nat}
theorem row_setCells : ∀ (us xs : List Value) (o : Nat) (w : World), w.ownsRow base e size (.slice (some ⟨g, 0, none⟩) n cap) n xs → (w.setCells g o us).ownsRow base e size (.slice (some ⟨g, 0, none⟩) n cap) n (setsFrom xs o us)
  | [], _, _, _, h => h
  | v :: r, xs, o, w, h => row_setCells r _ (o + 1) _ (h.stored o v).1
theorem Upd.setCells {F : List Nat} : ∀ (us : List Value) (o : Nat) (w0 w : World) (b : Nat), Upd F w0 w → (b ∈ F ∨ w0.heap.size ≤ b) → Upd F w0 (w.setCells b o us)
  | [], _, _, _, _, h, _ => h
  | v :: r, o, w0, w, b, h, hb => Upd.setCells r (o + 1) w0 _ b (h.setCell hb v) hb
theorem row_set {k : Nat} {xss : List (List Value)} (h : w.ownsRow base e k (.slice (some ⟨g, 0, none⟩) n cap) n xss.flatten) (hk : ∀ x ∈ xss, x.length = k) {i : Nat} (hi : i < xss.length) (us : List Value) (hu : us.length = k) :
    (w.setCells g (i * k) us).ownsRow base e k (.slice (some ⟨g, 0, none⟩) n cap) n (xss.set i us).flatten := by
  have := row_setCells us _ (i * k) w h
  rwa [flatten_setRow xss hk i hi us hu] at this
theorem row_range {k : Nat} {xss : List (List Value)} (h : w.ownsRow base e k (.slice (some ⟨g, 0, none⟩) n cap) n xss.flatten) (hk : ∀ x ∈ xss, x.length = k)
    {i : Nat} {x : List Value} (hi : xss[i]? = some x) : w.rangeAt g (i * k) x := fun j v hj => row_cell h hk hi hj
theorem row_there {k : Nat} {xss : List (List Value)} (h : w.ownsRow base e k (.slice (some ⟨g, 0, none⟩) n cap) n xss.flatten) (hk : ∀ x ∈ xss, x.length = k)
    {i : Nat} {x : List Value} (hi : xss[i]? = some x) : w.there g (i * k) k := fun j hj => by
  have hx : x.length = k := hk x (List.mem_of_getElem? hi)
  refine ⟨?_, h.frozenAt _⟩
  rw [row_cell h hk hi (List.getElem?_eq_getElem (by omega))]
  rfl
end

theorem wpList_store_rowX {P : Program} {ops : Array Oper} {rest : List Oper} {o : Oper} {a : Act} {w : World} {Q : Exit → Act → World → Prop} (hgd : o.guard = none) (ty : TypeId) (x y : Operand) (ho : o.op = .store ty x y)
    {base : Nat} {e : TypeId} (g i : Nat) {n cap k : Nat} {xss : List (List Value)} (us : List Value) (hx : a.eval x = .pointer (some ⟨g, i * k, none⟩)) (hy : a.eval y = .agg us.toArray)
    (hrow : w.ownsRow base e k (.slice (some ⟨g, 0, none⟩) n cap) n xss.flatten) (hk : ∀ x ∈ xss, x.length = k) (hi : i < xss.length) (hsz : (P.info? ty).map (·.size) = some us.toArray.size) (hu : us.length = k) (h1 : us.toArray.all (·.oneCell') = true)
    (h : ∀ w', w'.ownsRow base e k (.slice (some ⟨g, 0, none⟩) n cap) n (xss.set i us).flatten → Upd [g] w w' → wpList P ops Q rest (a.put o.dst undef) w') : wpList P ops Q (o :: rest) a w := by
  refine wpList_store_mid hgd ty x y ho g (i * k) us.toArray hx hy ?_ hsz h1 ?_
  · have := row_there hrow hk (List.getElem?_eq_getElem hi)
    simpa [hu] using this
  · exact h _ (row_set hrow hk hi us hu) (Upd.setCells _ _ _ _ _ (Upd.refl _ _) (by simp))

/-- What stands in the row while things are taken out: the first i are those that stay of the first j; from j on all is as it was. -/
structure DelInv {α : Type} (q : α → Bool) (L L' : List α) (i j : Nat) : Prop where
  len : L'.length = L.length
  ij : i < j
  jn : j ≤ L.length
  head : L'.take i = (L.take j).filter q
  tail : L'.drop j = L.drop j
section
variable {α : Type} {q : α → Bool} {L L' : List α} {i j : Nat}
theorem DelInv.at (h : DelInv q L L' i j) (hj : j < L.length) : L'[j]? = L[j]? := by
  have h1 : (L'.drop j)[0]? = (L.drop j)[0]? := by rw [h.tail]
  simpa using h1
theorem DelInv.keep {x : α} (h : DelInv q L L' i j) (hx : L[j]? = some x) (hq : q x = true) : DelInv q L (L'.set i x) (i + 1) (j + 1) := by
  have hj := (List.getElem?_eq_some_iff.1 hx).1
  have hl := h.len
  have hij := h.ij
  refine ⟨by simp [hl], by omega, by omega, ?_, ?_⟩
  · rw [List.take_add_one, List.take_set_of_le (by omega), h.head, List.getElem?_set_self (by omega), List.take_add_one, hx]
    simp [hq]
  · rw [List.drop_set_of_lt (by omega)]
    have h1 := congrArg (List.drop 1) h.tail
    simpa using h1
theorem DelInv.skip {x : α} (h : DelInv q L L' i j) (hx : L[j]? = some x) (hq : q x = false) : DelInv q L L' i (j + 1) := by
  have hj := (List.getElem?_eq_some_iff.1 hx).1
  have hij := h.ij
  refine ⟨h.len, by omega, by omega, ?_, ?_⟩
  · rw [h.head, List.take_add_one, hx]
    simp [hq]
  · have h1 := congrArg (List.drop 1) h.tail
    simpa using h1
theorem DelInv.start {x : α} (hi : L[i]? = some x) (hq : ∀ j y, j < i → L[j]? = some y → q y = true) (hqi : q x = false) : DelInv q L L i (i + 1) := by
  have hlt := (List.getElem?_eq_some_iff.1 hi).1
  refine ⟨rfl, by omega, by omega, ?_, rfl⟩
  have h1 : (L.take i).filter q = L.take i := by
    rw [List.filter_eq_self]
    intro y hy
    obtain ⟨j, hj, rfl⟩ := List.getElem_of_mem hy
    simp at hj
    exact hq j _ (by omega) (by simp)
  rw [List.take_add_one, List.filter_append, h1, hi]
  simp [hqi]
theorem DelInv.done (h : DelInv q L L' i L.length) : L'.take i = L.filter q := by rw [h.head, List.take_length]
end
theorem take_snoc {α : Type} {L : List α} {i : Nat} {x : α} (h : L[i]? = some x) : L.take (i + 1) = L.take i ++ [x] := by rw [List.take_add_one, h]; rfl
end Go.Lb
