/- HeapPlays: the heap and the reference's heap hold the same things. -/
import Derived.Test.YtghpiegcmakggaaRefC
import Derived.Test.YtghpiegcmakggaaRemove
import Derived.Test.YtghpiegcmakggaaPeeks
set_option linter.unusedVariables false
set_option linter.unusedSimpArgs false
namespace Go.Proofs.Ytghpiegcmakggaa
open Go.RowKit Go.Lb Go.Hp

structure Duo (A L : List It) (born : Int) : Prop where
  perm : L.Perm A
  rise : A.Pairwise fun x y => x.born < y.born
  top : ∀ x ∈ A, x.born ≤ born

theorem Duo.nil : Duo [] [] 0 := ⟨List.Perm.refl _, List.Pairwise.nil, by simp⟩
theorem Duo.push {A L L' : List It} {born : Int} {k t : Int} (h : Duo A L born) (hp : L'.Perm (L ++ [⟨k, t, born + 1⟩])) : Duo (A ++ [⟨k, t, born + 1⟩]) L' (born + 1) := by
  refine ⟨hp.trans (h.perm.append_right _), ?_, ?_⟩
  · refine List.pairwise_append.2 ⟨h.rise, List.pairwise_singleton _ _, ?_⟩
    intro x hx y hy
    simp only [List.mem_singleton] at hy
    subst hy
    have := h.top x hx
    show x.born < born + 1
    omega
  · intro x hx
    rcases List.mem_append.1 hx with hx | hx
    · have := h.top x hx; omega
    · simp only [List.mem_singleton] at hx; subst hx; exact Int.le_refl _
theorem Duo.len {A L : List It} {born : Int} (h : Duo A L born) : L.length = A.length := h.perm.length_eq
theorem Duo.least {A L : List It} {born : Int} {x y : It} {m : Nat} (h : Duo A L born) (hx : x ∈ L) (hm : ∀ z ∈ L, leI x z) (hy : A[m]? = some y) (hl : LeastTo A A.length m) : x = y := by
  have hxA : x ∈ A := h.perm.mem_iff.1 hx
  have hyA : y ∈ A := List.mem_of_getElem? hy
  obtain ⟨j, hj, rfl⟩ := List.getElem_of_mem hxA
  obtain ⟨hm1, rfl⟩ := List.getElem?_eq_some_iff.1 hy
  have h1 := (leI_iff _ _).1 (hm _ (h.perm.mem_iff.2 hyA))
  rcases hl with ⟨h0, _⟩ | ⟨m', e, _, h2, h3⟩
  · omega
  · obtain rfl : m = m' := by omega
    have k1 := h2 j hj
    have e1 : (A.getD m default) = A[m] := by simp [List.getD, hm1]
    have e2 : (A.getD j default) = A[j] := by simp [List.getD, hj]
    rw [e1, e2] at k1
    rcases Nat.lt_trichotomy j m with hjm | hjm | hjm
    · have k2 := h3 j hjm
      rw [e1, e2] at k2
      omega
    · subst hjm; rfl
    · have k3 := List.pairwise_iff_getElem.1 h.rise m j hm1 hj hjm
      omega
theorem Duo.pop {A L L' : List It} {born : Int} {x y : It} {m : Nat} (h : Duo A L born) (hp : (x :: L').Perm L) (hm : ∀ z ∈ L, leI x z) (hy : A[m]? = some y) (hl : LeastTo A A.length m) : x = y ∧ Duo (A.take m ++ A.drop (m + 1)) L' born := by
  have hxy : x = y := h.least (hp.mem_iff.1 List.mem_cons_self) hm hy hl
  refine ⟨hxy, ?_, ?_, ?_⟩
  · subst hxy
    obtain ⟨hm1, he⟩ := List.getElem?_eq_some_iff.1 hy
    have hA : A = A.take m ++ x :: A.drop (m + 1) := by
      rw [← he, ← List.drop_eq_getElem_cons hm1, List.take_append_drop]
    have h2 : (x :: L').Perm (x :: (A.take m ++ A.drop (m + 1))) := by
      refine (hp.trans h.perm).trans ?_
      conv => lhs; rw [hA]
      exact List.perm_middle
    exact List.Perm.cons_inv h2
  · have hs : (A.take m ++ A.drop (m + 1)).Sublist A := by
      conv => rhs; rw [← List.take_append_drop m A]
      refine List.Sublist.append (List.Sublist.refl _) ?_
      rw [← List.drop_drop]
      exact List.drop_sublist _ _
    exact h.rise.sublist hs
  · intro z hz
    rcases List.mem_append.1 hz with hz | hz
    · exact h.top z (List.mem_of_mem_take hz)
    · exact h.top z (List.mem_of_mem_drop hz)
theorem Duo.filter {A L L' : List It} {born : Int} (h : Duo A L born) (p : It → Bool) (hp : L'.Perm (L.filter p)) : Duo (A.filter p) L' born :=
  ⟨hp.trans (h.perm.filter p), h.rise.filter p, fun x hx => h.top x (List.mem_filter.1 hx).1⟩

/-- Both heaps are the call's own and apart. -/
structure Both (w : World) (b rb i : Nat) (A L : List It) (fp : List Nat) (v : Value) (born : Int) (wr : World) : Prop where
  duo : Duo A L born
  own : Own w b fp L born wr
  ref : RefAt wr rb v A
  rf : rb ∉ fp
  vf : ∀ s, v.ownBlock = some s → s ∉ fp ∧ w.heap.size ≤ s
  wr : w.heap.size ≤ rb
  al : A.length ≤ i
  b0 : 0 ≤ born
  bi : born ≤ i

theorem Both.any {w wr w2 : World} {b rb i : Nat} {A L : List It} {fp : List Nat} {v : Value} {born : Int} (h : Both w b rb i A L fp v born wr) (u : Upd [] wr w2) : Both w b rb i A L fp v born w2 :=
  ⟨h.duo, h.own.any u, h.ref.upd u (by simp) (by simp), h.rf, h.vf, h.wr, h.al, h.b0, h.bi⟩
theorem Both.succ {w wr : World} {b rb i : Nat} {A L : List It} {fp : List Nat} {v : Value} {born : Int} (h : Both w b rb i A L fp v born wr) : Both w b rb (i + 1) A L fp v born wr :=
  ⟨h.duo, h.own, h.ref, h.rf, h.vf, h.wr, by have := h.al; omega, h.b0, by have := h.bi; omega⟩
theorem Both.refIn {w wr w2 : World} {b rb i : Nat} {A L : List It} {fp : List Nat} {v : Value} {born : Int} (h : Both w b rb i A L fp v born wr) (u : Upd fp wr w2) : RefAt w2 rb v A :=
  h.ref.upd u h.rf (fun k hk => (h.vf k hk).1)
theorem Both.heapIn {w wr w2 : World} {b rb i : Nat} {A L : List It} {fp : List Nat} {v : Value} {born : Int} (h : Both w b rb i A L fp v born wr) (u : Upd (rb :: v.ownBlock.toList) wr w2) : HeapIs w2 b fp L born :=
  h.own.heap.upd u (fun x hx hm => by
    rcases List.mem_cons.1 hm with rfl | hm
    · exact h.rf hx
    · simp only [Option.mem_toList, Option.mem_def] at hm
      exact (h.vf x hm).1 hx)
/-- First the heap changes, then the reference's. -/
theorem Both.both {w wr w1 w2 : World} {b rb i j : Nat} {A A' L L' : List It} {fp fp' : List Nat} {v v' : Value} {born born' : Int} (h : Both w b rb i A L fp v born wr) (hd : Duo A' L' born')
    (h1 : HeapIs w1 b fp' L' born') (u1 : Upd fp wr w1) (f1 : ∀ x ∈ fp', x ∈ fp ∨ wr.heap.size ≤ x)
    (h2 : RefAt w2 rb v' A') (u2 : Upd (rb :: v.ownBlock.toList) w1 w2) (f2 : ∀ s, v'.ownBlock = some s → v.ownBlock = some s ∨ w1.heap.size ≤ s) (hal : A'.length ≤ j) (hb0 : 0 ≤ born') (hbi : born' ≤ j) : Both w b rb j A' L' fp' v' born' w2 := by
  have hO := h.own.go h1 u1 f1
  have hrl := h.ref.blk.lt
  have hz := h.own.upd.size
  have hz1 := u1.size
  have hvl : ∀ s, v.ownBlock = some s → s < wr.heap.size := fun s hs => (h.ref.row.lt s hs).2
  have hrf : rb ∉ fp' := fun hx => by
    rcases f1 rb hx with e | e
    · exact h.rf e
    · omega
  have hvf : ∀ s, v.ownBlock = some s → s ∉ fp' := fun s hs hx => by
    rcases f1 s hx with e | e
    · exact (h.vf s hs).1 e
    · have := hvl s hs; omega
  have hdis : ∀ x ∈ fp', x ∉ (rb :: v.ownBlock.toList) := by
    intro x hx hm
    rcases List.mem_cons.1 hm with rfl | hm
    · exact hrf hx
    · simp only [Option.mem_toList, Option.mem_def] at hm
      exact hvf x hm hx
  refine ⟨hd, ⟨hO.heap.upd u2 hdis, hO.upd.trans u2 ?_, hO.new⟩, h2, hrf, fun s hs => ?_, h.wr, hal, hb0, hbi⟩
  · intro x hx
    rcases List.mem_cons.1 hx with rfl | hx
    · exact .inr h.wr
    · simp only [Option.mem_toList, Option.mem_def] at hx
      exact .inr (h.vf x hx).2
  · rcases f2 s hs with e | e
    · exact ⟨hvf s e, (h.vf s e).2⟩
    · exact ⟨fun hx => by have := hO.heap.lt s hx; omega, by omega⟩
/-- First the reference's heap changes, then the heap. -/
theorem Both.both' {w wr w1 w2 : World} {b rb i j : Nat} {A A' L L' : List It} {fp : List Nat} {v v' : Value} {born born' : Int} (h : Both w b rb i A L fp v born wr) (hd : Duo A' L' born')
    (h2 : RefAt w1 rb v' A') (u2 : Upd [rb] wr w1) (f2 : ∀ s, v'.ownBlock = some s → wr.heap.size ≤ s)
    (h1 : HeapIs w2 b fp L' born') (u1 : Upd fp w1 w2) (hal : A'.length ≤ j) (hb0 : 0 ≤ born') (hbi : born' ≤ j) : Both w b rb j A' L' fp v' born' w2 := by
  have hfl := h.own.heap.lt
  have hz := h.own.upd.size
  have hvf : ∀ s, v'.ownBlock = some s → s ∉ fp ∧ w.heap.size ≤ s := fun s hs => ⟨fun hx => by have := hfl s hx; have := f2 s hs; omega, by have := f2 s hs; omega⟩
  refine ⟨hd, ⟨h1, (h.own.upd.trans u2 (fun x hx => ?_)).trans u1 (fun x hx => .inr (h.own.new x hx)), h.own.new⟩, h2.upd u1 h.rf (fun k hk => (hvf k hk).1), h.rf, hvf, h.wr, hal, hb0, hbi⟩
  simp at hx
  subst hx
  exact .inr h.wr

/-- The rows of a script. -/
def OpAt (w : World) (a : Option Addr) (len : Nat) : Prop := ∀ i, i < len → ∃ b o k x t, a = some ⟨b, o, none⟩ ∧ b < w.heap.size ∧ w.cell? ⟨b, o + i * 3, none⟩ = some (.int .i64 k) ∧ w.cell? ⟨b, o + i * 3 + 1, none⟩ = some (.int .i64 x) ∧ w.cell? ⟨b, o + i * 3 + 2, none⟩ = some (.int .i64 t)
theorem OpAt.upd {w w' : World} {a : Option Addr} {len : Nat} (h : OpAt w a len) (u : Upd [] w w') : OpAt w' a len := fun i hi =>
  let ⟨b, o, k, x, t, h1, h2, h3, h4, h5⟩ := h i hi
  ⟨b, o, k, x, t, h1, Nat.lt_of_lt_of_le h2 u.size, (u.cell (a := ⟨b, o + i * 3, none⟩) h2 (by simp)).trans h3, (u.cell (a := ⟨b, o + i * 3 + 1, none⟩) h2 (by simp)).trans h4, (u.cell (a := ⟨b, o + i * 3 + 2, none⟩) h2 (by simp)).trans h5⟩

def PlayRel (w : World) (b rb i : Nat) (wr : World) : Prop := ∃ A L fp v born, Both w b rb i A L fp v born wr

end Go.Proofs.Ytghpiegcmakggaa
