/- FrontOrder, in plain lists: who waits, who is done, who is left. -/
import Derived.Test.YtenmcllnddmdhaaLives
set_option linter.unusedVariables false
set_option linter.unusedSimpArgs false
namespace Go.Proofs.Ytenmcllnddmdhaa
open Go.RowKit Go.Lb Go.Conc

def wtN (j : Nat) : Wt := ⟨j, 0, 5, 2⟩
def dnN (j : Nat) : Dn := ⟨j, 0, 5, 3, .slice none 0 0⟩
def wtsN (i : Nat) : List Wt := (List.range i).map wtN
def dnsN (i n : Nat) : List Dn := (List.range' i (n - i)).map dnN
theorem wtsN_snoc (i : Nat) : wtsN i ++ [⟨i, 0, 5, 2⟩] = wtsN (i + 1) := by simp [wtsN, List.range_succ, wtN]
theorem wtsN_len (i : Nat) : (wtsN i).length = i := by simp [wtsN]
theorem dnsN_cons {i n : Nat} (h : i < n) : dnsN i n = dnN i :: dnsN (i + 1) n := by
  unfold dnsN
  rw [show n - i = (n - (i + 1)) + 1 by omega, List.range'_succ]
  simp
theorem dnsN_nil (n : Nat) : dnsN n n = [] := by simp [dnsN]

theorem foldl_all : ∀ (l : List Nat) (q : List Dn), q.length + l.length ≤ 256 → (l.map wtN).foldl (stepW 5 2 3) q = q ++ l.map dnN
  | [], q, _ => by simp
  | j :: l, q, h => by
    simp only [List.length_cons] at h
    have e : stepW 5 2 3 q (wtN j) = q ++ [dnN j] := by
      have : q.length < 256 := by omega
      simp [stepW, hitW, wtN, dnOf, putQ, this, dnN]
    simp only [List.map_cons, List.foldl_cons, e]
    rw [foldl_all l _ (by simp; omega)]
    simp

theorem applied_all (n : Nat) (hn : n < 60) : Said.applied ⟨wtsN n, [], [], 0, 0, []⟩ 5 2 3 = ⟨[], [], [], 0, 0, dnsN 0 n⟩ := by
  unfold Said.applied
  simp only [Said.mk.injEq, and_true, true_and]
  refine ⟨?_, ?_⟩
  · simp [wtsN, wtN, List.filter_map]
  · unfold wtsN
    rw [foldl_all _ _ (by simp; omega)]
    simp [dnsN, List.range_eq_range']

def esN (i : Nat) : List (Int × Int × Int) := (List.range i).map fun j : Nat => ((j : Int) + 1, (j : Int), 0)
theorem esN_snoc (i : Nat) : esN i ++ [((i : Int) + 1, (i : Int), 0)] = esN (i + 1) := by simp [esN, List.range_succ]
theorem esN_len (i : Nat) : (esN i).length = i := by simp [esN]
theorem esN_ne (i : Nat) : ∀ p ∈ esN i, p.1 ≠ (i : Int) + 1 := by
  intro p hp
  simp only [esN, List.mem_map, List.mem_range] at hp
  obtain ⟨j, hj, rfl⟩ := hp
  simp; omega

/-- Those who are left: each with its number, none twice. -/
structure Left (n : Nat) (es : List (Int × Int × Int)) : Prop where
  each : ∀ e ∈ es, ∃ j : Nat, j < n ∧ e = ((j : Int) + 1, (j : Int), 0)
  nd : es.Nodup
  len : es.length ≤ n
theorem Left.start (n : Nat) : Left n (esN n) := by
  refine ⟨fun e he => ?_, ?_, by simp [esN]⟩
  · simp only [esN, List.mem_map, List.mem_range] at he
    obtain ⟨j, hj, rfl⟩ := he
    exact ⟨j, hj, rfl⟩
  · unfold esN
    refine List.pairwise_map.2 (List.nodup_range.imp fun {i j} h e => h ?_)
    simp at e
    omega
theorem Left.split {n k : Nat} {es : List (Int × Int × Int)} (h : Left n es) : (∀ p ∈ es, p.1 ≠ (k : Int) + 1) ∨ ∃ A B, es = A ++ ((k : Int) + 1, (k : Int), 0) :: B ∧ (∀ p ∈ A, p.1 ≠ (k : Int) + 1) ∧ (∀ p ∈ A ++ B, p.1 ≠ (k : Int) + 1) ∧ Left n (A ++ B) := by
  by_cases hm : ((k : Int) + 1, (k : Int), 0) ∈ es
  · obtain ⟨A, B, rfl⟩ := List.append_of_mem hm
    have hnd := h.nd
    have key : ∀ p ∈ A ++ B, p.1 ≠ (k : Int) + 1 := by
      intro p hp e
      have hp' : p ∈ A ++ ((k : Int) + 1, (k : Int), 0) :: B := by
        rcases List.mem_append.1 hp with h1 | h1 <;> simp [h1]
      obtain ⟨j, hj, rfl⟩ := h.each p hp'
      simp at e
      have : j = k := by omega
      subst this
      rw [List.nodup_append] at hnd
      obtain ⟨n1, n2, n3⟩ := hnd
      rcases List.mem_append.1 hp with h1 | h1
      · exact n3 _ h1 _ (by simp) rfl
      · exact (List.nodup_cons.1 n2).1 h1
    refine .inr ⟨A, B, rfl, fun p hp => key p (by simp [hp]), key, ⟨fun e he => h.each e ?_, ?_, by have := h.len; simp at this ⊢; omega⟩⟩
    · rcases List.mem_append.1 he with h1 | h1 <;> simp [h1]
    · rw [List.nodup_append] at hnd ⊢
      obtain ⟨n1, n2, n3⟩ := hnd
      exact ⟨n1, (List.nodup_cons.1 n2).2, fun a ha b hb => n3 a ha b (by simp [hb])⟩
  · refine .inl fun p hp e => hm ?_
    obtain ⟨j, hj, rfl⟩ := h.each p hp
    simp at e
    have : j = k := by omega
    subst this
    exact hp

/-- A slice of ints that came in. -/
def RowAt (w : World) (a : Option Addr) (len : Nat) (zs : List Int) : Prop := ∀ i, i < len → ∃ b o, a = some ⟨b, o, none⟩ ∧ b < w.heap.size ∧ w.cell? ⟨b, o + i, none⟩ = some (.int .i64 (zs.getD i 0)) ∧ (Lit.int .i64 (zs.getD i 0)).wf = true
theorem RowAt.upd {w w' : World} {a : Option Addr} {len : Nat} {zs : List Int} (h : RowAt w a len zs) (u : Upd [] w w') : RowAt w' a len zs := fun i hi =>
  let ⟨b, o, h1, h2, h3, h4⟩ := h i hi
  ⟨b, o, h1, Nat.lt_of_lt_of_le h2 u.size, (u.cell (a := ⟨b, o + i, none⟩) h2 (by simp)).trans h3, h4⟩
end Go.Proofs.Ytenmcllnddmdhaa
