/- The heap with its footprint; the statements' own example. -/
import Derived.Test.YtghpiegcmakggaaPush
import Derived.Test.YtghpiegcmakggaaPop
import Derived.Test.YtghpiegcmakggaaBox
set_option linter.unusedVariables false
set_option linter.unusedSimpArgs false
namespace Go.Proofs.Ytghpiegcmakggaa
open Go.RowKit Go.Lb Go.Hp

/-- The heap at b lies in the blocks fp and holds L, the least one first. -/
def HeapIs (w : World) (b : Nat) (fp : List Nat) (L : List It) (born : Int) : Prop :=
  ∃ v, HeapAt w b v L born ∧ Heaped leI L.length 0 (fun i => L.getD i default) ∧ fp = b :: v.ownBlock.toList

theorem HeapIs.upd {w w' : World} {b : Nat} {fp : List Nat} {L : List It} {born : Int} (h : HeapIs w b fp L born) {F : List Nat} (hu : Upd F w w') (hF : ∀ x ∈ fp, x ∉ F) : HeapIs w' b fp L born := by
  obtain ⟨v, h1, h2, rfl⟩ := h
  exact ⟨v, h1.upd hu (hF b (by simp)) (fun k hk => hF k (by simp [hk])), h2, rfl⟩

theorem HeapIs.lt {w : World} {b : Nat} {fp : List Nat} {L : List It} {born : Int} (h : HeapIs w b fp L born) : ∀ x ∈ fp, x < w.heap.size := by
  obtain ⟨v, h1, h2, rfl⟩ := h
  intro x hx
  rcases List.mem_cons.1 hx with rfl | hx
  · exact h1.blk.lt
  · simp only [Option.mem_toList, Option.mem_def] at hx
    exact (h1.row.lt x hx).2

theorem HeapIs.mem {w : World} {b : Nat} {fp : List Nat} {L : List It} {born : Int} (h : HeapIs w b fp L born) : b ∈ fp := by
  obtain ⟨v, h1, h2, rfl⟩ := h
  simp

theorem hnew (w : World) : Calls Try.prog 8 #[] w fun e w' => ∃ b, e = .returned (.pointer (some ⟨b, 0, none⟩)) ∧ HeapIs w' b [b] [] 0 ∧ Upd [] w w' ∧ w.heap.size ≤ b :=
  (new_any w).mono fun e w' ⟨b, h1, h2, h3, h4⟩ => ⟨b, h1, ⟨_, h2, fun i _ hi => by simp at hi, by simp [Value.ownBlock]⟩, h3, h4⟩

theorem hlen (b : Nat) (fp : List Nat) (L : List It) (born : Int) (w : World) (h : HeapIs w b fp L born) : Calls Try.prog 12 #[.pointer (some ⟨b, 0, none⟩)] w fun e w' => e = .returned (.int .i64 L.length) ∧ w = w' :=
  let ⟨v, h1, _⟩ := h
  len_any b v L born w h1

theorem hpush (b : Nat) (fp : List Nat) (L : List It) (born : Int) (k t : Int) (w : World) (h : HeapIs w b fp L born) (hL : L.length ≤ 5864062014804) (hb0 : 0 ≤ born) (hb1 : born ≤ 5864062014804) :
    Calls Try.prog 10 #[.pointer (some ⟨b, 0, none⟩), .agg #[.int .i64 k, .int .i64 t]] w fun e w' => e = .returned (.tuple #[]) ∧
      ∃ fp' L', HeapIs w' b fp' L' (born + 1) ∧ L'.Perm (L ++ [⟨k, t, born + 1⟩]) ∧ Upd fp w w' ∧ ∀ x ∈ fp', x ∈ fp ∨ w.heap.size ≤ x := by
  obtain ⟨v, h1, h2, rfl⟩ := h
  refine (push_any b v L born k t w h1 hL hb0 hb1 h2).mono ?_
  rintro e w' ⟨he, v', L', g1, g2, g3, g4, g5⟩
  refine ⟨he, _, L', ⟨v', g1, g3, rfl⟩, g2, g4, fun x hx => ?_⟩
  rcases List.mem_cons.1 hx with rfl | hx
  · exact .inl (by simp)
  · simp only [Option.mem_toList, Option.mem_def] at hx
    rcases g5 x hx with h0 | h0
    · exact .inl (by simp [h0])
    · exact .inr h0

theorem hpop_nil (b : Nat) (fp : List Nat) (born : Int) (w : World) (h : HeapIs w b fp [] born) :
    Calls Try.prog 11 #[.pointer (some ⟨b, 0, none⟩)] w fun e w' => e = .returned (.tuple #[.agg #[.int .i64 0, .int .i64 0], .bool false]) ∧ Upd [] w w' :=
  let ⟨v, h1, _⟩ := h
  pop_nil b v born w h1

theorem hpop (b : Nat) (fp : List Nat) (L : List It) (born : Int) (w : World) (h : HeapIs w b fp L born) (hn : L ≠ []) (hL : L.length ≤ 5864062014804) :
    Calls Try.prog 11 #[.pointer (some ⟨b, 0, none⟩)] w fun e w' => ∃ x L', e = .returned (.tuple #[.agg #[.int .i64 x.key, .int .i64 x.tag], .bool true]) ∧
      HeapIs w' b fp L' born ∧ (x :: L').Perm L ∧ (∀ y ∈ L, leI x y) ∧ Upd fp w w' ∧ L[0]? = some x := by
  obtain ⟨v, h1, h2, rfl⟩ := h
  have hp : 0 < L.length := List.length_pos_iff.2 hn
  obtain ⟨x, hx⟩ : ∃ x, L[0]? = some x := ⟨_, List.getElem?_eq_getElem hp⟩
  refine (pop_some b v L x born w h1 hx hL h2).mono ?_
  rintro e w' ⟨he, v', L', g1, g2, g3, g4, g5⟩
  refine ⟨x, L', he, ⟨v', g1, g3, by rw [g5]⟩, g2, fun y hy => ?_, g4, hx⟩
  obtain ⟨i, hi, rfl⟩ := List.getElem_of_mem hy
  have := heaped_least leI_ord h2 i hi
  simpa [List.getD, hx, hi] using this

theorem hpeek (b : Nat) (fp : List Nat) (L : List It) (born : Int) (w : World) (h : HeapIs w b fp L born) (hn : L ≠ []) :
    Calls Try.prog 17 #[.pointer (some ⟨b, 0, none⟩)] w fun e w' => ∃ x, e = .returned (.tuple #[.agg #[.int .i64 x.key, .int .i64 x.tag], .bool true]) ∧ x ∈ L ∧ (∀ y ∈ L, leI x y) ∧ L[0]? = some x ∧ Upd [] w w' := by
  obtain ⟨v, h1, h2, rfl⟩ := h
  have hp : 0 < L.length := List.length_pos_iff.2 hn
  obtain ⟨x, hx⟩ : ∃ x, L[0]? = some x := ⟨_, List.getElem?_eq_getElem hp⟩
  refine (peek_some b v L x born w h1 hx).mono ?_
  rintro e w' ⟨he, hu⟩
  refine ⟨x, he, List.mem_of_getElem? hx, fun y hy => ?_, hx, hu⟩
  obtain ⟨i, hi, rfl⟩ := List.getElem_of_mem hy
  have := heaped_least leI_ord h2 i hi
  simpa [List.getD, hx, hi] using this

theorem hpeek_nil (b : Nat) (fp : List Nat) (born : Int) (w : World) (h : HeapIs w b fp [] born) :
    Calls Try.prog 17 #[.pointer (some ⟨b, 0, none⟩)] w fun e w' => e = .returned (.tuple #[.agg #[.int .i64 0, .int .i64 0], .bool false]) ∧ Upd [] w w' :=
  let ⟨v, h1, _⟩ := h
  peek_nil b v born w h1

/-- A heap and a mailbox of the call's own, apart. -/
structure Kn (w : World) (b bb c : Nat) (fp : List Nat) (L : List It) (born : Int) (q : List Value) (wk : World) : Prop where
  heap : HeapIs wk b fp L born
  box : BoxAt wk bb c 2 q
  upd : Upd [] w wk
  new : ∀ x ∈ fp, w.heap.size ≤ x ∧ x ≠ bb ∧ x ≠ c
  nb : w.heap.size ≤ bb
  nc : w.heap.size ≤ c

theorem Kn.heap' {w w1 w2 : World} {b bb c : Nat} {fp fp' : List Nat} {L L' : List It} {born born' : Int} {q : List Value} (h : Kn w b bb c fp L born q w1) (h2 : HeapIs w2 b fp' L' born') (u : Upd fp w1 w2) (f : ∀ x ∈ fp', x ∈ fp ∨ w1.heap.size ≤ x) :
    Kn w b bb c fp' L' born' q w2 := by
  have hbb := h.box.blk.lt
  obtain ⟨s, r, hc⟩ := h.box.ch
  have hc := lt_of_block hc
  have hsz := h.upd.size
  refine ⟨h2, h.box.upd u (fun hx => (h.new _ hx).2.1 rfl) (fun hx => (h.new _ hx).2.2 rfl), h.upd.trans u (fun x hx => .inr (h.new x hx).1), fun x hx => ?_, h.nb, h.nc⟩
  rcases f x hx with h0 | h0
  · exact h.new x h0
  · exact ⟨by omega, by omega, by omega⟩
theorem Kn.box' {w w1 w2 : World} {b bb c : Nat} {fp : List Nat} {L : List It} {born : Int} {q q' : List Value} (h : Kn w b bb c fp L born q w1) (h2 : BoxAt w2 bb c 2 q') (u : Upd [c] w1 w2) : Kn w b bb c fp L born q' w2 :=
  ⟨h.heap.upd u (fun x hx => by have := (h.new x hx).2.2; simpa using this), h2, h.upd.trans u (fun x hx => .inr (by simp at hx; rw [hx]; exact h.nc)), h.new, h.nb, h.nc⟩
theorem Kn.any {w w1 w2 : World} {b bb c : Nat} {fp : List Nat} {L : List It} {born : Int} {q : List Value} (h : Kn w b bb c fp L born q w1) (u : Upd [] w1 w2) : Kn w b bb c fp L born q w2 :=
  ⟨h.heap.upd u (by simp), h.box.upd u (by simp) (by simp), h.upd.trans u (by simp), h.new, h.nb, h.nc⟩

set_option maxHeartbeats 1000000 in
theorem known_any (w : World) : Calls Try.prog 9 #[] w fun e w' => e = .returned (.bool true) ∧ Upd [] w w' := by
  go_enter Try.func9, Try.ntmps9
  go_wp2_with fail
  refine (hnew _).mono ?_
  rintro e w1 ⟨b, rfl, h1, u1, hb⟩
  go_wp2_with fail
  refine (newBox_ok 2 _ (by omega) (by omega)).mono ?_
  rintro e w2 ⟨bb, c, rfl, hx2, u2, hbb, hc⟩
  have hl := h1.lt b (by simp)
  have hz := u1.size
  have K2 : Kn w b bb c [b] [] 0 [] w2 := ⟨h1.upd u2 (by simp), hx2, u1.trans u2 (by simp), (by intro x hx; simp at hx; subst hx; exact ⟨hb, by omega, by omega⟩), by omega, by omega⟩
  have HK := Lib.hid K2
  clear h1 u1 u2 hx2 K2 hl hz hbb hc hb
  go_wp2_with fail
  refine (hpush b [b] [] 0 2 0 _ HK.out.heap (by simp) (by omega) (by omega)).mono ?_
  rintro e w3 ⟨rfl, fp3, L3, h3, p3, u3, f3⟩
  have K3 := Lib.hid (HK.out.heap' h3 u3 f3)
  have P3 := Lib.hid p3
  clear h3 p3 u3 f3 HK
  go_wp2_with fail
  refine (hpush b fp3 L3 _ 1 0 _ K3.out.heap (by rw [P3.out.length_eq]; simp) (by omega) (by omega)).mono ?_
  rintro e w4 ⟨rfl, fp4, L4, h4, p4, u4, f4⟩
  have K4 := Lib.hid (K3.out.heap' h4 u4 f4)
  have hp4 : L4.Perm [⟨2, 0, 1⟩, ⟨1, 0, 2⟩] := p4.trans (P3.out.append_right _)
  have P4 := Lib.hid hp4
  clear h4 p4 u4 f4 K3 P3 hp4
  go_wp2_with fail
  have hn4 : L4 ≠ [] := by intro e; have := P4.out.length_eq; simp [e] at this
  refine (hpop b fp4 L4 _ _ K4.out.heap hn4 (by rw [P4.out.length_eq]; simp)).mono ?_
  rintro e w5 ⟨x, L5, rfl, h5, p5, m5, u5, -⟩
  have K5 := Lib.hid (K4.out.heap' h5 u5 (fun x hx => .inl hx))
  obtain ⟨xk, xt, xb⟩ := x
  have hk : xk = 1 := by
    have h1 := (leI_iff _ _).1 (m5 ⟨1, 0, 2⟩ (P4.out.mem_iff.2 (by simp)))
    have h2 := P4.out.mem_iff.1 (p5.mem_iff.1 (List.mem_cons_self))
    simp at h2 h1
    omega
  subst hk
  have l5 : L5.length = 1 := by have := (p5.trans P4.out).length_eq; simpa using this
  have HL5 := Lib.hid l5
  clear h5 p5 m5 u5 K4 P4 hn4 l5
  dsimp only
  go_wp2_with fail
  refine (box_put_room bb c 2 [] 7 _ (K5.out.any ((Upd.refl _ _).alloc _)).box (by simp)).mono ?_
  rintro e w6 ⟨rfl, h6, u6⟩
  have c6 : w6.cell? ⟨w5.heap.size, 0, none⟩ = some (.int .i64 1) :=
    (u6.blk (Blk.new w5 26 [.int .i64 1, .int .i64 xt]) (by have := K5.out.box.ch; obtain ⟨s, r, h⟩ := this; have := lt_of_block h; simp; omega)).cell (o := 0) rfl
  have hlt : w5.heap.size < w6.heap.size := by have := u6.size; simp at this; omega
  have hcl : c < w5.heap.size := by have := K5.out.box.ch; obtain ⟨s, r, h⟩ := this; exact lt_of_block h
  have K6 := Lib.hid ((K5.out.any ((Upd.refl _ _).alloc _)).box' h6 u6)
  clear h6 u6 K5
  go_wp2_with fail
  refine (box_take_some bb c 2 [] 7 _ K6.out.box).mono ?_
  rintro e w7 ⟨rfl, h7, u7⟩
  have c7 : w7.cell? ⟨w5.heap.size, 0, none⟩ = some (.int .i64 1) := (u7.cell (a := ⟨w5.heap.size, 0, none⟩) hlt (by simp; omega)).trans c6
  have K7 := Lib.hid (K6.out.box' h7 u7)
  clear h7 u7 K6 c6 hlt
  go_wp2_with fail
  refine (hlen b fp4 L5 _ _ K7.out.heap).mono ?_
  rintro e w8 ⟨rfl, rfl⟩
  rw [HL5.out]
  go_wp2_with fail
  refine (box_len bb c 2 [] _ K7.out.box).mono ?_
  rintro e w8 ⟨rfl, rfl⟩
  go_wp2_with fail
  go_ret
  exact ⟨rfl, K7.out.upd⟩

end Go.Proofs.Ytghpiegcmakggaa
