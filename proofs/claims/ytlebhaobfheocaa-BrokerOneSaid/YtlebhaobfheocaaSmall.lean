/- heap.Heap's Len, New, Peek; down of nothing. -/
import Derived.Test.YtlebhaobfheocaaUp
set_option linter.unusedVariables false
set_option linter.unusedSimpArgs false
namespace Go.Proofs.Ytlebhaobfheocaa
open Go.RowKit Go.Lb Go.Hp

theorem HeapAt.shape {w : World} {b : Nat} {v : Value} {L : List It} {born : Int} (h : HeapAt w b v L born) : ∃ a c, v = .slice a L.length c := by
  rcases h.row.2 with ⟨h1, h0⟩ | ⟨g, cap, cur, rfl, _⟩
  · exact ⟨none, 0, by rw [h1, h0]⟩
  · exact ⟨_, _, rfl⟩
theorem new_any (w : World) :
    Calls Try.prog 28 #[] w fun e w' => ∃ b, e = .returned (.pointer (some ⟨b, 0, none⟩)) ∧ HeapAt w' b (.slice none 0 0) [] 0 ∧ Upd [] w w' ∧ w.heap.size ≤ b := by
  go_enter Try.func28, Try.ntmps28
  go_wp2
  go_ret
  exact ⟨w.heap.size, rfl, ⟨Blk.new w 75 _, World.ownsRow_nil _ _ _ _, by simp [Value.ownBlock], by simp⟩, (Upd.refl _ _).alloc _, Nat.le_refl _⟩

theorem down_nil (b : Nat) (v : Value) (born : Int) (w : World) (h : HeapAt w b v [] born) :
    Calls Try.prog 39 #[.pointer (some ⟨b, 0, none⟩), .int .i64 0] w fun e w' => e = .returned (.tuple #[]) ∧ w = w' := by
  obtain ⟨a, c, rfl⟩ := h.shape
  have h0 := h.blk.cell (o := 0) rfl
  clear h
  go_enter Try.func39, Try.ntmps39
  go_wp2_with fail
  refine wp_loop_rounds 1 ?_
  rw [rounds_succ]
  go_wp2_with fail
  refine wp_loop_rounds 1 ?_
  rw [rounds_succ]
  go_wp2_with fail
  go_returns
  exact ⟨rfl, rfl⟩

theorem peek_nil (b : Nat) (v : Value) (born : Int) (w : World) (h : HeapAt w b v [] born) :
    Calls Try.prog 37 #[.pointer (some ⟨b, 0, none⟩)] w fun e w' => e = .returned (.tuple #[.pointer none, .bool false]) ∧ Upd [] w w' := by
  obtain ⟨a, c, rfl⟩ := h.shape
  have h0 := h.blk.cell (o := 0) rfl
  have hb := h.blk.lt
  clear h
  go_enter Try.func37, Try.ntmps37
  go_wp2
  refine bodyPost_ret (v := .tuple #[.pointer none, .bool false]) (by simp [results, Try.results37, go_sem]) rfl ⟨rfl, Upd.of_below (by go_grown)⟩

theorem peek_some (b : Nat) (v : Value) (L : List It) (x : It) (born : Int) (w : World) (h : HeapAt w b v L born) (hx : L[0]? = some x) :
    Calls Try.prog 37 #[.pointer (some ⟨b, 0, none⟩)] w fun e w' => e = .returned (.tuple #[.pointer (some ⟨x.p, 0, none⟩), .bool true]) ∧ Upd [] w w' := by
  have hn : 0 < L.length := (List.getElem?_eq_some_iff.1 hx).1
  obtain ⟨s, c, rfl, hlc, hcm, hs, hsb⟩ := h.isSome hn
  have h0 := h.blk.cell (o := 0) rfl
  have hb := h.blk.lt
  obtain ⟨h1, h2⟩ := h.at hx
  simp only [Nat.zero_mul, Nat.zero_add] at h1 h2
  obtain ⟨xk, xt, xb⟩ := x
  clear h hx
  generalize L.length = n at *
  have hnn : ((n : Int) == 0) = false := by simp; omega
  dsimp only at *
  unfold maxLen at hcm
  go_enter Try.func37, Try.ntmps37
  go_wp2
  refine bodyPost_ret (v := .tuple #[.pointer (some ⟨xk, 0, none⟩), .bool true]) (by simp [results, Try.results37, go_sem]) rfl ⟨rfl, Upd.of_below (by go_grown)⟩

end Go.Proofs.Ytlebhaobfheocaa
