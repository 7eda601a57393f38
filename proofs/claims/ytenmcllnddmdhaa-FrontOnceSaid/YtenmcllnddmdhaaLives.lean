/- lives: who waits for an entry of the right term is answered. -/
import Derived.Test.YtenmcllnddmdhaaPassed
set_option linter.unusedVariables false
set_option linter.unusedSimpArgs false
namespace Go.Proofs.Ytenmcllnddmdhaa
open Go.RowKit Go.Lb Go.Conc

/-- A front that was made since w0. -/
structure St (w0 : World) (f : Nat) (F : List Nat) (s : Said) (wr : World) : Prop where
  front : FrontIs wr f F s
  upd : Upd [] w0 wr
  new : ∀ k ∈ F, w0.heap.size ≤ k
  lt : ∀ k ∈ F, k < wr.heap.size

/-- What a call leaves: the front may lie in new blocks too, and nothing else that was there has changed. -/
def Gone (w0 : World) (f : Nat) (F : List Nat) (s : Said) (wr w' : World) : Prop := ∃ F', St w0 f F' s w' ∧ Upd F wr w' ∧ ∀ k, k < wr.heap.size → k ∉ F → k ∉ F'

theorem St.start {w0 wr : World} {f : Nat} {F : List Nat} {s : Said} (h : FrontIs wr f F s) (u : Upd [] w0 wr) (n : ∀ k ∈ F, w0.heap.size ≤ k) : ∃ F', St w0 f F' s wr := by
  obtain ⟨p, h1, h2⟩ := h
  exact ⟨foot f p, ⟨p, h1, fun k hk => ⟨hk, (h2 k hk).2⟩⟩, u, fun k hk => n k (h2 k hk).1, fun k hk => (h2 k hk).2⟩
theorem St.go {w0 wr w' : World} {f : Nat} {F : List Nat} {s s' : Said} (h : St w0 f F s wr) (k : FPost wr f F s' w') : Gone w0 f F s' wr w' := by
  obtain ⟨F', ⟨p, h1, h0⟩, h2, h3⟩ := k
  refine ⟨foot f p, ⟨⟨p, h1, fun k hk => ⟨hk, (h0 k hk).2⟩⟩, h.upd.trans h2 (fun k hk => .inr (h.new k hk)), fun k hk => ?_, fun k hk => (h0 k hk).2⟩, h2, fun k hk hn hm => ?_⟩
  · rcases h3 k (h0 k hk).1 with h4 | h4
    · exact h.new k h4
    · have := h.upd.size; omega
  · rcases h3 k (h0 k hm).1 with h4 | h4
    · exact hn h4
    · omega
theorem St.any {w0 wr w' : World} {f : Nat} {F : List Nat} {s : Said} (h : St w0 f F s wr) (u : Upd [] wr w') : St w0 f F s w' := ⟨h.front.upd u (by simp), h.upd.trans u (by simp), h.new, fun k hk => Nat.lt_of_lt_of_le (h.lt k hk) u.size⟩
theorem St.other {w0 wr w' : World} {f : Nat} {F G : List Nat} {s : Said} (h : St w0 f F s wr) (u : Upd G wr w') (h1 : ∀ k ∈ F, k ∉ G) (h2 : ∀ k ∈ G, w0.heap.size ≤ k) : St w0 f F s w' :=
  ⟨h.front.upd u h1, h.upd.trans u (fun k hk => .inr (h2 k hk)), h.new, fun k hk => Nat.lt_of_lt_of_le (h.lt k hk) u.size⟩
theorem St.free {w0 wr : World} {f : Nat} {F : List Nat} {s : Said} (h : St w0 f F s wr) : wr.heap.size ∉ F := fun hm => Nat.lt_irrefl _ (h.lt _ hm)

theorem build44a (c : Int) (w : World) : (Instr.build 44 #[(2, .int .i64 c)]).run Try.prog w = .ok (.agg (whoL 0 c).toArray) w := by kernel_rfl
theorem build44n (n : Int) (w : World) : (Instr.build 44 #[(0, .int .i64 n)]).run Try.prog w = .ok (.agg (whoL n 0).toArray) w := by kernel_rfl
theorem build47 (ix tm : Int) (w : World) : (Instr.build 47 #[(0, .int .i64 ix), (1, .int .i64 tm)]).run Try.prog w = .ok (.agg (entL ix tm).toArray) w := by kernel_rfl
theorem build49v (v : Int) (w : World) : (Instr.build 49 #[(1, .int .i64 v)]).run Try.prog w = .ok (.agg #[.int .i64 0, .int .i64 v, .slice none 0 0]) w := by kernel_rfl
theorem build49z (w : World) : (Instr.build 49 #[]).run Try.prog w = .ok (.agg #[.int .i64 0, .int .i64 0, .slice none 0 0]) w := by kernel_rfl

set_option maxRecDepth 100000 in
set_option maxHeartbeats 3200000 in
theorem lives_any (w : World) : Calls Try.prog 13 #[] w fun e w' => e = .returned (.bool true) ∧ Upd [] w w' := by
  go_enter Try.func13, Try.ntmps13
  go_wp2_with fail
  refine (new_ok _).mono ?_
  rintro e w1 ⟨f, F, rfl, h1, u1, n1⟩
  obtain ⟨F1, g1⟩ := St.start h1 u1 n1
  have K1 := Lib.hid g1
  clear h1 u1 n1 g1
  have bA := build44a 1
  go_wp2_with fail
  refine (wait_ok f F1 _ 3 1 0 1 _ K1.out.front (by decide)).mono ?_
  rintro e w2 ⟨rfl, h2⟩
  obtain ⟨F2, g2, _, _⟩ := K1.out.go h2
  have K2 := Lib.hid g2
  clear h2 g2 K1 bA
  have bA := build44a 2
  go_wp2_with fail
  refine (wait_ok f F2 _ 3 2 0 2 _ K2.out.front (by decide)).mono ?_
  rintro e w3 ⟨rfl, h3⟩
  obtain ⟨F3, g3, _, _⟩ := K2.out.go h3
  have K3 := Lib.hid g3
  clear h3 g3 K2 bA
  have bA := build47 3 2
  have bB := build49v 9
  go_wp2_with fail
  refine (applied_ok f F3 _ 3 2 9 _ K3.out.front (by decide)).mono ?_
  rintro e w4 ⟨rfl, h4⟩
  obtain ⟨F4, g4, _, _⟩ := K3.out.go h4
  have e4 : Said.applied ⟨[⟨0, 1, 3, 1⟩, ⟨0, 2, 3, 2⟩], [], [], 0, 0, []⟩ 3 2 9 = ⟨[], [], [], 0, 0, [⟨0, 2, 3, 9, .slice none 0 0⟩]⟩ := by rfl
  have K4 : Hid (St w f F4 ⟨[], [], [], 0, 0, [⟨0, 2, 3, 9, .slice none 0 0⟩]⟩ w4) := Lib.hid (by rw [← e4]; exact g4)
  clear h4 g4 K3 bA bB e4
  go_wp2_with fail
  refine (take_some f F4 _ ⟨0, 2, 3, 9, .slice none 0 0⟩ [] _ K4.out.front rfl rfl).mono ?_
  rintro e w5 ⟨rfl, h5⟩
  obtain ⟨F5, g5, _, _⟩ := K4.out.go h5
  have K5 := Lib.hid g5
  clear h5 g5 K4
  go_wp2_with (first | (refine wpList_alloc_blk rfl 51 rfl zDone (zeroVal51 _) ?_; intro w6 hb6 hu6) | (refine wpList_store_blk (o := ⟨none, .store 51 (.tmp 4) (.tmp 24), _, _, _, _⟩) rfl 51 (.tmp 4) (.tmp 24) rfl _ (Dn.cells ⟨0, 2, 3, 9, .slice none 0 0⟩) rfl rfl hb6 Try.size51 rfl (Dn.one _ rfl) ?_; intro w7 hb7 hu7))
  have K7 := Lib.hid (K5.out.any (hu6.trans hu7 (by simp)))
  have HB7 := Lib.hid hb7
  have hn7 : w5.heap.size ∉ F5 := K5.out.free
  clear hu6 hu7 hb6 hb7 K5
  refine (take_none f F5 _ _ K7.out.front rfl).mono ?_
  rintro e w8 ⟨rfl, h8⟩
  obtain ⟨F8, g8, u8, n8⟩ := K7.out.go h8
  have HB8 := u8.blk HB7.out hn7
  have hn8 := n8 _ HB7.out.lt hn7
  have K8 := Lib.hid g8
  have HB := Lib.hid HB8
  clear h8 g8 K7 u8 n8 HB8 HB7
  go_wp2_with (first | (refine wpList_alloc_blk rfl 51 rfl zDone (zeroVal51 _) ?_; intro w9 hb9 hu9) | (refine wpList_store_blk (o := ⟨none, .store 51 (.tmp 6) (.tmp 29), _, _, _, _⟩) rfl 51 (.tmp 6) (.tmp 29) rfl _ zDone rfl rfl hb9 Try.size51 rfl zDone_one ?_; intro w10 hb10 hu10; have hu10' := hu9.trans hu10 (by simp); have hx := (hu9.trans hu10 (by simp)).blk HB.out (by simp); have x2 := hx.cell (o := 2) rfl; have x31 := hx.cell (o := 31) rfl; have x33 := hx.cell (o := 33) rfl; clear hx))
  have K10 := Lib.hid (K8.out.any hu10')
  clear hb9 hu9 hb10 hu10 hu10' K8
  refine (len_any f F8 _ _ K10.out.front (by decide)).mono ?_
  rintro e w11 ⟨rfl, u11⟩
  go_wp2_with fail
  go_ret
  exact ⟨rfl, (K10.out.any u11).upd⟩
end Go.Proofs.Ytenmcllnddmdhaa
