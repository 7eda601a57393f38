/- The methods of heap.Heap at pairs of numbers, each by its contract. Conditions: fewer than 2^31 things; the heap lies in memory of its own. -/
import Derived.Test.YtghpiegcmakggaaRows
import Derived.Test.YtghpiegcmakggaaLib
import Derived.Test.YtghpiegcmakggaaPure
set_option linter.unusedVariables false
set_option linter.unusedSimpArgs false
namespace Go.Proofs.Ytghpiegcmakggaa
open Go.RowKit Go.Lb Go.Hp

structure It where
  key : Int
  tag : Int
  born : Int
  deriving Inhabited

def It.vals (x : It) : List Value := [.int .i64 x.key, .int .i64 x.tag, .int .i64 x.born]
def It.ah (x y : It) : Bool := decide (x.key < y.key) || (!decide (y.key < x.key) && decide (x.born < y.born))

def vals (L : List It) : List (List Value) := L.map It.vals
theorem vals_len (L : List It) : ∀ x ∈ vals L, x.length = 3 := by
  intro x hx
  obtain ⟨y, _, rfl⟩ := List.mem_map.1 hx
  rfl

/-- The heap whose struct is block b holds the things L, in the slice v. -/
structure HeapAt (w : World) (b : Nat) (v : Value) (L : List It) (born : Int) : Prop where
  blk : Blk w b 53 [v, .int .i64 born]
  row : w.ownsRow 0 55 3 v L.length (vals L).flatten
  ne : v.ownBlock ≠ some b

theorem less_any (x1 t1 x2 t2 : Int) (w : World) :
    Calls Try.prog 46 #[.agg #[.int .i64 x1, .int .i64 t1], .agg #[.int .i64 x2, .int .i64 t2]] w fun e w' => e = .returned (.bool (decide (x1 < x2))) ∧ Upd [] w w' := by
  go_enter Try.func46, Try.ntmps46
  go_wp2
  go_ret
  exact ⟨rfl, Upd.of_below (by go_grown)⟩

theorem HeapAt.isSome {w : World} {b : Nat} {v : Value} {L : List It} {born : Int} (h : HeapAt w b v L born) (hn : 0 < L.length) :
    ∃ s c, v = .slice (some ⟨s, 0, none⟩) L.length c ∧ L.length ≤ c ∧ c ≤ maxLen ∧ s < w.heap.size ∧ s ≠ b := by
  rcases h.row.2 with ⟨_, h0⟩ | ⟨g, cap, cur, rfl, _, hg, hnc, hc, _⟩
  · omega
  · exact ⟨g, cap, rfl, hnc, hc, lt_of_block hg, fun e => h.ne (by simp [Value.ownBlock, e])⟩

theorem HeapAt.at {w : World} {b s n c : Nat} {L : List It} {born : Int} (h : HeapAt w b (.slice (some ⟨s, 0, none⟩) n c) L born) {i : Nat} {x : It} (hi : L[i]? = some x) :
    w.cell? ⟨s, i * 3, none⟩ = some (.int .i64 x.key) ∧ w.cell? ⟨s, i * 3 + 1, none⟩ = some (.int .i64 x.tag) ∧ w.cell? ⟨s, i * 3 + 2, none⟩ = some (.int .i64 x.born) := by
  have hr := h.row
  have hn : n = L.length := by
    rcases hr.2 with ⟨h1, _⟩ | ⟨_, _, _, h1, _⟩
    · cases h1
    · cases h1; rfl
  subst hn
  have hx : (vals L)[i]? = some x.vals := by simp [vals, hi]
  exact ⟨by simpa using row_cell (j := 0) hr (vals_len L) hx rfl, row_cell (j := 1) hr (vals_len L) hx rfl, row_cell (j := 2) hr (vals_len L) hx rfl⟩

/-- The cells of one thing, at p. -/
structure ItAt (w : World) (p : Nat) (k t b : Int) : Prop where
  lt : p < w.heap.size
  c0 : w.cell? ⟨p, 0, none⟩ = some (.int .i64 k)
  c1 : w.cell? ⟨p, 1, none⟩ = some (.int .i64 t)
  c2 : w.cell? ⟨p, 2, none⟩ = some (.int .i64 b)
theorem ItAt.upd {w w' : World} {p : Nat} {k t b : Int} (h : ItAt w p k t b) (hu : Upd [] w w') : ItAt w' p k t b :=
  ⟨Nat.lt_of_lt_of_le h.lt hu.size, (hu.cell (a := ⟨p, 0, none⟩) h.lt (by simp)).trans h.c0, (hu.cell (a := ⟨p, 1, none⟩) h.lt (by simp)).trans h.c1, (hu.cell (a := ⟨p, 2, none⟩) h.lt (by simp)).trans h.c2⟩

theorem itAt_of {w : World} {p t' : Nat} {k t b : Int} (h : Blk w p t' [.int .i64 k, .int .i64 t, .int .i64 b]) : ItAt w p k t b := ⟨h.lt, h.cell rfl, h.cell rfl, h.cell rfl⟩

def TwoIts (w : World) (x1 t1 b1 x2 t2 b2 : Int) (s7 s8 : Value) (w1 : World) : Prop :=
  ∃ p q, s7 = .pointer (some ⟨p, 0, none⟩) ∧ s8 = .pointer (some ⟨q, 0, none⟩) ∧ ItAt w1 p x1 t1 b1 ∧ ItAt w1 q x2 t2 b2 ∧ Upd [] w w1

set_option maxHeartbeats 1000000 in
theorem ahead_core (b o s n c i j : Nat) (x1 t1 b1 x2 t2 b2 : Int) (w : World) (h0 : w.cell? ⟨b, o, none⟩ = some (.slice (some ⟨s, 0, none⟩) n c))
   (hb : b < w.heap.size) (hs : s < w.heap.size) (hi : i < n) (hj : j < n) (hn : n ≤ 11728124029612)
   (hi0 : w.cell? ⟨s, i * 3, none⟩ = some (.int .i64 x1)) (hi1 : w.cell? ⟨s, i * 3 + 1, none⟩ = some (.int .i64 t1)) (hi2 : w.cell? ⟨s, i * 3 + 2, none⟩ = some (.int .i64 b1))
   (hj0 : w.cell? ⟨s, j * 3, none⟩ = some (.int .i64 x2)) (hj1 : w.cell? ⟨s, j * 3 + 1, none⟩ = some (.int .i64 t2)) (hj2 : w.cell? ⟨s, j * 3 + 2, none⟩ = some (.int .i64 b2)) :
    Calls Try.prog 29 #[.pointer (some ⟨b, o, none⟩), .int .i64 i, .int .i64 j] w fun e w' => e = .returned (.bool (decide (x1 < x2) || (!decide (x2 < x1) && decide (b1 < b2)))) ∧ Upd [] w w' := by
  go_enter Try.func29, Try.ntmps29
  go_upto_region 1 with fail
  go_cut [7, 8] (fun s7 s8 w1 => TwoIts w x1 t1 b1 x2 t2 b2 s7 s8 w1)
  case first =>
    go_region
    all_goals
      go_wp2_with fail
      go_meet
      first
        | exact ⟨w.heap.size, w.heap.size + 1, rfl, rfl, itAt_of ((Blk.new w 55 [.int .i64 x1, .int .i64 t1, .int .i64 b1]).alloc _).drew, itAt_of (Blk.new2 w _ 55 [.int .i64 x2, .int .i64 t2, .int .i64 b2]).drew, Upd.of_below (by go_grown)⟩
        | exact ⟨w.heap.size + 1, w.heap.size, rfl, rfl, itAt_of (Blk.new2 w _ 55 [.int .i64 x1, .int .i64 t1, .int .i64 b1]).drew, itAt_of ((Blk.new w 55 [.int .i64 x2, .int .i64 t2, .int .i64 b2]).alloc _).drew, Upd.of_below (by go_grown)⟩
  case rest =>
    obtain ⟨p, q, rfl, rfl, hp, hq, hu⟩ := hcut
    clear hi0 hi1 hi2 hj0 hj1 hj2 h0
    obtain ⟨p0, p1, p2, p3⟩ := hp
    obtain ⟨q0, q1, q2, q3⟩ := hq
    by_cases h1 : x1 < x2
    · go_wp2_with fail
      refine (less_any _ _ _ _ _).mono ?_
      rintro e w2 ⟨rfl, hu2⟩
      go_wp2_with fail
      go_ret
      exact ⟨by simp [h1], hu.trans hu2 (by simp)⟩
    · have hd : decide (x1 < x2) = false := by simpa using h1
      go_wp2_with fail
      refine (less_any _ _ _ _ _).mono ?_
      rintro e w2 ⟨rfl, hu2⟩
      have hp := ItAt.upd ⟨p0, p1, p2, p3⟩ hu2
      have hq := ItAt.upd ⟨q0, q1, q2, q3⟩ hu2
      clear p0 p1 p2 p3 q0 q1 q2 q3
      obtain ⟨p0, p1, p2, p3⟩ := hp
      obtain ⟨q0, q1, q2, q3⟩ := hq
      by_cases h2 : x2 < x1
      · have hd2 : decide (x2 < x1) = true := by simpa using h2
        go_wp2_with fail
        refine (less_any _ _ _ _ _).mono ?_
        rintro e w3 ⟨rfl, hu3⟩
        go_wp2_with fail
        go_ret
        exact ⟨by simp [hd, hd2], (hu.trans hu2 (by simp)).trans hu3 (by simp)⟩
      · have hd2 : decide (x2 < x1) = false := by simpa using h2
        go_wp2_with fail
        refine (less_any _ _ _ _ _).mono ?_
        rintro e w3 ⟨rfl, hu3⟩
        have hp := ItAt.upd ⟨p0, p1, p2, p3⟩ hu3
        have hq := ItAt.upd ⟨q0, q1, q2, q3⟩ hu3
        clear p0 p1 p2 p3 q0 q1 q2 q3
        obtain ⟨p0, p1, p2, p3⟩ := hp
        obtain ⟨q0, q1, q2, q3⟩ := hq
        go_wp2_with fail
        go_ret
        exact ⟨by simp [hd, hd2], (hu.trans hu2 (by simp)).trans hu3 (by simp)⟩

theorem ahead_any (b : Nat) (v : Value) (L : List It) (born : Int) (w : World) (h : HeapAt w b v L born) (i j : Nat) (x y : It) (hx : L[i]? = some x) (hy : L[j]? = some y) (hL : L.length ≤ 11728124029612) :
    Calls Try.prog 29 #[.pointer (some ⟨b, 0, none⟩), .int .i64 i, .int .i64 j] w fun e w' => e = .returned (.bool (x.ah y)) ∧ Upd [] w w' := by
  have hi : i < L.length := (List.getElem?_eq_some_iff.1 hx).1
  have hj : j < L.length := (List.getElem?_eq_some_iff.1 hy).1
  obtain ⟨s, c, rfl, hlc, hcm, hs, _⟩ := h.isSome (by omega)
  obtain ⟨hi0, hi1, hi2⟩ := h.at hx
  obtain ⟨hj0, hj1, hj2⟩ := h.at hy
  exact ahead_core b 0 s L.length c i j _ _ _ _ _ _ w (h.blk.cell (o := 0) rfl) h.blk.lt hs hi hj hL hi0 hi1 hi2 hj0 hj1 hj2

end Go.Proofs.Ytghpiegcmakggaa
