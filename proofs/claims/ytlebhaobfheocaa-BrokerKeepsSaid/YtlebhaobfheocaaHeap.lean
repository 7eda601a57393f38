/- Evaluations in memory, Less; the methods of heap.Heap at pointers to them. Conditions: fewer than 2^31 things; the heap lies in memory of its own. -/
import Derived.Test.YtlebhaobfheocaaRows
import Derived.Test.YtlebhaobfheocaaLex
import Derived.Test.YtlebhaobfheocaaRow
import Derived.Test.YtlebhaobfheocaaPure
set_option linter.unusedVariables false
set_option linter.unusedSimpArgs false
namespace Go.Proofs.Ytlebhaobfheocaa
open Go.RowKit Go.Lb Go.Hp

/-- An evaluation. -/
structure Ev where
  job : Int
  pr : Int
  st : Int
  ix : Int
  deriving Inhabited, DecidableEq
def Ev.vals (x : Ev) : List Value := [.int .i64 x.job, .int .i64 x.pr, .int .i64 x.st, .int .i64 x.ix]
def Ev.ls (x y : Ev) : Bool := if x.pr = y.pr then (if x.ix = y.ix then decide (x.job < y.job) else decide (x.ix < y.ix)) else decide (y.pr < x.pr)

/-- An evaluation's cells at the head of block p. -/
structure EvAt (w : World) (p : Nat) (e : Ev) : Prop where
  lt : p < w.heap.size
  c0 : w.cell? ⟨p, 0, none⟩ = some (.int .i64 e.job)
  c1 : w.cell? ⟨p, 1, none⟩ = some (.int .i64 e.pr)
  c2 : w.cell? ⟨p, 2, none⟩ = some (.int .i64 e.st)
  c3 : w.cell? ⟨p, 3, none⟩ = some (.int .i64 e.ix)
theorem EvAt.upd {w w' : World} {p : Nat} {e : Ev} (h : EvAt w p e) {F : List Nat} (hu : Upd F w w') (hp : p ∉ F) : EvAt w' p e :=
  ⟨Nat.lt_of_lt_of_le h.lt hu.size, (hu.cell (a := ⟨p, 0, none⟩) h.lt hp).trans h.c0, (hu.cell (a := ⟨p, 1, none⟩) h.lt hp).trans h.c1, (hu.cell (a := ⟨p, 2, none⟩) h.lt hp).trans h.c2, (hu.cell (a := ⟨p, 3, none⟩) h.lt hp).trans h.c3⟩
theorem evAt_of {w : World} {p t : Nat} {e : Ev} {r : List Value} (h : Blk w p t (e.vals ++ r)) : EvAt w p e := ⟨h.lt, h.cell rfl, h.cell rfl, h.cell rfl, h.cell rfl⟩

def TwoEvs (w : World) (x y : Ev) (s5 s6 : Value) (w1 : World) : Prop :=
  ∃ p q, s5 = .pointer (some ⟨p, 0, none⟩) ∧ s6 = .pointer (some ⟨q, 0, none⟩) ∧ EvAt w1 p x ∧ EvAt w1 q y ∧ Upd [] w w1

set_option maxHeartbeats 2000000 in
theorem less_core (p q : Nat) (xj xp xs xi yj yp ys yi : Int) (w : World) (hx : EvAt w p ⟨xj, xp, xs, xi⟩) (hy : EvAt w q ⟨yj, yp, ys, yi⟩) :
    Calls Try.prog 57 #[.pointer (some ⟨p, 0, none⟩), .pointer (some ⟨q, 0, none⟩)] w fun e w' => e = .returned (.bool (Ev.ls ⟨xj, xp, xs, xi⟩ ⟨yj, yp, ys, yi⟩)) ∧ Upd [] w w' := by
  obtain ⟨p0, p1, p2, p3, p4⟩ := hx
  obtain ⟨q0, q1, q2, q3, q4⟩ := hy
  dsimp only at p1 p2 p3 p4 q1 q2 q3 q4
  go_enter Try.func57, Try.ntmps57
  go_upto_region 1 with fail
  go_cut [5, 6] (fun s5 s6 w1 => TwoEvs w ⟨xj, xp, xs, xi⟩ ⟨yj, yp, ys, yi⟩ s5 s6 w1)
  case first =>
    go_region
    all_goals
      go_wp2_with fail
      go_meet
      first
        | exact ⟨w.heap.size, w.heap.size + 1, rfl, rfl, evAt_of (e := ⟨xj, xp, xs, xi⟩) (r := []) ((Blk.new w 26 [.int .i64 xj, .int .i64 xp, .int .i64 xs, .int .i64 xi]).alloc _).drew, evAt_of (e := ⟨yj, yp, ys, yi⟩) (r := []) (Blk.new2 w _ 26 [.int .i64 yj, .int .i64 yp, .int .i64 ys, .int .i64 yi]).drew, Upd.of_below (by go_grown)⟩
        | exact ⟨w.heap.size + 1, w.heap.size, rfl, rfl, evAt_of (e := ⟨xj, xp, xs, xi⟩) (r := []) (Blk.new2 w _ 26 [.int .i64 xj, .int .i64 xp, .int .i64 xs, .int .i64 xi]).drew, evAt_of (e := ⟨yj, yp, ys, yi⟩) (r := []) ((Blk.new w 26 [.int .i64 yj, .int .i64 yp, .int .i64 ys, .int .i64 yi]).alloc _).drew, Upd.of_below (by go_grown)⟩
  case rest =>
    obtain ⟨p', q', rfl, rfl, hx, hy, hu⟩ := hcut
    clear p0 p1 p2 p3 p4 q0 q1 q2 q3 q4
    obtain ⟨p0, p1, p2, p3, p4⟩ := hx
    obtain ⟨q0, q1, q2, q3, q4⟩ := hy
    dsimp only at p1 p2 p3 p4 q1 q2 q3 q4
    have HU := Lib.hid hu
    clear hu
    by_cases h1 : xp = yp
    · subst h1
      by_cases h2 : xi = yi
      · subst h2
        go_wp2_with fail
        go_ret
        exact ⟨by simp [Ev.ls], HU.out⟩
      · have d2 : (xi == yi) = false := beq_eq_false_iff_ne.2 h2
        have H2 := Lib.hid h2
        clear h2
        go_wp2_with fail
        go_ret
        exact ⟨by simp [Ev.ls, H2.out], HU.out⟩
    · have d1 : (xp == yp) = false := beq_eq_false_iff_ne.2 h1
      have H1 := Lib.hid h1
      clear h1
      go_wp2_with fail
      go_ret
      exact ⟨by simp [Ev.ls, H1.out], HU.out⟩
theorem less_any (p q : Nat) (x y : Ev) (w : World) (hx : EvAt w p x) (hy : EvAt w q y) :
    Calls Try.prog 57 #[.pointer (some ⟨p, 0, none⟩), .pointer (some ⟨q, 0, none⟩)] w fun e w' => e = .returned (.bool (x.ls y)) ∧ Upd [] w w' :=
  less_core p q x.job x.pr x.st x.ix y.job y.pr y.st y.ix w hx hy

/-- A thing in the heap: where it lies, what it says, how-manieth it was. -/
structure It where
  p : Nat
  ev : Ev
  born : Int
  deriving Inhabited
def It.vals (x : It) : List Value := [.pointer (some ⟨x.p, 0, none⟩), .int .i64 x.born]
def It.ah (x y : It) : Bool := x.ev.ls y.ev || (!y.ev.ls x.ev && decide (x.born < y.born))

def vals (L : List It) : List (List Value) := L.map It.vals
theorem vals_len (L : List It) : ∀ x ∈ vals L, x.length = 2 := by
  intro x hx
  obtain ⟨y, _, rfl⟩ := List.mem_map.1 hx
  rfl

/-- The heap whose struct is block b holds the things L, in the slice v; what they point to lies elsewhere. -/
structure HeapAt (w : World) (b : Nat) (v : Value) (L : List It) (born : Int) : Prop where
  blk : Blk w b 75 [v, .int .i64 born]
  row : w.ownsRow 0 77 2 v L.length (vals L).flatten
  ne : v.ownBlock ≠ some b
  ev : ∀ x ∈ L, EvAt w x.p x.ev ∧ x.p ≠ b ∧ v.ownBlock ≠ some x.p

theorem HeapAt.isSome {w : World} {b : Nat} {v : Value} {L : List It} {born : Int} (h : HeapAt w b v L born) (hn : 0 < L.length) :
    ∃ s c, v = .slice (some ⟨s, 0, none⟩) L.length c ∧ L.length ≤ c ∧ c ≤ maxLen ∧ s < w.heap.size ∧ s ≠ b := by
  rcases h.row.2 with ⟨_, h0⟩ | ⟨g, cap, cur, rfl, _, hg, hnc, hc, _⟩
  · omega
  · exact ⟨g, cap, rfl, hnc, hc, lt_of_block hg, fun e => h.ne (by simp [Value.ownBlock, e])⟩

theorem HeapAt.at {w : World} {b s n c : Nat} {L : List It} {born : Int} (h : HeapAt w b (.slice (some ⟨s, 0, none⟩) n c) L born) {i : Nat} {x : It} (hi : L[i]? = some x) :
    w.cell? ⟨s, i * 2, none⟩ = some (.pointer (some ⟨x.p, 0, none⟩)) ∧ w.cell? ⟨s, i * 2 + 1, none⟩ = some (.int .i64 x.born) := by
  have hr := h.row
  have hn : n = L.length := by
    rcases hr.2 with ⟨h1, _⟩ | ⟨_, _, _, h1, _⟩
    · cases h1
    · cases h1; rfl
  subst hn
  have hx : (vals L)[i]? = some x.vals := by simp [vals, hi]
  exact ⟨by simpa using row_cell (j := 0) hr (vals_len L) hx rfl, row_cell (j := 1) hr (vals_len L) hx rfl⟩

/-- The cells of one thing, at p. -/
structure ItAt (w : World) (p t : Nat) (b : Int) : Prop where
  lt : p < w.heap.size
  c0 : w.cell? ⟨p, 0, none⟩ = some (.pointer (some ⟨t, 0, none⟩))
  c1 : w.cell? ⟨p, 1, none⟩ = some (.int .i64 b)
theorem ItAt.upd {w w' : World} {p t : Nat} {b : Int} (h : ItAt w p t b) (hu : Upd [] w w') : ItAt w' p t b :=
  ⟨Nat.lt_of_lt_of_le h.lt hu.size, (hu.cell (a := ⟨p, 0, none⟩) h.lt (by simp)).trans h.c0, (hu.cell (a := ⟨p, 1, none⟩) h.lt (by simp)).trans h.c1⟩
theorem itAt_of {w : World} {p t' t : Nat} {b : Int} (h : Blk w p t' [.pointer (some ⟨t, 0, none⟩), .int .i64 b]) : ItAt w p t b := ⟨h.lt, h.cell rfl, h.cell rfl⟩

def TwoIts (w : World) (t1 : Nat) (b1 : Int) (t2 : Nat) (b2 : Int) (s7 s8 : Value) (w1 : World) : Prop :=
  ∃ p q, s7 = .pointer (some ⟨p, 0, none⟩) ∧ s8 = .pointer (some ⟨q, 0, none⟩) ∧ ItAt w1 p t1 b1 ∧ ItAt w1 q t2 b2 ∧ Upd [] w w1

set_option maxHeartbeats 1000000 in
theorem ahead_core (b o s n c i j t1 t2 : Nat) (b1 b2 : Int) (x y : Ev) (w : World) (h0 : w.cell? ⟨b, o, none⟩ = some (.slice (some ⟨s, 0, none⟩) n c))
   (hb : b < w.heap.size) (hs : s < w.heap.size) (hi : i < n) (hj : j < n) (hn : n ≤ 17592186044414)
   (hi0 : w.cell? ⟨s, i * 2, none⟩ = some (.pointer (some ⟨t1, 0, none⟩))) (hi1 : w.cell? ⟨s, i * 2 + 1, none⟩ = some (.int .i64 b1))
   (hj0 : w.cell? ⟨s, j * 2, none⟩ = some (.pointer (some ⟨t2, 0, none⟩))) (hj1 : w.cell? ⟨s, j * 2 + 1, none⟩ = some (.int .i64 b2)) (hx : EvAt w t1 x) (hy : EvAt w t2 y) :
    Calls Try.prog 40 #[.pointer (some ⟨b, o, none⟩), .int .i64 i, .int .i64 j] w fun e w' => e = .returned (.bool (x.ls y || (!y.ls x && decide (b1 < b2)))) ∧ Upd [] w w' := by
  have HX := Lib.hid hx
  have HY := Lib.hid hy
  have hl1 := hx.lt
  have hl2 := hy.lt
  clear hx hy
  go_enter Try.func40, Try.ntmps40
  go_upto_region 1 with fail
  go_cut [7, 8] (fun s7 s8 w1 => TwoIts w t1 b1 t2 b2 s7 s8 w1)
  case first =>
    go_region
    all_goals
      go_wp2_with fail
      go_meet
      first
        | exact ⟨w.heap.size, w.heap.size + 1, rfl, rfl, itAt_of ((Blk.new w 77 [.pointer (some ⟨t1, 0, none⟩), .int .i64 b1]).alloc _).drew, itAt_of (Blk.new2 w _ 77 [.pointer (some ⟨t2, 0, none⟩), .int .i64 b2]).drew, Upd.of_below (by go_grown)⟩
        | exact ⟨w.heap.size + 1, w.heap.size, rfl, rfl, itAt_of (Blk.new2 w _ 77 [.pointer (some ⟨t1, 0, none⟩), .int .i64 b1]).drew, itAt_of ((Blk.new w 77 [.pointer (some ⟨t2, 0, none⟩), .int .i64 b2]).alloc _).drew, Upd.of_below (by go_grown)⟩
  case rest =>
    obtain ⟨p, q, rfl, rfl, hp, hq, hu⟩ := hcut
    clear hi0 hi1 hj0 hj1 h0 hl1 hl2
    obtain ⟨p0, p1, p2⟩ := hp
    obtain ⟨q0, q1, q2⟩ := hq
    have HU := Lib.hid hu
    clear hu
    obtain ⟨r1, hr1⟩ : ∃ r, x.ls y = r := ⟨_, rfl⟩
    have R1 := Lib.hid hr1
    obtain ⟨r2, hr2⟩ : ∃ r, y.ls x = r := ⟨_, rfl⟩
    have R2 := Lib.hid hr2
    clear hr1 hr2
    go_wp2_with fail
    refine (less_any t1 t2 x y _ (HX.out.upd HU.out (by simp)) (HY.out.upd HU.out (by simp))).mono ?_
    rintro e w2 ⟨rfl, hu2⟩
    rw [R1.out]
    have hp := ItAt.upd ⟨p0, p1, p2⟩ hu2
    have hq := ItAt.upd ⟨q0, q1, q2⟩ hu2
    have HU2 := Lib.hid (HU.out.trans hu2 (by simp))
    clear p0 p1 p2 q0 q1 q2 hu2
    obtain ⟨p0, p1, p2⟩ := hp
    obtain ⟨q0, q1, q2⟩ := hq
    cases r1
    · go_wp2_with fail
      refine (less_any t2 t1 y x _ (HY.out.upd HU2.out (by simp)) (HX.out.upd HU2.out (by simp))).mono ?_
      rintro e w3 ⟨rfl, hu3⟩
      rw [R2.out]
      have hp := ItAt.upd ⟨p0, p1, p2⟩ hu3
      have hq := ItAt.upd ⟨q0, q1, q2⟩ hu3
      have HU3 := Lib.hid (HU2.out.trans hu3 (by simp))
      clear p0 p1 p2 q0 q1 q2 hu3
      obtain ⟨p0, p1, p2⟩ := hp
      obtain ⟨q0, q1, q2⟩ := hq
      cases r2
      · go_wp2_with fail
        go_ret
        exact ⟨by simp [R1.out, R2.out], HU3.out⟩
      · go_wp2_with fail
        go_ret
        exact ⟨by simp [R1.out, R2.out], HU3.out⟩
    · go_wp2_with fail
      go_ret
      exact ⟨by simp [R1.out], HU2.out⟩

theorem ahead_any (b : Nat) (v : Value) (L : List It) (born : Int) (w : World) (h : HeapAt w b v L born) (i j : Nat) (x y : It) (hx : L[i]? = some x) (hy : L[j]? = some y) (hL : L.length ≤ 17592186044414) :
    Calls Try.prog 40 #[.pointer (some ⟨b, 0, none⟩), .int .i64 i, .int .i64 j] w fun e w' => e = .returned (.bool (x.ah y)) ∧ Upd [] w w' := by
  have hi : i < L.length := (List.getElem?_eq_some_iff.1 hx).1
  have hj : j < L.length := (List.getElem?_eq_some_iff.1 hy).1
  obtain ⟨s, c, rfl, hlc, hcm, hs, _⟩ := h.isSome (by omega)
  obtain ⟨hi0, hi1⟩ := h.at hx
  obtain ⟨hj0, hj1⟩ := h.at hy
  exact ahead_core b 0 s L.length c i j _ _ _ _ _ _ w (h.blk.cell (o := 0) rfl) h.blk.lt hs hi hj hL hi0 hi1 hj0 hj1 (h.ev x (List.mem_of_getElem? hx)).1 (h.ev y (List.mem_of_getElem? hy)).1

end Go.Proofs.Ytlebhaobfheocaa
