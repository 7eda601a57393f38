/- The reference's heap: Push, least, Peek. -/
import Derived.Test.YtghpiegcmakggaaLib
import Derived.Test.YtghpiegcmakggaaPush
set_option linter.unusedVariables false
set_option linter.unusedSimpArgs false
namespace Go.Proofs.Ytghpiegcmakggaa
open Go.RowKit Go.Lb Go.Hp

def It.pair (x : It) : List Value := [.int .i64 x.key, .int .i64 x.tag]
def prs (A : List It) : List (List Value) := A.map It.pair
theorem prs_len (A : List It) : ∀ x ∈ prs A, x.length = 2 := by
  intro x hx
  obtain ⟨y, _, rfl⟩ := List.mem_map.1 hx
  rfl
theorem prs_one (A : List It) : ∀ u ∈ (prs A).flatten, u.oneCell' = true := by
  intro u hu
  obtain ⟨l, hl, hu⟩ := List.mem_flatten.1 hu
  obtain ⟨y, _, rfl⟩ := List.mem_map.1 hl
  simp [It.pair] at hu
  rcases hu with rfl | rfl <;> rfl
theorem prs_flat_len (A : List It) : (prs A).flatten.length = A.length * 2 := by rw [flatten_len (prs A) (prs_len A)]; simp [prs]

/-- The reference's heap at b: its list is A's pairs. -/
structure RefAt (w : World) (b : Nat) (v : Value) (A : List It) : Prop where
  blk : Blk w b 44 [v]
  row : w.ownsRow 0 26 2 v A.length (prs A).flatten
  ne : v.ownBlock ≠ some b

theorem RefAt.shape {w : World} {b : Nat} {v : Value} {A : List It} (h : RefAt w b v A) : ∃ a c, v = .slice a A.length c := by
  rcases h.row.2 with ⟨h1, h0⟩ | ⟨g, cap, cur, rfl, _⟩
  · exact ⟨none, 0, by rw [h1, h0]⟩
  · exact ⟨_, _, rfl⟩
theorem RefAt.isSome {w : World} {b : Nat} {v : Value} {A : List It} (h : RefAt w b v A) (hn : 0 < A.length) :
    ∃ s c, v = .slice (some ⟨s, 0, none⟩) A.length c ∧ A.length ≤ c ∧ c ≤ maxLen ∧ s < w.heap.size ∧ s ≠ b := by
  rcases h.row.2 with ⟨_, h0⟩ | ⟨g, cap, cur, rfl, _, hg, hnc, hc, _⟩
  · omega
  · exact ⟨g, cap, rfl, hnc, hc, lt_of_block hg, fun e => h.ne (by simp [Value.ownBlock, e])⟩
theorem RefAt.upd {w w' : World} {b : Nat} {v : Value} {A : List It} (h : RefAt w b v A) {F : List Nat} (hu : Upd F w w') (hb : b ∉ F) (hv : ∀ k, v.ownBlock = some k → k ∉ F) : RefAt w' b v A :=
  ⟨hu.blk h.blk hb, hu.row h.row hv, h.ne⟩
theorem RefAt.at {w : World} {b s n c : Nat} {A : List It} (h : RefAt w b (.slice (some ⟨s, 0, none⟩) n c) A) {i : Nat} {x : It} (hi : A[i]? = some x) :
    w.cell? ⟨s, i * 2, none⟩ = some (.int .i64 x.key) ∧ w.cell? ⟨s, i * 2 + 1, none⟩ = some (.int .i64 x.tag) := by
  have hr := h.row
  have hn : n = A.length := by
    rcases hr.2 with ⟨h1, _⟩ | ⟨_, _, _, h1, _⟩
    · cases h1
    · cases h1; rfl
  subst hn
  have hx : (prs A)[i]? = some x.pair := by simp [prs, hi]
  exact ⟨by simpa using row_cell (j := 0) hr (prs_len A) hx rfl, row_cell (j := 1) hr (prs_len A) hx rfl⟩

/-- The place of the least one, the first of several: so far. -/
def LeastTo (A : List It) (i : Nat) (at' : Int) : Prop :=
  (i = 0 ∧ at' = -1) ∨ ∃ m : Nat, at' = m ∧ m < i ∧ (∀ j, j < i → (A.getD m default).key ≤ (A.getD j default).key) ∧ ∀ j, j < m → (A.getD m default).key < (A.getD j default).key

theorem LeastTo.first (A : List It) : LeastTo A 1 ((0 : Nat) : Int) := by
  refine .inr ⟨0, rfl, by omega, fun j hj => ?_, fun j hj => by omega⟩
  obtain rfl : j = 0 := by omega
  exact Int.le_refl _
theorem LeastTo.less {A : List It} {i m : Nat} (h : LeastTo A i m) (hm : m < i) (hl : (A.getD i default).key < (A.getD m default).key) : LeastTo A (i + 1) i := by
  rcases h with ⟨h0, h1⟩ | ⟨m', e, h1, h2, h3⟩
  · omega
  · obtain rfl : m = m' := by omega
    refine .inr ⟨i, rfl, by omega, fun j hj => ?_, fun j hj => ?_⟩
    · by_cases e : j = i
      · subst e; exact Int.le_refl _
      · have := h2 j (by omega); omega
    · have := h2 j (by omega); omega
theorem LeastTo.more {A : List It} {i m : Nat} (h : LeastTo A i m) (hm : m < i) (hl : ¬ (A.getD i default).key < (A.getD m default).key) : LeastTo A (i + 1) m := by
  rcases h with ⟨h0, h1⟩ | ⟨m', e, h1, h2, h3⟩
  · omega
  · obtain rfl : m = m' := by omega
    refine .inr ⟨m, rfl, by omega, fun j hj => ?_, h3⟩
    by_cases e : j = i
    · subst e; omega
    · exact h2 j (by omega)

set_option maxHeartbeats 1000000 in
theorem least_any (b : Nat) (v : Value) (A : List It) (w : World) (h : RefAt w b v A) (hA : A.length ≤ 5864062014805) :
    Calls Try.prog 26 #[.pointer (some ⟨b, 0, none⟩)] w fun e w' => ∃ r : Int, e = .returned (.int .i64 r) ∧ LeastTo A A.length r ∧ Upd [] w w' := by
  obtain ⟨a, c, rfl⟩ := h.shape
  have H := Lib.hid h
  clear h
  go_enter Try.func26, Try.ntmps26
  go_wp2_with fail
  go_loopg [3, 4] A.length (fun g u t wr => ∃ (r : Int) (i : Nat), u = .int .i64 r ∧ t = .int .i64 i ∧ i ≤ A.length ∧ g = A.length - i ∧ LeastTo A i r ∧ Upd [] w wr)
  case atStart => exact ⟨-1, 0, rfl, rfl, Nat.zero_le _, rfl, .inl ⟨rfl, rfl⟩, Upd.refl _ _⟩
  case round =>
    obtain ⟨r, i, rfl, rfl, hi, rfl, hL, hU⟩ := hrel
    have HL := Lib.hid hL
    have HU := Lib.hid hU
    have hR := H.out.upd hU (by simp) (by simp)
    have h0 := hR.blk.cell (o := 0) rfl
    by_cases hlt : i < A.length
    · obtain ⟨s, c', e, hlc, hcm, hs, hsb⟩ := hR.isSome (by omega)
      obtain ⟨rfl, rfl⟩ : a = some ⟨s, 0, none⟩ ∧ c = c' := by simpa using e
      obtain ⟨⟨k, t, bo⟩, hx⟩ : ∃ x, A[i]? = some x := ⟨_, List.getElem?_eq_getElem hlt⟩
      obtain ⟨x0, x1⟩ := hR.at hx
      have hgx : A.getD i default = ⟨k, t, bo⟩ := by simp [List.getD, hx]
      have Hgx := Lib.hid hgx
      unfold maxLen at hcm
      dsimp only at x0
      rcases hL with ⟨rfl, rfl⟩ | ⟨m, rfl, hm, hm1, hm2⟩
      · clear hU hR hx e hgx
        go_wp2_with (go_quiet (fail))
        go_roundg (A.length - 1)
        case measure => omega
        case rel => exact ⟨((0 : Nat) : Int), 1, rfl, by go_num, by omega, rfl, LeastTo.first A, HU.out.drewN _⟩
      · obtain ⟨⟨mk, mt, mbo⟩, hy⟩ : ∃ x, A[m]? = some x := ⟨_, List.getElem?_eq_getElem (by omega)⟩
        obtain ⟨y0, y1⟩ := hR.at hy
        have hgy : A.getD m default = ⟨mk, mt, mbo⟩ := by simp [List.getD, hy]
        have Hgy := Lib.hid hgy
        dsimp only at y0
        have d1 : decide ((m : Int) < 0) = false := by simp
        clear hU hR hx e hgx hgy hy hm1 hm2
        by_cases hlk : k < mk
        · have d2 : decide (k < mk) = true := by simpa using hlk
          go_wp2_with (go_quiet (fail))
          go_roundg (A.length - (i + 1))
          case measure => omega
          case rel => exact ⟨i, i + 1, rfl, by go_num, by omega, rfl, HL.out.less hm (by rw [Hgx.out, Hgy.out]; exact hlk), HU.out.drewN _⟩
        · have d2 : decide (k < mk) = false := by simpa using hlk
          go_wp2_with (go_quiet (fail))
          go_roundg (A.length - (i + 1))
          case measure => omega
          case rel => exact ⟨m, i + 1, rfl, by go_num, by omega, rfl, HL.out.more hm (by rw [Hgx.out, Hgy.out]; show ¬ k < mk; omega), HU.out.drewN _⟩
    · obtain rfl : i = A.length := by omega
      clear hU hR hL
      go_wp2_with fail
      go_ret
      exact ⟨_, rfl, HL.out, HU.out⟩

theorem rpeek_nil (b : Nat) (v : Value) (w : World) (h : RefAt w b v []) :
    Calls Try.prog 22 #[.pointer (some ⟨b, 0, none⟩)] w fun e w' => e = .returned (.tuple #[.agg #[.int .i64 0, .int .i64 0], .bool false]) ∧ Upd [] w w' := by
  go_enter Try.func22, Try.ntmps22
  go_wp2_with fail
  refine (least_any b v [] _ (h.upd (F := []) ((Upd.refl _ _).alloc _) (by simp) (by simp)) (by simp)).mono ?_
  rintro e w1 ⟨r, rfl, hr, u1⟩
  obtain rfl : r = -1 := by
    rcases hr with ⟨_, e⟩ | ⟨m, _, h1, _⟩
    · exact e
    · simp at h1
  have hB := u1.blk (Blk.new w 26 [.int .i64 0, .int .i64 0]) (by simp)
  have c0 := hB.cell (o := 0) rfl
  have c1 := hB.cell (o := 1) rfl
  have f0 := hB.frozen 0
  have f1 := hB.frozen 1
  have U := Lib.hid (((Upd.refl [] w).alloc (.cells #[.int .i64 0, .int .i64 0] 26)).trans u1 (by simp))
  clear hB u1 hr h
  go_wp2_with fail
  refine bodyPost_ret (v := .tuple #[.agg #[.int .i64 0, .int .i64 0], .bool false]) ?_ rfl ?_
  · simp [results, Try.results22, go_sem, *]
  · exact ⟨rfl, (U.out.setCell (.inr (Nat.le_refl _)) _).setCell (.inr (Nat.le_refl _)) _⟩

theorem rpeek_some (b : Nat) (v : Value) (A : List It) (w : World) (h : RefAt w b v A) (hA : A.length ≤ 5864062014805) (hn : A ≠ []) :
    Calls Try.prog 22 #[.pointer (some ⟨b, 0, none⟩)] w fun e w' => ∃ (m : Nat) (x : It), A[m]? = some x ∧ LeastTo A A.length m ∧ e = .returned (.tuple #[.agg #[.int .i64 x.key, .int .i64 x.tag], .bool true]) ∧ Upd [] w w' := by
  go_enter Try.func22, Try.ntmps22
  go_wp2_with fail
  refine (least_any b v A _ (h.upd (F := []) ((Upd.refl _ _).alloc _) (by simp) (by simp)) hA).mono ?_
  rintro e w1 ⟨r, rfl, hr, u1⟩
  have hp : 0 < A.length := List.length_pos_iff.2 hn
  obtain ⟨m, rfl, hm⟩ : ∃ m : Nat, r = m ∧ m < A.length := by
    rcases hr with ⟨e, _⟩ | ⟨m, e, h1, _⟩
    · omega
    · exact ⟨m, e, h1⟩
  have hB := u1.blk (Blk.new w 26 [.int .i64 0, .int .i64 0]) (by simp)
  have c0 := hB.cell (o := 0) rfl
  have c1 := hB.cell (o := 1) rfl
  have f0 := hB.frozen 0
  have f1 := hB.frozen 1
  have U := Lib.hid (((Upd.refl [] w).alloc (.cells #[.int .i64 0, .int .i64 0] 26)).trans u1 (by simp))
  have hR := (h.upd (F := []) ((Upd.refl _ _).alloc (.cells #[.int .i64 0, .int .i64 0] 26)) (by simp) (by simp)).upd u1 (by simp) (by simp)
  obtain ⟨s, c', rfl, hlc, hcm, hs, hsb⟩ := hR.isSome hp
  obtain ⟨⟨k, t, bo⟩, hx⟩ : ∃ x, A[m]? = some x := ⟨_, List.getElem?_eq_getElem hm⟩
  obtain ⟨x0, x1⟩ := hR.at hx
  have b0 := hR.blk.cell (o := 0) rfl
  have Hx := Lib.hid hx
  have Hr := Lib.hid hr
  have d1 : decide ((m : Int) < 0) = false := by simp
  unfold maxLen at hcm
  dsimp only at x0
  clear hB u1 hr h hR hx hn
  go_wp2_with fail
  refine bodyPost_ret (v := .tuple #[.agg #[.int .i64 k, .int .i64 t], .bool true]) ?_ rfl ?_
  · simp [results, Try.results22, go_sem, *]
  · exact ⟨m, _, Hx.out, Hr.out, rfl, (U.out.setCell (.inr (Nat.le_refl _)) _).setCell (.inr (Nat.le_refl _)) _⟩

end Go.Proofs.Ytghpiegcmakggaa
