/- heap.Heap's Remove: the closure, slices.IndexFunc, slices.DeleteFunc. -/
import Derived.Test.YtghpiegcmakggaaPop
set_option linter.unusedVariables false
set_option linter.unusedSimpArgs false
namespace Go.Proofs.Ytghpiegcmakggaa
open Go.RowKit Go.Lb Go.Hp

/-- The same key. -/
def It.eqk (xk : Int) (x : It) : Bool := !decide (x.key < xk) && !decide (xk < x.key)
theorem It.eqk_iff (xk : Int) (x : It) : x.eqk xk = true ↔ x.key = xk := by
  unfold It.eqk
  simp only [Bool.and_eq_true, Bool.not_eq_true', decide_eq_false_iff_not]
  omega

set_option maxHeartbeats 1000000 in
theorem closure_core (p : Nat) (k t b xk xt : Int) (w : World) (hp : Blk w p 26 [.int .i64 xk, .int .i64 xt]) :
    Calls Try.prog 28 #[.agg #[.int .i64 k, .int .i64 t, .int .i64 b], .pointer (some ⟨p, 0, none⟩)] w fun e w' => e = .returned (.bool (!decide (k < xk) && !decide (xk < k))) ∧ Upd [] w w' := by
  have hb := Blk.new w 55 [.int .i64 k, .int .i64 t, .int .i64 b]
  have hpl := hp.lt
  have h0 := hp.cell (o := 0) rfl
  have h1 := hp.cell (o := 1) rfl
  have Hp := Lib.hid hp
  have Hb := Lib.hid hb
  clear hp hb
  by_cases c1 : k < xk
  · have d1 : decide (k < xk) = true := by simpa using c1
    go_enter Try.func28, Try.ntmps28
    go_wp2_with fail
    refine (less_any _ _ _ _ _).mono ?_
    rintro e w1 ⟨rfl, u1⟩
    go_wp2_with fail
    go_ret
    exact ⟨by simp [d1], ((Upd.refl _ _).alloc _).trans u1 (by simp)⟩
  · have d1 : decide (k < xk) = false := by simpa using c1
    go_enter Try.func28, Try.ntmps28
    go_wp2_with fail
    refine (less_any _ _ _ _ _).mono ?_
    rintro e w1 ⟨rfl, u1⟩
    have k0 := (u1.blk (Hp.out.alloc _) (by simp)).cell (o := 0) rfl
    have k1 := (u1.blk (Hp.out.alloc _) (by simp)).cell (o := 1) rfl
    have b0 := (u1.blk Hb.out (by simp)).cell (o := 0) rfl
    have b1 := (u1.blk Hb.out (by simp)).cell (o := 1) rfl
    go_wp2_with fail
    refine (less_any _ _ _ _ _).mono ?_
    rintro e w2 ⟨rfl, u2⟩
    go_wp2_with fail
    go_ret
    exact ⟨by simp [d1], (((Upd.refl _ _).alloc _).trans u1 (by simp)).trans u2 (by simp)⟩

theorem closure_any (p : Nat) (k t b xk xt : Int) (r : Bool) (w : World) (hp : Blk w p 26 [.int .i64 xk, .int .i64 xt]) (hr : (⟨k, t, b⟩ : It).eqk xk = r) :
    Calls Try.prog 28 #[.agg #[.int .i64 k, .int .i64 t, .int .i64 b], .pointer (some ⟨p, 0, none⟩)] w fun e w' => e = .returned (.bool r) ∧ Upd [] w w' := by
  subst hr
  exact closure_core p k t b xk xt w hp

/-- A row of things. -/
def RowIt (w : World) (v : Value) (L : List It) : Prop := w.ownsRow 0 55 3 v L.length (vals L).flatten

theorem RowIt.shape {w : World} {v : Value} {L : List It} (h : RowIt w v L) : ∃ a c, v = .slice a L.length c := by
  rcases h.2 with ⟨h1, h0⟩ | ⟨g, cap, cur, rfl, _⟩
  · exact ⟨none, 0, by rw [h1, h0]⟩
  · exact ⟨_, _, rfl⟩
theorem RowIt.isSome {w : World} {v : Value} {L : List It} (h : RowIt w v L) (hn : 0 < L.length) : ∃ s c, v = .slice (some ⟨s, 0, none⟩) L.length c ∧ L.length ≤ c ∧ c ≤ maxLen ∧ s < w.heap.size := by
  rcases h.2 with ⟨_, h0⟩ | ⟨g, cap, cur, rfl, _, hg, hnc, hc, _⟩
  · omega
  · exact ⟨g, cap, rfl, hnc, hc, lt_of_block hg⟩
theorem RowIt.at {w : World} {s n c : Nat} {L : List It} (h : RowIt w (.slice (some ⟨s, 0, none⟩) n c) L) (hn : n = L.length) {i : Nat} {x : It} (hi : L[i]? = some x) :
    w.cell? ⟨s, i * 3, none⟩ = some (.int .i64 x.key) ∧ w.cell? ⟨s, i * 3 + 1, none⟩ = some (.int .i64 x.tag) ∧ w.cell? ⟨s, i * 3 + 2, none⟩ = some (.int .i64 x.born) := by
  subst hn
  have hx : (vals L)[i]? = some x.vals := by simp [vals, hi]
  exact ⟨by simpa using row_cell (j := 0) h (vals_len L) hx rfl, row_cell (j := 1) h (vals_len L) hx rfl, row_cell (j := 2) h (vals_len L) hx rfl⟩
theorem RowIt.upd {w w' : World} {v : Value} {L : List It} (h : RowIt w v L) {F : List Nat} (u : Upd F w w') (hF : ∀ k, v.ownBlock = some k → k ∉ F) : RowIt w' v L := u.row h hF

set_option maxHeartbeats 1000000 in
theorem index_any (v : Value) (L : List It) (p : Nat) (xk xt : Int) (w : World) (h : RowIt w v L) (hL : L.length ≤ 5864062014805) (hp : Blk w p 26 [.int .i64 xk, .int .i64 xt]) :
    Calls Try.prog 30 #[v, .func (.func 28) #[] #[.pointer (some ⟨p, 0, none⟩)]] w fun e w' => ∃ r : Int, e = .returned (.int .i64 r) ∧ Upd [] w w' ∧
      ((r = -1 ∧ ∀ x ∈ L, x.eqk xk = false) ∨ (∃ i : Nat, r = i ∧ i < L.length ∧ (L.getD i default).eqk xk = true ∧ ∀ j, j < i → (L.getD j default).eqk xk = false)) := by
  obtain ⟨a, c, rfl⟩ := h.shape
  have H := Lib.hid h
  have Hp := Lib.hid hp
  clear h hp
  go_enter Try.func30, Try.ntmps30
  go_wp2_with fail
  go_loopg [8] L.length (fun g u wr => ∃ i : Nat, u = .int .i64 i ∧ i ≤ L.length ∧ g = L.length - i ∧ Upd [] w wr ∧ ∀ j, j < i → (L.getD j default).eqk xk = false)
  case atStart => exact ⟨0, rfl, Nat.zero_le _, rfl, Upd.refl _ _, fun j hj => by omega⟩
  case round =>
    obtain ⟨i, rfl, hi, rfl, hu, hj⟩ := hrel
    have Hu := Lib.hid hu
    have Hj := Lib.hid hj
    clear hu hj
    by_cases hlt : i < L.length
    · have hR := H.out.upd Hu.out (by simp)
      obtain ⟨s, c', e, hlc, hcm, hs⟩ := hR.isSome (by omega)
      obtain ⟨rfl, rfl⟩ : a = some ⟨s, 0, none⟩ ∧ c = c' := by simpa using e
      obtain ⟨⟨k, t, b⟩, hx⟩ : ∃ x, L[i]? = some x := ⟨_, List.getElem?_eq_getElem hlt⟩
      obtain ⟨h0, h1, h2⟩ := hR.at rfl hx
      dsimp only at h0 h1 h2
      have Hx := Lib.hid hx
      have hp := Lib.hid (Hu.out.blk Hp.out (by simp))
      clear e hR hx
      unfold maxLen at hcm
      obtain ⟨r, hr⟩ : ∃ r, (⟨k, t, b⟩ : It).eqk xk = r := ⟨_, rfl⟩
      have Hr := Lib.hid hr
      clear hr
      cases r
      · go_wp2_with fail
        refine (closure_any p k t b xk xt false _ hp.out Hr.out).mono ?_
        rintro e w1 ⟨rfl, u1⟩
        go_wp2_with fail
        go_roundg (L.length - (i + 1))
        case measure => omega
        case rel =>
          refine ⟨i + 1, by go_num, by omega, rfl, Hu.out.trans u1 (by simp), fun j hj => ?_⟩
          by_cases e : j = i
          · subst e
            have := Hx.out
            simp only [List.getD_eq_getElem?_getD, this, Option.getD_some]
            exact Hr.out
          · exact Hj.out j (by omega)
      · go_wp2_with fail
        refine (closure_any p k t b xk xt true _ hp.out Hr.out).mono ?_
        rintro e w1 ⟨rfl, u1⟩
        go_wp2_with fail
        go_ret
        exact ⟨_, rfl, Hu.out.trans u1 (by simp), .inr ⟨i, rfl, hlt, by have := Hx.out; simp only [List.getD_eq_getElem?_getD, this, Option.getD_some]; exact Hr.out, Hj.out⟩⟩
    · obtain rfl : i = L.length := by omega
      go_wp2_with fail
      go_ret
      refine ⟨-1, rfl, Hu.out, .inl ⟨rfl, fun x hx => ?_⟩⟩
      obtain ⟨j, hj, rfl⟩ := List.getElem_of_mem hx
      have := Hj.out j hj
      simpa [List.getD, hj] using this

/-- What stands in the row while things are taken out: the first i are those that stay of the first j; from j on all is as it was. -/
structure DelInv (q : It → Bool) (L L' : List It) (i j : Nat) : Prop where
  len : L'.length = L.length
  ij : i < j
  jn : j ≤ L.length
  head : L'.take i = (L.take j).filter q
  tail : L'.drop j = L.drop j

theorem DelInv.at {q : It → Bool} {L L' : List It} {i j : Nat} (h : DelInv q L L' i j) (hj : j < L.length) : L'[j]? = L[j]? := by
  have h1 : (L'.drop j)[0]? = (L.drop j)[0]? := by rw [h.tail]
  simpa using h1

theorem DelInv.keep {q : It → Bool} {L L' : List It} {i j : Nat} {x : It} (h : DelInv q L L' i j) (hx : L[j]? = some x) (hq : q x = true) : DelInv q L (L'.set i x) (i + 1) (j + 1) := by
  have hj := (List.getElem?_eq_some_iff.1 hx).1
  have hl := h.len
  have hij := h.ij
  refine ⟨by simp [hl], by omega, by omega, ?_, ?_⟩
  · rw [List.take_add_one, List.take_set_of_le (by omega), h.head, List.getElem?_set_self (by omega), List.take_add_one, hx]
    simp [hq]
  · rw [List.drop_set_of_lt (by omega)]
    have h1 := congrArg (List.drop 1) h.tail
    simpa using h1
theorem DelInv.skip {q : It → Bool} {L L' : List It} {i j : Nat} {x : It} (h : DelInv q L L' i j) (hx : L[j]? = some x) (hq : q x = false) : DelInv q L L' i (j + 1) := by
  have hj := (List.getElem?_eq_some_iff.1 hx).1
  have hij := h.ij
  refine ⟨h.len, by omega, by omega, ?_, ?_⟩
  · rw [h.head, List.take_add_one, hx]
    simp [hq]
  · have h1 := congrArg (List.drop 1) h.tail
    simpa using h1
theorem DelInv.start {q : It → Bool} {L : List It} {i : Nat} (hi : i < L.length) (hq : ∀ j, j < i → q (L.getD j default) = true) (hqi : q (L.getD i default) = false) : DelInv q L L i (i + 1) := by
  refine ⟨rfl, by omega, by omega, ?_, rfl⟩
  have h1 : (L.take i).filter q = L.take i := by
    rw [List.filter_eq_self]
    intro x hx
    obtain ⟨j, hj, rfl⟩ := List.getElem_of_mem hx
    simp at hj
    have := hq j (by omega)
    simpa [List.getD, show j < L.length by omega] using this
  rw [List.take_add_one, List.filter_append, h1]
  have : L[i]? = some (L.getD i default) := by simp [List.getD, hi]
  rw [this]
  simpa [List.getD] using hqi
theorem DelInv.done {q : It → Bool} {L L' : List It} {i : Nat} (h : DelInv q L L' i L.length) : L'.take i = L.filter q := by
  rw [h.head, List.take_length]

end Go.Proofs.Ytghpiegcmakggaa
