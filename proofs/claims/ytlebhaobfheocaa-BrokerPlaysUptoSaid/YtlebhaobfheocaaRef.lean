/- coxswainref15.Broker: what it holds; find, of, Held, Nack, ahead. -/
import Derived.Test.YtlebhaobfheocaaDeed
set_option linter.unusedVariables false
set_option linter.unusedSimpArgs false
namespace Go.Proofs.Ytlebhaobfheocaa
open Go.RowKit Go.Lb Go.Hp

def Rf.vals (x : Rf) : List Value := x.ev.vals ++ [.int .i64 x.cnt, .int .i64 x.off, .bool x.had, .int .i64 x.wk, .int .i64 x.tk]
def rvals (R : List Rf) : List (List Value) := R.map Rf.vals
theorem rvals_len (R : List Rf) : ∀ x ∈ rvals R, x.length = 9 := by
  intro x hx
  obtain ⟨y, _, rfl⟩ := List.mem_map.1 hx
  rfl
structure RbAt (w : World) (r : Nat) (v : Value) (R : List Rf) : Prop where
  blk : Blk w r 51 [v]
  row : w.ownsRow 0 71 9 v R.length (rvals R).flatten
  ne : v.ownBlock ≠ some r
def rfoot (r : Nat) (v : Value) : List Nat := r :: v.ownBlock.toList
def RbIs (w : World) (r : Nat) (F : List Nat) (R : List Rf) : Prop := ∃ v, RbAt w r v R ∧ ∀ k ∈ rfoot r v, k ∈ F ∧ k < w.heap.size
def RbPost (w : World) (r : Nat) (F : List Nat) (R : List Rf) (w' : World) : Prop := ∃ F', RbIs w' r F' R ∧ Upd F w w' ∧ ∀ k ∈ F', k ∈ F ∨ w.heap.size ≤ k
theorem RbAt.upd {w w' : World} {r : Nat} {v : Value} {R : List Rf} (h : RbAt w r v R) {G : List Nat} (u : Upd G w w') (hF : ∀ k ∈ rfoot r v, k ∉ G) : RbAt w' r v R :=
  ⟨u.blk h.blk (hF _ (by simp [rfoot])), u.row h.row (fun k hk => hF k (by simp [rfoot, hk])), h.ne⟩
theorem RbAt.any {w w' : World} {r : Nat} {v : Value} {R : List Rf} (h : RbAt w r v R) (u : Upd [] w w') : RbAt w' r v R := h.upd u (by simp)
theorem RbIs.upd {w w' : World} {r : Nat} {F : List Nat} {R : List Rf} (h : RbIs w r F R) {G : List Nat} (u : Upd G w w') (hF : ∀ k ∈ F, k ∉ G) : RbIs w' r F R := by
  obtain ⟨v, h1, h2⟩ := h
  exact ⟨v, h1.upd u (fun k hk => hF k (h2 k hk).1), fun k hk => ⟨(h2 k hk).1, Nat.lt_of_lt_of_le (h2 k hk).2 u.size⟩⟩
theorem RbIs.any {w w' : World} {r : Nat} {F : List Nat} {R : List Rf} (h : RbIs w r F R) (u : Upd [] w w') : RbIs w' r F R := h.upd u (by simp)
theorem RbPost.same {w w' : World} {r : Nat} {F : List Nat} {R : List Rf} (h : RbIs w r F R) (u : Upd [] w w') : RbPost w r F R w' := ⟨F, h.any u, u.mono (by simp), fun k hk => .inl hk⟩
theorem RbAt.isSome {w : World} {r : Nat} {v : Value} {R : List Rf} (h : RbAt w r v R) (hn : 0 < R.length) : ∃ s c, v = .slice (some ⟨s, 0, none⟩) R.length c ∧ R.length ≤ c ∧ c ≤ maxLen ∧ s < w.heap.size ∧ s ≠ r := by
  rcases h.row.2 with ⟨_, h0⟩ | ⟨g, cap, cur, rfl, _, hg, hnc, hc, _⟩
  · omega
  · exact ⟨g, cap, rfl, hnc, hc, lt_of_block hg, fun e => h.ne (by simp [Value.ownBlock, e])⟩
/-- The cells of the i-th item. -/
structure RcAt (w : World) (s i : Nat) (x : Rf) : Prop where
  rg : w.rangeAt s (i * 9) x.vals
  f : ∀ o, w.frozen? ⟨s, o, none⟩ = false
theorem RbAt.at {w : World} {r s n c : Nat} {R : List Rf} (h : RbAt w r (.slice (some ⟨s, 0, none⟩) n c) R) {i : Nat} {x : Rf} (hx : R[i]? = some x) : RcAt w s i x := by
  obtain ⟨a, c', e⟩ := own_shape h.row
  obtain ⟨rfl, rfl, rfl⟩ : some (⟨s, 0, none⟩ : Addr) = a ∧ n = R.length ∧ c = c' := by simpa using e
  exact ⟨row_range h.row (rvals_len R) (by simp [rvals, hx]), fun o => h.row.frozenAt o⟩
section
variable {w : World} {s i : Nat} {x : Rf}
theorem RcAt.c0 (h : RcAt w s i x) : w.cell? ⟨s, i * 9, none⟩ = some (.int .i64 x.ev.job) := h.rg 0 _ rfl
theorem RcAt.c4 (h : RcAt w s i x) : w.cell? ⟨s, i * 9 + 4, none⟩ = some (.int .i64 x.cnt) := h.rg 4 _ rfl
theorem RcAt.c5 (h : RcAt w s i x) : w.cell? ⟨s, i * 9 + 5, none⟩ = some (.int .i64 x.off) := h.rg 5 _ rfl
theorem RcAt.c6 (h : RcAt w s i x) : w.cell? ⟨s, i * 9 + 6, none⟩ = some (.bool x.had) := h.rg 6 _ rfl
theorem RcAt.c7 (h : RcAt w s i x) : w.cell? ⟨s, i * 9 + 7, none⟩ = some (.int .i64 x.wk) := h.rg 7 _ rfl
theorem RcAt.c8 (h : RcAt w s i x) : w.cell? ⟨s, i * 9 + 8, none⟩ = some (.int .i64 x.tk) := h.rg 8 _ rfl
theorem RcAt.ev (h : RcAt w s i x) : w.rangeAt s (i * 9) x.ev.vals := fun j v hj => h.rg j v (by simp only [Rf.vals]; rw [List.getElem?_append_left (List.getElem?_eq_some_iff.1 hj).1]; exact hj)
end
/-- One cell of the i-th item written anew. -/
theorem row_cell_set {w : World} {s n c : Nat} {xss : List (List Value)} (h : w.ownsRow 0 71 9 (.slice (some ⟨s, 0, none⟩) n c) n xss.flatten) (hl : ∀ x ∈ xss, x.length = 9) {i k : Nat} {x : List Value} (hx : xss[i]? = some x) (hk : k < 9) (u : Value) :
    (w.setCell ⟨s, i * 9 + k, none⟩ u).ownsRow 0 71 9 (.slice (some ⟨s, 0, none⟩) n c) n (xss.set i (x.set k u)).flatten := by
  have := (h.stored (i * 9 + k) u).1
  rwa [flatten_set (k := 9) u xss hl i k x hx hk] at this
theorem RbAt.put {w w' : World} {r s n c : Nat} {R : List Rf} (h : RbAt w r (.slice (some ⟨s, 0, none⟩) n c) R) {i : Nat} {y : Rf} (u : Upd [s] w w') (ho : w'.ownsRow 0 71 9 (.slice (some ⟨s, 0, none⟩) n c) n ((rvals R).set i y.vals).flatten) : RbAt w' r (.slice (some ⟨s, 0, none⟩) n c) (R.set i y) := by
  obtain ⟨a, c', e⟩ := own_shape h.row
  obtain ⟨rfl, rfl, rfl⟩ : some (⟨s, 0, none⟩ : Addr) = a ∧ n = R.length ∧ c = c' := by simpa using e
  have hs : r ≠ s := fun e => h.ne (by simp [Value.ownBlock, e])
  refine ⟨u.blk h.blk (by simpa using hs), ?_, h.ne⟩
  simpa [rvals, List.map_set] using ho

def IdxR (p : Rf → Bool) (R : List Rf) (r : Int) : Prop := (r = -1 ∧ ∀ x ∈ R, p x = false) ∨ ∃ (i : Nat) (x : Rf), r = i ∧ R[i]? = some x ∧ p x = true ∧ ∀ j y, j < i → R[j]? = some y → p y = false
theorem IdxR.any {p : Rf → Bool} {R : List Rf} {r : Int} (h : IdxR p R r) : R.any p = decide (0 ≤ r) := by
  rcases h with ⟨rfl, h⟩ | ⟨i, x, rfl, h1, h2, _⟩
  · rw [List.any_eq_false.2 (fun x hx => by rw [h x hx]; simp)]; rfl
  · rw [List.any_eq_true.2 ⟨x, List.mem_of_getElem? h1, h2⟩]; simp
theorem idx_split {p : Rf → Bool} {R : List Rf} {i : Nat} {x : Rf} (hx : R[i]? = some x) (hb : ∀ j y, j < i → R[j]? = some y → p y = false) : R = R.take i ++ x :: R.drop (i + 1) ∧ ∀ a ∈ R.take i, p a = false := by
  obtain ⟨hi, hx'⟩ := List.getElem?_eq_some_iff.1 hx
  refine ⟨by rw [← hx', ← List.drop_eq_getElem_cons hi, List.take_append_drop], fun a ha => ?_⟩
  obtain ⟨k, hk, rfl⟩ := List.getElem_of_mem ha
  simp at hk
  exact hb k _ (by omega) (by simp)
theorem IdxR.up {p : Rf → Bool} {f : Rf → Rf} {R : List Rf} {i : Nat} {x : Rf} (hx : R[i]? = some x) (hp : p x = true) (hb : ∀ j y, j < i → R[j]? = some y → p y = false) : upFirst p f R = R.set i (f x) := by
  obtain ⟨h1, h2⟩ := idx_split hx hb
  have h3 := (set_split hx (f x)).2
  rw [h3]
  conv => lhs; rw [h1]
  exact upFirst_mid h2 hp
theorem IdxR.find {p : Rf → Bool} {R : List Rf} {r : Int} (h : IdxR p R r) : (r = -1 ∧ R.find? p = none) ∨ ∃ (i : Nat) (x : Rf), r = i ∧ R[i]? = some x ∧ R.find? p = some x := by
  rcases h with ⟨rfl, h⟩ | ⟨i, x, rfl, h1, h2, h3⟩
  · exact .inl ⟨rfl, List.find?_eq_none.2 (fun x hx => by rw [h x hx]; simp)⟩
  · refine .inr ⟨i, x, rfl, h1, ?_⟩
    obtain ⟨hi, hx⟩ := List.getElem?_eq_some_iff.1 h1
    rw [List.find?_eq_some_iff_getElem]
    exact ⟨h2, i, hi, hx, fun j hj => by have h4 := h3 j R[j] hj (List.getElem?_eq_getElem (by omega)); simp [h4]⟩

set_option maxHeartbeats 1000000 in
theorem rfind (r : Nat) (v : Value) (R : List Rf) (k : Int) (w : World) (h : RbAt w r v R) (hL : R.length ≤ 1073741823) :
    Calls Try.prog 33 #[.pointer (some ⟨r, 0, none⟩), .int .i64 k] w fun e w' => ∃ z : Int, e = .returned (.int .i64 z) ∧ IdxR (rJob k) R z ∧ w = w' := by
  obtain ⟨a, c, rfl⟩ := own_shape h.row
  have h0 := h.blk.cell (o := 0) rfl
  have H := Lib.hid h
  clear h
  go_enter Try.func33, Try.ntmps33
  go_wp2_with fail
  go_loopg [5] R.length (fun g u wr => ∃ i : Nat, u = .int .i64 i ∧ i ≤ R.length ∧ g = R.length - i ∧ (∀ j y, j < i → R[j]? = some y → rJob k y = false) ∧ w = wr)
  case atStart => exact ⟨0, rfl, Nat.zero_le _, rfl, fun j y hj => by omega, rfl⟩
  case round =>
    obtain ⟨i, rfl, hi, rfl, hf, rfl⟩ := hrel
    have Hf := Lib.hid hf
    clear hf
    by_cases hlt : i < R.length
    · obtain ⟨x, hx⟩ : ∃ x, R[i]? = some x := ⟨_, List.getElem?_eq_getElem hlt⟩
      obtain ⟨s, c', e, hlc, hcm, hs, _⟩ := H.out.isSome (by omega)
      obtain ⟨rfl, rfl⟩ : a = some ⟨s, 0, none⟩ ∧ c = c' := by simpa using e
      have hc := H.out.at hx
      have k0 := hc.c0
      have Hx := Lib.hid hx
      clear e hx hc
      unfold maxLen at hcm
      have hnext : rJob k x = false → ∀ j y, j < i + 1 → R[j]? = some y → rJob k y = false := fun h1 j y hj hy => by
        by_cases e : j = i
        · subst e
          obtain rfl : x = y := by have := Hx.out.symm.trans hy; simpa using this
          exact h1
        · exact Hf.out j y (by omega) hy
      have Hn := Lib.hid hnext
      clear hnext
      obtain ⟨⟨xj, xp, xs, xi⟩, xc, xo, xh, xw, xt⟩ := x
      dsimp only at k0
      by_cases hj : xj = k
      · subst hj
        go_wp2_with fail
        go_ret
        exact ⟨i, rfl, .inr ⟨i, _, rfl, Hx.out, by simp [rJob], Hf.out⟩, rfl⟩
      · have d0 : (xj == k) = false := beq_eq_false_iff_ne.2 hj
        clear hj
        go_wp2_with fail
        go_roundg (R.length - (i + 1))
        case measure => omega
        case rel => exact ⟨i + 1, by go_num, by omega, rfl, Hn.out (by simp [rJob, d0]), rfl⟩
    · obtain rfl : i = R.length := by omega
      go_wp2_with fail
      go_ret
      refine ⟨-1, rfl, .inl ⟨rfl, fun x hx => ?_⟩, rfl⟩
      obtain ⟨j, hj, rfl⟩ := List.getElem_of_mem hx
      exact Hf.out j _ hj (by simp)

set_option maxHeartbeats 1000000 in
theorem rof (r : Nat) (v : Value) (R : List Rf) (k : Int) (w : World) (h : RbAt w r v R) (hL : R.length ≤ 1073741823) :
    Calls Try.prog 34 #[.pointer (some ⟨r, 0, none⟩), .int .i64 k] w fun e w' => ∃ z : Int, e = .returned (.int .i64 z) ∧ IdxR (rHad k) R z ∧ w = w' := by
  obtain ⟨a, c, rfl⟩ := own_shape h.row
  have h0 := h.blk.cell (o := 0) rfl
  have H := Lib.hid h
  clear h
  go_enter Try.func34, Try.ntmps34
  go_wp2_with fail
  go_loopg [5] R.length (fun g u wr => ∃ i : Nat, u = .int .i64 i ∧ i ≤ R.length ∧ g = R.length - i ∧ (∀ j y, j < i → R[j]? = some y → rHad k y = false) ∧ w = wr)
  case atStart => exact ⟨0, rfl, Nat.zero_le _, rfl, fun j y hj => by omega, rfl⟩
  case round =>
    obtain ⟨i, rfl, hi, rfl, hf, rfl⟩ := hrel
    have Hf := Lib.hid hf
    clear hf
    by_cases hlt : i < R.length
    · obtain ⟨x, hx⟩ : ∃ x, R[i]? = some x := ⟨_, List.getElem?_eq_getElem hlt⟩
      obtain ⟨s, c', e, hlc, hcm, hs, _⟩ := H.out.isSome (by omega)
      obtain ⟨rfl, rfl⟩ : a = some ⟨s, 0, none⟩ ∧ c = c' := by simpa using e
      have hc := H.out.at hx
      have k6 := hc.c6
      have k7 := hc.c7
      have Hx := Lib.hid hx
      clear e hx hc
      unfold maxLen at hcm
      have hnext : rHad k x = false → ∀ j y, j < i + 1 → R[j]? = some y → rHad k y = false := fun h1 j y hj hy => by
        by_cases e : j = i
        · subst e
          obtain rfl : x = y := by have := Hx.out.symm.trans hy; simpa using this
          exact h1
        · exact Hf.out j y (by omega) hy
      have Hn := Lib.hid hnext
      clear hnext
      obtain ⟨⟨xj, xp, xs, xi⟩, xc, xo, xh, xw, xt⟩ := x
      dsimp only at k6 k7
      cases xh
      · go_wp2_with fail
        go_roundg (R.length - (i + 1))
        case measure => omega
        case rel => exact ⟨i + 1, by go_num, by omega, rfl, Hn.out (by simp [rHad]), rfl⟩
      · by_cases hj : xw = k
        · subst hj
          go_wp2_with fail
          go_ret
          exact ⟨i, rfl, .inr ⟨i, _, rfl, Hx.out, by simp [rHad], Hf.out⟩, rfl⟩
        · have d0 : (xw == k) = false := beq_eq_false_iff_ne.2 hj
          clear hj
          go_wp2_with fail
          go_roundg (R.length - (i + 1))
          case measure => omega
          case rel => exact ⟨i + 1, by go_num, by omega, rfl, Hn.out (by simp [rHad, d0]), rfl⟩
    · obtain rfl : i = R.length := by omega
      go_wp2_with fail
      go_ret
      refine ⟨-1, rfl, .inl ⟨rfl, fun x hx => ?_⟩, rfl⟩
      obtain ⟨j, hj, rfl⟩ := List.getElem_of_mem hx
      exact Hf.out j _ hj (by simp)

theorem ahead_ref (x y : Ev) (w : World) : Calls Try.prog 35 #[.agg x.vals.toArray, .agg y.vals.toArray] w fun e w' => e = .returned (.bool (x.ls y)) ∧ Upd [] w w' := by
  obtain ⟨xj, xp, xs, xi⟩ := x
  obtain ⟨yj, yp, ys, yi⟩ := y
  simp only [Ev.vals]
  by_cases h1 : xp = yp
  · subst h1
    by_cases h2 : xi = yi
    · subst h2
      go_enter Try.func35, Try.ntmps35
      go_wp2_with fail
      go_ret
      exact ⟨by simp [Ev.ls], ((Upd.refl _ _).alloc _).alloc _⟩
    · have d2 : (xi == yi) = false := beq_eq_false_iff_ne.2 h2
      have H2 := Lib.hid h2
      clear h2
      go_enter Try.func35, Try.ntmps35
      go_wp2_with fail
      go_ret
      exact ⟨by simp [Ev.ls, H2.out], ((Upd.refl _ _).alloc _).alloc _⟩
  · have d1 : (xp == yp) = false := beq_eq_false_iff_ne.2 h1
    have H1 := Lib.hid h1
    clear h1
    go_enter Try.func35, Try.ntmps35
    go_wp2_with fail
    go_ret
    exact ⟨by simp [Ev.ls, H1.out], ((Upd.refl _ _).alloc _).alloc _⟩

set_option maxRecDepth 20000 in
set_option maxHeartbeats 1000000 in
theorem held_ref (r : Nat) (F : List Nat) (R : List Rf) (wk : Int) (w : World) (h : RbIs w r F R) (hL : R.length ≤ 1073741822) :
    Calls Try.prog 22 #[.pointer (some ⟨r, 0, none⟩), .int .i64 wk] w fun e w' => e = .returned (deqV ((R.find? (rHad wk)).map Rf.ev)) ∧ Upd [] w w' := by
  obtain ⟨v, h, _⟩ := h
  have u0 : Upd [] w (w.alloc (.cells #[.int .i64 0, .int .i64 0, .int .i64 0, .int .i64 0] 26)) := (Upd.refl _ _).alloc _
  have H := Lib.hid (h.any u0)
  have HR := Lib.hid (Blk.new w 26 Ev.zero.vals)
  have HU := Lib.hid u0
  have hlr := h.blk.lt
  have hbz := build26z
  clear h u0
  go_enter Try.func22, Try.ntmps22
  go_wp2_with fail
  refine (rof r v R wk _ H.out (by omega)).mono ?_
  rintro e w' ⟨z, rfl, hz, rfl⟩
  rcases hz.find with ⟨rfl, hf⟩ | ⟨i, x, rfl, hx, hf⟩
  · have Hf := Lib.hid hf
    clear hf hz
    go_wp2_with (refine wpList_store_blk (o := ⟨none, .store 26 (.tmp 4) (.tmp 12), _, _, _, _⟩) rfl 26 (.tmp 4) (.tmp 12) rfl w.heap.size Ev.zero.vals rfl rfl HR.out Try.size26 rfl (Ev.one _) ?_; intro w3 hb3 hu3)
    have hl := run_loadVar_blk (P := Try.prog) hb3 26 _ Try.underlying26 rfl (by exact Try.size26)
    refine bodyPost_ret (v := deqV none) ?_ rfl ⟨by rw [Hf.out]; rfl, ?_⟩
    · rw [results_cell_tmp Try.results22]; simp [asAddr, hl, deqV]
    · exact HU.out.trans hu3 (by simp)
  · have hil := (List.getElem?_eq_some_iff.1 hx).1
    obtain ⟨s, c, rfl, hlc, hcm, hs, _⟩ := H.out.isSome (by omega)
    have h0 := H.out.blk.cell (o := 0) rfl
    have hrg := (H.out.at hx).ev
    have Hrg := Lib.hid hrg
    have Hf := Lib.hid hf
    unfold maxLen at hcm
    clear hf hz hx hrg
    go_wp2_with (first | (refine wpList_load_mid rfl 26 (.tmp 19) rfl s (i * 9) rfl x.ev.vals _ Hrg.out Try.underlying26 rfl Try.size26 ?_) | (refine wpList_store_blk (o := ⟨none, .store 26 (.tmp 4) (.tmp 20), _, _, _, _⟩) rfl 26 (.tmp 4) (.tmp 20) rfl w.heap.size x.ev.vals rfl rfl HR.out Try.size26 rfl (Ev.one _) ?_; intro w3 hb3 hu3))
    have hl := run_loadVar_blk (P := Try.prog) hb3 26 _ Try.underlying26 rfl (by exact Try.size26)
    refine bodyPost_ret (v := deqV (some x.ev)) ?_ rfl ⟨by rw [Hf.out]; rfl, ?_⟩
    · rw [results_cell_tmp Try.results22]; simp [asAddr, hl, deqV]
    · exact HU.out.trans hu3 (by simp)

theorem rb_post {w w' : World} {r s n c : Nat} {F : List Nat} {R' : List Rf} (hF : ∀ k ∈ rfoot r (.slice (some ⟨s, 0, none⟩) n c), k ∈ F ∧ k < w.heap.size) (h : RbAt w' r (.slice (some ⟨s, 0, none⟩) n c) R') (u : Upd [s] w w') : RbPost w r F R' w' :=
  ⟨rfoot r (.slice (some ⟨s, 0, none⟩) n c), ⟨_, h, fun k hk => ⟨hk, Nat.lt_of_lt_of_le (hF k hk).2 u.size⟩⟩, u.mono (fun k hk => .inl (by simp at hk; subst hk; exact (hF _ (by simp [rfoot, Value.ownBlock])).1)), fun k hk => .inl (hF k hk).1⟩

set_option maxHeartbeats 1000000 in
theorem nack_ref' (r : Nat) (F : List Nat) (R : List Rf) (wk rv : Int) (w : World) (h : RbIs w r F R) (hL : R.length ≤ 1073741822) (hrv : (if R.any (rHad wk) then (0 : Int) else 3) = rv) :
    Calls Try.prog 19 #[.pointer (some ⟨r, 0, none⟩), .int .i64 wk] w fun e w' => e = .returned (.int .i64 rv) ∧ RbPost w r F (rNack R wk) w' := by
  have HI := Lib.hid h
  have Hrv := Lib.hid hrv
  clear hrv
  obtain ⟨v, h, hF⟩ := h
  have H := Lib.hid h
  have HF := Lib.hid hF
  clear h hF
  go_enter Try.func19, Try.ntmps19
  go_wp2_with fail
  refine (rof r v R wk _ H.out (by omega)).mono ?_
  rintro e w' ⟨z, rfl, hz, rfl⟩
  have hany := hz.any
  rcases hz with ⟨rfl, hall⟩ | ⟨i, x, rfl, hx, hp, hb⟩
  · have Hall := Lib.hid hall
    have Hany := Lib.hid hany
    clear hall hany
    go_wp2_with fail
    go_ret
    refine ⟨by rw [← Hrv.out, Hany.out]; rfl, ?_⟩
    unfold rNack
    rw [upFirst_none Hall.out]
    exact RbPost.same HI.out (Upd.refl _ _)
  · have hil := (List.getElem?_eq_some_iff.1 hx).1
    obtain ⟨s, c, rfl, hlc, hcm, hs, hsr⟩ := H.out.isSome (by omega)
    have h0 := H.out.blk.cell (o := 0) rfl
    have hc := H.out.at hx
    have k4 := hc.c4
    have k5 := hc.c5
    have k6 := hc.c6
    have f4 := hc.f (i * 9 + 4)
    have f5 := hc.f (i * 9 + 5)
    have f6 := hc.f (i * 9 + 6)
    have hrw : rNack R wk = R.set i (rBack x) := IdxR.up hx hp hb
    have Hrw := Lib.hid hrw
    have Hany := Lib.hid (show R.any (rHad wk) = true by rw [hany]; simp)
    have hxv : (rvals R)[i]? = some x.vals := by simp [rvals, hx]
    have Hxv := Lib.hid hxv
    have hrs : r ≠ s := fun e => hsr e.symm
    unfold maxLen at hcm
    clear hc hx hp hb hrw hany hxv
    obtain ⟨⟨xj, xp, xs, xi⟩, xc, xo, xh, xw, xt⟩ := x
    dsimp only at k4 k5 k6
    have hiv : i < (rvals R).length := by simp [rvals]; omega
    have r1 := row_cell_set H.out.row (rvals_len R) Hxv.out (show 6 < 9 by omega) (.bool false)
    by_cases hc3 : 3 ≤ xc
    · have l1 : ∀ y ∈ (rvals R).set i ((Rf.vals ⟨⟨xj, xp, xs, xi⟩, xc, xo, xh, xw, xt⟩).set 6 (.bool false)), y.length = 9 := fun y hy => by
        rcases List.mem_or_eq_of_mem_set hy with h | rfl
        · exact rvals_len R y h
        · rfl
      have r2 := row_cell_set r1 l1 (i := i) (k := 4) (x := (Rf.vals ⟨⟨xj, xp, xs, xi⟩, xc, xo, xh, xw, xt⟩).set 6 (.bool false)) (by simp [hiv]) (by omega) (.int .i64 0)
      have l2 : ∀ y ∈ ((rvals R).set i ((Rf.vals ⟨⟨xj, xp, xs, xi⟩, xc, xo, xh, xw, xt⟩).set 6 (.bool false))).set i (((Rf.vals ⟨⟨xj, xp, xs, xi⟩, xc, xo, xh, xw, xt⟩).set 6 (.bool false)).set 4 (.int .i64 0)), y.length = 9 := fun y hy => by
        rcases List.mem_or_eq_of_mem_set hy with h | rfl
        · exact l1 y h
        · rfl
      have r3 := row_cell_set r2 l2 (i := i) (k := 5) (x := ((Rf.vals ⟨⟨xj, xp, xs, xi⟩, xc, xo, xh, xw, xt⟩).set 6 (.bool false)).set 4 (.int .i64 0)) (by simp [hiv]) (by omega) (.int .i64 6)
      rw [List.set_set, List.set_set] at r3
      have R3 := Lib.hid r3
      clear r1 r2 r3 l1 l2
      go_wp2_with fail
      go_ret
      refine ⟨by rw [← Hrv.out, Hany.out]; rfl, ?_⟩
      rw [Hrw.out]
      have e : rBack ⟨⟨xj, xp, xs, xi⟩, xc, xo, xh, xw, xt⟩ = ⟨⟨xj, xp, xs, xi⟩, 0, 6, false, xw, xt⟩ := by unfold rBack; exact if_pos hc3
      rw [e]
      have u : Upd [s] w (((w.setCell ⟨s, i * 9 + 6, none⟩ (.bool false)).setCell ⟨s, i * 9 + 4, none⟩ (.int .i64 0)).setCell ⟨s, i * 9 + 5, none⟩ (.int .i64 6)) := (((Upd.refl _ _).setCell (by simp) _).setCell (by simp) _).setCell (by simp) _
      exact rb_post HF.out (H.out.put (y := ⟨⟨xj, xp, xs, xi⟩, 0, 6, false, xw, xt⟩) u R3.out) u
    · have hd : decide (3 ≤ xc) = false := by simpa using hc3
      have R1 := Lib.hid r1
      clear r1
      go_wp2_with fail
      go_ret
      refine ⟨by rw [← Hrv.out, Hany.out]; rfl, ?_⟩
      rw [Hrw.out]
      have e : rBack ⟨⟨xj, xp, xs, xi⟩, xc, xo, xh, xw, xt⟩ = ⟨⟨xj, xp, xs, xi⟩, xc, xo, false, xw, xt⟩ := by unfold rBack; exact if_neg (show ¬ (3 ≤ xc) by omega)
      rw [e]
      have u : Upd [s] w (w.setCell ⟨s, i * 9 + 6, none⟩ (.bool false)) := (Upd.refl _ _).setCell (by simp) _
      exact rb_post HF.out (H.out.put (y := ⟨⟨xj, xp, xs, xi⟩, xc, xo, false, xw, xt⟩) u R1.out) u
theorem nack_ref (r : Nat) (F : List Nat) (R : List Rf) (wk : Int) (w : World) (h : RbIs w r F R) (hL : R.length ≤ 1073741822) :
    Calls Try.prog 19 #[.pointer (some ⟨r, 0, none⟩), .int .i64 wk] w fun e w' => e = .returned (.int .i64 (if R.any (rHad wk) then 0 else 3)) ∧ RbPost w r F (rNack R wk) w' := nack_ref' r F R wk _ w h hL rfl
end Go.Proofs.Ytlebhaobfheocaa
