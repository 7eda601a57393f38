/- broker.Broker: what it holds; New, Len, of, Held, back, Nack. -/
import Derived.Test.YtlebhaobfheocaaPop
import Derived.Laws.ResultCell
set_option linter.unusedVariables false
set_option linter.unusedSimpArgs false
namespace Go.Proofs.Ytlebhaobfheocaa
open Go.RowKit Go.Lb Go.Hp

/-- An item: where it lies, what it holds. -/
structure Im where
  p : Nat
  ev : Ev
  cnt : Int
  off : Int
  had : Bool
  wk : Int
  tk : Int
def Im.ptr (x : Im) : Value := .pointer (some ⟨x.p, 0, none⟩)
def Im.vals (x : Im) : List Value := x.ev.vals ++ [.int .i64 x.cnt, .int .i64 x.off, .bool x.had, .int .i64 x.wk, .int .i64 x.tk]
def ptrs (L : List Im) : List Value := L.map Im.ptr

structure BrAt (w : World) (b : Nat) (v : Value) (L : List Im) : Prop where
  blk : Blk w b 55 [v]
  row : w.ownsRow 0 58 1 v L.length (ptrs L)
  its : ∀ x ∈ L, Blk w x.p 60 x.vals
  nd : (L.map Im.p).Nodup
  ne : v.ownBlock ≠ some b
  out : ∀ x ∈ L, x.p ≠ b ∧ v.ownBlock ≠ some x.p
def foot (b : Nat) (v : Value) (L : List Im) : List Nat := b :: v.ownBlock.toList ++ L.map Im.p
/-- A broker, in blocks among F. -/
def BrIs (w : World) (b : Nat) (F : List Nat) (L : List Im) : Prop := ∃ v, BrAt w b v L ∧ ∀ k ∈ foot b v L, k ∈ F ∧ k < w.heap.size
/-- What a call leaves. -/
def BPost (w : World) (b : Nat) (F : List Nat) (L : List Im) (w' : World) : Prop := ∃ F', BrIs w' b F' L ∧ Upd F w w' ∧ ∀ k ∈ F', k ∈ F ∨ w.heap.size ≤ k

theorem own_shape {w : World} {base e k n : Nat} {v : Value} {xs : List Value} (h : w.ownsRow base e k v n xs) : ∃ a c, v = .slice a n c := by
  rcases h.2 with ⟨h1, h0⟩ | ⟨g, c, _, h1, _⟩
  · exact ⟨none, 0, by rw [h1, h0]⟩
  · exact ⟨_, _, h1⟩
theorem BrAt.upd {w w' : World} {b : Nat} {v : Value} {L : List Im} (h : BrAt w b v L) {G : List Nat} (u : Upd G w w') (hF : ∀ k ∈ foot b v L, k ∉ G) : BrAt w' b v L :=
  ⟨u.blk h.blk (hF _ (by simp [foot])), u.row h.row (fun k hk => hF k (by simp [foot, hk])), fun x hx => u.blk (h.its x hx) (hF _ (by simp only [foot, List.mem_append]; exact .inr (List.mem_map.2 ⟨x, hx, rfl⟩))), h.nd, h.ne, h.out⟩
theorem BrAt.any {w w' : World} {b : Nat} {v : Value} {L : List Im} (h : BrAt w b v L) (u : Upd [] w w') : BrAt w' b v L := h.upd u (by simp)
theorem BrIs.upd {w w' : World} {b : Nat} {F : List Nat} {L : List Im} (h : BrIs w b F L) {G : List Nat} (u : Upd G w w') (hF : ∀ k ∈ F, k ∉ G) : BrIs w' b F L := by
  obtain ⟨v, h1, h2⟩ := h
  exact ⟨v, h1.upd u (fun k hk => hF k (h2 k hk).1), fun k hk => ⟨(h2 k hk).1, Nat.lt_of_lt_of_le (h2 k hk).2 u.size⟩⟩
theorem BrIs.any {w w' : World} {b : Nat} {F : List Nat} {L : List Im} (h : BrIs w b F L) (u : Upd [] w w') : BrIs w' b F L := h.upd u (by simp)
theorem BrIs.mem {w : World} {b : Nat} {F : List Nat} {L : List Im} (h : BrIs w b F L) : b ∈ F := by
  obtain ⟨v, _, h2⟩ := h
  exact (h2 b (by simp [foot])).1
theorem BPost.same {w w' : World} {b : Nat} {F : List Nat} {L : List Im} (h : BrIs w b F L) (u : Upd [] w w') : BPost w b F L w' := ⟨F, h.any u, u.mono (by simp), fun k hk => .inl hk⟩

theorem BrAt.isSome {w : World} {b : Nat} {v : Value} {L : List Im} (h : BrAt w b v L) (hn : 0 < L.length) : ∃ s c, v = .slice (some ⟨s, 0, none⟩) L.length c ∧ L.length ≤ c ∧ c ≤ maxLen ∧ s < w.heap.size := by
  rcases h.row.2 with ⟨_, h0⟩ | ⟨g, cap, cur, rfl, _, hg, hnc, hc, _⟩
  · omega
  · exact ⟨g, cap, rfl, hnc, hc, lt_of_block hg⟩
theorem BrAt.cell {w : World} {b s n c : Nat} {L : List Im} (h : BrAt w b (.slice (some ⟨s, 0, none⟩) n c) L) {i : Nat} {x : Im} (hx : L[i]? = some x) : w.cell? ⟨s, i, none⟩ = some x.ptr := by
  have hi := (List.getElem?_eq_some_iff.1 hx).1
  obtain ⟨a, c', e⟩ := own_shape h.row
  obtain ⟨rfl, rfl, rfl⟩ : some (⟨s, 0, none⟩ : Addr) = a ∧ n = L.length ∧ c = c' := by simpa using e
  rw [h.row.cellAt i (by omega)]
  simp [ptrs, hx]

/-- The cells of an item. -/
structure ImAt (w : World) (p : Nat) (j pr st ix cnt off : Int) (had : Bool) (wk tk : Int) : Prop where
  lt : p < w.heap.size
  c0 : w.cell? ⟨p, 0, none⟩ = some (.int .i64 j)
  c1 : w.cell? ⟨p, 1, none⟩ = some (.int .i64 pr)
  c2 : w.cell? ⟨p, 2, none⟩ = some (.int .i64 st)
  c3 : w.cell? ⟨p, 3, none⟩ = some (.int .i64 ix)
  c4 : w.cell? ⟨p, 4, none⟩ = some (.int .i64 cnt)
  c5 : w.cell? ⟨p, 5, none⟩ = some (.int .i64 off)
  c6 : w.cell? ⟨p, 6, none⟩ = some (.bool had)
  c7 : w.cell? ⟨p, 7, none⟩ = some (.int .i64 wk)
  c8 : w.cell? ⟨p, 8, none⟩ = some (.int .i64 tk)
  f : ∀ o, w.frozen? ⟨p, o, none⟩ = false
theorem imAt_of {w : World} {p : Nat} {j pr st ix cnt off : Int} {had : Bool} {wk tk : Int} (h : Blk w p 60 (Im.vals ⟨p, ⟨j, pr, st, ix⟩, cnt, off, had, wk, tk⟩)) : ImAt w p j pr st ix cnt off had wk tk :=
  ⟨h.lt, h.cell rfl, h.cell rfl, h.cell rfl, h.cell rfl, h.cell rfl, h.cell rfl, h.cell rfl, h.cell rfl, h.cell rfl, fun o => h.frozen o⟩
theorem evAt_im {w : World} {x : Im} (h : Blk w x.p 60 x.vals) : EvAt w x.p x.ev := evAt_of h

def isHad (wk : Int) (x : Im) : Bool := x.had && (x.wk == wk)
def ptrOf : Option Im → Value
  | none => .pointer none
  | some x => x.ptr

theorem new_ok (w : World) : Calls Try.prog 7 #[] w fun e w' => ∃ b, e = .returned (.pointer (some ⟨b, 0, none⟩)) ∧ BrIs w' b [b] [] ∧ Upd [] w w' ∧ w.heap.size ≤ b := by
  go_enter Try.func7, Try.ntmps7
  go_wp2_with fail
  go_ret
  exact ⟨w.heap.size, rfl, ⟨.slice none 0 0, ⟨Blk.new w 55 _, World.ownsRow_nil _ _ _ _, by simp, by simp, by simp [Value.ownBlock], by simp⟩, by simp [foot, Value.ownBlock]⟩, (Upd.refl _ _).alloc _, Nat.le_refl _⟩

theorem len_any (b : Nat) (F : List Nat) (L : List Im) (w : World) (h : BrIs w b F L) : Calls Try.prog 11 #[.pointer (some ⟨b, 0, none⟩)] w fun e w' => e = .returned (.int .i64 L.length) ∧ w = w' := by
  obtain ⟨v, h, _⟩ := h
  obtain ⟨a, c, rfl⟩ := own_shape h.row
  have h0 := h.blk.cell (o := 0) rfl
  clear h
  generalize L.length = n at *
  go_enter Try.func11, Try.ntmps11
  go_wp2
  go_ret
  exact ⟨rfl, rfl⟩

set_option maxHeartbeats 1000000 in
theorem of_any (b : Nat) (v : Value) (L : List Im) (wk : Int) (w : World) (h : BrAt w b v L) (hL : L.length ≤ 8796093022207) :
    Calls Try.prog 27 #[.pointer (some ⟨b, 0, none⟩), .int .i64 wk] w fun e w' => e = .returned (ptrOf (L.find? (isHad wk))) ∧ w = w' := by
  obtain ⟨a, c, rfl⟩ := own_shape h.row
  have h0 := h.blk.cell (o := 0) rfl
  have H := Lib.hid h
  clear h
  go_enter Try.func27, Try.ntmps27
  go_wp2_with fail
  go_loopg [12] L.length (fun g u wr => ∃ i : Nat, u = .int .i64 i ∧ i ≤ L.length ∧ g = L.length - i ∧ (∀ x ∈ L.take i, isHad wk x = false) ∧ w = wr)
  case atStart => exact ⟨0, rfl, Nat.zero_le _, rfl, by simp, rfl⟩
  case round =>
    obtain ⟨i, rfl, hi, rfl, hf, rfl⟩ := hrel
    have Hf := Lib.hid hf
    clear hf
    by_cases hlt : i < L.length
    · obtain ⟨⟨p, ⟨j, pr, st, ix⟩, cnt, off, had, wk', tk⟩, hx⟩ : ∃ x, L[i]? = some x := ⟨_, List.getElem?_eq_getElem hlt⟩
      obtain ⟨s, c', e, hlc, hcm, hs⟩ := H.out.isSome (by omega)
      obtain ⟨rfl, rfl⟩ : a = some ⟨s, 0, none⟩ ∧ c = c' := by simpa using e
      have hc := H.out.cell hx
      obtain ⟨i0, _, _, _, _, _, _, i6, i7, _, _⟩ := imAt_of (H.out.its _ (List.mem_of_getElem? hx))
      simp only [Im.ptr] at hc i0 i6 i7
      have Hx := Lib.hid hx
      clear e hx
      have hnext : isHad wk ⟨p, ⟨j, pr, st, ix⟩, cnt, off, had, wk', tk⟩ = false → ∀ x ∈ L.take (i + 1), isHad wk x = false := by
        intro h1 x hx
        rw [take_snoc Hx.out] at hx
        rcases List.mem_append.1 hx with h2 | h2
        · exact Hf.out x h2
        · obtain rfl : x = _ := by simpa using h2
          exact h1
      have hdone : isHad wk ⟨p, ⟨j, pr, st, ix⟩, cnt, off, had, wk', tk⟩ = true → L.find? (isHad wk) = some ⟨p, ⟨j, pr, st, ix⟩, cnt, off, had, wk', tk⟩ := by
        intro h1
        rw [List.find?_eq_some_iff_getElem]
        obtain ⟨h2, h3⟩ := List.getElem?_eq_some_iff.1 Hx.out
        refine ⟨h1, i, h2, h3, fun k hk => ?_⟩
        have := Hf.out L[k] (List.mem_take_iff_getElem.2 ⟨k, by omega, rfl⟩)
        simp [this]
      have Hn := Lib.hid hnext
      have Hd := Lib.hid hdone
      clear hnext hdone
      cases had
      · go_wp2_with fail
        go_roundg (L.length - (i + 1))
        case measure => omega
        case rel => exact ⟨i + 1, by go_num, by omega, rfl, Hn.out (by simp [isHad]), rfl⟩
      · by_cases hw : wk' = wk
        · subst hw
          go_wp2_with fail
          go_ret
          exact ⟨by rw [Hd.out (by simp [isHad])]; rfl, rfl⟩
        · have hwb : (wk' == wk) = false := beq_eq_false_iff_ne.2 hw
          clear hw
          go_wp2_with fail
          go_roundg (L.length - (i + 1))
          case measure => omega
          case rel => exact ⟨i + 1, by go_num, by omega, rfl, Hn.out (by simp [isHad, hwb]), rfl⟩
    · obtain rfl : i = L.length := by omega
      go_wp2_with fail
      go_ret
      refine ⟨?_, rfl⟩
      rw [List.find?_eq_none.2 (fun x hx => by have := Hf.out x (by simpa using hx); simp [this])]
      rfl

def Ev.zero : Ev := ⟨0, 0, 0, 0⟩
theorem find_mem {L : List Im} {wk : Int} {x : Im} (h : L.find? (isHad wk) = some x) : x ∈ L ∧ x.had = true ∧ x.wk = wk := by
  have h1 := List.find?_some h
  simp only [isHad, Bool.and_eq_true, beq_iff_eq] at h1
  exact ⟨List.mem_of_find?_eq_some h, h1⟩

def heldV (o : Option Im) : Value := match o with
  | none => .tuple #[.agg Ev.zero.vals.toArray, .bool false]
  | some x => .tuple #[.agg x.ev.vals.toArray, .bool true]

theorem held_any (b : Nat) (F : List Nat) (L : List Im) (wk : Int) (w : World) (h : BrIs w b F L) (hL : L.length ≤ 8796093022207) :
    Calls Try.prog 21 #[.pointer (some ⟨b, 0, none⟩), .int .i64 wk] w fun e w' => e = .returned (heldV (L.find? (isHad wk))) ∧ Upd [] w w' := by
  obtain ⟨v, h, _⟩ := h
  have H := Lib.hid (h.any ((Upd.refl [] w).alloc (.cells #[.int .i64 0, .int .i64 0, .int .i64 0, .int .i64 0] 26)))
  have hb := h.blk.lt
  have HB := Lib.hid (Blk.new w 26 [.int .i64 0, .int .i64 0, .int .i64 0, .int .i64 0])
  clear h
  go_enter Try.func21, Try.ntmps21
  go_wp2_with fail
  refine (of_any b v L wk _ H.out hL).mono ?_
  rintro e w' ⟨rfl, rfl⟩
  cases hf : L.find? (isHad wk) with
  | none =>
    have Hf := Lib.hid hf
    clear hf
    simp only [ptrOf]
    go_wp2_with fail
    refine bodyPost_ret (v := heldV none) ?_ rfl ⟨by rw [Hf.out], ?_⟩
    · simp [results, Try.results21, go_sem, asAddr, heldV, Ev.zero, Ev.vals, *]
    · exact (Upd.refl [] w).alloc _
  | some x =>
    obtain ⟨p, ⟨j, pr, st, ix⟩, cnt, off, had, wk', tk⟩ := x
    obtain ⟨hm, _⟩ := find_mem hf
    obtain ⟨i0, i1, i2, i3, i4, _⟩ := imAt_of (H.out.its _ hm)
    have Hf := Lib.hid hf
    clear hf hm
    simp only [ptrOf, Im.ptr]
    dsimp only at i0 i1 i2 i3 i4
    go_wp2_with fail
    refine bodyPost_ret (v := heldV (some ⟨p, ⟨j, pr, st, ix⟩, cnt, off, had, wk', tk⟩)) ?_ rfl ⟨by rw [Hf.out], ?_⟩
    · simp [results, Try.results21, go_sem, asAddr, heldV, Ev.vals, *]
    · exact (Upd.refl [] w).alloc _

/-- One item is another now. -/
def setIm (L : List Im) (x : Im) : List Im := L.map fun y => if y.p = x.p then x else y
theorem setIm_len (L : List Im) (x : Im) : (setIm L x).length = L.length := by simp [setIm]
theorem setIm_ptrs (L : List Im) (x : Im) : ptrs (setIm L x) = ptrs L := by
  unfold ptrs setIm
  rw [List.map_map]
  refine List.map_congr_left fun y _ => ?_
  simp only [Function.comp]
  split
  · rename_i h; simp [Im.ptr, h]
  · rfl
theorem setIm_p (L : List Im) (x : Im) : (setIm L x).map Im.p = L.map Im.p := by
  unfold setIm
  rw [List.map_map]
  refine List.map_congr_left fun y _ => ?_
  simp only [Function.comp]
  split
  · rename_i h; exact h.symm
  · rfl
theorem BrAt.set {w w' : World} {b : Nat} {v : Value} {L : List Im} (h : BrAt w b v L) {x : Im} (hx : ∃ y ∈ L, y.p = x.p) (hB : Blk w' x.p 60 x.vals) (u : Upd [x.p] w w') : BrAt w' b v (setIm L x) := by
  obtain ⟨y0, hy0, hp⟩ := hx
  have ho := h.out y0 hy0
  rw [hp] at ho
  refine ⟨u.blk h.blk (by simpa using Ne.symm ho.1), ?_, fun y hy => ?_, by rw [setIm_p]; exact h.nd, h.ne, fun y hy => ?_⟩
  · rw [setIm_len, setIm_ptrs]
    exact u.row h.row (by intro k hk; simp; rintro rfl; exact ho.2 hk)
  · simp only [setIm, List.mem_map] at hy
    obtain ⟨z, hz, rfl⟩ := hy
    split
    · exact hB
    · rename_i hne
      exact u.blk (h.its z hz) (by simpa using hne)
  · simp only [setIm, List.mem_map] at hy
    obtain ⟨z, hz, rfl⟩ := hy
    split
    · exact ho
    · exact h.out z hz
theorem foot_set (b : Nat) (v : Value) (L : List Im) (x : Im) : foot b v (setIm L x) = foot b v L := by unfold foot; rw [setIm_p]
theorem BrAt.in {w : World} {b : Nat} {v : Value} {L : List Im} {F : List Nat} (hF : ∀ k ∈ foot b v L, k ∈ F ∧ k < w.heap.size) {x : Im} (hx : x ∈ L) : x.p ∈ F ∧ x.p < w.heap.size := hF x.p (by simp only [foot, List.mem_append]; exact .inr (List.mem_map.2 ⟨x, hx, rfl⟩))
theorem set_post {w w' : World} {b : Nat} {v : Value} {L : List Im} {F : List Nat} (h : BrAt w b v L) (hF : ∀ k ∈ foot b v L, k ∈ F ∧ k < w.heap.size) {x : Im} (hx : ∃ y ∈ L, y.p = x.p) (hB : Blk w' x.p 60 x.vals) (u : Upd [x.p] w w') : BPost w b F (setIm L x) w' := by
  refine ⟨foot b v L, ⟨v, h.set hx hB u, fun k hk => ?_⟩, u.mono (fun k hk => .inl ?_), fun k hk => .inl (hF k hk).1⟩
  · rw [foot_set] at hk
    exact ⟨hk, Nat.lt_of_lt_of_le (hF k hk).2 u.size⟩
  · obtain ⟨y, hy, e⟩ := hx
    simp only [List.mem_singleton] at hk
    rw [hk, ← e]
    exact (BrAt.in hF hy).1

/-- An item that is put back. -/
def backIm (x : Im) : Im := if 3 ≤ x.cnt then { x with had := false, cnt := 0, off := 6 } else { x with had := false }
theorem backIm_p (x : Im) : (backIm x).p = x.p := by unfold backIm; split <;> rfl
theorem back_any (x : Im) (w : World) (h : Blk w x.p 60 x.vals) : Calls Try.prog 32 #[x.ptr] w fun e w' => e = .returned (.tuple #[]) ∧ Blk w' x.p 60 (backIm x).vals ∧ Upd [x.p] w w' := by
  obtain ⟨p, ⟨j, pr, st, ix⟩, cnt, off, had, wk, tk⟩ := x
  obtain ⟨i0, i1, i2, i3, i4, i5, i6, i7, i8, i9, f⟩ := imAt_of h
  have f6 := f 6
  have f4 := f 4
  have f5 := f 5
  have H := Lib.hid h
  dsimp only at i0
  simp only [Im.ptr]
  clear f h i1 i2 i3 i4 i8 i9
  by_cases hc : 3 ≤ cnt
  · go_enter Try.func32, Try.ntmps32
    go_wp2_with fail
    go_end0
    refine ⟨rfl, ?_, (((Upd.refl _ _).setCell (by simp) _).setCell (by simp) _).setCell (by simp) _⟩
    have := ((H.out.set 6 (.bool false)).set 4 (.int .i64 0)).set 5 (.int .i64 6)
    have e : backIm ⟨p, ⟨j, pr, st, ix⟩, cnt, off, had, wk, tk⟩ = ⟨p, ⟨j, pr, st, ix⟩, 0, 6, false, wk, tk⟩ := by unfold backIm; exact if_pos hc
    rw [e]
    simpa [Im.vals, Ev.vals] using this
  · have hd : decide (3 ≤ cnt) = false := by simpa using hc
    go_enter Try.func32, Try.ntmps32
    go_wp2_with fail
    go_end0
    refine ⟨rfl, ?_, (Upd.refl _ _).setCell (by simp) _⟩
    have := (H.out.set 6 (.bool false))
    have e : backIm ⟨p, ⟨j, pr, st, ix⟩, cnt, off, had, wk, tk⟩ = ⟨p, ⟨j, pr, st, ix⟩, cnt, off, false, wk, tk⟩ := by unfold backIm; exact if_neg (show ¬ (3 ≤ cnt) by omega)
    rw [e]
    simpa [Im.vals, Ev.vals] using this

def nackL (L : List Im) (wk : Int) : List Im := match L.find? (isHad wk) with
  | none => L
  | some x => setIm L (backIm x)
def nackV (L : List Im) (wk : Int) : Value := match L.find? (isHad wk) with
  | none => .int .i64 3
  | some x => .int .i64 0
theorem nack_any (b : Nat) (F : List Nat) (L : List Im) (wk : Int) (w : World) (h : BrIs w b F L) (hL : L.length ≤ 8796093022207) :
    Calls Try.prog 14 #[.pointer (some ⟨b, 0, none⟩), .int .i64 wk] w fun e w' => e = .returned (nackV L wk) ∧ BPost w b F (nackL L wk) w' := by
  have HI := Lib.hid h
  obtain ⟨v, h, hF⟩ := h
  have H := Lib.hid h
  have HF := Lib.hid hF
  clear h hF
  go_enter Try.func14, Try.ntmps14
  go_wp2_with fail
  refine (of_any b v L wk _ H.out hL).mono ?_
  rintro e w' ⟨rfl, rfl⟩
  cases hf : L.find? (isHad wk) with
  | none =>
    have Hf := Lib.hid hf
    clear hf
    simp only [ptrOf]
    go_wp2_with fail
    go_ret
    exact ⟨by simp [nackV, Hf.out], by simp only [nackL, Hf.out]; exact BPost.same HI.out (Upd.refl _ _)⟩
  | some x =>
    have Hf := Lib.hid hf
    have Hm := Lib.hid (find_mem hf).1
    clear hf
    simp only [ptrOf, Im.ptr]
    go_wp2_with fail
    refine (back_any x _ (H.out.its x Hm.out)).mono ?_
    rintro e w1 ⟨rfl, h1, u1⟩
    have HP := Lib.hid (set_post H.out HF.out (x := backIm x) ⟨x, Hm.out, (backIm_p x).symm⟩ (by rw [backIm_p]; exact h1) (by rw [backIm_p]; exact u1))
    clear h1 u1
    go_wp2_with fail
    go_ret
    exact ⟨by simp [nackV, Hf.out], by simp only [nackL, Hf.out]; exact HP.out⟩
end Go.Proofs.Ytlebhaobfheocaa
