/- The broker's items without their places: what each call does to them, as functions; the contracts in these terms. -/
import Derived.Test.YtlebhaobfheocaaUpdW
set_option linter.unusedVariables false
set_option linter.unusedSimpArgs false
namespace Go.Proofs.Ytlebhaobfheocaa
open Go.RowKit Go.Lb Go.Hp

structure Rf where
  ev : Ev
  cnt : Int
  off : Int
  had : Bool
  wk : Int
  tk : Int
  deriving DecidableEq
def strip (x : Im) : Rf := ⟨x.ev, x.cnt, x.off, x.had, x.wk, x.tk⟩
def rNew (e : Ev) : Rf := ⟨e, 0, 0, false, 0, 0⟩
def rJob (j : Int) (x : Rf) : Bool := x.ev.job == j
def rHad (wk : Int) (x : Rf) : Bool := x.had && (x.wk == wk)
def rElig (x : Rf) : Bool := !x.had && decide (x.off = 0)
def rBack (x : Rf) : Rf := if 3 ≤ x.cnt then { x with had := false, cnt := 0, off := 6 } else { x with had := false }
def rDq (wk : Int) (x : Rf) : Rf := { x with had := true, wk := wk, tk := 0, cnt := x.cnt + 1 }
def rT1 (x : Rf) : Rf := { x with off := max 0 (x.off - 1), tk := if x.had then x.tk + 1 else x.tk }
def rT2 (x : Rf) : Rf := if x.had && decide (12 ≤ x.tk) then rBack x else x
/-- The first that is so, changed. -/
def upFirst (p : Rf → Bool) (f : Rf → Rf) : List Rf → List Rf
  | [] => []
  | x :: r => if p x then f x :: r else x :: upFirst p f r
theorem upFirst_mid {p : Rf → Bool} {f : Rf → Rf} {x : Rf} {B : List Rf} : ∀ {A : List Rf}, (∀ a ∈ A, p a = false) → p x = true → upFirst p f (A ++ x :: B) = A ++ f x :: B
  | [], _, h => by simp [upFirst, h]
  | a :: A, hA, h => by
    simp only [List.cons_append, upFirst, hA a (by simp), Bool.false_eq_true, if_false]
    rw [upFirst_mid (fun b hb => hA b (by simp [hb])) h]
theorem upFirst_none {p : Rf → Bool} {f : Rf → Rf} : ∀ {A : List Rf}, (∀ a ∈ A, p a = false) → upFirst p f A = A
  | [], _ => rfl
  | a :: A, hA => by
    simp only [upFirst, hA a (by simp), Bool.false_eq_true, if_false]
    rw [upFirst_none (fun b hb => hA b (by simp [hb]))]
def rPut (e : Ev) (x : Rf) : Rf := if x.had then x else { x with ev := e }
def u1 (R : List Rf) (e : Ev) : List Rf := if e.st = 1 then (if R.any (rJob e.job) then upFirst (rJob e.job) (rPut e) R else R ++ [rNew e]) else R
def rUpd (R : List Rf) (es : List Ev) : List Rf := (es.foldl u1 R).filter fun x => !(!x.had && !pend es x.ev.job)
def rAck (R : List Rf) (wk : Int) : List Rf := R.eraseP (rHad wk)
def rNack (R : List Rf) (wk : Int) : List Rf := upFirst (rHad wk) rBack R
def rTick (R : List Rf) : List Rf := (R.map rT1).map rT2
/-- The place of the least of the first i. -/
def best (R : List Rf) : Nat → Option Nat
  | 0 => none
  | i + 1 => match R[i]? with
    | none => best R i
    | some x => if rElig x then (match best R i with
      | none => some i
      | some k => if (match R[k]? with | some y => x.ev.ls y.ev | none => false) then some i else some k) else best R i
def rDeq (R : List Rf) (wk : Int) : Option Ev × List Rf :=
  if R.any (rHad wk) then (none, R) else match best R R.length with
    | none => (none, R)
    | some k => match R[k]? with
      | none => (none, R)
      | some x => (some x.ev, R.set k (rDq wk x))

theorem ls_trans' {x y z : Ev} (h1 : y.ls x = false) (h2 : z.ls y = false) : z.ls x = false := by
  rw [ls_iff'] at *; omega
theorem ls_irrefl (x : Ev) : x.ls x = false := by rw [ls_iff']; omega
theorem ls_asymm {x y : Ev} (h : x.ls y = true) : y.ls x = false := by
  rw [ls_iff] at h; rw [ls_iff']; omega
theorem ls_job {x y : Ev} (h1 : x.ls y = false) (h2 : y.ls x = false) : x.job = y.job := by
  rw [ls_iff'] at h1 h2; omega

/-- What best tells. -/
theorem best_spec (R : List Rf) : ∀ i, (best R i = none ∧ ∀ j y, j < i → R[j]? = some y → rElig y = false) ∨
    ∃ k x, best R i = some k ∧ k < i ∧ R[k]? = some x ∧ rElig x = true ∧ ∀ j y, j < i → R[j]? = some y → rElig y = true → y.ev.ls x.ev = false
  | 0 => .inl ⟨rfl, fun j y hj => by omega⟩
  | i + 1 => by
    have ih := best_spec R i
    cases hx : R[i]? with
    | none =>
      have e : best R (i + 1) = best R i := by simp only [best, hx]
      rw [e]
      rcases ih with ⟨h1, h2⟩ | ⟨k, x, h1, h2, h3, h4, h5⟩
      · refine .inl ⟨h1, fun j y hj hy => ?_⟩
        by_cases hji : j = i
        · subst hji; rw [hx] at hy; cases hy
        · exact h2 j y (by omega) hy
      · refine .inr ⟨k, x, h1, by omega, h3, h4, fun j y hj hy he => ?_⟩
        by_cases hji : j = i
        · subst hji; rw [hx] at hy; cases hy
        · exact h5 j y (by omega) hy he
    | some z =>
      cases hz : rElig z with
      | false =>
        have e : best R (i + 1) = best R i := by simp [best, hx, hz]
        rw [e]
        rcases ih with ⟨h1, h2⟩ | ⟨k, x, h1, h2, h3, h4, h5⟩
        · refine .inl ⟨h1, fun j y hj hy => ?_⟩
          by_cases hji : j = i
          · subst hji; rw [hx] at hy; cases hy; exact hz
          · exact h2 j y (by omega) hy
        · refine .inr ⟨k, x, h1, by omega, h3, h4, fun j y hj hy he => ?_⟩
          by_cases hji : j = i
          · subst hji; rw [hx] at hy; cases hy; rw [hz] at he; cases he
          · exact h5 j y (by omega) hy he
      | true =>
        rcases ih with ⟨h1, h2⟩ | ⟨k, x, h1, h2, h3, h4, h5⟩
        · refine .inr ⟨i, z, by simp [best, hx, hz, h1], by omega, hx, hz, fun j y hj hy he => ?_⟩
          by_cases hji : j = i
          · subst hji; rw [hx] at hy; cases hy; exact ls_irrefl _
          · have := h2 j y (by omega) hy; rw [this] at he; cases he
        · cases hl : z.ev.ls x.ev with
          | true =>
            refine .inr ⟨i, z, by simp [best, hx, hz, h1, h3, hl], by omega, hx, hz, fun j y hj hy he => ?_⟩
            by_cases hji : j = i
            · subst hji; rw [hx] at hy; cases hy; exact ls_irrefl _
            · exact ls_trans' (ls_asymm hl) (h5 j y (by omega) hy he)
          | false =>
            refine .inr ⟨k, x, by simp [best, hx, hz, h1, h3, hl], by omega, h3, h4, fun j y hj hy he => ?_⟩
            by_cases hji : j = i
            · subst hji; rw [hx] at hy; cases hy; exact hl
            · exact h5 j y (by omega) hy he

/-- No job twice. -/
def JD (R : List Rf) : Prop := (R.map fun x => x.ev.job).Nodup
theorem JD.eq {R : List Rf} (h : JD R) {i j : Nat} {x y : Rf} (hx : R[i]? = some x) (hy : R[j]? = some y) (he : x.ev.job = y.ev.job) : i = j := by
  obtain ⟨hi, hx⟩ := List.getElem?_eq_some_iff.1 hx
  obtain ⟨hj, hy⟩ := List.getElem?_eq_some_iff.1 hy
  have hp := List.pairwise_iff_getElem.1 h
  rcases Nat.lt_trichotomy i j with hlt | rfl | hlt
  · exact absurd (by rw [List.getElem_map, List.getElem_map, hx, hy]; exact he) (hp i j (by simpa using hi) (by simpa using hj) hlt)
  · rfl
  · exact absurd (by rw [List.getElem_map, List.getElem_map, hx, hy]; exact he.symm) (hp j i (by simpa using hj) (by simpa using hi) hlt)

theorem had_strip (wk : Int) (x : Im) : rHad wk (strip x) = isHad wk x := rfl
theorem elig_strip (x : Im) : rElig (strip x) = elig x := rfl
theorem back_strip (x : Im) : strip (backIm x) = rBack (strip x) := by
  unfold backIm rBack strip
  dsimp only
  split <;> rfl
theorem any_find {α : Type} (p : α → Bool) (L : List α) : L.any p = (L.find? p).isSome := by
  induction L with
  | nil => rfl
  | cons x r ih =>
    simp only [List.any_cons, List.find?_cons]
    cases p x <;> simp [ih]
theorem any_strip (wk : Int) (L : List Im) : (L.map strip).any (rHad wk) = (L.find? (isHad wk)).isSome := by
  rw [← any_find, List.any_map]
  rfl
theorem find_split {L : List Im} {p : Im → Bool} {x : Im} (h : L.find? p = some x) : ∃ A B, L = A ++ x :: B ∧ p x = true ∧ ∀ a ∈ A, p a = false := by
  obtain ⟨h1, A, B, h2, h3⟩ := List.find?_eq_some_iff_append.1 h
  exact ⟨A, B, h2, h1, fun a ha => by simpa using h3 a ha⟩
theorem setIm_mid {A B : List Im} {x y : Im} (hnd : ((A ++ x :: B).map Im.p).Nodup) (hp : x.p = y.p) : setIm (A ++ x :: B) y = A ++ y :: B := by
  rw [setIm_at (i := A.length) (x := x) hnd (by simp) hp]
  simp

theorem nack_strip {L : List Im} (hnd : (L.map Im.p).Nodup) (wk : Int) : (nackL L wk).map strip = rNack (L.map strip) wk := by
  unfold nackL rNack
  cases h : L.find? (isHad wk) with
  | none =>
    rw [upFirst_none]
    intro a ha
    obtain ⟨x, hx, rfl⟩ := List.mem_map.1 ha
    have := List.find?_eq_none.1 h x hx
    simpa [had_strip] using this
  | some x =>
    obtain ⟨A, B, rfl, h1, h2⟩ := find_split h
    simp only
    rw [setIm_mid hnd (backIm_p x).symm]
    simp only [List.map_append, List.map_cons]
    rw [upFirst_mid (by
      intro a ha
      obtain ⟨y, hy, rfl⟩ := List.mem_map.1 ha
      exact h2 y hy) h1, back_strip]
theorem ack_strip {L : List Im} (hnd : (L.map Im.p).Nodup) (wk : Int) : (ackL L wk).map strip = rAck (L.map strip) wk := by
  unfold ackL rAck
  cases h : L.find? (isHad wk) with
  | none =>
    rw [List.eraseP_of_forall_not]
    intro a ha
    obtain ⟨x, hx, rfl⟩ := List.mem_map.1 ha
    have := List.find?_eq_none.1 h x hx
    simpa [had_strip] using this
  | some x =>
    obtain ⟨A, B, rfl, h1, h2⟩ := find_split h
    simp only
    rw [List.map_append, List.map_cons, List.nodup_append] at hnd
    obtain ⟨n1, n2, n3⟩ := hnd
    have e : (A ++ x :: B).filter (fun y => !(y.p == x.p)) = A ++ B := by
      rw [List.filter_append, List.filter_cons]
      have hx : (!(x.p == x.p)) = false := by simp
      rw [hx]
      simp only [Bool.false_eq_true, if_false]
      congr 1
      · rw [List.filter_eq_self]
        intro a ha
        have := n3 a.p (List.mem_map.2 ⟨a, ha, rfl⟩) x.p (by simp)
        simpa using this
      · rw [List.filter_eq_self]
        intro a ha
        have := (List.nodup_cons.1 n2).1
        simp only [Bool.not_eq_true', beq_eq_false_iff_ne, ne_eq]
        rintro e
        exact this (List.mem_map.2 ⟨a, ha, e⟩)
    rw [e, List.map_append, List.map_append, List.map_cons, List.eraseP_append_right]
    · rw [List.eraseP_cons_of_pos (by exact h1)]
    · intro a ha
      obtain ⟨y, hy, rfl⟩ := List.mem_map.1 ha
      have := h2 y hy
      simpa [had_strip] using this
theorem tick_strip (L : List Im) : (tickL L).map strip = rTick (L.map strip) := by
  unfold tickL rTick
  rw [List.map_map, List.map_map, List.map_map, List.map_map]
  refine List.map_congr_left fun x _ => ?_
  have e1 : strip (tick1 x) = rT1 (strip x) := rfl
  simp only [Function.comp]
  rw [← e1]
  unfold tick2 rT2
  generalize tick1 x = y
  show strip (if (y.had && decide (12 ≤ y.tk)) = true then backIm y else y) = if (y.had && decide (12 ≤ y.tk)) = true then rBack (strip y) else strip y
  split
  · exact back_strip y
  · rfl
theorem ups_strip {L L' : List Im} {es : List Ev} (hnd : ∀ es' L'', Ups L es' L'' → (L''.map Im.p).Nodup) (h : Ups L es L') : L'.map strip = es.foldl u1 (L.map strip) := by
  have hany : ∀ (e : Ev) (L1 : List Im), (L1.map strip).any (rJob e.job) = L1.any (ofJob e.job) := fun e L1 => by rw [List.any_map]; rfl
  induction h with
  | nil => rfl
  | skip _ he ih => rw [List.foldl_append, ← ih]; simp [u1, he]
  | @new es L1 e p h0 he hall hp ih =>
    rw [List.foldl_append, ← ih]
    have : L1.any (ofJob e.job) = false := List.any_eq_false.2 (fun x hx => by rw [hall x hx]; simp)
    simp only [List.foldl_cons, List.foldl_nil, u1, he, if_true, hany, this, Bool.false_eq_true, if_false, List.map_append, List.map_cons, List.map_nil]
    rfl
  | @had es L1 e i x h0 he hx hj hb hh ih =>
    rw [List.foldl_append, ← ih]
    obtain ⟨hi, hx⟩ := List.getElem?_eq_some_iff.1 hx
    have hany' : L1.any (ofJob e.job) = true := List.any_eq_true.2 ⟨x, hx ▸ List.getElem_mem hi, hj⟩
    have hs : L1 = L1.take i ++ x :: L1.drop (i + 1) := by rw [← hx, ← List.drop_eq_getElem_cons hi, List.take_append_drop]
    simp only [List.foldl_cons, List.foldl_nil, u1, he, if_true, hany, hany']
    have : L1.map strip = (L1.take i).map strip ++ strip x :: (L1.drop (i + 1)).map strip := by conv => lhs; rw [hs]; simp only [List.map_append, List.map_cons]
    rw [this, upFirst_mid (by
      intro a ha
      obtain ⟨y, hy, rfl⟩ := List.mem_map.1 ha
      obtain ⟨k, hk, rfl⟩ := List.getElem_of_mem hy
      simp at hk
      exact hb k _ (by omega) (by simp)) hj]
    have : rPut e (strip x) = strip x := by simp [rPut, strip, hh]
    rw [this]
  | @set es L1 e i x h0 he hx hj hb hh ih =>
    rw [List.foldl_append, ← ih]
    have hnd1 := hnd _ _ h0
    obtain ⟨hi, hx'⟩ := List.getElem?_eq_some_iff.1 hx
    have hany' : L1.any (ofJob e.job) = true := List.any_eq_true.2 ⟨x, hx' ▸ List.getElem_mem hi, hj⟩
    have hs : L1 = L1.take i ++ x :: L1.drop (i + 1) := by rw [← hx', ← List.drop_eq_getElem_cons hi, List.take_append_drop]
    simp only [List.foldl_cons, List.foldl_nil, u1, he, if_true, hany, hany']
    have e1 : L1.map strip = (L1.take i).map strip ++ strip x :: (L1.drop (i + 1)).map strip := by conv => lhs; rw [hs]; simp only [List.map_append, List.map_cons]
    have e2 : setIm L1 { x with ev := e } = L1.take i ++ { x with ev := e } :: L1.drop (i + 1) := by
      conv => lhs; rw [hs]
      exact setIm_mid (by rw [← hs]; exact hnd1) rfl
    rw [e1, e2, upFirst_mid (by
      intro a ha
      obtain ⟨y, hy, rfl⟩ := List.mem_map.1 ha
      obtain ⟨k, hk, rfl⟩ := List.getElem_of_mem hy
      simp at hk
      exact hb k _ (by omega) (by simp)) hj]
    simp only [List.map_append, List.map_cons]
    have : rPut e (strip x) = strip { x with ev := e } := by simp [rPut, strip, hh]
    rw [this]
theorem ups_nd {L L' : List Im} {es : List Ev} (hnd : (L.map Im.p).Nodup) (h : Ups L es L') : (L'.map Im.p).Nodup := by
  induction h with
  | nil => exact hnd
  | skip _ _ ih => exact ih
  | new p _ _ _ hp ih =>
    rw [List.map_append, List.nodup_append]
    refine ⟨ih, by simp, fun a ha b hb => ?_⟩
    simp at hb
    subst hb
    rintro rfl
    exact hp ha
  | had _ _ _ _ _ _ ih => exact ih
  | set _ _ _ _ _ _ ih => rw [setIm_p]; exact ih
theorem upd_strip {L L1 : List Im} {es : List Ev} (hnd : (L.map Im.p).Nodup) (h : Ups L es L1) : (L1.filter fun x => !(!x.had && !pend es x.ev.job)).map strip = rUpd (L.map strip) es := by
  unfold rUpd
  rw [← ups_strip (fun es' L'' h => ups_nd hnd h) h, List.filter_map]
  rfl
theorem deq_strip {L L' : List Im} {wk : Int} {r : Option Ev} (hnd : (L.map Im.p).Nodup) (hj : JD (L.map strip)) (h : DeqR L wk r L') : rDeq (L.map strip) wk = (r, L'.map strip) := by
  unfold rDeq
  rw [any_strip]
  rcases h with ⟨h1, rfl, rfl⟩ | ⟨h1, x, hx, he, hm, rfl, rfl⟩
  · cases hf : L'.find? (isHad wk) with
    | some y => simp
    | none =>
      rcases h1 with h1 | h1
      · exact absurd hf h1
      · simp only [Option.isSome_none, Bool.false_eq_true, if_false]
        rcases best_spec (L'.map strip) (L'.map strip).length with ⟨b1, _⟩ | ⟨k, x, b1, b2, b3, b4, _⟩
        · rw [b1]
        · obtain ⟨y, hy, rfl⟩ := List.mem_map.1 (List.mem_of_getElem? b3)
          have := h1 y hy
          rw [elig_strip, this] at b4
          cases b4
  · rw [h1]
    simp only [Option.isSome_none, Bool.false_eq_true, if_false]
    obtain ⟨i, hi, hxi⟩ := List.getElem_of_mem hx
    have hxi? : L[i]? = some x := by rw [List.getElem?_eq_getElem hi, hxi]
    rcases best_spec (L.map strip) (L.map strip).length with ⟨b1, b2⟩ | ⟨k, z, b1, b2, b3, b4, b5⟩
    · have := b2 i (strip x) (by simpa using hi) (by simp [hxi?])
      rw [elig_strip, he] at this
      cases this
    · have hz := List.mem_of_getElem? b3
      obtain ⟨y, hy, rfl⟩ := List.mem_map.1 hz
      have l1 := hm y hy b4
      have l2 := b5 i (strip x) (by simpa using hi) (by simp [hxi?]) he
      have hk : k = i := hj.eq b3 (by simp [hxi?] : (L.map strip)[i]? = some (strip x)) (ls_job l1 l2)
      subst hk
      have hyx : strip y = strip x := by
        rw [List.getElem?_map, hxi?] at b3
        simpa using b3.symm
      rw [b1]
      simp only [b3, hyx]
      rw [setIm_at (y := deqd wk x) hnd hxi? rfl, List.map_set]
      rfl

/-- A broker that holds these. -/
def BrR (w : World) (b : Nat) (F : List Nat) (R : List Rf) : Prop := ∃ L, BrIs w b F L ∧ L.map strip = R
def RPost (w : World) (b : Nat) (F : List Nat) (R : List Rf) (w' : World) : Prop := ∃ F', BrR w' b F' R ∧ Upd F w w' ∧ ∀ k ∈ F', k ∈ F ∨ w.heap.size ≤ k
theorem BPost.r {w w' : World} {b : Nat} {F : List Nat} {L : List Im} {R : List Rf} (h : BPost w b F L w') (e : L.map strip = R) : RPost w b F R w' := by
  obtain ⟨F', h1, h2, h3⟩ := h
  exact ⟨F', ⟨L, h1, e⟩, h2, h3⟩
theorem BrIs.nd {w : World} {b : Nat} {F : List Nat} {L : List Im} (h : BrIs w b F L) : (L.map Im.p).Nodup := by
  obtain ⟨v, h, _⟩ := h
  exact h.nd
theorem BrR.any {w w' : World} {b : Nat} {F : List Nat} {R : List Rf} (h : BrR w b F R) (u : Upd [] w w') : BrR w' b F R := by
  obtain ⟨L, h1, h2⟩ := h
  exact ⟨L, h1.any u, h2⟩

structure GoodX (x : Rf) : Prop where
  off : 0 ≤ x.off ∧ x.off ≤ 6
  cnt : 0 ≤ x.cnt ∧ x.cnt ≤ 3 ∧ (x.had = false → x.cnt ≤ 2)
  tk : 0 ≤ x.tk ∧ x.tk ≤ 12 ∧ (x.had = true → x.tk ≤ 11)
theorem good_strip {L : List Im} {R : List Rf} (e : L.map strip = R) (h : ∀ x ∈ R, GoodX x) : ∀ x ∈ L, Good x := fun x hx => by
  obtain ⟨h1, h2, h3⟩ := h (strip x) (by rw [← e]; exact List.mem_map.2 ⟨x, hx, rfl⟩)
  exact ⟨h1, h2, h3⟩
theorem len_strip {L : List Im} {R : List Rf} (e : L.map strip = R) : L.length = R.length := by rw [← e]; simp

section
variable {b : Nat} {F : List Nat} {R : List Rf} {w : World}
theorem rnew (w : World) : Calls Try.prog 7 #[] w fun e w' => ∃ b, e = .returned (.pointer (some ⟨b, 0, none⟩)) ∧ BrR w' b [b] [] ∧ Upd [] w w' ∧ w.heap.size ≤ b :=
  (new_ok w).mono fun e w' ⟨b, h1, h2, h3, h4⟩ => ⟨b, h1, ⟨[], h2, rfl⟩, h3, h4⟩
theorem rlen (h : BrR w b F R) : Calls Try.prog 11 #[.pointer (some ⟨b, 0, none⟩)] w fun e w' => e = .returned (.int .i64 R.length) ∧ w = w' := by
  obtain ⟨L, h, e⟩ := h
  rw [← len_strip e]
  exact len_any b F L w h
theorem rheld (h : BrR w b F R) (hl : R.length ≤ 8796093022206) (wk : Int) : Calls Try.prog 21 #[.pointer (some ⟨b, 0, none⟩), .int .i64 wk] w fun e w' => e = .returned (deqV ((R.find? (rHad wk)).map Rf.ev)) ∧ Upd [] w w' := by
  obtain ⟨L, h, e⟩ := h
  have hl2 := len_strip e
  refine (held_any b F L wk w h (by omega)).mono ?_
  rintro r w' ⟨rfl, u⟩
  refine ⟨?_, u⟩
  rw [← e, List.find?_map, show (rHad wk ∘ strip) = isHad wk from rfl]
  cases L.find? (isHad wk) <;> rfl
theorem rack (h : BrR w b F R) (hl : R.length ≤ 8796093022206) (wk : Int) : Calls Try.prog 10 #[.pointer (some ⟨b, 0, none⟩), .int .i64 wk] w fun e w' => e = .returned (.int .i64 (if R.any (rHad wk) then 0 else 3)) ∧ RPost w b F (rAck R wk) w' := by
  obtain ⟨L, h, e⟩ := h
  have hl2 := len_strip e
  refine (ack_any b F L wk w h (by omega)).mono ?_
  rintro r w' ⟨rfl, u⟩
  refine ⟨?_, u.r (by rw [← e]; exact ack_strip h.nd wk)⟩
  rw [← e, any_strip]
  unfold ackV
  cases L.find? (isHad wk) <;> rfl
theorem rnack (h : BrR w b F R) (hl : R.length ≤ 8796093022206) (wk : Int) : Calls Try.prog 14 #[.pointer (some ⟨b, 0, none⟩), .int .i64 wk] w fun e w' => e = .returned (.int .i64 (if R.any (rHad wk) then 0 else 3)) ∧ RPost w b F (rNack R wk) w' := by
  obtain ⟨L, h, e⟩ := h
  have hl2 := len_strip e
  refine (nack_any b F L wk w h (by omega)).mono ?_
  rintro r w' ⟨rfl, u⟩
  refine ⟨?_, u.r (by rw [← e]; exact nack_strip h.nd wk)⟩
  rw [← e, any_strip]
  unfold nackV
  cases L.find? (isHad wk) <;> rfl
theorem rtick (h : BrR w b F R) (hl : R.length ≤ 8796093022206) (hg : ∀ x ∈ R, GoodX x) : Calls Try.prog 15 #[.pointer (some ⟨b, 0, none⟩)] w fun e w' => e = .returned (.tuple #[]) ∧ RPost w b F (rTick R) w' := by
  obtain ⟨L, h, e⟩ := h
  have hl2 := len_strip e
  refine (tick_any b F L w h (by omega) (good_strip e hg)).mono ?_
  rintro r w' ⟨rfl, u⟩
  exact ⟨rfl, u.r (by rw [← e]; exact tick_strip L)⟩
theorem rdeq (h : BrR w b F R) (hl : R.length ≤ 8796093022206) (hg : ∀ x ∈ R, GoodX x) (hj : JD R) (wk : Int) : Calls Try.prog 9 #[.pointer (some ⟨b, 0, none⟩), .int .i64 wk] w fun e w' => e = .returned (deqV (rDeq R wk).1) ∧ RPost w b F (rDeq R wk).2 w' := by
  obtain ⟨L, h, e⟩ := h
  have hl2 := len_strip e
  refine (deq_any b F L wk w h (by omega) (good_strip e hg)).mono ?_
  rintro r w' ⟨o, L', rfl, hd, u⟩
  have := deq_strip h.nd (e ▸ hj) hd
  rw [e] at this
  rw [this]
  exact ⟨rfl, u.r rfl⟩
theorem rupdate (h : BrR w b F R) (es : List Ev) (a : Option Addr) (n c : Nat) (y0 y1 y2 y3 y4 y5 y7 y8 : Value) (hE : EvRow w a es) (hn : es.length = n) (hout : es ≠ [] → ∀ ad, a = some ad → ad.block ∉ F) (hL : R.length + n ≤ 8796093022206) :
    Calls Try.prog 8 #[.pointer (some ⟨b, 0, none⟩), stA y0 y1 y2 y3 y4 y5 a n c y7 y8] w fun e w' => e = .returned (.tuple #[]) ∧ RPost w b F (rUpd R es) w' := by
  obtain ⟨L, h, e⟩ := h
  have hl2 := len_strip e
  refine (update_any b F L es a n c y0 y1 y2 y3 y4 y5 y7 y8 w h hE hn hout (by omega)).mono ?_
  rintro r w' ⟨rfl, L1, h1, u⟩
  exact ⟨rfl, u.r (by rw [← e]; exact upd_strip h.nd h1)⟩
end
end Go.Proofs.Ytlebhaobfheocaa
