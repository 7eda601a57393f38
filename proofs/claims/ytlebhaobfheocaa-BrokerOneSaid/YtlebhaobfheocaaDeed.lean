/- A deed that is done to a broker, in plain lists: what stays so; who has what. -/
import Derived.Test.YtlebhaobfheocaaFirst
import Derived.Test.YtlebhaobfheocaaFrame
set_option linter.unusedVariables false
set_option linter.unusedSimpArgs false
namespace Go.Proofs.Ytlebhaobfheocaa
open Go.RowKit Go.Lb Go.Hp

def upS (f : Nat → Dd) (i : Nat) : Nat := ((List.range i).map fun i => (f i).n).sum
theorem upS_succ (f : Nat → Dd) (i : Nat) : upS f (i + 1) = upS f i + (f i).n := by simp [upS, List.range_succ]
theorem upS_mono (f : Nat → Dd) {i j : Nat} (h : i ≤ j) : upS f i ≤ upS f j := by
  induction h with
  | refl => exact Nat.le_refl _
  | step _ ih => rw [upS_succ]; omega

/-- The workers that have something. -/
def hw (R : List Rf) : List Int := (R.filter (·.had)).map (·.wk)
theorem mem_hw {R : List Rf} {v : Int} : v ∈ hw R ↔ ∃ x ∈ R, x.had = true ∧ x.wk = v := by
  simp only [hw, List.mem_map, List.mem_filter]
  constructor
  · rintro ⟨x, ⟨h1, h2⟩, h3⟩; exact ⟨x, h1, h2, h3⟩
  · rintro ⟨x, h1, h2, h3⟩; exact ⟨x, ⟨h1, h2⟩, h3⟩
theorem hw_cons (x : Rf) (R : List Rf) : hw (x :: R) = (if x.had then [x.wk] else []) ++ hw R := by
  unfold hw
  cases h : x.had <;> simp [h]
theorem hw_append (A B : List Rf) : hw (A ++ B) = hw A ++ hw B := by simp [hw]
theorem hw_sub {R R' : List Rf} (h : R'.Sublist R) : (hw R').Sublist (hw R) := (h.filter _).map _
theorem any_hw (R : List Rf) (wk : Int) : R.any (rHad wk) = decide (wk ∈ hw R) := by
  rw [Bool.eq_iff_iff, List.any_eq_true, decide_eq_true_eq, mem_hw]
  constructor
  · rintro ⟨x, h1, h2⟩
    simp only [rHad, Bool.and_eq_true, beq_iff_eq] at h2
    exact ⟨x, h1, h2⟩
  · rintro ⟨x, h1, h2, h3⟩
    exact ⟨x, h1, by simp [rHad, h2, h3]⟩
theorem upFirst_hw {p : Rf → Bool} {f : Rf → Rf} (h : ∀ x, p x = true → (f x).had = x.had ∧ (f x).wk = x.wk) : ∀ R, hw (upFirst p f R) = hw R
  | [] => rfl
  | x :: r => by
    simp only [upFirst]
    cases hp : p x
    · simp only [Bool.false_eq_true, if_false, hw_cons, upFirst_hw h r]
    · obtain ⟨h1, h2⟩ := h x hp
      simp only [if_true, hw_cons, h1, h2]
theorem u1_hw (R : List Rf) (e : Ev) : hw (u1 R e) = hw R := by
  unfold u1
  split
  · split
    · refine upFirst_hw (fun x _ => ?_) R
      unfold rPut
      split <;> exact ⟨rfl, rfl⟩
    · rw [hw_append]; simp [hw, rNew]
  · rfl
theorem fold_hw : ∀ (es : List Ev) (R : List Rf), hw (es.foldl u1 R) = hw R
  | [], R => rfl
  | e :: es, R => by rw [List.foldl_cons, fold_hw es, u1_hw]
theorem upd_hw (R : List Rf) (es : List Ev) : (hw (rUpd R es)).Sublist (hw R) := by
  rw [← fold_hw es R]
  exact hw_sub List.filter_sublist
theorem nack_hw (wk : Int) : ∀ R, (hw (rNack R wk)).Sublist (hw R)
  | [] => List.Sublist.refl _
  | x :: r => by
    unfold rNack
    simp only [upFirst]
    cases hp : rHad wk x
    · simp only [Bool.false_eq_true, if_false, hw_cons]
      exact (List.Sublist.refl _).append (nack_hw wk r)
    · have : (rBack x).had = false := by unfold rBack; split <;> rfl
      simp only [if_true, hw_cons, this, Bool.false_eq_true, if_false, List.nil_append]
      exact List.sublist_append_right _ _
theorem tick_hw : ∀ R, (hw (rTick R)).Sublist (hw R)
  | [] => List.Sublist.refl _
  | x :: r => by
    unfold rTick
    simp only [List.map_cons, hw_cons]
    refine List.Sublist.append ?_ (tick_hw r)
    unfold rT2
    have e1 : (rT1 x).had = x.had := rfl
    have e2 : (rT1 x).wk = x.wk := rfl
    split
    · have : (rBack (rT1 x)).had = false := by unfold rBack; split <;> rfl
      simp [this]
    · rw [e1, e2]; exact List.Sublist.refl _
theorem set_split {R : List Rf} {k : Nat} {x : Rf} (hx : R[k]? = some x) (y : Rf) : R = R.take k ++ x :: R.drop (k + 1) ∧ R.set k y = R.take k ++ y :: R.drop (k + 1) := by
  obtain ⟨hk, hx'⟩ := List.getElem?_eq_some_iff.1 hx
  exact ⟨by rw [← hx', ← List.drop_eq_getElem_cons hk, List.take_append_drop], by rw [List.set_eq_take_append_cons_drop, if_pos hk]⟩

/-- No worker has two, and each is one of m. -/
structure HW (m : Int) (R : List Rf) : Prop where
  nd : (hw R).Nodup
  lt : ∀ v ∈ hw R, 0 ≤ v ∧ v < m
theorem HW.nil (m : Int) : HW m [] := ⟨by simp [hw], by simp [hw]⟩
theorem HW.sub {m : Int} {R R' : List Rf} (h : HW m R) (hs : (hw R').Sublist (hw R)) : HW m R' := ⟨h.nd.sublist hs, fun v hv => h.lt v (hs.subset hv)⟩
theorem deq_nd {R : List Rf} (h : (hw R).Nodup) (wk : Int) : (hw (rDeq R wk).2).Nodup ∧ ∀ v ∈ hw (rDeq R wk).2, v ∈ hw R ∨ v = wk := by
  rcases deq_cases R wk with ⟨_, e⟩ | ⟨ha, k, x, hx, he, _, e⟩
  · rw [e]; exact ⟨h, fun v hv => .inl hv⟩
  · rw [e]
    obtain ⟨h1, h2⟩ := set_split hx (rDq wk x)
    have hxh : x.had = false := by simp only [rElig, Bool.and_eq_true, Bool.not_eq_true'] at he; exact he.1
    have hn : wk ∉ hw R := by rw [any_hw] at ha; simpa using ha
    have e1 : hw R = hw (R.take k) ++ hw (R.drop (k + 1)) := by conv => lhs; rw [h1]; rw [hw_append, hw_cons, hxh]; simp
    have e2 : hw (R.set k (rDq wk x)) = hw (R.take k) ++ wk :: hw (R.drop (k + 1)) := by rw [h2, hw_append, hw_cons]; simp [rDq]
    simp only
    rw [e2]
    rw [e1] at h hn
    refine ⟨?_, fun v hv => ?_⟩
    · have hp : (hw (R.take k) ++ wk :: hw (R.drop (k + 1))).Perm (wk :: (hw (R.take k) ++ hw (R.drop (k + 1)))) := List.perm_middle
      exact hp.nodup_iff.2 (List.nodup_cons.2 ⟨hn, h⟩)
    · rw [e1]
      simp only [List.mem_append, List.mem_cons] at hv ⊢
      rcases hv with h3 | h3 | h3
      · exact .inl (.inl h3)
      · exact .inr h3
      · exact .inl (.inr h3)
theorem HW.deq {m : Int} {R : List Rf} (h : HW m R) (wk : Int) (h0 : 0 ≤ wk) (h1 : wk < m) : HW m (rDeq R wk).2 := by
  obtain ⟨k1, k2⟩ := deq_nd h.nd wk
  refine ⟨k1, fun v hv => ?_⟩
  rcases k2 v hv with h2 | rfl
  · exact h.lt v h2
  · exact ⟨h0, h1⟩

/-- A worker that has let go has nothing. -/
theorem ack_none {R : List Rf} (h : (hw R).Nodup) (wk : Int) : wk ∉ hw (rAck R wk) := by
  unfold rAck
  cases hf : R.find? (rHad wk) with
  | none =>
    rw [List.eraseP_of_forall_not (fun a ha => by have := List.find?_eq_none.1 hf a ha; simpa using this)]
    intro hm
    obtain ⟨x, hx, h1, h2⟩ := mem_hw.1 hm
    have := List.find?_eq_none.1 hf x hx
    simp [rHad, h1, h2] at this
  | some x =>
    obtain ⟨hp, A, B, rfl, hA⟩ := List.find?_eq_some_iff_append.1 hf
    rw [List.eraseP_append_right _ (fun a ha => by have := hA a ha; simpa using this), List.eraseP_cons_of_pos hp]
    have hp' : x.had = true ∧ x.wk = wk := by simpa [rHad] using hp
    rw [hw_append, hw_cons, hp'.1, hp'.2] at h
    have hq : (hw A ++ wk :: hw B).Perm (wk :: (hw A ++ hw B)) := List.perm_middle
    have := (hq.nodup_iff.1 (by simpa using h))
    rw [hw_append]
    exact (List.nodup_cons.1 this).1

/-- What a deed does. -/
def doIt (k wk : Int) (es : List Ev) (R : List Rf) : List Rf := if k = 0 then rUpd R es else if k = 1 then (rDeq R wk).2 else if k = 2 then rAck R wk else if k = 3 then rNack R wk else rTick R
theorem Inv.doIt {R : List Rf} (h : Inv R) (k wk : Int) (es : List Ev) : Inv (doIt k wk es R) := by
  unfold Ytlebhaobfheocaa.doIt
  split; exact h.upd es
  split; exact h.deq wk
  split; exact h.ack wk
  split; exact h.nack wk
  exact h.tick
theorem doIt_len (k wk : Int) (es : List Ev) (R : List Rf) : (doIt k wk es R).length ≤ R.length + es.length := by
  unfold doIt
  split; exact upd_len R es
  split; rw [deq_len]; omega
  split; have := ack_len R wk; omega
  split; rw [nack_len]; omega
  rw [tick_len]; omega
theorem HW.doIt {m : Int} {R : List Rf} (h : HW m R) (k wk : Int) (es : List Ev) (h0 : 0 ≤ wk) (h1 : wk < m) : HW m (doIt k wk es R) := by
  unfold Ytlebhaobfheocaa.doIt
  split; exact h.sub (upd_hw R es)
  split; exact h.deq wk h0 h1
  split; exact h.sub (hw_sub List.eraseP_sublist)
  split; exact h.sub (nack_hw wk R)
  exact h.sub (tick_hw R)

/-- No job is with two workers. -/
theorem held_apart {R : List Rf} (h : JD R) {n k : Int} (hnk : n ≠ k) {x y : Rf} (hx : R.find? (rHad n) = some x) (hy : R.find? (rHad k) = some y) : (x.ev.job == y.ev.job) = false := by
  obtain ⟨i, hi, hxi⟩ := List.getElem_of_mem (List.mem_of_find?_eq_some hx)
  obtain ⟨j, hj, hyj⟩ := List.getElem_of_mem (List.mem_of_find?_eq_some hy)
  have h1 := List.find?_some hx
  have h2 := List.find?_some hy
  simp only [rHad, Bool.and_eq_true, beq_iff_eq] at h1 h2
  rw [beq_eq_false_iff_ne]
  intro e
  have hij : i = j := h.eq (x := x) (y := y) (by rw [List.getElem?_eq_getElem hi, hxi]) (by rw [List.getElem?_eq_getElem hj, hyj]) e
  subst hij
  rw [hxi] at hyj
  subst hyj
  exact hnk (h1.2.symm.trans h2.2)

theorem dvals_one (d : Dd) : ∀ u ∈ d.vals, u.oneCell' = true := by
  intro u hu
  simp only [Dd.vals, List.mem_cons, List.not_mem_nil, or_false] at hu
  rcases hu with h | h | h <;> subst h <;> rfl
theorem Try.size44 : (Try.prog.info? 44).map (·.size) = some 3 := by kernel_rfl
def zDd : Dd := ⟨0, 0, none, 0, 0, []⟩
theorem zero44 (w : World) : (zeroValue 44).run Try.prog w = .ok (.agg zDd.vals.toArray) w := by kernel_rfl

/-- The evaluations of a deed that came in may be read, and lie apart from what is new. -/
theorem dd_apart {w wr : World} {a : Option Addr} {i : Nat} {d : Dd} {b : Nat} {F : List Nat} {R : List Rf} (h : DdIs w a i d) (hs : St w b F R wr) : d.es ≠ [] → ∀ ad, d.a = some ad → ad.block ∉ F := by
  obtain ⟨_, _, _, _, _, _, _, _, _, h8⟩ := h
  exact fun hn ad e hm => by have := h8 ad e hn; have := hs.new _ hm; omega
end Go.Proofs.Ytlebhaobfheocaa
