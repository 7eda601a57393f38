/- Ack and Tick. -/
import Derived.Test.YtlebhaobfheocaaClo
set_option linter.unusedVariables false
set_option linter.unusedSimpArgs false
namespace Go.Proofs.Ytlebhaobfheocaa
open Go.RowKit Go.Lb Go.Hp

theorem del_post {w wA w1 : World} {b : Nat} {v v' : Value} {L L' : List Im} {F : List Nat} (h : BrAt wA b v L) (hF : ∀ k ∈ foot b v L, k ∈ F ∧ k < wA.heap.size) (hU : Upd F w wA) (hr : RowP w1 v' L') (hs : L'.Sublist L)
    (hv : v'.ownBlock = v.ownBlock) (hu : Upd v.ownBlock.toList wA w1) : BPost w b F L' (w1.setCell ⟨b, 0, none⟩ v') := by
  have uS : Upd [b] w1 (w1.setCell ⟨b, 0, none⟩ v') := (Upd.refl _ _).setCell (by simp) _
  have hsub : ∀ k ∈ foot b v' L', k ∈ foot b v L := by
    intro k hk
    simp only [foot, List.mem_append, List.mem_cons, Option.mem_toList, hv, List.mem_map] at hk ⊢
    rcases hk with hk | ⟨x, hx, rfl⟩
    · exact .inl hk
    · exact .inr ⟨x, hs.subset hx, rfl⟩
  refine ⟨foot b v L, ⟨v', ⟨(hu.blk h.blk (by simpa using h.ne)).set 0 _, ?_, fun x hx => ?_, h.nd.sublist (hs.map _), by rw [hv]; exact h.ne, fun x hx => by rw [hv]; exact h.out x (hs.subset hx)⟩, fun k hk => ?_⟩, ?_, fun k hk => .inl (hF k hk).1⟩
  · exact uS.row hr (by intro k hk; rw [hv] at hk; simp; rintro rfl; exact h.ne hk)
  · have ho := h.out x (hs.subset hx)
    exact uS.blk (hu.blk (h.its x (hs.subset hx)) (by simpa using ho.2)) (by simpa using ho.1)
  · have h1 := hsub k hk
    exact ⟨h1, by have := (hF k h1).2; have := hu.size; simp; omega⟩
  · refine (hU.trans hu (fun k hk => .inl ?_)).trans uS (fun k hk => .inl ?_)
    · have hk' : v.ownBlock = some k := by simpa using hk
      exact (hF k (by simp [foot, hk'])).1
    · simp only [List.mem_singleton] at hk
      subst hk
      exact (hF _ (by simp [foot])).1

def ackL (L : List Im) (wk : Int) : List Im := match L.find? (isHad wk) with
  | none => L
  | some x => L.filter fun y => !(y.p == x.p)
def ackV (L : List Im) (wk : Int) : Value := match L.find? (isHad wk) with
  | none => .int .i64 3
  | some x => .int .i64 0

set_option maxRecDepth 20000 in
set_option maxHeartbeats 1000000 in
theorem ack_any (b : Nat) (F : List Nat) (L : List Im) (wk : Int) (w : World) (h : BrIs w b F L) (hL : L.length ≤ 8796093022207) :
    Calls Try.prog 10 #[.pointer (some ⟨b, 0, none⟩), .int .i64 wk] w fun e w' => e = .returned (ackV L wk) ∧ BPost w b F (ackL L wk) w' := by
  have HI := Lib.hid h
  obtain ⟨v, h, hF⟩ := h
  have H := Lib.hid h
  have HF := Lib.hid hF
  clear h hF
  go_enter Try.func10, Try.ntmps10
  go_wp2_with fail
  refine (of_any b v L wk _ H.out hL).mono ?_
  rintro e w' ⟨rfl, rfl⟩
  cases hf : L.find? (isHad wk) with
  | none =>
    have Hf := Lib.hid hf
    clear hf
    simp only [ptrOf]
    go_wp2_with fail
    go_ret
    exact ⟨by simp [ackV, Hf.out], by simp only [ackL, Hf.out]; exact BPost.same HI.out ((Upd.refl _ _).alloc _)⟩
  | some x =>
    have Hf := Lib.hid hf
    have Hm := Lib.hid (find_mem hf).1
    clear hf
    obtain ⟨a, c, rfl⟩ := own_shape H.out.row
    have u0 : Upd [] w (w.alloc (.cells #[.pointer (some ⟨x.p, 0, none⟩)] 58)) := (Upd.refl _ _).alloc _
    have hbl := H.out.blk.lt
    have h0 := (u0.blk H.out.blk (by simp)).cell (o := 0) rfl
    have hq := (Blk.new w 58 [.pointer (some ⟨x.p, 0, none⟩)]).cell (o := 0) rfl
    have HU := Lib.hid u0
    have HQ := Lib.hid hq
    clear u0 hq
    simp only [ptrOf, Im.ptr]
    go_wp2_with fail
    have hI0 : ∀ k, (Value.slice a L.length c).ownBlock = some k → k < w.heap.size := fun k hk => (HF.out k (by simp [foot, hk])).2
    refine (del31_any (I := fun w' => w'.cell? ⟨w.heap.size, 0, none⟩ = some (.pointer (some ⟨x.p, 0, none⟩)) ∧ w.heap.size < w'.heap.size ∧ ∀ y ∈ L, Blk w' y.p 60 y.vals) (P := fun y => y.p == x.p) (cap := w.heap.size) (.slice a L.length c) L _ (HU.out.row H.out.row (by simp)) hL ⟨?_, ?_⟩ ?_).mono ?_
    · rintro y hy w' ⟨k1, _, k3⟩
      exact clo31 y _ _ _ w' (k3 y hy) (k3 x Hm.out) k1
    · rintro w1 w2 ⟨k1, k2, k3⟩ u
      refine ⟨(u.cell (a := ⟨w.heap.size, 0, none⟩) k2 ?_).trans k1, Nat.lt_of_lt_of_le k2 u.size, fun y hy => u.blk (k3 y hy) ?_⟩
      · simp only [Option.mem_toList, Option.mem_def]
        intro e
        have := hI0 _ e
        simp at this
      · have := (H.out.out y hy).2
        simpa using this
    · exact ⟨HQ.out, by simp, fun y hy => HU.out.blk (H.out.its y hy) (by simp)⟩
    rintro e w1 ⟨v', rfl, hr, hu, hv⟩
    have hbf := (hu.blk (HU.out.blk H.out.blk (by simp)) (by simpa using H.out.ne))
    have g0 := hbf.cell (o := 0) rfl
    have gf := hbf.frozen 0
    have hP := del_post (F := F) (w := w) (H.out.any HU.out) (fun k hk => ⟨(HF.out k hk).1, Nat.lt_of_lt_of_le (HF.out k hk).2 HU.out.size⟩) (HU.out.mono (by simp)) hr List.filter_sublist hv hu
    have HP := Lib.hid hP
    obtain ⟨a', c', rfl⟩ := own_shape hr
    have hlw := hbf.lt
    clear hr hu hv hbf hP h0
    go_wp2_with fail
    go_ret
    exact ⟨by simp [ackV, Hf.out], by simp only [ackL, Hf.out]; exact HP.out⟩

/-- Items one after the other, the first i done. -/
def steps (g : Im → Im) (L : List Im) (i : Nat) : List Im := (L.take i).map g ++ L.drop i
section
variable {g : Im → Im} {L : List Im} {i : Nat} {x : Im}
theorem steps_len (g : Im → Im) (L : List Im) (i : Nat) : (steps g L i).length = L.length := by simp [steps]; omega
theorem steps_at (h : L[i]? = some x) : (steps g L i)[i]? = some x := by
  have hi := (List.getElem?_eq_some_iff.1 h).1
  unfold steps
  rw [List.getElem?_append_right (by simp; omega)]
  simp
  rw [show min i L.length = i by omega]
  simpa using h
theorem steps_next (h : L[i]? = some x) : steps g L (i + 1) = (steps g L i).set i (g x) := by
  have hi := (List.getElem?_eq_some_iff.1 h).1
  unfold steps
  rw [take_snoc h, List.map_append, List.set_append]
  have e : (List.map g (List.take i L)).length = i := by simp; omega
  rw [e, if_neg (by omega), Nat.sub_self, List.drop_eq_getElem_cons hi]
  simp only [List.set_cons_zero, List.map_cons, List.map_nil, List.append_assoc, List.cons_append, List.nil_append]
theorem steps_all (g : Im → Im) (L : List Im) : steps g L L.length = L.map g := by simp [steps]
theorem steps_zero (g : Im → Im) (L : List Im) : steps g L 0 = L := by simp [steps]
end
theorem setIm_at {L : List Im} {i : Nat} {x y : Im} (hnd : (L.map Im.p).Nodup) (hx : L[i]? = some x) (hp : x.p = y.p) : setIm L y = L.set i y := by
  refine List.ext_getElem? fun j => ?_
  unfold setIm
  rw [List.getElem?_map, List.getElem?_set]
  have hi := (List.getElem?_eq_some_iff.1 hx).1
  by_cases hij : i = j
  · subst hij
    have e : L[i] = x := by rw [List.getElem?_eq_getElem hi] at hx; simpa using hx
    simp [hi, e, hp]
  · rw [if_neg hij]
    cases hj : L[j]? with
    | none => rfl
    | some z =>
      simp only [Option.map_some]
      rw [if_neg]
      intro e
      have hj' := (List.getElem?_eq_some_iff.1 hj).1
      have h1 : L[i].p = L[j].p := by
        have e1 : L[i] = x := by rw [List.getElem?_eq_getElem hi] at hx; simpa using hx
        have e2 : L[j] = z := by rw [List.getElem?_eq_getElem hj'] at hj; simpa using hj
        rw [e1, e2, hp, e]
      have hp := List.pairwise_iff_getElem.1 hnd
      rcases Nat.lt_or_gt_of_ne hij with h | h
      · exact hp i j (by simpa using hi) (by simpa using hj') h (by simpa using h1)
      · exact hp j i (by simpa using hj') (by simpa using hi) h (by simpa using h1.symm)

/-- Numbers that cannot run over. -/
structure Good (x : Im) : Prop where
  off : 0 ≤ x.off ∧ x.off ≤ 6
  cnt : 0 ≤ x.cnt ∧ x.cnt ≤ 3 ∧ (x.had = false → x.cnt ≤ 2)
  tk : 0 ≤ x.tk ∧ x.tk ≤ 12 ∧ (x.had = true → x.tk ≤ 11)

def tick1 (x : Im) : Im := { x with off := max 0 (x.off - 1), tk := if x.had then x.tk + 1 else x.tk }
def tick2 (x : Im) : Im := if x.had && decide (12 ≤ x.tk) then backIm x else x
def tickL (L : List Im) : List Im := (L.map tick1).map tick2
end Go.Proofs.Ytlebhaobfheocaa
