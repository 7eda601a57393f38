/- BrokerKeeps, in plain lists: what is pending is there till it is handed out. -/
import Derived.Test.YtlebhaobfheocaaDeed
set_option linter.unusedVariables false
set_option linter.unusedSimpArgs false
namespace Go.Proofs.Ytlebhaobfheocaa
open Go.RowKit Go.Lb Go.Hp

def NoHad (R : List Rf) : Prop := ∀ x ∈ R, x.had = false
theorem noHad_of {R : List Rf} (h : HW 4 R) (hn : ∀ z : Int, 0 ≤ z → z < 4 → z ∉ hw R) : NoHad R := by
  intro x hx
  cases hh : x.had with
  | false => rfl
  | true =>
    have hm : x.wk ∈ hw R := mem_hw.2 ⟨x, hx, hh, rfl⟩
    obtain ⟨h1, h2⟩ := h.lt _ hm
    exact absurd hm (hn _ h1 h2)
theorem NoHad.u1 {R : List Rf} (h : NoHad R) (e : Ev) : NoHad (u1 R e) := by
  unfold Ytlebhaobfheocaa.u1
  split
  · split
    · intro y hy
      rcases mem_upFirst hy with h1 | ⟨x, hx, _, rfl⟩
      · exact h y h1
      · unfold rPut
        split
        · exact h x hx
        · exact h x hx
    · intro y hy
      rcases List.mem_append.1 hy with h1 | h1
      · exact h y h1
      · obtain rfl : y = rNew e := by simpa using h1
        rfl
  · exact h
theorem NoHad.fold : ∀ (es : List Ev) {R : List Rf}, NoHad R → NoHad (es.foldl Ytlebhaobfheocaa.u1 R)
  | [], _, h => h
  | e :: es, _, h => NoHad.fold es (h.u1 e)
theorem NoHad.upd {R : List Rf} (h : NoHad R) (es : List Ev) : NoHad (rUpd R es) := fun x hx => h.fold es x (List.mem_filter.1 hx).1
theorem u1_jobs (R : List Rf) (e : Ev) : (∀ j ∈ jobs R, j ∈ jobs (u1 R e)) ∧ (e.st = 1 → e.job ∈ jobs (u1 R e)) := by
  unfold u1
  split
  · split
    · rename_i ha
      have e1 := upFirst_jobs (p := rJob e.job) (f := rPut e) (fun x hx => by
        unfold rPut
        split
        · rfl
        · simp only [rJob, beq_iff_eq] at hx; exact hx.symm) R
      rw [e1]
      refine ⟨fun j hj => hj, fun _ => ?_⟩
      obtain ⟨x, hx, hxj⟩ := List.any_eq_true.1 ha
      simp only [rJob, beq_iff_eq] at hxj
      exact List.mem_map.2 ⟨x, hx, hxj⟩
    · refine ⟨fun j hj => ?_, fun _ => ?_⟩
      · unfold jobs at hj ⊢
        rw [List.map_append]
        exact List.mem_append_left _ hj
      · simp [jobs, rNew]
  · rename_i hs
    exact ⟨fun j hj => hj, fun h => absurd h hs⟩
theorem fold_jobs : ∀ (es : List Ev) (R : List Rf), (∀ j ∈ jobs R, j ∈ jobs (es.foldl u1 R)) ∧ ∀ j, pend es j = true → j ∈ jobs (es.foldl u1 R)
  | [], R => ⟨fun j hj => hj, fun j hj => by simp [pend] at hj⟩
  | e :: es, R => by
    obtain ⟨h1, h2⟩ := fold_jobs es (u1 R e)
    obtain ⟨h3, h4⟩ := u1_jobs R e
    refine ⟨fun j hj => h1 j (h3 j hj), fun j hj => ?_⟩
    simp only [pend, List.any_cons, Bool.or_eq_true, Bool.and_eq_true, beq_iff_eq] at hj
    rcases hj with ⟨h5, rfl⟩ | h5
    · exact h1 _ (h4 h5)
    · exact h2 j h5
theorem upd_pend {R : List Rf} {es : List Ev} (h : NoHad R) : (∀ j, pend es j = true → j ∈ jobs (rUpd R es)) ∧ ∀ x ∈ rUpd R es, pend es x.ev.job = true := by
  refine ⟨fun j hj => ?_, fun x hx => ?_⟩
  · obtain ⟨x, hx, rfl⟩ := List.mem_map.1 ((fold_jobs es R).2 j hj)
    exact List.mem_map.2 ⟨x, List.mem_filter.2 ⟨hx, by simp [hj]⟩, rfl⟩
  · obtain ⟨h1, h2⟩ := List.mem_filter.1 hx
    have h3 := h.fold es x h1
    simpa [h3] using h2
theorem nodup_len : ∀ (l m : List Int), l.Nodup → (∀ x ∈ l, x ∈ m) → l.length ≤ m.length
  | [], m, _, _ => by simp
  | x :: l, m, hn, hs => by
    obtain ⟨h1, h2⟩ := List.nodup_cons.1 hn
    have hx := hs x (by simp)
    have := nodup_len l (m.erase x) h2 (fun y hy => (List.mem_erase_of_ne (by rintro rfl; exact h1 hy)).2 (hs y (by simp [hy])))
    rw [List.length_erase_of_mem hx] at this
    have := List.length_pos_of_mem hx
    simp; omega
theorem pend_mem {es : List Ev} {j : Int} (h : pend es j = true) : j ∈ es.map Ev.job := by
  obtain ⟨e, he, h1⟩ := List.any_eq_true.1 h
  simp only [Bool.and_eq_true, beq_iff_eq] at h1
  exact List.mem_map.2 ⟨e, he, h1.2⟩

/-- What is so while the clock ticks. -/
structure Kp (es : List Ev) (t : Nat) (R : List Rf) : Prop where
  no : NoHad R
  all : ∀ j, pend es j = true → j ∈ jobs R
  len : R.length ≤ es.length
  off : ∀ x ∈ R, 0 ≤ x.off ∧ x.off ≤ 6 - (t : Int)
theorem Kp.start {R : List Rf} {es : List Ev} (h : NoHad R) (hi : Inv (rUpd R es)) : Kp es 0 (rUpd R es) := by
  obtain ⟨h1, h2⟩ := upd_pend (es := es) h
  refine ⟨h.upd es, h1, ?_, fun x hx => ?_⟩
  · have := nodup_len (jobs (rUpd R es)) (es.map Ev.job) hi.jd (fun j hj => by
      obtain ⟨x, hx, rfl⟩ := List.mem_map.1 hj
      exact pend_mem (h2 x hx))
    simpa [jobs] using this
  · have := (hi.good x hx).off
    simpa using this
theorem Kp.tick {R : List Rf} {es : List Ev} {t : Nat} (h : Kp es t R) (ht : t < 6) : Kp es (t + 1) (rTick R) := by
  have key : ∀ x ∈ R, rT2 (rT1 x) = { x with off := max 0 (x.off - 1), tk := x.tk } := fun x hx => by
    have hh := h.no x hx
    have e1 : (rT1 x).had = false := hh
    unfold rT2
    rw [e1]
    simp [rT1, hh]
  have hr : rTick R = R.map fun x => { x with off := max 0 (x.off - 1), tk := x.tk } := by
    unfold rTick
    rw [List.map_map]
    exact List.map_congr_left key
  rw [hr]
  refine ⟨fun y hy => ?_, fun j hj => ?_, by simpa using h.len, fun y hy => ?_⟩
  · obtain ⟨x, hx, rfl⟩ := List.mem_map.1 hy
    exact h.no x hx
  · obtain ⟨x, hx, rfl⟩ := List.mem_map.1 (h.all j hj)
    exact List.mem_map.2 ⟨_, List.mem_map.2 ⟨x, hx, rfl⟩, rfl⟩
  · obtain ⟨x, hx, rfl⟩ := List.mem_map.1 hy
    have := h.off x hx
    dsimp only
    omega
theorem Kp.free {R : List Rf} {es : List Ev} (h : Kp es 6 R) : Free R := fun x hx => ⟨h.no x hx, by have := h.off x hx; omega⟩
end Go.Proofs.Ytlebhaobfheocaa
