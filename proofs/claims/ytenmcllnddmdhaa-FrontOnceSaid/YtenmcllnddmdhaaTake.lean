/- Take: the first that is done, or nothing. -/
import Derived.Test.YtenmcllnddmdhaaApp
import Derived.Laws.ResultCell
set_option linter.unusedVariables false
set_option linter.unusedSimpArgs false
namespace Go.Proofs.Ytenmcllnddmdhaa
open Go.RowKit Go.Lb Go.Conc

theorem box_post {w wA w1 : World} {f : Nat} {F : List Nat} {p : Parts} {s : Said} {q' : List Dn} (h : FrontAt wA f p s) (hF : ∀ k ∈ foot f p, k ∈ F ∧ k < w.heap.size) (hU : Upd [] w wA)
    (hu : Upd [p.c] wA w1) (hb : BoxAt w1 p.b p.c 256 (q'.map Dn.val')) : FPost w f F { s with q := q' } w1 := by
  have nd := h.nd
  simp only [List.nodup_cons, List.mem_cons, List.not_mem_nil, or_false, not_or, not_false_eq_true, List.nodup_nil, and_true] at nd
  refine ⟨foot f p, ⟨⟨p.v, p.rv, p.m, p.b, p.c⟩, ⟨hu.blk h.blk (by simpa using nd.1.2.2), ?_, ?_, ?_, hb, h.nd, h.av, h.ar⟩, ?_⟩, ?_, ?_⟩
  · exact hu.row h.rowL (by intro k hk; have := h.av k hk; simp at this ⊢; exact this.2.2.2)
  · exact hu.row h.rowR (by intro k hk; have := (h.ar k hk).1; simp at this ⊢; exact this.2.2.2)
  · exact h.map.upd hu (by simpa using nd.2.1.2)
  · intro k hk
    have h1 := (hF k hk).2
    have := hU.size
    have := hu.size
    exact ⟨hk, by omega⟩
  · refine (hU.mono (by simp)).trans hu (fun k hk => .inl ?_)
    simp only [List.mem_singleton] at hk
    subst hk
    exact (hF _ (by simp [foot])).1
  · intro k hk; exact .inl (hF k hk).1

theorem FPost.front {w : World} {f : Nat} {F : List Nat} {s : Said} {w' : World} (h : FPost w f F s w') : ∃ F', FrontIs w' f F' s := by
  obtain ⟨F', h, _⟩ := h
  exact ⟨F', h⟩

set_option maxRecDepth 20000 in
set_option maxHeartbeats 1000000 in
theorem take_some (f : Nat) (F : List Nat) (s : Said) (d : Dn) (q : List Dn) (w : World) (h : FrontIs w f F s) (hq : s.q = d :: q) (hd : d.al.oneCell' = true) :
    Calls Try.prog 9 #[.pointer (some ⟨f, 0, none⟩)] w fun e w' => e = .returned (.tuple #[.agg d.cells.toArray, .bool true]) ∧ FPost w f F { s with q := q } w' := by
  obtain ⟨p, hA, hF⟩ := h
  have HR : Hid (∀ w', Upd [] w w' → w'.cell? ⟨f, 5, none⟩ = some (.pointer (some ⟨p.b, 0, none⟩))) := Lib.hid fun w' u => (u.blk hA.blk (by simp)).cell rfl
  have Hq := Lib.hid hq
  have HA := Lib.hid hA
  have HF := Lib.hid hF
  clear hA hF hq
  go_enter Try.func9, Try.ntmps9
  go_wp2_with (refine wpList_alloc_blk rfl 51 rfl zDone (zeroVal51 _) ?_; intro wA hbA huA; have h5 := HR.out wA huA)
  have HbA := Lib.hid hbA
  have HU := Lib.hid huA
  clear hbA huA h5
  have hBx : BoxAt wA p.b p.c 256 (.agg d.cells.toArray :: q.map Dn.val') := by
    have := (HA.out.box).upd HU.out (by simp) (by simp)
    rw [Hq.out] at this
    exact this
  refine (box_take_some p.b p.c 256 (q.map Dn.val') d.cells _ hBx rfl (d.one hd)).mono ?_
  rintro e w1 ⟨rfl, hb1, hu1⟩
  have hcw := (HF.out p.c (by simp [foot])).2
  have hb2 := hu1.blk HbA.out (by simp; try omega)
  have Hb2 := Lib.hid hb2
  have HB1 := Lib.hid hb1
  have HU1 := Lib.hid hu1
  clear hb1 hu1 hb2 hBx
  go_wp2_with (refine wpList_store_blk (o := ⟨none, .store 51 (.tmp 2) (.tmp 9), _, _, _, _⟩) rfl 51 (.tmp 2) (.tmp 9) rfl w.heap.size d.cells rfl rfl Hb2.out Try.size51 rfl (d.one hd) ?_; intro w3 hb3 hu3)
  have hl := run_loadVar_blk (P := Try.prog) hb3 51 _ Try.underlying51 rfl (by exact Try.size51)
  refine bodyPost_ret (v := .tuple #[.agg d.cells.toArray, .bool true]) ?_ rfl ⟨rfl, ?_⟩
  · rw [results_cell_tmp Try.results9]; simp [asAddr, hl]
  · refine box_post HA.out HF.out (Upd.refl _ _) (((HU.out.mono (by simp)).trans HU1.out (by simp)).trans hu3 (by simp)) (HB1.out.upd hu3 ?_ ?_)
    · simp; exact fun e => Nat.lt_irrefl _ (e ▸ (HF.out p.b (by simp [foot])).2)
    · simp; omega
set_option maxRecDepth 20000 in
set_option maxHeartbeats 1000000 in
theorem take_none (f : Nat) (F : List Nat) (s : Said) (w : World) (h : FrontIs w f F s) (hq : s.q = []) :
    Calls Try.prog 9 #[.pointer (some ⟨f, 0, none⟩)] w fun e w' => e = .returned (.tuple #[.agg zDone.toArray, .bool false]) ∧ FPost w f F { s with q := [] } w' := by
  obtain ⟨p, hA, hF⟩ := h
  have HR : Hid (∀ w', Upd [] w w' → w'.cell? ⟨f, 5, none⟩ = some (.pointer (some ⟨p.b, 0, none⟩))) := Lib.hid fun w' u => (u.blk hA.blk (by simp)).cell rfl
  have Hq := Lib.hid hq
  have HA := Lib.hid hA
  have HF := Lib.hid hF
  clear hA hF hq
  go_enter Try.func9, Try.ntmps9
  go_wp2_with (refine wpList_alloc_blk rfl 51 rfl zDone (zeroVal51 _) ?_; intro wA hbA huA; have h5 := HR.out wA huA)
  have HbA := Lib.hid hbA
  have HU := Lib.hid huA
  clear hbA huA h5
  have hBx : BoxAt wA p.b p.c 256 [] := by
    have := (HA.out.box).upd HU.out (by simp) (by simp)
    rw [Hq.out] at this
    exact this
  refine (box_take_none p.b p.c 256 _ hBx).mono ?_
  rintro e w1 ⟨rfl, hu1⟩
  have hb1 := (show BoxAt wA p.b p.c 256 (([] : List Dn).map Dn.val') from hBx).upd hu1 (by simp) (by simp)
  replace hu1 : Upd [p.c] wA w1 := hu1.mono (by simp)
  have hcw := (HF.out p.c (by simp [foot])).2
  have hb2 := hu1.blk HbA.out (by simp; try omega)
  have Hb2 := Lib.hid hb2
  have HB1 := Lib.hid hb1
  have HU1 := Lib.hid hu1
  clear hb1 hu1 hb2 hBx
  go_wp2_with (refine wpList_store_blk (o := ⟨none, .store 51 (.tmp 2) (.tmp 9), _, _, _, _⟩) rfl 51 (.tmp 2) (.tmp 9) rfl w.heap.size zDone rfl rfl Hb2.out Try.size51 rfl zDone_one ?_; intro w3 hb3 hu3)
  have hl := run_loadVar_blk (P := Try.prog) hb3 51 _ Try.underlying51 rfl (by exact Try.size51)
  refine bodyPost_ret (v := .tuple #[.agg zDone.toArray, .bool false]) ?_ rfl ⟨rfl, ?_⟩
  · rw [results_cell_tmp Try.results9]; simp [asAddr, hl]
  · refine box_post HA.out HF.out (Upd.refl _ _) (((HU.out.mono (by simp)).trans HU1.out (by simp)).trans hu3 (by simp)) (HB1.out.upd hu3 ?_ ?_)
    · simp; exact fun e => Nat.lt_irrefl _ (e ▸ (HF.out p.b (by simp [foot])).2)
    · simp; omega

end Go.Proofs.Ytenmcllnddmdhaa
