/- Read: a number for who waits for a read. Drop: all go that wait for reads. -/
import Derived.Test.YtenmcllnddmdhaaDelR
import Derived.Test.YtenmcllnddmdhaaTake
set_option linter.unusedVariables false
set_option linter.unusedSimpArgs false
namespace Go.Proofs.Ytenmcllnddmdhaa
open Go.RowKit Go.Lb Go.Conc

theorem FrontAt.rdSet {w : World} {f : Nat} {p : Parts} {s : Said} (h : FrontAt w f p s) (r : Int) : FrontAt (w.setCell ⟨f, 3, none⟩ (.int .i64 r)) f p { s with rd := r } := by
  have nd := h.nd
  simp only [List.nodup_cons, List.mem_cons, List.not_mem_nil, or_false, not_or, not_false_eq_true, List.nodup_nil, and_true] at nd
  have uS : Upd [f] w (w.setCell ⟨f, 3, none⟩ (.int .i64 r)) := (Upd.refl _ _).setCell (by simp) _
  refine ⟨h.blk.set 3 _, ?_, ?_, ?_, ?_, h.nd, h.av, h.ar⟩
  · exact uS.row h.rowL (by intro k hk; have := h.av k hk; simp at this ⊢; exact this.1)
  · exact uS.row h.rowR (by intro k hk; have := (h.ar k hk).1; simp at this; simp [this.1])
  · exact h.map.upd uS (by simpa using fun e => nd.1.1 e.symm)
  · exact h.box.upd uS (by simpa using fun e => nd.1.2.1 e.symm) (by simpa using fun e => nd.1.2.2 e.symm)

/-- The row of those who wait for reads is another one. -/
theorem rv_post {w wA w1 : World} {f : Nat} {F : List Nat} {p : Parts} {s : Said} {v' : Value} {R' : List Rd} {q' : List Dn} {F1 : List Nat} (h : FrontAt wA f p s) (hF : ∀ k ∈ foot f p, k ∈ F ∧ k < w.heap.size) (hU : Upd F w wA)
    (hr : RowRd w1 v' R') (hv : ∀ k, v'.ownBlock = some k → p.rv.ownBlock = some k ∨ (wA.heap.size ≤ k ∧ k < w1.heap.size)) (hu : Upd (p.rv.ownBlock.toList ++ [p.c]) wA w1) (hb : BoxAt w1 p.b p.c 256 (q'.map Dn.val')) :
    FPost w f F { s with R := R', q := q' } (w1.setCell ⟨f, 1, none⟩ v') := by
  have mem : ∀ k ∈ [f, p.m, p.b, p.c], k ∈ foot f p := by intro k hk; simp only [foot, List.mem_append]; exact .inl (.inl hk)
  have rf : ∀ k, p.rv.ownBlock = some k → k ∈ foot f p := by intro k hk; simp [foot, hk]
  have vf : ∀ k, p.v.ownBlock = some k → k ∈ foot f p := by intro k hk; simp [foot, hk]
  have hs := hU.size
  have hs1 := hu.size
  have nd := h.nd
  simp only [List.nodup_cons, List.mem_cons, List.not_mem_nil, or_false, not_or, not_false_eq_true, List.nodup_nil, and_true] at nd
  have ar : ∀ k ∈ [f, p.m, p.b, p.c], k ∉ p.rv.ownBlock.toList := by
    intro k hk hk2
    exact (h.ar k (by simpa using hk2)).1 hk
  have out : ∀ k ∈ [f, p.m, p.b], k ∉ p.rv.ownBlock.toList ++ [p.c] := by
    intro k hk
    simp only [List.mem_append, List.mem_singleton, not_or]
    refine ⟨ar k (by simp at hk ⊢; rcases hk with rfl | rfl | rfl <;> simp), ?_⟩
    simp at hk
    rcases hk with rfl | rfl | rfl
    · exact nd.1.2.2
    · exact nd.2.1.2
    · exact nd.2.2
  have uS : Upd [f] w1 (w1.setCell ⟨f, 1, none⟩ v') := (Upd.refl _ _).setCell (by simp) _
  have av1 : ∀ k, p.v.ownBlock = some k → k ∉ p.rv.ownBlock.toList ++ [p.c] := by
    intro k hk
    have := h.av k hk
    simp only [List.mem_append, List.mem_singleton, not_or, Option.mem_toList]
    exact ⟨fun e => (h.ar k e).2 hk, fun e => this (by simp [e])⟩
  have vn : ∀ k, v'.ownBlock = some k → k ∉ [f, p.m, p.b, p.c] ∧ p.v.ownBlock ≠ some k := by
    intro k hk
    rcases hv k hk with e | ⟨e, _⟩
    · exact h.ar k e
    · refine ⟨fun hm => ?_, fun hm => ?_⟩
      · have := (hF k (mem k hm)).2; omega
      · have := (hF k (vf k hm)).2; omega
  refine ⟨foot f p ++ v'.ownBlock.toList, ⟨⟨p.v, v', p.m, p.b, p.c⟩, ⟨(hu.blk h.blk (out _ (by simp))).set 1 _, ?_, ?_, ?_, ?_, h.nd, h.av, vn⟩, ?_⟩, ?_, ?_⟩
  · exact uS.row (hu.row h.rowL av1) (by intro k hk; have := h.av k hk; simp at this ⊢; exact this.1)
  · exact uS.row hr (by intro k hk; have := (vn k hk).1; simp at this ⊢; exact this.1)
  · exact (h.map.upd hu (out _ (by simp))).upd uS (by simpa using fun e => nd.1.1 e.symm)
  · exact hb.upd uS (by simpa using fun e => nd.1.2.1 e.symm) (by simpa using fun e => nd.1.2.2 e.symm)
  · intro k hk
    simp only [World.size_setCell]
    simp only [foot, List.mem_append, Option.mem_toList] at hk
    rcases hk with (hk | hk) | hk
    · have := (hF k (mem k hk)).2; exact ⟨by simp [mem k hk], by omega⟩
    · have := (hF k (vf k hk)).2; exact ⟨by simp [vf k hk], by omega⟩
    · refine ⟨by simp [hk], ?_⟩
      rcases hv k hk with e | ⟨_, e⟩
      · have := (hF k (rf k e)).2; omega
      · exact e
  · refine (hU.trans hu (fun k hk => .inl ?_)).trans uS (fun k hk => .inl ?_)
    · simp only [List.mem_append, List.mem_singleton, Option.mem_toList] at hk
      rcases hk with hk | rfl
      · exact (hF k (rf k hk)).1
      · exact (hF _ (mem _ (by simp))).1
    · simp only [List.mem_singleton] at hk
      subst hk
      exact (hF _ (mem _ (by simp))).1
  · intro k hk
    simp only [List.mem_append, Option.mem_toList] at hk
    rcases hk with hk | hk
    · exact .inl (hF k hk).1
    · rcases hv k hk with e | ⟨e, _⟩
      · exact .inl (hF k (rf k e)).1
      · exact .inr (by omega)

theorem drop_ok (f : Nat) (F : List Nat) (s : Said) (w : World) (h : FrontIs w f F s) :
    Calls Try.prog 17 #[.pointer (some ⟨f, 0, none⟩)] w fun e w' => e = .returned (.tuple #[]) ∧ FPost w f F { s with R := [] } w' := by
  obtain ⟨p, hA, hF⟩ := h
  have hfz := hA.blk.frozen 1
  have h1 := hA.blk.cell (o := 1) rfl
  have Hx := Lib.hid (rv_post (F1 := []) (v' := .slice none 0 0) (R' := []) (q' := s.q) hA hF (Upd.refl _ _) (World.ownsRow_nil _ _ _ _) (by simp [Value.ownBlock]) (Upd.refl _ _) hA.box)
  clear hA hF
  go_enter Try.func17, Try.ntmps17
  go_wp2_with fail
  go_end0
  exact ⟨rfl, Hx.out⟩

set_option maxHeartbeats 1000000 in
theorem read_full (f : Nat) (F : List Nat) (s : Said) (n c : Int) (w : World) (h : FrontIs w f F s) (hl : 64 ≤ s.R.length) (hl2 : s.R.length ≤ 64) :
    Calls Try.prog 14 #[.pointer (some ⟨f, 0, none⟩), .agg (whoL n c).toArray] w fun e w' => (∃ v, e = .returned v) ∧ FPost w f F s w' := by
  have hA := h.upd ((Upd.refl [] w).alloc (.cells (whoL n c).toArray 44)) (by simp)
  obtain ⟨p, hA, hF⟩ := hA
  have h1 := hA.blk.cell (o := 1) rfl
  obtain ⟨a, cc, hv⟩ := own_shape hA.rowR
  rw [hv] at h1
  have hd : decide ((64 : Int) ≤ (s.R.length : Int)) = true := by simp; omega
  have H := Lib.hid h
  clear h hA hF hv
  generalize s.R.length = x at *
  go_enter Try.func14, Try.ntmps14
  go_wp2_with fail
  go_ret2
  exact ⟨⟨_, rfl⟩, F, H.out.upd ((Upd.refl [] w).alloc _) (by simp), (Upd.refl _ _).alloc _, fun k hk => .inl hk⟩

theorem build88 (n c k : Int) (w : World) : (Instr.build 88 #[(0, .agg (whoL n c).toArray), (1, .int .i64 k)]).run Try.prog w = .ok (.agg (Rd.vals ⟨n, c, k, 0, false⟩).toArray) w := by kernel_rfl
theorem buildSlice77 (n c k : Int) (w : World) : (Instr.buildSlice 77 1 #[(0, .agg (Rd.vals ⟨n, c, k, 0, false⟩).toArray)]).run Try.prog w = .ok (.slice (some ⟨w.heap.size, 0, none⟩) 1 1) (w.alloc (.cells (Rd.vals ⟨n, c, k, 0, false⟩).toArray 88)) := by kernel_rfl

set_option maxRecDepth 100000 in
set_option maxHeartbeats 3200000 in
theorem read_ok (f : Nat) (F : List Nat) (s : Said) (n c : Int) (w : World) (h : FrontIs w f F s) (hl : s.R.length < 64) (hp0 : 0 ≤ s.rd) (hp1 : s.rd < 9223372036854775807) :
    Calls Try.prog 14 #[.pointer (some ⟨f, 0, none⟩), .agg (whoL n c).toArray] w fun e w' => (∃ v, e = .returned v) ∧ FPost w f F { s with R := s.R ++ [⟨n, c, s.rd + 1, 0, false⟩], rd := s.rd + 1 } w' := by
  obtain ⟨i0, hi, hz0, hz1, hz2⟩ := info88
  obtain ⟨p, hA0, hF⟩ := h
  have u0 := (Upd.refl [] w).alloc (.cells (whoL n c).toArray 44)
  have hA := hA0.upd u0 (by simp)
  obtain ⟨a, cc, hv⟩ := own_shape hA.rowR
  have h1 := hA.blk.cell (o := 1) rfl
  have h3 := hA.blk.cell (o := 3) rfl
  have hfz := hA.blk.frozen 3
  rw [hv] at h1
  have hd : decide ((64 : Int) ≤ (s.R.length : Int)) = false := by simp; omega
  have hlf := hA0.blk.lt
  have lf := (hF f (by simp [foot])).2
  have hA1 := hA0.rdSet (s.rd + 1)
  have us : Upd [f] w (w.setCell ⟨f, 3, none⟩ (.int .i64 (s.rd + 1))) := (Upd.refl _ _).setCell (by simp) _
  have HB' := Blk.new (w.setCell ⟨f, 3, none⟩ (.int .i64 (s.rd + 1))) 44 (whoL n c)
  rw [World.size_setCell] at HB'
  have HB := Lib.hid HB'
  have HA := Lib.hid (hA1.upd ((Upd.refl [] _).alloc (.cells (whoL n c).toArray 44)) (by simp))
  have HF := Lib.hid hF
  have HU := Lib.hid (us.alloc (.cells (whoL n c).toArray 44))
  clear hA hA0 hF u0 us HB' hA1
  go_enter Try.func14, Try.ntmps14
  go_wp2_with fail
  clear h1 h3 hfz
  generalize (w.setCell ⟨f, 3, none⟩ (.int .i64 (s.rd + 1))).alloc (.cells (whoL n c).toArray 44) = wA at *
  have hbb := HB.out.lt
  have hfb : w.heap.size ≠ f := fun e => Nat.lt_irrefl _ (e ▸ (HF.out f (by simp [foot])).2)
  refine wp_region_lex (fun w' => Blk w' f 79 [p.v, .slice a s.R.length cc, .map (some p.m), .int .i64 (s.rd + 1), .int .i64 s.ps, .pointer (some ⟨p.b, 0, none⟩)] ∧ Blk w' w.heap.size 44 (whoL n c)) 15 [(0, true), (1, true), (2, true), (3, true), (4, true), (5, true), (6, true), (7, true), (8, true), (9, true), (10, true), (11, false), (12, false), (13, false), (14, false), (15, false)] (by kernel_rfl) (by kernel_rfl) (by kernel_rfl) (by kernel_rfl) (fun _ _ d _ _ h => by cases d <;> exact h) ?_
  simp only [lexOps, List.map_cons, List.map_nil, List.getD_cons_zero, List.getD_cons_succ]
  have hb0 := HA.out.blk
  rw [hv] at hb0
  have hS0 : Blk wA.drew f 79 [p.v, .slice a s.R.length cc, .map (some p.m), .int .i64 (s.rd + 1), .int .i64 s.ps, .pointer (some ⟨p.b, 0, none⟩)] ∧ Blk wA.drew w.heap.size 44 (whoL n c) := ⟨hb0, HB.out⟩
  iterate 5 (refine lex_read rfl (by exact hS0) (v := ?_) (fun w' hw => ?_) ?_; rotate_left; (focus (obtain ⟨k1, k2⟩ := hw; have q1 := k1.cell (o := 1) rfl; clear k1 k2; go_simp; try with_reducible rfl)); simp only [Act.put, List.setIfInBounds_toArray, List.set_cons_zero, List.set_cons_succ])
  refine lex_read rfl (by exact hS0) (fun w' hw => exec_load (by rfl) (by rfl) (run_load_blk hw.2 44 _ Try.underlying44 rfl (by exact Try.size44))) ?_
  simp only [Act.put, List.setIfInBounds_toArray, List.set_cons_zero, List.set_cons_succ]
  iterate 4 (refine lex_read rfl (by exact hS0) (v := ?_) (fun w' hw => ?_) ?_; rotate_left; (focus (obtain ⟨k1, k2⟩ := hw; have q1 := k1.cell (o := 3) rfl; clear k1 k2; go_simp; try with_reducible rfl)); simp only [Act.put, List.setIfInBounds_toArray, List.set_cons_zero, List.set_cons_succ])
  refine lex_read rfl (by exact hS0) (fun w' hw => exec_build (by rfl) (by simp [Act.eval]) (build88 n c (s.rd + 1) _)) ?_
  simp only [Act.put, List.setIfInBounds_toArray, List.set_cons_zero, List.set_cons_succ]
  refine lex_run rfl (exec_buildSlice (by rfl) (by simp [Act.eval]) (buildSlice77 n c (s.rd + 1) _)) (fun _ => ⟨hS0.1.alloc _, hS0.2.alloc _⟩) ?_
  simp only [Act.put, List.setIfInBounds_toArray, List.set_cons_zero, List.set_cons_succ]
  have hW : Upd [] wA (wA.drew.alloc (.cells (Rd.vals ⟨n, c, s.rd + 1, 0, false⟩).toArray 88)) := ((Upd.refl [] wA).drew).alloc _
  have hrow : (wA.drew.alloc (.cells (Rd.vals ⟨n, c, s.rd + 1, 0, false⟩).toArray 88)).ownsRow 0 88 34 (.slice a s.R.length cc) s.R.length (rdsL s.R).flatten := by
    have := (HA.out.upd (G := []) hW (by simp)).rowR
    rw [hv] at this
    exact this
  refine lex_do rfl (fun K hK => ?_)
  refine wp_append_lies _ _ _ 77 (by rfl) 0 88 i0 _ 34 360 Try.underlying77 hi hz0 hz1 hz2 rfl (by omega) (.slice a s.R.length cc) s.R.length (rdsL s.R).flatten (by rfl) hrow _ 1 1 (Rd.vals ⟨n, c, s.rd + 1, 0, false⟩) (by rfl) (by rfl) (Blk.news (Blk.new wA.drew 88 (Rd.vals ⟨n, c, s.rd + 1, 0, false⟩))) (Rd.one _) (by omega) (by unfold maxLen; omega) (by omega) (by simp) _ rfl ?_
  intro gg cap w1 hown1 hgrow hat hlt
  have HBW := hW.blk hS0.2 (by simp)
  have HfW := hW.blk hS0.1 (by simp)
  have hWs := hW.size
  generalize wA.drew.alloc (.cells (Rd.vals ⟨n, c, s.rd + 1, 0, false⟩).toArray 88) = W at *
  rw [← hv] at hgrow hat
  have uW : Upd (p.rv.ownBlock.toList ++ [p.c]) wA w1 := (hW.mono (by simp)).grown hgrow (by intro k hk; simp [hk])
  have hb1 : Blk w1 f 79 _ := (hgrow.block f HfW.lt (fun e => (HA.out.ar f e.symm).1 (by simp))).trans HfW
  have hb2 : Blk w1 w.heap.size 44 (whoL n c) := (hgrow.block w.heap.size HBW.lt (fun e => Nat.lt_irrefl _ (HF.out w.heap.size (by simp [foot, ← e])).2)).trans HBW
  have q1 := hb1.frozen 1
  have qc := hb1.cell (o := 1) rfl
  have q3 := hb1.cell (o := 3) rfl
  have hcS : p.c ∉ p.rv.ownBlock.toList := fun hm => (HA.out.ar _ (by simpa using hm)).1 (by simp)
  have hbS : p.b ∉ p.rv.ownBlock.toList := fun hm => (HA.out.ar _ (by simpa using hm)).1 (by simp)
  have hbx : BoxAt w1 p.b p.c 256 (s.q.map Dn.val') := HA.out.box.upd (F := p.rv.ownBlock.toList) ((hW.mono (by simp)).grown hgrow (by intro k hk; simp [hk])) hbS hcS
  have hrr : RowRd w1 (.slice (some ⟨gg, 0, none⟩) (s.R.length + 1) cap) (s.R ++ [⟨n, c, s.rd + 1, 0, false⟩]) := by simpa [RowRd, rdsL] using hown1
  have Hx := Lib.hid (rv_post (F1 := []) (R' := s.R ++ [⟨n, c, s.rd + 1, 0, false⟩]) (q' := s.q) HA.out HF.out (HU.out.mono (by simp; exact .inl (HF.out f (by simp [foot])).1)) hrr (by intro k hk; simp [Value.ownBlock] at hk; subst hk; rcases hat with e | e; exact .inl e; exact .inr ⟨by omega, hlt⟩) uW hbx)
  refine hK _ _ (fun _ => ⟨hb1, hb2⟩) ?_
  simp only [Act.put, List.setIfInBounds_toArray, List.set_cons_zero, List.set_cons_succ]
  clear hK K hown1 hgrow hat hlt hrow hW hS0 HfW HBW uW hbx hrr hb0
  iterate 2 (refine lex_do rfl (fun K hK => ?_); go_simp; refine hK _ _ (fun _ => ⟨hb1, hb2⟩) ?_; clear hK K; try simp only [Act.put, List.setIfInBounds_toArray, List.set_cons_zero, List.set_cons_succ])
  have hlf1 := hb1.lt
  clear hb1 hb2
  refine lex_do rfl (fun K hK => ?_)
  go_simp
  refine hK _ _ (fun h => absurd rfl h) ?_
  clear hK K
  try simp only [Act.put, List.setIfInBounds_toArray, List.set_cons_zero, List.set_cons_succ]
  refine lex_nil ?_
  have hne : (⟨f, 3, none⟩ : Addr) ≠ ⟨f, 1, none⟩ := by simp
  go_wp2_with fail
  go_ret2
  exact ⟨⟨_, rfl⟩, Hx.out⟩
end Go.Proofs.Ytenmcllnddmdhaa
