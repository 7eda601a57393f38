/- front.New, Wait. -/
import Derived.Test.YtenmcllnddmdhaaFront
import Derived.Deep.RegionLaw
import Derived.Test.YtenmcllnddmdhaaLex
import Derived.Deep.AppendLies
import Derived.Carry
set_option linter.unusedVariables false
set_option linter.unusedSimpArgs false
namespace Go.Proofs.Ytenmcllnddmdhaa
open Go.RowKit Go.Lb Go.Conc

def FPost (w : World) (f : Nat) (F : List Nat) (s : Said) (w' : World) : Prop :=
  ∃ F', FrontIs w' f F' s ∧ Upd F w w' ∧ ∀ k ∈ F', k ∈ F ∨ w.heap.size ≤ k

theorem new_ok (w : World) : Calls Try.prog 5 #[] w fun e w' => ∃ f F, e = .returned (.pointer (some ⟨f, 0, none⟩)) ∧ FrontIs w' f F Said.none ∧ Upd [] w w' ∧ ∀ k ∈ F, w.heap.size ≤ k := by
  have hmm := @run_makeMap Try.prog
  have hm := Lib.hid (MapIs.new w)
  go_enter Try.func5, Try.ntmps5
  go_wp2_with fail
  refine (newBox_ok 256 _ (by decide) (by decide)).mono ?_
  rintro e w1 ⟨b, c, rfl, hb, hu, hlb, hlc⟩
  have hs := hu.size
  simp only [World.size_alloc] at hs hlb hlc
  have Hb := Lib.hid hb
  have Hm := Lib.hid (hm.out.upd hu (by simp))
  have Hu := Lib.hid (((Upd.refl [] w).alloc (.map #[] 0)).trans hu (by simp))
  clear hb hu
  go_wp2_with fail
  go_ret
  have hB := Blk.new w1 79 [.slice none 0 0, .slice none 0 0, .map (some w.heap.size), .int .i64 0, .int .i64 0, .pointer (some ⟨b, 0, none⟩)]
  have hlt := Hb.out.blk.lt
  obtain ⟨s, r, hch⟩ := Hb.out.ch
  have hlt2 := lt_of_block hch
  have hne := Hb.out.ne
  refine ⟨w1.heap.size, [w1.heap.size, w.heap.size, b, c], rfl, ⟨⟨.slice none 0 0, .slice none 0 0, w.heap.size, b, c⟩, ⟨hB, World.ownsRow_nil _ _ _ _, World.ownsRow_nil _ _ _ _, Hm.out.upd ((Upd.refl [] _).alloc _) (by simp), Hb.out.upd ((Upd.refl [] _).alloc _) (by simp) (by simp), ?_, by simp [Value.ownBlock], by simp [Value.ownBlock]⟩, ?_⟩, Hu.out.alloc _, ?_⟩
  · simp; omega
  · simp [foot, Value.ownBlock]; omega
  · simp; omega

theorem wait_full (f : Nat) (F : List Nat) (s : Said) (ix tm n c : Int) (w : World) (h : FrontIs w f F s) (hl : 64 ≤ s.L.length) :
    Calls Try.prog 7 #[.pointer (some ⟨f, 0, none⟩), .int .i64 ix, .int .i64 tm, .agg (whoL n c).toArray] w fun e w' => e = .returned (.int .i64 2) ∧ FPost w f F s w' := by
  have H := Lib.hid h
  clear h
  go_enter Try.func7, Try.ntmps7
  go_wp2_with fail
  refine (full_any f F s _ (H.out.upd ((Upd.refl [] w).alloc _) (by simp))).mono ?_
  rintro e w1 ⟨rfl, rfl⟩
  have hd : decide (64 ≤ s.L.length) = true := by simpa using hl
  go_wp2_with fail
  go_ret
  exact ⟨rfl, F, H.out.upd ((Upd.refl [] w).alloc _) (by simp), (Upd.refl _ _).alloc _, fun k hk => .inl hk⟩

theorem info81 : ∃ i, Try.prog.info? 81 = some i ∧ i.zero = some (.agg (Wt.vals ⟨0, 0, 0, 0⟩).toArray) ∧ i.size = 33 ∧ i.bytes = 352 := by
  obtain ⟨i, h1, h2, h3, h4⟩ := info_parts (show (Try.prog.info? 81).map (fun i => (i.zero, i.size, i.bytes)) = some (some (.agg (Wt.vals ⟨0, 0, 0, 0⟩).toArray), 33, 352) by kernel_rfl)
  exact ⟨i, h1, h2, h3, h4⟩

theorem wait_post {w wA W w1 : World} {f g cap : Nat} {F : List Nat} {p : Parts} {s : Said} {x : Wt} (h : FrontAt wA f p s) (hF : ∀ k ∈ foot f p, k ∈ F ∧ k < w.heap.size) (hU : Upd [] w wA) (hW : Upd [] wA W)
    (ho : w1.ownsRow 0 81 33 (.slice (some ⟨g, 0, none⟩) (s.L.length + 1) cap) (s.L.length + 1) ((wtsL s.L).flatten ++ x.vals)) (hg : W.grownBy w1 p.v.ownBlock) (hgb : p.v.ownBlock = some g ∨ g = W.heap.size) (hlt : g < w1.heap.size) :
    FPost w f F { s with L := s.L ++ [x] } (w1.setCell ⟨f, 0, none⟩ (.slice (some ⟨g, 0, none⟩) (s.L.length + 1) cap)) := by
  have hs := hU.size
  have hs2 := hW.size
  have hs3 := hg.size
  have uW : Upd p.v.ownBlock.toList wA w1 := (hW.mono (by simp)).grown hg (by intro k hk; simp [hk])
  have hv : ∀ k ∈ p.v.ownBlock.toList, k ∈ foot f p := by intro k hk; simp [foot] at hk ⊢; simp [hk]
  have mem : ∀ k ∈ [f, p.m, p.b, p.c], k ∈ foot f p := by intro k hk; simp only [foot, List.mem_append]; exact .inl (.inl hk)
  have av : ∀ k ∈ [f, p.m, p.b, p.c], k ∉ p.v.ownBlock.toList := by
    intro k hk hk2
    exact h.av k (by simpa using hk2) hk
  have gn : ∀ k ∈ [f, p.m, p.b, p.c], g ≠ k := by
    rintro k hk rfl
    rcases hgb with e | e
    · exact h.av _ e hk
    · have := (hF _ (mem _ hk)).2; omega
  have nd := h.nd
  simp only [List.nodup_cons, List.mem_cons, List.not_mem_nil, or_false, not_or, not_false_eq_true, List.nodup_nil, and_true] at nd
  have hBf := uW.blk h.blk (av f (by simp))
  have uS : Upd [f] w1 (w1.setCell ⟨f, 0, none⟩ (.slice (some ⟨g, 0, none⟩) (s.L.length + 1) cap)) := (Upd.refl _ _).setCell (by simp) _
  have ar1 : ∀ k, p.rv.ownBlock = some k → k ∉ p.v.ownBlock.toList := by
    intro k hk hk2
    exact (h.ar k hk).2 (by simpa using hk2)
  have rf : ∀ k, p.rv.ownBlock = some k → k ∈ foot f p := by intro k hk; simp [foot, hk]
  refine ⟨g :: foot f p, ⟨⟨.slice (some ⟨g, 0, none⟩) (s.L.length + 1) cap, p.rv, p.m, p.b, p.c⟩, ⟨hBf.set 0 _, ?_, ?_, ?_, ?_, h.nd, ?_, ?_⟩, ?_⟩, ?_, ?_⟩
  · have := uS.row ho (by intro k hk; simp [Value.ownBlock] at hk; subst hk; simpa using gn f (by simp))
    simpa [RowWt, wtsL] using this
  · exact uS.row (uW.row h.rowR ar1) (by intro k hk; have := (h.ar k hk).1; simp at this; simp [this.1])
  · exact (h.map.upd uW (av _ (by simp))).upd uS (by simpa using fun e => nd.1.1 e.symm)
  · exact (h.box.upd uW (av _ (by simp)) (av _ (by simp))).upd uS (by simpa using fun e => nd.1.2.1 e.symm) (by simpa using fun e => nd.1.2.2 e.symm)
  · intro k hk
    simp only [Value.ownBlock, Option.some.injEq] at hk
    subst hk
    intro hm
    exact gn _ hm rfl
  · intro k hk
    refine ⟨(h.ar k hk).1, ?_⟩
    simp only [Value.ownBlock, ne_eq, Option.some.injEq]
    rintro rfl
    rcases hgb with e | e
    · exact (h.ar _ hk).2 e
    · have := (hF _ (rf _ hk)).2; omega
  · intro k hk
    simp only [foot, Value.ownBlock, Option.toList, List.mem_append, List.mem_singleton] at hk
    simp only [World.size_setCell, List.mem_cons]
    rcases hk with (hk | hk) | hk
    · have := (hF k (mem _ hk)).2; exact ⟨.inr (mem _ hk), by omega⟩
    · subst hk; exact ⟨.inl rfl, hlt⟩
    · have hk := Option.mem_toList.1 hk
      have := (hF k (rf _ hk)).2
      exact ⟨.inr (rf _ hk), by omega⟩
  · refine ((hU.mono (by simp)).trans uW (fun k hk => .inl ?_)).trans uS (fun k hk => .inl ?_)
    · exact (hF k (hv k hk)).1
    · simp only [List.mem_singleton] at hk
      subst hk
      exact (hF _ (mem _ (by simp))).1
  · intro k hk
    rcases List.mem_cons.1 hk with rfl | hk
    · rcases hgb with e | e
      · exact .inl (hF _ (hv _ (by simp [e]))).1
      · exact .inr (by omega)
    · exact .inl (hF k hk).1

theorem build81 (n c ix tm : Int) (w : World) : (Instr.build 81 #[(0, .agg (whoL n c).toArray), (1, .int .i64 ix), (2, .int .i64 tm)]).run Try.prog w = .ok (.agg (Wt.vals ⟨n, c, ix, tm⟩).toArray) w := by kernel_rfl
theorem buildSlice76 (n c ix tm : Int) (w : World) : (Instr.buildSlice 76 1 #[(0, .agg (Wt.vals ⟨n, c, ix, tm⟩).toArray)]).run Try.prog w = .ok (.slice (some ⟨w.heap.size, 0, none⟩) 1 1) (w.alloc (.cells (Wt.vals ⟨n, c, ix, tm⟩).toArray 81)) := by kernel_rfl

theorem cell?_alloc_some' {W : World} {a : Addr} {v : Value} (o : Obj) (h : W.cell? a = some v) : (W.drew.alloc o).cell? a = some v := Go.Lib.cell?_alloc_some (W := W.drew) o h

set_option maxRecDepth 100000 in
set_option maxHeartbeats 3200000 in
theorem wait_ok (f : Nat) (F : List Nat) (s : Said) (ix tm n c : Int) (w : World) (h : FrontIs w f F s) (hl : s.L.length < 64) :
    Calls Try.prog 7 #[.pointer (some ⟨f, 0, none⟩), .int .i64 ix, .int .i64 tm, .agg (whoL n c).toArray] w fun e w' => e = .returned (.int .i64 0) ∧ FPost w f F { s with L := s.L ++ [⟨n, c, ix, tm⟩] } w' := by
  obtain ⟨i0, hi, hz0, hz1, hz2⟩ := info81
  have H := Lib.hid h
  clear h
  go_enter Try.func7, Try.ntmps7
  go_wp2_with fail
  refine (full_any f F s _ (H.out.upd ((Upd.refl [] w).alloc _) (by simp))).mono ?_
  rintro e w1 ⟨rfl, rfl⟩
  have hd : decide (64 ≤ s.L.length) = false := by simpa using hl
  have HB := Blk.new w 44 (whoL n c)
  obtain ⟨p, hA0, hF⟩ := H.out
  have hA := hA0.upd ((Upd.refl [] w).alloc (.cells (whoL n c).toArray 44)) (by simp)
  have HU := Lib.hid ((Upd.refl [] w).alloc (.cells (whoL n c).toArray 44))
  generalize w.alloc (.cells (whoL n c).toArray 44) = wA at *
  obtain ⟨a, cc, hv⟩ := own_shape hA.rowL
  have h0 := hA.blk.cell (o := 0) rfl
  rw [hv] at h0
  have H2 := Lib.hid hA
  have HF := Lib.hid hF
  have hB := Lib.hid HB
  have hlf := Lib.hid hA.blk.lt
  clear hA hF hA0 HB
  go_wp2_with fail
  have hfoot : f < wA.heap.size := hlf.out
  have hbb := hB.out.lt
  have hfb : w.heap.size ≠ f := fun e => Nat.lt_irrefl _ (e ▸ (HF.out f (by simp [foot])).2)
  refine wp_region_lex (fun w' => w'.cell? ⟨f, 0, none⟩ = some (.slice a s.L.length cc) ∧ Blk w' w.heap.size 44 (whoL n c)) 13 [(0, true), (1, true), (2, true), (3, true), (4, true), (5, true), (6, true), (7, true), (8, true), (9, false), (10, false), (11, false), (12, false), (13, false)] (by kernel_rfl) (by kernel_rfl) (by kernel_rfl) (by kernel_rfl) (fun _ _ d _ _ h => by cases d <;> exact h) ?_
  simp only [lexOps, List.map_cons, List.map_nil, List.getD_cons_zero, List.getD_cons_succ]
  have hS0 : wA.drew.cell? ⟨f, 0, none⟩ = some (.slice a s.L.length cc) ∧ Blk wA.drew w.heap.size 44 (whoL n c) := ⟨h0, hB.out⟩
  iterate 5 (refine lex_read rfl (by exact hS0) (v := ?_) (fun w' hw => ?_) ?_; rotate_left; (focus (obtain ⟨k1, k2⟩ := hw; go_simp; try with_reducible rfl)); simp only [Act.put, List.setIfInBounds_toArray, List.set_cons_zero, List.set_cons_succ])
  refine lex_read rfl (by exact hS0) (fun w' hw => exec_load (by rfl) (by rfl) (run_load_blk hw.2 44 _ Try.underlying44 rfl (by exact Try.size44))) ?_
  simp only [Act.put, List.setIfInBounds_toArray, List.set_cons_zero, List.set_cons_succ]
  iterate 2 (refine lex_read rfl (by exact hS0) (v := ?_) (fun w' hw => ?_) ?_; rotate_left; (focus (obtain ⟨k1, k2⟩ := hw; go_simp; try with_reducible rfl)); simp only [Act.put, List.setIfInBounds_toArray, List.set_cons_zero, List.set_cons_succ])
  refine lex_read rfl (by exact hS0) (fun w' hw => exec_build (by rfl) (by simp [Act.eval]) (build81 n c ix tm _)) ?_
  simp only [Act.put, List.setIfInBounds_toArray, List.set_cons_zero, List.set_cons_succ]
  refine lex_run rfl (exec_buildSlice (by rfl) (by simp [Act.eval]) (buildSlice76 n c ix tm _)) (fun _ => ⟨cell?_alloc_some' _ h0, hB.out.alloc _⟩) ?_
  simp only [Act.put, List.setIfInBounds_toArray, List.set_cons_zero, List.set_cons_succ]
  have hW : Upd [] wA (wA.drew.alloc (.cells (Wt.vals ⟨n, c, ix, tm⟩).toArray 81)) := ((Upd.refl [] wA).drew).alloc _
  have hrow : (wA.drew.alloc (.cells (Wt.vals ⟨n, c, ix, tm⟩).toArray 81)).ownsRow 0 81 33 (.slice a s.L.length cc) s.L.length (wtsL s.L).flatten := by
    have := (H2.out.upd (G := []) hW (by simp)).rowL
    rw [hv] at this
    exact this
  refine lex_do rfl (fun K hK => ?_)
  refine wp_append_lies _ _ _ 76 (by rfl) 0 81 i0 _ 33 352 Try.underlying76 hi hz0 hz1 hz2 rfl (by omega) (.slice a s.L.length cc) s.L.length (wtsL s.L).flatten (by rfl) hrow _ 1 1 (Wt.vals ⟨n, c, ix, tm⟩) (by rfl) (by rfl) (Blk.news (Blk.new wA.drew 81 (Wt.vals ⟨n, c, ix, tm⟩))) (Wt.one _) (by omega) (by unfold maxLen; omega) (by omega) (by simp) _ rfl ?_
  intro gg cap w1 hown1 hgrow hat hlt
  have HBW := hW.blk hB.out (by simp)
  have HfW := hW.blk H2.out.blk (by simp)
  generalize wA.drew.alloc (.cells (Wt.vals ⟨n, c, ix, tm⟩).toArray 81) = W at *
  have hgrow' := hgrow
  rw [← hv] at hgrow hat
  have hb1 : Blk w1 f 79 _ := (hgrow.block f HfW.lt (fun e => H2.out.av f e.symm (by simp))).trans HfW
  have hb2 : Blk w1 w.heap.size 44 (whoL n c) := (hgrow.block w.heap.size HBW.lt (fun e => Nat.lt_irrefl _ (HF.out w.heap.size (by simp [foot, ← e])).2)).trans HBW
  have q0 := hb1.cell (o := 0) rfl
  rw [hv] at q0
  have q1 := hb1.frozen 0
  have Hx := Lib.hid (wait_post (x := ⟨n, c, ix, tm⟩) H2.out HF.out HU.out hW hown1 hgrow hat hlt)
  refine hK _ _ (fun _ => ⟨q0, hb2⟩) ?_
  simp only [Act.put, List.setIfInBounds_toArray, List.set_cons_zero, List.set_cons_succ]
  clear hK K hown1 hgrow hgrow' hat hlt hb1 hrow hW h0 hS0 HfW HBW
  iterate 2 (refine lex_do rfl (fun K hK => ?_); go_simp; refine hK _ _ (fun _ => ⟨q0, hb2⟩) ?_; clear hK K; try simp only [Act.put, List.setIfInBounds_toArray, List.set_cons_zero, List.set_cons_succ])
  refine lex_do rfl (fun K hK => ?_)
  go_simp
  refine hK _ _ (fun h => absurd rfl h) ?_
  clear hK K
  try simp only [Act.put, List.setIfInBounds_toArray, List.set_cons_zero, List.set_cons_succ]
  refine lex_nil ?_
  go_wp2_with fail
  go_ret
  exact ⟨rfl, Hx.out⟩

end Go.Proofs.Ytenmcllnddmdhaa
