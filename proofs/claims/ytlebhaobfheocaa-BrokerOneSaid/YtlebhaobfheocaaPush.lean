/- heap.Heap's Push. -/
import Derived.Test.YtlebhaobfheocaaSmall
import Derived.Deep.AppendLies
set_option linter.unusedVariables false
set_option linter.unusedSimpArgs false
namespace Go.Proofs.Ytlebhaobfheocaa
open Go.RowKit Go.Lb Go.Hp

theorem Try.info77 : (Try.prog.info? 77).map (fun i => (i.zero, i.size, i.bytes)) = some (some (.agg #[.pointer none, .int .i64 0]), 2, 16) := by kernel_rfl

theorem own_some {w : World} {base e k n : Nat} {v : Value} {xs : List Value} (h : w.ownsRow base e k v n xs) (hn : 0 < n) : ∃ g c, v = .slice (some ⟨g, 0, none⟩) n c := by
  rcases h.2 with ⟨_, h0⟩ | ⟨g, c, _, h1, _⟩
  · omega
  · exact ⟨g, c, h1⟩

def PushPost (w : World) (b : Nat) (v : Value) (L : List It) (x : It) (w' : World) : Prop :=
  ∃ v', HeapAt w' b v' (L ++ [x]) x.born ∧ Upd (b :: v.ownBlock.toList) w w' ∧ (∀ s, v'.ownBlock = some s → v.ownBlock = some s ∨ w.heap.size ≤ s)

theorem push_post {w wc W w1 : World} {b g c' : Nat} {v : Value} {L : List It} {x : It} (hwc : Upd [b] w wc) (h : HeapAt wc b v L x.born) (hx : EvAt wc x.p x.ev ∧ x.p ≠ b ∧ v.ownBlock ≠ some x.p) (hW : Upd [] wc W) (hg : W.grownBy w1 v.ownBlock)
    (ho : w1.ownsRow 0 77 2 (.slice (some ⟨g, 0, none⟩) (L.length + 1) c') (L.length + 1) ((vals L).flatten ++ x.vals)) (hgb : v.ownBlock = some g ∨ g = W.heap.size) (hg0 : ∀ y ∈ L ++ [x], y.p < wc.heap.size) :
    PushPost w b v L x (w1.setCell ⟨b, 0, none⟩ (.slice (some ⟨g, 0, none⟩) (L.length + 1) c')) := by
  have hsz := hwc.size
  have hsz2 := hW.size
  have hbW := (hW.blk h.blk (by simp))
  have hb2 : Blk w1 b 75 [v, .int .i64 x.born] := (hg.block b hbW.lt (fun e => h.ne e.symm)).trans hbW
  have hgb2 : g ≠ b := by
    rcases hgb with e | e
    · intro e2; exact h.ne (by rw [e, e2])
    · intro e2
      have := h.blk.lt; omega
  have uW : Upd v.ownBlock.toList wc w1 := (hW.mono (by simp)).grown hg (by intro k hk; simp [hk])
  have uS : Upd [b] w1 (w1.setCell ⟨b, 0, none⟩ (.slice (some ⟨g, 0, none⟩) (L.length + 1) c')) := (Upd.refl _ _).setCell (by simp) _
  refine ⟨_, ⟨hb2.set 0 _, ?_, by simp [Value.ownBlock, hgb2], fun y hy => ?_⟩, ?_, ?_⟩
  · have := (ownsRow_setCell_other ho (a := ⟨b, 0, none⟩) (by simp [Value.ownBlock, hgb2]) (.slice (some ⟨g, 0, none⟩) (L.length + 1) c'))
    simpa [vals, It.vals] using this
  · have hy' : EvAt wc y.p y.ev ∧ y.p ≠ b ∧ v.ownBlock ≠ some y.p := by
      rcases List.mem_append.1 hy with h1 | h1
      · exact h.ev y h1
      · obtain rfl : y = x := by simpa using h1
        exact hx
    refine ⟨(hy'.1.upd uW (by simpa using hy'.2.2)).upd uS (by simpa using hy'.2.1), hy'.2.1, ?_⟩
    simp only [Value.ownBlock, ne_eq, Option.some.injEq]
    rintro rfl
    rcases hgb with e | e
    · exact hy'.2.2 e
    · have := hg0 y hy; omega
  · refine ((hwc.mono (by simp)).trans uW (fun k hk => .inl (by simp at hk; simp [hk]))).trans uS (by simp)
  · intro s hs
    simp only [Value.ownBlock, Option.some.injEq] at hs
    subst hs
    rcases hgb with e | e
    · exact .inl e
    · exact .inr (by omega)

theorem upI_snoc {L : List It} (x : It) (h : Heaped leI L.length 0 (fun i => L.getD i default)) : UpI leI (L ++ [x]).length (fun i => (L ++ [x]).getD i default) L.length := by
  rw [List.length_append, List.length_singleton]
  refine upI_push fun i hi hin hm => ?_
  have hp : par i < L.length := by unfold par; omega
  have := h i hi hin hm
  simp only [List.getD_eq_getElem?_getD] at this ⊢
  rwa [List.getElem?_append_left hin, List.getElem?_append_left hp]

theorem build77 (p : Nat) (k : Int) (w : World) : (Instr.build 77 #[(0, .pointer (some ⟨p, 0, none⟩)), (1, .int .i64 k)]).run Try.prog w = .ok (.agg #[.pointer (some ⟨p, 0, none⟩), .int .i64 k]) w := by kernel_rfl
theorem buildSlice73 (p : Nat) (k : Int) (w : World) : (Instr.buildSlice 73 1 #[(0, .agg #[.pointer (some ⟨p, 0, none⟩), .int .i64 k])]).run Try.prog w = .ok (.slice (some ⟨w.heap.size, 0, none⟩) 1 1) (w.alloc (.cells #[.pointer (some ⟨p, 0, none⟩), .int .i64 k] 77)) := by kernel_rfl

set_option maxHeartbeats 1000000 in
theorem push_any (b : Nat) (v : Value) (L : List It) (born : Int) (p : Nat) (ev : Ev) (w : World) (h : HeapAt w b v L born) (hp : EvAt w p ev ∧ p ≠ b ∧ v.ownBlock ≠ some p) (hL : L.length ≤ 8796093022206) (hb0 : 0 ≤ born) (hb1 : born ≤ 8796093022206)
    (hh : Heaped leI L.length 0 (fun x => L.getD x default)) :
    Calls Try.prog 29 #[.pointer (some ⟨b, 0, none⟩), .pointer (some ⟨p, 0, none⟩)] w fun e w' => e = .returned (.tuple #[]) ∧
      ∃ v' L', HeapAt w' b v' L' (born + 1) ∧ L'.Perm (L ++ [⟨p, ev, born + 1⟩]) ∧ Heaped leI L'.length 0 (fun x => L'.getD x default) ∧ Upd (b :: v.ownBlock.toList) w w' ∧ ∀ s, v'.ownBlock = some s → v.ownBlock = some s ∨ w.heap.size ≤ s := by
  obtain ⟨i0, hi, hz0, hz1, hz2⟩ := info_parts Try.info77
  obtain ⟨a, c, rfl⟩ := h.shape
  have h1 := h.blk.cell (o := 1) rfl
  have f1 := h.blk.frozen 1
  have hb := h.blk.lt
  have us : Upd [b] w (w.setCell ⟨b, 1, none⟩ (.int .i64 (born + 1))) := (Upd.refl _ _).setCell (by simp) _
  have hA : HeapAt (w.setCell ⟨b, 1, none⟩ (.int .i64 (born + 1))) b (.slice a L.length c) L (born + 1) :=
    ⟨h.blk.set 1 _, us.row h.row (by intro k hk; simp; rintro rfl; exact h.ne hk), h.ne, fun x hx => ⟨(h.ev x hx).1.upd us (by simpa using (h.ev x hx).2.1), (h.ev x hx).2⟩⟩
  have hpA : EvAt (w.setCell ⟨b, 1, none⟩ (.int .i64 (born + 1))) p ev := hp.1.upd us (by simpa using hp.2.1)
  have HA := Lib.hid hA
  have HpA := Lib.hid hpA
  have HU := Lib.hid us
  have Hp := Lib.hid hp.2
  have Hh2 := Lib.hid hh
  clear h hh hA us hp hpA
  go_enter Try.func29, Try.ntmps29
  go_upto_region 2 with fail
  go_cut [23] (fun _ w2 => PushPost w b (.slice a L.length c) L ⟨p, ev, born + 1⟩ w2)
  case first =>
    go_wp2_with fail
    generalize w.setCell ⟨b, 1, none⟩ (.int .i64 (born + 1)) = wA at *
    clear h1 f1
    have hbA := HA.out.blk.lt
    refine wp_region_lex (fun w' => Blk w' b 75 [.slice a L.length c, .int .i64 (born + 1)]) 15 [(0, true), (1, true), (2, true), (3, true), (4, true), (5, true), (6, true), (7, true), (8, true), (9, true), (10, true), (11, false), (12, false), (13, false), (14, false), (15, false)] (by kernel_rfl) (by kernel_rfl) (by kernel_rfl) (by kernel_rfl) (fun _ _ d _ _ h => by cases d <;> exact h) ?_
    simp only [lexOps, List.map_cons, List.map_nil, List.getD_cons_zero, List.getD_cons_succ]
    have hS0 : Blk wA.drew b 75 [.slice a L.length c, .int .i64 (born + 1)] := HA.out.blk
    iterate 10 (refine lex_read rfl (by exact hS0) (v := ?_) (fun w' hw => ?_) ?_; rotate_left; (focus (have q0 := hw.cell (o := 0) rfl; have q1 := hw.cell (o := 1) rfl; go_simp; try with_reducible rfl)); simp only [Act.put, List.setIfInBounds_toArray, List.set_cons_zero, List.set_cons_succ])
    refine lex_read rfl (by exact hS0) (fun w' hw => exec_build (by rfl) (by simp [Act.eval]) (build77 p (born + 1) _)) ?_
    simp only [Act.put, List.setIfInBounds_toArray, List.set_cons_zero, List.set_cons_succ]
    refine lex_run rfl (exec_buildSlice (by rfl) (by simp [Act.eval]) (buildSlice73 p (born + 1) _)) (fun _ => hS0.alloc _) ?_
    simp only [Act.put, List.setIfInBounds_toArray, List.set_cons_zero, List.set_cons_succ]
    have hW : Upd [] wA (wA.drew.alloc (.cells #[.pointer (some ⟨p, 0, none⟩), .int .i64 (born + 1)] 77)) := ((Upd.refl [] wA).drew).alloc _
    have hrow := (HA.out.any hW).row
    refine lex_do rfl (fun K hK => ?_)
    refine wp_append_lies _ _ _ 73 (by rfl) 0 77 i0 _ 2 16 Try.underlying73 hi hz0 hz1 hz2 rfl (by omega) (.slice a L.length c) L.length (vals L).flatten (by rfl) hrow _ 1 1 [.pointer (some ⟨p, 0, none⟩), .int .i64 (born + 1)] (by rfl) (by rfl) (Blk.news (Blk.new wA.drew 77 [.pointer (some ⟨p, 0, none⟩), .int .i64 (born + 1)])) (by simp [Value.oneCell']) (by omega) (by unfold maxLen; omega) (by omega) (by simp) _ rfl ?_
    intro gg cap w1 hown1 hgrow hat hlt
    have HfW := hW.blk HA.out.blk (by simp)
    have hWs := hW.size
    generalize wA.drew.alloc (.cells #[.pointer (some ⟨p, 0, none⟩), .int .i64 (born + 1)] 77) = W at *
    have hb1 : Blk w1 b 75 _ := (hgrow.block b HfW.lt (fun e => HA.out.ne e.symm)).trans HfW
    have q0 := hb1.cell (o := 0) rfl
    have q1 := hb1.frozen 0
    have Hx := Lib.hid (push_post (x := ⟨p, ev, born + 1⟩) HU.out HA.out ⟨HpA.out, Hp.out⟩ hW hgrow hown1 hat (fun y hy => by
      rcases List.mem_append.1 hy with h1 | h1
      · exact (HA.out.ev y h1).1.lt
      · obtain rfl : y = ⟨p, ev, born + 1⟩ := by simpa using h1
        exact HpA.out.lt))
    refine hK _ _ (fun _ => hb1) ?_
    simp only [Act.put, List.setIfInBounds_toArray, List.set_cons_zero, List.set_cons_succ]
    clear hK K hown1 hgrow hat hlt hrow hW hS0 HfW
    iterate 2 (refine lex_do rfl (fun K hK => ?_); go_simp; refine hK _ _ (fun _ => hb1) ?_; clear hK K; try simp only [Act.put, List.setIfInBounds_toArray, List.set_cons_zero, List.set_cons_succ])
    refine lex_do rfl (fun K hK => ?_)
    go_simp
    refine hK _ _ (fun h => absurd rfl h) ?_
    clear hK K
    try simp only [Act.put, List.setIfInBounds_toArray, List.set_cons_zero, List.set_cons_succ]
    refine lex_nil ?_
    go_wp2_with fail
    go_meet
    exact Hx.out
  case rest =>
    clear h1 f1 hb
    obtain ⟨v', hH, hU, hv⟩ := hcut
    obtain ⟨s, c', rfl, -, -, -, -⟩ := hH.isSome (by simp)
    have h0 := hH.blk.cell (o := 0) rfl
    have hs0 : (L ++ [(⟨p, ev, born + 1⟩ : It)]).length = L.length + 1 := by simp
    rw [hs0] at h0
    have Hs := Lib.hid hs0
    clear hs0
    go_wp2_with fail
    refine (up_any b _ _ _ _ hH L.length (by simp) (by simp; omega) (upI_snoc _ Hh2.out)).mono ?_
    rintro e w3 ⟨rfl, L', hH3, hP3, hp3, hU3⟩
    go_wp2_with fail
    go_end0
    refine ⟨rfl, _, L', hH3, hP3, by rw [hP3.length_eq]; exact hp3, hU.trans hU3 ?_, hv⟩
    intro x hx
    rcases hv x (by simpa using hx) with h1 | h1
    · exact .inl (by simp [h1])
    · exact .inr h1

end Go.Proofs.Ytlebhaobfheocaa
