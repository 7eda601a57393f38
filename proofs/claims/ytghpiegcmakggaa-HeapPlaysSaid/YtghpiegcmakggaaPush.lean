/- heap.Heap's Push. -/
import Derived.Test.YtghpiegcmakggaaSmall
import Derived.Deep.RegionLaw
set_option linter.unusedVariables false
set_option linter.unusedSimpArgs false
namespace Go.Proofs.Ytghpiegcmakggaa
open Go.RowKit Go.Lb Go.Hp

theorem Try.info55 : (Try.prog.info? 55).map (fun i => (i.zero, i.size, i.bytes)) = some (some (.agg #[.int .i64 0, .int .i64 0, .int .i64 0]), 3, 24) := by kernel_rfl

structure PushMid (w : World) (b : Nat) (v : Value) (L : List It) (born k t : Int) (wc : World) : Prop where
  heap : HeapAt wc b v L born
  upd : Upd [b] w wc
  lt : w.heap.size < wc.heap.size
  c0 : wc.cell? ⟨w.heap.size, 0, none⟩ = some (.int .i64 k)
  c1 : wc.cell? ⟨w.heap.size, 1, none⟩ = some (.int .i64 t)

theorem after_append {wc W w' : World} {b : Nat} {v : Value} {L : List It} {born : Int} (h : HeapAt wc b v L born) (hW : Upd [] wc W) (hg : W.grownBy w' v.ownBlock) :
    w'.cell? ⟨b, 0, none⟩ = some v ∧ w'.frozen? ⟨b, 0, none⟩ = false ∧ Blk w' b 53 [v, .int .i64 born] := by
  have hb := hW.blk h.blk (by simp)
  have h2 : Blk w' b 53 [v, .int .i64 born] := (hg.block b hb.lt (fun e => h.ne e.symm)).trans hb
  exact ⟨h2.cell rfl, h2.frozen 0, h2⟩

theorem own_some {w : World} {base e k n : Nat} {v : Value} {xs : List Value} (h : w.ownsRow base e k v n xs) (hn : 0 < n) : ∃ g c, v = .slice (some ⟨g, 0, none⟩) n c := by
  rcases h.2 with ⟨_, h0⟩ | ⟨g, c, _, h1, _⟩
  · omega
  · exact ⟨g, c, h1⟩

def PushPost (w : World) (b : Nat) (v : Value) (L : List It) (k t born : Int) (w' : World) : Prop :=
  ∃ v', HeapAt w' b v' (L ++ [⟨k, t, born⟩]) born ∧ Upd (b :: v.ownBlock.toList) w w' ∧ (∀ s, v'.ownBlock = some s → v.ownBlock = some s ∨ w.heap.size ≤ s)

theorem push_post {w wc W w1 : World} {b g c' : Nat} {v : Value} {L : List It} {k t born : Int} (h : PushMid w b v L born k t wc) (hW : Upd [] wc W) (hg : W.grownBy w1 v.ownBlock)
    (ho : w1.ownsRow 0 55 3 (.slice (some ⟨g, 0, none⟩) (L.length + 1) c') (L.length + 1) ((vals L).flatten ++ [.int .i64 k, .int .i64 t, .int .i64 born])) (hgb : some g = v.ownBlock ∨ some g = some W.heap.size) :
    PushPost w b v L k t born (w1.setCell ⟨b, 0, none⟩ (.slice (some ⟨g, 0, none⟩) (L.length + 1) c')) := by
  have hb2 := (after_append h.heap hW hg).2.2
  have hbW : b < W.heap.size := (hW.blk h.heap.blk (by simp)).lt
  have hsz := h.upd.size
  have hsz2 := hW.size
  have hgb2 : g ≠ b := by
    rcases hgb with e | e
    · intro e2; exact h.heap.ne (by rw [← e, e2])
    · simp at e; omega
  refine ⟨_, ⟨hb2.set 0 _, ?_, by simp [Value.ownBlock, hgb2]⟩, ?_, ?_⟩
  · have := (ownsRow_setCell_other ho (a := ⟨b, 0, none⟩) (by simp [Value.ownBlock, hgb2]) (.slice (some ⟨g, 0, none⟩) (L.length + 1) c'))
    simpa [vals, It.vals] using this
  · refine (Upd.setCell (Upd.grown ((h.upd.mono (by simp)).trans hW (by simp)) hg ?_) (by simp) _)
    intro x hx
    simp [hx]
  · intro s hs
    simp only [Value.ownBlock, Option.some.injEq] at hs
    subst hs
    rcases hgb with e | e
    · exact .inl e.symm
    · simp at e; exact .inr (by omega)

theorem upI_snoc {L : List It} (x : It) (h : Heaped leI L.length 0 (fun i => L.getD i default)) : UpI leI (L ++ [x]).length (fun i => (L ++ [x]).getD i default) L.length := by
  rw [List.length_append, List.length_singleton]
  refine upI_push fun i hi hin hm => ?_
  have hp : par i < L.length := by unfold par; omega
  have := h i hi hin hm
  simp only [List.getD_eq_getElem?_getD] at this ⊢
  rwa [List.getElem?_append_left hin, List.getElem?_append_left hp]

set_option maxHeartbeats 1000000 in
theorem push_any (b : Nat) (v : Value) (L : List It) (born : Int) (k t : Int) (w : World) (h : HeapAt w b v L born) (hL : L.length ≤ 5864062014804) (hb0 : 0 ≤ born) (hb1 : born ≤ 5864062014804)
    (hh : Heaped leI L.length 0 (fun x => L.getD x default)) :
    Calls Try.prog 10 #[.pointer (some ⟨b, 0, none⟩), .agg #[.int .i64 k, .int .i64 t]] w fun e w' => e = .returned (.tuple #[]) ∧
      ∃ v' L', HeapAt w' b v' L' (born + 1) ∧ L'.Perm (L ++ [⟨k, t, born + 1⟩]) ∧ Heaped leI L'.length 0 (fun x => L'.getD x default) ∧ Upd (b :: v.ownBlock.toList) w w' ∧ ∀ s, v'.ownBlock = some s → v.ownBlock = some s ∨ w.heap.size ≤ s := by
  obtain ⟨i0, hi, hz0, hz1, hz2⟩ := info_parts Try.info55
  obtain ⟨a, c, rfl⟩ := h.shape
  have h1 := h.blk.cell (o := 1) rfl
  have f1 := h.blk.frozen 1
  have hb := h.blk.lt
  have Hh := Lib.hid h
  clear h
  have Hh2 := Lib.hid hh
  clear hh
  go_enter Try.func10, Try.ntmps10
  go_upto_region 1 with fail
  go_cut [7] (fun _ wc => PushMid w b (.slice a L.length c) L (born + 1) k t wc)
  case first =>
    go_wp2_with fail
    go_meet
    have h := Hh.out
    have hne : b ≠ w.heap.size := by omega
    refine ⟨⟨(h.blk.set 1 _).alloc _, ?_, h.ne⟩, ((Upd.refl _ _).setCell (by simp) _).alloc _, by simp, ?_, ?_⟩
    · exact (ownsRow_setCell_other h.row (a := ⟨b, 1, none⟩) h.ne _).alloc _
    · have := (Blk.new (w.setCell ⟨b, 1, none⟩ (.int .i64 (born + 1))) 26 [.int .i64 k, .int .i64 t]).cell (o := 0) rfl
      rwa [World.size_setCell] at this
    · have := (Blk.new (w.setCell ⟨b, 1, none⟩ (.int .i64 (born + 1))) 26 [.int .i64 k, .int .i64 t]).cell (o := 1) rfl
      rwa [World.size_setCell] at this
  case rest =>
    have Hcut := Lib.hid hcut
    obtain ⟨hH, -, hlt, c0, c1⟩ := hcut
    have h0 := hH.blk.cell (o := 0) rfl
    have h1 := hH.blk.cell (o := 1) rfl
    have hb := hH.blk.lt
    have HH := Lib.hid hH
    clear hH f1
    go_upto_region 2 with fail
    go_cut [22, 23] (fun _ _ w2 => PushPost w b (.slice a L.length c) L k t (born + 1) w2)
    case first =>
      go_region_law (refine step_append_mine rfl _ _ 51 rfl 0 55 i0 _ 3 24 Try.underlying51 hi hz0 hz1 hz2 rfl (by decide) _ L.length (vals L).flatten rfl (HH.out.upd (F := []) (by repeat (first | exact Upd.refl _ _ | refine Upd.drew ?_ | refine Upd.alloc ?_ _)) (by simp) (by simp)).row _ 1 1 [.int .i64 k, .int .i64 t, .int .i64 (born + 1)] rfl rfl (Blk.news (Blk.new _ 55 [.int .i64 k, .int .i64 t, .int .i64 (born + 1)]).drew) (by simp [Value.oneCell']) (by unfold maxLen; omega) (by omega) (Nat.zero_le _) ?_; intro v' w' ho hg hgb; have hq := after_append HH.out (by repeat (first | exact Upd.refl _ _ | refine Upd.drew ?_ | refine Upd.alloc ?_ _)) hg; obtain ⟨q1, q2, _⟩ := hq; obtain ⟨g, c', rfl⟩ := own_some ho (by omega))
      all_goals
        go_wp2_with fail
        go_meet
        exact push_post Hcut.out (by repeat (first | exact Upd.refl _ _ | refine Upd.drew ?_ | refine Upd.alloc ?_ _)) hg ho hgb
    case rest =>
      clear h0 h1 c0 c1 hb hlt
      obtain ⟨v', hH, hU, hv⟩ := hcut
      obtain ⟨s, c', rfl, -, -, -, -⟩ := hH.isSome (by simp)
      have h0 := hH.blk.cell (o := 0) rfl
      have hs0 : (L ++ [(⟨k, t, born + 1⟩ : It)]).length = L.length + 1 := by simp
      rw [hs0] at h0
      have Hs := Lib.hid hs0
      clear hs0
      go_wp2_with fail
      refine (up_any b _ _ _ _ hH L.length (by simp) (by simp; omega) (upI_snoc _ Hh2.out)).mono ?_
      rintro e w3 ⟨rfl, L', hH3, hP3, hp3, hU3⟩
      go_wp2_with fail
      go_end0
      refine ⟨rfl, _, L', hH3, hP3, by rw [hP3.length_eq]; exact hp3, hU.trans hU3 ?_, hv⟩
      intro x hx
      rcases hv x (by simpa using hx) with h1 | h1
      · exact .inl (by simp [h1])
      · exact .inr h1

end Go.Proofs.Ytghpiegcmakggaa
