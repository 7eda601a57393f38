/- The reference's heap: Push, Pop, Remove. -/
import Derived.Test.YtghpiegcmakggaaRef
import Derived.Test.YtghpiegcmakggaaDelF
set_option linter.unusedVariables false
set_option linter.unusedSimpArgs false
namespace Go.Proofs.Ytghpiegcmakggaa
open Go.RowKit Go.Lb Go.Hp

theorem Try.info26 : (Try.prog.info? 26).map (fun i => (i.zero, i.size, i.bytes)) = some (some (.agg #[.int .i64 0, .int .i64 0]), 2, 16) := by kernel_rfl

theorem prs_snoc (A : List It) (x : It) : (prs (A ++ [x])).flatten = (prs A).flatten ++ x.pair := by simp [prs]

def RPushPost (w : World) (b : Nat) (v : Value) (A : List It) (w' : World) : Prop :=
  ∃ v', RefAt w' b v' A ∧ Upd (b :: v.ownBlock.toList) w w' ∧ (∀ s, v'.ownBlock = some s → v.ownBlock = some s ∨ w.heap.size ≤ s)

theorem rpush_post {w wc W w1 : World} {b g c' : Nat} {v : Value} {A : List It} {k t bo : Int} (h : RefAt wc b v A) (hw : Upd [] w wc) (hW : Upd [] wc W) (hg : W.grownBy w1 v.ownBlock)
    (ho : w1.ownsRow 0 26 2 (.slice (some ⟨g, 0, none⟩) (A.length + 1) c') (A.length + 1) ((prs A).flatten ++ [.int .i64 k, .int .i64 t])) (hgb : some g = v.ownBlock ∨ some g = some W.heap.size) :
    RPushPost w b v (A ++ [⟨k, t, bo⟩]) (w1.setCell ⟨b, 0, none⟩ (.slice (some ⟨g, 0, none⟩) (A.length + 1) c')) := by
  have hbW := hW.blk h.blk (by simp)
  have hb2 : Blk w1 b 44 [v] := (hg.block b hbW.lt (fun e => h.ne e.symm)).trans hbW
  have hbl := hbW.lt
  have hsz := hw.size
  have hsz2 := hW.size
  have hgb2 : g ≠ b := by
    rcases hgb with e | e
    · intro e2; exact h.ne (by rw [← e, e2])
    · simp at e; omega
  refine ⟨_, ⟨hb2.set 0 _, ?_, by simp [Value.ownBlock, hgb2]⟩, ?_, ?_⟩
  · rw [prs_snoc, List.length_append, List.length_singleton]
    exact ownsRow_setCell_other ho (by simp [Value.ownBlock, hgb2]) _
  · refine (Upd.setCell (Upd.grown (F := b :: v.ownBlock.toList) ((hw.mono (by simp)).trans hW (by simp)) hg ?_) (by simp) _)
    intro x hx
    simp [hx]
  · intro s hs
    simp only [Value.ownBlock, Option.some.injEq] at hs
    subst hs
    rcases hgb with e | e
    · exact .inl e.symm
    · simp at e; exact .inr (by omega)

set_option maxHeartbeats 1000000 in
theorem rpush_any (b : Nat) (v : Value) (A : List It) (k t bo : Int) (w : World) (h : RefAt w b v A) (hA : A.length ≤ 5864062014804) :
    Calls Try.prog 18 #[.pointer (some ⟨b, 0, none⟩), .agg #[.int .i64 k, .int .i64 t]] w fun e w' => e = .returned (.tuple #[]) ∧ RPushPost w b v (A ++ [⟨k, t, bo⟩]) w' := by
  obtain ⟨i0, hi, hz0, hz1, hz2⟩ := info_parts Try.info26
  obtain ⟨a, c, rfl⟩ := h.shape
  have hb := h.blk.lt
  have H := Lib.hid (h.upd (F := []) ((Upd.refl _ w).alloc (.cells #[.int .i64 k, .int .i64 t] 26)) (by simp) (by simp))
  have Hw := Lib.hid ((Upd.refl [] w).alloc (.cells #[.int .i64 k, .int .i64 t] 26))
  have h0 := h.blk.cell (o := 0) rfl
  clear h
  go_enter Try.func18, Try.ntmps18
  go_upto_region 1 with fail
  have c0 := (Blk.new w 26 [.int .i64 k, .int .i64 t]).cell (o := 0) rfl
  have c1 := (Blk.new w 26 [.int .i64 k, .int .i64 t]).cell (o := 1) rfl
  have hbc := H.out.blk.lt
  have hb0 := H.out.blk.cell (o := 0) rfl
  have hlt : w.heap.size < (w.alloc (.cells #[.int .i64 k, .int .i64 t] 26)).heap.size := by simp
  clear h0 hb
  generalize hwc : w.alloc (.cells #[.int .i64 k, .int .i64 t] 26) = wc at *
  clear hwc
  go_region_law (refine step_append_mine rfl _ _ 42 rfl 0 26 i0 _ 2 16 Try.underlying42 hi hz0 hz1 hz2 rfl (by decide) _ A.length (prs A).flatten rfl (H.out.upd (F := []) (by repeat (first | exact Upd.refl _ _ | refine Upd.drew ?_ | refine Upd.alloc ?_ _)) (by simp) (by simp)).row _ 1 1 [.int .i64 k, .int .i64 t] rfl rfl (Blk.news (Blk.new _ 26 [.int .i64 k, .int .i64 t]).drew) (by simp [Value.oneCell']) (by unfold maxLen; omega) (by omega) (Nat.zero_le _) ?_; intro v' w' ho hg hgb; have hq := (hg.block b (by simp; omega) (fun e => H.out.ne e.symm)).trans (H.out.blk.alloc _).drew; have q1 := Blk.cell (vs := [.slice a A.length c]) (o := 0) hq rfl; have q2 := Blk.frozen (vs := [.slice a A.length c]) hq 0; clear hq; obtain ⟨g, c', rfl⟩ := own_some ho (by omega))
  all_goals
    go_wp2_with fail
    go_end0
    exact ⟨rfl, rpush_post H.out Hw.out (by repeat (first | exact Upd.refl _ _ | refine Upd.drew ?_ | refine Upd.alloc ?_ _)) hg ho hgb⟩

def RowPr (w : World) (v : Value) (A : List It) : Prop := w.ownsRow 0 26 2 v A.length (prs A).flatten
theorem RowPr.shape {w : World} {v : Value} {A : List It} (h : RowPr w v A) : ∃ a c, v = .slice a A.length c := by
  rcases h.2 with ⟨h1, h0⟩ | ⟨g, cap, cur, rfl, _⟩
  · exact ⟨none, 0, by rw [h1, h0]⟩
  · exact ⟨_, _, rfl⟩

structure RRem (w : World) (b : Nat) (v : Value) (A : List It) (key : Int) (i : Nat) (u : Value) (n : Nat) (wr : World) : Prop where
  ref : RefAt wr b v A
  out : RowPr wr u ((A.take i).filter fun x => !x.eqk key)
  cnt : n + ((A.take i).filter fun x => !x.eqk key).length = i
  new : ∀ k, u.ownBlock = some k → w.heap.size ≤ k
  upd : Upd [] w wr

theorem RRem.skip {w wr : World} {b : Nat} {v u : Value} {A : List It} {key : Int} {i n : Nat} (h : RRem w b v A key i u n wr) {x : It} (hx : A[i]? = some x) (hk : x.key = key) : RRem w b v A key (i + 1) u (n + 1) wr := by
  have e : (A.take (i + 1)).filter (fun x => !x.eqk key) = (A.take i).filter (fun x => !x.eqk key) := by
    rw [List.take_add_one, hx, List.filter_append]
    simp [(It.eqk_iff key x).2 hk]
  exact ⟨h.ref, by rw [e]; exact h.out, by rw [e]; have := h.cnt; omega, h.new, h.upd⟩

theorem RRem.keep {w wr W w1 : World} {b g c' : Nat} {v u : Value} {A : List It} {key : Int} {i n : Nat} (h : RRem w b v A key i u n wr) {k t bo : Int} (hx : A[i]? = some ⟨k, t, bo⟩) (hk : k ≠ key) (hv : ∀ s, v.ownBlock = some s → s < w.heap.size) (hb : b < w.heap.size)
    (hW : Upd [] wr W) (hg : W.grownBy w1 u.ownBlock)
    (ho : w1.ownsRow 0 26 2 (.slice (some ⟨g, 0, none⟩) (((A.take i).filter fun x => !x.eqk key).length + 1) c') (((A.take i).filter fun x => !x.eqk key).length + 1) ((prs ((A.take i).filter fun x => !x.eqk key)).flatten ++ [.int .i64 k, .int .i64 t])) (hgb : some g = u.ownBlock ∨ some g = some W.heap.size) :
    RRem w b v A key (i + 1) (.slice (some ⟨g, 0, none⟩) (((A.take i).filter fun x => !x.eqk key).length + 1) c') n w1 := by
  have hq : (⟨k, t, bo⟩ : It).eqk key = false := by
    cases hb : (⟨k, t, bo⟩ : It).eqk key with
    | false => rfl
    | true => exact absurd ((It.eqk_iff key _).1 hb) hk
  have e : (A.take (i + 1)).filter (fun x => !x.eqk key) = (A.take i).filter (fun x => !x.eqk key) ++ [⟨k, t, bo⟩] := by
    rw [List.take_add_one, hx, List.filter_append]
    simp [hq]
  have hU : Upd u.ownBlock.toList wr w1 := (hW.mono (G := u.ownBlock.toList) (by simp)).grown hg (by intro x hx; simp [hx])
  have hsz := h.upd.size
  have hsz2 := hW.size
  refine ⟨h.ref.upd hU ?_ ?_, ?_, ?_, ?_, h.upd.trans hU ?_⟩
  · intro hm; simp at hm; have := h.new b hm; omega
  · intro s hs hm; simp at hm; have := h.new s hm; have := hv s hs; omega
  · unfold RowPr
    rw [e, List.length_append, List.length_singleton, prs_snoc]
    exact ho
  · rw [e, List.length_append, List.length_singleton]; have := h.cnt; omega
  · intro s hs
    simp only [Value.ownBlock, Option.some.injEq] at hs
    subst hs
    rcases hgb with e1 | e1
    · exact h.new g e1.symm
    · simp at e1; omega
  · intro x hx; simp at hx; exact .inr (h.new x hx)

set_option maxHeartbeats 1000000 in
theorem rremove_any (b : Nat) (v : Value) (A : List It) (key : Int) (w : World) (h : RefAt w b v A) (hA : A.length ≤ 5864062014804) (r : Nat) (hr : r + (A.filter fun x => !x.eqk key).length = A.length) :
    Calls Try.prog 21 #[.pointer (some ⟨b, 0, none⟩), .int .i64 key] w fun e w' => e = .returned (.int .i64 r) ∧
      ∃ v', RefAt w' b v' (A.filter fun x => !x.eqk key) ∧ Upd [b] w w' ∧ ∀ s, v'.ownBlock = some s → w.heap.size ≤ s := by
  obtain ⟨i0, hi, hz0, hz1, hz2⟩ := info_parts Try.info26
  obtain ⟨a, c, rfl⟩ := h.shape
  have hbw := h.blk.lt
  have hvw : ∀ s, (Value.slice a A.length c).ownBlock = some s → s < w.heap.size := fun s hs => (h.row.lt s hs).2
  have H := Lib.hid h
  have Hv := Lib.hid hvw
  clear h hvw
  go_enter Try.func21, Try.ntmps21
  go_upto_block 0 with fail
  go_cut [5, 6, 7] (fun u n _ wc => ∃ m : Nat, n = .int .i64 m ∧ RRem w b (.slice a A.length c) A key A.length u m wc)
  case first =>
    go_wp2_with fail
    go_loopg [5, 6, 7] A.length (fun g u n t wr => ∃ m i : Nat, n = .int .i64 m ∧ t = .int .i64 i ∧ i ≤ A.length ∧ m ≤ i ∧ g = A.length - i ∧ RRem w b (.slice a A.length c) A key i u m wr)
    case atStart => exact ⟨0, 0, rfl, rfl, Nat.zero_le _, Nat.le_refl _, rfl, H.out, World.ownsRow_nil _ _ _ _, rfl, by simp [Value.ownBlock], Upd.refl _ _⟩
    case round =>
      obtain ⟨m, i, rfl, rfl, hil, hmi, rfl, hR⟩ := hrel
      have HR := Lib.hid hR
      have h0 := hR.ref.blk.cell (o := 0) rfl
      obtain ⟨ua, uc, hu⟩ := hR.out.shape
      subst hu
      clear hR
      by_cases hlt : i < A.length
      · obtain ⟨s, c', e, hlc, hcm, hs, hsb⟩ := HR.out.ref.isSome (by omega)
        obtain ⟨rfl, rfl⟩ : a = some ⟨s, 0, none⟩ ∧ c = c' := by simpa using e
        obtain ⟨⟨k, t, bo⟩, hx⟩ : ∃ x, A[i]? = some x := ⟨_, List.getElem?_eq_getElem hlt⟩
        obtain ⟨x0, x1⟩ := HR.out.ref.at hx
        have Hx := Lib.hid hx
        have hbr := HR.out.ref.blk.lt
        have hfl : ((A.take i).filter fun x => !x.eqk key).length ≤ i := by have := HR.out.cnt; omega
        unfold maxLen at hcm
        dsimp only at x0 x1
        clear hx e
        by_cases hk : k = key
        · have hk2 : (k == key) = true := beq_iff_eq.2 hk
          have Hk := Lib.hid hk
          clear hk
          go_wp2_with fail
          go_roundg (A.length - (i + 1))
          case measure => omega
          case rel => exact ⟨m + 1, i + 1, by go_num, by go_num, by omega, by omega, rfl, HR.out.skip Hx.out Hk.out⟩
        · have hk2 : (k == key) = false := beq_eq_false_iff_ne.2 hk
          have Hk := Lib.hid hk
          clear hk
          go_wp2_with (refine wpList_append_mine rfl (.tmp 29) (.tmp 37) 42 rfl 0 26 i0 _ 2 16 Try.underlying42 hi hz0 hz1 hz2 rfl (by decide) _ _ (prs ((A.take i).filter fun x => !x.eqk key)).flatten rfl (World.ownsRow.alloc HR.out.out _) _ 1 1 [.int .i64 k, .int .i64 t] rfl rfl (Blk.news (Blk.new _ 26 [.int .i64 k, .int .i64 t])) (by simp [Value.oneCell']) (by unfold maxLen; omega) (by omega) (Nat.zero_le _) ?_; intro u2 w2 ho hg hgb; obtain ⟨g2, c2, rfl⟩ := own_some ho (by omega))
          have HK := Lib.hid (HR.out.keep Hx.out Hk.out Hv.out hbw ((Upd.refl _ _).alloc _) hg ho hgb)
          go_roundg (A.length - (i + 1))
          case measure => omega
          case rel => exact ⟨m, i + 1, rfl, by go_num, by omega, by omega, rfl, HK.out⟩
      · obtain rfl : i = A.length := by omega
        go_wp2_with fail
        go_meet
        exact ⟨m, rfl, HR.out⟩
  case rest =>
    obtain ⟨m, rfl, hR⟩ := hcut
    have hc := hR.cnt
    have ho := hR.out
    rw [List.take_length] at hc ho
    have hmr : m = r := by omega
    subst hmr
    have h0 := hR.ref.blk.cell (o := 0) rfl
    have f0 := hR.ref.blk.frozen 0
    have HR := Lib.hid hR
    have HO := Lib.hid ho
    obtain ⟨ua, uc, hu⟩ := ho.shape
    subst hu
    clear hR ho
    go_wp2_with fail
    go_ret
    have hne : (Value.slice ua (A.filter fun x => !x.eqk key).length uc).ownBlock ≠ some b := fun e => by have := HR.out.new b e; omega
    refine ⟨rfl, _, ⟨HR.out.ref.blk.set 0 _, ownsRow_setCell_other HO.out hne _, hne⟩, (HR.out.upd.mono (by simp)).setCell (by simp) _, HR.out.new⟩

end Go.Proofs.Ytghpiegcmakggaa
