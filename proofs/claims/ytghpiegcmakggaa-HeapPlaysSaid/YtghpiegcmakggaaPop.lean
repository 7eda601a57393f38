/- heap.Heap's Pop. -/
import Derived.Test.YtghpiegcmakggaaDel
import Derived.Test.YtghpiegcmakggaaDown
set_option linter.unusedVariables false
set_option linter.unusedSimpArgs false
namespace Go.Proofs.Ytghpiegcmakggaa
open Go.RowKit Go.Lb Go.Hp

theorem pop_nil (b : Nat) (v : Value) (born : Int) (w : World) (h : HeapAt w b v [] born) :
    Calls Try.prog 11 #[.pointer (some ⟨b, 0, none⟩)] w fun e w' => e = .returned (.tuple #[.agg #[.int .i64 0, .int .i64 0], .bool false]) ∧ Upd [] w w' := by
  go_enter Try.func11, Try.ntmps11
  go_wp2_with fail
  refine (peek_nil b v born _ (h.upd (F := []) (by repeat (first | exact Upd.refl _ _ | refine Upd.alloc ?_ _)) (by simp) (by simp))).mono ?_
  rintro e w1 ⟨rfl, hu⟩
  have hc0 := (hu.cell (a := ⟨w.heap.size, 0, none⟩) (by simp) (by simp)).trans ((Blk.new w 26 [.int .i64 0, .int .i64 0]).cell (o := 0) rfl)
  have hc1 := (hu.cell (a := ⟨w.heap.size, 1, none⟩) (by simp) (by simp)).trans ((Blk.new w 26 [.int .i64 0, .int .i64 0]).cell (o := 1) rfl)
  have hf0 := (hu.frozen (a := ⟨w.heap.size, 0, none⟩) (by simp) (by simp)).trans ((Blk.new w 26 [.int .i64 0, .int .i64 0]).frozen 0)
  have hf1 := (hu.frozen (a := ⟨w.heap.size, 1, none⟩) (by simp) (by simp)).trans ((Blk.new w 26 [.int .i64 0, .int .i64 0]).frozen 1)
  have hlt : w.heap.size < w1.heap.size := by have := hu.size; simp at this; omega
  have Hu := Lib.hid hu
  clear hu
  go_wp2_with fail
  refine bodyPost_ret (v := .tuple #[.agg #[.int .i64 0, .int .i64 0], .bool false]) ?_ rfl ?_
  · simp [results, Try.results11, go_sem, *]
  · refine ⟨rfl, ?_⟩
    exact (((((Upd.refl [] w).alloc _).trans Hu.out (by simp)).setCell (.inr (Nat.le_refl _)) _).setCell (.inr (Nat.le_refl _)) _).alloc _

structure PopMid (w : World) (b p q : Nat) (v : Value) (L : List It) (born k t : Int) (wc : World) : Prop where
  heap : HeapAt wc b v L born
  upd : Upd (b :: v.ownBlock.toList) w wc
  bp : Blk wc p 26 [.int .i64 0, .int .i64 0]
  bq : Blk wc q 26 [.int .i64 k, .int .i64 t]
  lp : w.heap.size ≤ p
  lq : w.heap.size ≤ q
  pq : p ≠ q

/-- The last thing in the place of the first. -/
def popL (L : List It) (m : Nat) : List It := (L.set 0 (L.getD m default)).take m

theorem popL_len {L : List It} {m : Nat} (h : L.length = m + 1) : (popL L m).length = m := by simp [popL, h]

theorem popL_perm {L : List It} {m : Nat} (h : L.length = m + 1) : (L.getD 0 default :: popL L m).Perm L := by
  match L, h with
  | x :: t, h =>
    have ht : t.length = m := by simpa using h
    unfold popL
    cases m with
    | zero => simp [List.length_eq_zero_iff.1 ht]
    | succ m =>
      have hne : t ≠ [] := by intro e; subst e; simp at ht
      have hl : (x :: t).getD (m + 1) default = t.getLast hne := by
        rw [List.getLast_eq_getElem]
        simp [List.getD, ht]
      rw [hl]
      simp only [List.set_cons_zero, List.take_succ_cons]
      have hd : t.take m = t.dropLast := by rw [List.dropLast_eq_take, ht]; rfl
      rw [hd]
      refine List.Perm.cons x ?_
      have := List.dropLast_concat_getLast hne
      conv => rhs; rw [← this]
      exact (List.perm_append_singleton _ _).symm

theorem popL_down {L : List It} {m : Nat} (h : L.length = m + 1) (hh : Heaped leI L.length 0 (fun x => L.getD x default)) : DownI leI (popL L m).length 0 (fun x => (popL L m).getD x default) 0 := by
  rw [popL_len h]
  refine downI_root (g := fun x => L.getD x default) (fun i hi hin hm => hh i hi (by omega) hm) _ fun i hi hin => ?_
  simp only [popL, List.getD_eq_getElem?_getD, List.getElem?_take]
  rw [if_pos hin, List.getElem?_set_ne (by omega)]

theorem popMid_set {w wc : World} {b p q s c m : Nat} {L : List It} {born k t yk yt yb : Int} (h : PopMid w b p q (.slice (some ⟨s, 0, none⟩) (m + 1) c) L born k t wc) (hs : s < w.heap.size) (hy : L[m]? = some ⟨yk, yt, yb⟩) :
    PopMid w b p q (.slice (some ⟨s, 0, none⟩) (m + 1) c) (L.set 0 (L.getD m default)) born k t (((wc.setCell ⟨s, 0, none⟩ (.int .i64 yk)).setCell ⟨s, 1, none⟩ (.int .i64 yt)).setCell ⟨s, 2, none⟩ (.int .i64 yb)).drew := by
  have hm := (List.getElem?_eq_some_iff.1 hy).1
  have h1 : p ≠ s := by have := h.lp; omega
  have h2 : q ≠ s := by have := h.lq; omega
  have h3 := h.heap.set3 (i := 0) (by omega) yk yt yb
  simp only [Nat.zero_mul, Nat.zero_add] at h3
  have e : L.getD m default = ⟨yk, yt, yb⟩ := by simp [List.getD, hy]
  rw [e]
  have hin : s ∈ b :: (Value.slice (some ⟨s, 0, none⟩) (m + 1) c).ownBlock.toList := by simp [Value.ownBlock]
  exact ⟨h3.drew, (((h.upd.setCell (.inl hin) _).setCell (.inl hin) _).setCell (.inl hin) _).drew, (((h.bp.other h1 _).other h1 _).other h1 _).drew, (((h.bq.other h2 _).other h2 _).other h2 _).drew, h.lp, h.lq, h.pq⟩

theorem popMid_del {w wc w2 : World} {b p q s c m : Nat} {L : List It} {born k t : Int} (h : PopMid w b p q (.slice (some ⟨s, 0, none⟩) (m + 1) c) L born k t wc) (hs : s < w.heap.size) (hb : b < w.heap.size)
    (ho : w2.ownsRow 0 55 3 (.slice (some ⟨s, 0, none⟩) m c) m (vals (L.take m)).flatten) (hu : Upd [s] wc w2) :
    PopMid w b p q (.slice (some ⟨s, 0, none⟩) m c) (L.take m) born k t (w2.setCell ⟨b, 0, none⟩ (.slice (some ⟨s, 0, none⟩) m c)) ∧ Blk w2 b 53 [.slice (some ⟨s, 0, none⟩) (m + 1) c, .int .i64 born] := by
  have hsb : b ≠ s := fun e => h.heap.ne (by simp [Value.ownBlock, e])
  have hl := h.heap.len
  have h1 : p ≠ s := by have := h.lp; omega
  have h2 : q ≠ s := by have := h.lq; omega
  have h1b : p ≠ b := by have := h.lp; omega
  have h2b : q ≠ b := by have := h.lq; omega
  have hB : Blk w2 b 53 [.slice (some ⟨s, 0, none⟩) (m + 1) c, .int .i64 born] := hu.blk h.heap.blk (by simp [hsb])
  have hlt : (L.take m).length = m := by simp; omega
  refine ⟨⟨⟨hB.set 0 _, ?_, by simp [Value.ownBlock, Ne.symm hsb]⟩, ?_, (hu.blk h.bp (by simp [h1])).other h1b _, (hu.blk h.bq (by simp [h2])).other h2b _, h.lp, h.lq, h.pq⟩, hB⟩
  · rw [hlt]
    exact ownsRow_setCell_other ho (by simp [Value.ownBlock, Ne.symm hsb]) _
  · refine (Upd.trans (h.upd.mono (G := b :: (Value.slice (some ⟨s, 0, none⟩) m c).ownBlock.toList) (by simp [Value.ownBlock])) hu (by simp [Value.ownBlock])).setCell (by simp) _

theorem popMid_end {w wc w3 : World} {b p q s c m : Nat} {L L' : List It} {born k t : Int} (h : PopMid w b p q (.slice (some ⟨s, 0, none⟩) m c) L born k t wc) (hs : s < w.heap.size) (hb : b < w.heap.size)
    (h3 : HeapAt w3 b (.slice (some ⟨s, 0, none⟩) m c) L' born) (hu : Upd (Value.slice (some ⟨s, 0, none⟩) m c).ownBlock.toList wc w3) :
    PopMid w b p q (.slice (some ⟨s, 0, none⟩) m c) L' born k t w3 := by
  have h1 : p ≠ s := by have := h.lp; omega
  have h2 : q ≠ s := by have := h.lq; omega
  exact ⟨h3, h.upd.trans hu (by simp [Value.ownBlock]), hu.blk h.bp (by simp [Value.ownBlock, h1]), hu.blk h.bq (by simp [Value.ownBlock, h2]), h.lp, h.lq, h.pq⟩

theorem popMid_out {w wc : World} {b p q s c m : Nat} {L : List It} {born k t : Int} (h : PopMid w b p q (.slice (some ⟨s, 0, none⟩) m c) L born k t wc) (hs : s < w.heap.size) (hb : b < w.heap.size) (x y : Value) :
    HeapAt ((wc.setCell ⟨p, 0, none⟩ x).setCell ⟨p, 1, none⟩ y) b (.slice (some ⟨s, 0, none⟩) m c) L born ∧ Upd (b :: (Value.slice (some ⟨s, 0, none⟩) m c).ownBlock.toList) w ((wc.setCell ⟨p, 0, none⟩ x).setCell ⟨p, 1, none⟩ y) := by
  have h1 : p ≠ s := by have := h.lp; omega
  have h1b : b ≠ p := by have := h.lp; omega
  have hp := h.lp
  refine ⟨⟨(h.heap.blk.other h1b _).other h1b _, ownsRow_setCell_other (ownsRow_setCell_other h.heap.row (by simp [Value.ownBlock, Ne.symm h1]) _) (by simp [Value.ownBlock, Ne.symm h1]) _, h.heap.ne⟩, (h.upd.setCell (.inr hp) _).setCell (.inr hp) _⟩

theorem down_root (b : Nat) (v : Value) (L : List It) (born : Int) (w : World) (h : HeapAt w b v L born) (hL : L.length ≤ 5864062014805) (hu : DownI leI L.length 0 (fun x => L.getD x default) 0) :
    Calls Try.prog 25 #[.pointer (some ⟨b, 0, none⟩), .int .i64 0] w fun e w' => e = .returned (.tuple #[]) ∧
      ∃ L', HeapAt w' b v L' born ∧ L'.Perm L ∧ Heaped leI L.length 0 (fun x => L'.getD x default) ∧ Upd v.ownBlock.toList w w' := by
  by_cases hn : L = []
  · subst hn
    refine (down_nil b v born w h).mono ?_
    rintro e w' ⟨rfl, rfl⟩
    exact ⟨rfl, [], h, List.Perm.refl _, fun i h1 h2 => by simp at h2, Upd.refl _ _⟩
  · exact down_some b v L born w h 0 0 (List.length_pos_iff.2 hn) (Nat.le_refl _) hL hu

set_option maxHeartbeats 1000000 in
theorem pop_some (b : Nat) (v : Value) (L : List It) (x : It) (born : Int) (w : World) (h : HeapAt w b v L born) (hx : L[0]? = some x) (hL : L.length ≤ 5864062014804) (hh : Heaped leI L.length 0 (fun x => L.getD x default)) :
    Calls Try.prog 11 #[.pointer (some ⟨b, 0, none⟩)] w fun e w' => e = .returned (.tuple #[.agg #[.int .i64 x.key, .int .i64 x.tag], .bool true]) ∧
      ∃ v' L', HeapAt w' b v' L' born ∧ (x :: L').Perm L ∧ Heaped leI L'.length 0 (fun i => L'.getD i default) ∧ Upd (b :: v.ownBlock.toList) w w' ∧ v'.ownBlock = v.ownBlock := by
  obtain ⟨m, hm⟩ : ∃ m, L.length = m + 1 := ⟨L.length - 1, by have := (List.getElem?_eq_some_iff.1 hx).1; omega⟩
  obtain ⟨s, c, rfl, hlc, hcm, hs, hsb⟩ := h.isSome (by omega)
  obtain ⟨k, t, bo⟩ := x
  have hbw := h.blk.lt
  rw [hm] at h
  go_enter Try.func11, Try.ntmps11
  go_wp2_with fail
  refine (peek_some b _ L _ born _ (h.upd (F := []) (by repeat (first | exact Upd.refl _ _ | refine Upd.alloc ?_ _)) (by simp) (by simp)) hx).mono ?_
  rintro e w1 ⟨rfl, hu⟩
  have hH1 : HeapAt w1 b (.slice (some ⟨s, 0, none⟩) (m + 1) c) L born := (h.upd (((Upd.refl [] w).alloc _).trans hu (by simp)) (by simp) (by simp))
  have hU1 : Upd [] w w1 := ((Upd.refl [] w).alloc _).trans hu (by simp)
  have hp1 : Blk w1 w.heap.size 26 [.int .i64 0, .int .i64 0] := hu.blk (Blk.new w 26 [.int .i64 0, .int .i64 0]) (by simp)
  have h0 := hH1.blk.cell (o := 0) rfl
  have hb1 := hH1.blk.lt
  have Hx := Lib.hid hx
  have Hh := Lib.hid hh
  have Hm := Lib.hid hm
  have HH1 := Lib.hid hH1
  have HU1 := Lib.hid hU1
  have Hp1 := Lib.hid hp1
  have hm2 : m + 1 ≤ 5864062014804 := by omega
  clear hu h hlc hx hh hm hH1 hU1 hL hp1
  dsimp only
  go_upto_region 3 with fail
  go_cut [6] (fun s6 wc => s6 = .int .i64 m ∧ PopMid w b w.heap.size w1.heap.size (.slice (some ⟨s, 0, none⟩) (m + 1) c) L born k t wc)
  case first =>
    go_wp2_with fail
    go_meet
    refine ⟨rfl, (HH1.out.upd ((Upd.refl [] w1).alloc _) (by simp) (by simp)), ((HU1.out.mono (by simp)).alloc _), Hp1.out.alloc _, Blk.new w1 26 [.int .i64 k, .int .i64 t], Nat.le_refl _, HU1.out.size, ?_⟩
    have := Hp1.out.lt
    omega
  case rest =>
    obtain ⟨rfl, hc⟩ := hcut
    have hx := Hx.out
    obtain ⟨⟨yk, yt, yb⟩, hy⟩ : ∃ y, L[m]? = some y := ⟨_, List.getElem?_eq_getElem (by have := Hm.out; omega)⟩
    obtain ⟨hi0, hi1, hi2⟩ := hc.heap.at hx
    obtain ⟨hj0, hj1, hj2⟩ := hc.heap.at hy
    have hb0 := hc.heap.blk.cell (o := 0) rfl
    have hf0 := hc.heap.froz 0
    have hf1 := hc.heap.froz 1
    have hf2 := hc.heap.froz 2
    simp only [Nat.zero_mul, Nat.zero_add] at hi0 hi1 hi2
    dsimp only at hi0 hi1 hi2 hj0 hj1 hj2
    have Hc := Lib.hid hc
    have Hy := Lib.hid hy
    clear hc hx hy h0 hb1
    generalize w1.heap.size = q at *
    go_upto_region 4 with fail
    go_cut [22] (fun _ wd => PopMid w b w.heap.size q (.slice (some ⟨s, 0, none⟩) (m + 1) c) (L.set 0 (L.getD m default)) born k t wd)
    case first =>
      go_region
      all_goals
        go_wp2_with fail
        go_meet
        exact popMid_set Hc.out hs Hy.out
    case rest =>
      clear hi0 hi1 hi2 hj0 hj1 hj2 hb0 hf0 hf1 hf2
      have hb0 := hcut.heap.blk.cell (o := 0) rfl
      have Hc2 := Lib.hid hcut
      clear hcut
      go_wp2_with fail
      refine (delete_last b s c _ m born _ Hc2.out.heap (by have := Hm.out; simp; omega)).mono ?_
      rintro e w2 ⟨rfl, ho, hu2⟩
      obtain ⟨hM, hB⟩ := popMid_del Hc2.out hs hbw ho hu2
      have g0 := hB.cell (o := 0) rfl
      have gf := hB.frozen 0
      have HM := Lib.hid hM
      clear hM hB ho hu2 hb0
      go_wp2_with fail
      refine (down_root b _ (popL L m) born _ HM.out.heap (by rw [popL_len Hm.out]; omega) (popL_down Hm.out Hh.out)).mono ?_
      rintro e w3 ⟨rfl, L', hH3, hP3, hh3, hU3⟩
      have hE := popMid_end HM.out hs hbw hH3 hU3
      have hq0 := hE.bq.cell (o := 0) rfl
      have hq1 := hE.bq.cell (o := 1) rfl
      have hp0 := hE.bp.cell (o := 0) rfl
      have hp1 := hE.bp.cell (o := 1) rfl
      have pf0 := hE.bp.frozen 0
      have pf1 := hE.bp.frozen 1
      have HE := Lib.hid hE
      have HP := Lib.hid hP3
      have Hhh := Lib.hid hh3
      clear hE hH3 hU3 hP3 hh3 g0 gf
      go_wp2_with fail
      refine bodyPost_ret (v := .tuple #[.agg #[.int .i64 k, .int .i64 t], .bool true]) ?_ rfl ?_
      · simp [results, Try.results11, go_sem, *]
      · have hO := popMid_out HE.out hs hbw (.int .i64 k) (.int .i64 t)
        have hL0 : L.getD 0 default = ⟨k, t, bo⟩ := by have := Hx.out; simp [List.getD, this]
        refine ⟨rfl, _, L', hO.1, ?_, by rw [HP.out.length_eq]; exact Hhh.out, ?_, rfl⟩
        · rw [← hL0]
          exact (List.Perm.cons _ HP.out).trans (popL_perm Hm.out)
        · exact hO.2.mono (by simp [Value.ownBlock])

end Go.Proofs.Ytghpiegcmakggaa
