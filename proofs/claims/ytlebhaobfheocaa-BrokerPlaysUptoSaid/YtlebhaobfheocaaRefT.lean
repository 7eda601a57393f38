/- coxswainref15.Broker's Tick. Condition: counts in bounds, no worker has two. -/
import Derived.Test.YtlebhaobfheocaaRefA
set_option linter.unusedVariables false
set_option linter.unusedSimpArgs false
namespace Go.Proofs.Ytlebhaobfheocaa
open Go.RowKit Go.Lb Go.Hp

def gst (g : Rf → Rf) (L : List Rf) (i : Nat) : List Rf := (L.take i).map g ++ L.drop i
theorem gst_len (g : Rf → Rf) (L : List Rf) (i : Nat) : (gst g L i).length = L.length := by simp [gst]; omega
theorem gst_at {g : Rf → Rf} {L : List Rf} {i : Nat} {x : Rf} (h : L[i]? = some x) : (gst g L i)[i]? = some x := by
  have hi := (List.getElem?_eq_some_iff.1 h).1
  unfold gst
  rw [List.getElem?_append_right (by simp; omega)]
  simp
  rw [show min i L.length = i by omega]
  simpa using h
theorem gst_next {g : Rf → Rf} {L : List Rf} {i : Nat} {x : Rf} (h : L[i]? = some x) : gst g L (i + 1) = (gst g L i).set i (g x) := by
  have hi := (List.getElem?_eq_some_iff.1 h).1
  unfold gst
  rw [take_snoc h, List.map_append, List.set_append]
  have e : (List.map g (List.take i L)).length = i := by simp; omega
  rw [e, if_neg (by omega), Nat.sub_self, List.drop_eq_getElem_cons hi]
  simp only [List.set_cons_zero, List.map_cons, List.map_nil, List.append_assoc, List.cons_append, List.nil_append]

def lt2 (y : Rf) : Bool := y.had && decide (12 ≤ y.tk)
def lateOf (A : List Rf) : List Int := (A.filter lt2).map (·.wk)
theorem nack_cons {v : Int} {x : Rf} (r : List Rf) (h : rHad v x = false) : rNack (x :: r) v = x :: rNack r v := by simp [rNack, upFirst, h]
theorem fold_cons {x : Rf} : ∀ (vs : List Int) (r : List Rf), (∀ v ∈ vs, rHad v x = false) → vs.foldl rNack (x :: r) = x :: vs.foldl rNack r
  | [], r, _ => rfl
  | v :: vs, r, h => by
    simp only [List.foldl_cons]
    rw [nack_cons r (h v (by simp)), fold_cons vs _ (fun u hu => h u (by simp [hu]))]
theorem nacks : ∀ (A : List Rf), (hw A).Nodup → (lateOf A).foldl rNack A = A.map rT2
  | [], _ => rfl
  | x :: r, h => by
    have hr : (hw r).Nodup := by
      rw [hw_cons, List.nodup_append] at h
      exact h.2.1
    have ih := nacks r hr
    have hin : ∀ v ∈ lateOf r, v ∈ hw r := fun v hv => by
      obtain ⟨y, hy, rfl⟩ := List.mem_map.1 hv
      obtain ⟨h1, h2⟩ := List.mem_filter.1 hy
      simp only [lt2, Bool.and_eq_true] at h2
      exact mem_hw.2 ⟨y, h1, h2.1, rfl⟩
    cases hx : lt2 x with
    | true =>
      have hx' := hx
      simp only [lt2, Bool.and_eq_true, decide_eq_true_eq] at hx'
      have e1 : lateOf (x :: r) = x.wk :: lateOf r := by simp [lateOf, hx]
      have e2 : rNack (x :: r) x.wk = rBack x :: r := by simp [rNack, upFirst, rHad, hx'.1]
      have e3 : rT2 x = rBack x := by unfold rT2; rw [if_pos (by simpa [lt2] using hx)]
      have e4 : (rBack x).had = false := by unfold rBack; split <;> rfl
      rw [e1, List.foldl_cons, e2, fold_cons _ _ (fun v _ => by simp [rHad, e4]), ih, List.map_cons, e3]
    | false =>
      have e1 : lateOf (x :: r) = lateOf r := by simp [lateOf, hx]
      have e3 : rT2 x = x := by unfold rT2; rw [if_neg (by simpa [lt2] using hx)]
      rw [e1, fold_cons _ _ (fun v hv => ?_), ih, List.map_cons, e3]
      cases hh : x.had with
      | false => simp [rHad, hh]
      | true =>
        rw [hw_cons, hh] at h
        simp only [if_true, List.cons_append, List.nil_append, List.nodup_cons] at h
        have : x.wk ≠ v := fun e => h.1 (e ▸ hin v hv)
        simp [rHad, this]
theorem hw_t1 (R : List Rf) : hw (R.map rT1) = hw R := by
  unfold hw
  rw [List.filter_map, List.map_map]
  rfl
theorem tick_nacks {R : List Rf} (h : (hw R).Nodup) : (lateOf (R.map rT1)).foldl rNack (R.map rT1) = rTick R := nacks _ (by rw [hw_t1]; exact h)

def latesTo (R : List Rf) (i : Nat) : List Int := lateOf ((R.take i).map rT1)
theorem lates_snoc {R : List Rf} {i : Nat} {x : Rf} (hx : R[i]? = some x) : latesTo R (i + 1) = latesTo R i ++ (if lt2 (rT1 x) then [x.wk] else []) := by
  unfold latesTo lateOf
  rw [take_snoc hx, List.map_append, List.filter_append, List.map_append]
  congr 1
  simp only [List.map_cons, List.map_nil, List.filter_cons, List.filter_nil]
  split <;> rfl
theorem lates_len (R : List Rf) (i : Nat) : (latesTo R i).length ≤ R.length := by
  unfold latesTo lateOf
  simp only [List.length_map]
  have h1 := List.length_filter_le lt2 (List.map rT1 (List.take i R))
  simp only [List.length_map] at h1
  have := List.length_take_le' i R
  omega

/-- Half way. -/
structure TkI (w : World) (r s c : Nat) (R : List Rf) (i : Nat) (v : Value) (wr : World) : Prop where
  rb : RbAt wr r (.slice (some ⟨s, 0, none⟩) R.length c) (gst rT1 R i)
  upd : Upd [s] w wr
  late : wr.ownsRow w.heap.size 3 1 v (latesTo R i).length ((latesTo R i).map (Value.int .i64))
theorem TkI.step {w wr w1 : World} {r s c i : Nat} {R : List Rf} {x : Rf} {v : Value} (h : TkI w r s c R i v wr) (hs : s < w.heap.size) (hx : R[i]? = some x) (hn : lt2 (rT1 x) = false) (u : Upd [s] wr w1)
    (ho : w1.ownsRow 0 71 9 (.slice (some ⟨s, 0, none⟩) R.length c) R.length ((rvals (gst rT1 R i)).set i (rT1 x).vals).flatten) : TkI w r s c R (i + 1) v w1 := by
  refine ⟨by rw [gst_next hx]; exact h.rb.put u ho, h.upd.trans u (by simp), ?_⟩
  rw [lates_snoc hx, hn]
  simp only [Bool.false_eq_true, if_false, List.append_nil]
  exact u.row h.late (by intro k hk; have := (own_lt h.late hk).1; simp; omega)
theorem TkI.late' {w wr w1 W w2 : World} {r s c i : Nat} {R : List Rf} {x : Rf} {v v' : Value} (h : TkI w r s c R i v wr) (hs : s < w.heap.size) (hr : r < w.heap.size) (hx : R[i]? = some x) (hn : lt2 (rT1 x) = true) (u : Upd [s] wr w1)
    (ho : w1.ownsRow 0 71 9 (.slice (some ⟨s, 0, none⟩) R.length c) R.length ((rvals (gst rT1 R i)).set i (rT1 x).vals).flatten) (hW : Upd [] w1 W)
    (hl : w2.ownsRow w.heap.size 3 1 v' ((latesTo R i).length + 1) ((latesTo R i).map (Value.int .i64) ++ [.int .i64 x.wk])) (hg : W.grownBy w2 v.ownBlock) : TkI w r s c R (i + 1) v' w2 := by
  have hv : ∀ k, v.ownBlock = some k → w.heap.size ≤ k := fun k hk => (own_lt h.late hk).1
  have u2 : Upd v.ownBlock.toList w1 w2 := (hW.mono (by simp)).grown hg (by intro k hk; simp [hk])
  refine ⟨?_, (h.upd.trans u (by simp)).trans u2 (fun k hk => .inr (hv k (by simpa using hk))), ?_⟩
  · rw [gst_next hx]
    refine (h.rb.put u ho).upd u2 (fun k hk hm => ?_)
    have := hv k (by simpa using hm)
    simp only [rfoot, Value.ownBlock, Option.toList, List.mem_cons, List.not_mem_nil, or_false] at hk
    rcases hk with rfl | rfl <;> omega
  · rw [lates_snoc hx, hn]
    simpa using hl

theorem sets9 {R : List Rf} {i : Nat} {x : Rf} (hx : R[i]? = some x) : (rvals R)[i]? = some x.vals := by simp [rvals, hx]
theorem set_len9 {xss : List (List Value)} (h : ∀ x ∈ xss, x.length = 9) {i : Nat} {y : List Value} (hy : y.length = 9) : ∀ x ∈ xss.set i y, x.length = 9 := fun z hz => by
  rcases List.mem_or_eq_of_mem_set hz with h1 | rfl
  · exact h z h1
  · exact hy
theorem vals_len9 (x : Rf) : x.vals.length = 9 := rfl
theorem info3 : ∃ i, Try.prog.info? 3 = some i ∧ i.zero = some (.int .i64 0) ∧ i.size = 1 ∧ i.bytes = 8 := by
  obtain ⟨i, h1, h2, h3, h4⟩ := info_parts (show (Try.prog.info? 3).map (fun i => (i.zero, i.size, i.bytes)) = some (some (.int .i64 0), 1, 8) by kernel_rfl)
  exact ⟨i, h1, h2, h3, h4⟩

/-- The cells that are written make the item's next state. -/
theorem t1_rows {w : World} {s c n i : Nat} {A : List Rf} {x : Rf} (hrow : w.ownsRow 0 71 9 (.slice (some ⟨s, 0, none⟩) n c) n (rvals A).flatten) (hx : A[i]? = some x) (hoff : 0 ≤ x.off) :
    (0 < x.off → x.had = true → ((w.setCell ⟨s, i * 9 + 5, none⟩ (.int .i64 (x.off - 1))).setCell ⟨s, i * 9 + 8, none⟩ (.int .i64 (x.tk + 1))).ownsRow 0 71 9 (.slice (some ⟨s, 0, none⟩) n c) n ((rvals A).set i (rT1 x).vals).flatten) ∧
    (0 < x.off → x.had = false → (w.setCell ⟨s, i * 9 + 5, none⟩ (.int .i64 (x.off - 1))).ownsRow 0 71 9 (.slice (some ⟨s, 0, none⟩) n c) n ((rvals A).set i (rT1 x).vals).flatten) ∧
    (x.off = 0 → x.had = true → (w.setCell ⟨s, i * 9 + 8, none⟩ (.int .i64 (x.tk + 1))).ownsRow 0 71 9 (.slice (some ⟨s, 0, none⟩) n c) n ((rvals A).set i (rT1 x).vals).flatten) ∧
    (x.off = 0 → x.had = false → w.ownsRow 0 71 9 (.slice (some ⟨s, 0, none⟩) n c) n ((rvals A).set i (rT1 x).vals).flatten) := by
  have hi := (List.getElem?_eq_some_iff.1 hx).1
  have hiv : i < (rvals A).length := by simpa [rvals] using hi
  obtain ⟨⟨xj, xp, xs, xi⟩, xc, xo, xh, xw, xt⟩ := x
  dsimp only at hoff
  refine ⟨fun h1 h2 => ?_, fun h1 h2 => ?_, fun h1 h2 => ?_, fun h1 h2 => ?_⟩
  · dsimp only at h1 h2
    subst h2
    have r1 := row_cell_set hrow (rvals_len A) (sets9 hx) (show 5 < 9 by omega) (.int .i64 (xo - 1))
    have r2 := row_cell_set r1 (set_len9 (rvals_len A) rfl) (i := i) (k := 8) (x := (Rf.vals ⟨⟨xj, xp, xs, xi⟩, xc, xo, true, xw, xt⟩).set 5 (.int .i64 (xo - 1))) (by simp [hiv]) (by omega) (.int .i64 (xt + 1))
    rw [List.set_set] at r2
    have e : rT1 ⟨⟨xj, xp, xs, xi⟩, xc, xo, true, xw, xt⟩ = ⟨⟨xj, xp, xs, xi⟩, xc, xo - 1, true, xw, xt + 1⟩ := by simp [rT1]; omega
    rw [e]
    exact r2
  · dsimp only at h1 h2
    subst h2
    have r1 := row_cell_set hrow (rvals_len A) (sets9 hx) (show 5 < 9 by omega) (.int .i64 (xo - 1))
    have e : rT1 ⟨⟨xj, xp, xs, xi⟩, xc, xo, false, xw, xt⟩ = ⟨⟨xj, xp, xs, xi⟩, xc, xo - 1, false, xw, xt⟩ := by simp [rT1]; omega
    rw [e]
    exact r1
  · dsimp only at h1 h2
    subst h1 h2
    have r1 := row_cell_set hrow (rvals_len A) (sets9 hx) (show 8 < 9 by omega) (.int .i64 (xt + 1))
    have e : rT1 ⟨⟨xj, xp, xs, xi⟩, xc, 0, true, xw, xt⟩ = ⟨⟨xj, xp, xs, xi⟩, xc, 0, true, xw, xt + 1⟩ := by simp [rT1]; decide
    rw [e]
    exact r1
  · dsimp only at h1 h2
    subst h1 h2
    have e : rT1 ⟨⟨xj, xp, xs, xi⟩, xc, 0, false, xw, xt⟩ = ⟨⟨xj, xp, xs, xi⟩, xc, 0, false, xw, xt⟩ := by simp [rT1]; decide
    rw [e]
    have : (rvals A).set i (Rf.vals ⟨⟨xj, xp, xs, xi⟩, xc, 0, false, xw, xt⟩) = rvals A := by
      refine List.ext_getElem? fun j => ?_
      rw [List.getElem?_set]
      split
      · rename_i e; subst e
        exact (sets9 hx).symm
      · rfl
    rw [this]
    exact hrow

set_option maxRecDepth 20000 in
set_option maxHeartbeats 4000000 in
theorem tick_ref (r : Nat) (F : List Nat) (R : List Rf) (w : World) (h : RbIs w r F R) (hL : R.length ≤ 1073741822) (hg : ∀ x ∈ R, GoodX x) (hnd : (hw R).Nodup) :
    Calls Try.prog 20 #[.pointer (some ⟨r, 0, none⟩)] w fun e w' => e = .returned (.tuple #[]) ∧ RbPost w r F (rTick R) w' := by
  obtain ⟨i3, hi3, hz0, hz1, hz2⟩ := info3
  have Hnd := Lib.hid hnd
  have HI := Lib.hid h
  have HG := Lib.hid hg
  obtain ⟨v, h, hF⟩ := h
  have H := Lib.hid h
  have HF := Lib.hid hF
  have hr := h.blk.lt
  clear h hF hnd hg
  by_cases hnil : R = []
  · subst hnil
    obtain ⟨va, vc, rfl⟩ := own_shape H.out.row
    have h0 := H.out.blk.cell (o := 0) rfl
    simp only [List.length_nil] at h0
    go_enter Try.func20, Try.ntmps20
    go_wp2_with fail
    refine wp_loop_rounds 1 ?_
    rw [rounds_succ]
    go_wp2_with fail
    refine wp_loop_rounds 1 ?_
    rw [rounds_succ]
    go_wp2_with fail
    go_end0
    exact ⟨rfl, RbPost.same HI.out (Upd.refl _ _)⟩
  · obtain ⟨s, c, rfl, hlc, hcm, hs, hsr⟩ := H.out.isSome (List.length_pos_iff.2 hnil)
    unfold maxLen at hcm
    have HT0 : TkI w r s c R 0 (.slice none 0 0) w := ⟨by simpa [gst] using H.out, Upd.refl _ _, by simp [latesTo, lateOf]; exact World.ownsRow_nil _ _ _ _⟩
    have HT := Lib.hid HT0
    clear HT0 hnil
    go_enter Try.func20, Try.ntmps20
    go_wp2_with fail
    go_loopg [2, 3] R.length (fun g v u wr => ∃ i : Nat, u = .int .i64 i ∧ i ≤ R.length ∧ g = R.length - i ∧ TkI w r s c R i v wr)
    case atStart => exact ⟨0, rfl, Nat.zero_le _, rfl, HT.out⟩
    case round =>
      clear HT
      obtain ⟨i, rfl, hi, rfl, hT⟩ := hrel
      have HT := Lib.hid hT
      have h0 := hT.rb.blk.cell (o := 0) rfl
      clear hT
      by_cases hlt : i < R.length
      · obtain ⟨x, hx⟩ : ∃ x, R[i]? = some x := ⟨_, List.getElem?_eq_getElem hlt⟩
        have hgx := HG.out x (List.mem_of_getElem? hx)
        have hc := HT.out.rb.at (gst_at (g := rT1) hx)
        have k5 := hc.c5
        have k6 := hc.c6
        have k7 := hc.c7
        have k8 := hc.c8
        have f5 := hc.f (i * 9 + 5)
        have f8 := hc.f (i * 9 + 8)
        have hrow : wr.ownsRow 0 71 9 (.slice (some ⟨s, 0, none⟩) R.length c) R.length (rvals (gst rT1 R i)).flatten := by have := HT.out.rb.row; rwa [gst_len] at this
        have HRows := Lib.hid (t1_rows hrow (gst_at (g := rT1) hx) hgx.off.1)
        have Hx := Lib.hid hx
        have hll := lates_len R i
        obtain ⟨⟨g1, g2⟩, _, ⟨g3, g4, g5⟩⟩ := hgx
        clear hc hx hrow g5
        obtain ⟨⟨xj, xp, xs, xi⟩, xc, xo, xh, xw, xt⟩ := x
        dsimp only at k5 k6 k7 k8 g1 g2 g3 g4
        have HRows := Lib.hid HRows.out
        by_cases ho0 : 0 < xo
        · have d0 : decide (0 < xo) = true := by simpa using ho0
          cases xh
          · have HO := Lib.hid (HRows.out.2.1 ho0 rfl)
            have hu : Upd [s] wr (wr.setCell ⟨s, i * 9 + 5, none⟩ (.int .i64 (xo - 1))) := (Upd.refl _ _).setCell (a := ⟨s, i * 9 + 5, none⟩) (.inl (by simp)) _
            have HUu := Lib.hid hu
            clear hu
            go_wp2_with fail
            go_roundg (R.length - (i + 1))
            case measure => omega
            case rel => exact ⟨i + 1, by go_num, by omega, rfl, HT.out.step hs Hx.out (by simp [lt2, rT1]) HUu.out HO.out⟩
          · have HO := Lib.hid (HRows.out.1 ho0 rfl)
            have hu : Upd [s] wr ((wr.setCell ⟨s, i * 9 + 5, none⟩ (.int .i64 (xo - 1))).setCell ⟨s, i * 9 + 8, none⟩ (.int .i64 (xt + 1))) := ((Upd.refl _ _).setCell (a := ⟨s, i * 9 + 5, none⟩) (.inl (by simp)) _).setCell (a := ⟨s, i * 9 + 8, none⟩) (.inl (by simp)) _
            have HUu := Lib.hid hu
            clear hu
            by_cases ht : 12 ≤ xt + 1
            · have d2 : decide (12 ≤ xt + 1) = true := by simpa using ht
              go_wp2_with (at_builtin; refine wpList_append_mine rfl (.tmp 62) (.tmp 71) 46 rfl w.heap.size 3 i3 _ 1 8 Try.underlying46 hi3 hz0 hz1 hz2 rfl (by decide) u2 (latesTo R i).length ((latesTo R i).map (Value.int .i64)) rfl (World.ownsRow.alloc (HUu.out.row HT.out.late (fun k hk => by have := (own_lt HT.out.late hk).1; simp; omega)) _) ⟨wr.heap.size, 0, none⟩ 1 1 [.int .i64 xw] rfl rfl (by have hq := fun W : World => Blk.news (Blk.new W 3 [.int .i64 xw]); have hq2 := hq ((wr.setCell ⟨s, i * 9 + 5, none⟩ (.int .i64 (xo - 1))).setCell ⟨s, i * 9 + 8, none⟩ (.int .i64 (xt + 1))); simpa only [World.size_setCell] using hq2) (by simp [Value.oneCell']) (by unfold maxLen; omega) (by omega) (by have := HT.out.upd.size; simp; omega) ?_; intro v' w11 ho hg hgb; have Hn := Lib.hid (HT.out.late' hs hr Hx.out (by simp [lt2, rT1]; omega) HUu.out HO.out ((Upd.refl _ _).alloc _) ho hg); clear ho hg hgb)
              go_roundg (R.length - (i + 1))
              case measure => omega
              case rel => exact ⟨i + 1, by go_num, by omega, rfl, Hn.out⟩
            · have d2 : decide (12 ≤ xt + 1) = false := by simpa using ht
              go_wp2_with fail
              go_roundg (R.length - (i + 1))
              case measure => omega
              case rel => exact ⟨i + 1, by go_num, by omega, rfl, HT.out.step hs Hx.out (by simp [lt2, rT1]; omega) HUu.out HO.out⟩
        · obtain rfl : xo = 0 := by omega
          clear ho0
          cases xh
          · have HO := Lib.hid (HRows.out.2.2.2 rfl rfl)
            have hu : Upd [s] wr wr := Upd.refl _ _
            have HUu := Lib.hid hu
            clear hu
            go_wp2_with fail
            go_roundg (R.length - (i + 1))
            case measure => omega
            case rel => exact ⟨i + 1, by go_num, by omega, rfl, HT.out.step hs Hx.out (by simp [lt2, rT1]) HUu.out HO.out⟩
          · have HO := Lib.hid (HRows.out.2.2.1 rfl rfl)
            have hu : Upd [s] wr (wr.setCell ⟨s, i * 9 + 8, none⟩ (.int .i64 (xt + 1))) := (Upd.refl _ _).setCell (a := ⟨s, i * 9 + 8, none⟩) (.inl (by simp)) _
            have HUu := Lib.hid hu
            clear hu
            by_cases ht : 12 ≤ xt + 1
            · have d2 : decide (12 ≤ xt + 1) = true := by simpa using ht
              go_wp2_with (at_builtin; refine wpList_append_mine rfl (.tmp 62) (.tmp 71) 46 rfl w.heap.size 3 i3 _ 1 8 Try.underlying46 hi3 hz0 hz1 hz2 rfl (by decide) u2 (latesTo R i).length ((latesTo R i).map (Value.int .i64)) rfl (World.ownsRow.alloc (HUu.out.row HT.out.late (fun k hk => by have := (own_lt HT.out.late hk).1; simp; omega)) _) ⟨wr.heap.size, 0, none⟩ 1 1 [.int .i64 xw] rfl rfl (by have hq2 := Blk.news (Blk.new (wr.setCell ⟨s, i * 9 + 8, none⟩ (.int .i64 (xt + 1))) 3 [.int .i64 xw]); simpa only [World.size_setCell] using hq2) (by simp [Value.oneCell']) (by unfold maxLen; omega) (by omega) (by have := HT.out.upd.size; simp; omega) ?_; intro v' w11 ho hg hgb; have Hn := Lib.hid (HT.out.late' hs hr Hx.out (by simp [lt2, rT1]; omega) HUu.out HO.out ((Upd.refl _ _).alloc _) ho hg); clear ho hg hgb)
              go_roundg (R.length - (i + 1))
              case measure => omega
              case rel => exact ⟨i + 1, by go_num, by omega, rfl, Hn.out⟩
            · have d2 : decide (12 ≤ xt + 1) = false := by simpa using ht
              go_wp2_with fail
              go_roundg (R.length - (i + 1))
              case measure => omega
              case rel => exact ⟨i + 1, by go_num, by omega, rfl, HT.out.step hs Hx.out (by simp [lt2, rT1]; omega) HUu.out HO.out⟩
      · obtain rfl : i = R.length := by omega
        obtain ⟨va, vc, rfl⟩ := own_shape HT.out.late
        have hR1 : gst rT1 R R.length = R.map rT1 := by simp [gst]
        have hl1 : latesTo R R.length = lateOf (R.map rT1) := by simp [latesTo]
        have hT2 := HT.out
        have hrb := hT2.rb
        rw [hR1] at hrb
        have hlate := hT2.late
        have hll := lates_len R R.length
        have K0 := Lib.hid (show ∃ F', RbIs wr r F' (([] : List Int).foldl rNack (R.map rT1)) ∧ Upd (rfoot r (.slice (some ⟨s, 0, none⟩) R.length c)) w wr ∧ (∀ k ∈ F', k ∈ rfoot r (.slice (some ⟨s, 0, none⟩) R.length c) ∨ w.heap.size ≤ k) ∧ (∀ k, (Value.slice va (latesTo R R.length).length vc).ownBlock = some k → k ∉ F') ∧ wr.ownsRow w.heap.size 3 1 (.slice va (latesTo R R.length).length vc) (latesTo R R.length).length ((latesTo R R.length).map (Value.int .i64)) from
          ⟨rfoot r (.slice (some ⟨s, 0, none⟩) R.length c), ⟨_, hrb, fun k hk => ⟨hk, Nat.lt_of_lt_of_le (HF.out k hk).2 hT2.upd.size⟩⟩, hT2.upd.mono (by simp [rfoot, Value.ownBlock]), fun k hk => .inl hk, fun k hk hm => by have := (own_lt hlate hk).1; have := (HF.out k hm).2; omega, hlate⟩)
        have Hl1 := Lib.hid hl1
        clear HT hT2 hrb hlate hl1 hR1
        go_wp2_with fail
        clear h0
        go_loopg [4] (latesTo R R.length).length (fun g u wr => ∃ i : Nat, u = .int .i64 i ∧ i ≤ (latesTo R R.length).length ∧ g = (latesTo R R.length).length - i ∧ ∃ F', RbIs wr r F' (((latesTo R R.length).take i).foldl rNack (R.map rT1)) ∧ Upd (rfoot r (.slice (some ⟨s, 0, none⟩) R.length c)) w wr ∧ (∀ k ∈ F', k ∈ rfoot r (.slice (some ⟨s, 0, none⟩) R.length c) ∨ w.heap.size ≤ k) ∧ (∀ k, (Value.slice va (latesTo R R.length).length vc).ownBlock = some k → k ∉ F') ∧ wr.ownsRow w.heap.size 3 1 (.slice va (latesTo R R.length).length vc) (latesTo R R.length).length ((latesTo R R.length).map (Value.int .i64)))
        case atStart => exact ⟨0, rfl, Nat.zero_le _, rfl, K0.out⟩
        case round =>
          clear K0
          obtain ⟨i', rfl, hi', rfl, F', q1, q2, q3, q4, q5⟩ := hrel
          have Q1 := Lib.hid q1
          have Q2 := Lib.hid q2
          have Q3 := Lib.hid q3
          have Q4 := Lib.hid q4
          have Q5 := Lib.hid q5
          clear q1 q2 q3 q4 q5
          have hfl : (((latesTo R R.length).take i').foldl rNack (R.map rT1)).length = R.length := by
            have : ∀ (vs : List Int) (A : List Rf), (vs.foldl rNack A).length = A.length := fun vs => by
              induction vs with
              | nil => intro A; rfl
              | cons v vs ih => intro A; rw [List.foldl_cons, ih, nack_len]
            rw [this]; simp
          by_cases hlt' : i' < (latesTo R R.length).length
          · obtain ⟨z, hz⟩ : ∃ z, (latesTo R R.length)[i']? = some z := ⟨_, List.getElem?_eq_getElem hlt'⟩
            obtain ⟨gb, rfl⟩ : ∃ gb, va = some ⟨gb, 0, none⟩ := by
              rcases Q5.out.2 with ⟨h1, h0⟩ | ⟨g, cap', cur, h1, _⟩
              · omega
              · simp at h1; exact ⟨g, h1.1⟩
            have hc := Q5.out.cellAt i' (by omega)
            rw [show ((latesTo R R.length).map (Value.int .i64))[i']? = some (.int .i64 z) by simp [hz]] at hc
            have hgb := (own_lt Q5.out (k := gb) rfl).2
            have Hz := Lib.hid hz
            clear hz
            go_wp2_with fail
            refine (nack_ref r F' _ z _ Q1.out (by omega)).mono ?_
            rintro e w5 ⟨rfl, F5, p1, p2, p3⟩
            generalize (if (((latesTo R R.length).take i').foldl rNack (R.map rT1)).any (rHad z) = true then (0 : Int) else 3) = rv
            have hnew : ∃ F', RbIs w5 r F' (((latesTo R R.length).take (i' + 1)).foldl rNack (R.map rT1)) ∧ Upd (rfoot r (.slice (some ⟨s, 0, none⟩) R.length c)) w w5 ∧ (∀ k ∈ F', k ∈ rfoot r (.slice (some ⟨s, 0, none⟩) R.length c) ∨ w.heap.size ≤ k) ∧ (∀ k, (Value.slice (some ⟨gb, 0, none⟩) (latesTo R R.length).length vc).ownBlock = some k → k ∉ F') ∧ w5.ownsRow w.heap.size 3 1 (.slice (some ⟨gb, 0, none⟩) (latesTo R R.length).length vc) (latesTo R R.length).length ((latesTo R R.length).map (Value.int .i64)) := by
              refine ⟨F5, by rw [take_snoc Hz.out, List.foldl_append]; exact p1, Q2.out.trans p2 (fun k hk => ?_), fun k hk => ?_, fun k hk hm => ?_, p2.row Q5.out Q4.out⟩
              · rcases Q3.out k hk with h | h
                · exact .inl h
                · exact .inr h
              · rcases p3 k hk with h | h
                · exact Q3.out k h
                · have := Q2.out.size; exact .inr (by omega)
              · rcases p3 k hm with h | h
                · exact Q4.out k hk h
                · have := (own_lt Q5.out hk).2; omega
            have HN := Lib.hid hnew
            clear hnew p1 p2 p3
            go_wp2_with fail
            go_roundg ((latesTo R R.length).length - (i' + 1))
            case measure => omega
            case rel => exact ⟨i' + 1, by go_num, by omega, rfl, HN.out⟩
          · obtain rfl : i' = (latesTo R R.length).length := by omega
            go_wp2_with fail
            go_end0
            have e : ((latesTo R R.length).take (latesTo R R.length).length).foldl rNack (R.map rT1) = rTick R := by rw [List.take_length, Hl1.out]; exact tick_nacks Hnd.out
            refine ⟨rfl, F', by rw [← e]; exact Q1.out, Q2.out.mono (fun k hk => .inl (HF.out k hk).1), fun k hk => ?_⟩
            rcases Q3.out k hk with h | h
            · exact .inl (HF.out k h).1
            · exact .inr h
end Go.Proofs.Ytlebhaobfheocaa
