/- coxswainref15.Broker's Dequeue. Condition: counts in bounds. -/
import Derived.Test.YtlebhaobfheocaaRefT
set_option linter.unusedVariables false
set_option linter.unusedSimpArgs false
namespace Go.Proofs.Ytlebhaobfheocaa
open Go.RowKit Go.Lb Go.Hp

def bestZ : Option Nat → Int
  | none => -1
  | some k => k
theorem best_skip {R : List Rf} {i : Nat} {x : Rf} (hx : R[i]? = some x) (h : rElig x = false) : best R (i + 1) = best R i := by simp [best, hx, h]
theorem best_first {R : List Rf} {i : Nat} {x : Rf} (hx : R[i]? = some x) (h : rElig x = true) (hb : best R i = none) : best R (i + 1) = some i := by simp [best, hx, h, hb]
theorem best_next {R : List Rf} {i k : Nat} {x y : Rf} (hx : R[i]? = some x) (h : rElig x = true) (hb : best R i = some k) (hy : R[k]? = some y) : best R (i + 1) = if x.ev.ls y.ev then some i else some k := by simp [best, hx, h, hb, hy]
theorem best_lt {R : List Rf} {i k : Nat} (h : best R i = some k) : k < i ∧ ∃ y, R[k]? = some y := by
  rcases best_spec R i with ⟨h1, _⟩ | ⟨k', x, h1, h2, h3, _⟩
  · rw [h1] at h; cases h
  · rw [h1] at h
    obtain rfl : k' = k := by simpa using h
    exact ⟨h2, x, h3⟩

/-- The cells that are written make it one that is handed out. -/
theorem dq_rows {w : World} {s c n i : Nat} {R : List Rf} {x : Rf} (wk : Int) (hrow : w.ownsRow 0 71 9 (.slice (some ⟨s, 0, none⟩) n c) n (rvals R).flatten) (hx : R[i]? = some x) :
    ((((w.setCell ⟨s, i * 9 + 6, none⟩ (.bool true)).setCell ⟨s, i * 9 + 7, none⟩ (.int .i64 wk)).setCell ⟨s, i * 9 + 8, none⟩ (.int .i64 0)).setCell ⟨s, i * 9 + 4, none⟩ (.int .i64 (x.cnt + 1))).ownsRow 0 71 9 (.slice (some ⟨s, 0, none⟩) n c) n ((rvals R).set i (rDq wk x).vals).flatten := by
  have hi := (List.getElem?_eq_some_iff.1 hx).1
  have hiv : i < (rvals R).length := by simpa [rvals] using hi
  obtain ⟨⟨xj, xp, xs, xi⟩, xc, xo, xh, xw, xt⟩ := x
  have r1 := row_cell_set hrow (rvals_len R) (sets9 hx) (show 6 < 9 by omega) (.bool true)
  have r2 := row_cell_set r1 (set_len9 (rvals_len R) rfl) (i := i) (k := 7) (x := (Rf.vals ⟨⟨xj, xp, xs, xi⟩, xc, xo, xh, xw, xt⟩).set 6 (.bool true)) (by simp [hiv]) (by omega) (.int .i64 wk)
  rw [List.set_set] at r2
  have r3 := row_cell_set r2 (set_len9 (rvals_len R) rfl) (i := i) (k := 8) (x := ((Rf.vals ⟨⟨xj, xp, xs, xi⟩, xc, xo, xh, xw, xt⟩).set 6 (.bool true)).set 7 (.int .i64 wk)) (by simp [hiv]) (by omega) (.int .i64 0)
  rw [List.set_set] at r3
  have r4 := row_cell_set r3 (set_len9 (rvals_len R) rfl) (i := i) (k := 4) (x := (((Rf.vals ⟨⟨xj, xp, xs, xi⟩, xc, xo, xh, xw, xt⟩).set 6 (.bool true)).set 7 (.int .i64 wk)).set 8 (.int .i64 0)) (by simp [hiv]) (by omega) (.int .i64 (xc + 1))
  rw [List.set_set] at r4
  exact r4
theorem dq_post {w W w3 : World} {r s c i : Nat} {F : List Nat} {R : List Rf} {x : Rf} {wk : Int} (hF : ∀ k ∈ rfoot r (.slice (some ⟨s, 0, none⟩) R.length c), k ∈ F ∧ k < w.heap.size) (h : RbAt w r (.slice (some ⟨s, 0, none⟩) R.length c) R) (hs : s < w.heap.size)
    (u : Upd [s] w W) (ho : W.ownsRow 0 71 9 (.slice (some ⟨s, 0, none⟩) R.length c) R.length ((rvals R).set i (rDq wk x).vals).flatten) (u3 : Upd [w.heap.size] W w3) : RbPost w r F (R.set i (rDq wk x)) w3 := by
  have uu : Upd [s] w w3 := u.trans u3 (by simp)
  exact rb_post hF (h.put uu (u3.row ho (by intro k hk; simp [Value.ownBlock] at hk; subst hk; simp; omega))) uu

set_option maxRecDepth 100000 in
set_option maxHeartbeats 6000000 in
theorem deq_ref (r : Nat) (F : List Nat) (R : List Rf) (wk : Int) (w : World) (h : RbIs w r F R) (hL : R.length ≤ 1073741822) (hg : ∀ x ∈ R, GoodX x) :
    Calls Try.prog 17 #[.pointer (some ⟨r, 0, none⟩), .int .i64 wk] w fun e w' => e = .returned (deqV (rDeq R wk).1) ∧ RbPost w r F (rDeq R wk).2 w' := by
  have HI := Lib.hid h
  have HG := Lib.hid hg
  obtain ⟨v, h, hF⟩ := h
  have u0 : Upd [] w (w.alloc (.cells #[.int .i64 0, .int .i64 0, .int .i64 0, .int .i64 0] 26)) := (Upd.refl _ _).alloc _
  have Hw := Lib.hid h
  have H := Lib.hid (h.any u0)
  have HF := Lib.hid hF
  have HR := Lib.hid (Blk.new w 26 Ev.zero.vals)
  have HU := Lib.hid u0
  have hbz := build26z
  have hrlt := h.blk.lt
  clear h hF u0 hg
  go_enter Try.func17, Try.ntmps17
  go_wp2_with fail
  refine (rof r v R wk _ H.out (by omega)).mono ?_
  rintro e w' ⟨z, rfl, hz, rfl⟩
  have hany := hz.any
  rcases hz with ⟨rfl, hall⟩ | ⟨i, x, rfl, hx, hp, hb⟩
  · have Hany := Lib.hid (show R.any (rHad wk) = false by rw [hany]; rfl)
    clear hall hany
    obtain ⟨va, vc, rfl⟩ := own_shape H.out.row
    have HR' : Hid (Blk (w.alloc (.cells #[.int .i64 0, .int .i64 0, .int .i64 0, .int .i64 0] 26)) w.heap.size 26 Ev.zero.vals) := HR
    have hsz : (w.alloc (.cells #[.int .i64 0, .int .i64 0, .int .i64 0, .int .i64 0] 26)).heap.size = w.heap.size + 1 := by simp
    clear HR
    generalize w.alloc (.cells #[.int .i64 0, .int .i64 0, .int .i64 0, .int .i64 0] 26) = w0 at *
    go_wp2_with fail
    go_loopg [6, 7] R.length (fun g t u wr => ∃ (i : Nat), u = .int .i64 i ∧ i ≤ R.length ∧ g = R.length - i ∧ t = .int .i64 (bestZ (best R i)) ∧ Upd [] w0 wr)
    case atStart => exact ⟨0, rfl, Nat.zero_le _, rfl, rfl, Upd.refl _ _⟩
    case round =>
      obtain ⟨i, rfl, hi, rfl, rfl, hU⟩ := hrel
      have HU0 := Lib.hid hU
      have h0 := (hU.blk H.out.blk (by simp)).cell (o := 0) rfl
      clear hU
      by_cases hlt : i < R.length
      · obtain ⟨x, hx⟩ : ∃ x, R[i]? = some x := ⟨_, List.getElem?_eq_getElem hlt⟩
        have hgx := HG.out x (List.mem_of_getElem? hx)
        obtain ⟨s, c', e, hlc, hcm, hs, hsr⟩ := (H.out.any HU0.out).isSome (by omega)
        obtain ⟨rfl, rfl⟩ : va = some ⟨s, 0, none⟩ ∧ vc = c' := by simpa using e
        have hc := (H.out.any HU0.out).at hx
        have k5 := hc.c5
        have k6 := hc.c6
        have Hrg := Lib.hid hc.ev
        have Hx := Lib.hid hx
        have hoff := hgx.off.1
        unfold maxLen at hcm
        clear e hc hx hgx
        obtain ⟨xe, xc, xo, xh, xw, xt⟩ := x
        dsimp only at k5 k6 hoff Hrg
        have d0 : decide (i < R.length) = true := by simpa using hlt
        cases xh
        · by_cases ho : 0 < xo
          · have d1 : decide (0 < xo) = true := by simpa using ho
            have Hb := Lib.hid (best_skip Hx.out (by simp [rElig]; omega))
            clear ho
            generalize hbz2 : bestZ (best R i) = bz at *
            have Hbz := Lib.hid hbz2
            clear hbz2
            go_wp2_with fail
            go_roundg (R.length - (i + 1))
            case measure => omega
            case rel => exact ⟨i + 1, by go_num, by omega, rfl, by rw [Hb.out, Hbz.out], HU0.out⟩
          · have d1 : decide (0 < xo) = false := by simpa using ho
            have he : rElig ⟨xe, xc, xo, false, xw, xt⟩ = true := by simp [rElig]; omega
            have He := Lib.hid he
            clear he
            cases hbest : best R i with
            | none =>
              have Hb := Lib.hid (best_first Hx.out He.out hbest)
              clear hbest
              simp only [bestZ]
              go_wp2_with fail
              go_roundg (R.length - (i + 1))
              case measure => omega
              case rel => exact ⟨i + 1, by go_num, by omega, rfl, by rw [Hb.out]; rfl, HU0.out⟩
            | some k =>
              obtain ⟨hki, y, hy⟩ := best_lt hbest
              have hcy := (H.out.any HU0.out).at hy
              have Hry := Lib.hid hcy.ev
              have Hb := Lib.hid (best_next Hx.out He.out hbest hy)
              have hkl : k < R.length := by omega
              have dk0 : decide ((k : Int) < 0) = false := by simp
              have dk : decide (k < R.length) = true := by simpa using hkl
              clear hbest hy hcy
              simp only [bestZ]
              go_upto_region 10 with fail
              clear k5 k6
              refine wp_region_lex (fun w' => Upd [] wr w') 99 [(0, true), (1, true), (2, true), (3, true), (4, true), (5, true), (6, true), (7, true), (8, true), (9, true), (10, true), (11, true), (12, true), (13, true), (14, true), (15, true), (16, false), (17, false)] (by kernel_rfl) (by kernel_rfl) (by kernel_rfl) (by kernel_rfl) (fun _ _ d _ _ h => by cases d <;> exact h) ?_
              simp only [lexOps, List.map_cons, List.map_nil, List.getD_cons_zero, List.getD_cons_succ]
              have hS0 : Upd [] wr wr.drew := (Upd.refl _ _).drew
              have HRR : Hid (∀ w', Upd [] wr w' → w'.cell? ⟨r, 0, none⟩ = some (.slice (some ⟨s, 0, none⟩) R.length vc) ∧ w'.rangeAt s (i * 9) xe.vals ∧ w'.rangeAt s (k * 9) y.ev.vals) := Lib.hid fun w' u => by
                refine ⟨(u.cell (a := ⟨r, 0, none⟩) (show r < wr.heap.size by have := HU0.out.size; omega) (by simp)).trans h0, fun j v hj => ?_, fun j v hj => ?_⟩
                · rw [u.cell (a := ⟨s, i * 9 + j, none⟩) hs (by simp)]; exact Hrg.out j v hj
                · rw [u.cell (a := ⟨s, k * 9 + j, none⟩) hs (by simp)]; exact Hry.out j v hj
              iterate 7 (refine lex_read rfl (by assumption) (v := ?_) (fun w' hw => ?_) ?_; rotate_left; (focus (obtain ⟨q1, q2, q3⟩ := HRR.out w' hw; clear q2 q3; go_simp; try with_reducible rfl)); simp only [Act.put, List.setIfInBounds_toArray, List.set_cons_zero, List.set_cons_succ])
              refine lex_read rfl (by exact hS0) (fun w' hw => exec_load (by rfl) (by rfl) (run_loadAt_mid w' s (i * 9) 26 xe.vals _ (HRR.out w' hw).2.1 Try.underlying26 rfl (by exact Try.size26))) ?_
              try simp only [Act.put, List.setIfInBounds_toArray, List.set_cons_zero, List.set_cons_succ]
              iterate 7 (refine lex_read rfl (by assumption) (v := ?_) (fun w' hw => ?_) ?_; rotate_left; (focus (obtain ⟨q1, q2, q3⟩ := HRR.out w' hw; clear q2 q3; go_simp; try with_reducible rfl)); simp only [Act.put, List.setIfInBounds_toArray, List.set_cons_zero, List.set_cons_succ])
              refine lex_read rfl (by exact hS0) (fun w' hw => exec_load (by rfl) (by rfl) (run_loadAt_mid w' s (k * 9) 26 y.ev.vals _ (HRR.out w' hw).2.2 Try.underlying26 rfl (by exact Try.size26))) ?_
              try simp only [Act.put, List.setIfInBounds_toArray, List.set_cons_zero, List.set_cons_succ]
              refine lex_do rfl (fun K hK => ?_)
              go_simp
              refine (ahead_ref xe y.ev _).mono ?_
              rintro e w5 ⟨rfl, u5⟩
              have hS5 : Upd [] wr w5 := hS0.trans u5 (by simp)
              refine hK _ _ (fun _ => hS5) ?_
              clear hK K
              try simp only [Act.put, List.setIfInBounds_toArray, List.set_cons_zero, List.set_cons_succ]
              refine lex_do rfl (fun K hK => ?_)
              go_simp
              refine hK _ _ (fun _ => hS5) ?_
              clear hK K
              try simp only [Act.put, List.setIfInBounds_toArray, List.set_cons_zero, List.set_cons_succ]
              refine lex_nil ?_
              have HS5 := Lib.hid (HU0.out.trans hS5 (by simp))
              clear hS0 hS5 u5
              obtain ⟨ls, hls⟩ : ∃ b, xe.ls y.ev = b := ⟨_, rfl⟩
              have Hb2 : Hid (best R (i + 1) = if ls then some i else some k) := Lib.hid (by rw [← hls]; exact Hb.out)
              rw [hls]
              clear hls
              cases ls
              · go_wp2_with fail
                go_roundg (R.length - (i + 1))
                case measure => omega
                case rel => exact ⟨i + 1, by go_num, by omega, rfl, by rw [Hb2.out]; rfl, HS5.out⟩
              · go_wp2_with fail
                go_roundg (R.length - (i + 1))
                case measure => omega
                case rel => exact ⟨i + 1, by go_num, by omega, rfl, by rw [Hb2.out]; rfl, HS5.out⟩
        · have Hb := Lib.hid (best_skip Hx.out (by simp [rElig]))
          generalize hbz2 : bestZ (best R i) = bz at *
          have Hbz := Lib.hid hbz2
          clear hbz2
          go_wp2_with fail
          go_roundg (R.length - (i + 1))
          case measure => omega
          case rel => exact ⟨i + 1, by go_num, by omega, rfl, by rw [Hb.out, Hbz.out], HU0.out⟩
      · obtain rfl : i = R.length := by omega
        have HRw := Lib.hid (HU0.out.blk HR'.out (by simp))
        cases hbest : best R R.length with
        | none =>
          have Hd := Lib.hid (show rDeq R wk = (none, R) by simp [rDeq, Hany.out, hbest])
          clear hbest
          simp only [bestZ]
          go_wp2_with (refine wpList_store_blk (o := ⟨none, .store 26 (.tmp 4) (.tmp 67), _, _, _, _⟩) rfl 26 (.tmp 4) (.tmp 67) rfl w.heap.size Ev.zero.vals rfl rfl HRw.out Try.size26 rfl (Ev.one _) ?_; intro w3 hb3 hu3)
          have hl := run_loadVar_blk (P := Try.prog) hb3 26 _ Try.underlying26 rfl (by exact Try.size26)
          refine bodyPost_ret (v := deqV none) ?_ rfl ⟨by rw [Hd.out], by rw [Hd.out]; exact RbPost.same HI.out ((HU.out.trans HU0.out (by simp)).trans hu3 (by simp))⟩
          rw [results_cell_tmp Try.results17]; simp [asAddr, hl, deqV]
        | some k =>
          obtain ⟨hki, x, hx⟩ := best_lt hbest
          have Hd := Lib.hid (show rDeq R wk = (some x.ev, R.set k (rDq wk x)) by simp [rDeq, Hany.out, hbest, hx])
          have hcn := (HG.out x (List.mem_of_getElem? hx)).cnt
          obtain ⟨s, c', e, hlc, hcm, hs, hsr⟩ := Hw.out.isSome (by omega)
          obtain ⟨rfl, rfl⟩ : va = some ⟨s, 0, none⟩ ∧ vc = c' := by simpa using e
          have hUw : Upd [] w wr := HU.out.trans HU0.out (by simp)
          have hsl : s < wr.heap.size := Nat.lt_of_lt_of_le hs hUw.size
          have hc := (H.out.any HU0.out).at hx
          have k4 := hc.c4
          have k6 := hc.c6
          have k7 := hc.c7
          have k8 := hc.c8
          have f4 := hc.f (k * 9 + 4)
          have f6 := hc.f (k * 9 + 6)
          have f7 := hc.f (k * 9 + 7)
          have f8 := hc.f (k * 9 + 8)
          have hro := dq_rows wk (H.out.any HU0.out).row hx
          have hW : Upd [s] w ((((wr.setCell ⟨s, k * 9 + 6, none⟩ (.bool true)).setCell ⟨s, k * 9 + 7, none⟩ (.int .i64 wk)).setCell ⟨s, k * 9 + 8, none⟩ (.int .i64 0)).setCell ⟨s, k * 9 + 4, none⟩ (.int .i64 (x.cnt + 1))) := by
            refine Upd.setCell (Upd.setCell (Upd.setCell (Upd.setCell (hUw.mono (by simp)) (a := ⟨s, k * 9 + 6, none⟩) (.inl ?_) _) (a := ⟨s, k * 9 + 7, none⟩) (.inl ?_) _) (a := ⟨s, k * 9 + 8, none⟩) (.inl ?_) _) (a := ⟨s, k * 9 + 4, none⟩) (.inl ?_) _ <;> simp
          have hne : w.heap.size ≠ s := by omega
          have hbR4 : Blk ((((wr.setCell ⟨s, k * 9 + 6, none⟩ (.bool true)).setCell ⟨s, k * 9 + 7, none⟩ (.int .i64 wk)).setCell ⟨s, k * 9 + 8, none⟩ (.int .i64 0)).setCell ⟨s, k * 9 + 4, none⟩ (.int .i64 (x.cnt + 1))) w.heap.size 26 Ev.zero.vals :=
            (((HRw.out.other (a := ⟨s, k * 9 + 6, none⟩) hne _).other (a := ⟨s, k * 9 + 7, none⟩) hne _).other (a := ⟨s, k * 9 + 8, none⟩) hne _).other (a := ⟨s, k * 9 + 4, none⟩) hne _
          have hrg : ((((wr.setCell ⟨s, k * 9 + 6, none⟩ (.bool true)).setCell ⟨s, k * 9 + 7, none⟩ (.int .i64 wk)).setCell ⟨s, k * 9 + 8, none⟩ (.int .i64 0)).setCell ⟨s, k * 9 + 4, none⟩ (.int .i64 (x.cnt + 1))).rangeAt s (k * 9) x.ev.vals := by
            have hlen2 : ∀ y ∈ (rvals R).set k (rDq wk x).vals, y.length = 9 := set_len9 (rvals_len R) rfl
            have hiv : k < (rvals R).length := by simp [rvals]; omega
            have h9 := row_range (n := R.length) (xss := (rvals R).set k (rDq wk x).vals) (by have := hro; exact this) hlen2 (i := k) (x := (rDq wk x).vals) (by simp [hiv])
            intro j v hj
            exact h9 j v (by simp only [Rf.vals, rDq]; rw [List.getElem?_append_left (List.getElem?_eq_some_iff.1 hj).1]; exact hj)
          have hr0 : ((((wr.setCell ⟨s, k * 9 + 6, none⟩ (.bool true)).setCell ⟨s, k * 9 + 7, none⟩ (.int .i64 wk)).setCell ⟨s, k * 9 + 8, none⟩ (.int .i64 0)).setCell ⟨s, k * 9 + 4, none⟩ (.int .i64 (x.cnt + 1))).cell? ⟨r, 0, none⟩ = some (.slice (some ⟨s, 0, none⟩) R.length vc) := by
            have hrs : r ≠ s := fun e => hsr e.symm
            exact ((((((HU0.out.blk H.out.blk (by simp)).other (a := ⟨s, k * 9 + 6, none⟩) hrs _).other (a := ⟨s, k * 9 + 7, none⟩) hrs _).other (a := ⟨s, k * 9 + 8, none⟩) hrs _).other (a := ⟨s, k * 9 + 4, none⟩) hrs _)).cell rfl
          have Hro := Lib.hid hro
          have HW := Lib.hid hW
          have HbR4 := Lib.hid hbR4
          have Hrg4 := Lib.hid hrg
          have Hr0 := Lib.hid hr0
          have hkl : k < R.length := hki
          have hrs : r ≠ s := fun e => hsr e.symm
          unfold maxLen at hcm
          clear e hc hx hbest hro hW hbR4 hrg hr0 hUw
          obtain ⟨xe, xc, xo, xh, xw, xt⟩ := x
          dsimp only at k4 k6 k7 k8 hcn Hrg4 HbR4 HW Hr0
          obtain ⟨hc1, hc2, -⟩ := hcn
          have dk0 : decide ((k : Int) < 0) = false := by simp
          simp only [bestZ]
          go_upto_region 19 with fail
          clear k4 k6 k7 k8 f4 f6 f7 f8 h0
          have h0 := Hr0.out
          generalize (((wr.setCell ⟨s, k * 9 + 6, none⟩ (.bool true)).setCell ⟨s, k * 9 + 7, none⟩ (.int .i64 wk)).setCell ⟨s, k * 9 + 8, none⟩ (.int .i64 0)).setCell ⟨s, k * 9 + 4, none⟩ (.int .i64 (xc + 1)) = W4 at *
          go_wp2_with (first | (refine wpList_load_mid rfl 26 (.tmp 107) rfl s (k * 9) rfl xe.vals _ Hrg4.out Try.underlying26 rfl Try.size26 ?_) | (refine wpList_store_blk (o := ⟨none, .store 26 (.tmp 4) (.tmp 108), _, _, _, _⟩) rfl 26 (.tmp 4) (.tmp 108) rfl w.heap.size xe.vals rfl rfl HbR4.out Try.size26 rfl (Ev.one _) ?_; intro w3 hb3 hu3))
          have hl := run_loadVar_blk (P := Try.prog) hb3 26 _ Try.underlying26 rfl (by exact Try.size26)
          refine bodyPost_ret (v := deqV (some xe)) ?_ rfl ⟨by rw [Hd.out], by rw [Hd.out]; exact dq_post HF.out Hw.out hs HW.out Hro.out hu3⟩
          rw [results_cell_tmp Try.results17]; simp [asAddr, hl, deqV]
  · have Hany := Lib.hid (show R.any (rHad wk) = true by rw [hany]; simp)
    have Hd := Lib.hid (show rDeq R wk = (none, R) by simp [rDeq, Hany.out])
    clear hx hp hb hany
    go_wp2_with (refine wpList_store_blk (o := ⟨none, .store 26 (.tmp 4) (.tmp 13), _, _, _, _⟩) rfl 26 (.tmp 4) (.tmp 13) rfl w.heap.size Ev.zero.vals rfl rfl HR.out Try.size26 rfl (Ev.one _) ?_; intro w3 hb3 hu3)
    have hl := run_loadVar_blk (P := Try.prog) hb3 26 _ Try.underlying26 rfl (by exact Try.size26)
    refine bodyPost_ret (v := deqV none) ?_ rfl ⟨by rw [Hd.out], by rw [Hd.out]; exact RbPost.same HI.out (HU.out.trans hu3 (by simp))⟩
    rw [results_cell_tmp Try.results17]; simp [asAddr, hl, deqV]
end Go.Proofs.Ytlebhaobfheocaa
