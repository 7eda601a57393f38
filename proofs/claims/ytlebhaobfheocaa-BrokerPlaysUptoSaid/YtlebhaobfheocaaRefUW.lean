/- coxswainref15.Broker's Update: the walk. -/
import Derived.Test.YtlebhaobfheocaaRefU
set_option linter.unusedVariables false
set_option linter.unusedSimpArgs false
namespace Go.Proofs.Ytlebhaobfheocaa
open Go.RowKit Go.Lb Go.Hp

set_option maxRecDepth 100000 in
set_option maxHeartbeats 6000000 in
theorem update_ref (r : Nat) (F : List Nat) (R : List Rf) (es : List Ev) (a : Option Addr) (n c : Nat) (y0 y1 y2 y3 y4 y5 y7 y8 : Value) (w : World) (h : RbIs w r F R) (hE : EvRow w a es) (hn : es.length = n) (hout : es ≠ [] → ∀ ad, a = some ad → ad.block ∉ F) (hL : R.length + n ≤ 1073741822) :
    Calls Try.prog 16 #[.pointer (some ⟨r, 0, none⟩), stA y0 y1 y2 y3 y4 y5 a n c y7 y8] w fun e w' => e = .returned (.tuple #[]) ∧ RbPost w r F (rUpd R es) w' := by
  obtain ⟨i71, hi7, hz70, hz71, hz72⟩ := info71
  obtain ⟨v, h, hF⟩ := h
  have hfl : ∀ k ∈ rfoot r v, k < w.heap.size := fun k hk => (hF k hk).2
  have hfo : es ≠ [] → ∀ ad, a = some ad → ad.block ∉ rfoot r v := fun hne ad e hm => hout hne ad e (hF _ hm).1
  have hst : RuI w r w.heap.size (rfoot r v) [y0, y1, y2, y3, y4, y5, .slice a n c, y7, y8] R v (w.alloc (.cells #[y0, y1, y2, y3, y4, y5, .slice a n c, y7, y8] 34)) := by
    have u1 : Upd [] w (w.alloc (.cells #[y0, y1, y2, y3, y4, y5, .slice a n c, y7, y8] 34)) := (Upd.refl _ _).alloc _
    exact ⟨h.any u1, fun k hk => ⟨by have := hfl k hk; simp; omega, .inl hk, by have := hfl k hk; omega⟩, u1.mono (by simp), Blk.new w 34 _⟩
  have HI := Lib.hid (show ∃ v', RuI w r w.heap.size (rfoot r v) [y0, y1, y2, y3, y4, y5, .slice a n c, y7, y8] ((es.take 0).foldl u1 R) v' (w.alloc (.cells #[y0, y1, y2, y3, y4, y5, .slice a n c, y7, y8] 34)) from ⟨v, hst⟩)
  have HE := Lib.hid hE
  have HF := Lib.hid hF
  have Hfo := Lib.hid hfo
  have Hn := Lib.hid hn
  clear h hst hE hF hfo hfl hn hout
  unfold stA
  go_enter Try.func16, Try.ntmps16
  go_wp2_with fail
  generalize w.alloc (.cells #[y0, y1, y2, y3, y4, y5, .slice a n c, y7, y8] 34) = wA at *
  generalize hfoe : rfoot r v = fo at *
  have Hfoe := Lib.hid hfoe
  clear hfoe
  go_loopg [4] n (fun g u wr => ∃ i : Nat, u = .int .i64 i ∧ i ≤ n ∧ g = n - i ∧ ∃ v', RuI w r w.heap.size fo [y0, y1, y2, y3, y4, y5, .slice a n c, y7, y8] ((es.take i).foldl u1 R) v' wr)
  case atStart => exact ⟨0, rfl, Nat.zero_le _, rfl, HI.out⟩
  case round =>
    clear HI
    obtain ⟨i, rfl, hi, rfl, v', hI⟩ := hrel
    have HI := Lib.hid hI
    have x6 := hI.st.cell (o := 6) rfl
    have hql := hI.st.lt
    have hfl := fold_len (es.take i) R
    have hfl2 : (es.take i).length = i := by have := Hn.out; simp; omega
    rw [hfl2] at hfl
    clear hI hfl2
    by_cases hlt : i < n
    · obtain ⟨⟨ej, ep, est, eix⟩, he⟩ : ∃ e, es[i]? = some e := ⟨_, List.getElem?_eq_getElem (by have := Hn.out; omega)⟩
      obtain ⟨k, o, rfl, hkl, hrg⟩ := (HE.out.upd HI.out.upd (Hfo.out (fun e => by rw [e] at he; simp at he))) i _ he
      have Hrg := Lib.hid hrg
      have Hsn : Hid ((es.take (i + 1)).foldl u1 R = u1 ((es.take i).foldl u1 R) ⟨ej, ep, est, eix⟩) := Lib.hid (by rw [take_snoc he, List.foldl_append]; rfl)
      clear hrg he hkl
      generalize (es.take i).foldl u1 R = A at *
      by_cases hs1 : est = 1
      · subst hs1
        go_wp2_with (first | (refine wpList_load_mid rfl 26 (.tmp 21) rfl k (o + i * 4) rfl (Ev.vals ⟨ej, ep, 1, eix⟩) _ Hrg.out Try.underlying26 rfl Try.size26 ?_) | (refine wpList_alloc_blk rfl 26 rfl Ev.zero.vals (zero26 _) ?_; intro w2 hb2 hu2) | (refine wpList_store_blk (o := ⟨none, .store 26 (.tmp 5) (.tmp 22), _, _, _, _⟩) rfl 26 (.tmp 5) (.tmp 22) rfl _ (Ev.vals ⟨ej, ep, 1, eix⟩) rfl rfl hb2 Try.size26 rfl (Ev.one _) ?_; intro w3 hb3 hu3; have x2 := hb3.cell (o := 2) (v := .int .i64 1) rfl; have x0 := hb3.cell (o := 0) (v := .int .i64 ej) rfl; have HI3 := Lib.hid (HI.out.any (hu2.trans hu3 (by simp))); have HB3 := Lib.hid hb3; have hwr3 := (hu2.trans hu3 (by simp)).size; clear hb3 hb2 hu2 hu3))
        refine (rfind r v' A ej _ HI3.out.rb (by omega)).mono ?_
        rintro e w' ⟨z, rfl, hz, rfl⟩
        clear x0 x2
        obtain ⟨va, vc, rfl⟩ := own_shape HI3.out.rb.row
        have z0 := HI3.out.rb.blk.cell (o := 0) rfl
        have zl := HI3.out.rb.blk.lt
        rcases hz with ⟨rfl, hall⟩ | ⟨i', x, rfl, hx, hp, hb⟩
        · have Hu := Lib.hid (u1_none (e := ⟨ej, ep, 1, eix⟩) rfl hall)
          clear hall
          go_wp2_with fail
          clear z0
          refine wp_region_lex (fun w' => Blk w' r 51 [.slice va A.length vc] ∧ Blk w' wr.heap.size 26 (Ev.vals ⟨ej, ep, 1, eix⟩)) 11 [(0, true), (1, true), (2, true), (3, true), (4, true), (5, true), (6, true), (7, false), (8, false), (9, false), (10, false), (11, false)] (by kernel_rfl) (by kernel_rfl) (by kernel_rfl) (by kernel_rfl) (fun _ _ d _ _ h => by cases d <;> exact h) ?_
          simp only [lexOps, List.map_cons, List.map_nil, List.getD_cons_zero, List.getD_cons_succ]
          have hS0 : Blk w3.drew r 51 [.slice va A.length vc] ∧ Blk w3.drew wr.heap.size 26 (Ev.vals ⟨ej, ep, 1, eix⟩) := ⟨HI3.out.rb.blk, HB3.out⟩
          iterate 5 (refine lex_read rfl (by exact hS0) (v := ?_) (fun w' hw => ?_) ?_; rotate_left; (focus (have q0 := hw.1.cell (o := 0) rfl; clear hw; go_simp; try with_reducible rfl)); simp only [Act.put, List.setIfInBounds_toArray, List.set_cons_zero, List.set_cons_succ])
          refine lex_read rfl (by exact hS0) (fun w' hw => exec_load (by rfl) (by rfl) (run_load_blk hw.2 26 _ Try.underlying26 rfl (by exact Try.size26))) ?_
          simp only [Act.put, List.setIfInBounds_toArray, List.set_cons_zero, List.set_cons_succ]
          refine lex_read rfl (by exact hS0) (fun w' hw => exec_build (by rfl) (by simp [Act.eval]) (build71 ⟨ej, ep, 1, eix⟩ _)) ?_
          simp only [Act.put, List.setIfInBounds_toArray, List.set_cons_zero, List.set_cons_succ]
          refine lex_run rfl (exec_buildSlice (by rfl) (by simp [Act.eval]) (buildSlice49 (rNew ⟨ej, ep, 1, eix⟩) _)) (fun _ => ⟨hS0.1.alloc _, hS0.2.alloc _⟩) ?_
          simp only [Act.put, List.setIfInBounds_toArray, List.set_cons_zero, List.set_cons_succ]
          have hW : Upd [] w3 (w3.drew.alloc (.cells (Rf.vals (rNew ⟨ej, ep, 1, eix⟩)).toArray 71)) := ((Upd.refl [] w3).drew).alloc _
          have hrow := (HI3.out.rb.any hW).row
          refine lex_do rfl (fun K hK => ?_)
          refine wp_append_lies _ _ _ 49 (by rfl) 0 71 i71 _ 9 72 Try.underlying49 hi7 hz70 hz71 hz72 rfl (by omega) (.slice va A.length vc) A.length (rvals A).flatten (by rfl) hrow _ 1 1 (Rf.vals (rNew ⟨ej, ep, 1, eix⟩)) (by rfl) (by rfl) (Blk.news (Blk.new w3.drew 71 (Rf.vals (rNew ⟨ej, ep, 1, eix⟩)))) (Rf.one _) (by omega) (by unfold maxLen; omega) (by omega) (by simp) _ rfl ?_
          intro gg cap w1 hown1 hgrow hat hltg
          have HfW := hW.blk HI3.out.rb.blk (by simp)
          have HBW := hW.blk HB3.out (by simp)
          have Hx := Lib.hid (HI3.out.app (y := rNew ⟨ej, ep, 1, eix⟩) hW hown1 hgrow hat hltg)
          generalize w3.drew.alloc (.cells (Rf.vals (rNew ⟨ej, ep, 1, eix⟩)).toArray 71) = W at *
          have hb1 : Blk w1 r 51 _ := (hgrow.block r HfW.lt (fun e => HI3.out.rb.ne e.symm)).trans HfW
          have hb2 : Blk w1 wr.heap.size 26 _ := (hgrow.block wr.heap.size HBW.lt (fun e => by have := (HI.out.ft wr.heap.size (by simp [rfoot, ← e])).1; omega)).trans HBW
          have q0 := hb1.cell (o := 0) rfl
          have q1 := hb1.frozen 0
          refine hK _ _ (fun _ => ⟨hb1, hb2⟩) ?_
          simp only [Act.put, List.setIfInBounds_toArray, List.set_cons_zero, List.set_cons_succ]
          clear hK K hown1 hgrow hat hltg hrow hW hS0 HfW HBW
          iterate 2 (refine lex_do rfl (fun K hK => ?_); go_simp; refine hK _ _ (fun _ => ⟨hb1, hb2⟩) ?_; clear hK K; try simp only [Act.put, List.setIfInBounds_toArray, List.set_cons_zero, List.set_cons_succ])
          refine lex_do rfl (fun K hK => ?_)
          go_simp
          refine hK _ _ (fun h => absurd rfl h) ?_
          clear hK K
          try simp only [Act.put, List.setIfInBounds_toArray, List.set_cons_zero, List.set_cons_succ]
          refine lex_nil ?_
          clear q0 q1 hb1 hb2 x6
          go_wp2_with fail
          go_roundg (n - (i + 1))
          case measure => omega
          case rel => exact ⟨i + 1, by go_num, by omega, rfl, _, by rw [Hsn.out, Hu.out]; exact Hx.out⟩
        · have hil := (List.getElem?_eq_some_iff.1 hx).1
          obtain ⟨s, c', e, hlc, hcm, hs, hsr⟩ := HI3.out.rb.isSome (by omega)
          obtain ⟨rfl, rfl⟩ : va = some ⟨s, 0, none⟩ ∧ vc = c' := by simpa using e
          have hc := HI3.out.rb.at hx
          have k6 := hc.c6
          have Hu := Lib.hid (u1_some (e := ⟨ej, ep, 1, eix⟩) rfl hx hp hb)
          have Hx := Lib.hid hx
          have hd : decide (i' < A.length) = true := by simpa using hil
          have hd0 : decide ((i' : Int) < 0) = false := by simp
          have c0 := hc.rg 0 (.int .i64 x.ev.job) rfl
          have c1 := hc.rg 1 (.int .i64 x.ev.pr) rfl
          have c2 := hc.rg 2 (.int .i64 x.ev.st) rfl
          have c3 := hc.rg 3 (.int .i64 x.ev.ix) rfl
          rw [Nat.add_zero] at c0
          have f0 := hc.f (i' * 9)
          have f1 := hc.f (i' * 9 + 1)
          have f2 := hc.f (i' * 9 + 2)
          have f3 := hc.f (i' * 9 + 3)
          have hro := put_rows (w := w3.drew) ⟨ej, ep, 1, eix⟩ HI3.out.rb.row.drew hx
          have Hro := Lib.hid hro
          unfold maxLen at hcm
          clear e hc hx hp hb hro
          obtain ⟨⟨xj, xp, xs, xi⟩, xc, xo, xh, xw, xt⟩ := x
          dsimp only at k6 c0 c1 c2 c3
          cases xh
          · have hun : Upd [s] w3 ((((w3.drew.setCell ⟨s, i' * 9, none⟩ (.int .i64 ej)).setCell ⟨s, i' * 9 + 1, none⟩ (.int .i64 ep)).setCell ⟨s, i' * 9 + 2, none⟩ (.int .i64 1)).setCell ⟨s, i' * 9 + 3, none⟩ (.int .i64 eix)) := by
              refine Upd.setCell (Upd.setCell (Upd.setCell (Upd.setCell (Upd.refl _ _).drew (a := ⟨s, i' * 9, none⟩) (.inl ?_) _) (a := ⟨s, i' * 9 + 1, none⟩) (.inl ?_) _) (a := ⟨s, i' * 9 + 2, none⟩) (.inl ?_) _) (a := ⟨s, i' * 9 + 3, none⟩) (.inl ?_) _ <;> simp
            have Hfin := Lib.hid (HI3.out.put (y := { (⟨⟨xj, xp, xs, xi⟩, xc, xo, false, xw, xt⟩ : Rf) with ev := ⟨ej, ep, 1, eix⟩ }) hun Hro.out)
            clear hun
            go_upto_region 10 with fail
            clear k6
            have hS0 : Blk w3.drew r 51 [.slice (some ⟨s, 0, none⟩) A.length vc] ∧ Blk w3.drew wr.heap.size 26 (Ev.vals ⟨ej, ep, 1, eix⟩) := ⟨HI3.out.rb.blk, HB3.out⟩
            clear z0
            refine wp_region_lex (fun w' => Blk w' r 51 [.slice (some ⟨s, 0, none⟩) A.length vc] ∧ Blk w' wr.heap.size 26 (Ev.vals ⟨ej, ep, 1, eix⟩)) 8 [(0, true), (1, true), (2, true), (3, true), (4, true), (5, true), (6, false), (7, false), (8, false)] (by kernel_rfl) (by kernel_rfl) (by kernel_rfl) (by kernel_rfl) (fun _ _ d _ _ h => by cases d <;> exact h) ?_
            simp only [lexOps, List.map_cons, List.map_nil, List.getD_cons_zero, List.getD_cons_succ]
            iterate 5 (refine lex_read rfl (by exact hS0) (v := ?_) (fun w' hw => ?_) ?_; rotate_left; (focus (have q0 := hw.1.cell (o := 0) rfl; clear hw; go_simp; try with_reducible rfl)); simp only [Act.put, List.setIfInBounds_toArray, List.set_cons_zero, List.set_cons_succ])
            refine lex_read rfl (by exact hS0) (fun w' hw => exec_load (by rfl) (by rfl) (run_load_blk hw.2 26 _ Try.underlying26 rfl (by exact Try.size26))) ?_
            simp only [Act.put, List.setIfInBounds_toArray, List.set_cons_zero, List.set_cons_succ]
            iterate 2 (refine lex_do rfl (fun K hK => ?_); go_simp; refine hK _ _ (fun _ => hS0) ?_; clear hK K; try simp only [Act.put, List.setIfInBounds_toArray, List.set_cons_zero, List.set_cons_succ])
            refine lex_do rfl (fun K hK => ?_)
            simp only [Ev.vals]
            go_simp
            refine hK _ _ (fun h => absurd rfl h) ?_
            clear hK K hS0
            try simp only [Act.put, List.setIfInBounds_toArray, List.set_cons_zero, List.set_cons_succ]
            refine lex_nil ?_
            clear c0 c1 c2 c3 f0 f1 f2 f3 x6
            go_wp2_with fail
            go_roundg (n - (i + 1))
            case measure => omega
            case rel => exact ⟨i + 1, by go_num, by omega, rfl, _, by rw [Hsn.out, Hu.out]; exact Hfin.out⟩
          · clear x6
            go_wp2_with fail
            go_roundg (n - (i + 1))
            case measure => omega
            case rel => exact ⟨i + 1, by go_num, by omega, rfl, _, by rw [Hsn.out, Hu.out, show rPut ⟨ej, ep, 1, eix⟩ ⟨⟨xj, xp, xs, xi⟩, xc, xo, true, xw, xt⟩ = ⟨⟨xj, xp, xs, xi⟩, xc, xo, true, xw, xt⟩ from rfl, set_same Hx.out]; exact HI3.out⟩
      · have hd1 : (est == 1) = false := beq_eq_false_iff_ne.2 hs1
        have Hs1 := Lib.hid hs1
        clear hs1
        go_wp2_with (first | (refine wpList_load_mid rfl 26 (.tmp 21) rfl k (o + i * 4) rfl (Ev.vals ⟨ej, ep, est, eix⟩) _ Hrg.out Try.underlying26 rfl Try.size26 ?_) | (refine wpList_alloc_blk rfl 26 rfl Ev.zero.vals (zero26 _) ?_; intro w2 hb2 hu2) | (refine wpList_store_blk (o := ⟨none, .store 26 (.tmp 5) (.tmp 22), _, _, _, _⟩) rfl 26 (.tmp 5) (.tmp 22) rfl _ (Ev.vals ⟨ej, ep, est, eix⟩) rfl rfl hb2 Try.size26 rfl (Ev.one _) ?_; intro w3 hb3 hu3; have x2 := hb3.cell (o := 2) (v := .int .i64 est) rfl))
        go_roundg (n - (i + 1))
        case measure => omega
        case rel => exact ⟨i + 1, by go_num, by omega, rfl, v', by rw [Hsn.out, show u1 A ⟨ej, ep, est, eix⟩ = A from if_neg Hs1.out]; exact HI.out.any (hu2.trans hu3 (by simp))⟩
    · obtain rfl : i = n := by omega
      have hall : es.take i = es := by rw [← Hn.out]; exact List.take_length
      rw [hall] at HI hfl
      obtain ⟨va, vc, rfl⟩ := own_shape HI.out.rb.row
      obtain ⟨A, hA⟩ : ∃ A, es.foldl u1 R = A := ⟨_, rfl⟩
      rw [hA] at HI hfl
      have HA := Lib.hid hA
      obtain ⟨wS, hwS⟩ : ∃ w', w' = wr := ⟨_, rfl⟩
      subst hwS
      have h0 := HI.out.rb.blk.cell (o := 0) rfl
      have hrl := HI.out.rb.blk.lt
      clear hall hA
      go_wp2_with fail
      go_loopg [7, 8] A.length (fun g v u wr => ∃ j : Nat, u = .int .i64 j ∧ j ≤ A.length ∧ g = A.length - j ∧ Upd [] wS wr ∧ RowR wS.heap.size wr v (keepTo es A j))
      case atStart => exact ⟨0, rfl, Nat.zero_le _, rfl, Upd.refl _ _, by simp [keepTo, RowR, rvals]; exact World.ownsRow_nil _ _ _ _⟩
      case round =>
        obtain ⟨j, rfl, hj, rfl, hU2, hR2⟩ := hrel
        have HU2 := Lib.hid hU2
        have HR2 := Lib.hid hR2
        clear hU2 hR2
        obtain ⟨w2, hw2⟩ : ∃ w', w' = wr := ⟨_, rfl⟩
        subst hw2
        have g0 := (HU2.out.blk HI.out.rb.blk (by simp)).cell (o := 0) rfl
        have gl := (HU2.out.blk HI.out.rb.blk (by simp)).lt
        have hkl := keep_len es A j
        by_cases hlt' : j < A.length
        · obtain ⟨x, hx⟩ : ∃ x, A[j]? = some x := ⟨_, List.getElem?_eq_getElem hlt'⟩
          obtain ⟨s, c', e, hlc, hcm, hs, hsr⟩ := HI.out.rb.isSome (by omega)
          obtain ⟨rfl, rfl⟩ : va = some ⟨s, 0, none⟩ ∧ vc = c' := by simpa using e
          have hc := HI.out.rb.at hx
          have Hc := Lib.hid hc
          have Hx := Lib.hid hx
          unfold maxLen at hcm
          have dj : decide (j < A.length) = true := by simpa using hlt'
          clear e hc hx
          go_wp2_with fail
          clear g0
          go_loopg [9, 10] i (fun g p u wr => ∃ k : Nat, u = .int .i64 k ∧ k ≤ i ∧ g = i - k ∧ p = .bool (pend (es.take k) x.ev.job) ∧ Upd [] w2 wr)
          case atStart => exact ⟨0, rfl, Nat.zero_le _, rfl, by simp [pend], Upd.refl _ _⟩
          case round =>
            obtain ⟨k, rfl, hk, rfl, rfl, hU3⟩ := hrel
            have HU3 := Lib.hid hU3
            have HUs := Lib.hid (HU2.out.trans hU3 (by simp))
            clear hU3
            have q6 := (HUs.out.blk HI.out.st (by simp)).cell (o := 6) rfl
            have q0 := (HUs.out.blk HI.out.rb.blk (by simp)).cell (o := 0) rfl
            have ql := (HUs.out.blk HI.out.st (by simp)).lt
            have rl := (HUs.out.blk HI.out.rb.blk (by simp)).lt
            have hs3 : s < wr.heap.size := Nat.lt_of_lt_of_le hs HUs.out.size
            by_cases hki : k < i
            · obtain ⟨⟨ej, ep, est, eix⟩, he⟩ : ∃ e, es[k]? = some e := ⟨_, List.getElem?_eq_getElem (by have := Hn.out; omega)⟩
              obtain ⟨kb, ko, rfl, hkb, hrg⟩ := (HE.out.upd ((HI.out.upd.trans HUs.out (by simp))) (Hfo.out (fun e => by rw [e] at he; simp at he))) k _ he
              have e0 := hrg 0 (.int .i64 ej) rfl
              have e2 := hrg 2 (.int .i64 est) rfl
              rw [Nat.add_zero] at e0
              have k0 := (HUs.out.cell (a := ⟨s, j * 9, none⟩) hs (by simp)).trans Hc.out.c0
              have Hnx := Lib.hid (pend_take he x.ev.job)
              have dk : decide (k < i) = true := by simpa using hki
              clear he hrg
              obtain ⟨⟨xj, xp, xs, xi⟩, xc, xo, xh, xw, xt⟩ := x
              dsimp only at k0 Hnx
              generalize pend (es.take k) xj = pd at *
              cases pd
              · by_cases hs1 : est = 1
                · subst hs1
                  by_cases hje : ej = xj
                  · subst hje
                    go_wp2_with (go_quiet (fail))
                    go_roundg (i - (k + 1))
                    case measure => omega
                    case rel => exact ⟨k + 1, by go_num, by omega, rfl, by rw [Hnx.out]; simp [pnd], HU3.out.drewN _⟩
                  · have d2 : (ej == xj) = false := beq_eq_false_iff_ne.2 hje
                    clear hje
                    go_wp2_with (go_quiet (fail))
                    go_roundg (i - (k + 1))
                    case measure => omega
                    case rel => exact ⟨k + 1, by go_num, by omega, rfl, by rw [Hnx.out]; simp [pnd, d2], HU3.out.drewN _⟩
                · have d1 : (est == 1) = false := beq_eq_false_iff_ne.2 hs1
                  clear hs1
                  go_wp2_with (go_quiet (fail))
                  go_roundg (i - (k + 1))
                  case measure => omega
                  case rel => exact ⟨k + 1, by go_num, by omega, rfl, by rw [Hnx.out]; simp [pnd, d1], HU3.out.drewN _⟩
              · go_wp2_with (go_quiet (fail))
                go_roundg (i - (k + 1))
                case measure => omega
                case rel => exact ⟨k + 1, by go_num, by omega, rfl, by rw [Hnx.out]; simp, HU3.out.drewN _⟩
            · obtain rfl : k = i := by omega
              have hpe : es.take k = es := by rw [← Hn.out]; exact List.take_length
              rw [hpe]
              have HU4 := HUs
              have HR4 : Hid (wr.ownsRow wS.heap.size 71 9 u7 (keepTo es A j).length (rvals (keepTo es A j)).flatten) := Lib.hid (HU3.out.row HR2.out (by simp))
              have k6 := (HUs.out.cell (a := ⟨s, j * 9 + 6, none⟩) hs (by simp)).trans Hc.out.c6
              have Hrg4 : Hid (wr.rangeAt s (j * 9) x.vals) := Lib.hid fun m v hm => by rw [HUs.out.cell (a := ⟨s, j * 9 + m, none⟩) hs (by simp)]; exact Hc.out.rg m v hm
              have Hpe := Lib.hid hpe
              clear hpe
              obtain ⟨pj, hpj⟩ : ∃ b, pend es x.ev.job = b := ⟨_, rfl⟩
              have HPJ := Lib.hid hpj
              rw [hpj]
              clear hpj
              obtain ⟨⟨xj, xp, xs, xi⟩, xc, xo, xh, xw, xt⟩ := x
              dsimp only at k6 HPJ
              cases pj
              · cases xh
                · have Hk := Lib.hid (keep_no (es := es) Hx.out (by simp [keepR, HPJ.out]))
                  go_wp2_with fail
                  go_roundg (A.length - (j + 1))
                  case measure => omega
                  case rel => exact ⟨j + 1, by go_num, by omega, rfl, HUs.out, by rw [Hk.out]; exact HR4.out⟩
                · have Hk := Lib.hid (keep_yes (es := es) Hx.out (by simp [keepR, HPJ.out]))
                  go_wp2_with (first | (refine wpList_load_mid rfl 71 (.tmp 121) rfl s (j * 9) rfl (Rf.vals ⟨⟨xj, xp, xs, xi⟩, xc, xo, true, xw, xt⟩) _ Hrg4.out Try.underlying71 rfl Try.size71 ?_) | (refine wpList_run (o := ⟨some 123, .buildSlice 49 1 #[(0, .tmp 122)], _, _, _, _⟩) rfl (exec_buildSlice (by rfl) (by simp [Act.eval, Act.put]) (buildSlice49 ⟨⟨xj, xp, xs, xi⟩, xc, xo, true, xw, xt⟩ _)) ?_) | (at_builtin; refine wpList_append_mine rfl (.tmp 115) (.tmp 123) 49 rfl wS.heap.size 71 i71 _ 9 72 Try.underlying49 hi7 hz70 hz71 hz72 rfl (by decide) u7 (keepTo es A j).length (rvals (keepTo es A j)).flatten rfl (World.ownsRow.alloc HR4.out _) ⟨_, 0, none⟩ 1 1 (Rf.vals ⟨⟨xj, xp, xs, xi⟩, xc, xo, true, xw, xt⟩) rfl rfl (Blk.news (Blk.new _ 71 (Rf.vals ⟨⟨xj, xp, xs, xi⟩, xc, xo, true, xw, xt⟩))) (Rf.one _) (by unfold maxLen; omega) (by omega) (by have := HU4.out.size; simp; omega) ?_; intro v9 w11 ho hg hgb; have Hn2 := Lib.hid (⟨(HU4.out.alloc _).grown hg (fun k hk => .inr (own_lt HR4.out hk).1), by rw [Hk.out]; simpa [RowR, rvals] using ho⟩ : Upd [] wS w11 ∧ RowR wS.heap.size w11 v9 (keepTo es A (j + 1))); clear ho hg hgb))
                  go_roundg (A.length - (j + 1))
                  case measure => omega
                  case rel => exact ⟨j + 1, by go_num, by omega, rfl, Hn2.out.1, Hn2.out.2⟩
              · have Hk := Lib.hid (keep_yes (es := es) Hx.out (by simp [keepR, HPJ.out]))
                go_wp2_with (first | (refine wpList_load_mid rfl 71 (.tmp 121) rfl s (j * 9) rfl (Rf.vals ⟨⟨xj, xp, xs, xi⟩, xc, xo, xh, xw, xt⟩) _ Hrg4.out Try.underlying71 rfl Try.size71 ?_) | (refine wpList_run (o := ⟨some 123, .buildSlice 49 1 #[(0, .tmp 122)], _, _, _, _⟩) rfl (exec_buildSlice (by rfl) (by simp [Act.eval, Act.put]) (buildSlice49 ⟨⟨xj, xp, xs, xi⟩, xc, xo, xh, xw, xt⟩ _)) ?_) | (at_builtin; refine wpList_append_mine rfl (.tmp 115) (.tmp 123) 49 rfl wS.heap.size 71 i71 _ 9 72 Try.underlying49 hi7 hz70 hz71 hz72 rfl (by decide) u7 (keepTo es A j).length (rvals (keepTo es A j)).flatten rfl (World.ownsRow.alloc HR4.out _) ⟨_, 0, none⟩ 1 1 (Rf.vals ⟨⟨xj, xp, xs, xi⟩, xc, xo, xh, xw, xt⟩) rfl rfl (Blk.news (Blk.new _ 71 (Rf.vals ⟨⟨xj, xp, xs, xi⟩, xc, xo, xh, xw, xt⟩))) (Rf.one _) (by unfold maxLen; omega) (by omega) (by have := HU4.out.size; simp; omega) ?_; intro v9 w11 ho hg hgb; have Hn2 := Lib.hid (⟨(HU4.out.alloc _).grown hg (fun k hk => .inr (own_lt HR4.out hk).1), by rw [Hk.out]; simpa [RowR, rvals] using ho⟩ : Upd [] wS w11 ∧ RowR wS.heap.size w11 v9 (keepTo es A (j + 1))); clear ho hg hgb))
                go_roundg (A.length - (j + 1))
                case measure => omega
                case rel => exact ⟨j + 1, by go_num, by omega, rfl, Hn2.out.1, Hn2.out.2⟩
        · obtain rfl : j = A.length := by omega
          obtain ⟨ua, uc, rfl⟩ := own_shape HR2.out
          have hfz := (HU2.out.blk HI.out.rb.blk (by simp)).frozen 0
          have hrF : r ∈ F := (HF.out r (by rw [← Hfoe.out]; simp [rfoot])).1
          have hkA : keepTo es A A.length = rUpd R es := by unfold keepTo rUpd; rw [List.take_length, HA.out]; rfl
          have hP := new_post (F := F) HI.out.rb hrF hrl HU2.out (v' := .slice ua (keepTo es A A.length).length uc) (L := keepTo es A A.length) HR2.out
          rw [hkA] at hP
          have HP := Lib.hid (hP.after (HI.out.upd.mono (fun k hk => .inl (HF.out k hk).1)))
          have HkA := Lib.hid hkA
          clear hP hkA
          go_wp2_with fail
          go_end0
          exact ⟨rfl, by rw [HkA.out]; exact HP.out⟩
end Go.Proofs.Ytlebhaobfheocaa
