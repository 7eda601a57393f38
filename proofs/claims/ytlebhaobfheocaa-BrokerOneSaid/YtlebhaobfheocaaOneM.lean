/- BrokerOne: the walk. Condition: no more evaluations in each deed than the reach lets. -/
import Derived.Test.YtlebhaobfheocaaSized
set_option linter.unusedVariables false
set_option linter.unusedSimpArgs false
namespace Go.Proofs.Ytlebhaobfheocaa
open Go.RowKit Go.Lb Go.Hp

theorem deqV_eq_m (o : Option Ev) : deqV o = .tuple #[.agg (o.getD Ev.zero).vals.toArray, .bool o.isSome] := by cases o <;> rfl

set_option maxRecDepth 100000 in
set_option maxHeartbeats 4000000 in
theorem one_ok_m (a0 : Option Addr) (len cap : Nat) (f : Nat → Dd) (w : World) (hrow : DdRowM w a0 len f) (hlen : len ≤ 4398046510976) :
    Calls Try.prog 6 #[.slice a0 len cap] w fun e w' => e = .returned (.bool true) ∧ Upd [] w w' := by
  have Hrow := Lib.hid hrow
  have b34 := build34
  clear hrow
  go_enter Try.func6, Try.ntmps6
  go_wp2_with fail
  refine (rnew _).mono ?_
  rintro e w1 ⟨b, rfl, h1, u1, n1⟩
  obtain ⟨F1, g1⟩ := St.start h1 u1 (by simpa using n1) Inv.nil
  have K1 := Lib.hid (show ∃ F R, St w b F R w1 ∧ R.length ≤ 4398046510980 ∧ HW 4 R from ⟨F1, _, g1, by simp, HW.nil 4⟩)
  clear h1 u1 n1 g1
  go_wp2_with fail
  go_loopg [4] len (fun g u wr => ∃ i : Nat, u = .int .i64 i ∧ i ≤ len ∧ g = len - i ∧ ∃ F R, St w b F R wr ∧ R.length ≤ 4398046510980 ∧ HW 4 R)
  case atStart => exact ⟨0, rfl, Nat.zero_le _, rfl, K1.out⟩
  case round =>
    obtain ⟨i, rfl, hi, rfl, F2, R2, hS, hSl, hSw⟩ := hrel
    have K2 := Lib.hid hS
    have K2w := Lib.hid hSw
    clear hS K1 hSw
    by_cases hlt : i < len
    · have hdd := (Hrow.out.1 i hlt).upd K2.out.upd
      have hsn := Hrow.out.2 i hlt
      obtain ⟨d, hd⟩ : ∃ d, f i = d := ⟨_, rfl⟩
      rw [hd] at hdd hsn
      obtain ⟨dk, dw, da, dn, dc, des⟩ := d
      have HDd0 : Hid ((∀ wB, Upd [] wr wB → EvRow wB da des) ∧ des.length = dn ∧ ∀ F R wB, St w b F R wB → des ≠ [] → ∀ ad, da = some ad → ad.block ∉ F) := by
        have h0 := Hrow.out.1 i hlt
        rw [hd] at h0
        obtain ⟨_, _, _, _, _, _, _, h6, h7, _⟩ := hdd
        exact Lib.hid ⟨fun wB u => h6.upd u (by simp), h7, fun F R wB hs => dd_apart h0 hs⟩
      obtain ⟨bk, o, rfl, hbk, hrg, hwk, hww, _, hln, _⟩ := hdd
      have Hrg := Lib.hid hrg
      have Hwk := Lib.hid hwk
      have Hww := Lib.hid hww
      dsimp only at hsn hln
      clear hrg hwk hww hd hbk
      go_wp2_with (first | (refine wpList_load_mid rfl 44 (.tmp 24) rfl bk (o + i * 3) rfl (Dd.vals ⟨dk, dw, da, dn, dc, des⟩) _ Hrg.out Try.underlying44 rfl Try.size44 ?_) | (refine wpList_alloc_blk rfl 44 rfl zDd.vals (zero44 _) ?_; intro w2 hb2 hu2) | (refine wpList_store_blk (o := ⟨none, .store 44 (.tmp 5) (.tmp 25), _, _, _, _⟩) rfl 44 (.tmp 5) (.tmp 25) rfl _ (Dd.vals ⟨dk, dw, da, dn, dc, des⟩) rfl rfl hb2 Try.size44 rfl (dvals_one _) ?_; intro w3 hb3 hu3; have c0 := hb3.cell (o := 0) (v := .int .i64 dk) rfl; have c1 := hb3.cell (o := 1) (v := .int .i64 dw) rfl))
      have u23 := hu2.trans hu3 (by simp)
      have K := Lib.hid (⟨K2.out.any u23, hSl, K2w.out⟩ : St w b F2 R2 w3 ∧ R2.length ≤ 4398046510980 ∧ HW 4 R2)
      have HQ := Lib.hid hb3
      have HDd := Lib.hid (⟨HDd0.out.1 _ u23, HDd0.out.2⟩ : EvRow w3 da des ∧ des.length = dn ∧ ∀ F R wB, St w b F R wB → des ≠ [] → ∀ ad, da = some ad → ad.block ∉ F)
      clear hb2 hu2 hu3 u23 K2 HDd0 hb3 Hrg K2w
      generalize R2 = R at *
      generalize F2 = F at *
      refine (pick_any dw 4 _ Hww.out (by decide)).mono ?_
      rintro e wx ⟨r, rfl, hr0, hr1, rfl⟩
      go_wp2_with fail
      refine (pick_any dk 5 _ Hwk.out (by decide)).mono ?_
      rintro e wx ⟨r2, rfl, hs0, hs1, rfl⟩
      clear c0 c1
      go_upto_block 2 with fail
      go_cut [] (fun wc => ∃ F R, St w b F R wc ∧ R.length ≤ 4398046510980 ∧ HW 4 R)
      case first =>
        by_cases z0 : r2 = 0
        · subst z0
          have c2 := HQ.out.cell (o := 2) (v := .slice da dn dc) rfl
          go_wp2_with fail
          refine (rupdate K.out.1.br des da dn dc _ _ _ _ _ _ _ _ HDd.out.1 HDd.out.2.1 (HDd.out.2.2 F R _ K.out.1) (by omega)).mono ?_
          rintro e w5 ⟨rfl, h5⟩
          obtain ⟨F5, g5, _, _⟩ := K.out.1.go h5 (Inv.doIt K.out.1.inv 0 r des)
          have HE := Lib.hid (show ∃ F R, St w b F R w5 ∧ R.length ≤ 4398046510980 ∧ HW 4 R from ⟨F5, doIt 0 r des R, g5, doIt_bd 0 r des K.out.1.inv K.out.2.2 K.out.2.1 (by omega), K.out.2.2.doIt 0 r des hr0 hr1⟩)
          clear h5 g5 K HQ c2
          go_wp2_with fail
          go_meet
          exact HE.out
        · have e0 : (r2 == 0) = false := beq_eq_false_iff_ne.2 z0
          by_cases z1 : r2 = 1
          · subst z1
            clear z0
            go_wp2_with fail
            refine (rdeq K.out.1.br (by omega) K.out.1.inv.good K.out.1.inv.jd r).mono ?_
            rintro e w5 ⟨rfl, h5⟩
            obtain ⟨F5, g5, _, _⟩ := K.out.1.go h5 (Inv.doIt K.out.1.inv 1 r des)
            have HE := Lib.hid (show ∃ F R, St w b F R w5 ∧ R.length ≤ 4398046510980 ∧ HW 4 R from ⟨F5, doIt 1 r des R, g5, doIt_bd 1 r des K.out.1.inv K.out.2.2 K.out.2.1 (by omega), K.out.2.2.doIt 1 r des hr0 hr1⟩)
            clear h5 g5 K HQ
            go_wp2_with fail
            go_meet
            exact HE.out
          · have e1 : (r2 == 1) = false := beq_eq_false_iff_ne.2 z1
            by_cases z2 : r2 = 2
            · subst z2
              clear z0 z1
              go_wp2_with fail
              refine (rack K.out.1.br (by omega) r).mono ?_
              rintro e w5 ⟨rfl, h5⟩
              generalize (if R.any (rHad r) = true then (0 : Int) else 3) = rv
              obtain ⟨F5, g5, _, _⟩ := K.out.1.go h5 (Inv.doIt K.out.1.inv 2 r des)
              have HE := Lib.hid (show ∃ F R, St w b F R w5 ∧ R.length ≤ 4398046510980 ∧ HW 4 R from ⟨F5, doIt 2 r des R, g5, doIt_bd 2 r des K.out.1.inv K.out.2.2 K.out.2.1 (by omega), K.out.2.2.doIt 2 r des hr0 hr1⟩)
              clear h5 g5 K HQ
              go_wp2_with fail
              go_meet
              exact HE.out
            · have e2 : (r2 == 2) = false := beq_eq_false_iff_ne.2 z2
              by_cases z3 : r2 = 3
              · subst z3
                clear z0 z1 z2
                go_wp2_with fail
                refine (rnack K.out.1.br (by omega) r).mono ?_
                rintro e w5 ⟨rfl, h5⟩
                generalize (if R.any (rHad r) = true then (0 : Int) else 3) = rv
                obtain ⟨F5, g5, _, _⟩ := K.out.1.go h5 (Inv.doIt K.out.1.inv 3 r des)
                have HE := Lib.hid (show ∃ F R, St w b F R w5 ∧ R.length ≤ 4398046510980 ∧ HW 4 R from ⟨F5, doIt 3 r des R, g5, doIt_bd 3 r des K.out.1.inv K.out.2.2 K.out.2.1 (by omega), K.out.2.2.doIt 3 r des hr0 hr1⟩)
                clear h5 g5 K HQ
                go_wp2_with fail
                go_meet
                exact HE.out
              · have e3 : (r2 == 3) = false := beq_eq_false_iff_ne.2 z3
                obtain rfl : r2 = 4 := by omega
                clear z0 z1 z2 z3
                go_wp2_with fail
                refine (rtick K.out.1.br (by omega) K.out.1.inv.good).mono ?_
                rintro e w5 ⟨rfl, h5⟩
                obtain ⟨F5, g5, _, _⟩ := K.out.1.go h5 (Inv.doIt K.out.1.inv 4 r des)
                have HE := Lib.hid (show ∃ F R, St w b F R w5 ∧ R.length ≤ 4398046510980 ∧ HW 4 R from ⟨F5, doIt 4 r des R, g5, doIt_bd 4 r des K.out.1.inv K.out.2.2 K.out.2.1 (by omega), K.out.2.2.doIt 4 r des hr0 hr1⟩)
                clear h5 g5 K HQ
                go_wp2_with fail
                go_meet
                exact HE.out
      case rest =>
        clear K HQ HDd
        obtain ⟨F3, R3, hS3, hSl3, hSw3⟩ := hcut
        have K := Lib.hid hS3
        have KW := Lib.hid hSw3
        clear hS3 hSw3
        go_wp2_with fail
        go_loopg [7] 4 (fun g u wr => ∃ n : Nat, u = .int .i64 n ∧ n ≤ 4 ∧ g = 4 - n ∧ St w b F3 R3 wr)
        case atStart => exact ⟨0, rfl, Nat.zero_le _, rfl, K.out⟩
        case round =>
          obtain ⟨n, rfl, hn, rfl, hS4⟩ := hrel
          have K4 := Lib.hid hS4
          clear hS4 K
          by_cases hn4 : n < 4
          · have dn4 : decide ((n : Int) < 4) = true := by simp; omega
            go_wp2_with fail
            clear dn4
            go_loopg [8] n (fun g u wr => ∃ k : Nat, u = .int .i64 k ∧ k ≤ n ∧ g = n - k ∧ St w b F3 R3 wr)
            case atStart => exact ⟨0, rfl, Nat.zero_le _, rfl, K4.out⟩
            case round =>
              obtain ⟨k, rfl, hk, rfl, hS5⟩ := hrel
              have K5 := Lib.hid hS5
              clear hS5 K4
              by_cases hkn : k < n
              · go_wp2_with fail
                refine (rheld K5.out.br (by omega) (n : Int)).mono ?_
                rintro e w6 ⟨rfl, u6⟩
                have K6 := Lib.hid (K5.out.any u6)
                have HH : Hid (((R3.find? (rHad n)).map Rf.ev).isSome = true → ((R3.find? (rHad k)).map Rf.ev).isSome = true → ((((R3.find? (rHad n)).map Rf.ev).getD Ev.zero).job == (((R3.find? (rHad k)).map Rf.ev).getD Ev.zero).job) = false) := Lib.hid (by
                  intro h1 h2
                  cases hx : R3.find? (rHad n) with
                  | none => rw [hx] at h1; cases h1
                  | some x =>
                    cases hy : R3.find? (rHad k) with
                    | none => rw [hy] at h2; cases h2
                    | some y => exact held_apart K5.out.inv.jd (by omega) hx hy)
                clear u6 K5
                rw [deqV_eq_m]
                generalize hg1 : (R3.find? (rHad n)).map Rf.ev = o1 at *
                clear hg1
                obtain ⟨⟨xj, xp, xs, xi⟩, hx1⟩ : ∃ x, o1.getD Ev.zero = x := ⟨_, rfl⟩
                obtain ⟨p1, hp1⟩ : ∃ p, o1.isSome = p := ⟨_, rfl⟩
                rw [hx1, hp1] at HH ⊢
                clear hx1 hp1
                go_wp2_with (first | (refine wpList_alloc_blk rfl 26 rfl Ev.zero.vals (zero26 _) ?_; intro w7 hb7 hu7) | (refine wpList_store_blk (o := ⟨none, .store 26 (.tmp 9) (.tmp 71), _, _, _, _⟩) rfl 26 (.tmp 9) (.tmp 71) rfl _ (Ev.vals ⟨xj, xp, xs, xi⟩) rfl rfl hb7 Try.size26 rfl (Ev.one _) ?_; intro w8 hb8 hu8))
                have K8 := Lib.hid (K6.out.any (hu7.trans hu8 (by simp)))
                have HB8 := Lib.hid hb8
                clear hb7 hu7 hb8 hu8 K6
                generalize w6.heap.size = q9 at *
                refine (rheld K8.out.br (by omega) (k : Int)).mono ?_
                rintro e w9 ⟨rfl, u9⟩
                have K9 := Lib.hid (K8.out.any u9)
                have HB9 := Lib.hid (u9.blk HB8.out (by simp))
                clear u9 K8 HB8
                rw [deqV_eq_m]
                generalize hg2 : (R3.find? (rHad k)).map Rf.ev = o2 at *
                clear hg2
                obtain ⟨⟨yj, yp, ys, yi⟩, hx2⟩ : ∃ x, o2.getD Ev.zero = x := ⟨_, rfl⟩
                obtain ⟨p2, hp2⟩ : ∃ p, o2.isSome = p := ⟨_, rfl⟩
                rw [hx2, hp2] at HH ⊢
                clear hx2 hp2
                dsimp only at HH
                have hfin : ∀ w11, Upd [] w9 w11 → St w b F3 R3 w11 := fun w11 u => K9.out.any u
                have Hfin := Lib.hid hfin
                clear hfin
                cases p1
                · go_upto_region 28 with (first | (refine wpList_alloc_blk rfl 26 rfl Ev.zero.vals (zero26 _) ?_; intro w10 hb10 hu10) | (refine wpList_store_blk (o := ⟨none, .store 26 (.tmp 11) (.tmp 77), _, _, _, _⟩) rfl 26 (.tmp 11) (.tmp 77) rfl _ (Ev.vals ⟨yj, yp, ys, yi⟩) rfl rfl hb10 Try.size26 rfl (Ev.one _) ?_; intro w11 hb11 hu11))
                  go_wp2_with fail
                  go_roundg (n - (k + 1))
                  case measure => omega
                  case rel => exact ⟨k + 1, by go_num, by omega, rfl, Hfin.out _ (hu10.trans hu11 (by simp))⟩
                · cases p2
                  · go_upto_region 28 with (first | (refine wpList_alloc_blk rfl 26 rfl Ev.zero.vals (zero26 _) ?_; intro w10 hb10 hu10) | (refine wpList_store_blk (o := ⟨none, .store 26 (.tmp 11) (.tmp 77), _, _, _, _⟩) rfl 26 (.tmp 11) (.tmp 77) rfl _ (Ev.vals ⟨yj, yp, ys, yi⟩) rfl rfl hb10 Try.size26 rfl (Ev.one _) ?_; intro w11 hb11 hu11))
                    go_wp2_with fail
                    go_roundg (n - (k + 1))
                    case measure => omega
                    case rel => exact ⟨k + 1, by go_num, by omega, rfl, Hfin.out _ (hu10.trans hu11 (by simp))⟩
                  · have hne : (xj == yj) = false := HH.out rfl rfl
                    go_upto_region 28 with (first | (refine wpList_alloc_blk rfl 26 rfl Ev.zero.vals (zero26 _) ?_; intro w10 hb10 hu10) | (refine wpList_store_blk (o := ⟨none, .store 26 (.tmp 11) (.tmp 77), _, _, _, _⟩) rfl 26 (.tmp 11) (.tmp 77) rfl _ (Ev.vals ⟨yj, yp, ys, yi⟩) rfl rfl hb10 Try.size26 rfl (Ev.one _) ?_; intro w11 hb11 hu11; have y0 := hb11.cell (o := 0) (v := .int .i64 yj) rfl; have x0 := ((hu10.trans hu11 (by simp)).blk HB9.out (by simp)).cell (o := 0) (v := .int .i64 xj) rfl))
                    go_wp2_with fail
                    go_roundg (n - (k + 1))
                    case measure => omega
                    case rel => exact ⟨k + 1, by go_num, by omega, rfl, Hfin.out _ (hu10.trans hu11 (by simp))⟩
              · obtain rfl : k = n := by omega
                go_wp2_with fail
                go_roundg (4 - (k + 1))
                case measure => omega
                case rel => exact ⟨k + 1, by go_num, by omega, rfl, K5.out⟩
          · obtain rfl : n = 4 := by omega
            have K9 := Lib.hid (show ∃ F R, St w b F R wr ∧ R.length ≤ 4398046510980 ∧ HW 4 R from ⟨F3, R3, K4.out, hSl3, KW.out⟩)
            clear K4
            go_wp2_with fail
            go_roundg (len - (i + 1))
            case measure => omega
            case rel => exact ⟨i + 1, by go_num, by omega, rfl, K9.out⟩
    · obtain rfl : i = len := by omega
      go_wp2_with fail
      refine (lives_any _).mono ?_
      rintro e w12 ⟨rfl, u12⟩
      go_wp2_with fail
      go_ret
      exact ⟨rfl, (K2.out.any u12).upd⟩
end Go.Proofs.Ytlebhaobfheocaa
