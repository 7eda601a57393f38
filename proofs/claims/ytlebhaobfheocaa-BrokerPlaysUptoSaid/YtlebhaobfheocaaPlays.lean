/- BrokerPlays: the walk. Condition: at most 2^20 evaluations and deeds. -/
import Derived.Test.YtlebhaobfheocaaPlaysA
set_option linter.unusedVariables false
set_option linter.unusedSimpArgs false
namespace Go.Proofs.Ytlebhaobfheocaa
open Go.RowKit Go.Lb Go.Hp

set_option maxRecDepth 100000 in
set_option maxHeartbeats 4000000 in
theorem plays_ok (a0 : Option Addr) (len cap : Nat) (f : Nat → Dd) (w : World) (hrow : DdRow w a0 len f) (hlen : len ≤ 1048576) :
    Calls Try.prog 5 #[.slice a0 len cap] w fun e w' => e = .returned (.bool true) ∧ Upd [] w w' := by
  have Hrow := Lib.hid hrow
  have b34 := build34
  have b51 := build51
  clear hrow
  go_enter Try.func5, Try.ntmps5
  go_wp2_with fail
  refine (rnew _).mono ?_
  rintro e w1 ⟨b, rfl, h1, u1, n1⟩
  obtain ⟨F1, g1⟩ := St.start h1 u1 (by simpa using n1) Inv.nil
  have K1 := Lib.hid (show PlR w b w1.heap.size (upS f 0) (w1.alloc (.cells #[.slice none 0 0] 51)) from ⟨_, _, _, Pl.start g1, by simp, by simp [hw]⟩)
  clear h1 u1 n1 g1
  go_wp2_with fail
  generalize hr : w1.heap.size = r at *
  generalize w1.alloc (.cells #[.slice none 0 0] 51) = w2 at *
  clear hr b51
  go_loopg [5] len (fun g u wr => ∃ i : Nat, u = .int .i64 i ∧ i ≤ len ∧ g = len - i ∧ PlR w b r (upS f i) wr)
  case atStart => exact ⟨0, rfl, Nat.zero_le _, rfl, K1.out⟩
  case round =>
    obtain ⟨i, rfl, hi, rfl, F, G, R, hS, hSl, hnd⟩ := hrel
    have K2 := Lib.hid hS
    have Hnd := Lib.hid hnd
    clear hS hnd K1
    by_cases hlt : i < len
    · have hdd := (Hrow.out.1 i hlt).upd K2.out.st.upd
      have hsn := upS_succ f i
      have hsm := Nat.le_trans (upS_mono f (show i + 1 ≤ len by omega)) Hrow.out.2
      obtain ⟨d, hd⟩ : ∃ d, f i = d := ⟨_, rfl⟩
      rw [hd] at hdd hsn
      obtain ⟨dk, dw, da, dn, dc, des⟩ := d
      have HDd : Hid ((∀ wB, Upd [] w wB → EvRow wB da des) ∧ des.length = dn ∧ ∀ F : List Nat, (∀ k ∈ F, w.heap.size ≤ k) → des ≠ [] → ∀ ad, da = some ad → ad.block ∉ F) := by
        have h0 := Hrow.out.1 i hlt
        rw [hd] at h0
        obtain ⟨_, _, _, _, _, _, _, h6, h7, h8⟩ := h0
        exact Lib.hid ⟨fun wB u => h6.upd u (by simp), h7, fun F hF hn ad e hm => by have := h8 ad e hn; have := hF _ hm; omega⟩
      obtain ⟨bk, o, rfl, hbk, hrg, hwk, hww, _, hln, _⟩ := hdd
      have Hrg := Lib.hid hrg
      have Hwk := Lib.hid hwk
      dsimp only at hsn hln
      clear hrg hwk hww hd hbk
      go_wp2_with (first | (refine wpList_load_mid rfl 44 (.tmp 29) rfl bk (o + i * 3) rfl (Dd.vals ⟨dk, dw, da, dn, dc, des⟩) _ Hrg.out Try.underlying44 rfl Try.size44 ?_) | (refine wpList_alloc_blk rfl 44 rfl zDd.vals (zero44 _) ?_; intro w2 hb2 hu2) | (refine wpList_store_blk (o := ⟨none, .store 44 (.tmp 6) (.tmp 30), _, _, _, _⟩) rfl 44 (.tmp 6) (.tmp 30) rfl _ (Dd.vals ⟨dk, dw, da, dn, dc, des⟩) rfl rfl hb2 Try.size44 rfl (dvals_one _) ?_; intro w3 hb3 hu3; have c0 := hb3.cell (o := 0) (v := .int .i64 dk) rfl))
      have u23 := hu2.trans hu3 (by simp)
      have K := Lib.hid (⟨K2.out.any u23, hSl, Hnd.out, K2.out.new hb3⟩ : Pl w b r F G R R w3 ∧ R.length ≤ upS f i ∧ (hw R).Nodup ∧ Sep F G wr.heap.size 44 (Dd.vals ⟨dk, dw, da, dn, dc, des⟩) w3)
      clear hb2 hu2 hu3 u23 K2 hb3 Hrg Hnd
      generalize wr.heap.size = q at *
      refine (pick_any dk 5 _ Hwk.out (by decide)).mono ?_
      rintro e wx ⟨r2, rfl, hs0, hs1, rfl⟩
      generalize w3 = wB at *
      clear c0
      go_upto_block 2 with fail
      go_cut [7] (fun v wc => v = .bool true ∧ PlQ w b r (upS f (i + 1)) q (Dd.vals ⟨dk, dw, da, dn, dc, des⟩) wc)
      case first =>
        by_cases z0 : r2 = 0
        · subst z0
          have c2 := K.out.2.2.2.blk.cell (o := 2) (v := .slice da dn dc) rfl
          go_wp2_with fail
          refine (rupdate K.out.1.st.br des da dn dc _ _ _ _ _ _ _ _ (HDd.out.1 _ K.out.1.st.upd) HDd.out.2.1 (HDd.out.2.2 F K.out.1.st.new) (by omega)).mono ?_
          rintro e w5 ⟨rfl, h5⟩
          obtain ⟨F5, g5, s5⟩ := K.out.1.b h5 (Inv.doIt K.out.1.st.inv 0 dw des)
          have K5 := Lib.hid g5
          have Q5 := Lib.hid (s5 _ _ _ K.out.2.2.2)
          clear h5 g5 s5
          clear c2
          have k2 := Q5.out.blk.cell (o := 2) (v := .slice da dn dc) rfl
          go_wp2_with fail
          refine (update_ref r G R des da dn dc _ _ _ _ _ _ _ _ _ K5.out.rb (HDd.out.1 _ K5.out.st.upd) HDd.out.2.1 (HDd.out.2.2 G K5.out.gn) (by omega)).mono ?_
          rintro e w6 ⟨rfl, h6⟩
          obtain ⟨G6, g6, s6⟩ := K5.out.r h6
          have HE := Lib.hid (show PlQ w b r (upS f (i + 1)) q (Dd.vals ⟨dk, dw, da, dn, dc, des⟩) w6 from ⟨F5, G6, doIt 0 dw des R, g6, by have := doIt_len 0 dw des R; have := K.out.2.1; omega, nd_doIt K.out.2.2.1 0 dw des, s6 _ _ _ Q5.out⟩)
          clear h6 g6 s6 K5 Q5 k2 K
          go_wp2_with fail
          go_meet
          exact ⟨rfl, HE.out⟩
        · have e0 : (r2 == 0) = false := beq_eq_false_iff_ne.2 z0
          by_cases z1 : r2 = 1
          · subst z1
            clear z0
            have c1 := K.out.2.2.2.blk.cell (o := 1) (v := .int .i64 dw) rfl
            go_wp2_with fail
            refine (rdeq K.out.1.st.br (by omega) K.out.1.st.inv.good K.out.1.st.inv.jd dw).mono ?_
            rintro e w5 ⟨rfl, h5⟩
            obtain ⟨F5, g5, s5⟩ := K.out.1.b h5 (Inv.doIt K.out.1.st.inv 1 dw des)
            have K5 := Lib.hid g5
            have Q5 := Lib.hid (s5 _ _ _ K.out.2.2.2)
            clear h5 g5 s5
            clear c1
            obtain ⟨⟨xj, xp, xs, xi⟩, p, hO⟩ : ∃ x p, deqV (rDeq R dw).1 = .tuple #[.agg (Ev.vals x).toArray, .bool p] := ⟨_, _, deqV_eq _⟩
            rw [hO]
            have HO := Lib.hid hO
            clear hO
            go_wp2_with (first | (refine wpList_alloc_blk rfl 26 rfl Ev.zero.vals (zero26 _) ?_; intro w6 hb6 hu6) | (refine wpList_store_blk (o := ⟨none, .store 26 (.tmp 8) (.tmp 53), _, _, _, _⟩) rfl 26 (.tmp 8) (.tmp 53) rfl _ (Ev.vals ⟨xj, xp, xs, xi⟩) rfl rfl hb6 Try.size26 rfl (Ev.one _) ?_; intro w7 hb7 hu7; have K7 := Lib.hid (K5.out.any (hu6.trans hu7 (by simp))); have Q7 := Lib.hid (Q5.out.any (hu6.trans hu7 (by simp))); have E7 := Lib.hid (K5.out.new hb7); have k1 := Q7.out.blk.cell (o := 1) (v := .int .i64 dw) rfl; clear hb6 hu6 hb7 hu7 K5 Q5))
            refine (deq_ref r G R dw _ K7.out.rb (by omega) K.out.1.st.inv.good).mono ?_
            rintro e w8 ⟨rfl, h8⟩
            rw [HO.out]
            obtain ⟨G8, g8, s8⟩ := K7.out.r h8
            have E8 := Lib.hid (s8 _ _ _ E7.out)
            have HE := Lib.hid (show PlQ w b r (upS f (i + 1)) q (Dd.vals ⟨dk, dw, da, dn, dc, des⟩) w8 from ⟨F5, G8, doIt 1 dw des R, g8, by have := doIt_len 1 dw des R; have := K.out.2.1; omega, nd_doIt K.out.2.2.1 1 dw des, s8 _ _ _ Q7.out⟩)
            clear h8 g8 s8 K7 Q7 E7 k1 K
            generalize w5.heap.size = q8 at *
            go_wp2_with (first | (refine wpList_alloc_blk rfl 26 rfl Ev.zero.vals (zero26 _) ?_; intro w9 hb9 hu9) | (refine wpList_store_blk (o := ⟨none, .store 26 (.tmp 10) (.tmp 60), _, _, _, _⟩) rfl 26 (.tmp 10) (.tmp 60) rfl _ (Ev.vals ⟨xj, xp, xs, xi⟩) rfl rfl hb9 Try.size26 rfl (Ev.one _) ?_; intro w10 hb10 hu10; have E10 := Lib.hid ((hu9.trans hu10 (by simp)).blk E8.out.blk (by simp)); have B10 := Lib.hid hb10; have U10 := Lib.hid (hu9.trans hu10 (by simp)); clear hb9 hu9 hb10 hu10; have e0 := E10.out.cell (o := 0) (v := .int .i64 xj) rfl; have b0 := B10.out.cell (o := 0) (v := .int .i64 xj) rfl; have e1 := E10.out.cell (o := 1) (v := .int .i64 xp) rfl; have b1 := B10.out.cell (o := 1) (v := .int .i64 xp) rfl; have e2 := E10.out.cell (o := 2) (v := .int .i64 xs) rfl; have b2 := B10.out.cell (o := 2) (v := .int .i64 xs) rfl; have e3 := E10.out.cell (o := 3) (v := .int .i64 xi) rfl; have b3 := B10.out.cell (o := 3) (v := .int .i64 xi) rfl))
            go_meet
            obtain ⟨F', G', R', k1, k2, k3, k4⟩ := HE.out
            exact ⟨by simp, F', G', R', k1.any U10.out, k2, k3, k4.any U10.out⟩
          · have e1 : (r2 == 1) = false := beq_eq_false_iff_ne.2 z1
            by_cases z2 : r2 = 2
            · subst z2
              clear z0 z1
              have c1 := K.out.2.2.2.blk.cell (o := 1) (v := .int .i64 dw) rfl
              obtain ⟨rv, hrv⟩ : ∃ rv, (if R.any (rHad dw) = true then (0 : Int) else 3) = rv := ⟨_, rfl⟩
              have Hrv := Lib.hid hrv
              clear hrv
              have hRl : R.length ≤ 1073741822 := by have := K.out.2.1; omega
              have K4 := Lib.hid (⟨K.out.1.any (Upd.refl [] wB).drew, K.out.2.2.2.any (Upd.refl [] wB).drew⟩ : Pl w b r F G R R wB.drew ∧ Sep F G q 44 (Dd.vals ⟨dk, dw, da, dn, dc, des⟩) wB.drew)
              go_upto_region 19 with fail
              go_region_with (first
                | (go_at_call 10; refine (rack K4.out.1.st.br hRl dw).mono ?_; rintro e w5 ⟨rfl, h5⟩; rw [Hrv.out]; obtain ⟨F5, g5, s5⟩ := K4.out.1.b h5 (Inv.doIt K.out.1.st.inv 2 dw des); have K5 := Lib.hid g5; have Q5 := Lib.hid (s5 _ _ _ K4.out.2); have m1 := Q5.out.blk.cell (o := 1) (v := .int .i64 dw) rfl; clear h5 g5 s5)
                | (go_at_call 18; refine (ack_ref r G R dw _ K5.out.rb hRl).mono ?_; rintro e w6 ⟨rfl, h6⟩; rw [Hrv.out]; obtain ⟨G6, g6, s6⟩ := K5.out.r h6; have HE := Lib.hid (show PlQ w b r (upS f (i + 1)) q (Dd.vals ⟨dk, dw, da, dn, dc, des⟩) w6 from ⟨F5, G6, doIt 2 dw des R, g6, by have := doIt_len 2 dw des R; have := K.out.2.1; omega, nd_doIt K.out.2.2.1 2 dw des, s6 _ _ _ Q5.out⟩); clear h6 g6 s6))
              all_goals
                go_wp2_with fail
                go_meet
                exact ⟨by simp, HE.out⟩
            · have e2 : (r2 == 2) = false := beq_eq_false_iff_ne.2 z2
              by_cases z3 : r2 = 3
              · subst z3
                clear z0 z1 z2
                have c1 := K.out.2.2.2.blk.cell (o := 1) (v := .int .i64 dw) rfl
                obtain ⟨rv, hrv⟩ : ∃ rv, (if R.any (rHad dw) = true then (0 : Int) else 3) = rv := ⟨_, rfl⟩
                have Hrv := Lib.hid hrv
                clear hrv
                have hRl : R.length ≤ 1073741822 := by have := K.out.2.1; omega
                have K4 := Lib.hid (⟨K.out.1.any (Upd.refl [] wB).drew, K.out.2.2.2.any (Upd.refl [] wB).drew⟩ : Pl w b r F G R R wB.drew ∧ Sep F G q 44 (Dd.vals ⟨dk, dw, da, dn, dc, des⟩) wB.drew)
                go_upto_region 21 with fail
                go_region_with (first
                  | (go_at_call 14; refine (rnack K4.out.1.st.br hRl dw).mono ?_; rintro e w5 ⟨rfl, h5⟩; rw [Hrv.out]; obtain ⟨F5, g5, s5⟩ := K4.out.1.b h5 (Inv.doIt K.out.1.st.inv 3 dw des); have K5 := Lib.hid g5; have Q5 := Lib.hid (s5 _ _ _ K4.out.2); have m1 := Q5.out.blk.cell (o := 1) (v := .int .i64 dw) rfl; clear h5 g5 s5)
                  | (go_at_call 19; refine (nack_ref r G R dw _ K5.out.rb hRl).mono ?_; rintro e w6 ⟨rfl, h6⟩; rw [Hrv.out]; obtain ⟨G6, g6, s6⟩ := K5.out.r h6; have HE := Lib.hid (show PlQ w b r (upS f (i + 1)) q (Dd.vals ⟨dk, dw, da, dn, dc, des⟩) w6 from ⟨F5, G6, doIt 3 dw des R, g6, by have := doIt_len 3 dw des R; have := K.out.2.1; omega, nd_doIt K.out.2.2.1 3 dw des, s6 _ _ _ Q5.out⟩); clear h6 g6 s6))
                all_goals
                  go_wp2_with fail
                  go_meet
                  exact ⟨by simp, HE.out⟩
              · have e3 : (r2 == 3) = false := beq_eq_false_iff_ne.2 z3
                obtain rfl : r2 = 4 := by omega
                clear z0 z1 z2 z3
                go_wp2_with fail
                refine (rtick K.out.1.st.br (by omega) K.out.1.st.inv.good).mono ?_
                rintro e w5 ⟨rfl, h5⟩
                obtain ⟨F5, g5, s5⟩ := K.out.1.b h5 (Inv.doIt K.out.1.st.inv 4 dw des)
                have K5 := Lib.hid g5
                have Q5 := Lib.hid (s5 _ _ _ K.out.2.2.2)
                clear h5 g5 s5
                go_wp2_with fail
                refine (tick_ref r G R _ K5.out.rb (by omega) K.out.1.st.inv.good K.out.2.2.1).mono ?_
                rintro e w6 ⟨rfl, h6⟩
                obtain ⟨G6, g6, s6⟩ := K5.out.r h6
                have HE := Lib.hid (show PlQ w b r (upS f (i + 1)) q (Dd.vals ⟨dk, dw, da, dn, dc, des⟩) w6 from ⟨F5, G6, doIt 4 dw des R, g6, by have := doIt_len 4 dw des R; have := K.out.2.1; omega, nd_doIt K.out.2.2.1 4 dw des, s6 _ _ _ Q5.out⟩)
                clear h6 g6 s6 K5 Q5 K
                go_wp2_with fail
                go_meet
                exact ⟨rfl, HE.out⟩
      case rest =>
        clear K
        obtain ⟨hm, hQ⟩ := hcut
        subst hm
        obtain ⟨F, G, R, h1, h2, h3, h4⟩ := hQ
        have K := Lib.hid (⟨h1, h2, h3, h4⟩ : Pl w b r F G R R wc ∧ R.length ≤ upS f (i + 1) ∧ (hw R).Nodup ∧ Sep F G q 44 (Dd.vals ⟨dk, dw, da, dn, dc, des⟩) wc)
        clear h1 h2 h3 h4
        have hRl : R.length ≤ 1048576 := by have := K.out.2.1; omega
        have c1 := K.out.2.2.2.blk.cell (o := 1) (v := .int .i64 dw) rfl
        go_wp2_with fail
        refine (rheld K.out.1.st.br (by omega) dw).mono ?_
        rintro e w5 ⟨rfl, u5⟩
        have K5 := Lib.hid (K.out.1.any u5)
        have Q5 := Lib.hid (K.out.2.2.2.any u5)
        clear u5 c1
        obtain ⟨⟨xj, xp, xs, xi⟩, p, hO⟩ : ∃ x p, deqV ((R.find? (rHad dw)).map Rf.ev) = .tuple #[.agg (Ev.vals x).toArray, .bool p] := ⟨_, _, deqV_eq _⟩
        rw [hO]
        have HO := Lib.hid hO
        clear hO
        go_wp2_with (first | (refine wpList_alloc_blk rfl 26 rfl Ev.zero.vals (zero26 _) ?_; intro w6 hb6 hu6) | (refine wpList_store_blk (o := ⟨none, .store 26 (.tmp 12) (.tmp 103), _, _, _, _⟩) rfl 26 (.tmp 12) (.tmp 103) rfl _ (Ev.vals ⟨xj, xp, xs, xi⟩) rfl rfl hb6 Try.size26 rfl (Ev.one _) ?_; intro w7 hb7 hu7; have K7 := Lib.hid (K5.out.any (hu6.trans hu7 (by simp))); have Q7 := Lib.hid (Q5.out.any (hu6.trans hu7 (by simp))); have E7 := Lib.hid (K5.out.new hb7); have k1 := Q7.out.blk.cell (o := 1) (v := .int .i64 dw) rfl; clear hb6 hu6 hb7 hu7 K5 Q5))
        refine (held_ref r G R dw _ K7.out.rb (by omega)).mono ?_
        rintro e w8 ⟨rfl, u8⟩
        rw [HO.out]
        have K8 := Lib.hid (K7.out.any u8)
        have E8 := Lib.hid (E7.out.any u8)
        clear u8 K7 Q7 E7 k1
        generalize w5.heap.size = q8 at *
        go_upto_region 27 with (first | (refine wpList_alloc_blk rfl 26 rfl Ev.zero.vals (zero26 _) ?_; intro w9 hb9 hu9) | (refine wpList_store_blk (o := ⟨none, .store 26 (.tmp 14) (.tmp 110), _, _, _, _⟩) rfl 26 (.tmp 14) (.tmp 110) rfl _ (Ev.vals ⟨xj, xp, xs, xi⟩) rfl rfl hb9 Try.size26 rfl (Ev.one _) ?_; intro w10 hb10 hu10; have K10 := Lib.hid (K8.out.any (hu9.trans hu10 (by simp))); have E10 := Lib.hid ((hu9.trans hu10 (by simp)).blk E8.out.blk (by simp)); have B10 := Lib.hid hb10; clear hb9 hu9 hb10 hu10))
        obtain ⟨vr, hvr, hfr⟩ := K10.out.rb
        obtain ⟨va, vc, rfl⟩ := own_shape hvr.row
        have r0 := hvr.blk.cell (o := 0) rfl
        have rl := hvr.blk.lt
        clear hfr hvr
        have e0 := E10.out.cell (o := 0) (v := .int .i64 xj) rfl
        have e1 := E10.out.cell (o := 1) (v := .int .i64 xp) rfl
        have e2 := E10.out.cell (o := 2) (v := .int .i64 xs) rfl
        have e3 := E10.out.cell (o := 3) (v := .int .i64 xi) rfl
        have b0 := B10.out.cell (o := 0) (v := .int .i64 xj) rfl
        have b1 := B10.out.cell (o := 1) (v := .int .i64 xp) rfl
        have b2 := B10.out.cell (o := 2) (v := .int .i64 xs) rfl
        have b3 := B10.out.cell (o := 3) (v := .int .i64 xi) rfl
        have HE := Lib.hid (show ∀ n, PlR w b r (upS f (i + 1)) (w10.drewN n) from fun n => ⟨F, G, R, K10.out.any ((Upd.refl [] w10).drewN n), K.out.2.1, K.out.2.2.1⟩)
        go_quiet ((go_at_call 11; exact Calls.quiet_of_same ((rlen (K10.out.st.br.any ((Upd.refl [] _).drewN _))).mono fun e w' h => ⟨h.1, h.2.symm⟩)))
        clear e0 e1 e2 e3 b0 b1 b2 b3 r0
        go_wp2_with fail
        go_roundg (len - (i + 1))
        case measure => omega
        case rel => exact ⟨i + 1, by go_num, by omega, rfl, HE.out _⟩
    · obtain rfl : i = len := by omega
      go_wp2_with fail
      refine (lives_any _).mono ?_
      rintro e w12 ⟨rfl, u12⟩
      go_wp2_with fail
      go_ret
      exact ⟨rfl, (K2.out.st.any u12).upd⟩
end Go.Proofs.Ytlebhaobfheocaa
