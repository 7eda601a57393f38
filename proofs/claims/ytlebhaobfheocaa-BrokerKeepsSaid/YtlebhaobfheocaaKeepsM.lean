/- BrokerKeeps: the walk. Condition: no more evaluations in each deed than the reach lets. -/
import Derived.Test.YtlebhaobfheocaaSized
set_option linter.unusedVariables false
set_option linter.unusedSimpArgs false
namespace Go.Proofs.Ytlebhaobfheocaa
open Go.RowKit Go.Lb Go.Hp

theorem info3 : ∃ i, Try.prog.info? 3 = some i ∧ i.zero = some (.int .i64 0) ∧ i.size = 1 ∧ i.bytes = 8 := by
  obtain ⟨i, h1, h2, h3, h4⟩ := info_parts (show (Try.prog.info? 3).map (fun i => (i.zero, i.size, i.bytes)) = some (some (.int .i64 0), 1, 8) by kernel_rfl)
  exact ⟨i, h1, h2, h3, h4⟩

/-- All that is pending is among those that were had. -/
def GotAllM (w : World) (es : List Ev) (len : Nat) (v : Value) (wc : World) : Prop := ∃ got : List Int, wc.ownsRow w.heap.size 3 1 v got.length (got.map (Value.int .i64)) ∧ Upd [] w wc ∧ got.length ≤ len ∧ ∀ j, pend es j = true → j ∈ got

set_option maxRecDepth 100000 in
set_option maxHeartbeats 4000000 in
theorem keeps_end_m (a1 : Option Addr) (len1 cap1 : Nat) (es : List Ev) (w : World) (hrow1 : EvRow w a1 es) (hlen1 : es.length = len1) (hl1 : len1 ≤ 4398046510976) : True := trivial

set_option maxRecDepth 100000 in
set_option maxHeartbeats 6000000 in
theorem keeps_ok_m (a0 : Option Addr) (len cap : Nat) (f : Nat → Dd) (a1 : Option Addr) (len1 cap1 : Nat) (es : List Ev) (w : World) (hrow : DdRowM w a0 len f) (hlen : len ≤ 4398046510976) (hrow1 : EvRow w a1 es) (hlen1 : es.length = len1) (hl1 : len1 ≤ 4398046510976) :
    Calls Try.prog 4 #[.slice a0 len cap, .slice a1 len1 cap1] w fun e w' => e = .returned (.bool true) ∧ Upd [] w w' := by
  obtain ⟨i3, hi3, hz0, hz1, hz2⟩ := info3
  have Hrow := Lib.hid hrow
  have Hrow1 := Lib.hid hrow1
  have Hlen1 := Lib.hid hlen1
  have b34 := build34
  clear hrow hrow1 hlen1
  go_enter Try.func4, Try.ntmps4
  go_wp2_with fail
  refine (rnew _).mono ?_
  rintro e w1 ⟨b, rfl, h1, u1, n1⟩
  obtain ⟨F1, g1⟩ := St.start h1 u1 (by simpa using n1) Inv.nil
  have K1 := Lib.hid (show ∃ F R, St w b F R w1 ∧ R.length ≤ 4398046510980 ∧ HW 4 R from ⟨F1, _, g1, by simp, HW.nil 4⟩)
  clear h1 u1 n1 g1
  go_wp2_with fail
  go_loopg [6] len (fun g u wr => ∃ i : Nat, u = .int .i64 i ∧ i ≤ len ∧ g = len - i ∧ ∃ F R, St w b F R wr ∧ R.length ≤ 4398046510980 ∧ HW 4 R)
  case atStart => exact ⟨0, rfl, Nat.zero_le _, rfl, K1.out⟩
  case round =>
    obtain ⟨i, rfl, hi, rfl, F2, R2, hS, hSl, hSw⟩ := hrel
    have K2 := Lib.hid hS
    have K2w := Lib.hid hSw
    clear hS K1 hSw
    by_cases hlt : i < len
    · have hdd := (Hrow.out.1 i hlt).upd K2.out.upd
      have hsn := Hrow.out.2 i hlt
      obtain ⟨d, hd⟩ : ∃ d, f i = d := ⟨_, rfl⟩
      rw [hd] at hdd hsn
      obtain ⟨dk, dw, da, dn, dc, des⟩ := d
      have HDd0 : Hid ((∀ wB, Upd [] wr wB → EvRow wB da des) ∧ des.length = dn ∧ ∀ F R wB, St w b F R wB → des ≠ [] → ∀ ad, da = some ad → ad.block ∉ F) := by
        have h0 := Hrow.out.1 i hlt
        rw [hd] at h0
        obtain ⟨_, _, _, _, _, _, _, h6, h7, _⟩ := hdd
        exact Lib.hid ⟨fun wB u => h6.upd u (by simp), h7, fun F R wB hs => dd_apart h0 hs⟩
      obtain ⟨bk, o, rfl, hbk, hrg, hwk, hww, _, hln, _⟩ := hdd
      have Hrg := Lib.hid hrg
      have Hwk := Lib.hid hwk
      have Hww := Lib.hid hww
      dsimp only at hsn hln
      clear hrg hwk hww hd hbk
      go_upto_block 1 with fail
      go_cut [] (fun wc => ∃ F R, St w b F R wc ∧ R.length ≤ 4398046510980 ∧ HW 4 R)
      case first =>
        go_wp2_with (first | (refine wpList_load_mid rfl 44 (.tmp 29) rfl bk (o + i * 3) rfl (Dd.vals ⟨dk, dw, da, dn, dc, des⟩) _ Hrg.out Try.underlying44 rfl Try.size44 ?_) | (refine wpList_alloc_blk rfl 44 rfl zDd.vals (zero44 _) ?_; intro w2 hb2 hu2) | (refine wpList_store_blk (o := ⟨none, .store 44 (.tmp 7) (.tmp 30), _, _, _, _⟩) rfl 44 (.tmp 7) (.tmp 30) rfl _ (Dd.vals ⟨dk, dw, da, dn, dc, des⟩) rfl rfl hb2 Try.size44 rfl (dvals_one _) ?_; intro w3 hb3 hu3; have c0 := hb3.cell (o := 0) (v := .int .i64 dk) rfl; have c1 := hb3.cell (o := 1) (v := .int .i64 dw) rfl))
        have u23 := hu2.trans hu3 (by simp)
        have K := Lib.hid (⟨K2.out.any u23, hSl, K2w.out⟩ : St w b F2 R2 w3 ∧ R2.length ≤ 4398046510980 ∧ HW 4 R2)
        have HQ := Lib.hid hb3
        have HDd := Lib.hid (⟨HDd0.out.1 _ u23, HDd0.out.2⟩ : EvRow w3 da des ∧ des.length = dn ∧ ∀ F R wB, St w b F R wB → des ≠ [] → ∀ ad, da = some ad → ad.block ∉ F)
        clear hb2 hu2 hu3 u23 K2 HDd0 hb3 Hrg K2w
        generalize R2 = R at *
        generalize F2 = F at *
        refine (pick_any dw 4 _ Hww.out (by decide)).mono ?_
        rintro e wx ⟨r, rfl, hr0, hr1, rfl⟩
        go_wp2_with fail
        refine (pick_any dk 5 _ Hwk.out (by decide)).mono ?_
        rintro e wx ⟨r2, rfl, hs0, hs1, rfl⟩
        clear c0 c1
        by_cases z0 : r2 = 0
        · subst z0
          have c2 := HQ.out.cell (o := 2) (v := .slice da dn dc) rfl
          go_wp2_with fail
          refine (rupdate K.out.1.br des da dn dc _ _ _ _ _ _ _ _ HDd.out.1 HDd.out.2.1 (HDd.out.2.2 F R _ K.out.1) (by omega)).mono ?_
          rintro e w5 ⟨rfl, h5⟩
          obtain ⟨F5, g5, _, _⟩ := K.out.1.go h5 (Inv.doIt K.out.1.inv 0 r des)
          have HE := Lib.hid (show ∃ F R, St w b F R w5 ∧ R.length ≤ 4398046510980 ∧ HW 4 R from ⟨F5, doIt 0 r des R, g5, doIt_bd 0 r des K.out.1.inv K.out.2.2 K.out.2.1 (by omega), K.out.2.2.doIt 0 r des hr0 hr1⟩)
          clear h5 g5 K HQ c2
          go_wp2_with fail
          go_meet
          exact HE.out
        · have e0 : (r2 == 0) = false := beq_eq_false_iff_ne.2 z0
          by_cases z1 : r2 = 1
          · subst z1
            clear z0
            go_wp2_with fail
            refine (rdeq K.out.1.br (by omega) K.out.1.inv.good K.out.1.inv.jd r).mono ?_
            rintro e w5 ⟨rfl, h5⟩
            obtain ⟨F5, g5, _, _⟩ := K.out.1.go h5 (Inv.doIt K.out.1.inv 1 r des)
            have HE := Lib.hid (show ∃ F R, St w b F R w5 ∧ R.length ≤ 4398046510980 ∧ HW 4 R from ⟨F5, doIt 1 r des R, g5, doIt_bd 1 r des K.out.1.inv K.out.2.2 K.out.2.1 (by omega), K.out.2.2.doIt 1 r des hr0 hr1⟩)
            clear h5 g5 K HQ
            go_wp2_with fail
            go_meet
            exact HE.out
          · have e1 : (r2 == 1) = false := beq_eq_false_iff_ne.2 z1
            by_cases z2 : r2 = 2
            · subst z2
              clear z0 z1
              go_wp2_with fail
              refine (rack K.out.1.br (by omega) r).mono ?_
              rintro e w5 ⟨rfl, h5⟩
              generalize (if R.any (rHad r) = true then (0 : Int) else 3) = rv
              obtain ⟨F5, g5, _, _⟩ := K.out.1.go h5 (Inv.doIt K.out.1.inv 2 r des)
              have HE := Lib.hid (show ∃ F R, St w b F R w5 ∧ R.length ≤ 4398046510980 ∧ HW 4 R from ⟨F5, doIt 2 r des R, g5, doIt_bd 2 r des K.out.1.inv K.out.2.2 K.out.2.1 (by omega), K.out.2.2.doIt 2 r des hr0 hr1⟩)
              clear h5 g5 K HQ
              go_wp2_with fail
              go_meet
              exact HE.out
            · have e2 : (r2 == 2) = false := beq_eq_false_iff_ne.2 z2
              by_cases z3 : r2 = 3
              · subst z3
                clear z0 z1 z2
                go_wp2_with fail
                refine (rnack K.out.1.br (by omega) r).mono ?_
                rintro e w5 ⟨rfl, h5⟩
                generalize (if R.any (rHad r) = true then (0 : Int) else 3) = rv
                obtain ⟨F5, g5, _, _⟩ := K.out.1.go h5 (Inv.doIt K.out.1.inv 3 r des)
                have HE := Lib.hid (show ∃ F R, St w b F R w5 ∧ R.length ≤ 4398046510980 ∧ HW 4 R from ⟨F5, doIt 3 r des R, g5, doIt_bd 3 r des K.out.1.inv K.out.2.2 K.out.2.1 (by omega), K.out.2.2.doIt 3 r des hr0 hr1⟩)
                clear h5 g5 K HQ
                go_wp2_with fail
                go_meet
                exact HE.out
              · have e3 : (r2 == 3) = false := beq_eq_false_iff_ne.2 z3
                obtain rfl : r2 = 4 := by omega
                clear z0 z1 z2 z3
                go_wp2_with fail
                refine (rtick K.out.1.br (by omega) K.out.1.inv.good).mono ?_
                rintro e w5 ⟨rfl, h5⟩
                obtain ⟨F5, g5, _, _⟩ := K.out.1.go h5 (Inv.doIt K.out.1.inv 4 r des)
                have HE := Lib.hid (show ∃ F R, St w b F R w5 ∧ R.length ≤ 4398046510980 ∧ HW 4 R from ⟨F5, doIt 4 r des R, g5, doIt_bd 4 r des K.out.1.inv K.out.2.2 K.out.2.1 (by omega), K.out.2.2.doIt 4 r des hr0 hr1⟩)
                clear h5 g5 K HQ
                go_wp2_with fail
                go_meet
                exact HE.out
      case rest =>
        have HE := Lib.hid hcut
        clear hcut K2 K2w HDd0 Hrg
        go_wp2_with fail
        go_roundg (len - (i + 1))
        case measure => omega
        case rel => exact ⟨i + 1, by go_num, by omega, rfl, HE.out⟩
    · obtain rfl : i = len := by omega
      have hsm' : R2.length ≤ 4398046510980 := hSl
      have K3 := Lib.hid (show ∃ F R, St w b F R wr ∧ R.length ≤ 4398046510980 ∧ HW 4 R ∧ ∀ z : Int, 0 ≤ z → z < ((0 : Nat) : Int) → z ∉ hw R from ⟨F2, R2, K2.out, hsm', K2w.out, fun z h1 h2 => by omega⟩)
      clear K2 K2w hSl hsm'
      go_wp2_with fail
      go_loopg [9] 4 (fun g u wr => ∃ v : Nat, u = .int .i64 v ∧ v ≤ 4 ∧ g = 4 - v ∧ ∃ F R, St w b F R wr ∧ R.length ≤ 4398046510980 ∧ HW 4 R ∧ ∀ z : Int, 0 ≤ z → z < (v : Int) → z ∉ hw R)
      case atStart => exact ⟨0, rfl, Nat.zero_le _, rfl, K3.out⟩
      case round =>
        clear K3
        obtain ⟨v, rfl, hv, rfl, F4, R4, hS, hSl, hSw, hz⟩ := hrel
        have K4 := Lib.hid hS
        have K4w := Lib.hid hSw
        have Hz := Lib.hid hz
        clear hS hSw hz
        by_cases hv4 : v < 4
        · go_wp2_with fail
          refine (rack K4.out.br (by omega) (v : Int)).mono ?_
          rintro e w5 ⟨rfl, h5⟩
          obtain ⟨F5, g5, _, _⟩ := K4.out.go h5 (K4.out.inv.ack v)
          have K5 := Lib.hid (show ∃ F R, St w b F R w5 ∧ R.length ≤ 4398046510980 ∧ HW 4 R ∧ ∀ z : Int, 0 ≤ z → z < ((v + 1 : Nat) : Int) → z ∉ hw R from ⟨F5, _, g5, Nat.le_trans (ack_len R4 v) hSl, K4w.out.sub (hw_sub List.eraseP_sublist), fun z h1 h2 => by
            by_cases hzv : z = (v : Int)
            · subst hzv; exact ack_none K4w.out.nd _
            · exact fun hm => Hz.out z h1 (by omega) ((hw_sub List.eraseP_sublist).subset hm)⟩)
          clear h5 g5 K4 K4w Hz
          generalize (if R4.any (rHad (v : Int)) = true then (0 : Int) else 3) = rv
          go_wp2_with fail
          go_roundg (4 - (v + 1))
          case measure => omega
          case rel => exact ⟨v + 1, by go_num, by omega, rfl, K5.out⟩
        · obtain rfl : v = 4 := by omega
          have hno := noHad_of K4w.out (fun z h1 h2 => Hz.out z h1 (by omega))
          have Hno := Lib.hid hno
          clear hno Hz K4w
          go_wp2_with fail
          have hEl := Hrow1.out.upd K4.out.upd (by simp)
          refine (rupdate K4.out.br es a1 len1 cap1 _ _ _ _ _ _ _ _ hEl Hlen1.out (fun hn ad e hm => by have := Hrow1.out.lt hn ad e; have := K4.out.new _ hm; omega) (by omega)).mono ?_
          rintro e w5 ⟨rfl, h5⟩
          obtain ⟨F5, g5, _, _⟩ := K4.out.go h5 (K4.out.inv.upd es)
          have K5 := Lib.hid (show ∃ F R, St w b F R w5 ∧ Kp es 0 R from ⟨F5, _, g5, Kp.start Hno.out (K4.out.inv.upd es)⟩)
          clear h5 g5 K4 Hno hEl b34
          go_wp2_with fail
          go_loopg [10] 6 (fun g u wr => ∃ t : Nat, u = .int .i64 t ∧ t ≤ 6 ∧ g = 6 - t ∧ ∃ F R, St w b F R wr ∧ Kp es t R)
          case atStart => exact ⟨0, rfl, Nat.zero_le _, rfl, K5.out⟩
          case round =>
            clear K5
            obtain ⟨t, rfl, ht, rfl, F6, R6, hS, hK⟩ := hrel
            have K6 := Lib.hid hS
            have K6k := Lib.hid hK
            have hRl : R6.length ≤ len1 := by have := hK.len; have := Hlen1.out; omega
            clear hS hK
            by_cases ht6 : t < 6
            · go_wp2_with fail
              refine (rtick K6.out.br (by omega) K6.out.inv.good).mono ?_
              rintro e w7 ⟨rfl, h7⟩
              obtain ⟨F7, g7, _, _⟩ := K6.out.go h7 K6.out.inv.tick
              have K7 := Lib.hid (show ∃ F R, St w b F R w7 ∧ Kp es (t + 1) R from ⟨F7, _, g7, K6k.out.tick ht6⟩)
              clear h7 g7 K6 K6k
              go_wp2_with fail
              go_roundg (6 - (t + 1))
              case measure => omega
              case rel => exact ⟨t + 1, by go_num, by omega, rfl, K7.out⟩
            · obtain rfl : t = 6 := by omega
              have K7 := Lib.hid (show ∃ (got : List Int) (R : List Rf) (F : List Nat), got.length = 0 ∧ Br2 w b F R 3 1 0 (.slice none 0 0) (got.map (Value.int .i64)) wr ∧ Free R ∧ R.length + 0 ≤ len1 ∧ ∀ j, pend es j = true → j ∈ jobs R ∨ j ∈ got from
                ⟨[], R6, F6, rfl, ⟨K6.out, World.ownsRow_nil _ _ _ _, by simp [Value.ownBlock]⟩, K6k.out.free, hRl, fun j hj => .inl (K6k.out.all j hj)⟩)
              clear K6 K6k
              go_upto_block 7 with fail
              go_cut [11] (fun v wc => GotAllM w es len1 v wc)
              case first =>
                go_wp2_with fail
                go_loopg [11, 12] (len1 + 1) (fun g v u wr => ∃ (n : Nat) (got : List Int) (R : List Rf) (F : List Nat), u = .int .i64 n ∧ g = len1 + 1 - n ∧ got.length = n ∧ Br2 w b F R 3 1 n v (got.map (Value.int .i64)) wr ∧ Free R ∧ R.length + n ≤ len1 ∧ ∀ j, pend es j = true → j ∈ jobs R ∨ j ∈ got)
                case atStart =>
                  obtain ⟨got, R, F, k1, k2, k3, k4, k5⟩ := K7.out
                  exact ⟨0, got, R, F, rfl, rfl, k1, k2, k3, k4, k5⟩
                case round =>
                  clear K7
                  obtain ⟨n, got, R, F, rfl, rfl, hgl, hS, hfree, hRn, hall⟩ := hrel
                  have K8 := Lib.hid hS
                  have Hfree := Lib.hid hfree
                  have Hall := Lib.hid hall
                  clear hS hfree hall
                  go_wp2_with fail
                  refine (rdeq K8.out.st.br (by omega) K8.out.st.inv.good K8.out.st.inv.jd 9).mono ?_
                  rintro e w9 ⟨rfl, h9⟩
                  obtain ⟨F9, g9, _, _⟩ := K8.out.go h9 (K8.out.st.inv.deq 9)
                  by_cases hR : R = []
                  · subst hR
                    rw [deq_nil] at g9 ⊢
                    simp only [deqV]
                    have K9 := Lib.hid g9
                    clear h9 g9 K8
                    go_wp2_with (first | (refine wpList_alloc_blk rfl 26 rfl Ev.zero.vals (zero26 _) ?_; intro w10 hb10 hu10) | (refine wpList_store_blk (o := ⟨none, .store 26 (.tmp 13) (.tmp 89), _, _, _, _⟩) rfl 26 (.tmp 13) (.tmp 89) rfl _ Ev.zero.vals rfl rfl hb10 Try.size26 rfl (Ev.one _) ?_; intro w11 hb11 hu11))
                    go_meet
                    have h11 := K9.out.any (hu10.trans hu11 (by simp))
                    refine ⟨got, by rw [hgl]; exact h11.row, h11.st.upd, by omega, fun j hj => ?_⟩
                    rcases Hall.out j hj with k | k
                    · simp [jobs] at k
                    · exact k
                  · obtain ⟨⟨⟨xj, xp, xs, xi⟩, xc, xo, xh, xw, xt⟩, R2', hx, hd, hany, hfree2, hlen2, _, hsub, hsup⟩ := Hfree.out.step hR 9
                    have hl9 : (rDeq R 9).2.length = R.length := deq_len R 9
                    dsimp only at hd
                    rw [hd] at g9 hl9 ⊢
                    dsimp only at g9 hl9
                    simp only [deqV]
                    have K9 := Lib.hid g9
                    have Hany := Lib.hid hany
                    have Hfree2 := Lib.hid hfree2
                    have Hsup := Lib.hid hsup
                    clear h9 g9 K8 hd hany hfree2 hsub hsup hx Hfree hR
                    go_wp2_with (first | (refine wpList_alloc_blk rfl 26 rfl Ev.zero.vals (zero26 _) ?_; intro w10 hb10 hu10) | (refine wpList_store_blk (o := ⟨none, .store 26 (.tmp 13) (.tmp 89), _, _, _, _⟩) rfl 26 (.tmp 13) (.tmp 89) rfl _ (Ev.vals ⟨xj, xp, xs, xi⟩) rfl rfl hb10 Try.size26 rfl (Ev.one _) ?_; intro w11 hb11 hu11; have y0 := hb11.cell (o := 0) (v := .int .i64 xj) rfl; have K11 := Lib.hid (K9.out.any (hu10.trans hu11 (by simp))); clear hb10 hu10 hb11 hu11 K9) | (at_builtin; refine wpList_append_mine rfl (.tmp 93) (.tmp 96) 46 rfl w.heap.size 3 i3 _ 1 8 Try.underlying46 hi3 hz0 hz1 hz2 rfl (by decide) u11 n (got.map (Value.int .i64)) rfl (World.ownsRow.alloc K11.out.row _) ⟨w11.heap.size, 0, none⟩ 1 1 [.int .i64 xj] rfl rfl (Blk.news (Blk.new _ 3 [.int .i64 xj])) (by simp [Value.oneCell']) (by unfold maxLen; omega) (by omega) (by have := K11.out.st.upd.size; simp; omega) ?_; intro v' w12 ho hg hgb; have K12 := Lib.hid (K11.out.app (ys := (got ++ [xj]).map (Value.int .i64)) ((Upd.refl _ _).alloc _) (by simpa using ho) hg (by simpa using hgb)); clear ho hg hgb K11 y0))
                    refine (rack K12.out.st.br (by omega) 9).mono ?_
                    rintro e w13 ⟨rfl, h13⟩
                    obtain ⟨F13, g13, _, _⟩ := K12.out.go h13 (K12.out.st.inv.ack 9)
                    rw [Hany.out]
                    simp only [if_true]
                    have K13 := Lib.hid g13
                    clear h13 g13 K12
                    go_wp2_with fail
                    go_roundg (len1 + 1 - (n + 1))
                    case measure => omega
                    case rel =>
                      refine ⟨n + 1, got ++ [xj], _, F13, by go_num, rfl, by simp [hgl], K13.out, Hfree2.out, by omega, fun j hj => ?_⟩
                      rcases Hall.out j hj with k | k
                      · obtain ⟨y, hy, rfl⟩ := List.mem_map.1 k
                        rcases Hsup.out y hy with rfl | h
                        · exact .inr (by simp)
                        · exact .inl (List.mem_map.2 ⟨y, h, rfl⟩)
                      · exact .inr (by simp [k])
              case rest =>
                obtain ⟨got, hg, hU, hgl, hall⟩ := hcut
                have Hg := Lib.hid hg
                have HU := Lib.hid hU
                have Hall := Lib.hid hall
                obtain ⟨ga, gc, rfl⟩ := own_shape hg
                clear hg hU hall K7
                go_wp2_with fail
                go_loopg [15] len1 (fun g u wr => ∃ i : Nat, u = .int .i64 i ∧ i ≤ len1 ∧ g = len1 - i ∧ Upd [] wc wr)
                case atStart => exact ⟨0, rfl, Nat.zero_le _, rfl, Upd.refl _ _⟩
                case round =>
                  obtain ⟨i', rfl, hi', rfl, hU2⟩ := hrel
                  have HU2 := Lib.hid hU2
                  clear hU2
                  by_cases hlt' : i' < len1
                  · obtain ⟨⟨ej, ep, est, eix⟩, he⟩ : ∃ e, es[i']? = some e := ⟨_, List.getElem?_eq_getElem (by have := Hlen1.out; omega)⟩
                    obtain ⟨kb, ko, rfl, hkl, hrg⟩ := (Hrow1.out.upd (HU.out.trans HU2.out (by simp)) (by simp)) i' _ he
                    have e2 := hrg 2 (.int .i64 est) rfl
                    have Hrg := Lib.hid hrg
                    have He := Lib.hid he
                    clear hrg he
                    by_cases hs1 : est = 1
                    · subst hs1
                      have hin : ej ∈ got := Hall.out ej (List.any_eq_true.2 ⟨_, List.mem_of_getElem? He.out, by simp⟩)
                      have Hin := Lib.hid hin
                      clear hin
                      go_wp2_with fail
                      clear e2
                      go_loopg [16, 17] got.length (fun g fd u wr2 => ∃ k : Nat, u = .int .i64 k ∧ k ≤ got.length ∧ g = got.length - k ∧ fd = .bool ((got.take k).any (· == ej)) ∧ Upd [] wr wr2)
                      case atStart => exact ⟨0, rfl, Nat.zero_le _, rfl, rfl, Upd.refl _ _⟩
                      case round =>
                        obtain ⟨k, rfl, hk, rfl, rfl, hU3⟩ := hrel
                        have HU3 := Lib.hid hU3
                        clear hU3
                        by_cases hkl' : k < got.length
                        · have hrw : ∀ z, got[k]? = some z → (got.take (k + 1)).any (· == ej) = ((got.take k).any (· == ej) || z == ej) := fun z hz => by rw [take_snoc hz, List.any_append]; simp
                          obtain ⟨z, hz⟩ : ∃ z, got[k]? = some z := ⟨_, List.getElem?_eq_getElem hkl'⟩
                          have hrow := (HU2.out.trans HU3.out (by simp)).row Hg.out (by simp)
                          obtain ⟨gb, rfl⟩ : ∃ gb, ga = some ⟨gb, 0, none⟩ := by
                            rcases hrow.2 with ⟨h1, h0⟩ | ⟨g, cap', cur, h1, _⟩
                            · omega
                            · simp at h1; exact ⟨g, h1.1⟩
                          have hc := hrow.cellAt k (by omega)
                          rw [show (got.map (Value.int .i64))[k]? = some (.int .i64 z) by simp [hz]] at hc
                          have hgb := (own_lt hrow (k := gb) rfl).2
                          have ec := (HU3.out.cell (a := ⟨kb, ko + i' * 4, none⟩) hkl (by simp)).trans (Hrg.out 0 (.int .i64 ej) rfl)
                          have hkl2 := Nat.lt_of_lt_of_le hkl HU3.out.size
                          have Hnx := Lib.hid (hrw z hz)
                          clear hrw hz hrow
                          generalize (got.take k).any (· == ej) = fd at *
                          have dk : decide (k < got.length) = true := by simpa using hkl'
                          have di : decide (i' < len1) = true := by simpa using hlt'
                          cases fd
                          · by_cases hze : z = ej
                            · subst hze
                              go_wp2_with (go_quiet (fail))
                              go_roundg (got.length - (k + 1))
                              case measure => omega
                              case rel => exact ⟨k + 1, by go_num, by omega, rfl, by rw [Hnx.out]; simp, HU3.out.drewN _⟩
                            · have dz : (z == ej) = false := beq_eq_false_iff_ne.2 hze
                              clear hze
                              go_wp2_with (go_quiet (fail))
                              go_roundg (got.length - (k + 1))
                              case measure => omega
                              case rel => exact ⟨k + 1, by go_num, by omega, rfl, by rw [Hnx.out, dz]; rfl, HU3.out.drewN _⟩
                          · go_wp2_with (go_quiet (fail))
                            go_roundg (got.length - (k + 1))
                            case measure => omega
                            case rel => exact ⟨k + 1, by go_num, by omega, rfl, by rw [Hnx.out]; simp, HU3.out.drewN _⟩
                        · obtain rfl : k = got.length := by omega
                          have hfd : (got.take got.length).any (· == ej) = true := by rw [List.take_length]; exact List.any_eq_true.2 ⟨ej, Hin.out, by simp⟩
                          rw [hfd]
                          go_wp2_with fail
                          go_roundg (len1 - (i' + 1))
                          case measure => omega
                          case rel => exact ⟨i' + 1, by go_num, by omega, rfl, HU2.out.trans HU3.out (by simp)⟩
                    · have ds : (est == 1) = false := beq_eq_false_iff_ne.2 hs1
                      clear hs1
                      go_wp2_with fail
                      go_roundg (len1 - (i' + 1))
                      case measure => omega
                      case rel => exact ⟨i' + 1, by go_num, by omega, rfl, HU2.out⟩
                  · obtain rfl : i' = len1 := by omega
                    go_wp2_with fail
                    refine (lives_any _).mono ?_
                    rintro e w12 ⟨rfl, u12⟩
                    go_wp2_with fail
                    go_ret
                    exact ⟨rfl, (HU.out.trans HU2.out (by simp)).trans u12 (by simp)⟩
end Go.Proofs.Ytlebhaobfheocaa
