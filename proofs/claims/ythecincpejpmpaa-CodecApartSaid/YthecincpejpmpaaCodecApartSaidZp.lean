/- CodecApart returns true for every input, and the input reads afterwards as it did. No condition. -/
import Derived.Test.YthecincpejpmpaaZfh
import Derived.SizedLaws
set_option linter.unusedVariables false
set_option linter.unusedSimpArgs false
/- law01's CodecApart, walked. -/
namespace Go.Rc
open Go Go.RowKit Go.Lb
/-- A command with another number. -/
def setReq : Val → Int → Val
  | .pair a (.pair b (.pair _ r)), n => .pair a (.pair b (.pair (.num n) r))
  | v, _ => v
theorem put_inj {s : Sch} {v u : Val} (hv : s.good v) (hu : s.good u) (h : s.put v = s.put u) : v = u := by
  have h1 := Sch.get_put s v [] hv
  have h2 := Sch.get_put s u [] hu
  rw [h, h2] at h1
  simp only [Option.some.injEq, Prod.mk.injEq, and_true] at h1
  exact h1.symm
theorem req_rep {w : World} {ok : Nat → Prop} {cs : List Value} {v : Val} {t : Sch} (h : (Sch.pair .num (.pair .num (.pair .num t))).Rep w ok cs v) (n : Int) :
    ∃ rq : Int, cs[2]? = some (.int .i64 rq) ∧ (Sch.pair .num (.pair .num (.pair .num t))).Rep w ok (cs.set 2 (.int .i64 n)) (setReq v n) ∧ ((Sch.pair .num (.pair .num (.pair .num t))).good v → (Sch.pair .num (.pair .num (.pair .num t))).good (setReq v n) → ((Sch.pair .num (.pair .num (.pair .num t))).put v == (Sch.pair .num (.pair .num (.pair .num t))).put (setReq v n)) = (n == rq)) ∧ (Sch.pair .num (.pair .num (.pair .num t))).wmax (setReq v n) = (Sch.pair .num (.pair .num (.pair .num t))).wmax v := by
  obtain ⟨_, _, _, _, rfl, rfl, ⟨a, rfl, rfl⟩, _, _, _, _, rfl, rfl, ⟨b, rfl, rfl⟩, _, c2, _, y, rfl, rfl, ⟨rq, rfl, rfl⟩, h4⟩ := h
  refine ⟨rq, rfl, ⟨[_], _, _, _, rfl, rfl, ⟨a, rfl, rfl⟩, [_], _, _, _, rfl, rfl, ⟨b, rfl, rfl⟩, [_], c2, _, y, rfl, rfl, ⟨n, rfl, rfl⟩, h4⟩, fun h1 h2 => ?_, rfl⟩
  rw [Bool.eq_iff_iff, beq_iff_eq, beq_iff_eq]
  constructor
  · intro e
    have := put_inj h1 h2 e
    simp only [setReq, Val.pair.injEq, Val.num.injEq] at this
    exact this.2.2.1.symm
  · rintro rfl; rfl
end Go.Rc
namespace Go.Proofs.Ythecincpejpmpaa
open Go.RowKit Go.Lb Go.Rc

theorem cmd_cmax (v : Val) : sCmd.cmax v ≤ 225000000000000 := Nat.le_trans (Sch.cmax_cap (R := 0) sCmd v (Sch.noraw_le sCmd v (by kernel_rfl))) (of_decide_eq_true (by kernel_rfl))

set_option maxRecDepth 20000 in
set_option maxHeartbeats 4000000 in
/-- The last part: the command with another number. -/
theorem apart_ok (cs ds : List Value) (v u : Val) (n : Int) (w : World) (hr : sCmd.Rep w (· < w.heap.size) cs v) (hr2 : sCmd.Rep w (· < w.heap.size) ds u) :
    Calls Try.prog 6 #[.agg cs.toArray, .agg ds.toArray, .int .i64 n] w fun e w' => e = .returned (.bool true) ∧ Upd [] w w' := by
  have hlen : cs.length = 27 := hr.len
  have hlen2 : ds.length = 27 := hr2.len
  obtain ⟨g, hg⟩ := good_dec sCmd v
  obtain ⟨p, hp⟩ : ∃ p, p = bytesOf g sCmd v := ⟨_, rfl⟩
  obtain ⟨k, hk⟩ := good_dec sCmd u
  obtain ⟨q, hq⟩ : ∃ q, q = bytesOf k sCmd u := ⟨_, rfl⟩
  obtain ⟨rq, hrq, hrep3, hpe, hwm⟩ := req_rep (t := tup [sJob, sNode, .list sReport, sPlan, sConf]) (show (Sch.pair .num (.pair .num (.pair .num (tup [sJob, sNode, .list sReport, sPlan, sConf])))).Rep w (· < w.heap.size) cs v from hr) n
  obtain ⟨m, hm⟩ := good_dec sCmd (setReq v n)
  obtain ⟨z, hz⟩ : ∃ z, z = bytesOf m sCmd (setReq v n) := ⟨_, rfl⟩
  have uW : Upd [] w ((w.alloc (.cells cs.toArray 48)).alloc (.cells ds.toArray 48)) := ((Upd.refl _ _).alloc _).alloc _
  have HPE : Hid (g = true → m = true → (p == z) = (n == rq)) := Lib.hid (fun e1 e2 => by
    subst e1 e2
    rw [hp, hz]
    exact hpe (hg.1 rfl) (hm.1 rfl))
  have HPL : Hid (p.length ≤ 225000000000000) := Lib.hid (by rw [hp]; exact Nat.le_trans (bytesOf_most hg) (of_decide_eq_true (by kernel_rfl)))
  have HG := Lib.hid hg
  have HP := Lib.hid hp
  have HK := Lib.hid hk
  have HQ := Lib.hid hq
  have HM := Lib.hid hm
  have HZ := Lib.hid hz
  have HR := Lib.hid hr
  have HR2 := Lib.hid hr2
  have HR3 : Hid (sCmd.Rep w (· < w.heap.size) (cs.set 2 (.int .i64 n)) (setReq v n)) := Lib.hid hrep3
  have HL := Lib.hid (cmd_cmax v)
  have HL2 := Lib.hid (cmd_cmax u)
  have HL3 := Lib.hid (cmd_cmax (setReq v n))
  have HRQ := Lib.hid hrq
  have HB1 := Lib.hid ((Blk.new w 48 cs).alloc (.cells ds.toArray 48))
  have HB2 := Lib.hid (Blk.new2 w (.cells cs.toArray 48) 48 ds)
  have UW := Lib.hid uW
  have HONE := Lib.hid hr.one
  have et : errOf true = 0 := rfl
  have ef : errOf false = 1 := rfl
  clear hg hp hk hq hrq hrep3 hpe hwm hm hz uW hr hr2
  go_enter Try.func6, Try.ntmps6
  go_wp2_with (refine wpList_load_blk rfl 48 (.tmp 3) rfl w.heap.size rfl HB1.out Try.underlying48 rfl (by rw [hlen]; exact Try.size48) ?_)
  refine (puts_c putCmd_puts (rep_all HR.out UW.out) HL.out HG.out HP.out).mono ?_
  rintro e w1 ⟨a1, c1, rfl, uu, b, hc⟩
  have U1 := Lib.hid (UW.out.trans uu (by simp))
  have D1 := Lib.hid (bytes_all b (Upd.refl _ _))
  have HB11 := Lib.hid (uu.blk HB1.out (by simp))
  have HB21 := Lib.hid (uu.blk HB2.out (by simp))
  clear uu b hc
  go_wp2_with (refine wpList_load_blk rfl 48 (.tmp 4) rfl (w.heap.size + 1) rfl HB21.out Try.underlying48 rfl (by rw [hlen2]; exact Try.size48) ?_)
  refine (puts_c putCmd_puts (rep_all HR2.out U1.out) HL2.out HK.out HQ.out).mono ?_
  rintro e w2 ⟨a2, c2, rfl, uu, b, hc⟩
  have U2 := Lib.hid (U1.out.trans uu (by simp))
  have D12 := Lib.hid (bytes_all D1.out uu)
  have D22 := Lib.hid (bytes_all b (Upd.refl _ _))
  have HB12 := Lib.hid (uu.blk HB11.out (by simp))
  have HB22 := Lib.hid (uu.blk HB21.out (by simp))
  clear uu b hc
  have t2 : ∀ r, (p == q) = r → True := fun _ _ => trivial
  clear t2
  obtain ⟨bq, hbq⟩ : ∃ r, (p == q) = r := ⟨_, rfl⟩
  have HBQ := Lib.hid hbq
  obtain ⟨bz, hbz⟩ : ∃ r, (p == z) = r := ⟨_, rfl⟩
  have HBZ := Lib.hid hbz
  clear hbq hbz
  cases g
  · cases k
    · go_wp2_with (first | (refine wpList_load_blk rfl 48 (.tmp 3) rfl w.heap.size rfl HB12.out Try.underlying48 rfl (by rw [hlen]; exact Try.size48) ?_) | (refine wpList_alloc_blk rfl 48 rfl sCmd.zc (zero48 _) ?_; intro wA hA uA; have HA := Lib.hid hA; have UA := Lib.hid uA; clear hA uA) | (refine wpList_store_blk rfl 48 (.tmp 17) (.tmp 56) rfl w2.heap.size cs rfl rfl HA.out (by rw [hlen]; exact Try.size48) (by rw [hlen]; rfl) HONE.out ?_; intro wD hd ud; have HD := Lib.hid hd; have UD : Hid (Upd [] w2 wD) := Lib.hid (UA.out.trans ud (by simp)); have x1 := hd.cell (o := 2) HRQ.out; have x2 := hd.frozen 2; have x3 := hd.lt; clear hd ud) | (refine wpList_load_blk rfl 48 (.tmp 17) rfl w2.heap.size rfl (HD.out.set 2 (.int .i64 n)) Try.underlying48 rfl (by rw [List.length_set, hlen]; exact Try.size48) ?_))
      have U6 : Hid (Upd [] w2 (wD.setCell ⟨w2.heap.size, 2, none⟩ (.int .i64 n))) := Lib.hid (UD.out.setCell (.inr (Nat.le_refl _)) _)
      have U7 := Lib.hid (U2.out.trans U6.out (by simp))
      refine (puts_c putCmd_puts (rep_all HR3.out U7.out) HL3.out HM.out HZ.out).mono ?_
      rintro e w6 ⟨a6, c6, rfl, uu, b, hc⟩
      have U8 := Lib.hid (U7.out.trans uu (by simp))
      have D16 := Lib.hid (bytes_all (bytes_all D12.out U6.out) uu)
      have D66 := Lib.hid (bytes_all b (Upd.refl _ _))
      have HB16 := Lib.hid (uu.blk (U6.out.blk HB12.out (by simp)) (by simp))
      have y1 := HB16.out.cell (o := 2) HRQ.out
      clear uu b hc x1 x2 x3
      go_wp2_with fail
      refine (same_any _ _ a1 a6 c1 c6 p z _ D16.out D66.out HPL.out).mono ?_
      rintro e w7 ⟨rfl, uu⟩
      have U9 := Lib.hid (U8.out.trans uu (by simp))
      have y2 := (uu.cell (a := ⟨w.heap.size, 2, none⟩) HB16.out.lt (by simp)).trans y1
      rw [HBZ.out]
      clear uu y1
      go_wp2_with fail
      refine (known_true _).mono ?_
      rintro e w8 ⟨rfl, uu⟩
      have U10 := Lib.hid (U9.out.trans uu (by simp))
      clear uu
      go_wp2_with fail
      go_ret
      exact ⟨rfl, U10.out⟩
    · go_wp2_with (first | (refine wpList_load_blk rfl 48 (.tmp 3) rfl w.heap.size rfl HB12.out Try.underlying48 rfl (by rw [hlen]; exact Try.size48) ?_) | (refine wpList_alloc_blk rfl 48 rfl sCmd.zc (zero48 _) ?_; intro wA hA uA; have HA := Lib.hid hA; have UA := Lib.hid uA; clear hA uA) | (refine wpList_store_blk rfl 48 (.tmp 17) (.tmp 56) rfl w2.heap.size cs rfl rfl HA.out (by rw [hlen]; exact Try.size48) (by rw [hlen]; rfl) HONE.out ?_; intro wD hd ud; have HD := Lib.hid hd; have UD : Hid (Upd [] w2 wD) := Lib.hid (UA.out.trans ud (by simp)); have x1 := hd.cell (o := 2) HRQ.out; have x2 := hd.frozen 2; have x3 := hd.lt; clear hd ud) | (refine wpList_load_blk rfl 48 (.tmp 17) rfl w2.heap.size rfl (HD.out.set 2 (.int .i64 n)) Try.underlying48 rfl (by rw [List.length_set, hlen]; exact Try.size48) ?_))
      have U6 : Hid (Upd [] w2 (wD.setCell ⟨w2.heap.size, 2, none⟩ (.int .i64 n))) := Lib.hid (UD.out.setCell (.inr (Nat.le_refl _)) _)
      have U7 := Lib.hid (U2.out.trans U6.out (by simp))
      refine (puts_c putCmd_puts (rep_all HR3.out U7.out) HL3.out HM.out HZ.out).mono ?_
      rintro e w6 ⟨a6, c6, rfl, uu, b, hc⟩
      have U8 := Lib.hid (U7.out.trans uu (by simp))
      have D16 := Lib.hid (bytes_all (bytes_all D12.out U6.out) uu)
      have D66 := Lib.hid (bytes_all b (Upd.refl _ _))
      have HB16 := Lib.hid (uu.blk (U6.out.blk HB12.out (by simp)) (by simp))
      have y1 := HB16.out.cell (o := 2) HRQ.out
      clear uu b hc x1 x2 x3
      go_wp2_with fail
      refine (same_any _ _ a1 a6 c1 c6 p z _ D16.out D66.out HPL.out).mono ?_
      rintro e w7 ⟨rfl, uu⟩
      have U9 := Lib.hid (U8.out.trans uu (by simp))
      have y2 := (uu.cell (a := ⟨w.heap.size, 2, none⟩) HB16.out.lt (by simp)).trans y1
      rw [HBZ.out]
      clear uu y1
      go_wp2_with fail
      refine (known_true _).mono ?_
      rintro e w8 ⟨rfl, uu⟩
      have U10 := Lib.hid (U9.out.trans uu (by simp))
      clear uu
      go_wp2_with fail
      go_ret
      exact ⟨rfl, U10.out⟩
  · cases k
    · go_wp2_with (first | (refine wpList_load_blk rfl 48 (.tmp 3) rfl w.heap.size rfl HB12.out Try.underlying48 rfl (by rw [hlen]; exact Try.size48) ?_) | (refine wpList_alloc_blk rfl 48 rfl sCmd.zc (zero48 _) ?_; intro wA hA uA; have HA := Lib.hid hA; have UA := Lib.hid uA; clear hA uA) | (refine wpList_store_blk rfl 48 (.tmp 17) (.tmp 56) rfl w2.heap.size cs rfl rfl HA.out (by rw [hlen]; exact Try.size48) (by rw [hlen]; rfl) HONE.out ?_; intro wD hd ud; have HD := Lib.hid hd; have UD : Hid (Upd [] w2 wD) := Lib.hid (UA.out.trans ud (by simp)); have x1 := hd.cell (o := 2) HRQ.out; have x2 := hd.frozen 2; have x3 := hd.lt; clear hd ud) | (refine wpList_load_blk rfl 48 (.tmp 17) rfl w2.heap.size rfl (HD.out.set 2 (.int .i64 n)) Try.underlying48 rfl (by rw [List.length_set, hlen]; exact Try.size48) ?_))
      have U6 : Hid (Upd [] w2 (wD.setCell ⟨w2.heap.size, 2, none⟩ (.int .i64 n))) := Lib.hid (UD.out.setCell (.inr (Nat.le_refl _)) _)
      have U7 := Lib.hid (U2.out.trans U6.out (by simp))
      refine (puts_c putCmd_puts (rep_all HR3.out U7.out) HL3.out HM.out HZ.out).mono ?_
      rintro e w6 ⟨a6, c6, rfl, uu, b, hc⟩
      have U8 := Lib.hid (U7.out.trans uu (by simp))
      have D16 := Lib.hid (bytes_all (bytes_all D12.out U6.out) uu)
      have D66 := Lib.hid (bytes_all b (Upd.refl _ _))
      have HB16 := Lib.hid (uu.blk (U6.out.blk HB12.out (by simp)) (by simp))
      have y1 := HB16.out.cell (o := 2) HRQ.out
      clear uu b hc x1 x2 x3
      go_wp2_with fail
      refine (same_any _ _ a1 a6 c1 c6 p z _ D16.out D66.out HPL.out).mono ?_
      rintro e w7 ⟨rfl, uu⟩
      have U9 := Lib.hid (U8.out.trans uu (by simp))
      have y2 := (uu.cell (a := ⟨w.heap.size, 2, none⟩) HB16.out.lt (by simp)).trans y1
      rw [HBZ.out]
      clear uu y1
      cases m with
      | false =>
        go_wp2_with fail
        refine (known_true _).mono ?_
        rintro e w8 ⟨rfl, uu⟩
        have U10 := Lib.hid (U9.out.trans uu (by simp))
        clear uu
        go_wp2_with fail
        go_ret
        exact ⟨rfl, U10.out⟩
      | true =>
        obtain rfl : bz = (n == rq) := by rw [← HBZ.out]; exact HPE.out (by first | trivial | rfl) (by first | trivial | rfl)
        have ty : ((n == rq) == (n == rq)) = true := by simp
        go_wp2_with fail
        refine (known_true _).mono ?_
        rintro e w8 ⟨rfl, uu⟩
        have U10 := Lib.hid (U9.out.trans uu (by simp))
        clear uu
        go_wp2_with fail
        go_ret
        exact ⟨rfl, U10.out⟩
    · go_wp2_with fail
      refine (same_any _ _ a1 a2 c1 c2 p q _ D12.out D22.out HPL.out).mono ?_
      rintro e w3 ⟨rfl, uu⟩
      have U3 := Lib.hid (U2.out.trans uu (by simp))
      have D13 := Lib.hid (bytes_all D12.out uu)
      have HB13 := Lib.hid (uu.blk HB12.out (by simp))
      have HB23 := Lib.hid (uu.blk HB22.out (by simp))
      rw [HBQ.out]
      clear uu
      go_wp2_with (refine wpList_load_blk rfl 48 (.tmp 3) rfl w.heap.size rfl HB13.out Try.underlying48 rfl (by rw [hlen]; exact Try.size48) ?_)
      refine (puts_u (g := true) rputCmd_puts (rep_all HR.out U3.out) (Nat.le_trans (Sch.wmax_le _ _ (HG.out.1 (by first | trivial | rfl))) (of_decide_eq_true (by kernel_rfl))) ⟨fun _ => HG.out.1 (by first | trivial | rfl), fun _ => rfl⟩ HP.out).mono ?_
      rintro e w4 ⟨a3, c3, rfl, uu, b, hc⟩
      have U4 := Lib.hid (U3.out.trans uu (by simp))
      have D14 := Lib.hid (bytes_all D13.out uu)
      have D34 := Lib.hid (bytes_all b (Upd.refl _ _))
      have HB14 := Lib.hid (uu.blk HB13.out (by simp))
      have HB24 := Lib.hid (uu.blk HB23.out (by simp))
      clear uu b hc
      go_wp2_with (refine wpList_load_blk rfl 48 (.tmp 4) rfl (w.heap.size + 1) rfl HB24.out Try.underlying48 rfl (by rw [hlen2]; exact Try.size48) ?_)
      refine (puts_u (g := true) rputCmd_puts (rep_all HR2.out U4.out) (Nat.le_trans (Sch.wmax_le _ _ (HK.out.1 (by first | trivial | rfl))) (of_decide_eq_true (by kernel_rfl))) ⟨fun _ => HK.out.1 (by first | trivial | rfl), fun _ => rfl⟩ HQ.out).mono ?_
      rintro e w5 ⟨a4, c4, rfl, uu, b, hc⟩
      have U5 := Lib.hid (U4.out.trans uu (by simp))
      have D15 := Lib.hid (bytes_all D14.out uu)
      have D35 := Lib.hid (bytes_all D34.out uu)
      have D45 := Lib.hid (bytes_all b (Upd.refl _ _))
      have HB15 := Lib.hid (uu.blk HB14.out (by simp))
      clear uu b hc
      go_wp2_with fail
      refine (same_any _ _ a3 a4 c3 c4 p q _ D35.out D45.out HPL.out).mono ?_
      rintro e w5s ⟨rfl, uu⟩
      have U5s := Lib.hid (U5.out.trans uu (by simp))
      have D15s := Lib.hid (bytes_all D15.out uu)
      have HB15s := Lib.hid (uu.blk HB15.out (by simp))
      rw [HBQ.out]
      clear uu
      cases bq
      · go_wp2_with (first | (refine wpList_load_blk rfl 48 (.tmp 3) rfl w.heap.size rfl HB15s.out Try.underlying48 rfl (by rw [hlen]; exact Try.size48) ?_) | (refine wpList_alloc_blk rfl 48 rfl sCmd.zc (zero48 _) ?_; intro wA hA uA; have HA := Lib.hid hA; have UA := Lib.hid uA; clear hA uA) | (refine wpList_store_blk rfl 48 (.tmp 17) (.tmp 56) rfl w5s.heap.size cs rfl rfl HA.out (by rw [hlen]; exact Try.size48) (by rw [hlen]; rfl) HONE.out ?_; intro wD hd ud; have HD := Lib.hid hd; have UD : Hid (Upd [] w5s wD) := Lib.hid (UA.out.trans ud (by simp)); have x1 := hd.cell (o := 2) HRQ.out; have x2 := hd.frozen 2; have x3 := hd.lt; clear hd ud) | (refine wpList_load_blk rfl 48 (.tmp 17) rfl w5s.heap.size rfl (HD.out.set 2 (.int .i64 n)) Try.underlying48 rfl (by rw [List.length_set, hlen]; exact Try.size48) ?_))
        have U6 : Hid (Upd [] w5s (wD.setCell ⟨w5s.heap.size, 2, none⟩ (.int .i64 n))) := Lib.hid (UD.out.setCell (.inr (Nat.le_refl _)) _)
        have U7 := Lib.hid (U5s.out.trans U6.out (by simp))
        refine (puts_c putCmd_puts (rep_all HR3.out U7.out) HL3.out HM.out HZ.out).mono ?_
        rintro e w6 ⟨a6, c6, rfl, uu, b, hc⟩
        have U8 := Lib.hid (U7.out.trans uu (by simp))
        have D16 := Lib.hid (bytes_all (bytes_all D15s.out U6.out) uu)
        have D66 := Lib.hid (bytes_all b (Upd.refl _ _))
        have HB16 := Lib.hid (uu.blk (U6.out.blk HB15s.out (by simp)) (by simp))
        have y1 := HB16.out.cell (o := 2) HRQ.out
        clear uu b hc x1 x2 x3
        go_wp2_with fail
        refine (same_any _ _ a1 a6 c1 c6 p z _ D16.out D66.out HPL.out).mono ?_
        rintro e w7 ⟨rfl, uu⟩
        have U9 := Lib.hid (U8.out.trans uu (by simp))
        have y2 := (uu.cell (a := ⟨w.heap.size, 2, none⟩) HB16.out.lt (by simp)).trans y1
        rw [HBZ.out]
        clear uu y1
        cases m with
        | false =>
          go_wp2_with fail
          refine (known_true _).mono ?_
          rintro e w8 ⟨rfl, uu⟩
          have U10 := Lib.hid (U9.out.trans uu (by simp))
          clear uu
          go_wp2_with fail
          go_ret
          exact ⟨rfl, U10.out⟩
        | true =>
          obtain rfl : bz = (n == rq) := by rw [← HBZ.out]; exact HPE.out (by first | trivial | rfl) (by first | trivial | rfl)
          have ty : ((n == rq) == (n == rq)) = true := by simp
          go_wp2_with fail
          refine (known_true _).mono ?_
          rintro e w8 ⟨rfl, uu⟩
          have U10 := Lib.hid (U9.out.trans uu (by simp))
          clear uu
          go_wp2_with fail
          go_ret
          exact ⟨rfl, U10.out⟩
      · go_wp2_with (first | (refine wpList_load_blk rfl 48 (.tmp 3) rfl w.heap.size rfl HB15s.out Try.underlying48 rfl (by rw [hlen]; exact Try.size48) ?_) | (refine wpList_alloc_blk rfl 48 rfl sCmd.zc (zero48 _) ?_; intro wA hA uA; have HA := Lib.hid hA; have UA := Lib.hid uA; clear hA uA) | (refine wpList_store_blk rfl 48 (.tmp 17) (.tmp 56) rfl w5s.heap.size cs rfl rfl HA.out (by rw [hlen]; exact Try.size48) (by rw [hlen]; rfl) HONE.out ?_; intro wD hd ud; have HD := Lib.hid hd; have UD : Hid (Upd [] w5s wD) := Lib.hid (UA.out.trans ud (by simp)); have x1 := hd.cell (o := 2) HRQ.out; have x2 := hd.frozen 2; have x3 := hd.lt; clear hd ud) | (refine wpList_load_blk rfl 48 (.tmp 17) rfl w5s.heap.size rfl (HD.out.set 2 (.int .i64 n)) Try.underlying48 rfl (by rw [List.length_set, hlen]; exact Try.size48) ?_))
        have U6 : Hid (Upd [] w5s (wD.setCell ⟨w5s.heap.size, 2, none⟩ (.int .i64 n))) := Lib.hid (UD.out.setCell (.inr (Nat.le_refl _)) _)
        have U7 := Lib.hid (U5s.out.trans U6.out (by simp))
        refine (puts_c putCmd_puts (rep_all HR3.out U7.out) HL3.out HM.out HZ.out).mono ?_
        rintro e w6 ⟨a6, c6, rfl, uu, b, hc⟩
        have U8 := Lib.hid (U7.out.trans uu (by simp))
        have D16 := Lib.hid (bytes_all (bytes_all D15s.out U6.out) uu)
        have D66 := Lib.hid (bytes_all b (Upd.refl _ _))
        have HB16 := Lib.hid (uu.blk (U6.out.blk HB15s.out (by simp)) (by simp))
        have y1 := HB16.out.cell (o := 2) HRQ.out
        clear uu b hc x1 x2 x3
        go_wp2_with fail
        refine (same_any _ _ a1 a6 c1 c6 p z _ D16.out D66.out HPL.out).mono ?_
        rintro e w7 ⟨rfl, uu⟩
        have U9 := Lib.hid (U8.out.trans uu (by simp))
        have y2 := (uu.cell (a := ⟨w.heap.size, 2, none⟩) HB16.out.lt (by simp)).trans y1
        rw [HBZ.out]
        clear uu y1
        cases m with
        | false =>
          go_wp2_with fail
          refine (known_true _).mono ?_
          rintro e w8 ⟨rfl, uu⟩
          have U10 := Lib.hid (U9.out.trans uu (by simp))
          clear uu
          go_wp2_with fail
          go_ret
          exact ⟨rfl, U10.out⟩
        | true =>
          obtain rfl : bz = (n == rq) := by rw [← HBZ.out]; exact HPE.out (by first | trivial | rfl) (by first | trivial | rfl)
          have ty : ((n == rq) == (n == rq)) = true := by simp
          go_wp2_with fail
          refine (known_true _).mono ?_
          rintro e w8 ⟨rfl, uu⟩
          have U10 := Lib.hid (U9.out.trans uu (by simp))
          clear uu
          go_wp2_with fail
          go_ret
          exact ⟨rfl, U10.out⟩
end Go.Proofs.Ythecincpejpmpaa
namespace Go.Proofs.Ythecincpejpmpaa.codecApart
open Go.ChangeShapes Go.WideShapes Go.ChangeAt Go.RowKit Go.Lb Go.Rc

set_option maxRecDepth 100000 in
theorem contract (H : Type) (enc : TypeId × Value → H) (W : World) (base : Nat) (args : Array Value) (ds gs : List (DataW H)) (before : List MemPlace)
    (hval : ∀ (j : Nat) t v, Try.f6.params[j]? = some t → args[j]? = some v → Value.okWide Try.prog W .any base t v)
    (hW : DataW.Whole enc Try.prog Try.f6.params.toList Rows.codecApartSpec.vars false W args.toList ds gs before)
    (hsz : (DataW.weightsEach Try.prog (Try.f6.params.toList ++ Rows.codecApartSpec.plain.varTypes Try.prog) (ds ++ gs)).all (· ≤ reachBytes) = true) :
    Calls Try.prog 6 args W fun e W' => ∃ v, e = .returned v ∧ Rows.codecApartSpec.post enc Try.prog Try.f6 false true false false W args v W' := by
  have hW' := hW
  obtain ⟨p, q, hA0, hV, rfl, hfz, hnd⟩ := hW
  have hA : DataW.TrodAll enc Try.prog W 0 (fun _ => true) true Try.f6.params.toList args.toList ds p := hA0
  rw [Try.params6] at hA hval hsz
  obtain ⟨v0, vs0, d0, ds0, p0, q0, hargs, rfl, rfl, h0, s0⟩ := trodAll_cons hA
  obtain ⟨v1, vs1, d1, ds1, p1, q1, rfl, rfl, rfl, h1, s1⟩ := trodAll_cons s0
  obtain ⟨v2, vs2, d2, ds2, p2, q2, rfl, rfl, rfl, h2, s2⟩ := trodAll_cons s1
  obtain ⟨rfl, rfl, rfl⟩ := trodAll_nil s2
  have hz0 : (DataW.weightsEach Try.prog (48 :: 48 :: 3 :: Rows.codecApartSpec.plain.varTypes Try.prog) (d0 :: d1 :: d2 :: gs)).all (· ≤ reachBytes) = true := hsz
  obtain ⟨r0, hz1⟩ := reached_of hz0
  obtain ⟨r1, hz2⟩ := reached_of hz1
  obtain ⟨r2, hz3⟩ := reached_of hz2
  obtain rfl : args = #[v0, v1, v2] := by cases args; simp_all
  obtain ⟨rfl, rfl⟩ := trodVars_none hV
  have k0 := h0
  have lt0 : ∀ x ∈ p0, x.block < W.heap.size := by obtain ⟨m, hm⟩ := k0; exact DataW.trod_lt m _ _ _ hm
  have k1 := h1
  have lt1 : ∀ x ∈ p1, x.block < W.heap.size := by obtain ⟨m, hm⟩ := k1; exact DataW.trod_lt m _ _ _ hm
  have k2 := h2
  have lt2 : ∀ x ∈ p2, x.block < W.heap.size := by obtain ⟨m, hm⟩ := k2; exact DataW.trod_lt m _ _ _ hm
  obtain ⟨ar0, rfl, hz0⟩ := okWide_struct Try.underlying48 (hval 0 48 v0 rfl rfl)
  obtain ⟨cs0, rfl⟩ : ∃ cs : List Value, ar0 = cs.toArray := ⟨ar0.toList, by simp⟩
  obtain ⟨y0, hr0, hu0⟩ := arg_sch (m := 14) (s := Rc.sCmd) (by kernel_rfl) h0
  obtain ⟨ar1, rfl, hz1⟩ := okWide_struct Try.underlying48 (hval 1 48 v1 rfl rfl)
  obtain ⟨cs1, rfl⟩ : ∃ cs : List Value, ar1 = cs.toArray := ⟨ar1.toList, by simp⟩
  obtain ⟨y1, hr1, hu1⟩ := arg_sch (m := 14) (s := Rc.sCmd) (by kernel_rfl) h1
  obtain ⟨x2, rfl, rfl, rfl, wx2⟩ := open_int Try.underlying3 (hval 2 3 v2 rfl rfl) h2
  clear hA0 hsz hz0
  refine (apart_ok cs0 cs1 y0 y1 x2 W hr0 hr1).mono fun e W' ⟨he, bel⟩ => ?_
  subst he
  exact ⟨_, rfl, _, _, _, [], _, [], hW', trodAll_mk1 (shut_bool Try.underlying4 _), (trodAll_cons_mk (Below.trod Try.laidOut (by kernel_rfl) (of_decide_eq_true (by kernel_rfl)) k0 bel.below lt0) (trodAll_cons_mk (Below.trod Try.laidOut (by kernel_rfl) (of_decide_eq_true (by kernel_rfl)) k1 bel.below lt1) (trodAll_cons_mk (Below.trod Try.laidOut (by kernel_rfl) (of_decide_eq_true (by kernel_rfl)) k2 bel.below lt2) trodAll_mk0))), rfl, bel.below.frame _, fun h => by cases h⟩

set_option maxRecDepth 100000 in
theorem lifted (os : Os) (started : os.Started) (H : Type) (enc : TypeId × Value → H) :
    ReturnsInHanded {} Try.checked os 6 .any (Rows.codecApartSpec.pre6 enc Try.prog Try.f6 Rows.codecApartRow.domain false) (Rows.codecApartSpec.post enc Try.prog Try.f6 false true false false) := by
  refine returnsInHanded_of_change_sized (C := Try.checked) Try.own started (by kernel_rfl) Try.func6
    (ChangeSpec.witness6 (enc := enc) (C := Try.checked) false ⟨#[], #[.agg Rc.sCmd.zc.toArray, .agg Rc.sCmd.zc.toArray, .int .i64 0], []⟩ 8 (by kernel_rfl) (by kernel_rfl) (by kernel_rfl) (by kernel_rfl)) ?_
  intro W base args ds gs before hval hW hcnd hsz _
  exact contract H enc W base args ds gs before hval hW hsz

theorem closed : joinedFacts Try.prog 6 Try.f6 Rows.codecApartSpec Rows.codecApartRow = true := by
  unfold joinedFacts
  rw [Try.words1, Try.words2, Try.words3]
  kernel_rfl

theorem proved : Rows.CodecApartSaid :=
  OpenClaim.holds_of_wide 6 Try.f6 rfl rfl rfl rfl rfl rfl rfl ⟨rfl, rfl, rfl, rfl, rfl⟩ rfl rfl rfl rfl rfl (by kernel_rfl) Try.func6 closed
    (of_decide_eq_true (by kernel_rfl)) (by unfold Func.isWrapper; first | (rw [if_pos (by decide +kernel)]; kernel_rfl) | (rw [if_neg (by decide +kernel)]; exact ⟨rfl, rfl⟩))
    (fun os started H enc _ => lifted os started H enc)
#print axioms proved
end Go.Proofs.Ythecincpejpmpaa.codecApart
