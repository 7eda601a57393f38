/- A part that several proofs lean on: texts one behind the other. No condition but those that each theorem states. -/
import Derived.Test.YtpfnbilopagepaaZaf
set_option linter.unusedVariables false
set_option linter.unusedSimpArgs false
/- The reference's store, written. -/
namespace Go.Proofs.Ytpfnbilopagepaa
open Go.RowKit Go.Lb Go.Rc

set_option maxRecDepth 20000 in
set_option maxHeartbeats 4000000 in
theorem ostore_writes : OWrites 84 sStore := fun B X f cs v o b w h hr hl => by
  have hlen : cs.length = 9 := hr.len
  have k0 : (tup [.num, .num, .list sJob, .list sJob, .list sNode, .list sAlloc, .list sEval, .list sDeploy, .list sSeen]).Rep w (· < B) cs v := hr
  obtain ⟨_, _, v0, y1, -, rfl, ⟨n0, -, rfl⟩, k1⟩ := Sch.Rep.tup_cons k0
  obtain ⟨_, _, v1, y2, -, rfl, ⟨n1, -, rfl⟩, k2⟩ := Sch.Rep.tup_cons k1
  obtain ⟨_, _, v2, y3, -, rfl, ⟨-, -, l2, -, rfl, -⟩, k3⟩ := Sch.Rep.tup_cons k2
  obtain ⟨_, _, v3, y4, -, rfl, ⟨-, -, l3, -, rfl, -⟩, k4⟩ := Sch.Rep.tup_cons k3
  obtain ⟨_, _, v4, y5, -, rfl, ⟨-, -, l4, -, rfl, -⟩, k5⟩ := Sch.Rep.tup_cons k4
  obtain ⟨_, _, v5, y6, -, rfl, ⟨-, -, l5, -, rfl, -⟩, k6⟩ := Sch.Rep.tup_cons k5
  obtain ⟨_, _, v6, y7, -, rfl, ⟨-, -, l6, -, rfl, -⟩, k7⟩ := Sch.Rep.tup_cons k6
  obtain ⟨_, _, v7, y8, -, rfl, ⟨-, -, l7, -, rfl, -⟩, k8⟩ := Sch.Rep.tup_cons k7
  obtain ⟨_, _, v8, y9, -, rfl, ⟨-, -, l8, -, rfl, -⟩, k9⟩ := Sch.Rep.tup_cons k8
  obtain ⟨-, rfl⟩ := Sch.Rep.tup_nil k9
  clear k1 k2 k3 k4 k5 k6 k7 k8 k9
  have H0 := Lib.hid (OWg.start (tp := 101) (rest := [(.num, .num n0), (.num, .num n1), (.list sJob, .list l2), (.list sJob, .list l3), (.list sNode, .list l4), (.list sAlloc, .list l5), (.list sEval, .list l6), (.list sDeploy, .list l7), (.list sSeen, .list l8)]) h hr (by have := tup_wmax [(.num, .num n0), (.num, .num n1), (.list sJob, .list l2), (.list sJob, .list l3), (.list sNode, .list l4), (.list sAlloc, .list l5), (.list sEval, .list l6), (.list sDeploy, .list l7), (.list sSeen, .list l8)]; rw [← this]; exact hl) (Blk.new w 101 cs) ((Upd.refl _ _).alloc _))
  have hB := h.base
  clear h hr hl k0
  show Calls Try.prog _ #[_, .agg cs.toArray] _ _
  go_enter Try.func84, Try.ntmps84
  have e0 := WrG.numAt (q := 0) H0.out rfl
  go_wp2_with fail
  refine (OWg.goNum H0.out).mono ?_
  rintro e w1 ⟨rfl, o1, b1, h⟩
  have H1 := Lib.hid h
  clear h e0
  have e1 := WrG.numAt (q := 1) H1.out rfl
  go_wp2_with fail
  refine (OWg.goNum H1.out).mono ?_
  rintro e w2 ⟨rfl, o2, b2, h⟩
  have H2 := Lib.hid h
  clear h e1
  obtain ⟨a2, c2, e2, r2⟩ := WrG.listAt (q := 2) H2.out rfl
  have R2 := Lib.hid r2
  clear r2
  go_wp2_with fail
  refine (OWg.go (c := [.slice a2 l2.length c2]) ojobs_writes H2.out R2.out).mono ?_
  rintro e w3 ⟨rfl, o3, b3, h⟩
  have H3 := Lib.hid h
  clear h e2
  obtain ⟨a3, c3, e3, r3⟩ := WrG.listAt (q := 3) H3.out rfl
  have R3 := Lib.hid r3
  clear r3
  go_wp2_with fail
  refine (OWg.go (c := [.slice a3 l3.length c3]) ojobs_writes H3.out R3.out).mono ?_
  rintro e w4 ⟨rfl, o4, b4, h⟩
  have H4 := Lib.hid h
  clear h e3
  obtain ⟨a4, c4, e4, r4⟩ := WrG.listAt (q := 4) H4.out rfl
  have HA4 : Hid (Elems w4 (· < B) sNode 8 a4 l4) := Lib.hid (list_elems r4).2
  have hwl4 := H4.out.len
  rw [wsum_cons] at hwl4
  have HL4 : Hid (o4.length + (Sch.list sNode).wmax (.list l4) ≤ 1099511627776) := Lib.hid (by dsimp only at hwl4; omega)
  have hps4 := H4.out.fw.1 w.heap.size (by simp)
  have hll4 : l4.length ≤ 1099511627776 := elems_len HA4.out HL4.out rfl
  clear r4 hwl4
  go_wp2_with fail
  refine (OWg.goCount H4.out).mono ?_
  rintro e w4x ⟨rfl, o4x, b4x, h1, h2, h3⟩
  have p4 := (h2.cell (o := 4) hps4 (.inr (by simp))).trans e4
  have H1x := Lib.hid h1
  have H2x := Lib.hid h2
  have H3x := Lib.hid h3
  clear h1 h2 h3
  go_wp2_with fail
  go_loopg [4] l4.length (fun g t wr => ∃ (i : Nat) (o' : List Nat) (b' : Bool), t = .int .i64 i ∧ l4.length - i = g ∧ i ≤ l4.length ∧ Ow B (w.heap.size :: X) wr f o' b' ∧ Kp B (w.heap.size :: X) w4 wr ∧ LWk sNode l4.length (l4.take i) o4 b4 o' b')
  case atStart => exact ⟨0, o4x, b4x, rfl, rfl, by omega, H1x.out, H2x.out, H3x.out⟩
  case round =>
    obtain ⟨i, o', b', rfl, hg, hi, hF, hK, hW⟩ := hrel
    have HG := Lib.hid hg
    have HF := Lib.hid hF
    have HK := Lib.hid hK
    have HW := Lib.hid hW
    have r0 := (hK.cell (o := 4) hps4 (.inr (by simp))).trans e4
    clear hg hF hK hW p4
    by_cases hlt : i < l4.length
    · have t1 : decide (i < l4.length) = true := by simpa using hlt
      obtain ⟨x, hx⟩ : ∃ x, l4[i]? = some x := ⟨_, List.getElem?_eq_getElem hlt⟩
      obtain ⟨b0, o0, us, rfl, hb0, hbl, hrg, hrep⟩ := HA4.out i x hx
      have hrep := hrep.keep (ok' := (· < B)) (fun k hk hl => ⟨hk, HK.out.block k hl (.inl hk)⟩) HK.out.size
      have hrg : wr.rangeAt b0 (o0 + i * 8) us := rangeAt_keep hrg (HK.out.block b0 hbl (.inl hb0))
      have hblr : b0 < wr.heap.size := Nat.lt_of_lt_of_le hbl HK.out.size
      have HWL := Lib.hid (HW.out.room hx HL4.out)
      have Hx := Lib.hid hx
      clear hx
      have HRG := Lib.hid hrg
      have HREP := Lib.hid hrep
      have hus : us.length = 8 := hrep.len
      clear hrg hrep
      go_wp2_with (refine wpList_load_mid rfl 43 _ rfl b0 (o0 + i * 8) rfl us _ HRG.out Try.underlying43 rfl (by rw [hus]; exact Try.size43) ?_)
      refine (onode_writes B (w.heap.size :: X) f us x o' b' _ HF.out HREP.out HWL.out).mono ?_
      rintro e w2 ⟨rfl, o2, b2, h1, h2, h3⟩
      have H1 := Lib.hid h1
      have H2 := Lib.hid h2
      have H3 := Lib.hid (HW.out.snoc h3)
      clear h1 h2 h3
      go_wp2_with fail
      go_roundg (l4.length - (i + 1))
      case measure => have := HG.out; omega
      case rel => exact ⟨i + 1, o2, b2, by go_num, rfl, by omega, H1.out, HK.out.trans H2.out, by rw [take_snoc Hx.out]; exact H3.out⟩
    · obtain rfl : i = l4.length := by omega
      have t1 : decide (l4.length < l4.length) = false := by simp
      have hfin := HW.out
      rw [List.take_length] at hfin
      have H5 := Lib.hid (WrG.next (m := [(.list sNode, .list l4)]) H4.out HF.out HK.out (WSeq.one (LWk.fin hfin)))
      clear hfin e4
      clear HF HW HG hlt hi
      obtain ⟨ws5, hz⟩ : ∃ z, z = wr := ⟨_, rfl⟩
      subst hz
      obtain ⟨os5, hz⟩ : ∃ z, z = o' := ⟨_, rfl⟩
      subst hz
      obtain ⟨bs5, hz⟩ : ∃ z, z = b' := ⟨_, rfl⟩
      subst hz
      clear HK
      obtain ⟨a5, c5, e5, r5⟩ := WrG.listAt (q := 5) H5.out rfl
      have R5 := Lib.hid r5
      clear r5
      go_wp2_with fail
      refine (OWg.go (c := [.slice a5 l5.length c5]) oallocs_writes H5.out R5.out).mono ?_
      rintro e w6 ⟨rfl, o6, b6, h⟩
      have H6 := Lib.hid h
      clear h e5
      obtain ⟨a6, c6, e6, r6⟩ := WrG.listAt (q := 6) H6.out rfl
      have HA6 : Hid (Elems w6 (· < B) sEval 4 a6 l6) := Lib.hid (list_elems r6).2
      have hwl6 := H6.out.len
      rw [wsum_cons] at hwl6
      have HL6 : Hid (o6.length + (Sch.list sEval).wmax (.list l6) ≤ 1099511627776) := Lib.hid (by dsimp only at hwl6; omega)
      have hps6 := H6.out.fw.1 w.heap.size (by simp)
      have hll6 : l6.length ≤ 1099511627776 := elems_len HA6.out HL6.out rfl
      clear r6 hwl6
      go_wp2_with fail
      refine (OWg.goCount H6.out).mono ?_
      rintro e w6x ⟨rfl, o6x, b6x, h1, h2, h3⟩
      have p6 := (h2.cell (o := 6) hps6 (.inr (by simp))).trans e6
      have H1x := Lib.hid h1
      have H2x := Lib.hid h2
      have H3x := Lib.hid h3
      clear h1 h2 h3
      go_wp2_with fail
      go_loopg [5] l6.length (fun g t wr => ∃ (i : Nat) (o' : List Nat) (b' : Bool), t = .int .i64 i ∧ l6.length - i = g ∧ i ≤ l6.length ∧ Ow B (w.heap.size :: X) wr f o' b' ∧ Kp B (w.heap.size :: X) w6 wr ∧ LWk sEval l6.length (l6.take i) o6 b6 o' b')
      case atStart => exact ⟨0, o6x, b6x, rfl, rfl, by omega, H1x.out, H2x.out, H3x.out⟩
      case round =>
        obtain ⟨i, o', b', rfl, hg, hi, hF, hK, hW⟩ := hrel
        have HG := Lib.hid hg
        have HF := Lib.hid hF
        have HK := Lib.hid hK
        have HW := Lib.hid hW
        have r0 := (hK.cell (o := 6) hps6 (.inr (by simp))).trans e6
        clear hg hF hK hW p6
        by_cases hlt : i < l6.length
        · have t1 : decide (i < l6.length) = true := by simpa using hlt
          obtain ⟨x, hx⟩ : ∃ x, l6[i]? = some x := ⟨_, List.getElem?_eq_getElem hlt⟩
          obtain ⟨b0, o0, us, rfl, hb0, hbl, hrg, hrep⟩ := HA6.out i x hx
          have hrep := hrep.keep (ok' := (· < B)) (fun k hk hl => ⟨hk, HK.out.block k hl (.inl hk)⟩) HK.out.size
          have hrg : wr.rangeAt b0 (o0 + i * 4) us := rangeAt_keep hrg (HK.out.block b0 hbl (.inl hb0))
          have hblr : b0 < wr.heap.size := Nat.lt_of_lt_of_le hbl HK.out.size
          have HWL := Lib.hid (HW.out.room hx HL6.out)
          have Hx := Lib.hid hx
          clear hx
          have hrepc := hrep
          obtain ⟨_, _, zv0, zy1, -, rfl, ⟨zn0, -, rfl⟩, zk1⟩ := Sch.Rep.tup_cons hrepc
          obtain ⟨_, _, zv1, zy2, -, rfl, ⟨zn1, -, rfl⟩, zk2⟩ := Sch.Rep.tup_cons zk1
          obtain ⟨_, _, zv2, zy3, -, rfl, ⟨zn2, -, rfl⟩, zk3⟩ := Sch.Rep.tup_cons zk2
          obtain ⟨_, _, zv3, zy4, -, rfl, ⟨zn3, -, rfl⟩, zk4⟩ := Sch.Rep.tup_cons zk3
          obtain ⟨-, rfl⟩ := Sch.Rep.tup_nil zk4
          clear zk1 zk2 zk3 zk4
          have hlw := HWL.out
          have G0 : Hid (OWg B (w.heap.size :: X) f b0 (o0 + i * 4) wr wr o' b' o' b' [] [(.num, .num zn0), (.num, .num zn1), (.num, .num zn2), (.num, .num zn3)]) := Lib.hid (WrG.start HF.out (.inl hb0) hblr hrg hrep (by have := tup_wmax [(.num, .num zn0), (.num, .num zn1), (.num, .num zn2), (.num, .num zn3)]; rw [← this]; exact hlw))
          clear hrg hrep hlw
          have hpsr : w.heap.size < wr.heap.size := Nat.lt_of_lt_of_le hps6 HK.out.size
          have HR : Hid (∀ w', Kp B (w.heap.size :: X) wr w' → w'.cell? ⟨w.heap.size, 6, none⟩ = some (.slice (some ⟨b0, o0, none⟩) l6.length c6) ∧ w'.cell? ⟨b0, o0 + i * 4, none⟩ = some (.int .i64 zn0) ∧ w'.cell? ⟨b0, o0 + i * 4 + 1, none⟩ = some (.int .i64 zn1) ∧ w'.cell? ⟨b0, o0 + i * 4 + 2, none⟩ = some (.int .i64 zn2) ∧ w'.cell? ⟨b0, o0 + i * 4 + 3, none⟩ = some (.int .i64 zn3)) := Lib.hid fun w' k => ⟨(k.cell (o := 6) hpsr (.inr (by simp))).trans r0, rangeAt_keep (WrG.numsAt (ns := [zn0, zn1, zn2, zn3]) (rest := []) (q := o0 + i * 4) G0.out rfl) (k.block b0 hblr (.inl hb0)) 0 _ rfl, rangeAt_keep (WrG.numsAt (ns := [zn0, zn1, zn2, zn3]) (rest := []) (q := o0 + i * 4) G0.out rfl) (k.block b0 hblr (.inl hb0)) 1 _ rfl, rangeAt_keep (WrG.numsAt (ns := [zn0, zn1, zn2, zn3]) (rest := []) (q := o0 + i * 4) G0.out rfl) (k.block b0 hblr (.inl hb0)) 2 _ rfl, rangeAt_keep (WrG.numsAt (ns := [zn0, zn1, zn2, zn3]) (rest := []) (q := o0 + i * 4) G0.out rfl) (k.block b0 hblr (.inl hb0)) 3 _ rfl⟩
          go_wp2_with fail
          refine wp_region_lex (fun w' => Kp B (w.heap.size :: X) wr w') 99 [(0, true), (1, true), (2, true), (3, true), (4, true), (5, true), (6, true), (7, true), (8, true), (9, true), (10, true), (11, true), (12, true), (13, true), (14, true), (15, true), (16, true), (17, true), (18, true), (19, true), (20, true), (21, true), (22, true), (23, true), (24, true), (25, false), (26, false)] (by kernel_rfl) (by kernel_rfl) (by kernel_rfl) (by kernel_rfl) (fun _ _ d _ _ h => by cases d <;> exact h) ?_
          simp only [lexOps, List.map_cons, List.map_nil, List.getD_cons_zero, List.getD_cons_succ]
          have hU0 : Upd [] wr wr.drew := (Upd.refl _ _).drew
          have hS0 : Kp B (w.heap.size :: X) wr wr.drew := Kp.of_nil hU0
          iterate 25 (refine lex_read rfl (by exact hS0) (v := ?_) (fun w' hw => ?_) ?_; rotate_left; (focus (obtain ⟨q0, q1, q2, q3, q4⟩ := HR.out w' hw; go_simp; try with_reducible rfl)); simp only [Act.put, List.setIfInBounds_toArray, List.set_cons_zero, List.set_cons_succ])
          refine lex_do rfl (fun K hK => ?_)
          go_simp
          refine hK _ _ (fun _ => Kp.of_nil (hU0.alloc _)) ?_
          clear hK K
          refine lex_do rfl (fun K hK => ?_)
          go_simp
          refine (OWg.goNums (ns := [zn0, zn1, zn2, zn3]) (rest := []) (k := 4) G0.out rfl (hU0.alloc _) (Nat.le_refl _) (Blk.new wr.drew 3 [_, _, _, _]) rfl).mono ?_
          rintro e w2 ⟨rfl, o2, b2, h⟩
          have G1 := Lib.hid h
          refine hK _ _ (fun _ => G1.out.kp) ?_
          clear hK K h
          refine lex_nil ?_
          have H1 := Lib.hid G1.out.fw
          have H2 := Lib.hid G1.out.kp
          have H3 := Lib.hid (HW.out.snoc (s := sEval) (WSeq.tup G1.out.seq))
          go_wp2_with fail
          go_roundg (l6.length - (i + 1))
          case measure => have := HG.out; omega
          case rel => exact ⟨i + 1, o2, b2, by go_num, rfl, by omega, H1.out, HK.out.trans H2.out, by rw [take_snoc Hx.out]; exact H3.out⟩
        · obtain rfl : i = l6.length := by omega
          have t1 : decide (l6.length < l6.length) = false := by simp
          have hfin := HW.out
          rw [List.take_length] at hfin
          have H7 := Lib.hid (WrG.next (m := [(.list sEval, .list l6)]) H6.out HF.out HK.out (WSeq.one (LWk.fin hfin)))
          clear hfin e6
          clear HF HW HG hlt hi
          obtain ⟨ws7, hz⟩ : ∃ z, z = wr := ⟨_, rfl⟩
          subst hz
          obtain ⟨os7, hz⟩ : ∃ z, z = o' := ⟨_, rfl⟩
          subst hz
          obtain ⟨bs7, hz⟩ : ∃ z, z = b' := ⟨_, rfl⟩
          subst hz
          clear HK
          obtain ⟨a7, c7, e7, r7⟩ := WrG.listAt (q := 7) H7.out rfl
          have HA7 : Hid (Elems ws7 (· < B) sDeploy 4 a7 l7) := Lib.hid (list_elems r7).2
          have hwl7 := H7.out.len
          rw [wsum_cons] at hwl7
          have HL7 : Hid (os7.length + (Sch.list sDeploy).wmax (.list l7) ≤ 1099511627776) := Lib.hid (by dsimp only at hwl7; omega)
          have hps7 := H7.out.fw.1 w.heap.size (by simp)
          have hll7 : l7.length ≤ 1099511627776 := elems_len HA7.out HL7.out rfl
          clear r7 hwl7
          go_wp2_with fail
          refine (OWg.goCount H7.out).mono ?_
          rintro e w7x ⟨rfl, o7x, b7x, h1, h2, h3⟩
          have p7 := (h2.cell (o := 7) hps7 (.inr (by simp))).trans e7
          have H1x := Lib.hid h1
          have H2x := Lib.hid h2
          have H3x := Lib.hid h3
          clear h1 h2 h3
          go_wp2_with fail
          go_loopg [6] l7.length (fun g t wr => ∃ (i : Nat) (o' : List Nat) (b' : Bool), t = .int .i64 i ∧ l7.length - i = g ∧ i ≤ l7.length ∧ Ow B (w.heap.size :: X) wr f o' b' ∧ Kp B (w.heap.size :: X) ws7 wr ∧ LWk sDeploy l7.length (l7.take i) os7 bs7 o' b')
          case atStart => exact ⟨0, o7x, b7x, rfl, rfl, by omega, H1x.out, H2x.out, H3x.out⟩
          case round =>
            obtain ⟨i, o', b', rfl, hg, hi, hF, hK, hW⟩ := hrel
            have HG := Lib.hid hg
            have HF := Lib.hid hF
            have HK := Lib.hid hK
            have HW := Lib.hid hW
            have r0 := (hK.cell (o := 7) hps7 (.inr (by simp))).trans e7
            clear hg hF hK hW p7
            by_cases hlt : i < l7.length
            · have t1 : decide (i < l7.length) = true := by simpa using hlt
              obtain ⟨x, hx⟩ : ∃ x, l7[i]? = some x := ⟨_, List.getElem?_eq_getElem hlt⟩
              obtain ⟨b0, o0, us, rfl, hb0, hbl, hrg, hrep⟩ := HA7.out i x hx
              have hrep := hrep.keep (ok' := (· < B)) (fun k hk hl => ⟨hk, HK.out.block k hl (.inl hk)⟩) HK.out.size
              have hrg : wr.rangeAt b0 (o0 + i * 4) us := rangeAt_keep hrg (HK.out.block b0 hbl (.inl hb0))
              have hblr : b0 < wr.heap.size := Nat.lt_of_lt_of_le hbl HK.out.size
              have HWL := Lib.hid (HW.out.room hx HL7.out)
              have Hx := Lib.hid hx
              clear hx
              have hrepc := hrep
              obtain ⟨_, _, zv0, zy1, -, rfl, ⟨zn0, -, rfl⟩, zk1⟩ := Sch.Rep.tup_cons hrepc
              obtain ⟨_, _, zv1, zy2, -, rfl, ⟨zn1, -, rfl⟩, zk2⟩ := Sch.Rep.tup_cons zk1
              obtain ⟨_, _, zv2, zy3, -, rfl, ⟨zn2, -, rfl⟩, zk3⟩ := Sch.Rep.tup_cons zk2
              obtain ⟨_, _, zv3, zy4, -, rfl, ⟨zn3, -, rfl⟩, zk4⟩ := Sch.Rep.tup_cons zk3
              obtain ⟨-, rfl⟩ := Sch.Rep.tup_nil zk4
              clear zk1 zk2 zk3 zk4
              have hlw := HWL.out
              have G0 : Hid (OWg B (w.heap.size :: X) f b0 (o0 + i * 4) wr wr o' b' o' b' [] [(.num, .num zn0), (.num, .num zn1), (.num, .num zn2), (.num, .num zn3)]) := Lib.hid (WrG.start HF.out (.inl hb0) hblr hrg hrep (by have := tup_wmax [(.num, .num zn0), (.num, .num zn1), (.num, .num zn2), (.num, .num zn3)]; rw [← this]; exact hlw))
              clear hrg hrep hlw
              have hpsr : w.heap.size < wr.heap.size := Nat.lt_of_lt_of_le hps7 HK.out.size
              have HR : Hid (∀ w', Kp B (w.heap.size :: X) wr w' → w'.cell? ⟨w.heap.size, 7, none⟩ = some (.slice (some ⟨b0, o0, none⟩) l7.length c7) ∧ w'.cell? ⟨b0, o0 + i * 4, none⟩ = some (.int .i64 zn0) ∧ w'.cell? ⟨b0, o0 + i * 4 + 1, none⟩ = some (.int .i64 zn1) ∧ w'.cell? ⟨b0, o0 + i * 4 + 2, none⟩ = some (.int .i64 zn2) ∧ w'.cell? ⟨b0, o0 + i * 4 + 3, none⟩ = some (.int .i64 zn3)) := Lib.hid fun w' k => ⟨(k.cell (o := 7) hpsr (.inr (by simp))).trans r0, rangeAt_keep (WrG.numsAt (ns := [zn0, zn1, zn2, zn3]) (rest := []) (q := o0 + i * 4) G0.out rfl) (k.block b0 hblr (.inl hb0)) 0 _ rfl, rangeAt_keep (WrG.numsAt (ns := [zn0, zn1, zn2, zn3]) (rest := []) (q := o0 + i * 4) G0.out rfl) (k.block b0 hblr (.inl hb0)) 1 _ rfl, rangeAt_keep (WrG.numsAt (ns := [zn0, zn1, zn2, zn3]) (rest := []) (q := o0 + i * 4) G0.out rfl) (k.block b0 hblr (.inl hb0)) 2 _ rfl, rangeAt_keep (WrG.numsAt (ns := [zn0, zn1, zn2, zn3]) (rest := []) (q := o0 + i * 4) G0.out rfl) (k.block b0 hblr (.inl hb0)) 3 _ rfl⟩
              go_wp2_with fail
              refine wp_region_lex (fun w' => Kp B (w.heap.size :: X) wr w') 99 [(0, true), (1, true), (2, true), (3, true), (4, true), (5, true), (6, true), (7, true), (8, true), (9, true), (10, true), (11, true), (12, true), (13, true), (14, true), (15, true), (16, true), (17, true), (18, true), (19, true), (20, true), (21, true), (22, true), (23, true), (24, true), (25, false), (26, false)] (by kernel_rfl) (by kernel_rfl) (by kernel_rfl) (by kernel_rfl) (fun _ _ d _ _ h => by cases d <;> exact h) ?_
              simp only [lexOps, List.map_cons, List.map_nil, List.getD_cons_zero, List.getD_cons_succ]
              have hU0 : Upd [] wr wr.drew := (Upd.refl _ _).drew
              have hS0 : Kp B (w.heap.size :: X) wr wr.drew := Kp.of_nil hU0
              iterate 25 (refine lex_read rfl (by exact hS0) (v := ?_) (fun w' hw => ?_) ?_; rotate_left; (focus (obtain ⟨q0, q1, q2, q3, q4⟩ := HR.out w' hw; go_simp; try with_reducible rfl)); simp only [Act.put, List.setIfInBounds_toArray, List.set_cons_zero, List.set_cons_succ])
              refine lex_do rfl (fun K hK => ?_)
              go_simp
              refine hK _ _ (fun _ => Kp.of_nil (hU0.alloc _)) ?_
              clear hK K
              refine lex_do rfl (fun K hK => ?_)
              go_simp
              refine (OWg.goNums (ns := [zn0, zn1, zn2, zn3]) (rest := []) (k := 4) G0.out rfl (hU0.alloc _) (Nat.le_refl _) (Blk.new wr.drew 3 [_, _, _, _]) rfl).mono ?_
              rintro e w2 ⟨rfl, o2, b2, h⟩
              have G1 := Lib.hid h
              refine hK _ _ (fun _ => G1.out.kp) ?_
              clear hK K h
              refine lex_nil ?_
              have H1 := Lib.hid G1.out.fw
              have H2 := Lib.hid G1.out.kp
              have H3 := Lib.hid (HW.out.snoc (s := sDeploy) (WSeq.tup G1.out.seq))
              go_wp2_with fail
              go_roundg (l7.length - (i + 1))
              case measure => have := HG.out; omega
              case rel => exact ⟨i + 1, o2, b2, by go_num, rfl, by omega, H1.out, HK.out.trans H2.out, by rw [take_snoc Hx.out]; exact H3.out⟩
            · obtain rfl : i = l7.length := by omega
              have t1 : decide (l7.length < l7.length) = false := by simp
              have hfin := HW.out
              rw [List.take_length] at hfin
              have H8 := Lib.hid (WrG.next (m := [(.list sDeploy, .list l7)]) H7.out HF.out HK.out (WSeq.one (LWk.fin hfin)))
              clear hfin e7
              clear HF HW HG hlt hi
              obtain ⟨ws8, hz⟩ : ∃ z, z = wr := ⟨_, rfl⟩
              subst hz
              obtain ⟨os8, hz⟩ : ∃ z, z = o' := ⟨_, rfl⟩
              subst hz
              obtain ⟨bs8, hz⟩ : ∃ z, z = b' := ⟨_, rfl⟩
              subst hz
              clear HK
              obtain ⟨a8, c8, e8, r8⟩ := WrG.listAt (q := 8) H8.out rfl
              have HA8 : Hid (Elems ws8 (· < B) sSeen 5 a8 l8) := Lib.hid (list_elems r8).2
              have hwl8 := H8.out.len
              rw [wsum_cons] at hwl8
              have HL8 : Hid (os8.length + (Sch.list sSeen).wmax (.list l8) ≤ 1099511627776) := Lib.hid (by dsimp only at hwl8; omega)
              have hps8 := H8.out.fw.1 w.heap.size (by simp)
              have hll8 : l8.length ≤ 1099511627776 := elems_len HA8.out HL8.out rfl
              clear r8 hwl8
              go_wp2_with fail
              refine (OWg.goCount H8.out).mono ?_
              rintro e w8x ⟨rfl, o8x, b8x, h1, h2, h3⟩
              have p8 := (h2.cell (o := 8) hps8 (.inr (by simp))).trans e8
              have H1x := Lib.hid h1
              have H2x := Lib.hid h2
              have H3x := Lib.hid h3
              clear h1 h2 h3
              go_wp2_with fail
              go_loopg [7] l8.length (fun g t wr => ∃ (i : Nat) (o' : List Nat) (b' : Bool), t = .int .i64 i ∧ l8.length - i = g ∧ i ≤ l8.length ∧ Ow B (w.heap.size :: X) wr f o' b' ∧ Kp B (w.heap.size :: X) ws8 wr ∧ LWk sSeen l8.length (l8.take i) os8 bs8 o' b')
              case atStart => exact ⟨0, o8x, b8x, rfl, rfl, by omega, H1x.out, H2x.out, H3x.out⟩
              case round =>
                obtain ⟨i, o', b', rfl, hg, hi, hF, hK, hW⟩ := hrel
                have HG := Lib.hid hg
                have HF := Lib.hid hF
                have HK := Lib.hid hK
                have HW := Lib.hid hW
                have r0 := (hK.cell (o := 8) hps8 (.inr (by simp))).trans e8
                clear hg hF hK hW p8
                by_cases hlt : i < l8.length
                · have t1 : decide (i < l8.length) = true := by simpa using hlt
                  obtain ⟨x, hx⟩ : ∃ x, l8[i]? = some x := ⟨_, List.getElem?_eq_getElem hlt⟩
                  obtain ⟨b0, o0, us, rfl, hb0, hbl, hrg, hrep⟩ := HA8.out i x hx
                  have hrep := hrep.keep (ok' := (· < B)) (fun k hk hl => ⟨hk, HK.out.block k hl (.inl hk)⟩) HK.out.size
                  have hrg : wr.rangeAt b0 (o0 + i * 5) us := rangeAt_keep hrg (HK.out.block b0 hbl (.inl hb0))
                  have hblr : b0 < wr.heap.size := Nat.lt_of_lt_of_le hbl HK.out.size
                  have HWL := Lib.hid (HW.out.room hx HL8.out)
                  have Hx := Lib.hid hx
                  clear hx
                  have hrepc := hrep
                  obtain ⟨_, _, zv0, zy1, -, rfl, ⟨zn0, -, rfl⟩, zk1⟩ := Sch.Rep.tup_cons hrepc
                  obtain ⟨_, _, zv1, zy2, -, rfl, ⟨zn1, -, rfl⟩, zk2⟩ := Sch.Rep.tup_cons zk1
                  obtain ⟨_, _, zv2, zy3, -, rfl, -, zk3⟩ := Sch.Rep.tup_cons zk2
                  obtain ⟨-, rfl⟩ := Sch.Rep.tup_nil zk3
                  clear zk1 zk2 zk3
                  have hlw := HWL.out
                  have G0 : Hid (OWg B (w.heap.size :: X) f b0 (o0 + i * 5) wr wr o' b' o' b' [] [(.num, .num zn0), (.num, .num zn1), (sResult, zv2)]) := Lib.hid (WrG.start HF.out (.inl hb0) hblr hrg hrep (by have := tup_wmax [(.num, .num zn0), (.num, .num zn1), (sResult, zv2)]; rw [← this]; exact hlw))
                  clear hrg hrep hlw
                  have u0 := WrG.numAt (q := o0 + i * 5) G0.out rfl
                  go_wp2_with fail
                  refine (OWg.goNum G0.out).mono ?_
                  rintro e y1 ⟨rfl, o1', b1', h⟩
                  have G1 := Lib.hid h
                  clear h u0
                  have r1 := (G1.out.kp.cell (o := 8) (b := w.heap.size) (by have := HK.out.size; omega) (.inr (by simp))).trans r0
                  have u1 := WrG.numAt (q := o0 + i * 5 + 1) G1.out rfl
                  go_wp2_with fail
                  refine (OWg.goNum G1.out).mono ?_
                  rintro e y2 ⟨rfl, o2', b2', h⟩
                  have G2 := Lib.hid h
                  clear h u1
                  clear r1
                  have r2 := (G2.out.kp.cell (o := 8) (b := w.heap.size) (by have := HK.out.size; omega) (.inr (by simp))).trans r0
                  obtain ⟨c2z, r2z, g2z⟩ := WrG.range (q := o0 + i * 5 + 2) G2.out rfl
                  have hl2z : c2z.length = 3 := r2z.len
                  have RG := Lib.hid g2z
                  have RR := Lib.hid r2z
                  clear g2z r2z
                  go_wp2_with (refine wpList_load_mid rfl 71 _ rfl b0 (o0 + i * 5 + 2) rfl c2z _ RG.out Try.underlying71 rfl (by rw [hl2z]; exact Try.size71) ?_)
                  refine (OWg.go oresult_writes G2.out RR.out).mono ?_
                  rintro e y3 ⟨rfl, o3', b3', h⟩
                  have G3 := Lib.hid h
                  clear h
                  clear r2
                  have H1 := Lib.hid G3.out.fw
                  have H2 := Lib.hid G3.out.kp
                  have H3 := Lib.hid (HW.out.snoc (s := sSeen) (WSeq.tup G3.out.seq))
                  go_wp2_with fail
                  go_roundg (l8.length - (i + 1))
                  case measure => have := HG.out; omega
                  case rel => exact ⟨i + 1, o3', b3', by go_num, rfl, by omega, H1.out, HK.out.trans H2.out, by rw [take_snoc Hx.out]; exact H3.out⟩
                · obtain rfl : i = l8.length := by omega
                  have t1 : decide (l8.length < l8.length) = false := by simp
                  have hfin := HW.out
                  rw [List.take_length] at hfin
                  have H9 := Lib.hid (WrG.next (m := [(.list sSeen, .list l8)]) H8.out HF.out HK.out (WSeq.one (LWk.fin hfin)))
                  clear hfin e8
                  clear HF HW HG hlt hi
                  obtain ⟨ws9, hz⟩ : ∃ z, z = wr := ⟨_, rfl⟩
                  subst hz
                  obtain ⟨os9, hz⟩ : ∃ z, z = o' := ⟨_, rfl⟩
                  subst hz
                  obtain ⟨bs9, hz⟩ : ∃ z, z = b' := ⟨_, rfl⟩
                  subst hz
                  clear HK
                  go_wp2_with fail
                  go_end0
                  exact OWg.fin H9.out ((Upd.refl _ _).alloc _) rfl rfl
end Go.Proofs.Ytpfnbilopagepaa
/- The reference's PutStore. -/
namespace Go.Proofs.Ytpfnbilopagepaa
open Go.RowKit Go.Lb Go.Rc

set_option maxRecDepth 20000 in
set_option maxHeartbeats 2000000 in
theorem rputStore_puts : Puts 51 sStore := by
  intro cs v w hr hl
  have hlen : cs.length = 9 := hr.len
  have uW : Upd [] w ((w.alloc (.cells cs.toArray 101)).alloc (.cells #[.slice none 0 0, .bool false] 126)) := ((Upd.refl _ _).alloc _).alloc _
  have HR := Lib.hid hr
  have HL := Lib.hid hl
  have HB := Lib.hid ((Blk.new w 101 cs).alloc (.cells #[.slice none 0 0, .bool false] 126))
  have hb0 := Try.prog.built 126 []
  have HBU : Hid (Try.prog.built 126 [] = some #[.slice none 0 0, .bool false]) := Lib.hid (by kernel_rfl)
  clear hr hl hb0
  go_enter Try.func51, Try.ntmps51
  go_wp2_with (first | (refine wpList_buildTo (o := ⟨some 5, .build 126 #[], _, _, _, _⟩) rfl 126 #[] rfl (some 5) rfl #[.slice none 0 0, .bool false] (by simpa using HBU.out) ?_) | (refine wpList_load_blk rfl 101 (.tmp 1) rfl w.heap.size rfl HB.out Try.underlying101 rfl (by rw [hlen]; exact Try.size101) ?_))
  refine (ostore_writes w.heap.size [w.heap.size] (w.heap.size + 1) cs v [] false _ (fresh_out (mk := oW) rfl) (HR.out.upd uW (by simp)) (by simpa using HL.out)).mono ?_
  rintro e w1 ⟨rfl, o, b, h1, h2, h3⟩
  cases b with
  | true =>
    have HF := Lib.hid (putIs_bad h2 uW h3)
    have H1 := Lib.hid h1
    clear h1 h2 h3 uW
    go_wp2_with fail
    refine (told_bad H1.out).mono ?_
    rintro e w2 ⟨rfl, rfl⟩
    go_wp2_with fail
    go_ret2
    exact HF.out
  | false =>
    obtain ⟨a, c, e0, hF⟩ := putIs_good h1 h2 uW h3
    have e1 : w1.cell? ⟨w.heap.size + 1, 0, none⟩ = some (.slice a (sStore.put v).length c) := e0
    have HF := Lib.hid hF
    have H1 := Lib.hid h1
    have E1 := Lib.hid e1
    clear h1 h2 h3 uW e0 hF e1
    go_wp2_with fail
    refine (told_good H1.out E1.out).mono ?_
    rintro e w2 ⟨rfl, rfl⟩
    go_wp2_with fail
    go_ret2
    exact HF.out
end Go.Proofs.Ytpfnbilopagepaa
/- codec's list[Job], reading. -/
namespace Go.Proofs.Ytpfnbilopagepaa
open Go.RowKit Go.Lb Go.Rc

set_option maxRecDepth 20000 in
set_option maxHeartbeats 2000000 in
theorem listJob_reads : LReads 119 91 sJob := by
  intro B f p q tp pre post l b w h hB hpf hq hp
  obtain ⟨iT, hiT, hz0, hz1, hz2⟩ := info39
  subst hq
  have c0 := hp.cell (o := pre.length) mid_at
  obtain ⟨_, _, _, hf, hBf⟩ := fr_mark h
  have hplt := hp.lt
  have H := Lib.hid h
  have HP := Lib.hid hp
  clear h hp
  go_enter Try.func119, Try.ntmps119
  go_wp2_with fail
  refine (many_r B f 64 _ l b _ H.out).mono ?_
  rintro e w1 ⟨k, l1, b1, rfl, hk, h1, h2, h3⟩
  obtain ⟨m2, m3, m4, m5, _⟩ := fr_mark h1
  have HB1 := Lib.hid (h2.blk HP.out (by simpa using hpf))
  have HS : Hid (LRdSt sJob 157 cR [f, p] B f 39 7 w w1 k l b 0 l1 b1 (.slice none 0 0) [] []) := Lib.hid (LRdSt.start h1 (h2.mono (by simp)) (by simp; omega) h3)
  clear h1 h2 h3 H
  go_wp2_with fail
  go_loopg [9, 42] k (fun g u t wr => ∃ (i : Nat) (l' : List Nat) (b' : Bool) (v : Value) (xss : List (List Value)) (xs : List Val), t = .int .i64 i ∧ k - i = g ∧ i ≤ k ∧ Blk wr p tp (pre ++ [v] ++ post) ∧ LRdSt sJob 157 cR [f, p] B f 39 7 w wr k l b i l' b' v xss xs)
  case atStart => exact ⟨0, l1, b1, _, [], [], rfl, rfl, by omega, HB1.out, HS.out⟩
  case round =>
    obtain ⟨i, l', b', v, xss, xs, rfl, hg, hi, hbk, hS⟩ := hrel
    have HG := Lib.hid hg
    have HBK := Lib.hid hbk
    have HST := Lib.hid hS
    obtain ⟨n2, n3, n4, n5, _⟩ := fr_mark hS.fr
    have hsz := hS.upd.size
    clear hg hbk hS m2 m3 m4 m5
    by_cases hlt : i < k
    · have t1 : decide (i < k) = true := by simpa using hlt
      cases b' with
      | true =>
        have HE := Lib.hid (HST.out.rd (.inl rfl))
        go_wp2_with fail
        go_end0
        exact ⟨rfl, .list xs, [v], l', true, HST.out.fr, HST.out.upd, HBK.out, HST.out.isRep, HE.out⟩
      | false =>
      go_wp2_with (refine wpList_alloc_blk rfl 39 rfl sJob.zc (zero39 _) ?_; intro wB hb hu)
      have hN := HST.out.upd' hu
      refine (job_reads B f wr.heap.size 0 39 [] [] l' false wB hN.fr (by omega) (by omega) rfl (by simpa [Sch.zc] using hb)).mono ?_
      rintro e w2 ⟨rfl, x, us, l2, b2, h1, h2, h3, h4, h5⟩
      have hus : us.length = 7 := h4.len
      have hb2 : Blk w2 wr.heap.size 39 us := by simpa using h3
      have hU : Upd [f, p] wr w2 := (hu.mono (by simp)).trans h2 (by
        intro y hy
        simp only [List.mem_cons, List.not_mem_nil, or_false] at hy
        rcases hy with rfl | rfl
        · simp
        · exact .inr (Nat.le_refl _))
      have h4' : Sch.Rep w2 (fun b => wr.heap.size ≤ b) sJob us x := h4.mono (fun b hb _ => Nat.le_trans hu.size hb)
      have hbp : Blk w2 p tp (pre ++ [v] ++ post) := by
        refine h2.blk (hu.blk HBK.out (by simp)) ?_
        simp; omega
      have hrow2 := (hN.row)
      have hrw : w2.ownsRow w.heap.size 39 7 v i xss.flatten := h2.row (hu.row HST.out.row (by simp)) (by
        intro y hy
        have := own_lo HST.out.row hy
        simp; omega)
      have hsz2 := hU.size
      have hl2 := hb2.lt
      obtain ⟨a, c, rfl⟩ := own_shape' hrw
      have HO := Lib.hid h4.one
      have HR : Hid (∀ w', Upd (Value.slice a i c).ownBlock.toList w2 w' → w'.cell? ⟨p, pre.length, none⟩ = some (.slice a i c) ∧ Blk w' wr.heap.size 39 us) := Lib.hid (by
        intro w' u
        refine ⟨(u.blk hbp ?_).cell mid_at, u.blk hb2 ?_⟩
        · intro hm
          have := own_lo HST.out.row (g := p) (by simpa using hm)
          omega
        · intro hm
          have := own_lo HST.out.row (g := wr.heap.size) (by simpa using hm)
          omega)
      have HST2 := HST
      have HU := Lib.hid hU
      have H4 := Lib.hid h4'
      have H5 := Lib.hid h5
      have H1 := Lib.hid h1
      have HRW := Lib.hid hrw
      have HBP := Lib.hid hbp
      have HUS := Lib.hid hus
      clear h1 h2 h3 h4 h5 hN hb hu hbp hrow2 hrw hU h4' hus
      go_wp2_with fail
      refine wp_region_lex (fun w' => Upd (Value.slice a i c).ownBlock.toList w2 w') 8 [(0, true), (1, true), (2, true), (3, true), (4, true), (5, false), (6, false), (7, false), (8, false)] (by kernel_rfl) (by kernel_rfl) (by kernel_rfl) (by kernel_rfl) (fun _ _ d _ _ h => by cases d <;> exact h) ?_
      simp only [lexOps, List.map_cons, List.map_nil, List.getD_cons_zero, List.getD_cons_succ]
      have hS0 : Upd (Value.slice a i c).ownBlock.toList w2 w2.drew := (Upd.refl _ _).drew
      iterate 4 (refine lex_read rfl (by exact hS0) (v := ?_) (fun w' hw => ?_) ?_; rotate_left; (focus (obtain ⟨k1, k2⟩ := HR.out w' hw; clear k2; go_simp; try with_reducible rfl)); simp only [Act.put, List.setIfInBounds_toArray, List.set_cons_zero, List.set_cons_succ])
      refine lex_read rfl (by exact hS0) (fun w' hw => exec_load (by rfl) (by rfl) (run_loadAt_mid w' wr.heap.size 0 39 us _ (HR.out w' hw).2.range Try.underlying39 rfl (by rw [HUS.out]; exact Try.size39))) ?_
      try simp only [Act.put, List.setIfInBounds_toArray, List.set_cons_zero, List.set_cons_succ]
      refine lex_run rfl (exec_buildSlice (by rfl) (by simp [Act.eval]) (run_buildSlice1 _ 95 39 iT _ us 7 Try.underlying95 hiT hz0 hz1 HUS.out (by decide) (by decide))) (fun _ => hS0.alloc _) ?_
      try simp only [Act.put, List.setIfInBounds_toArray, List.set_cons_zero, List.set_cons_succ]
      have h64 : k ≤ 64 := hk
      have hB2 : Blk (w2.drew.alloc (.cells us.toArray 39)) w2.heap.size 39 us := Blk.new w2.drew _ _
      refine lex_do rfl (fun K hK => ?_)
      refine wp_append_mine (.tmp 53) (.tmp 55) 95 rfl w.heap.size 39 iT _ 7 _ Try.underlying95 hiT hz0 hz1 hz2 rfl (by decide) (.slice a i c) i xss.flatten rfl (World.ownsRow.alloc HRW.out _) ⟨w2.heap.size, 0, none⟩ 1 1 us rfl (by rw [HUS.out]) hB2.news (HO.out) (by unfold maxLen; omega) (by omega) (by have := HST.out.upd.size; simp; omega) ?_
      intro v' w3 hown hg hv
      have uA : Upd [f, p] wr (w2.drew.alloc (.cells us.toArray 39)) := (HU.out.drew).alloc _
      have hF : Fr B w3 f l2 b2 := by
        obtain ⟨a', c', hI⟩ := H1.out
        have hI2 : In 157 cR B (w2.drew.alloc (.cells us.toArray 39)) f l2 b2 a' c' := hI.upd (F := []) ((Upd.refl [] w2).drew.alloc _) (by simp)
        refine ⟨a', c', hI2.upd (F := (Value.slice a i c).ownBlock.toList) ((Upd.refl _ _).grown hg (fun k hk => .inl (by simp [hk]))) (fun k hk => ?_)⟩
        have := own_lo HST.out.row (g := k) (by simpa using hk)
        omega
      have hbp3 : Blk w3 p tp (pre ++ [.slice a i c] ++ post) := by
        have hb4 : Blk (w2.drew.alloc (.cells us.toArray 39)) p tp (pre ++ [.slice a i c] ++ post) := (HBP.out.drew).alloc _
        refine (hg.block p hb4.lt (fun e => ?_)).trans hb4
        have := own_lo HST.out.row (g := p) e.symm
        omega
      have q1 := hbp3.cell (o := pre.length) mid_at
      have q2 := hbp3.frozen pre.length
      have q3 := hbp3.lt
      have uS : Upd [p] w3 (w3.setCell ⟨p, pre.length, none⟩ v') := (Upd.refl _ _).setCell (by simp) _
      have HX : Hid (Blk (w3.setCell ⟨p, pre.length, none⟩ v') p tp (pre ++ [v'] ++ post) ∧ LRdSt sJob 157 cR [f, p] B f 39 7 w (w3.setCell ⟨p, pre.length, none⟩ v') k l b (i + 1) l2 b2 v' (xss ++ [us]) (xs ++ [x])) := by
        refine Lib.hid ⟨?_, LRdSt.next HST.out hlt uA (H4.out.upd ((Upd.refl [] w2).drew.alloc _) (by simp)) HUS.out H5.out hg hown ?_ (uS.mono (by simp)) (hF.upd uS (by simp; omega))⟩
        · have := hbp3.set pre.length v'
          rwa [mid_set] at this
        · rcases hv with h | h
          · exact .inl h
          · exact .inr h
      have hS3 : Upd (Value.slice a i c).ownBlock.toList w2 w3 := (hS0.alloc _).grown hg (fun k hk => .inl (by simp [hk]))
      refine hK _ _ (fun _ => hS3) ?_
      obtain ⟨a', c', rfl⟩ := own_shape' hown
      clear hK K hown hg hv uA hF hbp3 uS hB2 hS0
      try simp only [Act.put, List.setIfInBounds_toArray, List.set_cons_zero, List.set_cons_succ]
      refine lex_do rfl (fun K hK => ?_)
      go_simp
      refine hK _ _ (fun _ => hS3) ?_
      clear hK K hS3
      try simp only [Act.put, List.setIfInBounds_toArray, List.set_cons_zero, List.set_cons_succ]
      refine lex_do rfl (fun K hK => ?_)
      go_simp
      refine hK _ _ (fun h => absurd rfl h) ?_
      clear hK K
      try simp only [Act.put, List.setIfInBounds_toArray, List.set_cons_zero, List.set_cons_succ]
      refine lex_nil ?_
      go_wp2_with fail
      go_roundg (k - (i + 1))
      case measure => have := HG.out; omega
      case rel => exact ⟨i + 1, l2, b2, _, _, _, by go_num, rfl, by omega, HX.out.1, HX.out.2⟩
    · obtain rfl : i = k := by omega
      have HE := Lib.hid (HST.out.rd (.inr rfl))
      go_wp2_with fail
      go_end0
      exact ⟨rfl, .list xs, [v], l', b', HST.out.fr, HST.out.upd, HBK.out, HST.out.isRep, HE.out⟩
end Go.Proofs.Ytpfnbilopagepaa
/- codec's list[Node], reading. -/
namespace Go.Proofs.Ytpfnbilopagepaa
open Go.RowKit Go.Lb Go.Rc

set_option maxRecDepth 20000 in
set_option maxHeartbeats 2000000 in
theorem listNode_reads : LReads 120 92 sNode := by
  intro B f p q tp pre post l b w h hB hpf hq hp
  obtain ⟨iT, hiT, hz0, hz1, hz2⟩ := info43
  subst hq
  have c0 := hp.cell (o := pre.length) mid_at
  obtain ⟨_, _, _, hf, hBf⟩ := fr_mark h
  have hplt := hp.lt
  have H := Lib.hid h
  have HP := Lib.hid hp
  clear h hp
  go_enter Try.func120, Try.ntmps120
  go_wp2_with fail
  refine (many_r B f 64 _ l b _ H.out).mono ?_
  rintro e w1 ⟨k, l1, b1, rfl, hk, h1, h2, h3⟩
  obtain ⟨m2, m3, m4, m5, _⟩ := fr_mark h1
  have HB1 := Lib.hid (h2.blk HP.out (by simpa using hpf))
  have HS : Hid (LRdSt sNode 157 cR [f, p] B f 43 8 w w1 k l b 0 l1 b1 (.slice none 0 0) [] []) := Lib.hid (LRdSt.start h1 (h2.mono (by simp)) (by simp; omega) h3)
  clear h1 h2 h3 H
  go_wp2_with fail
  go_loopg [9, 42] k (fun g u t wr => ∃ (i : Nat) (l' : List Nat) (b' : Bool) (v : Value) (xss : List (List Value)) (xs : List Val), t = .int .i64 i ∧ k - i = g ∧ i ≤ k ∧ Blk wr p tp (pre ++ [v] ++ post) ∧ LRdSt sNode 157 cR [f, p] B f 43 8 w wr k l b i l' b' v xss xs)
  case atStart => exact ⟨0, l1, b1, _, [], [], rfl, rfl, by omega, HB1.out, HS.out⟩
  case round =>
    obtain ⟨i, l', b', v, xss, xs, rfl, hg, hi, hbk, hS⟩ := hrel
    have HG := Lib.hid hg
    have HBK := Lib.hid hbk
    have HST := Lib.hid hS
    obtain ⟨n2, n3, n4, n5, _⟩ := fr_mark hS.fr
    have hsz := hS.upd.size
    clear hg hbk hS m2 m3 m4 m5
    by_cases hlt : i < k
    · have t1 : decide (i < k) = true := by simpa using hlt
      cases b' with
      | true =>
        have HE := Lib.hid (HST.out.rd (.inl rfl))
        go_wp2_with fail
        go_end0
        exact ⟨rfl, .list xs, [v], l', true, HST.out.fr, HST.out.upd, HBK.out, HST.out.isRep, HE.out⟩
      | false =>
      go_wp2_with (refine wpList_alloc_blk rfl 43 rfl sNode.zc (zero43 _) ?_; intro wB hb hu)
      have hN := HST.out.upd' hu
      refine (node_reads B f wr.heap.size 0 43 [] [] l' false wB hN.fr (by omega) (by omega) rfl (by simpa [Sch.zc] using hb)).mono ?_
      rintro e w2 ⟨rfl, x, us, l2, b2, h1, h2, h3, h4, h5⟩
      have hus : us.length = 8 := h4.len
      have hb2 : Blk w2 wr.heap.size 43 us := by simpa using h3
      have hU : Upd [f, p] wr w2 := (hu.mono (by simp)).trans h2 (by
        intro y hy
        simp only [List.mem_cons, List.not_mem_nil, or_false] at hy
        rcases hy with rfl | rfl
        · simp
        · exact .inr (Nat.le_refl _))
      have h4' : Sch.Rep w2 (fun b => wr.heap.size ≤ b) sNode us x := h4.mono (fun b hb _ => Nat.le_trans hu.size hb)
      have hbp : Blk w2 p tp (pre ++ [v] ++ post) := by
        refine h2.blk (hu.blk HBK.out (by simp)) ?_
        simp; omega
      have hrow2 := (hN.row)
      have hrw : w2.ownsRow w.heap.size 43 8 v i xss.flatten := h2.row (hu.row HST.out.row (by simp)) (by
        intro y hy
        have := own_lo HST.out.row hy
        simp; omega)
      have hsz2 := hU.size
      have hl2 := hb2.lt
      obtain ⟨a, c, rfl⟩ := own_shape' hrw
      have HO := Lib.hid h4.one
      have HR : Hid (∀ w', Upd (Value.slice a i c).ownBlock.toList w2 w' → w'.cell? ⟨p, pre.length, none⟩ = some (.slice a i c) ∧ Blk w' wr.heap.size 43 us) := Lib.hid (by
        intro w' u
        refine ⟨(u.blk hbp ?_).cell mid_at, u.blk hb2 ?_⟩
        · intro hm
          have := own_lo HST.out.row (g := p) (by simpa using hm)
          omega
        · intro hm
          have := own_lo HST.out.row (g := wr.heap.size) (by simpa using hm)
          omega)
      have HST2 := HST
      have HU := Lib.hid hU
      have H4 := Lib.hid h4'
      have H5 := Lib.hid h5
      have H1 := Lib.hid h1
      have HRW := Lib.hid hrw
      have HBP := Lib.hid hbp
      have HUS := Lib.hid hus
      clear h1 h2 h3 h4 h5 hN hb hu hbp hrow2 hrw hU h4' hus
      go_wp2_with fail
      refine wp_region_lex (fun w' => Upd (Value.slice a i c).ownBlock.toList w2 w') 8 [(0, true), (1, true), (2, true), (3, true), (4, true), (5, false), (6, false), (7, false), (8, false)] (by kernel_rfl) (by kernel_rfl) (by kernel_rfl) (by kernel_rfl) (fun _ _ d _ _ h => by cases d <;> exact h) ?_
      simp only [lexOps, List.map_cons, List.map_nil, List.getD_cons_zero, List.getD_cons_succ]
      have hS0 : Upd (Value.slice a i c).ownBlock.toList w2 w2.drew := (Upd.refl _ _).drew
      iterate 4 (refine lex_read rfl (by exact hS0) (v := ?_) (fun w' hw => ?_) ?_; rotate_left; (focus (obtain ⟨k1, k2⟩ := HR.out w' hw; clear k2; go_simp; try with_reducible rfl)); simp only [Act.put, List.setIfInBounds_toArray, List.set_cons_zero, List.set_cons_succ])
      refine lex_read rfl (by exact hS0) (fun w' hw => exec_load (by rfl) (by rfl) (run_loadAt_mid w' wr.heap.size 0 43 us _ (HR.out w' hw).2.range Try.underlying43 rfl (by rw [HUS.out]; exact Try.size43))) ?_
      try simp only [Act.put, List.setIfInBounds_toArray, List.set_cons_zero, List.set_cons_succ]
      refine lex_run rfl (exec_buildSlice (by rfl) (by simp [Act.eval]) (run_buildSlice1 _ 96 43 iT _ us 8 Try.underlying96 hiT hz0 hz1 HUS.out (by decide) (by decide))) (fun _ => hS0.alloc _) ?_
      try simp only [Act.put, List.setIfInBounds_toArray, List.set_cons_zero, List.set_cons_succ]
      have h64 : k ≤ 64 := hk
      have hB2 : Blk (w2.drew.alloc (.cells us.toArray 43)) w2.heap.size 43 us := Blk.new w2.drew _ _
      refine lex_do rfl (fun K hK => ?_)
      refine wp_append_mine (.tmp 53) (.tmp 55) 96 rfl w.heap.size 43 iT _ 8 _ Try.underlying96 hiT hz0 hz1 hz2 rfl (by decide) (.slice a i c) i xss.flatten rfl (World.ownsRow.alloc HRW.out _) ⟨w2.heap.size, 0, none⟩ 1 1 us rfl (by rw [HUS.out]) hB2.news (HO.out) (by unfold maxLen; omega) (by omega) (by have := HST.out.upd.size; simp; omega) ?_
      intro v' w3 hown hg hv
      have uA : Upd [f, p] wr (w2.drew.alloc (.cells us.toArray 43)) := (HU.out.drew).alloc _
      have hF : Fr B w3 f l2 b2 := by
        obtain ⟨a', c', hI⟩ := H1.out
        have hI2 : In 157 cR B (w2.drew.alloc (.cells us.toArray 43)) f l2 b2 a' c' := hI.upd (F := []) ((Upd.refl [] w2).drew.alloc _) (by simp)
        refine ⟨a', c', hI2.upd (F := (Value.slice a i c).ownBlock.toList) ((Upd.refl _ _).grown hg (fun k hk => .inl (by simp [hk]))) (fun k hk => ?_)⟩
        have := own_lo HST.out.row (g := k) (by simpa using hk)
        omega
      have hbp3 : Blk w3 p tp (pre ++ [.slice a i c] ++ post) := by
        have hb4 : Blk (w2.drew.alloc (.cells us.toArray 43)) p tp (pre ++ [.slice a i c] ++ post) := (HBP.out.drew).alloc _
        refine (hg.block p hb4.lt (fun e => ?_)).trans hb4
        have := own_lo HST.out.row (g := p) e.symm
        omega
      have q1 := hbp3.cell (o := pre.length) mid_at
      have q2 := hbp3.frozen pre.length
      have q3 := hbp3.lt
      have uS : Upd [p] w3 (w3.setCell ⟨p, pre.length, none⟩ v') := (Upd.refl _ _).setCell (by simp) _
      have HX : Hid (Blk (w3.setCell ⟨p, pre.length, none⟩ v') p tp (pre ++ [v'] ++ post) ∧ LRdSt sNode 157 cR [f, p] B f 43 8 w (w3.setCell ⟨p, pre.length, none⟩ v') k l b (i + 1) l2 b2 v' (xss ++ [us]) (xs ++ [x])) := by
        refine Lib.hid ⟨?_, LRdSt.next HST.out hlt uA (H4.out.upd ((Upd.refl [] w2).drew.alloc _) (by simp)) HUS.out H5.out hg hown ?_ (uS.mono (by simp)) (hF.upd uS (by simp; omega))⟩
        · have := hbp3.set pre.length v'
          rwa [mid_set] at this
        · rcases hv with h | h
          · exact .inl h
          · exact .inr h
      have hS3 : Upd (Value.slice a i c).ownBlock.toList w2 w3 := (hS0.alloc _).grown hg (fun k hk => .inl (by simp [hk]))
      refine hK _ _ (fun _ => hS3) ?_
      obtain ⟨a', c', rfl⟩ := own_shape' hown
      clear hK K hown hg hv uA hF hbp3 uS hB2 hS0
      try simp only [Act.put, List.setIfInBounds_toArray, List.set_cons_zero, List.set_cons_succ]
      refine lex_do rfl (fun K hK => ?_)
      go_simp
      refine hK _ _ (fun _ => hS3) ?_
      clear hK K hS3
      try simp only [Act.put, List.setIfInBounds_toArray, List.set_cons_zero, List.set_cons_succ]
      refine lex_do rfl (fun K hK => ?_)
      go_simp
      refine hK _ _ (fun h => absurd rfl h) ?_
      clear hK K
      try simp only [Act.put, List.setIfInBounds_toArray, List.set_cons_zero, List.set_cons_succ]
      refine lex_nil ?_
      go_wp2_with fail
      go_roundg (k - (i + 1))
      case measure => have := HG.out; omega
      case rel => exact ⟨i + 1, l2, b2, _, _, _, by go_num, rfl, by omega, HX.out.1, HX.out.2⟩
    · obtain rfl : i = k := by omega
      have HE := Lib.hid (HST.out.rd (.inr rfl))
      go_wp2_with fail
      go_end0
      exact ⟨rfl, .list xs, [v], l', b', HST.out.fr, HST.out.upd, HBK.out, HST.out.isRep, HE.out⟩
end Go.Proofs.Ytpfnbilopagepaa
/- codec's form.eval, reading. -/
namespace Go.Proofs.Ytpfnbilopagepaa
open Go.RowKit Go.Lb Go.Rc

set_option maxRecDepth 20000 in
set_option maxHeartbeats 2000000 in
theorem eval_reads : Reads 124 sEval := by
  intro B f p q tp pre post l b w h hB hpf hq hp
  subst hq
  have H0 := Lib.hid (RdSt.start (rest := [.num, .num, .num, .num]) h hB hpf hp (fr_mark h).2.2.2.1)
  clear h hp
  go_enter Try.func124, Try.ntmps124
  refine wp_region_lex (fun _ => True) 99 [(0, true), (1, true), (2, true), (3, true), (4, true), (5, true), (6, true), (7, true), (8, true), (9, true), (10, true), (11, true), (12, true), (13, false), (14, false)] (by kernel_rfl) (by kernel_rfl) (by kernel_rfl) (by kernel_rfl) (fun _ _ d _ _ h => by cases d <;> exact h) ?_
  simp only [lexOps, List.map_cons, List.map_nil, List.getD_cons_zero, List.getD_cons_succ]
  iterate 13 (refine lex_read rfl trivial (v := ?_) (fun w' _ => ?_) ?_; rotate_left; (focus (go_simp; try with_reducible rfl)); simp only [Act.put, List.setIfInBounds_toArray, List.set_cons_zero, List.set_cons_succ])
  refine lex_do rfl (fun K hK => ?_)
  go_simp
  refine hK _ _ (fun _ => trivial) ?_
  clear hK K
  refine lex_do rfl (fun K hK => ?_)
  go_simp
  refine (CRd.goNums (rest := []) (k := 4) H0.out ((Upd.refl _ _).alloc _).drew (Nat.le_refl _) (Blk.drew (Blk.new _ _ [_, _, _, _])) (by simp only [fsize_append, fsize_nums, fsize, List.nil_append] <;> rfl) (by decide)).mono ?_
  rintro e w1 ⟨rfl, ns1, l1, b1, hn, h⟩
  have H1 := Lib.hid h
  have HN1 := Lib.hid hn
  clear hn
  refine hK _ _ (fun _ => trivial) ?_
  clear hK K h
  refine lex_nil ?_
  go_wp2_with fail
  go_end0
  exact CRd.fin H1.out (by simp only [List.map_append, nums_fst, HN1.out, List.append_assoc, List.map_cons, List.map_nil, List.nil_append]; rfl)
end Go.Proofs.Ytpfnbilopagepaa
/- codec's list[Eval], reading. -/
namespace Go.Proofs.Ytpfnbilopagepaa
open Go.RowKit Go.Lb Go.Rc

set_option maxRecDepth 20000 in
set_option maxHeartbeats 2000000 in
theorem listEval_reads : LReads 123 124 sEval := by
  intro B f p q tp pre post l b w h hB hpf hq hp
  obtain ⟨iT, hiT, hz0, hz1, hz2⟩ := info207
  subst hq
  have c0 := hp.cell (o := pre.length) mid_at
  obtain ⟨_, _, _, hf, hBf⟩ := fr_mark h
  have hplt := hp.lt
  have H := Lib.hid h
  have HP := Lib.hid hp
  clear h hp
  go_enter Try.func123, Try.ntmps123
  go_wp2_with fail
  refine (many_r B f 64 _ l b _ H.out).mono ?_
  rintro e w1 ⟨k, l1, b1, rfl, hk, h1, h2, h3⟩
  obtain ⟨m2, m3, m4, m5, _⟩ := fr_mark h1
  have HB1 := Lib.hid (h2.blk HP.out (by simpa using hpf))
  have HS : Hid (LRdSt sEval 157 cR [f, p] B f 207 4 w w1 k l b 0 l1 b1 (.slice none 0 0) [] []) := Lib.hid (LRdSt.start h1 (h2.mono (by simp)) (by simp; omega) h3)
  clear h1 h2 h3 H
  go_wp2_with fail
  go_loopg [9, 42] k (fun g u t wr => ∃ (i : Nat) (l' : List Nat) (b' : Bool) (v : Value) (xss : List (List Value)) (xs : List Val), t = .int .i64 i ∧ k - i = g ∧ i ≤ k ∧ Blk wr p tp (pre ++ [v] ++ post) ∧ LRdSt sEval 157 cR [f, p] B f 207 4 w wr k l b i l' b' v xss xs)
  case atStart => exact ⟨0, l1, b1, _, [], [], rfl, rfl, by omega, HB1.out, HS.out⟩
  case round =>
    obtain ⟨i, l', b', v, xss, xs, rfl, hg, hi, hbk, hS⟩ := hrel
    have HG := Lib.hid hg
    have HBK := Lib.hid hbk
    have HST := Lib.hid hS
    obtain ⟨n2, n3, n4, n5, _⟩ := fr_mark hS.fr
    have hsz := hS.upd.size
    clear hg hbk hS m2 m3 m4 m5
    by_cases hlt : i < k
    · have t1 : decide (i < k) = true := by simpa using hlt
      cases b' with
      | true =>
        have HE := Lib.hid (HST.out.rd (.inl rfl))
        go_wp2_with fail
        go_end0
        exact ⟨rfl, .list xs, [v], l', true, HST.out.fr, HST.out.upd, HBK.out, HST.out.isRep, HE.out⟩
      | false =>
      go_wp2_with (refine wpList_alloc_blk rfl 207 rfl sEval.zc (zero207 _) ?_; intro wB hb hu)
      have hN := HST.out.upd' hu
      refine (eval_reads B f wr.heap.size 0 207 [] [] l' false wB hN.fr (by omega) (by omega) rfl (by simpa [Sch.zc] using hb)).mono ?_
      rintro e w2 ⟨rfl, x, us, l2, b2, h1, h2, h3, h4, h5⟩
      have hus : us.length = 4 := h4.len
      have hb2 : Blk w2 wr.heap.size 207 us := by simpa using h3
      have hU : Upd [f, p] wr w2 := (hu.mono (by simp)).trans h2 (by
        intro y hy
        simp only [List.mem_cons, List.not_mem_nil, or_false] at hy
        rcases hy with rfl | rfl
        · simp
        · exact .inr (Nat.le_refl _))
      have h4' : Sch.Rep w2 (fun b => wr.heap.size ≤ b) sEval us x := h4.mono (fun b hb _ => Nat.le_trans hu.size hb)
      have hbp : Blk w2 p tp (pre ++ [v] ++ post) := by
        refine h2.blk (hu.blk HBK.out (by simp)) ?_
        simp; omega
      have hrow2 := (hN.row)
      have hrw : w2.ownsRow w.heap.size 207 4 v i xss.flatten := h2.row (hu.row HST.out.row (by simp)) (by
        intro y hy
        have := own_lo HST.out.row hy
        simp; omega)
      have hsz2 := hU.size
      have hl2 := hb2.lt
      obtain ⟨a, c, rfl⟩ := own_shape' hrw
      have HO := Lib.hid h4.one
      have HR : Hid (∀ w', Upd (Value.slice a i c).ownBlock.toList w2 w' → w'.cell? ⟨p, pre.length, none⟩ = some (.slice a i c) ∧ Blk w' wr.heap.size 207 us) := Lib.hid (by
        intro w' u
        refine ⟨(u.blk hbp ?_).cell mid_at, u.blk hb2 ?_⟩
        · intro hm
          have := own_lo HST.out.row (g := p) (by simpa using hm)
          omega
        · intro hm
          have := own_lo HST.out.row (g := wr.heap.size) (by simpa using hm)
          omega)
      have HST2 := HST
      have HU := Lib.hid hU
      have H4 := Lib.hid h4'
      have H5 := Lib.hid h5
      have H1 := Lib.hid h1
      have HRW := Lib.hid hrw
      have HBP := Lib.hid hbp
      have HUS := Lib.hid hus
      clear h1 h2 h3 h4 h5 hN hb hu hbp hrow2 hrw hU h4' hus
      go_wp2_with fail
      refine wp_region_lex (fun w' => Upd (Value.slice a i c).ownBlock.toList w2 w') 8 [(0, true), (1, true), (2, true), (3, true), (4, true), (5, false), (6, false), (7, false), (8, false)] (by kernel_rfl) (by kernel_rfl) (by kernel_rfl) (by kernel_rfl) (fun _ _ d _ _ h => by cases d <;> exact h) ?_
      simp only [lexOps, List.map_cons, List.map_nil, List.getD_cons_zero, List.getD_cons_succ]
      have hS0 : Upd (Value.slice a i c).ownBlock.toList w2 w2.drew := (Upd.refl _ _).drew
      iterate 4 (refine lex_read rfl (by exact hS0) (v := ?_) (fun w' hw => ?_) ?_; rotate_left; (focus (obtain ⟨k1, k2⟩ := HR.out w' hw; clear k2; go_simp; try with_reducible rfl)); simp only [Act.put, List.setIfInBounds_toArray, List.set_cons_zero, List.set_cons_succ])
      refine lex_read rfl (by exact hS0) (fun w' hw => exec_load (by rfl) (by rfl) (run_loadAt_mid w' wr.heap.size 0 207 us _ (HR.out w' hw).2.range Try.underlying207 rfl (by rw [HUS.out]; exact Try.size207))) ?_
      try simp only [Act.put, List.setIfInBounds_toArray, List.set_cons_zero, List.set_cons_succ]
      refine lex_run rfl (exec_buildSlice (by rfl) (by simp [Act.eval]) (run_buildSlice1 _ 97 207 iT _ us 4 Try.underlying97 hiT hz0 hz1 HUS.out (by decide) (by decide))) (fun _ => hS0.alloc _) ?_
      try simp only [Act.put, List.setIfInBounds_toArray, List.set_cons_zero, List.set_cons_succ]
      have h64 : k ≤ 64 := hk
      have hB2 : Blk (w2.drew.alloc (.cells us.toArray 207)) w2.heap.size 207 us := Blk.new w2.drew _ _
      refine lex_do rfl (fun K hK => ?_)
      refine wp_append_mine (.tmp 53) (.tmp 55) 97 rfl w.heap.size 207 iT _ 4 _ Try.underlying97 hiT hz0 hz1 hz2 rfl (by decide) (.slice a i c) i xss.flatten rfl (World.ownsRow.alloc HRW.out _) ⟨w2.heap.size, 0, none⟩ 1 1 us rfl (by rw [HUS.out]) hB2.news (HO.out) (by unfold maxLen; omega) (by omega) (by have := HST.out.upd.size; simp; omega) ?_
      intro v' w3 hown hg hv
      have uA : Upd [f, p] wr (w2.drew.alloc (.cells us.toArray 207)) := (HU.out.drew).alloc _
      have hF : Fr B w3 f l2 b2 := by
        obtain ⟨a', c', hI⟩ := H1.out
        have hI2 : In 157 cR B (w2.drew.alloc (.cells us.toArray 207)) f l2 b2 a' c' := hI.upd (F := []) ((Upd.refl [] w2).drew.alloc _) (by simp)
        refine ⟨a', c', hI2.upd (F := (Value.slice a i c).ownBlock.toList) ((Upd.refl _ _).grown hg (fun k hk => .inl (by simp [hk]))) (fun k hk => ?_)⟩
        have := own_lo HST.out.row (g := k) (by simpa using hk)
        omega
      have hbp3 : Blk w3 p tp (pre ++ [.slice a i c] ++ post) := by
        have hb4 : Blk (w2.drew.alloc (.cells us.toArray 207)) p tp (pre ++ [.slice a i c] ++ post) := (HBP.out.drew).alloc _
        refine (hg.block p hb4.lt (fun e => ?_)).trans hb4
        have := own_lo HST.out.row (g := p) e.symm
        omega
      have q1 := hbp3.cell (o := pre.length) mid_at
      have q2 := hbp3.frozen pre.length
      have q3 := hbp3.lt
      have uS : Upd [p] w3 (w3.setCell ⟨p, pre.length, none⟩ v') := (Upd.refl _ _).setCell (by simp) _
      have HX : Hid (Blk (w3.setCell ⟨p, pre.length, none⟩ v') p tp (pre ++ [v'] ++ post) ∧ LRdSt sEval 157 cR [f, p] B f 207 4 w (w3.setCell ⟨p, pre.length, none⟩ v') k l b (i + 1) l2 b2 v' (xss ++ [us]) (xs ++ [x])) := by
        refine Lib.hid ⟨?_, LRdSt.next HST.out hlt uA (H4.out.upd ((Upd.refl [] w2).drew.alloc _) (by simp)) HUS.out H5.out hg hown ?_ (uS.mono (by simp)) (hF.upd uS (by simp; omega))⟩
        · have := hbp3.set pre.length v'
          rwa [mid_set] at this
        · rcases hv with h | h
          · exact .inl h
          · exact .inr h
      have hS3 : Upd (Value.slice a i c).ownBlock.toList w2 w3 := (hS0.alloc _).grown hg (fun k hk => .inl (by simp [hk]))
      refine hK _ _ (fun _ => hS3) ?_
      obtain ⟨a', c', rfl⟩ := own_shape' hown
      clear hK K hown hg hv uA hF hbp3 uS hB2 hS0
      try simp only [Act.put, List.setIfInBounds_toArray, List.set_cons_zero, List.set_cons_succ]
      refine lex_do rfl (fun K hK => ?_)
      go_simp
      refine hK _ _ (fun _ => hS3) ?_
      clear hK K hS3
      try simp only [Act.put, List.setIfInBounds_toArray, List.set_cons_zero, List.set_cons_succ]
      refine lex_do rfl (fun K hK => ?_)
      go_simp
      refine hK _ _ (fun h => absurd rfl h) ?_
      clear hK K
      try simp only [Act.put, List.setIfInBounds_toArray, List.set_cons_zero, List.set_cons_succ]
      refine lex_nil ?_
      go_wp2_with fail
      go_roundg (k - (i + 1))
      case measure => have := HG.out; omega
      case rel => exact ⟨i + 1, l2, b2, _, _, _, by go_num, rfl, by omega, HX.out.1, HX.out.2⟩
    · obtain rfl : i = k := by omega
      have HE := Lib.hid (HST.out.rd (.inr rfl))
      go_wp2_with fail
      go_end0
      exact ⟨rfl, .list xs, [v], l', b', HST.out.fr, HST.out.upd, HBK.out, HST.out.isRep, HE.out⟩
end Go.Proofs.Ytpfnbilopagepaa
/- codec's form.deploy, reading. -/
namespace Go.Proofs.Ytpfnbilopagepaa
open Go.RowKit Go.Lb Go.Rc

set_option maxRecDepth 20000 in
set_option maxHeartbeats 2000000 in
theorem deploy_reads : Reads 126 sDeploy := by
  intro B f p q tp pre post l b w h hB hpf hq hp
  subst hq
  have H0 := Lib.hid (RdSt.start (rest := [.num, .num, .num, .num]) h hB hpf hp (fr_mark h).2.2.2.1)
  clear h hp
  go_enter Try.func126, Try.ntmps126
  refine wp_region_lex (fun _ => True) 99 [(0, true), (1, true), (2, true), (3, true), (4, true), (5, true), (6, true), (7, true), (8, true), (9, true), (10, true), (11, true), (12, true), (13, false), (14, false)] (by kernel_rfl) (by kernel_rfl) (by kernel_rfl) (by kernel_rfl) (fun _ _ d _ _ h => by cases d <;> exact h) ?_
  simp only [lexOps, List.map_cons, List.map_nil, List.getD_cons_zero, List.getD_cons_succ]
  iterate 13 (refine lex_read rfl trivial (v := ?_) (fun w' _ => ?_) ?_; rotate_left; (focus (go_simp; try with_reducible rfl)); simp only [Act.put, List.setIfInBounds_toArray, List.set_cons_zero, List.set_cons_succ])
  refine lex_do rfl (fun K hK => ?_)
  go_simp
  refine hK _ _ (fun _ => trivial) ?_
  clear hK K
  refine lex_do rfl (fun K hK => ?_)
  go_simp
  refine (CRd.goNums (rest := []) (k := 4) H0.out ((Upd.refl _ _).alloc _).drew (Nat.le_refl _) (Blk.drew (Blk.new _ _ [_, _, _, _])) (by simp only [fsize_append, fsize_nums, fsize, List.nil_append] <;> rfl) (by decide)).mono ?_
  rintro e w1 ⟨rfl, ns1, l1, b1, hn, h⟩
  have H1 := Lib.hid h
  have HN1 := Lib.hid hn
  clear hn
  refine hK _ _ (fun _ => trivial) ?_
  clear hK K h
  refine lex_nil ?_
  go_wp2_with fail
  go_end0
  exact CRd.fin H1.out (by simp only [List.map_append, nums_fst, HN1.out, List.append_assoc, List.map_cons, List.map_nil, List.nil_append]; rfl)
end Go.Proofs.Ytpfnbilopagepaa
/- codec's list[Deploy], reading. -/
namespace Go.Proofs.Ytpfnbilopagepaa
open Go.RowKit Go.Lb Go.Rc

set_option maxRecDepth 20000 in
set_option maxHeartbeats 2000000 in
theorem listDeploy_reads : LReads 125 126 sDeploy := by
  intro B f p q tp pre post l b w h hB hpf hq hp
  obtain ⟨iT, hiT, hz0, hz1, hz2⟩ := info212
  subst hq
  have c0 := hp.cell (o := pre.length) mid_at
  obtain ⟨_, _, _, hf, hBf⟩ := fr_mark h
  have hplt := hp.lt
  have H := Lib.hid h
  have HP := Lib.hid hp
  clear h hp
  go_enter Try.func125, Try.ntmps125
  go_wp2_with fail
  refine (many_r B f 64 _ l b _ H.out).mono ?_
  rintro e w1 ⟨k, l1, b1, rfl, hk, h1, h2, h3⟩
  obtain ⟨m2, m3, m4, m5, _⟩ := fr_mark h1
  have HB1 := Lib.hid (h2.blk HP.out (by simpa using hpf))
  have HS : Hid (LRdSt sDeploy 157 cR [f, p] B f 212 4 w w1 k l b 0 l1 b1 (.slice none 0 0) [] []) := Lib.hid (LRdSt.start h1 (h2.mono (by simp)) (by simp; omega) h3)
  clear h1 h2 h3 H
  go_wp2_with fail
  go_loopg [9, 42] k (fun g u t wr => ∃ (i : Nat) (l' : List Nat) (b' : Bool) (v : Value) (xss : List (List Value)) (xs : List Val), t = .int .i64 i ∧ k - i = g ∧ i ≤ k ∧ Blk wr p tp (pre ++ [v] ++ post) ∧ LRdSt sDeploy 157 cR [f, p] B f 212 4 w wr k l b i l' b' v xss xs)
  case atStart => exact ⟨0, l1, b1, _, [], [], rfl, rfl, by omega, HB1.out, HS.out⟩
  case round =>
    obtain ⟨i, l', b', v, xss, xs, rfl, hg, hi, hbk, hS⟩ := hrel
    have HG := Lib.hid hg
    have HBK := Lib.hid hbk
    have HST := Lib.hid hS
    obtain ⟨n2, n3, n4, n5, _⟩ := fr_mark hS.fr
    have hsz := hS.upd.size
    clear hg hbk hS m2 m3 m4 m5
    by_cases hlt : i < k
    · have t1 : decide (i < k) = true := by simpa using hlt
      cases b' with
      | true =>
        have HE := Lib.hid (HST.out.rd (.inl rfl))
        go_wp2_with fail
        go_end0
        exact ⟨rfl, .list xs, [v], l', true, HST.out.fr, HST.out.upd, HBK.out, HST.out.isRep, HE.out⟩
      | false =>
      go_wp2_with (refine wpList_alloc_blk rfl 212 rfl sDeploy.zc (zero212 _) ?_; intro wB hb hu)
      have hN := HST.out.upd' hu
      refine (deploy_reads B f wr.heap.size 0 212 [] [] l' false wB hN.fr (by omega) (by omega) rfl (by simpa [Sch.zc] using hb)).mono ?_
      rintro e w2 ⟨rfl, x, us, l2, b2, h1, h2, h3, h4, h5⟩
      have hus : us.length = 4 := h4.len
      have hb2 : Blk w2 wr.heap.size 212 us := by simpa using h3
      have hU : Upd [f, p] wr w2 := (hu.mono (by simp)).trans h2 (by
        intro y hy
        simp only [List.mem_cons, List.not_mem_nil, or_false] at hy
        rcases hy with rfl | rfl
        · simp
        · exact .inr (Nat.le_refl _))
      have h4' : Sch.Rep w2 (fun b => wr.heap.size ≤ b) sDeploy us x := h4.mono (fun b hb _ => Nat.le_trans hu.size hb)
      have hbp : Blk w2 p tp (pre ++ [v] ++ post) := by
        refine h2.blk (hu.blk HBK.out (by simp)) ?_
        simp; omega
      have hrow2 := (hN.row)
      have hrw : w2.ownsRow w.heap.size 212 4 v i xss.flatten := h2.row (hu.row HST.out.row (by simp)) (by
        intro y hy
        have := own_lo HST.out.row hy
        simp; omega)
      have hsz2 := hU.size
      have hl2 := hb2.lt
      obtain ⟨a, c, rfl⟩ := own_shape' hrw
      have HO := Lib.hid h4.one
      have HR : Hid (∀ w', Upd (Value.slice a i c).ownBlock.toList w2 w' → w'.cell? ⟨p, pre.length, none⟩ = some (.slice a i c) ∧ Blk w' wr.heap.size 212 us) := Lib.hid (by
        intro w' u
        refine ⟨(u.blk hbp ?_).cell mid_at, u.blk hb2 ?_⟩
        · intro hm
          have := own_lo HST.out.row (g := p) (by simpa using hm)
          omega
        · intro hm
          have := own_lo HST.out.row (g := wr.heap.size) (by simpa using hm)
          omega)
      have HST2 := HST
      have HU := Lib.hid hU
      have H4 := Lib.hid h4'
      have H5 := Lib.hid h5
      have H1 := Lib.hid h1
      have HRW := Lib.hid hrw
      have HBP := Lib.hid hbp
      have HUS := Lib.hid hus
      clear h1 h2 h3 h4 h5 hN hb hu hbp hrow2 hrw hU h4' hus
      go_wp2_with fail
      refine wp_region_lex (fun w' => Upd (Value.slice a i c).ownBlock.toList w2 w') 8 [(0, true), (1, true), (2, true), (3, true), (4, true), (5, false), (6, false), (7, false), (8, false)] (by kernel_rfl) (by kernel_rfl) (by kernel_rfl) (by kernel_rfl) (fun _ _ d _ _ h => by cases d <;> exact h) ?_
      simp only [lexOps, List.map_cons, List.map_nil, List.getD_cons_zero, List.getD_cons_succ]
      have hS0 : Upd (Value.slice a i c).ownBlock.toList w2 w2.drew := (Upd.refl _ _).drew
      iterate 4 (refine lex_read rfl (by exact hS0) (v := ?_) (fun w' hw => ?_) ?_; rotate_left; (focus (obtain ⟨k1, k2⟩ := HR.out w' hw; clear k2; go_simp; try with_reducible rfl)); simp only [Act.put, List.setIfInBounds_toArray, List.set_cons_zero, List.set_cons_succ])
      refine lex_read rfl (by exact hS0) (fun w' hw => exec_load (by rfl) (by rfl) (run_loadAt_mid w' wr.heap.size 0 212 us _ (HR.out w' hw).2.range Try.underlying212 rfl (by rw [HUS.out]; exact Try.size212))) ?_
      try simp only [Act.put, List.setIfInBounds_toArray, List.set_cons_zero, List.set_cons_succ]
      refine lex_run rfl (exec_buildSlice (by rfl) (by simp [Act.eval]) (run_buildSlice1 _ 98 212 iT _ us 4 Try.underlying98 hiT hz0 hz1 HUS.out (by decide) (by decide))) (fun _ => hS0.alloc _) ?_
      try simp only [Act.put, List.setIfInBounds_toArray, List.set_cons_zero, List.set_cons_succ]
      have h64 : k ≤ 64 := hk
      have hB2 : Blk (w2.drew.alloc (.cells us.toArray 212)) w2.heap.size 212 us := Blk.new w2.drew _ _
      refine lex_do rfl (fun K hK => ?_)
      refine wp_append_mine (.tmp 53) (.tmp 55) 98 rfl w.heap.size 212 iT _ 4 _ Try.underlying98 hiT hz0 hz1 hz2 rfl (by decide) (.slice a i c) i xss.flatten rfl (World.ownsRow.alloc HRW.out _) ⟨w2.heap.size, 0, none⟩ 1 1 us rfl (by rw [HUS.out]) hB2.news (HO.out) (by unfold maxLen; omega) (by omega) (by have := HST.out.upd.size; simp; omega) ?_
      intro v' w3 hown hg hv
      have uA : Upd [f, p] wr (w2.drew.alloc (.cells us.toArray 212)) := (HU.out.drew).alloc _
      have hF : Fr B w3 f l2 b2 := by
        obtain ⟨a', c', hI⟩ := H1.out
        have hI2 : In 157 cR B (w2.drew.alloc (.cells us.toArray 212)) f l2 b2 a' c' := hI.upd (F := []) ((Upd.refl [] w2).drew.alloc _) (by simp)
        refine ⟨a', c', hI2.upd (F := (Value.slice a i c).ownBlock.toList) ((Upd.refl _ _).grown hg (fun k hk => .inl (by simp [hk]))) (fun k hk => ?_)⟩
        have := own_lo HST.out.row (g := k) (by simpa using hk)
        omega
      have hbp3 : Blk w3 p tp (pre ++ [.slice a i c] ++ post) := by
        have hb4 : Blk (w2.drew.alloc (.cells us.toArray 212)) p tp (pre ++ [.slice a i c] ++ post) := (HBP.out.drew).alloc _
        refine (hg.block p hb4.lt (fun e => ?_)).trans hb4
        have := own_lo HST.out.row (g := p) e.symm
        omega
      have q1 := hbp3.cell (o := pre.length) mid_at
      have q2 := hbp3.frozen pre.length
      have q3 := hbp3.lt
      have uS : Upd [p] w3 (w3.setCell ⟨p, pre.length, none⟩ v') := (Upd.refl _ _).setCell (by simp) _
      have HX : Hid (Blk (w3.setCell ⟨p, pre.length, none⟩ v') p tp (pre ++ [v'] ++ post) ∧ LRdSt sDeploy 157 cR [f, p] B f 212 4 w (w3.setCell ⟨p, pre.length, none⟩ v') k l b (i + 1) l2 b2 v' (xss ++ [us]) (xs ++ [x])) := by
        refine Lib.hid ⟨?_, LRdSt.next HST.out hlt uA (H4.out.upd ((Upd.refl [] w2).drew.alloc _) (by simp)) HUS.out H5.out hg hown ?_ (uS.mono (by simp)) (hF.upd uS (by simp; omega))⟩
        · have := hbp3.set pre.length v'
          rwa [mid_set] at this
        · rcases hv with h | h
          · exact .inl h
          · exact .inr h
      have hS3 : Upd (Value.slice a i c).ownBlock.toList w2 w3 := (hS0.alloc _).grown hg (fun k hk => .inl (by simp [hk]))
      refine hK _ _ (fun _ => hS3) ?_
      obtain ⟨a', c', rfl⟩ := own_shape' hown
      clear hK K hown hg hv uA hF hbp3 uS hB2 hS0
      try simp only [Act.put, List.setIfInBounds_toArray, List.set_cons_zero, List.set_cons_succ]
      refine lex_do rfl (fun K hK => ?_)
      go_simp
      refine hK _ _ (fun _ => hS3) ?_
      clear hK K hS3
      try simp only [Act.put, List.setIfInBounds_toArray, List.set_cons_zero, List.set_cons_succ]
      refine lex_do rfl (fun K hK => ?_)
      go_simp
      refine hK _ _ (fun h => absurd rfl h) ?_
      clear hK K
      try simp only [Act.put, List.setIfInBounds_toArray, List.set_cons_zero, List.set_cons_succ]
      refine lex_nil ?_
      go_wp2_with fail
      go_roundg (k - (i + 1))
      case measure => have := HG.out; omega
      case rel => exact ⟨i + 1, l2, b2, _, _, _, by go_num, rfl, by omega, HX.out.1, HX.out.2⟩
    · obtain rfl : i = k := by omega
      have HE := Lib.hid (HST.out.rd (.inr rfl))
      go_wp2_with fail
      go_end0
      exact ⟨rfl, .list xs, [v], l', b', HST.out.fr, HST.out.upd, HBK.out, HST.out.isRep, HE.out⟩
end Go.Proofs.Ytpfnbilopagepaa
/- codec's form.seen, reading. -/
namespace Go.Proofs.Ytpfnbilopagepaa
open Go.RowKit Go.Lb Go.Rc

set_option maxRecDepth 20000 in
set_option maxHeartbeats 2000000 in
theorem seen_reads : Reads 128 sSeen := by
  intro B f p q tp pre post l b w h hB hpf hq hp
  subst hq
  have H0 := Lib.hid (RdSt.start (rest := [.num, .num, sResult]) h hB hpf hp (fr_mark h).2.2.2.1)
  clear h hp
  go_enter Try.func128, Try.ntmps128
  go_wp2_with fail
  refine wp_region_lex (fun _ => True) 99 [(0, true), (1, true), (2, true), (3, true), (4, true), (5, true), (6, true), (7, false), (8, false)] (by kernel_rfl) (by kernel_rfl) (by kernel_rfl) (by kernel_rfl) (fun _ _ d _ _ h => by cases d <;> exact h) ?_
  simp only [lexOps, List.map_cons, List.map_nil, List.getD_cons_zero, List.getD_cons_succ]
  iterate 7 (refine lex_read rfl trivial (v := ?_) (fun w' _ => ?_) ?_; rotate_left; (focus (go_simp; try with_reducible rfl)); simp only [Act.put, List.setIfInBounds_toArray, List.set_cons_zero, List.set_cons_succ])
  refine lex_do rfl (fun K hK => ?_)
  go_simp
  refine hK _ _ (fun _ => trivial) ?_
  clear hK K
  refine lex_do rfl (fun K hK => ?_)
  go_simp
  refine (CRd.goNums (rest := [sResult]) (k := 2) H0.out ((Upd.refl _ _).alloc _).drew (Nat.le_refl _) (Blk.drew (Blk.new _ _ [_, _])) (by simp only [fsize_append, fsize_nums, fsize, List.nil_append] <;> rfl) (by decide)).mono ?_
  rintro e w1 ⟨rfl, ns1, l1, b1, hn, h⟩
  have H1 := Lib.hid h
  have HN1 := Lib.hid hn
  clear hn
  refine hK _ _ (fun _ => trivial) ?_
  clear hK K h
  refine lex_nil ?_
  go_wp2_with fail
  refine (CRd.go result_reads H1.out (by simp only [fsize_append, fsize_nums, fsize, HN1.out, List.nil_append] <;> rfl)).mono ?_
  rintro e w2 ⟨rfl, v2, l2, b2, h⟩
  have H2 := Lib.hid h
  clear h
  go_wp2_with fail
  go_end0
  exact CRd.fin H2.out (by simp only [List.map_append, nums_fst, HN1.out, List.append_assoc, List.map_cons, List.map_nil, List.nil_append]; rfl)
end Go.Proofs.Ytpfnbilopagepaa
/- codec's list[Seen], reading. -/
namespace Go.Proofs.Ytpfnbilopagepaa
open Go.RowKit Go.Lb Go.Rc

set_option maxRecDepth 20000 in
set_option maxHeartbeats 2000000 in
theorem listSeen_reads : LReads 127 128 sSeen := by
  intro B f p q tp pre post l b w h hB hpf hq hp
  obtain ⟨iT, hiT, hz0, hz1, hz2⟩ := info217
  subst hq
  have c0 := hp.cell (o := pre.length) mid_at
  obtain ⟨_, _, _, hf, hBf⟩ := fr_mark h
  have hplt := hp.lt
  have H := Lib.hid h
  have HP := Lib.hid hp
  clear h hp
  go_enter Try.func127, Try.ntmps127
  go_wp2_with fail
  refine (many_r B f 64 _ l b _ H.out).mono ?_
  rintro e w1 ⟨k, l1, b1, rfl, hk, h1, h2, h3⟩
  obtain ⟨m2, m3, m4, m5, _⟩ := fr_mark h1
  have HB1 := Lib.hid (h2.blk HP.out (by simpa using hpf))
  have HS : Hid (LRdSt sSeen 157 cR [f, p] B f 217 5 w w1 k l b 0 l1 b1 (.slice none 0 0) [] []) := Lib.hid (LRdSt.start h1 (h2.mono (by simp)) (by simp; omega) h3)
  clear h1 h2 h3 H
  go_wp2_with fail
  go_loopg [9, 42] k (fun g u t wr => ∃ (i : Nat) (l' : List Nat) (b' : Bool) (v : Value) (xss : List (List Value)) (xs : List Val), t = .int .i64 i ∧ k - i = g ∧ i ≤ k ∧ Blk wr p tp (pre ++ [v] ++ post) ∧ LRdSt sSeen 157 cR [f, p] B f 217 5 w wr k l b i l' b' v xss xs)
  case atStart => exact ⟨0, l1, b1, _, [], [], rfl, rfl, by omega, HB1.out, HS.out⟩
  case round =>
    obtain ⟨i, l', b', v, xss, xs, rfl, hg, hi, hbk, hS⟩ := hrel
    have HG := Lib.hid hg
    have HBK := Lib.hid hbk
    have HST := Lib.hid hS
    obtain ⟨n2, n3, n4, n5, _⟩ := fr_mark hS.fr
    have hsz := hS.upd.size
    clear hg hbk hS m2 m3 m4 m5
    by_cases hlt : i < k
    · have t1 : decide (i < k) = true := by simpa using hlt
      cases b' with
      | true =>
        have HE := Lib.hid (HST.out.rd (.inl rfl))
        go_wp2_with fail
        go_end0
        exact ⟨rfl, .list xs, [v], l', true, HST.out.fr, HST.out.upd, HBK.out, HST.out.isRep, HE.out⟩
      | false =>
      go_wp2_with (refine wpList_alloc_blk rfl 217 rfl sSeen.zc (zero217 _) ?_; intro wB hb hu)
      have hN := HST.out.upd' hu
      refine (seen_reads B f wr.heap.size 0 217 [] [] l' false wB hN.fr (by omega) (by omega) rfl (by simpa [Sch.zc] using hb)).mono ?_
      rintro e w2 ⟨rfl, x, us, l2, b2, h1, h2, h3, h4, h5⟩
      have hus : us.length = 5 := h4.len
      have hb2 : Blk w2 wr.heap.size 217 us := by simpa using h3
      have hU : Upd [f, p] wr w2 := (hu.mono (by simp)).trans h2 (by
        intro y hy
        simp only [List.mem_cons, List.not_mem_nil, or_false] at hy
        rcases hy with rfl | rfl
        · simp
        · exact .inr (Nat.le_refl _))
      have h4' : Sch.Rep w2 (fun b => wr.heap.size ≤ b) sSeen us x := h4.mono (fun b hb _ => Nat.le_trans hu.size hb)
      have hbp : Blk w2 p tp (pre ++ [v] ++ post) := by
        refine h2.blk (hu.blk HBK.out (by simp)) ?_
        simp; omega
      have hrow2 := (hN.row)
      have hrw : w2.ownsRow w.heap.size 217 5 v i xss.flatten := h2.row (hu.row HST.out.row (by simp)) (by
        intro y hy
        have := own_lo HST.out.row hy
        simp; omega)
      have hsz2 := hU.size
      have hl2 := hb2.lt
      obtain ⟨a, c, rfl⟩ := own_shape' hrw
      have HO := Lib.hid h4.one
      have HR : Hid (∀ w', Upd (Value.slice a i c).ownBlock.toList w2 w' → w'.cell? ⟨p, pre.length, none⟩ = some (.slice a i c) ∧ Blk w' wr.heap.size 217 us) := Lib.hid (by
        intro w' u
        refine ⟨(u.blk hbp ?_).cell mid_at, u.blk hb2 ?_⟩
        · intro hm
          have := own_lo HST.out.row (g := p) (by simpa using hm)
          omega
        · intro hm
          have := own_lo HST.out.row (g := wr.heap.size) (by simpa using hm)
          omega)
      have HST2 := HST
      have HU := Lib.hid hU
      have H4 := Lib.hid h4'
      have H5 := Lib.hid h5
      have H1 := Lib.hid h1
      have HRW := Lib.hid hrw
      have HBP := Lib.hid hbp
      have HUS := Lib.hid hus
      clear h1 h2 h3 h4 h5 hN hb hu hbp hrow2 hrw hU h4' hus
      go_wp2_with fail
      refine wp_region_lex (fun w' => Upd (Value.slice a i c).ownBlock.toList w2 w') 8 [(0, true), (1, true), (2, true), (3, true), (4, true), (5, false), (6, false), (7, false), (8, false)] (by kernel_rfl) (by kernel_rfl) (by kernel_rfl) (by kernel_rfl) (fun _ _ d _ _ h => by cases d <;> exact h) ?_
      simp only [lexOps, List.map_cons, List.map_nil, List.getD_cons_zero, List.getD_cons_succ]
      have hS0 : Upd (Value.slice a i c).ownBlock.toList w2 w2.drew := (Upd.refl _ _).drew
      iterate 4 (refine lex_read rfl (by exact hS0) (v := ?_) (fun w' hw => ?_) ?_; rotate_left; (focus (obtain ⟨k1, k2⟩ := HR.out w' hw; clear k2; go_simp; try with_reducible rfl)); simp only [Act.put, List.setIfInBounds_toArray, List.set_cons_zero, List.set_cons_succ])
      refine lex_read rfl (by exact hS0) (fun w' hw => exec_load (by rfl) (by rfl) (run_loadAt_mid w' wr.heap.size 0 217 us _ (HR.out w' hw).2.range Try.underlying217 rfl (by rw [HUS.out]; exact Try.size217))) ?_
      try simp only [Act.put, List.setIfInBounds_toArray, List.set_cons_zero, List.set_cons_succ]
      refine lex_run rfl (exec_buildSlice (by rfl) (by simp [Act.eval]) (run_buildSlice1 _ 99 217 iT _ us 5 Try.underlying99 hiT hz0 hz1 HUS.out (by decide) (by decide))) (fun _ => hS0.alloc _) ?_
      try simp only [Act.put, List.setIfInBounds_toArray, List.set_cons_zero, List.set_cons_succ]
      have h64 : k ≤ 64 := hk
      have hB2 : Blk (w2.drew.alloc (.cells us.toArray 217)) w2.heap.size 217 us := Blk.new w2.drew _ _
      refine lex_do rfl (fun K hK => ?_)
      refine wp_append_mine (.tmp 53) (.tmp 55) 99 rfl w.heap.size 217 iT _ 5 _ Try.underlying99 hiT hz0 hz1 hz2 rfl (by decide) (.slice a i c) i xss.flatten rfl (World.ownsRow.alloc HRW.out _) ⟨w2.heap.size, 0, none⟩ 1 1 us rfl (by rw [HUS.out]) hB2.news (HO.out) (by unfold maxLen; omega) (by omega) (by have := HST.out.upd.size; simp; omega) ?_
      intro v' w3 hown hg hv
      have uA : Upd [f, p] wr (w2.drew.alloc (.cells us.toArray 217)) := (HU.out.drew).alloc _
      have hF : Fr B w3 f l2 b2 := by
        obtain ⟨a', c', hI⟩ := H1.out
        have hI2 : In 157 cR B (w2.drew.alloc (.cells us.toArray 217)) f l2 b2 a' c' := hI.upd (F := []) ((Upd.refl [] w2).drew.alloc _) (by simp)
        refine ⟨a', c', hI2.upd (F := (Value.slice a i c).ownBlock.toList) ((Upd.refl _ _).grown hg (fun k hk => .inl (by simp [hk]))) (fun k hk => ?_)⟩
        have := own_lo HST.out.row (g := k) (by simpa using hk)
        omega
      have hbp3 : Blk w3 p tp (pre ++ [.slice a i c] ++ post) := by
        have hb4 : Blk (w2.drew.alloc (.cells us.toArray 217)) p tp (pre ++ [.slice a i c] ++ post) := (HBP.out.drew).alloc _
        refine (hg.block p hb4.lt (fun e => ?_)).trans hb4
        have := own_lo HST.out.row (g := p) e.symm
        omega
      have q1 := hbp3.cell (o := pre.length) mid_at
      have q2 := hbp3.frozen pre.length
      have q3 := hbp3.lt
      have uS : Upd [p] w3 (w3.setCell ⟨p, pre.length, none⟩ v') := (Upd.refl _ _).setCell (by simp) _
      have HX : Hid (Blk (w3.setCell ⟨p, pre.length, none⟩ v') p tp (pre ++ [v'] ++ post) ∧ LRdSt sSeen 157 cR [f, p] B f 217 5 w (w3.setCell ⟨p, pre.length, none⟩ v') k l b (i + 1) l2 b2 v' (xss ++ [us]) (xs ++ [x])) := by
        refine Lib.hid ⟨?_, LRdSt.next HST.out hlt uA (H4.out.upd ((Upd.refl [] w2).drew.alloc _) (by simp)) HUS.out H5.out hg hown ?_ (uS.mono (by simp)) (hF.upd uS (by simp; omega))⟩
        · have := hbp3.set pre.length v'
          rwa [mid_set] at this
        · rcases hv with h | h
          · exact .inl h
          · exact .inr h
      have hS3 : Upd (Value.slice a i c).ownBlock.toList w2 w3 := (hS0.alloc _).grown hg (fun k hk => .inl (by simp [hk]))
      refine hK _ _ (fun _ => hS3) ?_
      obtain ⟨a', c', rfl⟩ := own_shape' hown
      clear hK K hown hg hv uA hF hbp3 uS hB2 hS0
      try simp only [Act.put, List.setIfInBounds_toArray, List.set_cons_zero, List.set_cons_succ]
      refine lex_do rfl (fun K hK => ?_)
      go_simp
      refine hK _ _ (fun _ => hS3) ?_
      clear hK K hS3
      try simp only [Act.put, List.setIfInBounds_toArray, List.set_cons_zero, List.set_cons_succ]
      refine lex_do rfl (fun K hK => ?_)
      go_simp
      refine hK _ _ (fun h => absurd rfl h) ?_
      clear hK K
      try simp only [Act.put, List.setIfInBounds_toArray, List.set_cons_zero, List.set_cons_succ]
      refine lex_nil ?_
      go_wp2_with fail
      go_roundg (k - (i + 1))
      case measure => have := HG.out; omega
      case rel => exact ⟨i + 1, l2, b2, _, _, _, by go_num, rfl, by omega, HX.out.1, HX.out.2⟩
    · obtain rfl : i = k := by omega
      have HE := Lib.hid (HST.out.rd (.inr rfl))
      go_wp2_with fail
      go_end0
      exact ⟨rfl, .list xs, [v], l', b', HST.out.fr, HST.out.upd, HBK.out, HST.out.isRep, HE.out⟩
end Go.Proofs.Ytpfnbilopagepaa
/- codec's form.store, reading. -/
namespace Go.Proofs.Ytpfnbilopagepaa
open Go.RowKit Go.Lb Go.Rc

set_option maxRecDepth 20000 in
set_option maxHeartbeats 2000000 in
theorem store_reads : Reads 83 sStore := by
  intro B f p q tp pre post l b w h hB hpf hq hp
  subst hq
  have H0 := Lib.hid (RdSt.start (rest := [.num, .num, .list sJob, .list sJob, .list sNode, .list sAlloc, .list sEval, .list sDeploy, .list sSeen]) h hB hpf hp (fr_mark h).2.2.2.1)
  clear h hp
  go_enter Try.func83, Try.ntmps83
  go_wp2_with fail
  refine wp_region_lex (fun _ => True) 99 [(0, true), (1, true), (2, true), (3, true), (4, true), (5, true), (6, true), (7, false), (8, false)] (by kernel_rfl) (by kernel_rfl) (by kernel_rfl) (by kernel_rfl) (fun _ _ d _ _ h => by cases d <;> exact h) ?_
  simp only [lexOps, List.map_cons, List.map_nil, List.getD_cons_zero, List.getD_cons_succ]
  iterate 7 (refine lex_read rfl trivial (v := ?_) (fun w' _ => ?_) ?_; rotate_left; (focus (go_simp; try with_reducible rfl)); simp only [Act.put, List.setIfInBounds_toArray, List.set_cons_zero, List.set_cons_succ])
  refine lex_do rfl (fun K hK => ?_)
  go_simp
  refine hK _ _ (fun _ => trivial) ?_
  clear hK K
  refine lex_do rfl (fun K hK => ?_)
  go_simp
  refine (CRd.goNums (rest := [.list sJob, .list sJob, .list sNode, .list sAlloc, .list sEval, .list sDeploy, .list sSeen]) (k := 2) H0.out ((Upd.refl _ _).alloc _).drew (Nat.le_refl _) (Blk.drew (Blk.new _ _ [_, _])) (by simp only [fsize_append, fsize_nums, fsize, List.nil_append] <;> rfl) (by decide)).mono ?_
  rintro e w1 ⟨rfl, ns1, l1, b1, hn, h⟩
  have H1 := Lib.hid h
  have HN1 := Lib.hid hn
  clear hn
  refine hK _ _ (fun _ => trivial) ?_
  clear hK K h
  refine lex_nil ?_
  go_wp2_with fail
  refine (CRd.goList listJob_reads H1.out (by simp only [fsize_append, fsize_nums, fsize, HN1.out, List.nil_append] <;> rfl)).mono ?_
  rintro e w2 ⟨rfl, v2, l2, b2, h⟩
  have H2 := Lib.hid h
  clear h
  go_wp2_with fail
  refine (CRd.goList listJob_reads H2.out (by simp only [fsize_append, fsize_nums, fsize, HN1.out, List.nil_append] <;> rfl)).mono ?_
  rintro e w3 ⟨rfl, v3, l3, b3, h⟩
  have H3 := Lib.hid h
  clear h
  go_wp2_with fail
  refine (CRd.goList listNode_reads H3.out (by simp only [fsize_append, fsize_nums, fsize, HN1.out, List.nil_append] <;> rfl)).mono ?_
  rintro e w4 ⟨rfl, v4, l4, b4, h⟩
  have H4 := Lib.hid h
  clear h
  go_wp2_with fail
  refine (CRd.goList listAlloc_reads H4.out (by simp only [fsize_append, fsize_nums, fsize, HN1.out, List.nil_append] <;> rfl)).mono ?_
  rintro e w5 ⟨rfl, v5, l5, b5, h⟩
  have H5 := Lib.hid h
  clear h
  go_wp2_with fail
  refine (CRd.goList listEval_reads H5.out (by simp only [fsize_append, fsize_nums, fsize, HN1.out, List.nil_append] <;> rfl)).mono ?_
  rintro e w6 ⟨rfl, v6, l6, b6, h⟩
  have H6 := Lib.hid h
  clear h
  go_wp2_with fail
  refine (CRd.goList listDeploy_reads H6.out (by simp only [fsize_append, fsize_nums, fsize, HN1.out, List.nil_append] <;> rfl)).mono ?_
  rintro e w7 ⟨rfl, v7, l7, b7, h⟩
  have H7 := Lib.hid h
  clear h
  go_wp2_with fail
  refine (CRd.goList listSeen_reads H7.out (by simp only [fsize_append, fsize_nums, fsize, HN1.out, List.nil_append] <;> rfl)).mono ?_
  rintro e w8 ⟨rfl, v8, l8, b8, h⟩
  have H8 := Lib.hid h
  clear h
  go_wp2_with fail
  go_end0
  exact CRd.fin H8.out (by simp only [List.map_append, nums_fst, HN1.out, List.append_assoc, List.map_cons, List.map_nil, List.nil_append]; rfl)
end Go.Proofs.Ytpfnbilopagepaa
/- codec's get[Store] and GetStore. -/
namespace Go.Proofs.Ytpfnbilopagepaa
open Go.RowKit Go.Lb Go.Rc

set_option maxRecDepth 20000 in
set_option maxHeartbeats 2000000 in
theorem getStore_any (a : Option Addr) (c : Nat) (l : List Nat) (w : World) (hb : Bytes w (· < w.heap.size) a l) (hc : l.length ≤ c ∧ c ≤ maxLen) :
    Calls Try.prog 85 #[.slice a l.length c, .func (.func 83) #[] #[]] w (GetIs sStore l w) := by
  have HB := Lib.hid hb
  have HC := Lib.hid hc
  clear hb hc
  go_enter Try.func85, Try.ntmps85
  go_wp2_with (refine wpList_alloc_blk rfl 101 rfl sStore.zc (zero101 _) ?_; intro wA hA uA)
  rename_i wB hB uB wC hC uC K1 a1 K2 a2
  have uW : Upd [] w (wA.alloc (.cells #[.slice a l.length c, .bool true, .bool false] 157)) := ((uB.trans uC (by simp)).trans uA (by simp)).alloc _
  have s1 := uB.size
  have s2 := uC.size
  have s3 := uA.size
  have l1 := hB.lt
  have l2 := hC.lt
  have l3 := hA.lt
  have hT := (uA.blk (uC.blk hB (by simp)) (by simp)).alloc (.cells #[.slice a l.length c, .bool true, .bool false] 157)
  have hX := (uA.blk hC (by simp)).alloc (.cells #[.slice a l.length c, .bool true, .bool false] 157)
  have hN := hA.alloc (.cells #[.slice a l.length c, .bool true, .bool false] 157)
  refine (store_reads w.heap.size wA.heap.size wB.heap.size 0 101 [] [] l false _ ⟨a, c, Blk.new wA 157 [.slice a l.length c, .bool true, .bool false], HB.out.upd uW (by simp), HC.out, by omega⟩ (by omega) (by omega) rfl (by simpa using hX)).mono ?_
  rintro e w1 ⟨rfl, v, cs, l', b', h1, h2, h3, h4, h5⟩
  have hlen : cs.length = 9 := h4.len
  have h3' : Blk w1 wB.heap.size 101 cs := by simpa using h3
  have hT1 : Blk w1 w.heap.size 101 sStore.zc := h2.blk hT (by simp; omega)
  have hN1 : Blk w1 wC.heap.size 101 sStore.zc := h2.blk hN (by simp; omega)
  have HU : Hid (Upd [] w w1) := Lib.hid (uW.trans h2 (by simp; omega))
  have HT := Lib.hid hT1
  have HN := Lib.hid hN1
  have HX := Lib.hid h3'
  have HRep := Lib.hid (h4.mono (ok' := fun k => w.heap.size < k) (fun b hb _ => by simp at hb; omega))
  have HR := Lib.hid h5
  obtain ⟨m2, _, _, _, _⟩ := fr_mark h1
  obtain ⟨a', c', hI⟩ := h1
  have f0 := hI.blk.cell (o := 0) rfl
  clear h2 h3 h4 h5 h3' hT1 hN1 hT hX hN hI uA uB uC hA hB hC uW
  by_cases hg : b' = false ∧ l' = []
  · obtain ⟨rfl, rfl⟩ := hg
    have f0' : w1.cell? ⟨wA.heap.size, 0, none⟩ = some (.slice a' 0 c') := f0
    clear f0
    go_wp2_with (first | (refine wpList_load_blk rfl 101 (.tmp 6) rfl wB.heap.size rfl HX.out Try.underlying101 rfl (by rw [hlen]; exact Try.size101) ?_) | (refine wpList_store_blk (o := ⟨none, .store 101 (.tmp 4) (.tmp 28), _, _, _, _⟩) rfl 101 (.tmp 4) (.tmp 28) rfl w.heap.size cs rfl rfl HT.out (by rw [hlen]; exact Try.size101) (by rw [hlen]; rfl) HRep.out.one ?_; intro w3 hb3 hu3))
    have hl := run_loadVar_blk (P := Try.prog) hb3 101 _ Try.underlying101 rfl (by rw [hlen]; exact Try.size101)
    refine bodyPost_ret (v := .tuple #[.agg cs.toArray, .bool true]) ?_ rfl ⟨HU.out.trans hu3 (by simp), cs, v, true, rfl, HRep.out.keep (fun k hk hl => ⟨Nat.le_of_lt hk, hu3.block k hl (by simp; omega)⟩) hu3.size, fun _ => (HR.out.good rfl).2, fun h => (by cases h)⟩
    · rw [results_cell_tmp Try.results85]; simp [asAddr, hl]
  · have t1 : b' = true ∨ (b' = false ∧ decide (0 < l'.length) = true) := by
      cases b' with
      | true => exact .inl rfl
      | false =>
        right
        refine ⟨rfl, ?_⟩
        rw [decide_eq_true_eq, List.length_pos_iff]
        exact fun h => hg ⟨rfl, h⟩
    have HG : Hid (∀ v', sStore.get l ≠ some (v', [])) := Lib.hid (fun v' hv => by
      cases b' with
      | true =>
        rcases HR.out.bad rfl with h | h
        · cases h
        · rw [hv] at h; cases h
      | false =>
        have := (HR.out.good rfl).2
        rw [hv] at this
        simp only [Option.some.injEq, Prod.mk.injEq] at this
        exact hg ⟨rfl, this.2.symm⟩)
    clear hg
    rcases t1 with rfl | ⟨rfl, t1⟩
    all_goals
      go_wp2_with (first | (refine wpList_load_blk rfl 101 (.tmp 7) rfl wC.heap.size rfl HN.out Try.underlying101 rfl (by exact Try.size101) ?_) | (refine wpList_store_blk (o := ⟨none, .store 101 (.tmp 4) (.tmp 27), _, _, _, _⟩) rfl 101 (.tmp 4) (.tmp 27) rfl w.heap.size sStore.zc rfl rfl HT.out (by exact Try.size101) (by rfl) (Sch.zc_one sStore) ?_; intro w3 hb3 hu3))
      have hl := run_loadVar_blk (P := Try.prog) hb3 101 _ Try.underlying101 rfl (by exact Try.size101)
      refine bodyPost_ret (v := .tuple #[.agg sStore.zc.toArray, .bool false]) ?_ rfl ⟨HU.out.trans hu3 (by simp), sStore.zc, sStore.zero, false, rfl, Sch.Rep.zero _ _ _, fun h => (by cases h), fun _ => ⟨HG.out, rfl⟩⟩
      rw [results_cell_tmp Try.results85]; simp [asAddr, hl]

set_option maxRecDepth 20000 in
set_option maxHeartbeats 2000000 in
theorem getStore_gets : Gets 52 sStore := by
  intro a c l w hb hc
  have HB := Lib.hid hb
  have HC := Lib.hid hc
  clear hb hc
  go_enter Try.func52, Try.ntmps52
  go_wp2_with (refine wpList_alloc_blk rfl 101 rfl sStore.zc (zero101 _) ?_; intro wA hA uA)
  have s1 := uA.size
  have l1 := hA.lt
  refine (getStore_any a c l wA ((HB.out.upd uA (by simp)).mono' s1) HC.out).mono ?_
  rintro e w1 ⟨u1, cs, v, r, rfl, hr, h1, h2⟩
  have hlen : cs.length = 9 := hr.len
  have HT := Lib.hid (u1.blk hA (by simp))
  have HU : Hid (Upd [] w w1) := Lib.hid (uA.trans u1 (by simp))
  have HRep := Lib.hid (hr.mono (ok' := fun k => w.heap.size < k) (fun b hb _ => by omega))
  have H1 := Lib.hid h1
  have H2 := Lib.hid h2
  clear hr h1 h2 u1 uA hA
  go_wp2_with (refine wpList_store_blk (o := ⟨none, .store 101 (.tmp 2) (.tmp 6), _, _, _, _⟩) rfl 101 (.tmp 2) (.tmp 6) rfl w.heap.size cs rfl rfl HT.out (by rw [hlen]; exact Try.size101) (by rw [hlen]; rfl) HRep.out.one ?_; intro w3 hb3 hu3)
  have hl := run_loadVar_blk (P := Try.prog) hb3 101 _ Try.underlying101 rfl (by rw [hlen]; exact Try.size101)
  refine bodyPost_ret (v := .tuple #[.agg cs.toArray, .bool r]) ?_ rfl ⟨HU.out.trans hu3 (by simp), cs, v, r, rfl, HRep.out.keep (fun k hk hl => ⟨Nat.le_of_lt hk, hu3.block k hl (by simp; omega)⟩) hu3.size, H1.out, H2.out⟩
  rw [results_cell_tmp Try.results52]; simp [asAddr, hl]
end Go.Proofs.Ytpfnbilopagepaa
/- codec's form.snapshot, writing. -/
namespace Go.Proofs.Ytpfnbilopagepaa
open Go.RowKit Go.Lb Go.Rc

set_option maxRecDepth 20000 in
set_option maxHeartbeats 2000000 in
theorem snapshot_writes : Writes 87 sSnapshot := by
  intro B X f p q tp pre cs post v o b w h hX hq hp hr hl
  have k0 : (tup [.num, .num, sConf, .raw]).Rep w (· < B) cs v := hr
  obtain ⟨_, _, v0, y0, _, rfl, ⟨n0, _, rfl⟩, k1⟩ := Sch.Rep.tup_cons k0
  obtain ⟨_, _, v1, y1, _, rfl, ⟨n1, _, rfl⟩, k2⟩ := Sch.Rep.tup_cons k1
  obtain ⟨_, _, v2, y2, _, rfl, _, k3⟩ := Sch.Rep.tup_cons k2
  obtain ⟨_, _, v3, y3, _, rfl, _, k4⟩ := Sch.Rep.tup_cons k3
  obtain ⟨_, rfl⟩ := Sch.Rep.tup_nil k4
  subst hq
  have H0 := Lib.hid (WrSt.start (rest := ([(.num, .num n0), (.num, .num n1), (sConf, v2), (.raw, v3)] : List (Sch × Val))) h hX hp hr (by have := tup_wmax ([(.num, .num n0), (.num, .num n1), (sConf, v2), (.raw, v3)] : List (Sch × Val)); rw [← this]; exact hl))
  clear h hX hp hr hl k0 k1 k2 k3 k4
  go_enter Try.func87, Try.ntmps87
  go_wp2_with fail
  refine wp_region_lex (fun _ => True) 99 [(0, true), (1, true), (2, true), (3, true), (4, true), (5, true), (6, true), (7, false), (8, false)] (by kernel_rfl) (by kernel_rfl) (by kernel_rfl) (by kernel_rfl) (fun _ _ d _ _ h => by cases d <;> exact h) ?_
  simp only [lexOps, List.map_cons, List.map_nil, List.getD_cons_zero, List.getD_cons_succ]
  iterate 7 (refine lex_read rfl trivial (v := ?_) (fun w' _ => ?_) ?_; rotate_left; (focus (go_simp; try with_reducible rfl)); simp only [Act.put, List.setIfInBounds_toArray, List.set_cons_zero, List.set_cons_succ])
  refine lex_do rfl (fun K hK => ?_)
  go_simp
  refine hK _ _ (fun _ => trivial) ?_
  clear hK K
  refine lex_do rfl (fun K hK => ?_)
  go_simp
  refine (CWr.goNums (ns := [n0, n1]) (rest := [(sConf, v2), (.raw, v3)]) (k := 2) H0.out rfl ((Upd.refl _ _).alloc _).drew (Nat.le_refl _) (Blk.drew (Blk.new _ _ [_, _])) rfl).mono ?_
  rintro e w1 ⟨rfl, o1, b1, h⟩
  have H1 := Lib.hid h
  refine hK _ _ (fun _ => trivial) ?_
  clear hK K h
  refine lex_nil ?_
  go_wp2_with fail
  refine (CWr.go conf_writes H1.out rfl).mono ?_
  rintro e w2 ⟨rfl, o2, b2, h⟩
  have H2 := Lib.hid h
  clear h
  go_wp2_with fail
  refine (CWr.go raw_writes H2.out rfl).mono ?_
  rintro e w3 ⟨rfl, o3, b3, h⟩
  have H3 := Lib.hid h
  clear h
  go_wp2_with fail
  go_end0
  exact CWr.fin H3.out rfl rfl
end Go.Proofs.Ytpfnbilopagepaa
/- codec's put[Snapshot] and PutSnapshot. -/
namespace Go.Proofs.Ytpfnbilopagepaa
open Go.RowKit Go.Lb Go.Rc

set_option maxRecDepth 20000 in
set_option maxHeartbeats 2000000 in
theorem putSnapshot_any (cs : List Value) (v : Val) (w : World) (hr : Sch.Rep w (· < w.heap.size) sSnapshot cs v) (hl : sSnapshot.wmax v ≤ 1099511627776) :
    Calls Try.prog 86 #[.agg cs.toArray, .func (.func 87) #[] #[]] w (PutIs sSnapshot v w) := by
  have hlen : cs.length = 5 := hr.len
  have HR := Lib.hid hr
  have HL := Lib.hid hl
  clear hr hl
  go_enter Try.func86, Try.ntmps86
  go_wp2_with fail
  have uW : Upd [] w ((w.alloc (.cells cs.toArray 103)).alloc (.cells #[.slice none 0 0, .bool false, .bool false] 157)) := ((Upd.refl _ _).alloc _).alloc _
  refine (snapshot_writes w.heap.size [w.heap.size] (w.heap.size + 1) w.heap.size 0 103 [] cs [] v [] false _ (fresh_out (mk := cW) rfl) (by simp) rfl (by simpa using (Blk.new w 103 cs).alloc _) (HR.out.upd uW (by simp)) (by simpa using HL.out)).mono ?_
  rintro e w1 ⟨rfl, o, b, h1, h2, h3⟩
  obtain ⟨m2, m3, m4, m5⟩ := fw_mark h1
  cases b with
  | true =>
    have HF := Lib.hid (putIs_bad h2 uW h3)
    clear h1 h2 h3 uW
    go_wp2_with fail
    go_ret2
    exact HF.out
  | false =>
    obtain ⟨a, c, e0, hF⟩ := putIs_good h1 h2 uW h3
    have e1 : w1.cell? ⟨w.heap.size + 1, 0, none⟩ = some (.slice a (sSnapshot.put v).length c) := e0
    have HF := Lib.hid hF
    clear h1 h2 h3 uW e0 hF
    go_wp2_with fail
    go_ret2
    exact HF.out

set_option maxRecDepth 20000 in
set_option maxHeartbeats 2000000 in
theorem putSnapshot_puts : Puts 53 sSnapshot := by
  intro cs v w hr hl
  have hlen : cs.length = 5 := hr.len
  have uW : Upd [] w (w.alloc (.cells cs.toArray 103)) := (Upd.refl _ _).alloc _
  have HR := Lib.hid hr
  have HL := Lib.hid hl
  have hb := Blk.new w 103 cs
  have HB := Lib.hid hb
  clear hr hl hb
  go_enter Try.func53, Try.ntmps53
  go_wp2_with (refine wpList_load_blk rfl 103 (.tmp 1) rfl w.heap.size rfl HB.out Try.underlying103 rfl (by rw [hlen]; exact Try.size103) ?_)
  refine (putSnapshot_any cs v _ ((HR.out.upd uW (by simp)).mono (fun b hb hl => hl)) HL.out).mono ?_
  rintro e w1 ⟨u1, ⟨hg, a, c, rfl, hown⟩ | ⟨hg, rfl⟩⟩
  · have HF : Hid (PutIs sSnapshot v w (.returned (.tuple #[.slice a (sSnapshot.put v).length c, .int .i64 0])) w1) := Lib.hid ⟨uW.trans u1 (by simp), .inl ⟨hg, a, c, rfl, own_rebase hown (fun k hk => by have := own_lo hown hk; have := uW.size; omega)⟩⟩
    clear u1 hg hown uW
    go_wp2_with fail
    go_ret2
    exact HF.out
  · have HF : Hid (PutIs sSnapshot v w (.returned (.tuple #[.slice none 0 0, .int .i64 1])) w1) := Lib.hid ⟨uW.trans u1 (by simp), .inr ⟨hg, rfl⟩⟩
    clear u1 hg uW
    go_wp2_with fail
    go_ret2
    exact HF.out
end Go.Proofs.Ytpfnbilopagepaa
/- The reference's snapshot, written. -/
namespace Go.Proofs.Ytpfnbilopagepaa
open Go.RowKit Go.Lb Go.Rc

set_option maxRecDepth 20000 in
set_option maxHeartbeats 4000000 in
theorem osnapshot_writes : OWrites 88 sSnapshot := fun B X f cs v o b w h hr hl => by
  have hlen : cs.length = 5 := hr.len
  have k0 : (tup [.num, .num, sConf, .raw]).Rep w (· < B) cs v := hr
  obtain ⟨_, _, v0, y1, -, rfl, ⟨n0, -, rfl⟩, k1⟩ := Sch.Rep.tup_cons k0
  obtain ⟨_, _, v1, y2, -, rfl, ⟨n1, -, rfl⟩, k2⟩ := Sch.Rep.tup_cons k1
  obtain ⟨_, _, v2, y3, -, rfl, -, k3⟩ := Sch.Rep.tup_cons k2
  obtain ⟨_, _, v3, y4, -, rfl, ⟨-, -, l3, -, rfl, -⟩, k4⟩ := Sch.Rep.tup_cons k3
  obtain ⟨-, rfl⟩ := Sch.Rep.tup_nil k4
  clear k1 k2 k3 k4
  have H0 := Lib.hid (OWg.start (tp := 103) (rest := [(.num, .num n0), (.num, .num n1), (sConf, v2), (.raw, .raw l3)]) h hr (by have := tup_wmax [(.num, .num n0), (.num, .num n1), (sConf, v2), (.raw, .raw l3)]; rw [← this]; exact hl) (Blk.new w 103 cs) ((Upd.refl _ _).alloc _))
  have hB := h.base
  clear h hr hl k0
  show Calls Try.prog _ #[_, .agg cs.toArray] _ _
  go_enter Try.func88, Try.ntmps88
  have e0 := WrG.numAt (q := 0) H0.out rfl
  go_wp2_with fail
  refine (OWg.goNum H0.out).mono ?_
  rintro e w1 ⟨rfl, o1, b1, h⟩
  have H1 := Lib.hid h
  clear h e0
  have e1 := WrG.numAt (q := 1) H1.out rfl
  go_wp2_with fail
  refine (OWg.goNum H1.out).mono ?_
  rintro e w2 ⟨rfl, o2, b2, h⟩
  have H2 := Lib.hid h
  clear h e1
  obtain ⟨c2, r2, g2⟩ := WrG.range (q := 2) H2.out rfl
  have hl2 : c2.length = 2 := r2.len
  have G2 := Lib.hid g2
  have R2 := Lib.hid r2
  clear g2 r2
  go_wp2_with (refine wpList_load_mid rfl 50 _ rfl w.heap.size 2 rfl c2 _ G2.out Try.underlying50 rfl (by rw [hl2]; exact Try.size50) ?_)
  refine (OWg.go oconf_writes H2.out R2.out).mono ?_
  rintro e w3 ⟨rfl, o3, b3, h⟩
  have H3 := Lib.hid h
  clear h
  obtain ⟨a3, c3, e3, r3⟩ := WrG.rawAt (q := 4) H3.out rfl
  have R3 := Lib.hid r3
  clear r3
  go_wp2_with fail
  refine (OWg.go (c := [.slice a3 l3.length c3]) obytes_writes H3.out R3.out).mono ?_
  rintro e w4 ⟨rfl, o4, b4, h⟩
  have H4 := Lib.hid h
  clear h e3
  go_wp2_with fail
  go_end0
  exact OWg.fin H4.out ((Upd.refl _ _).alloc _) rfl rfl
end Go.Proofs.Ytpfnbilopagepaa
/- The reference's PutSnapshot. -/
namespace Go.Proofs.Ytpfnbilopagepaa
open Go.RowKit Go.Lb Go.Rc

set_option maxRecDepth 20000 in
set_option maxHeartbeats 2000000 in
theorem rputSnapshot_puts : Puts 54 sSnapshot := by
  intro cs v w hr hl
  have hlen : cs.length = 5 := hr.len
  have uW : Upd [] w ((w.alloc (.cells cs.toArray 103)).alloc (.cells #[.slice none 0 0, .bool false] 126)) := ((Upd.refl _ _).alloc _).alloc _
  have HR := Lib.hid hr
  have HL := Lib.hid hl
  have HB := Lib.hid ((Blk.new w 103 cs).alloc (.cells #[.slice none 0 0, .bool false] 126))
  have hb0 := Try.prog.built 126 []
  have HBU : Hid (Try.prog.built 126 [] = some #[.slice none 0 0, .bool false]) := Lib.hid (by kernel_rfl)
  clear hr hl hb0
  go_enter Try.func54, Try.ntmps54
  go_wp2_with (first | (refine wpList_buildTo (o := ⟨some 5, .build 126 #[], _, _, _, _⟩) rfl 126 #[] rfl (some 5) rfl #[.slice none 0 0, .bool false] (by simpa using HBU.out) ?_) | (refine wpList_load_blk rfl 103 (.tmp 1) rfl w.heap.size rfl HB.out Try.underlying103 rfl (by rw [hlen]; exact Try.size103) ?_))
  refine (osnapshot_writes w.heap.size [w.heap.size] (w.heap.size + 1) cs v [] false _ (fresh_out (mk := oW) rfl) (HR.out.upd uW (by simp)) (by simpa using HL.out)).mono ?_
  rintro e w1 ⟨rfl, o, b, h1, h2, h3⟩
  cases b with
  | true =>
    have HF := Lib.hid (putIs_bad h2 uW h3)
    have H1 := Lib.hid h1
    clear h1 h2 h3 uW
    go_wp2_with fail
    refine (told_bad H1.out).mono ?_
    rintro e w2 ⟨rfl, rfl⟩
    go_wp2_with fail
    go_ret2
    exact HF.out
  | false =>
    obtain ⟨a, c, e0, hF⟩ := putIs_good h1 h2 uW h3
    have e1 : w1.cell? ⟨w.heap.size + 1, 0, none⟩ = some (.slice a (sSnapshot.put v).length c) := e0
    have HF := Lib.hid hF
    have H1 := Lib.hid h1
    have E1 := Lib.hid e1
    clear h1 h2 h3 uW e0 hF e1
    go_wp2_with fail
    refine (told_good H1.out E1.out).mono ?_
    rintro e w2 ⟨rfl, rfl⟩
    go_wp2_with fail
    go_ret2
    exact HF.out
end Go.Proofs.Ytpfnbilopagepaa
/- codec's form.snapshot, reading. -/
namespace Go.Proofs.Ytpfnbilopagepaa
open Go.RowKit Go.Lb Go.Rc

set_option maxRecDepth 20000 in
set_option maxHeartbeats 2000000 in
theorem snapshot_reads : Reads 87 sSnapshot := by
  intro B f p q tp pre post l b w h hB hpf hq hp
  subst hq
  have H0 := Lib.hid (RdSt.start (rest := [.num, .num, sConf, .raw]) h hB hpf hp (fr_mark h).2.2.2.1)
  clear h hp
  go_enter Try.func87, Try.ntmps87
  go_wp2_with fail
  refine wp_region_lex (fun _ => True) 99 [(0, true), (1, true), (2, true), (3, true), (4, true), (5, true), (6, true), (7, false), (8, false)] (by kernel_rfl) (by kernel_rfl) (by kernel_rfl) (by kernel_rfl) (fun _ _ d _ _ h => by cases d <;> exact h) ?_
  simp only [lexOps, List.map_cons, List.map_nil, List.getD_cons_zero, List.getD_cons_succ]
  iterate 7 (refine lex_read rfl trivial (v := ?_) (fun w' _ => ?_) ?_; rotate_left; (focus (go_simp; try with_reducible rfl)); simp only [Act.put, List.setIfInBounds_toArray, List.set_cons_zero, List.set_cons_succ])
  refine lex_do rfl (fun K hK => ?_)
  go_simp
  refine hK _ _ (fun _ => trivial) ?_
  clear hK K
  refine lex_do rfl (fun K hK => ?_)
  go_simp
  refine (CRd.goNums (rest := [sConf, .raw]) (k := 2) H0.out ((Upd.refl _ _).alloc _).drew (Nat.le_refl _) (Blk.drew (Blk.new _ _ [_, _])) (by simp only [fsize_append, fsize_nums, fsize, List.nil_append] <;> rfl) (by decide)).mono ?_
  rintro e w1 ⟨rfl, ns1, l1, b1, hn, h⟩
  have H1 := Lib.hid h
  have HN1 := Lib.hid hn
  clear hn
  refine hK _ _ (fun _ => trivial) ?_
  clear hK K h
  refine lex_nil ?_
  go_wp2_with fail
  refine (CRd.go conf_reads H1.out (by simp only [fsize_append, fsize_nums, fsize, HN1.out, List.nil_append] <;> rfl)).mono ?_
  rintro e w2 ⟨rfl, v2, l2, b2, h⟩
  have H2 := Lib.hid h
  clear h
  go_wp2_with fail
  refine (CRd.go raw_reads H2.out (by simp only [fsize_append, fsize_nums, fsize, HN1.out, List.nil_append] <;> rfl)).mono ?_
  rintro e w3 ⟨rfl, v3, l3, b3, h⟩
  have H3 := Lib.hid h
  clear h
  go_wp2_with fail
  go_end0
  exact CRd.fin H3.out (by simp only [List.map_append, nums_fst, HN1.out, List.append_assoc, List.map_cons, List.map_nil, List.nil_append]; rfl)
end Go.Proofs.Ytpfnbilopagepaa
/- codec's get[Snapshot] and GetSnapshot. -/
namespace Go.Proofs.Ytpfnbilopagepaa
open Go.RowKit Go.Lb Go.Rc

set_option maxRecDepth 20000 in
set_option maxHeartbeats 2000000 in
theorem getSnapshot_any (a : Option Addr) (c : Nat) (l : List Nat) (w : World) (hb : Bytes w (· < w.heap.size) a l) (hc : l.length ≤ c ∧ c ≤ maxLen) :
    Calls Try.prog 89 #[.slice a l.length c, .func (.func 87) #[] #[]] w (GetIs sSnapshot l w) := by
  have HB := Lib.hid hb
  have HC := Lib.hid hc
  clear hb hc
  go_enter Try.func89, Try.ntmps89
  go_wp2_with (refine wpList_alloc_blk rfl 103 rfl sSnapshot.zc (zero103 _) ?_; intro wA hA uA)
  rename_i wB hB uB wC hC uC K1 a1 K2 a2
  have uW : Upd [] w (wA.alloc (.cells #[.slice a l.length c, .bool true, .bool false] 157)) := ((uB.trans uC (by simp)).trans uA (by simp)).alloc _
  have s1 := uB.size
  have s2 := uC.size
  have s3 := uA.size
  have l1 := hB.lt
  have l2 := hC.lt
  have l3 := hA.lt
  have hT := (uA.blk (uC.blk hB (by simp)) (by simp)).alloc (.cells #[.slice a l.length c, .bool true, .bool false] 157)
  have hX := (uA.blk hC (by simp)).alloc (.cells #[.slice a l.length c, .bool true, .bool false] 157)
  have hN := hA.alloc (.cells #[.slice a l.length c, .bool true, .bool false] 157)
  refine (snapshot_reads w.heap.size wA.heap.size wB.heap.size 0 103 [] [] l false _ ⟨a, c, Blk.new wA 157 [.slice a l.length c, .bool true, .bool false], HB.out.upd uW (by simp), HC.out, by omega⟩ (by omega) (by omega) rfl (by simpa using hX)).mono ?_
  rintro e w1 ⟨rfl, v, cs, l', b', h1, h2, h3, h4, h5⟩
  have hlen : cs.length = 5 := h4.len
  have h3' : Blk w1 wB.heap.size 103 cs := by simpa using h3
  have hT1 : Blk w1 w.heap.size 103 sSnapshot.zc := h2.blk hT (by simp; omega)
  have hN1 : Blk w1 wC.heap.size 103 sSnapshot.zc := h2.blk hN (by simp; omega)
  have HU : Hid (Upd [] w w1) := Lib.hid (uW.trans h2 (by simp; omega))
  have HT := Lib.hid hT1
  have HN := Lib.hid hN1
  have HX := Lib.hid h3'
  have HRep := Lib.hid (h4.mono (ok' := fun k => w.heap.size < k) (fun b hb _ => by simp at hb; omega))
  have HR := Lib.hid h5
  obtain ⟨m2, _, _, _, _⟩ := fr_mark h1
  obtain ⟨a', c', hI⟩ := h1
  have f0 := hI.blk.cell (o := 0) rfl
  clear h2 h3 h4 h5 h3' hT1 hN1 hT hX hN hI uA uB uC hA hB hC uW
  by_cases hg : b' = false ∧ l' = []
  · obtain ⟨rfl, rfl⟩ := hg
    have f0' : w1.cell? ⟨wA.heap.size, 0, none⟩ = some (.slice a' 0 c') := f0
    clear f0
    go_wp2_with (first | (refine wpList_load_blk rfl 103 (.tmp 6) rfl wB.heap.size rfl HX.out Try.underlying103 rfl (by rw [hlen]; exact Try.size103) ?_) | (refine wpList_store_blk (o := ⟨none, .store 103 (.tmp 4) (.tmp 28), _, _, _, _⟩) rfl 103 (.tmp 4) (.tmp 28) rfl w.heap.size cs rfl rfl HT.out (by rw [hlen]; exact Try.size103) (by rw [hlen]; rfl) HRep.out.one ?_; intro w3 hb3 hu3))
    have hl := run_loadVar_blk (P := Try.prog) hb3 103 _ Try.underlying103 rfl (by rw [hlen]; exact Try.size103)
    refine bodyPost_ret (v := .tuple #[.agg cs.toArray, .bool true]) ?_ rfl ⟨HU.out.trans hu3 (by simp), cs, v, true, rfl, HRep.out.keep (fun k hk hl => ⟨Nat.le_of_lt hk, hu3.block k hl (by simp; omega)⟩) hu3.size, fun _ => (HR.out.good rfl).2, fun h => (by cases h)⟩
    · rw [results_cell_tmp Try.results89]; simp [asAddr, hl]
  · have t1 : b' = true ∨ (b' = false ∧ decide (0 < l'.length) = true) := by
      cases b' with
      | true => exact .inl rfl
      | false =>
        right
        refine ⟨rfl, ?_⟩
        rw [decide_eq_true_eq, List.length_pos_iff]
        exact fun h => hg ⟨rfl, h⟩
    have HG : Hid (∀ v', sSnapshot.get l ≠ some (v', [])) := Lib.hid (fun v' hv => by
      cases b' with
      | true =>
        rcases HR.out.bad rfl with h | h
        · cases h
        · rw [hv] at h; cases h
      | false =>
        have := (HR.out.good rfl).2
        rw [hv] at this
        simp only [Option.some.injEq, Prod.mk.injEq] at this
        exact hg ⟨rfl, this.2.symm⟩)
    clear hg
    rcases t1 with rfl | ⟨rfl, t1⟩
    all_goals
      go_wp2_with (first | (refine wpList_load_blk rfl 103 (.tmp 7) rfl wC.heap.size rfl HN.out Try.underlying103 rfl (by exact Try.size103) ?_) | (refine wpList_store_blk (o := ⟨none, .store 103 (.tmp 4) (.tmp 27), _, _, _, _⟩) rfl 103 (.tmp 4) (.tmp 27) rfl w.heap.size sSnapshot.zc rfl rfl HT.out (by exact Try.size103) (by rfl) (Sch.zc_one sSnapshot) ?_; intro w3 hb3 hu3))
      have hl := run_loadVar_blk (P := Try.prog) hb3 103 _ Try.underlying103 rfl (by exact Try.size103)
      refine bodyPost_ret (v := .tuple #[.agg sSnapshot.zc.toArray, .bool false]) ?_ rfl ⟨HU.out.trans hu3 (by simp), sSnapshot.zc, sSnapshot.zero, false, rfl, Sch.Rep.zero _ _ _, fun h => (by cases h), fun _ => ⟨HG.out, rfl⟩⟩
      rw [results_cell_tmp Try.results89]; simp [asAddr, hl]

set_option maxRecDepth 20000 in
set_option maxHeartbeats 2000000 in
theorem getSnapshot_gets : Gets 55 sSnapshot := by
  intro a c l w hb hc
  have HB := Lib.hid hb
  have HC := Lib.hid hc
  clear hb hc
  go_enter Try.func55, Try.ntmps55
  go_wp2_with (refine wpList_alloc_blk rfl 103 rfl sSnapshot.zc (zero103 _) ?_; intro wA hA uA)
  have s1 := uA.size
  have l1 := hA.lt
  refine (getSnapshot_any a c l wA ((HB.out.upd uA (by simp)).mono' s1) HC.out).mono ?_
  rintro e w1 ⟨u1, cs, v, r, rfl, hr, h1, h2⟩
  have hlen : cs.length = 5 := hr.len
  have HT := Lib.hid (u1.blk hA (by simp))
  have HU : Hid (Upd [] w w1) := Lib.hid (uA.trans u1 (by simp))
  have HRep := Lib.hid (hr.mono (ok' := fun k => w.heap.size < k) (fun b hb _ => by omega))
  have H1 := Lib.hid h1
  have H2 := Lib.hid h2
  clear hr h1 h2 u1 uA hA
  go_wp2_with (refine wpList_store_blk (o := ⟨none, .store 103 (.tmp 2) (.tmp 6), _, _, _, _⟩) rfl 103 (.tmp 2) (.tmp 6) rfl w.heap.size cs rfl rfl HT.out (by rw [hlen]; exact Try.size103) (by rw [hlen]; rfl) HRep.out.one ?_; intro w3 hb3 hu3)
  have hl := run_loadVar_blk (P := Try.prog) hb3 103 _ Try.underlying103 rfl (by rw [hlen]; exact Try.size103)
  refine bodyPost_ret (v := .tuple #[.agg cs.toArray, .bool r]) ?_ rfl ⟨HU.out.trans hu3 (by simp), cs, v, r, rfl, HRep.out.keep (fun k hk hl => ⟨Nat.le_of_lt hk, hu3.block k hl (by simp; omega)⟩) hu3.size, H1.out, H2.out⟩
  rw [results_cell_tmp Try.results55]; simp [asAddr, hl]
end Go.Proofs.Ytpfnbilopagepaa
