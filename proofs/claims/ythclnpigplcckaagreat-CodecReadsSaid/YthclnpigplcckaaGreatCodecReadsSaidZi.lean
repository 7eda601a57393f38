/- A part of the proof of CodecReadsSaid: the texts that it leans on, one behind the other. No condition but those that each theorem states. -/
import Derived.Test.YthclnpigplcckaaGreatCodecReadsSaidZh
import Derived.Test.YthclnpigplcckaaGreatRows
import Derived.DataShut
import Derived.ProofKit
import Derived.OpenShut
import Derived.ShutString
import Derived.ChangeOld
import Derived.JoinedCond
import Derived.Deep.Slices
import Derived.ChangeSame
set_option linter.unusedVariables false
set_option linter.unusedSimpArgs false
/- The reference's store, written. -/
namespace Go.Proofs.YthclnpigplcckaaGreat
open Go.RowKit Go.Lb Go.Rc

set_option maxRecDepth 20000 in
set_option maxHeartbeats 4000000 in
theorem ostore_writes : OWrites 89 sStore := fun B X f cs v o b w h hr hl => by
  have hlen : cs.length = 9 := hr.len
  have k0 : (tup [.num, .num, .list sJob, .list sJob, .list sNode, .list sAlloc, .list sEval, .list sDeploy, .list sSeen]).Rep w (· < B) cs v := hr
  obtain ⟨_, _, v0, y1, -, rfl, ⟨n0, -, rfl⟩, k1⟩ := Sch.Rep.tup_cons k0
  obtain ⟨_, _, v1, y2, -, rfl, ⟨n1, -, rfl⟩, k2⟩ := Sch.Rep.tup_cons k1
  obtain ⟨_, _, v2, y3, -, rfl, ⟨-, -, l2, -, rfl, -⟩, k3⟩ := Sch.Rep.tup_cons k2
  obtain ⟨_, _, v3, y4, -, rfl, ⟨-, -, l3, -, rfl, -⟩, k4⟩ := Sch.Rep.tup_cons k3
  obtain ⟨_, _, v4, y5, -, rfl, ⟨-, -, l4, -, rfl, -⟩, k5⟩ := Sch.Rep.tup_cons k4
  obtain ⟨_, _, v5, y6, -, rfl, ⟨-, -, l5, -, rfl, -⟩, k6⟩ := Sch.Rep.tup_cons k5
  obtain ⟨_, _, v6, y7, -, rfl, ⟨-, -, l6, -, rfl, -⟩, k7⟩ := Sch.Rep.tup_cons k6
  obtain ⟨_, _, v7, y8, -, rfl, ⟨-, -, l7, -, rfl, -⟩, k8⟩ := Sch.Rep.tup_cons k7
  obtain ⟨_, _, v8, y9, -, rfl, ⟨-, -, l8, -, rfl, -⟩, k9⟩ := Sch.Rep.tup_cons k8
  obtain ⟨-, rfl⟩ := Sch.Rep.tup_nil k9
  clear k1 k2 k3 k4 k5 k6 k7 k8 k9
  have H0 := Lib.hid (OWg.start (tp := 70) (rest := [(.num, .num n0), (.num, .num n1), (.list sJob, .list l2), (.list sJob, .list l3), (.list sNode, .list l4), (.list sAlloc, .list l5), (.list sEval, .list l6), (.list sDeploy, .list l7), (.list sSeen, .list l8)]) h hr (by have := tup_wmax [(.num, .num n0), (.num, .num n1), (.list sJob, .list l2), (.list sJob, .list l3), (.list sNode, .list l4), (.list sAlloc, .list l5), (.list sEval, .list l6), (.list sDeploy, .list l7), (.list sSeen, .list l8)]; rw [← this]; exact hl) (Blk.new w 70 cs) ((Upd.refl _ _).alloc _))
  have hB := h.base
  clear h hr hl k0
  show Calls Tryz.prog _ #[_, .agg cs.toArray] _ _
  go_enter Tryz.func89, Tryz.ntmps89
  have e0 := WrG.numAt (q := 0) H0.out rfl
  go_wp2_with fail
  refine (OWg.goNum H0.out).mono ?_
  rintro e w1 ⟨rfl, o1, b1, h⟩
  have H1 := Lib.hid h
  clear h e0
  have e1 := WrG.numAt (q := 1) H1.out rfl
  go_wp2_with fail
  refine (OWg.goNum H1.out).mono ?_
  rintro e w2 ⟨rfl, o2, b2, h⟩
  have H2 := Lib.hid h
  clear h e1
  obtain ⟨a2, c2, e2, r2⟩ := WrG.listAt (q := 2) H2.out rfl
  have R2 := Lib.hid r2
  clear r2
  go_wp2_with fail
  refine (OWg.go (c := [.slice a2 l2.length c2]) ojobs_writes H2.out R2.out).mono ?_
  rintro e w3 ⟨rfl, o3, b3, h⟩
  have H3 := Lib.hid h
  clear h e2
  obtain ⟨a3, c3, e3, r3⟩ := WrG.listAt (q := 3) H3.out rfl
  have R3 := Lib.hid r3
  clear r3
  go_wp2_with fail
  refine (OWg.go (c := [.slice a3 l3.length c3]) ojobs_writes H3.out R3.out).mono ?_
  rintro e w4 ⟨rfl, o4, b4, h⟩
  have H4 := Lib.hid h
  clear h e3
  obtain ⟨a4, c4, e4, r4⟩ := WrG.listAt (q := 4) H4.out rfl
  have HA4 : Hid (Elems w4 (· < B) sNode 8 a4 l4) := Lib.hid (list_elems r4).2
  have hwl4 := H4.out.len
  rw [wsum_cons] at hwl4
  have HL4 : Hid (o4.length + (Sch.list sNode).wmax (.list l4) ≤ 1099511627776) := Lib.hid (by dsimp only at hwl4; omega)
  have hps4 := H4.out.fw.1 w.heap.size (by simp)
  have hll4 : l4.length ≤ 1099511627776 := elems_len HA4.out HL4.out rfl
  clear r4 hwl4
  go_wp2_with fail
  refine (OWg.goCount H4.out).mono ?_
  rintro e w4x ⟨rfl, o4x, b4x, h1, h2, h3⟩
  have p4 := (h2.cell (o := 4) hps4 (.inr (by simp))).trans e4
  have H1x := Lib.hid h1
  have H2x := Lib.hid h2
  have H3x := Lib.hid h3
  clear h1 h2 h3
  go_wp2_with fail
  go_loopg [4] l4.length (fun g t wr => ∃ (i : Nat) (o' : List Nat) (b' : Bool), t = .int .i64 i ∧ l4.length - i = g ∧ i ≤ l4.length ∧ Ow B (w.heap.size :: X) wr f o' b' ∧ Kp B (w.heap.size :: X) w4 wr ∧ LWk sNode l4.length (l4.take i) o4 b4 o' b')
  case atStart => exact ⟨0, o4x, b4x, rfl, rfl, by omega, H1x.out, H2x.out, H3x.out⟩
  case round =>
    obtain ⟨i, o', b', rfl, hg, hi, hF, hK, hW⟩ := hrel
    have HG := Lib.hid hg
    have HF := Lib.hid hF
    have HK := Lib.hid hK
    have HW := Lib.hid hW
    have r0 := (hK.cell (o := 4) hps4 (.inr (by simp))).trans e4
    clear hg hF hK hW p4
    by_cases hlt : i < l4.length
    · have t1 : decide (i < l4.length) = true := by simpa using hlt
      obtain ⟨x, hx⟩ : ∃ x, l4[i]? = some x := ⟨_, List.getElem?_eq_getElem hlt⟩
      obtain ⟨b0, o0, us, rfl, hb0, hbl, hrg, hrep⟩ := HA4.out i x hx
      have hrep := hrep.keep (ok' := (· < B)) (fun k hk hl => ⟨hk, HK.out.block k hl (.inl hk)⟩) HK.out.size
      have hrg : wr.rangeAt b0 (o0 + i * 8) us := rangeAt_keep hrg (HK.out.block b0 hbl (.inl hb0))
      have hblr : b0 < wr.heap.size := Nat.lt_of_lt_of_le hbl HK.out.size
      have HWL := Lib.hid (HW.out.room hx HL4.out)
      have Hx := Lib.hid hx
      clear hx
      have HRG := Lib.hid hrg
      have HREP := Lib.hid hrep
      have hus : us.length = 8 := hrep.len
      clear hrg hrep
      go_wp2_with (refine wpList_load_mid rfl 29 _ rfl b0 (o0 + i * 8) rfl us _ HRG.out Tryz.underlying29 rfl (by rw [hus]; exact Tryz.size29) ?_)
      refine (onode_writes B (w.heap.size :: X) f us x o' b' _ HF.out HREP.out HWL.out).mono ?_
      rintro e w2 ⟨rfl, o2, b2, h1, h2, h3⟩
      have H1 := Lib.hid h1
      have H2 := Lib.hid h2
      have H3 := Lib.hid (HW.out.snoc h3)
      clear h1 h2 h3
      go_wp2_with fail
      go_roundg (l4.length - (i + 1))
      case measure => have := HG.out; omega
      case rel => exact ⟨i + 1, o2, b2, by go_num, rfl, by omega, H1.out, HK.out.trans H2.out, by rw [take_snoc Hx.out]; exact H3.out⟩
    · obtain rfl : i = l4.length := by omega
      have t1 : decide (l4.length < l4.length) = false := by simp
      have hfin := HW.out
      rw [List.take_length] at hfin
      have H5 := Lib.hid (WrG.next (m := [(.list sNode, .list l4)]) H4.out HF.out HK.out (WSeq.one (LWk.fin hfin)))
      clear hfin e4
      clear HF HW HG hlt hi
      obtain ⟨ws5, hz⟩ : ∃ z, z = wr := ⟨_, rfl⟩
      subst hz
      obtain ⟨os5, hz⟩ : ∃ z, z = o' := ⟨_, rfl⟩
      subst hz
      obtain ⟨bs5, hz⟩ : ∃ z, z = b' := ⟨_, rfl⟩
      subst hz
      clear HK
      obtain ⟨a5, c5, e5, r5⟩ := WrG.listAt (q := 5) H5.out rfl
      have R5 := Lib.hid r5
      clear r5
      go_wp2_with fail
      refine (OWg.go (c := [.slice a5 l5.length c5]) oallocs_writes H5.out R5.out).mono ?_
      rintro e w6 ⟨rfl, o6, b6, h⟩
      have H6 := Lib.hid h
      clear h e5
      obtain ⟨a6, c6, e6, r6⟩ := WrG.listAt (q := 6) H6.out rfl
      have HA6 : Hid (Elems w6 (· < B) sEval 4 a6 l6) := Lib.hid (list_elems r6).2
      have hwl6 := H6.out.len
      rw [wsum_cons] at hwl6
      have HL6 : Hid (o6.length + (Sch.list sEval).wmax (.list l6) ≤ 1099511627776) := Lib.hid (by dsimp only at hwl6; omega)
      have hps6 := H6.out.fw.1 w.heap.size (by simp)
      have hll6 : l6.length ≤ 1099511627776 := elems_len HA6.out HL6.out rfl
      clear r6 hwl6
      go_wp2_with fail
      refine (OWg.goCount H6.out).mono ?_
      rintro e w6x ⟨rfl, o6x, b6x, h1, h2, h3⟩
      have p6 := (h2.cell (o := 6) hps6 (.inr (by simp))).trans e6
      have H1x := Lib.hid h1
      have H2x := Lib.hid h2
      have H3x := Lib.hid h3
      clear h1 h2 h3
      go_wp2_with fail
      go_loopg [5] l6.length (fun g t wr => ∃ (i : Nat) (o' : List Nat) (b' : Bool), t = .int .i64 i ∧ l6.length - i = g ∧ i ≤ l6.length ∧ Ow B (w.heap.size :: X) wr f o' b' ∧ Kp B (w.heap.size :: X) w6 wr ∧ LWk sEval l6.length (l6.take i) o6 b6 o' b')
      case atStart => exact ⟨0, o6x, b6x, rfl, rfl, by omega, H1x.out, H2x.out, H3x.out⟩
      case round =>
        obtain ⟨i, o', b', rfl, hg, hi, hF, hK, hW⟩ := hrel
        have HG := Lib.hid hg
        have HF := Lib.hid hF
        have HK := Lib.hid hK
        have HW := Lib.hid hW
        have r0 := (hK.cell (o := 6) hps6 (.inr (by simp))).trans e6
        clear hg hF hK hW p6
        by_cases hlt : i < l6.length
        · have t1 : decide (i < l6.length) = true := by simpa using hlt
          obtain ⟨x, hx⟩ : ∃ x, l6[i]? = some x := ⟨_, List.getElem?_eq_getElem hlt⟩
          obtain ⟨b0, o0, us, rfl, hb0, hbl, hrg, hrep⟩ := HA6.out i x hx
          have hrep := hrep.keep (ok' := (· < B)) (fun k hk hl => ⟨hk, HK.out.block k hl (.inl hk)⟩) HK.out.size
          have hrg : wr.rangeAt b0 (o0 + i * 4) us := rangeAt_keep hrg (HK.out.block b0 hbl (.inl hb0))
          have hblr : b0 < wr.heap.size := Nat.lt_of_lt_of_le hbl HK.out.size
          have HWL := Lib.hid (HW.out.room hx HL6.out)
          have Hx := Lib.hid hx
          clear hx
          have hrepc := hrep
          obtain ⟨_, _, zv0, zy1, -, rfl, ⟨zn0, -, rfl⟩, zk1⟩ := Sch.Rep.tup_cons hrepc
          obtain ⟨_, _, zv1, zy2, -, rfl, ⟨zn1, -, rfl⟩, zk2⟩ := Sch.Rep.tup_cons zk1
          obtain ⟨_, _, zv2, zy3, -, rfl, ⟨zn2, -, rfl⟩, zk3⟩ := Sch.Rep.tup_cons zk2
          obtain ⟨_, _, zv3, zy4, -, rfl, ⟨zn3, -, rfl⟩, zk4⟩ := Sch.Rep.tup_cons zk3
          obtain ⟨-, rfl⟩ := Sch.Rep.tup_nil zk4
          clear zk1 zk2 zk3 zk4
          have hlw := HWL.out
          have G0 : Hid (OWg B (w.heap.size :: X) f b0 (o0 + i * 4) wr wr o' b' o' b' [] [(.num, .num zn0), (.num, .num zn1), (.num, .num zn2), (.num, .num zn3)]) := Lib.hid (WrG.start HF.out (.inl hb0) hblr hrg hrep (by have := tup_wmax [(.num, .num zn0), (.num, .num zn1), (.num, .num zn2), (.num, .num zn3)]; rw [← this]; exact hlw))
          clear hrg hrep hlw
          have hpsr : w.heap.size < wr.heap.size := Nat.lt_of_lt_of_le hps6 HK.out.size
          have HR : Hid (∀ w', Kp B (w.heap.size :: X) wr w' → w'.cell? ⟨w.heap.size, 6, none⟩ = some (.slice (some ⟨b0, o0, none⟩) l6.length c6) ∧ w'.cell? ⟨b0, o0 + i * 4, none⟩ = some (.int .i64 zn0) ∧ w'.cell? ⟨b0, o0 + i * 4 + 1, none⟩ = some (.int .i64 zn1) ∧ w'.cell? ⟨b0, o0 + i * 4 + 2, none⟩ = some (.int .i64 zn2) ∧ w'.cell? ⟨b0, o0 + i * 4 + 3, none⟩ = some (.int .i64 zn3)) := Lib.hid fun w' k => ⟨(k.cell (o := 6) hpsr (.inr (by simp))).trans r0, rangeAt_keep (WrG.numsAt (ns := [zn0, zn1, zn2, zn3]) (rest := []) (q := o0 + i * 4) G0.out rfl) (k.block b0 hblr (.inl hb0)) 0 _ rfl, rangeAt_keep (WrG.numsAt (ns := [zn0, zn1, zn2, zn3]) (rest := []) (q := o0 + i * 4) G0.out rfl) (k.block b0 hblr (.inl hb0)) 1 _ rfl, rangeAt_keep (WrG.numsAt (ns := [zn0, zn1, zn2, zn3]) (rest := []) (q := o0 + i * 4) G0.out rfl) (k.block b0 hblr (.inl hb0)) 2 _ rfl, rangeAt_keep (WrG.numsAt (ns := [zn0, zn1, zn2, zn3]) (rest := []) (q := o0 + i * 4) G0.out rfl) (k.block b0 hblr (.inl hb0)) 3 _ rfl⟩
          go_wp2_with fail
          refine wp_region_lex (fun w' => Kp B (w.heap.size :: X) wr w') 99 [(0, true), (1, true), (2, true), (3, true), (4, true), (5, true), (6, true), (7, true), (8, true), (9, true), (10, true), (11, true), (12, true), (13, true), (14, true), (15, true), (16, true), (17, true), (18, true), (19, true), (20, true), (21, true), (22, true), (23, true), (24, true), (25, false), (26, false)] (by kernel_rfl) (by kernel_rfl) (by kernel_rfl) (by kernel_rfl) (fun _ _ d _ _ h => by cases d <;> exact h) ?_
          simp only [lexOps, List.map_cons, List.map_nil, List.getD_cons_zero, List.getD_cons_succ]
          have hU0 : Upd [] wr wr.drew := (Upd.refl _ _).drew
          have hS0 : Kp B (w.heap.size :: X) wr wr.drew := Kp.of_nil hU0
          iterate 25 (refine lex_read rfl (by exact hS0) (v := ?_) (fun w' hw => ?_) ?_; rotate_left; (focus (obtain ⟨q0, q1, q2, q3, q4⟩ := HR.out w' hw; go_simp; try with_reducible rfl)); simp only [Act.put, List.setIfInBounds_toArray, List.set_cons_zero, List.set_cons_succ])
          refine lex_do rfl (fun K hK => ?_)
          go_simp
          refine hK _ _ (fun _ => Kp.of_nil (hU0.alloc _)) ?_
          clear hK K
          refine lex_do rfl (fun K hK => ?_)
          go_simp
          refine (OWg.goNums (ns := [zn0, zn1, zn2, zn3]) (rest := []) (k := 4) G0.out rfl (hU0.alloc _) (Nat.le_refl _) (Blk.new wr.drew 3 [_, _, _, _]) rfl).mono ?_
          rintro e w2 ⟨rfl, o2, b2, h⟩
          have G1 := Lib.hid h
          refine hK _ _ (fun _ => G1.out.kp) ?_
          clear hK K h
          refine lex_nil ?_
          have H1 := Lib.hid G1.out.fw
          have H2 := Lib.hid G1.out.kp
          have H3 := Lib.hid (HW.out.snoc (s := sEval) (WSeq.tup G1.out.seq))
          go_wp2_with fail
          go_roundg (l6.length - (i + 1))
          case measure => have := HG.out; omega
          case rel => exact ⟨i + 1, o2, b2, by go_num, rfl, by omega, H1.out, HK.out.trans H2.out, by rw [take_snoc Hx.out]; exact H3.out⟩
        · obtain rfl : i = l6.length := by omega
          have t1 : decide (l6.length < l6.length) = false := by simp
          have hfin := HW.out
          rw [List.take_length] at hfin
          have H7 := Lib.hid (WrG.next (m := [(.list sEval, .list l6)]) H6.out HF.out HK.out (WSeq.one (LWk.fin hfin)))
          clear hfin e6
          clear HF HW HG hlt hi
          obtain ⟨ws7, hz⟩ : ∃ z, z = wr := ⟨_, rfl⟩
          subst hz
          obtain ⟨os7, hz⟩ : ∃ z, z = o' := ⟨_, rfl⟩
          subst hz
          obtain ⟨bs7, hz⟩ : ∃ z, z = b' := ⟨_, rfl⟩
          subst hz
          clear HK
          obtain ⟨a7, c7, e7, r7⟩ := WrG.listAt (q := 7) H7.out rfl
          have HA7 : Hid (Elems ws7 (· < B) sDeploy 4 a7 l7) := Lib.hid (list_elems r7).2
          have hwl7 := H7.out.len
          rw [wsum_cons] at hwl7
          have HL7 : Hid (os7.length + (Sch.list sDeploy).wmax (.list l7) ≤ 1099511627776) := Lib.hid (by dsimp only at hwl7; omega)
          have hps7 := H7.out.fw.1 w.heap.size (by simp)
          have hll7 : l7.length ≤ 1099511627776 := elems_len HA7.out HL7.out rfl
          clear r7 hwl7
          go_wp2_with fail
          refine (OWg.goCount H7.out).mono ?_
          rintro e w7x ⟨rfl, o7x, b7x, h1, h2, h3⟩
          have p7 := (h2.cell (o := 7) hps7 (.inr (by simp))).trans e7
          have H1x := Lib.hid h1
          have H2x := Lib.hid h2
          have H3x := Lib.hid h3
          clear h1 h2 h3
          go_wp2_with fail
          go_loopg [6] l7.length (fun g t wr => ∃ (i : Nat) (o' : List Nat) (b' : Bool), t = .int .i64 i ∧ l7.length - i = g ∧ i ≤ l7.length ∧ Ow B (w.heap.size :: X) wr f o' b' ∧ Kp B (w.heap.size :: X) ws7 wr ∧ LWk sDeploy l7.length (l7.take i) os7 bs7 o' b')
          case atStart => exact ⟨0, o7x, b7x, rfl, rfl, by omega, H1x.out, H2x.out, H3x.out⟩
          case round =>
            obtain ⟨i, o', b', rfl, hg, hi, hF, hK, hW⟩ := hrel
            have HG := Lib.hid hg
            have HF := Lib.hid hF
            have HK := Lib.hid hK
            have HW := Lib.hid hW
            have r0 := (hK.cell (o := 7) hps7 (.inr (by simp))).trans e7
            clear hg hF hK hW p7
            by_cases hlt : i < l7.length
            · have t1 : decide (i < l7.length) = true := by simpa using hlt
              obtain ⟨x, hx⟩ : ∃ x, l7[i]? = some x := ⟨_, List.getElem?_eq_getElem hlt⟩
              obtain ⟨b0, o0, us, rfl, hb0, hbl, hrg, hrep⟩ := HA7.out i x hx
              have hrep := hrep.keep (ok' := (· < B)) (fun k hk hl => ⟨hk, HK.out.block k hl (.inl hk)⟩) HK.out.size
              have hrg : wr.rangeAt b0 (o0 + i * 4) us := rangeAt_keep hrg (HK.out.block b0 hbl (.inl hb0))
              have hblr : b0 < wr.heap.size := Nat.lt_of_lt_of_le hbl HK.out.size
              have HWL := Lib.hid (HW.out.room hx HL7.out)
              have Hx := Lib.hid hx
              clear hx
              have hrepc := hrep
              obtain ⟨_, _, zv0, zy1, -, rfl, ⟨zn0, -, rfl⟩, zk1⟩ := Sch.Rep.tup_cons hrepc
              obtain ⟨_, _, zv1, zy2, -, rfl, ⟨zn1, -, rfl⟩, zk2⟩ := Sch.Rep.tup_cons zk1
              obtain ⟨_, _, zv2, zy3, -, rfl, ⟨zn2, -, rfl⟩, zk3⟩ := Sch.Rep.tup_cons zk2
              obtain ⟨_, _, zv3, zy4, -, rfl, ⟨zn3, -, rfl⟩, zk4⟩ := Sch.Rep.tup_cons zk3
              obtain ⟨-, rfl⟩ := Sch.Rep.tup_nil zk4
              clear zk1 zk2 zk3 zk4
              have hlw := HWL.out
              have G0 : Hid (OWg B (w.heap.size :: X) f b0 (o0 + i * 4) wr wr o' b' o' b' [] [(.num, .num zn0), (.num, .num zn1), (.num, .num zn2), (.num, .num zn3)]) := Lib.hid (WrG.start HF.out (.inl hb0) hblr hrg hrep (by have := tup_wmax [(.num, .num zn0), (.num, .num zn1), (.num, .num zn2), (.num, .num zn3)]; rw [← this]; exact hlw))
              clear hrg hrep hlw
              have hpsr : w.heap.size < wr.heap.size := Nat.lt_of_lt_of_le hps7 HK.out.size
              have HR : Hid (∀ w', Kp B (w.heap.size :: X) wr w' → w'.cell? ⟨w.heap.size, 7, none⟩ = some (.slice (some ⟨b0, o0, none⟩) l7.length c7) ∧ w'.cell? ⟨b0, o0 + i * 4, none⟩ = some (.int .i64 zn0) ∧ w'.cell? ⟨b0, o0 + i * 4 + 1, none⟩ = some (.int .i64 zn1) ∧ w'.cell? ⟨b0, o0 + i * 4 + 2, none⟩ = some (.int .i64 zn2) ∧ w'.cell? ⟨b0, o0 + i * 4 + 3, none⟩ = some (.int .i64 zn3)) := Lib.hid fun w' k => ⟨(k.cell (o := 7) hpsr (.inr (by simp))).trans r0, rangeAt_keep (WrG.numsAt (ns := [zn0, zn1, zn2, zn3]) (rest := []) (q := o0 + i * 4) G0.out rfl) (k.block b0 hblr (.inl hb0)) 0 _ rfl, rangeAt_keep (WrG.numsAt (ns := [zn0, zn1, zn2, zn3]) (rest := []) (q := o0 + i * 4) G0.out rfl) (k.block b0 hblr (.inl hb0)) 1 _ rfl, rangeAt_keep (WrG.numsAt (ns := [zn0, zn1, zn2, zn3]) (rest := []) (q := o0 + i * 4) G0.out rfl) (k.block b0 hblr (.inl hb0)) 2 _ rfl, rangeAt_keep (WrG.numsAt (ns := [zn0, zn1, zn2, zn3]) (rest := []) (q := o0 + i * 4) G0.out rfl) (k.block b0 hblr (.inl hb0)) 3 _ rfl⟩
              go_wp2_with fail
              refine wp_region_lex (fun w' => Kp B (w.heap.size :: X) wr w') 99 [(0, true), (1, true), (2, true), (3, true), (4, true), (5, true), (6, true), (7, true), (8, true), (9, true), (10, true), (11, true), (12, true), (13, true), (14, true), (15, true), (16, true), (17, true), (18, true), (19, true), (20, true), (21, true), (22, true), (23, true), (24, true), (25, false), (26, false)] (by kernel_rfl) (by kernel_rfl) (by kernel_rfl) (by kernel_rfl) (fun _ _ d _ _ h => by cases d <;> exact h) ?_
              simp only [lexOps, List.map_cons, List.map_nil, List.getD_cons_zero, List.getD_cons_succ]
              have hU0 : Upd [] wr wr.drew := (Upd.refl _ _).drew
              have hS0 : Kp B (w.heap.size :: X) wr wr.drew := Kp.of_nil hU0
              iterate 25 (refine lex_read rfl (by exact hS0) (v := ?_) (fun w' hw => ?_) ?_; rotate_left; (focus (obtain ⟨q0, q1, q2, q3, q4⟩ := HR.out w' hw; go_simp; try with_reducible rfl)); simp only [Act.put, List.setIfInBounds_toArray, List.set_cons_zero, List.set_cons_succ])
              refine lex_do rfl (fun K hK => ?_)
              go_simp
              refine hK _ _ (fun _ => Kp.of_nil (hU0.alloc _)) ?_
              clear hK K
              refine lex_do rfl (fun K hK => ?_)
              go_simp
              refine (OWg.goNums (ns := [zn0, zn1, zn2, zn3]) (rest := []) (k := 4) G0.out rfl (hU0.alloc _) (Nat.le_refl _) (Blk.new wr.drew 3 [_, _, _, _]) rfl).mono ?_
              rintro e w2 ⟨rfl, o2, b2, h⟩
              have G1 := Lib.hid h
              refine hK _ _ (fun _ => G1.out.kp) ?_
              clear hK K h
              refine lex_nil ?_
              have H1 := Lib.hid G1.out.fw
              have H2 := Lib.hid G1.out.kp
              have H3 := Lib.hid (HW.out.snoc (s := sDeploy) (WSeq.tup G1.out.seq))
              go_wp2_with fail
              go_roundg (l7.length - (i + 1))
              case measure => have := HG.out; omega
              case rel => exact ⟨i + 1, o2, b2, by go_num, rfl, by omega, H1.out, HK.out.trans H2.out, by rw [take_snoc Hx.out]; exact H3.out⟩
            · obtain rfl : i = l7.length := by omega
              have t1 : decide (l7.length < l7.length) = false := by simp
              have hfin := HW.out
              rw [List.take_length] at hfin
              have H8 := Lib.hid (WrG.next (m := [(.list sDeploy, .list l7)]) H7.out HF.out HK.out (WSeq.one (LWk.fin hfin)))
              clear hfin e7
              clear HF HW HG hlt hi
              obtain ⟨ws8, hz⟩ : ∃ z, z = wr := ⟨_, rfl⟩
              subst hz
              obtain ⟨os8, hz⟩ : ∃ z, z = o' := ⟨_, rfl⟩
              subst hz
              obtain ⟨bs8, hz⟩ : ∃ z, z = b' := ⟨_, rfl⟩
              subst hz
              clear HK
              obtain ⟨a8, c8, e8, r8⟩ := WrG.listAt (q := 8) H8.out rfl
              have HA8 : Hid (Elems ws8 (· < B) sSeen 5 a8 l8) := Lib.hid (list_elems r8).2
              have hwl8 := H8.out.len
              rw [wsum_cons] at hwl8
              have HL8 : Hid (os8.length + (Sch.list sSeen).wmax (.list l8) ≤ 1099511627776) := Lib.hid (by dsimp only at hwl8; omega)
              have hps8 := H8.out.fw.1 w.heap.size (by simp)
              have hll8 : l8.length ≤ 1099511627776 := elems_len HA8.out HL8.out rfl
              clear r8 hwl8
              go_wp2_with fail
              refine (OWg.goCount H8.out).mono ?_
              rintro e w8x ⟨rfl, o8x, b8x, h1, h2, h3⟩
              have p8 := (h2.cell (o := 8) hps8 (.inr (by simp))).trans e8
              have H1x := Lib.hid h1
              have H2x := Lib.hid h2
              have H3x := Lib.hid h3
              clear h1 h2 h3
              go_wp2_with fail
              go_loopg [7] l8.length (fun g t wr => ∃ (i : Nat) (o' : List Nat) (b' : Bool), t = .int .i64 i ∧ l8.length - i = g ∧ i ≤ l8.length ∧ Ow B (w.heap.size :: X) wr f o' b' ∧ Kp B (w.heap.size :: X) ws8 wr ∧ LWk sSeen l8.length (l8.take i) os8 bs8 o' b')
              case atStart => exact ⟨0, o8x, b8x, rfl, rfl, by omega, H1x.out, H2x.out, H3x.out⟩
              case round =>
                obtain ⟨i, o', b', rfl, hg, hi, hF, hK, hW⟩ := hrel
                have HG := Lib.hid hg
                have HF := Lib.hid hF
                have HK := Lib.hid hK
                have HW := Lib.hid hW
                have r0 := (hK.cell (o := 8) hps8 (.inr (by simp))).trans e8
                clear hg hF hK hW p8
                by_cases hlt : i < l8.length
                · have t1 : decide (i < l8.length) = true := by simpa using hlt
                  obtain ⟨x, hx⟩ : ∃ x, l8[i]? = some x := ⟨_, List.getElem?_eq_getElem hlt⟩
                  obtain ⟨b0, o0, us, rfl, hb0, hbl, hrg, hrep⟩ := HA8.out i x hx
                  have hrep := hrep.keep (ok' := (· < B)) (fun k hk hl => ⟨hk, HK.out.block k hl (.inl hk)⟩) HK.out.size
                  have hrg : wr.rangeAt b0 (o0 + i * 5) us := rangeAt_keep hrg (HK.out.block b0 hbl (.inl hb0))
                  have hblr : b0 < wr.heap.size := Nat.lt_of_lt_of_le hbl HK.out.size
                  have HWL := Lib.hid (HW.out.room hx HL8.out)
                  have Hx := Lib.hid hx
                  clear hx
                  have hrepc := hrep
                  obtain ⟨_, _, zv0, zy1, -, rfl, ⟨zn0, -, rfl⟩, zk1⟩ := Sch.Rep.tup_cons hrepc
                  obtain ⟨_, _, zv1, zy2, -, rfl, ⟨zn1, -, rfl⟩, zk2⟩ := Sch.Rep.tup_cons zk1
                  obtain ⟨_, _, zv2, zy3, -, rfl, -, zk3⟩ := Sch.Rep.tup_cons zk2
                  obtain ⟨-, rfl⟩ := Sch.Rep.tup_nil zk3
                  clear zk1 zk2 zk3
                  have hlw := HWL.out
                  have G0 : Hid (OWg B (w.heap.size :: X) f b0 (o0 + i * 5) wr wr o' b' o' b' [] [(.num, .num zn0), (.num, .num zn1), (sResult, zv2)]) := Lib.hid (WrG.start HF.out (.inl hb0) hblr hrg hrep (by have := tup_wmax [(.num, .num zn0), (.num, .num zn1), (sResult, zv2)]; rw [← this]; exact hlw))
                  clear hrg hrep hlw
                  have u0 := WrG.numAt (q := o0 + i * 5) G0.out rfl
                  go_wp2_with fail
                  refine (OWg.goNum G0.out).mono ?_
                  rintro e y1 ⟨rfl, o1', b1', h⟩
                  have G1 := Lib.hid h
                  clear h u0
                  have r1 := (G1.out.kp.cell (o := 8) (b := w.heap.size) (by have := HK.out.size; omega) (.inr (by simp))).trans r0
                  have u1 := WrG.numAt (q := o0 + i * 5 + 1) G1.out rfl
                  go_wp2_with fail
                  refine (OWg.goNum G1.out).mono ?_
                  rintro e y2 ⟨rfl, o2', b2', h⟩
                  have G2 := Lib.hid h
                  clear h u1
                  clear r1
                  have r2 := (G2.out.kp.cell (o := 8) (b := w.heap.size) (by have := HK.out.size; omega) (.inr (by simp))).trans r0
                  obtain ⟨c2z, r2z, g2z⟩ := WrG.range (q := o0 + i * 5 + 2) G2.out rfl
                  have hl2z : c2z.length = 3 := r2z.len
                  have RG := Lib.hid g2z
                  have RR := Lib.hid r2z
                  clear g2z r2z
                  go_wp2_with (refine wpList_load_mid rfl 53 _ rfl b0 (o0 + i * 5 + 2) rfl c2z _ RG.out Tryz.underlying53 rfl (by rw [hl2z]; exact Tryz.size53) ?_)
                  refine (OWg.go oresult_writes G2.out RR.out).mono ?_
                  rintro e y3 ⟨rfl, o3', b3', h⟩
                  have G3 := Lib.hid h
                  clear h
                  clear r2
                  have H1 := Lib.hid G3.out.fw
                  have H2 := Lib.hid G3.out.kp
                  have H3 := Lib.hid (HW.out.snoc (s := sSeen) (WSeq.tup G3.out.seq))
                  go_wp2_with fail
                  go_roundg (l8.length - (i + 1))
                  case measure => have := HG.out; omega
                  case rel => exact ⟨i + 1, o3', b3', by go_num, rfl, by omega, H1.out, HK.out.trans H2.out, by rw [take_snoc Hx.out]; exact H3.out⟩
                · obtain rfl : i = l8.length := by omega
                  have t1 : decide (l8.length < l8.length) = false := by simp
                  have hfin := HW.out
                  rw [List.take_length] at hfin
                  have H9 := Lib.hid (WrG.next (m := [(.list sSeen, .list l8)]) H8.out HF.out HK.out (WSeq.one (LWk.fin hfin)))
                  clear hfin e8
                  clear HF HW HG hlt hi
                  obtain ⟨ws9, hz⟩ : ∃ z, z = wr := ⟨_, rfl⟩
                  subst hz
                  obtain ⟨os9, hz⟩ : ∃ z, z = o' := ⟨_, rfl⟩
                  subst hz
                  obtain ⟨bs9, hz⟩ : ∃ z, z = b' := ⟨_, rfl⟩
                  subst hz
                  clear HK
                  go_wp2_with fail
                  go_end0
                  exact OWg.fin H9.out ((Upd.refl _ _).alloc _) rfl rfl
end Go.Proofs.YthclnpigplcckaaGreat
/- The reference's PutStore. -/
namespace Go.Proofs.YthclnpigplcckaaGreat
open Go.RowKit Go.Lb Go.Rc

set_option maxRecDepth 20000 in
set_option maxHeartbeats 2000000 in
theorem rputStore_puts : Puts 47 sStore := by
  intro cs v w hr hl
  have hlen : cs.length = 9 := hr.len
  have uW : Upd [] w ((w.alloc (.cells cs.toArray 70)).alloc (.cells #[.slice none 0 0, .bool false] 131)) := ((Upd.refl _ _).alloc _).alloc _
  have HR := Lib.hid hr
  have HL := Lib.hid hl
  have HB := Lib.hid ((Blk.new w 70 cs).alloc (.cells #[.slice none 0 0, .bool false] 131))
  have hb0 := Tryz.prog.built 131 []
  have HBU : Hid (Tryz.prog.built 131 [] = some #[.slice none 0 0, .bool false]) := Lib.hid (by kernel_rfl)
  clear hr hl hb0
  go_enter Tryz.func47, Tryz.ntmps47
  go_wp2_with (first | (refine wpList_buildTo (o := ⟨some 5, .build 131 #[], _, _, _, _⟩) rfl 131 #[] rfl (some 5) rfl #[.slice none 0 0, .bool false] (by simpa using HBU.out) ?_) | (refine wpList_load_blk rfl 70 (.tmp 1) rfl w.heap.size rfl HB.out Tryz.underlying70 rfl (by rw [hlen]; exact Tryz.size70) ?_))
  refine (ostore_writes w.heap.size [w.heap.size] (w.heap.size + 1) cs v [] false _ (fresh_out (mk := oW) rfl) (HR.out.upd uW (by simp)) (by simpa using HL.out)).mono ?_
  rintro e w1 ⟨rfl, o, b, h1, h2, h3⟩
  cases b with
  | true =>
    have HF := Lib.hid (putIs_bad h2 uW h3)
    have H1 := Lib.hid h1
    clear h1 h2 h3 uW
    go_wp2_with fail
    refine (told_bad H1.out).mono ?_
    rintro e w2 ⟨rfl, rfl⟩
    go_wp2_with fail
    go_ret2
    exact HF.out
  | false =>
    obtain ⟨a, c, e0, hF⟩ := putIs_good h1 h2 uW h3
    have e1 : w1.cell? ⟨w.heap.size + 1, 0, none⟩ = some (.slice a (sStore.put v).length c) := e0
    have HF := Lib.hid hF
    have H1 := Lib.hid h1
    have E1 := Lib.hid e1
    clear h1 h2 h3 uW e0 hF e1
    go_wp2_with fail
    refine (told_good H1.out E1.out).mono ?_
    rintro e w2 ⟨rfl, rfl⟩
    go_wp2_with fail
    go_ret2
    exact HF.out
end Go.Proofs.YthclnpigplcckaaGreat
/- The reference's GetStore. -/
namespace Go.Proofs.YthclnpigplcckaaGreat
open Go.RowKit Go.Lb Go.Rc

set_option maxRecDepth 20000 in
set_option maxHeartbeats 4000000 in
theorem rgetStore_gets : Gets 19 sStore := by
  intro a c l w hb hc
  have HB := Lib.hid hb
  have HC := Lib.hid hc
  have HL256 : Hid (∀ x ∈ l, x < 256) := Lib.hid (fun x hx => by
    obtain ⟨i, hi⟩ := List.mem_iff_getElem?.1 hx
    exact (hb i x hi).1)
  have HBU : Hid (Tryz.prog.built 81 [(0, .slice a l.length c)] = some #[.slice a l.length c, .bool false]) := Lib.hid (by
    have e := built_seq (P := Tryz.prog) (t := 81) [1, 1] [.slice none 0 0, .bool false] (by kernel_rfl) (by kernel_rfl) (by rfl) [.slice a l.length c] [[.slice a l.length c]] rfl (by simp)
    simpa using e)
  have HBZ : Hid (Tryz.prog.built 70 [] = some sStore.zc.toArray) := Lib.hid (by kernel_rfl)
  clear hb hc
  go_enter Tryz.func19, Tryz.ntmps19
  go_wp2_with (first | (refine wpList_alloc_blk rfl 70 rfl sStore.zc (zero70 _) ?_; intro w0 hA uA; have HA := Lib.hid hA; have UA := Lib.hid uA; clear hA uA) | (refine wpList_buildTo rfl 81 #[(0, .tmp 8)] rfl (some 9) rfl #[.slice a l.length c, .bool false] (by have h := HBU.out; simp [Act.eval]; with_reducible exact h) ?_))
  have s0 := HA.out.lt
  obtain ⟨wI, hwI⟩ : ∃ z, z = w0.alloc (.cells #[.slice a l.length c, .bool false] 81) := ⟨_, rfl⟩
  have hbI : Blk wI w0.heap.size 81 [.slice a l.length c, .bool false] := by rw [hwI]; exact Blk.new _ _ _
  have uI : Upd [] w0 wI := by rw [hwI]; exact (Upd.refl _ _).alloc _
  have hIr : Ir w0.heap.size wI w0.heap.size l false := ⟨a, c, hbI, ((HB.out.upd UA.out (by simp)).keep (ok' := (· < w0.heap.size)) (fun k hk hl => ⟨hl, rfl⟩) (Nat.le_refl _)).upd uI (by simp), HC.out, Nat.le_refl _⟩
  have HIr := Lib.hid hIr
  have UI := Lib.hid uI
  have sI := hbI.lt
  rw [← hwI]
  clear hwI hbI uI hIr
  refine (istore_reads _ _ l false wI HIr.out).mono ?_
  rintro e w1 ⟨v, cs, l', b', rfl, h1, h2, h3, h4, h5⟩
  rw [show argOf sStore cs = .agg cs.toArray from rfl]
  have hcl : cs.length = 9 := h3.len
  have HONE := Lib.hid h3.one
  have H1 := Lib.hid h1
  have U1 : Hid (Upd [] w0 w1) := Lib.hid (UI.out.trans h2 (by simp))
  have H3 : Hid (Sch.Rep w1 (fun k => w0.heap.size < k ∧ Soft w1 k) sStore cs v) := Lib.hid (h3.mono (fun k hk _ => ⟨by have := hk.1; omega, hk.2⟩))
  have H4 := Lib.hid h4
  have H5 := Lib.hid h5
  have HA1 := Lib.hid (U1.out.blk HA.out (by simp))
  have hf1 := (ir_mark h1).2.2.1
  clear h1 h2 h3 h4 h5
  obtain ⟨g, hg⟩ := good_dec sStore v
  obtain ⟨p, hp⟩ : ∃ p, p = bytesOf g sStore v := ⟨_, rfl⟩
  have HG := Lib.hid hg
  have HP := Lib.hid hp
  clear hg hp
  go_wp2_with (first | (refine wpList_alloc_blk rfl 70 rfl sStore.zc (zero70 _) ?_; intro wP hP uP; have HPb := Lib.hid hP; have UP := Lib.hid uP; clear hP uP) | (refine wpList_store_blk rfl 70 (.tmp 5) (.tmp 12) rfl w1.heap.size cs rfl rfl HPb.out (by rw [hcl]; exact Tryz.size70) (by rw [hcl]; rfl) HONE.out ?_; intro w2 hd ud; have HD := Lib.hid hd; have U2 : Hid (Upd [] w1 w2) := Lib.hid (UP.out.trans ud (by simp)); clear hd ud) | (refine wpList_load_blk rfl 70 (.tmp 5) rfl w1.heap.size rfl HD.out Tryz.underlying70 rfl (by rw [hcl]; exact Tryz.size70) ?_))
  refine (puts_u rputStore_puts (rep_all H3.out U2.out) (Nat.le_trans H5.out (of_decide_eq_true (by kernel_rfl))) HG.out HP.out).mono ?_
  rintro e w3 ⟨a3, c3, rfl, u, b, hc⟩
  have U3 := Lib.hid (U2.out.trans u (by simp))
  have B3 := Lib.hid b
  have HD3 := Lib.hid (u.blk HD.out (by simp))
  clear u b hc
  go_wp2_with fail
  refine (idone_post _ _ l' b' w3 ((H1.out).upd U3.out (by simp))).mono ?_
  rintro e w4 ⟨rfl, u⟩
  have U4 := Lib.hid (U3.out.trans u (by simp))
  have B4 := Lib.hid (bytes_all B3.out u)
  have HD4 := Lib.hid (u.blk HD3.out (by simp))
  have HA4 := Lib.hid (U4.out.blk HA1.out (by simp))
  have U04 : Hid (Upd [] w0 w4) := Lib.hid (U1.out.trans U4.out (by simp))
  clear u
  obtain ⟨r, hr⟩ : ∃ r, (!b' && decide (l' = [])) = r := ⟨_, rfl⟩
  rw [hr]
  cases r with
  | true =>
    have hr2 : b' = false ∧ l' = [] := by simpa using hr
    obtain ⟨rfl, rfl⟩ := hr2
    have hget := (H4.out.good rfl).2
    obtain ⟨e1, e2⟩ := Sch.get_one sStore l v [] hget HL256.out
    obtain rfl : g = true := HG.out.2 e2
    have HPL : Hid (p.length ≤ 1099511627776) := Lib.hid (by rw [HP.out]; exact bytesOf_len HG.out (Nat.le_trans H5.out (of_decide_eq_true (by kernel_rfl))))
    obtain rfl : p = l := by rw [HP.out, e1]; simp [bytesOf]
    have HGET := Lib.hid hget
    have et : errOf true = 0 := rfl
    rw [et]
    clear hr hget e1 e2 et
    go_wp2_with fail
    refine (same_any _ _ a3 a c3 c p p _ B4.out ((HB.out.upd UA.out (by simp)).upd U04.out (by simp)) HPL.out).mono ?_
    rintro e w5 ⟨rfl, u⟩
    have U5 := Lib.hid (U4.out.trans u (by simp))
    have HD5 := Lib.hid (u.blk HD4.out (by simp))
    have HA5 := Lib.hid (u.blk HA4.out (by simp))
    rw [show (p == p) = true by simp]
    clear u
    go_wp2_with (first | (refine wpList_load_blk rfl 70 (.tmp 5) rfl w1.heap.size rfl HD5.out Tryz.underlying70 rfl (by rw [hcl]; exact Tryz.size70) ?_) | (refine wpList_store_blk rfl 70 (.tmp 2) (.tmp 32) rfl w.heap.size cs rfl rfl HA5.out (by rw [hcl]; exact Tryz.size70) (by rw [hcl]; rfl) HONE.out ?_; intro wz hz uz))
    have hld := run_loadVar_blk (P := Tryz.prog) hz 70 _ Tryz.underlying70 rfl (by rw [hcl]; exact Tryz.size70)
    have UF : Upd [] w wz := ((UA.out.trans U1.out (by simp)).trans U5.out (by simp)).trans uz (by simp)
    refine bodyPost_ret (v := .tuple #[.agg cs.toArray, .bool true]) ?_ rfl ⟨UF, cs, v, true, rfl, (H3.out.keep (ok' := Nw w.heap.size wz) (fun k hk hl => have hk1 := hk.1; have e := (uz.block k (Nat.lt_of_lt_of_le hl U5.out.size) (by simp; omega)).trans (U5.out.block k hl (by simp)); ⟨⟨by omega, hk.2.keep e⟩, e⟩) (Nat.le_trans U5.out.size uz.size)), fun _ => HGET.out, fun h => by cases h⟩
    rw [results_cell_tmp Tryz.results19]; simp [asAddr, Act.put, hld]
  | false =>
    have hno : ∀ v', sStore.get l ≠ some (v', []) := by
      intro v' hv
      cases b' with
      | true =>
        rcases H4.out.bad rfl with h | h
        · cases h
        · rw [hv] at h; cases h
      | false =>
        have := (H4.out.good rfl).2
        rw [hv] at this
        simp only [Option.some.injEq, Prod.mk.injEq] at this
        rw [← this.2] at hr
        simp at hr
    have HNO := Lib.hid hno
    clear hr hno
    go_wp2_with (first | (refine wpList_store_blk rfl 70 (.tmp 2) (.tmp 31) rfl w.heap.size sStore.zc rfl rfl HA4.out (by exact Tryz.size70) rfl (Sch.zc_one _) ?_; intro wz hz uz) | (refine wpList_buildTo rfl 70 #[] rfl (some 31) rfl sStore.zc.toArray (by have h := HBZ.out; simp; with_reducible exact h) ?_))
    have hld := run_loadVar_blk (P := Tryz.prog) hz 70 _ Tryz.underlying70 rfl (by exact Tryz.size70)
    have UF : Upd [] w wz := ((UA.out.trans U1.out (by simp)).trans U4.out (by simp)).trans uz (by simp)
    refine bodyPost_ret (v := .tuple #[.agg sStore.zc.toArray, .bool false]) ?_ rfl ⟨UF, sStore.zc, sStore.zero, false, rfl, Sch.Rep.zero _ _ _, fun h => (by cases h), fun _ => ⟨HNO.out, rfl⟩⟩
    rw [results_cell_tmp Tryz.results19]; simp [asAddr, Act.put, hld]
end Go.Proofs.YthclnpigplcckaaGreat
/- codec's list[Job], writing. -/
namespace Go.Proofs.YthclnpigplcckaaGreat
open Go.RowKit Go.Lb Go.Rc

set_option maxRecDepth 20000 in
set_option maxHeartbeats 2000000 in
theorem listJob_writes : LWrites 77 50 sJob := by
  intro B X f p q tp pre cs post v o b w h hX hq hp hr hl
  obtain ⟨a, c, l, rfl, rfl, hall⟩ := hr
  have HA : Hid (Elems w (· < B) sJob 7 a l) := Lib.hid hall
  subst hq
  have H := Lib.hid h
  have HL := Lib.hid hl
  have HX := Lib.hid hX
  have HP := Lib.hid hp
  have hl1 : o.length + 6 ≤ 1099511627776 := by simp only [Sch.wmax] at hl; omega
  have c0 := hp.cell (o := pre.length) mid_at
  have hB := h.base
  clear h hX hall hl hp
  go_enter Tryz.func77, Tryz.ntmps77
  go_wp2_with fail
  refine (many_w B X f l.length 64 o b _ H.out hl1 (by decide)).mono ?_
  rintro e w1 ⟨r, o1, b1, rfl, h1, h2, h3⟩
  obtain ⟨m2, m3, m4, m5⟩ := fw_mark h1
  have p0 := (h2.blk HP.out (.inr HX.out)).cell (o := pre.length) mid_at
  have H1 := Lib.hid h1
  have H2 := Lib.hid h2
  have H3 : Hid (LWk sJob l.length [] o b o1 b1) := Lib.hid (LWk.start h3)
  clear h1 h2 h3
  go_wp2_with fail
  go_loopg [7, 8, 25] l.length (fun g u v t wr => ∃ (i : Nat) (o' : List Nat) (b' : Bool), t = .int .i64 i ∧ l.length - i = g ∧ i ≤ l.length ∧ Fw B X wr f o' b' ∧ Kp B X w wr ∧ LWk sJob l.length (l.take i) o b o' b')
  case atStart => exact ⟨0, o1, b1, rfl, rfl, by omega, H1.out, H2.out, H3.out⟩
  case round =>
    obtain ⟨i, o', b', rfl, hg, hi, hF, hK, hW⟩ := hrel
    have HG := Lib.hid hg
    have HF := Lib.hid hF
    have HK := Lib.hid hK
    have HW := Lib.hid hW
    obtain ⟨n2, n3, n4, n5⟩ := fw_mark hF
    have r0 := (hK.blk HP.out (.inr HX.out)).cell (o := pre.length) mid_at
    clear hg hF hK hW m2 m3 m4 m5 p0
    by_cases hlt : i < l.length
    · have t1 : decide (i < l.length) = true := by simpa using hlt
      cases b' with
      | true =>
        have HE := Lib.hid HW.out.early
        go_wp2_with fail
        go_end0
        exact ⟨rfl, o', true, HF.out, HK.out, HE.out⟩
      | false =>
      obtain ⟨x, hx⟩ : ∃ x, l[i]? = some x := ⟨_, List.getElem?_eq_getElem hlt⟩
      obtain ⟨b0, o0, us, rfl, hb0, hbl, hrg, hrep⟩ := HA.out i x hx
      have hrep := hrep.keep (ok' := (· < B)) (fun k hk hl => ⟨hk, HK.out.block k hl (.inl hk)⟩) HK.out.size
      have hrg : wr.rangeAt b0 (o0 + i * 7) us := rangeAt_keep hrg (HK.out.block b0 hbl (.inl hb0))
      have hwl := HW.out.room hx HL.out
      have HWL := Lib.hid hwl
      have h64 : l.length ≤ 64 := (HW.out.bad.1 rfl).2.1
      have Hx := Lib.hid hx
      have hus : us.length = 7 := hrep.len
      have HONE : Hid (∀ u ∈ us, u.oneCell' = true) := Lib.hid hrep.one
      clear hx hwl
      have HREP := Lib.hid hrep
      have HRG := Lib.hid hrg
      clear hrep hrg
      go_wp2_with (first | (refine wpList_load_mid rfl 25 (.tmp 36) rfl b0 (o0 + i * 7) rfl us _ HRG.out Tryz.underlying25 rfl (by rw [hus]; exact Tryz.size25) ?_) | (refine wpList_alloc_blk rfl 25 rfl sJob.zc (zero25 _) ?_; intro wA hbA huA) | (refine wpList_store_blk (o := ⟨none, .store 25 (.tmp 8) (.tmp 37), _, _, _, _⟩) rfl 25 (.tmp 8) (.tmp 37) rfl wr.heap.size us rfl rfl hbA (by rw [hus]; exact Tryz.size25) (by rw [hus]; rfl) HONE.out ?_; intro wB hb huB))
      have hu : Upd [] wr wB := huA.trans huB (by simp)
      clear huA hbA huB
      refine (job_writes B (wr.heap.size :: X) f wr.heap.size 0 25 [] us [] x o' false wB (HF.out.new hu (Nat.le_refl _) hb.lt) (by simp) rfl (by simpa using hb) (HREP.out.upd hu (by simp)) HWL.out).mono ?_
      rintro e w2 ⟨rfl, o2, b2, h1, h2, h3⟩
      have H1 := Lib.hid h1.less
      have H2 := Lib.hid ((Kp.of_nil hu).trans h2.drop)
      have H3 := Lib.hid (HW.out.snoc h3)
      clear h1 h2 h3
      go_wp2_with fail
      go_roundg (l.length - (i + 1))
      case measure => have := HG.out; omega
      case rel => exact ⟨i + 1, o2, b2, by go_num, rfl, by omega, H1.out, HK.out.trans H2.out, by rw [take_snoc Hx.out]; exact H3.out⟩
    · obtain rfl : i = l.length := by omega
      go_wp2_with fail
      go_end0
      refine ⟨rfl, o', b', HF.out, HK.out, LWk.fin ?_⟩
      have := HW.out
      rwa [List.take_length] at this
end Go.Proofs.YthclnpigplcckaaGreat
/- codec's list[Node], writing. -/
namespace Go.Proofs.YthclnpigplcckaaGreat
open Go.RowKit Go.Lb Go.Rc

set_option maxRecDepth 20000 in
set_option maxHeartbeats 2000000 in
theorem listNode_writes : LWrites 78 51 sNode := by
  intro B X f p q tp pre cs post v o b w h hX hq hp hr hl
  obtain ⟨a, c, l, rfl, rfl, hall⟩ := hr
  have HA : Hid (Elems w (· < B) sNode 8 a l) := Lib.hid hall
  subst hq
  have H := Lib.hid h
  have HL := Lib.hid hl
  have HX := Lib.hid hX
  have HP := Lib.hid hp
  have hl1 : o.length + 6 ≤ 1099511627776 := by simp only [Sch.wmax] at hl; omega
  have c0 := hp.cell (o := pre.length) mid_at
  have hB := h.base
  clear h hX hall hl hp
  go_enter Tryz.func78, Tryz.ntmps78
  go_wp2_with fail
  refine (many_w B X f l.length 64 o b _ H.out hl1 (by decide)).mono ?_
  rintro e w1 ⟨r, o1, b1, rfl, h1, h2, h3⟩
  obtain ⟨m2, m3, m4, m5⟩ := fw_mark h1
  have p0 := (h2.blk HP.out (.inr HX.out)).cell (o := pre.length) mid_at
  have H1 := Lib.hid h1
  have H2 := Lib.hid h2
  have H3 : Hid (LWk sNode l.length [] o b o1 b1) := Lib.hid (LWk.start h3)
  clear h1 h2 h3
  go_wp2_with fail
  go_loopg [7, 8, 25] l.length (fun g u v t wr => ∃ (i : Nat) (o' : List Nat) (b' : Bool), t = .int .i64 i ∧ l.length - i = g ∧ i ≤ l.length ∧ Fw B X wr f o' b' ∧ Kp B X w wr ∧ LWk sNode l.length (l.take i) o b o' b')
  case atStart => exact ⟨0, o1, b1, rfl, rfl, by omega, H1.out, H2.out, H3.out⟩
  case round =>
    obtain ⟨i, o', b', rfl, hg, hi, hF, hK, hW⟩ := hrel
    have HG := Lib.hid hg
    have HF := Lib.hid hF
    have HK := Lib.hid hK
    have HW := Lib.hid hW
    obtain ⟨n2, n3, n4, n5⟩ := fw_mark hF
    have r0 := (hK.blk HP.out (.inr HX.out)).cell (o := pre.length) mid_at
    clear hg hF hK hW m2 m3 m4 m5 p0
    by_cases hlt : i < l.length
    · have t1 : decide (i < l.length) = true := by simpa using hlt
      cases b' with
      | true =>
        have HE := Lib.hid HW.out.early
        go_wp2_with fail
        go_end0
        exact ⟨rfl, o', true, HF.out, HK.out, HE.out⟩
      | false =>
      obtain ⟨x, hx⟩ : ∃ x, l[i]? = some x := ⟨_, List.getElem?_eq_getElem hlt⟩
      obtain ⟨b0, o0, us, rfl, hb0, hbl, hrg, hrep⟩ := HA.out i x hx
      have hrep := hrep.keep (ok' := (· < B)) (fun k hk hl => ⟨hk, HK.out.block k hl (.inl hk)⟩) HK.out.size
      have hrg : wr.rangeAt b0 (o0 + i * 8) us := rangeAt_keep hrg (HK.out.block b0 hbl (.inl hb0))
      have hwl := HW.out.room hx HL.out
      have HWL := Lib.hid hwl
      have h64 : l.length ≤ 64 := (HW.out.bad.1 rfl).2.1
      have Hx := Lib.hid hx
      have hus : us.length = 8 := hrep.len
      have HONE : Hid (∀ u ∈ us, u.oneCell' = true) := Lib.hid hrep.one
      clear hx hwl
      have HREP := Lib.hid hrep
      have HRG := Lib.hid hrg
      clear hrep hrg
      go_wp2_with (first | (refine wpList_load_mid rfl 29 (.tmp 36) rfl b0 (o0 + i * 8) rfl us _ HRG.out Tryz.underlying29 rfl (by rw [hus]; exact Tryz.size29) ?_) | (refine wpList_alloc_blk rfl 29 rfl sNode.zc (zero29 _) ?_; intro wA hbA huA) | (refine wpList_store_blk (o := ⟨none, .store 29 (.tmp 8) (.tmp 37), _, _, _, _⟩) rfl 29 (.tmp 8) (.tmp 37) rfl wr.heap.size us rfl rfl hbA (by rw [hus]; exact Tryz.size29) (by rw [hus]; rfl) HONE.out ?_; intro wB hb huB))
      have hu : Upd [] wr wB := huA.trans huB (by simp)
      clear huA hbA huB
      refine (node_writes B (wr.heap.size :: X) f wr.heap.size 0 29 [] us [] x o' false wB (HF.out.new hu (Nat.le_refl _) hb.lt) (by simp) rfl (by simpa using hb) (HREP.out.upd hu (by simp)) HWL.out).mono ?_
      rintro e w2 ⟨rfl, o2, b2, h1, h2, h3⟩
      have H1 := Lib.hid h1.less
      have H2 := Lib.hid ((Kp.of_nil hu).trans h2.drop)
      have H3 := Lib.hid (HW.out.snoc h3)
      clear h1 h2 h3
      go_wp2_with fail
      go_roundg (l.length - (i + 1))
      case measure => have := HG.out; omega
      case rel => exact ⟨i + 1, o2, b2, by go_num, rfl, by omega, H1.out, HK.out.trans H2.out, by rw [take_snoc Hx.out]; exact H3.out⟩
    · obtain rfl : i = l.length := by omega
      go_wp2_with fail
      go_end0
      refine ⟨rfl, o', b', HF.out, HK.out, LWk.fin ?_⟩
      have := HW.out
      rwa [List.take_length] at this
end Go.Proofs.YthclnpigplcckaaGreat
/- codec's form.eval, writing. -/
namespace Go.Proofs.YthclnpigplcckaaGreat
open Go.RowKit Go.Lb Go.Rc

set_option maxRecDepth 20000 in
set_option maxHeartbeats 2000000 in
theorem eval_writes : Writes 82 sEval := by
  intro B X f p q tp pre cs post v o b w h hX hq hp hr hl
  have k0 : (tup [.num, .num, .num, .num]).Rep w (· < B) cs v := hr
  obtain ⟨_, _, v0, y0, _, rfl, ⟨n0, _, rfl⟩, k1⟩ := Sch.Rep.tup_cons k0
  obtain ⟨_, _, v1, y1, _, rfl, ⟨n1, _, rfl⟩, k2⟩ := Sch.Rep.tup_cons k1
  obtain ⟨_, _, v2, y2, _, rfl, ⟨n2, _, rfl⟩, k3⟩ := Sch.Rep.tup_cons k2
  obtain ⟨_, _, v3, y3, _, rfl, ⟨n3, _, rfl⟩, k4⟩ := Sch.Rep.tup_cons k3
  obtain ⟨_, rfl⟩ := Sch.Rep.tup_nil k4
  subst hq
  have H0 := Lib.hid (WrSt.start (rest := ([(.num, .num n0), (.num, .num n1), (.num, .num n2), (.num, .num n3)] : List (Sch × Val))) h hX hp hr (by have := tup_wmax ([(.num, .num n0), (.num, .num n1), (.num, .num n2), (.num, .num n3)] : List (Sch × Val)); rw [← this]; exact hl))
  clear h hX hp hr hl k0 k1 k2 k3 k4
  go_enter Tryz.func82, Tryz.ntmps82
  refine wp_region_lex (fun _ => True) 99 [(0, true), (1, true), (2, true), (3, true), (4, true), (5, true), (6, true), (7, true), (8, true), (9, true), (10, true), (11, true), (12, true), (13, false), (14, false)] (by kernel_rfl) (by kernel_rfl) (by kernel_rfl) (by kernel_rfl) (fun _ _ d _ _ h => by cases d <;> exact h) ?_
  simp only [lexOps, List.map_cons, List.map_nil, List.getD_cons_zero, List.getD_cons_succ]
  iterate 13 (refine lex_read rfl trivial (v := ?_) (fun w' _ => ?_) ?_; rotate_left; (focus (go_simp; try with_reducible rfl)); simp only [Act.put, List.setIfInBounds_toArray, List.set_cons_zero, List.set_cons_succ])
  refine lex_do rfl (fun K hK => ?_)
  go_simp
  refine hK _ _ (fun _ => trivial) ?_
  clear hK K
  refine lex_do rfl (fun K hK => ?_)
  go_simp
  refine (CWr.goNums (ns := [n0, n1, n2, n3]) (rest := []) (k := 4) H0.out rfl ((Upd.refl _ _).alloc _).drew (Nat.le_refl _) (Blk.drew (Blk.new _ _ [_, _, _, _])) rfl).mono ?_
  rintro e w1 ⟨rfl, o1, b1, h⟩
  have H1 := Lib.hid h
  refine hK _ _ (fun _ => trivial) ?_
  clear hK K h
  refine lex_nil ?_
  go_wp2_with fail
  go_end0
  exact CWr.fin H1.out rfl rfl
end Go.Proofs.YthclnpigplcckaaGreat
/- codec's list[Eval], writing. -/
namespace Go.Proofs.YthclnpigplcckaaGreat
open Go.RowKit Go.Lb Go.Rc

set_option maxRecDepth 20000 in
set_option maxHeartbeats 2000000 in
theorem listEval_writes : LWrites 81 82 sEval := by
  intro B X f p q tp pre cs post v o b w h hX hq hp hr hl
  obtain ⟨a, c, l, rfl, rfl, hall⟩ := hr
  have HA : Hid (Elems w (· < B) sEval 4 a l) := Lib.hid hall
  subst hq
  have H := Lib.hid h
  have HL := Lib.hid hl
  have HX := Lib.hid hX
  have HP := Lib.hid hp
  have hl1 : o.length + 6 ≤ 1099511627776 := by simp only [Sch.wmax] at hl; omega
  have c0 := hp.cell (o := pre.length) mid_at
  have hB := h.base
  clear h hX hall hl hp
  go_enter Tryz.func81, Tryz.ntmps81
  go_wp2_with fail
  refine (many_w B X f l.length 64 o b _ H.out hl1 (by decide)).mono ?_
  rintro e w1 ⟨r, o1, b1, rfl, h1, h2, h3⟩
  obtain ⟨m2, m3, m4, m5⟩ := fw_mark h1
  have p0 := (h2.blk HP.out (.inr HX.out)).cell (o := pre.length) mid_at
  have H1 := Lib.hid h1
  have H2 := Lib.hid h2
  have H3 : Hid (LWk sEval l.length [] o b o1 b1) := Lib.hid (LWk.start h3)
  clear h1 h2 h3
  go_wp2_with fail
  go_loopg [7, 8, 25] l.length (fun g u v t wr => ∃ (i : Nat) (o' : List Nat) (b' : Bool), t = .int .i64 i ∧ l.length - i = g ∧ i ≤ l.length ∧ Fw B X wr f o' b' ∧ Kp B X w wr ∧ LWk sEval l.length (l.take i) o b o' b')
  case atStart => exact ⟨0, o1, b1, rfl, rfl, by omega, H1.out, H2.out, H3.out⟩
  case round =>
    obtain ⟨i, o', b', rfl, hg, hi, hF, hK, hW⟩ := hrel
    have HG := Lib.hid hg
    have HF := Lib.hid hF
    have HK := Lib.hid hK
    have HW := Lib.hid hW
    obtain ⟨n2, n3, n4, n5⟩ := fw_mark hF
    have r0 := (hK.blk HP.out (.inr HX.out)).cell (o := pre.length) mid_at
    clear hg hF hK hW m2 m3 m4 m5 p0
    by_cases hlt : i < l.length
    · have t1 : decide (i < l.length) = true := by simpa using hlt
      cases b' with
      | true =>
        have HE := Lib.hid HW.out.early
        go_wp2_with fail
        go_end0
        exact ⟨rfl, o', true, HF.out, HK.out, HE.out⟩
      | false =>
      obtain ⟨x, hx⟩ : ∃ x, l[i]? = some x := ⟨_, List.getElem?_eq_getElem hlt⟩
      obtain ⟨b0, o0, us, rfl, hb0, hbl, hrg, hrep⟩ := HA.out i x hx
      have hrep := hrep.keep (ok' := (· < B)) (fun k hk hl => ⟨hk, HK.out.block k hl (.inl hk)⟩) HK.out.size
      have hrg : wr.rangeAt b0 (o0 + i * 4) us := rangeAt_keep hrg (HK.out.block b0 hbl (.inl hb0))
      have hwl := HW.out.room hx HL.out
      have HWL := Lib.hid hwl
      have h64 : l.length ≤ 64 := (HW.out.bad.1 rfl).2.1
      have Hx := Lib.hid hx
      have hus : us.length = 4 := hrep.len
      have HONE : Hid (∀ u ∈ us, u.oneCell' = true) := Lib.hid hrep.one
      clear hx hwl
      have HREP := Lib.hid hrep
      have HRG := Lib.hid hrg
      clear hrep hrg
      go_wp2_with (first | (refine wpList_load_mid rfl 167 (.tmp 36) rfl b0 (o0 + i * 4) rfl us _ HRG.out Tryz.underlying167 rfl (by rw [hus]; exact Tryz.size167) ?_) | (refine wpList_alloc_blk rfl 167 rfl sEval.zc (zero167 _) ?_; intro wA hbA huA) | (refine wpList_store_blk (o := ⟨none, .store 167 (.tmp 8) (.tmp 37), _, _, _, _⟩) rfl 167 (.tmp 8) (.tmp 37) rfl wr.heap.size us rfl rfl hbA (by rw [hus]; exact Tryz.size167) (by rw [hus]; rfl) HONE.out ?_; intro wB hb huB))
      have hu : Upd [] wr wB := huA.trans huB (by simp)
      clear huA hbA huB
      refine (eval_writes B (wr.heap.size :: X) f wr.heap.size 0 167 [] us [] x o' false wB (HF.out.new hu (Nat.le_refl _) hb.lt) (by simp) rfl (by simpa using hb) (HREP.out.upd hu (by simp)) HWL.out).mono ?_
      rintro e w2 ⟨rfl, o2, b2, h1, h2, h3⟩
      have H1 := Lib.hid h1.less
      have H2 := Lib.hid ((Kp.of_nil hu).trans h2.drop)
      have H3 := Lib.hid (HW.out.snoc h3)
      clear h1 h2 h3
      go_wp2_with fail
      go_roundg (l.length - (i + 1))
      case measure => have := HG.out; omega
      case rel => exact ⟨i + 1, o2, b2, by go_num, rfl, by omega, H1.out, HK.out.trans H2.out, by rw [take_snoc Hx.out]; exact H3.out⟩
    · obtain rfl : i = l.length := by omega
      go_wp2_with fail
      go_end0
      refine ⟨rfl, o', b', HF.out, HK.out, LWk.fin ?_⟩
      have := HW.out
      rwa [List.take_length] at this
end Go.Proofs.YthclnpigplcckaaGreat
/- codec's form.deploy, writing. -/
namespace Go.Proofs.YthclnpigplcckaaGreat
open Go.RowKit Go.Lb Go.Rc

set_option maxRecDepth 20000 in
set_option maxHeartbeats 2000000 in
theorem deploy_writes : Writes 84 sDeploy := by
  intro B X f p q tp pre cs post v o b w h hX hq hp hr hl
  have k0 : (tup [.num, .num, .num, .num]).Rep w (· < B) cs v := hr
  obtain ⟨_, _, v0, y0, _, rfl, ⟨n0, _, rfl⟩, k1⟩ := Sch.Rep.tup_cons k0
  obtain ⟨_, _, v1, y1, _, rfl, ⟨n1, _, rfl⟩, k2⟩ := Sch.Rep.tup_cons k1
  obtain ⟨_, _, v2, y2, _, rfl, ⟨n2, _, rfl⟩, k3⟩ := Sch.Rep.tup_cons k2
  obtain ⟨_, _, v3, y3, _, rfl, ⟨n3, _, rfl⟩, k4⟩ := Sch.Rep.tup_cons k3
  obtain ⟨_, rfl⟩ := Sch.Rep.tup_nil k4
  subst hq
  have H0 := Lib.hid (WrSt.start (rest := ([(.num, .num n0), (.num, .num n1), (.num, .num n2), (.num, .num n3)] : List (Sch × Val))) h hX hp hr (by have := tup_wmax ([(.num, .num n0), (.num, .num n1), (.num, .num n2), (.num, .num n3)] : List (Sch × Val)); rw [← this]; exact hl))
  clear h hX hp hr hl k0 k1 k2 k3 k4
  go_enter Tryz.func84, Tryz.ntmps84
  refine wp_region_lex (fun _ => True) 99 [(0, true), (1, true), (2, true), (3, true), (4, true), (5, true), (6, true), (7, true), (8, true), (9, true), (10, true), (11, true), (12, true), (13, false), (14, false)] (by kernel_rfl) (by kernel_rfl) (by kernel_rfl) (by kernel_rfl) (fun _ _ d _ _ h => by cases d <;> exact h) ?_
  simp only [lexOps, List.map_cons, List.map_nil, List.getD_cons_zero, List.getD_cons_succ]
  iterate 13 (refine lex_read rfl trivial (v := ?_) (fun w' _ => ?_) ?_; rotate_left; (focus (go_simp; try with_reducible rfl)); simp only [Act.put, List.setIfInBounds_toArray, List.set_cons_zero, List.set_cons_succ])
  refine lex_do rfl (fun K hK => ?_)
  go_simp
  refine hK _ _ (fun _ => trivial) ?_
  clear hK K
  refine lex_do rfl (fun K hK => ?_)
  go_simp
  refine (CWr.goNums (ns := [n0, n1, n2, n3]) (rest := []) (k := 4) H0.out rfl ((Upd.refl _ _).alloc _).drew (Nat.le_refl _) (Blk.drew (Blk.new _ _ [_, _, _, _])) rfl).mono ?_
  rintro e w1 ⟨rfl, o1, b1, h⟩
  have H1 := Lib.hid h
  refine hK _ _ (fun _ => trivial) ?_
  clear hK K h
  refine lex_nil ?_
  go_wp2_with fail
  go_end0
  exact CWr.fin H1.out rfl rfl
end Go.Proofs.YthclnpigplcckaaGreat
/- codec's list[Deploy], writing. -/
namespace Go.Proofs.YthclnpigplcckaaGreat
open Go.RowKit Go.Lb Go.Rc

set_option maxRecDepth 20000 in
set_option maxHeartbeats 2000000 in
theorem listDeploy_writes : LWrites 83 84 sDeploy := by
  intro B X f p q tp pre cs post v o b w h hX hq hp hr hl
  obtain ⟨a, c, l, rfl, rfl, hall⟩ := hr
  have HA : Hid (Elems w (· < B) sDeploy 4 a l) := Lib.hid hall
  subst hq
  have H := Lib.hid h
  have HL := Lib.hid hl
  have HX := Lib.hid hX
  have HP := Lib.hid hp
  have hl1 : o.length + 6 ≤ 1099511627776 := by simp only [Sch.wmax] at hl; omega
  have c0 := hp.cell (o := pre.length) mid_at
  have hB := h.base
  clear h hX hall hl hp
  go_enter Tryz.func83, Tryz.ntmps83
  go_wp2_with fail
  refine (many_w B X f l.length 64 o b _ H.out hl1 (by decide)).mono ?_
  rintro e w1 ⟨r, o1, b1, rfl, h1, h2, h3⟩
  obtain ⟨m2, m3, m4, m5⟩ := fw_mark h1
  have p0 := (h2.blk HP.out (.inr HX.out)).cell (o := pre.length) mid_at
  have H1 := Lib.hid h1
  have H2 := Lib.hid h2
  have H3 : Hid (LWk sDeploy l.length [] o b o1 b1) := Lib.hid (LWk.start h3)
  clear h1 h2 h3
  go_wp2_with fail
  go_loopg [7, 8, 25] l.length (fun g u v t wr => ∃ (i : Nat) (o' : List Nat) (b' : Bool), t = .int .i64 i ∧ l.length - i = g ∧ i ≤ l.length ∧ Fw B X wr f o' b' ∧ Kp B X w wr ∧ LWk sDeploy l.length (l.take i) o b o' b')
  case atStart => exact ⟨0, o1, b1, rfl, rfl, by omega, H1.out, H2.out, H3.out⟩
  case round =>
    obtain ⟨i, o', b', rfl, hg, hi, hF, hK, hW⟩ := hrel
    have HG := Lib.hid hg
    have HF := Lib.hid hF
    have HK := Lib.hid hK
    have HW := Lib.hid hW
    obtain ⟨n2, n3, n4, n5⟩ := fw_mark hF
    have r0 := (hK.blk HP.out (.inr HX.out)).cell (o := pre.length) mid_at
    clear hg hF hK hW m2 m3 m4 m5 p0
    by_cases hlt : i < l.length
    · have t1 : decide (i < l.length) = true := by simpa using hlt
      cases b' with
      | true =>
        have HE := Lib.hid HW.out.early
        go_wp2_with fail
        go_end0
        exact ⟨rfl, o', true, HF.out, HK.out, HE.out⟩
      | false =>
      obtain ⟨x, hx⟩ : ∃ x, l[i]? = some x := ⟨_, List.getElem?_eq_getElem hlt⟩
      obtain ⟨b0, o0, us, rfl, hb0, hbl, hrg, hrep⟩ := HA.out i x hx
      have hrep := hrep.keep (ok' := (· < B)) (fun k hk hl => ⟨hk, HK.out.block k hl (.inl hk)⟩) HK.out.size
      have hrg : wr.rangeAt b0 (o0 + i * 4) us := rangeAt_keep hrg (HK.out.block b0 hbl (.inl hb0))
      have hwl := HW.out.room hx HL.out
      have HWL := Lib.hid hwl
      have h64 : l.length ≤ 64 := (HW.out.bad.1 rfl).2.1
      have Hx := Lib.hid hx
      have hus : us.length = 4 := hrep.len
      have HONE : Hid (∀ u ∈ us, u.oneCell' = true) := Lib.hid hrep.one
      clear hx hwl
      have HREP := Lib.hid hrep
      have HRG := Lib.hid hrg
      clear hrep hrg
      go_wp2_with (first | (refine wpList_load_mid rfl 172 (.tmp 36) rfl b0 (o0 + i * 4) rfl us _ HRG.out Tryz.underlying172 rfl (by rw [hus]; exact Tryz.size172) ?_) | (refine wpList_alloc_blk rfl 172 rfl sDeploy.zc (zero172 _) ?_; intro wA hbA huA) | (refine wpList_store_blk (o := ⟨none, .store 172 (.tmp 8) (.tmp 37), _, _, _, _⟩) rfl 172 (.tmp 8) (.tmp 37) rfl wr.heap.size us rfl rfl hbA (by rw [hus]; exact Tryz.size172) (by rw [hus]; rfl) HONE.out ?_; intro wB hb huB))
      have hu : Upd [] wr wB := huA.trans huB (by simp)
      clear huA hbA huB
      refine (deploy_writes B (wr.heap.size :: X) f wr.heap.size 0 172 [] us [] x o' false wB (HF.out.new hu (Nat.le_refl _) hb.lt) (by simp) rfl (by simpa using hb) (HREP.out.upd hu (by simp)) HWL.out).mono ?_
      rintro e w2 ⟨rfl, o2, b2, h1, h2, h3⟩
      have H1 := Lib.hid h1.less
      have H2 := Lib.hid ((Kp.of_nil hu).trans h2.drop)
      have H3 := Lib.hid (HW.out.snoc h3)
      clear h1 h2 h3
      go_wp2_with fail
      go_roundg (l.length - (i + 1))
      case measure => have := HG.out; omega
      case rel => exact ⟨i + 1, o2, b2, by go_num, rfl, by omega, H1.out, HK.out.trans H2.out, by rw [take_snoc Hx.out]; exact H3.out⟩
    · obtain rfl : i = l.length := by omega
      go_wp2_with fail
      go_end0
      refine ⟨rfl, o', b', HF.out, HK.out, LWk.fin ?_⟩
      have := HW.out
      rwa [List.take_length] at this
end Go.Proofs.YthclnpigplcckaaGreat
/- codec's form.seen, writing. -/
namespace Go.Proofs.YthclnpigplcckaaGreat
open Go.RowKit Go.Lb Go.Rc

set_option maxRecDepth 20000 in
set_option maxHeartbeats 2000000 in
theorem seen_writes : Writes 86 sSeen := by
  intro B X f p q tp pre cs post v o b w h hX hq hp hr hl
  have k0 : (tup [.num, .num, sResult]).Rep w (· < B) cs v := hr
  obtain ⟨_, _, v0, y0, _, rfl, ⟨n0, _, rfl⟩, k1⟩ := Sch.Rep.tup_cons k0
  obtain ⟨_, _, v1, y1, _, rfl, ⟨n1, _, rfl⟩, k2⟩ := Sch.Rep.tup_cons k1
  obtain ⟨_, _, v2, y2, _, rfl, _, k3⟩ := Sch.Rep.tup_cons k2
  obtain ⟨_, rfl⟩ := Sch.Rep.tup_nil k3
  subst hq
  have H0 := Lib.hid (WrSt.start (rest := ([(.num, .num n0), (.num, .num n1), (sResult, v2)] : List (Sch × Val))) h hX hp hr (by have := tup_wmax ([(.num, .num n0), (.num, .num n1), (sResult, v2)] : List (Sch × Val)); rw [← this]; exact hl))
  clear h hX hp hr hl k0 k1 k2 k3
  go_enter Tryz.func86, Tryz.ntmps86
  go_wp2_with fail
  refine wp_region_lex (fun _ => True) 99 [(0, true), (1, true), (2, true), (3, true), (4, true), (5, true), (6, true), (7, false), (8, false)] (by kernel_rfl) (by kernel_rfl) (by kernel_rfl) (by kernel_rfl) (fun _ _ d _ _ h => by cases d <;> exact h) ?_
  simp only [lexOps, List.map_cons, List.map_nil, List.getD_cons_zero, List.getD_cons_succ]
  iterate 7 (refine lex_read rfl trivial (v := ?_) (fun w' _ => ?_) ?_; rotate_left; (focus (go_simp; try with_reducible rfl)); simp only [Act.put, List.setIfInBounds_toArray, List.set_cons_zero, List.set_cons_succ])
  refine lex_do rfl (fun K hK => ?_)
  go_simp
  refine hK _ _ (fun _ => trivial) ?_
  clear hK K
  refine lex_do rfl (fun K hK => ?_)
  go_simp
  refine (CWr.goNums (ns := [n0, n1]) (rest := [(sResult, v2)]) (k := 2) H0.out rfl ((Upd.refl _ _).alloc _).drew (Nat.le_refl _) (Blk.drew (Blk.new _ _ [_, _])) rfl).mono ?_
  rintro e w1 ⟨rfl, o1, b1, h⟩
  have H1 := Lib.hid h
  refine hK _ _ (fun _ => trivial) ?_
  clear hK K h
  refine lex_nil ?_
  go_wp2_with fail
  refine (CWr.go result_writes H1.out rfl).mono ?_
  rintro e w2 ⟨rfl, o2, b2, h⟩
  have H2 := Lib.hid h
  clear h
  go_wp2_with fail
  go_end0
  exact CWr.fin H2.out rfl rfl
end Go.Proofs.YthclnpigplcckaaGreat
/- codec's list[Seen], writing. -/
namespace Go.Proofs.YthclnpigplcckaaGreat
open Go.RowKit Go.Lb Go.Rc

set_option maxRecDepth 20000 in
set_option maxHeartbeats 2000000 in
theorem listSeen_writes : LWrites 85 86 sSeen := by
  intro B X f p q tp pre cs post v o b w h hX hq hp hr hl
  obtain ⟨a, c, l, rfl, rfl, hall⟩ := hr
  have HA : Hid (Elems w (· < B) sSeen 5 a l) := Lib.hid hall
  subst hq
  have H := Lib.hid h
  have HL := Lib.hid hl
  have HX := Lib.hid hX
  have HP := Lib.hid hp
  have hl1 : o.length + 6 ≤ 1099511627776 := by simp only [Sch.wmax] at hl; omega
  have c0 := hp.cell (o := pre.length) mid_at
  have hB := h.base
  clear h hX hall hl hp
  go_enter Tryz.func85, Tryz.ntmps85
  go_wp2_with fail
  refine (many_w B X f l.length 64 o b _ H.out hl1 (by decide)).mono ?_
  rintro e w1 ⟨r, o1, b1, rfl, h1, h2, h3⟩
  obtain ⟨m2, m3, m4, m5⟩ := fw_mark h1
  have p0 := (h2.blk HP.out (.inr HX.out)).cell (o := pre.length) mid_at
  have H1 := Lib.hid h1
  have H2 := Lib.hid h2
  have H3 : Hid (LWk sSeen l.length [] o b o1 b1) := Lib.hid (LWk.start h3)
  clear h1 h2 h3
  go_wp2_with fail
  go_loopg [7, 8, 25] l.length (fun g u v t wr => ∃ (i : Nat) (o' : List Nat) (b' : Bool), t = .int .i64 i ∧ l.length - i = g ∧ i ≤ l.length ∧ Fw B X wr f o' b' ∧ Kp B X w wr ∧ LWk sSeen l.length (l.take i) o b o' b')
  case atStart => exact ⟨0, o1, b1, rfl, rfl, by omega, H1.out, H2.out, H3.out⟩
  case round =>
    obtain ⟨i, o', b', rfl, hg, hi, hF, hK, hW⟩ := hrel
    have HG := Lib.hid hg
    have HF := Lib.hid hF
    have HK := Lib.hid hK
    have HW := Lib.hid hW
    obtain ⟨n2, n3, n4, n5⟩ := fw_mark hF
    have r0 := (hK.blk HP.out (.inr HX.out)).cell (o := pre.length) mid_at
    clear hg hF hK hW m2 m3 m4 m5 p0
    by_cases hlt : i < l.length
    · have t1 : decide (i < l.length) = true := by simpa using hlt
      cases b' with
      | true =>
        have HE := Lib.hid HW.out.early
        go_wp2_with fail
        go_end0
        exact ⟨rfl, o', true, HF.out, HK.out, HE.out⟩
      | false =>
      obtain ⟨x, hx⟩ : ∃ x, l[i]? = some x := ⟨_, List.getElem?_eq_getElem hlt⟩
      obtain ⟨b0, o0, us, rfl, hb0, hbl, hrg, hrep⟩ := HA.out i x hx
      have hrep := hrep.keep (ok' := (· < B)) (fun k hk hl => ⟨hk, HK.out.block k hl (.inl hk)⟩) HK.out.size
      have hrg : wr.rangeAt b0 (o0 + i * 5) us := rangeAt_keep hrg (HK.out.block b0 hbl (.inl hb0))
      have hwl := HW.out.room hx HL.out
      have HWL := Lib.hid hwl
      have h64 : l.length ≤ 64 := (HW.out.bad.1 rfl).2.1
      have Hx := Lib.hid hx
      have hus : us.length = 5 := hrep.len
      have HONE : Hid (∀ u ∈ us, u.oneCell' = true) := Lib.hid hrep.one
      clear hx hwl
      have HREP := Lib.hid hrep
      have HRG := Lib.hid hrg
      clear hrep hrg
      go_wp2_with (first | (refine wpList_load_mid rfl 177 (.tmp 36) rfl b0 (o0 + i * 5) rfl us _ HRG.out Tryz.underlying177 rfl (by rw [hus]; exact Tryz.size177) ?_) | (refine wpList_alloc_blk rfl 177 rfl sSeen.zc (zero177 _) ?_; intro wA hbA huA) | (refine wpList_store_blk (o := ⟨none, .store 177 (.tmp 8) (.tmp 37), _, _, _, _⟩) rfl 177 (.tmp 8) (.tmp 37) rfl wr.heap.size us rfl rfl hbA (by rw [hus]; exact Tryz.size177) (by rw [hus]; rfl) HONE.out ?_; intro wB hb huB))
      have hu : Upd [] wr wB := huA.trans huB (by simp)
      clear huA hbA huB
      refine (seen_writes B (wr.heap.size :: X) f wr.heap.size 0 177 [] us [] x o' false wB (HF.out.new hu (Nat.le_refl _) hb.lt) (by simp) rfl (by simpa using hb) (HREP.out.upd hu (by simp)) HWL.out).mono ?_
      rintro e w2 ⟨rfl, o2, b2, h1, h2, h3⟩
      have H1 := Lib.hid h1.less
      have H2 := Lib.hid ((Kp.of_nil hu).trans h2.drop)
      have H3 := Lib.hid (HW.out.snoc h3)
      clear h1 h2 h3
      go_wp2_with fail
      go_roundg (l.length - (i + 1))
      case measure => have := HG.out; omega
      case rel => exact ⟨i + 1, o2, b2, by go_num, rfl, by omega, H1.out, HK.out.trans H2.out, by rw [take_snoc Hx.out]; exact H3.out⟩
    · obtain rfl : i = l.length := by omega
      go_wp2_with fail
      go_end0
      refine ⟨rfl, o', b', HF.out, HK.out, LWk.fin ?_⟩
      have := HW.out
      rwa [List.take_length] at this
end Go.Proofs.YthclnpigplcckaaGreat
/- codec's form.store, writing. -/
namespace Go.Proofs.YthclnpigplcckaaGreat
open Go.RowKit Go.Lb Go.Rc

set_option maxRecDepth 20000 in
set_option maxHeartbeats 2000000 in
theorem store_writes : Writes 45 sStore := by
  intro B X f p q tp pre cs post v o b w h hX hq hp hr hl
  have k0 : (tup [.num, .num, .list sJob, .list sJob, .list sNode, .list sAlloc, .list sEval, .list sDeploy, .list sSeen]).Rep w (· < B) cs v := hr
  obtain ⟨_, _, v0, y0, _, rfl, ⟨n0, _, rfl⟩, k1⟩ := Sch.Rep.tup_cons k0
  obtain ⟨_, _, v1, y1, _, rfl, ⟨n1, _, rfl⟩, k2⟩ := Sch.Rep.tup_cons k1
  obtain ⟨_, _, v2, y2, _, rfl, _, k3⟩ := Sch.Rep.tup_cons k2
  obtain ⟨_, _, v3, y3, _, rfl, _, k4⟩ := Sch.Rep.tup_cons k3
  obtain ⟨_, _, v4, y4, _, rfl, _, k5⟩ := Sch.Rep.tup_cons k4
  obtain ⟨_, _, v5, y5, _, rfl, _, k6⟩ := Sch.Rep.tup_cons k5
  obtain ⟨_, _, v6, y6, _, rfl, _, k7⟩ := Sch.Rep.tup_cons k6
  obtain ⟨_, _, v7, y7, _, rfl, _, k8⟩ := Sch.Rep.tup_cons k7
  obtain ⟨_, _, v8, y8, _, rfl, _, k9⟩ := Sch.Rep.tup_cons k8
  obtain ⟨_, rfl⟩ := Sch.Rep.tup_nil k9
  subst hq
  have H0 := Lib.hid (WrSt.start (rest := ([(.num, .num n0), (.num, .num n1), (.list sJob, v2), (.list sJob, v3), (.list sNode, v4), (.list sAlloc, v5), (.list sEval, v6), (.list sDeploy, v7), (.list sSeen, v8)] : List (Sch × Val))) h hX hp hr (by have := tup_wmax ([(.num, .num n0), (.num, .num n1), (.list sJob, v2), (.list sJob, v3), (.list sNode, v4), (.list sAlloc, v5), (.list sEval, v6), (.list sDeploy, v7), (.list sSeen, v8)] : List (Sch × Val)); rw [← this]; exact hl))
  clear h hX hp hr hl k0 k1 k2 k3 k4 k5 k6 k7 k8 k9
  go_enter Tryz.func45, Tryz.ntmps45
  go_wp2_with fail
  refine wp_region_lex (fun _ => True) 99 [(0, true), (1, true), (2, true), (3, true), (4, true), (5, true), (6, true), (7, false), (8, false)] (by kernel_rfl) (by kernel_rfl) (by kernel_rfl) (by kernel_rfl) (fun _ _ d _ _ h => by cases d <;> exact h) ?_
  simp only [lexOps, List.map_cons, List.map_nil, List.getD_cons_zero, List.getD_cons_succ]
  iterate 7 (refine lex_read rfl trivial (v := ?_) (fun w' _ => ?_) ?_; rotate_left; (focus (go_simp; try with_reducible rfl)); simp only [Act.put, List.setIfInBounds_toArray, List.set_cons_zero, List.set_cons_succ])
  refine lex_do rfl (fun K hK => ?_)
  go_simp
  refine hK _ _ (fun _ => trivial) ?_
  clear hK K
  refine lex_do rfl (fun K hK => ?_)
  go_simp
  refine (CWr.goNums (ns := [n0, n1]) (rest := [(.list sJob, v2), (.list sJob, v3), (.list sNode, v4), (.list sAlloc, v5), (.list sEval, v6), (.list sDeploy, v7), (.list sSeen, v8)]) (k := 2) H0.out rfl ((Upd.refl _ _).alloc _).drew (Nat.le_refl _) (Blk.drew (Blk.new _ _ [_, _])) rfl).mono ?_
  rintro e w1 ⟨rfl, o1, b1, h⟩
  have H1 := Lib.hid h
  refine hK _ _ (fun _ => trivial) ?_
  clear hK K h
  refine lex_nil ?_
  go_wp2_with fail
  refine (CWr.goList listJob_writes H1.out rfl).mono ?_
  rintro e w2 ⟨rfl, o2, b2, h⟩
  have H2 := Lib.hid h
  clear h
  go_wp2_with fail
  refine (CWr.goList listJob_writes H2.out rfl).mono ?_
  rintro e w3 ⟨rfl, o3, b3, h⟩
  have H3 := Lib.hid h
  clear h
  go_wp2_with fail
  refine (CWr.goList listNode_writes H3.out rfl).mono ?_
  rintro e w4 ⟨rfl, o4, b4, h⟩
  have H4 := Lib.hid h
  clear h
  go_wp2_with fail
  refine (CWr.goList listAlloc_writes H4.out rfl).mono ?_
  rintro e w5 ⟨rfl, o5, b5, h⟩
  have H5 := Lib.hid h
  clear h
  go_wp2_with fail
  refine (CWr.goList listEval_writes H5.out rfl).mono ?_
  rintro e w6 ⟨rfl, o6, b6, h⟩
  have H6 := Lib.hid h
  clear h
  go_wp2_with fail
  refine (CWr.goList listDeploy_writes H6.out rfl).mono ?_
  rintro e w7 ⟨rfl, o7, b7, h⟩
  have H7 := Lib.hid h
  clear h
  go_wp2_with fail
  refine (CWr.goList listSeen_writes H7.out rfl).mono ?_
  rintro e w8 ⟨rfl, o8, b8, h⟩
  have H8 := Lib.hid h
  clear h
  go_wp2_with fail
  go_end0
  exact CWr.fin H8.out rfl rfl
end Go.Proofs.YthclnpigplcckaaGreat
/- codec's put[Store] and PutStore. -/
namespace Go.Proofs.YthclnpigplcckaaGreat
open Go.RowKit Go.Lb Go.Rc

set_option maxRecDepth 20000 in
set_option maxHeartbeats 2000000 in
theorem putStore_any (cs : List Value) (v : Val) (w : World) (hr : Sch.Rep w (· < w.heap.size) sStore cs v) (hl : sStore.wmax v ≤ 1099511627776) :
    Calls Tryz.prog 48 #[.agg cs.toArray, .func (.func 45) #[] #[]] w (PutIs sStore v w) := by
  have hlen : cs.length = 9 := hr.len
  have HR := Lib.hid hr
  have HL := Lib.hid hl
  clear hr hl
  go_enter Tryz.func48, Tryz.ntmps48
  go_wp2_with fail
  have uW : Upd [] w ((w.alloc (.cells cs.toArray 70)).alloc (.cells #[.slice none 0 0, .bool false, .bool false] 108)) := ((Upd.refl _ _).alloc _).alloc _
  refine (store_writes w.heap.size [w.heap.size] (w.heap.size + 1) w.heap.size 0 70 [] cs [] v [] false _ (fresh_out (mk := cW) rfl) (by simp) rfl (by simpa using (Blk.new w 70 cs).alloc _) (HR.out.upd uW (by simp)) (by simpa using HL.out)).mono ?_
  rintro e w1 ⟨rfl, o, b, h1, h2, h3⟩
  obtain ⟨m2, m3, m4, m5⟩ := fw_mark h1
  cases b with
  | true =>
    have HF := Lib.hid (putIs_bad h2 uW h3)
    clear h1 h2 h3 uW
    go_wp2_with fail
    go_ret2
    exact HF.out
  | false =>
    obtain ⟨a, c, e0, hF⟩ := putIs_good h1 h2 uW h3
    have e1 : w1.cell? ⟨w.heap.size + 1, 0, none⟩ = some (.slice a (sStore.put v).length c) := e0
    have HF := Lib.hid hF
    clear h1 h2 h3 uW e0 hF
    go_wp2_with fail
    go_ret2
    exact HF.out

set_option maxRecDepth 20000 in
set_option maxHeartbeats 2000000 in
theorem putStore_puts : Puts 20 sStore := by
  intro cs v w hr hl
  have hlen : cs.length = 9 := hr.len
  have uW : Upd [] w (w.alloc (.cells cs.toArray 70)) := (Upd.refl _ _).alloc _
  have HR := Lib.hid hr
  have HL := Lib.hid hl
  have hb := Blk.new w 70 cs
  have HB := Lib.hid hb
  clear hr hl hb
  go_enter Tryz.func20, Tryz.ntmps20
  go_wp2_with (refine wpList_load_blk rfl 70 (.tmp 1) rfl w.heap.size rfl HB.out Tryz.underlying70 rfl (by rw [hlen]; exact Tryz.size70) ?_)
  refine (putStore_any cs v _ ((HR.out.upd uW (by simp)).mono (fun b hb hl => hl)) HL.out).mono ?_
  rintro e w1 ⟨u1, ⟨hg, a, c, rfl, hown⟩ | ⟨hg, rfl⟩⟩
  · have HF : Hid (PutIs sStore v w (.returned (.tuple #[.slice a (sStore.put v).length c, .int .i64 0])) w1) := Lib.hid ⟨uW.trans u1 (by simp), .inl ⟨hg, a, c, rfl, own_rebase hown (fun k hk => by have := own_lo hown hk; have := uW.size; omega)⟩⟩
    clear u1 hg hown uW
    go_wp2_with fail
    go_ret2
    exact HF.out
  · have HF : Hid (PutIs sStore v w (.returned (.tuple #[.slice none 0 0, .int .i64 1])) w1) := Lib.hid ⟨uW.trans u1 (by simp), .inr ⟨hg, rfl⟩⟩
    clear u1 hg uW
    go_wp2_with fail
    go_ret2
    exact HF.out
end Go.Proofs.YthclnpigplcckaaGreat
/- law01's CodecReads, walked. -/
namespace Go.Rc
def isRec (s : Sch) (l : List Nat) : Bool := match s.get l with
  | some (_, []) => true
  | _ => false
theorem isRec_iff {s : Sch} {l : List Nat} : isRec s l = true ↔ ∃ v, s.get l = some (v, []) := by
  unfold isRec
  split
  · rename_i v h; simp [h]
  · rename_i h
    simp only [Bool.false_eq_true, false_iff]
    rintro ⟨v, hv⟩
    exact h v hv
end Go.Rc
namespace Go.Proofs.YthclnpigplcckaaGreat
open Go.RowKit Go.Lb Go.Rc
theorem gets_d {K : Nat} {s : Sch} {w : World} {l : List Nat} {a : Option Addr} {c : Nat} (C : Gets K s) (hb : Bytes w (· < w.heap.size) a l) (hc : l.length ≤ c ∧ c ≤ maxLen) :
    Calls Tryz.prog K #[.slice a l.length c] w fun e w' => ∃ (cs : List Value) (v : Val), e = .returned (.tuple #[.agg cs.toArray, .bool (isRec s l)]) ∧ Upd [] w w' ∧ s.Rep w' (Nw w.heap.size w') cs v ∧ s.good v ∧ (isRec s l = true → l = s.put v) := by
  refine (C a c l w hb hc).mono ?_
  rintro e w' ⟨u, cs, v', r, rfl, h1, h2, h3⟩
  have hlt : ∀ b ∈ l, b < 256 := fun x hx => by
    obtain ⟨i, hi⟩ := List.mem_iff_getElem?.1 hx
    exact (hb i x hi).1
  cases r with
  | true =>
    have : isRec s l = true := isRec_iff.2 ⟨_, h2 rfl⟩
    rw [this]
    have h4 := Sch.get_one s l v' [] (h2 rfl) hlt
    exact ⟨cs, v', rfl, u, h1, h4.2, fun _ => by rw [List.append_nil] at h4; exact h4.1⟩
  | false =>
    have : isRec s l = false := by
      cases hq : isRec s l with
      | false => rfl
      | true =>
        obtain ⟨q, hq⟩ := isRec_iff.1 hq
        exact absurd hq ((h3 rfl).1 q)
    rw [this]
    exact ⟨cs, v', rfl, u, h1, by rw [(h3 rfl).2]; exact Sch.good_zero s, fun h => by cases h⟩

set_option maxRecDepth 20000 in
set_option maxHeartbeats 8000000 in
theorem reads_ok (a : Option Addr) (c : Nat) (l : List Nat) (w : World) (hb : Bytes w (· < w.heap.size) a l) (hc : l.length ≤ c) (hm : c ≤ maxLen) :
    Calls Tryz.prog 3 #[.slice a l.length c] w fun e w' => e = .returned (.bool true) ∧ Upd [] w w' := by
  have HD := Lib.hid hb
  have HC : Hid (l.length ≤ c ∧ c ≤ maxLen) := Lib.hid ⟨hc, hm⟩
  have U0 : Hid (Upd [] w w) := Lib.hid (Upd.refl _ _)
  clear hb hc hm
  go_enter Tryz.func3, Tryz.ntmps3
  obtain ⟨r1, hr1⟩ : ∃ r, isRec sCmd l = r := ⟨_, rfl⟩
  have HR1 := Lib.hid hr1
  clear hr1
  go_wp2_with fail
  refine (gets_d getCmd_gets (bytes_all HD.out U0.out) HC.out).mono ?_
  rintro e w1a ⟨cs1, v1, rfl, u, rc, gv, hp⟩
  rw [HR1.out] at hp ⊢
  have U1a := Lib.hid (U0.out.trans u (by simp))
  have HN1 : Hid (cs1.length = 27) := Lib.hid rc.len
  have HO1 := Lib.hid rc.one
  have RC1 := Lib.hid rc
  have GV1 := Lib.hid gv
  have HP1 := Lib.hid hp
  clear u rc gv hp
  go_wp2_with (first | (refine wpList_alloc_blk rfl 38 rfl sCmd.zc (zero38 _) ?_; intro wA hA uA; have HA1 := Lib.hid hA; have UA1 := Lib.hid uA; clear hA uA) | (refine wpList_store_blk rfl 38 (.tmp 3) (.tmp 16) rfl w1a.heap.size cs1 rfl rfl HA1.out (by rw [HN1.out]; exact Tryz.size38) (by rw [HN1.out]; rfl) HO1.out ?_; intro wS hs us; have HB1 := Lib.hid hs; have UB1 : Hid (Upd [] w1a wS) := Lib.hid (UA1.out.trans us (by simp)); clear hs us))
  have U1b := Lib.hid (U1a.out.trans UB1.out (by simp))
  have RB1 := Lib.hid (rep_all RC1.out UB1.out)
  refine (gets_d rgetCmd_gets (bytes_all HD.out U1b.out) HC.out).mono ?_
  rintro e w1c ⟨ds1, x1, rfl, u, rc, _, _⟩
  rw [HR1.out]
  have U1c := Lib.hid (U1b.out.trans u (by simp))
  have HB1c := Lib.hid (u.blk HB1.out (by simp))
  have RB1c := Lib.hid (rep_all RB1.out u)
  have HM1 : Hid (ds1.length = 27) := Lib.hid rc.len
  have HQ1 := Lib.hid rc.one
  clear u rc
  go_wp2_with (first | (refine wpList_alloc_blk rfl 38 rfl sCmd.zc (zero38 _) ?_; intro wA hA uA; have HE1 := Lib.hid hA; have UE1 := Lib.hid uA; clear hA uA) | (refine wpList_store_blk rfl 38 (.tmp 5) (.tmp 21) rfl w1c.heap.size ds1 rfl rfl HE1.out (by rw [HM1.out]; exact Tryz.size38) (by rw [HM1.out]; rfl) HQ1.out ?_; intro wS hs us; have UF1 : Hid (Upd [] w1c wS) := Lib.hid (UE1.out.trans us (by simp)); have HB1d := Lib.hid (UF1.out.blk HB1c.out (by simp)); clear hs us) | (refine wpList_load_blk rfl 38 (.tmp 3) rfl w1a.heap.size rfl HB1d.out Tryz.underlying38 rfl (by rw [HN1.out]; exact Tryz.size38) ?_))
  have U1d := Lib.hid (U1c.out.trans UF1.out (by simp))
  have RB1d := Lib.hid (rep_all RB1c.out UF1.out)
  obtain ⟨p1, hp⟩ : ∃ p, p = bytesOf true sCmd v1 := ⟨_, rfl⟩
  have HPP1 := Lib.hid hp
  clear hp
  refine (puts_u (g := true) putCmd_puts RB1d.out (Nat.le_trans (Sch.wmax_le _ _ GV1.out) (of_decide_eq_true (by kernel_rfl))) ⟨fun _ => GV1.out, fun _ => rfl⟩ HPP1.out).mono ?_
  rintro e w1e ⟨a1, c1, rfl, u, b, _⟩
  rw [show errOf true = 0 from rfl]
  have U1e := Lib.hid (U1d.out.trans u (by simp))
  have B1 := Lib.hid b
  clear u b
  go_upto_region 4 with fail
  go_cut [47] (fun t wc => t = .bool false ∧ Upd [] w wc)
  case first =>
   cases r1 with
   | true =>
    have HL := Lib.hid (show p1.length ≤ 1099511627776 by rw [HPP1.out]; exact bytesOf_len (g := true) ⟨fun _ => GV1.out, fun _ => rfl⟩ (Nat.le_trans (Sch.wmax_le _ _ GV1.out) (of_decide_eq_true (by kernel_rfl))))
    obtain rfl : l = p1 := by rw [HPP1.out, HP1.out rfl]; rfl
    go_wp2_with fail
    refine (same_any _ _ a1 a c1 c l l _ B1.out (bytes_all HD.out U1e.out) HL.out).mono ?_
    rintro e w1f ⟨rfl, u⟩
    have U1f := Lib.hid (U1e.out.trans u (by simp))
    clear u
    rw [show (l == l) = true by simp]
    go_wp2_with fail
    refine (known_true _).mono ?_
    rintro e w1g ⟨rfl, u⟩
    have U1g := Lib.hid (U1f.out.trans u (by simp))
    clear u
    go_wp2_with fail
    go_meet
    exact ⟨rfl, U1g.out⟩
   | false =>
    go_wp2_with fail
    refine (known_true _).mono ?_
    rintro e w1g ⟨rfl, u⟩
    have U1g := Lib.hid (U1e.out.trans u (by simp))
    clear u
    go_wp2_with fail
    go_meet
    exact ⟨rfl, U1g.out⟩
  case rest =>
  obtain ⟨rfl, u⟩ := hcut
  have V1 := Lib.hid u
  clear u
  obtain ⟨r2, hr2⟩ : ∃ r, isRec sEntry l = r := ⟨_, rfl⟩
  have HR2 := Lib.hid hr2
  clear hr2
  go_wp2_with fail
  refine (gets_d getEntry_gets (bytes_all HD.out V1.out) HC.out).mono ?_
  rintro e w2a ⟨cs2, v2, rfl, u, rc, gv, hp⟩
  rw [HR2.out] at hp ⊢
  have U2a := Lib.hid (V1.out.trans u (by simp))
  have HN2 : Hid (cs2.length = 29) := Lib.hid rc.len
  have HO2 := Lib.hid rc.one
  have RC2 := Lib.hid rc
  have GV2 := Lib.hid gv
  have HP2 := Lib.hid hp
  clear u rc gv hp
  go_wp2_with (first | (refine wpList_alloc_blk rfl 47 rfl sEntry.zc (zero47 _) ?_; intro wA hA uA; have HA2 := Lib.hid hA; have UA2 := Lib.hid uA; clear hA uA) | (refine wpList_store_blk rfl 47 (.tmp 9) (.tmp 51) rfl w2a.heap.size cs2 rfl rfl HA2.out (by rw [HN2.out]; exact Tryz.size47) (by rw [HN2.out]; rfl) HO2.out ?_; intro wS hs us; have HB2 := Lib.hid hs; have UB2 : Hid (Upd [] w2a wS) := Lib.hid (UA2.out.trans us (by simp)); clear hs us))
  have U2b := Lib.hid (U2a.out.trans UB2.out (by simp))
  have RB2 := Lib.hid (rep_all RC2.out UB2.out)
  refine (gets_d rgetEntry_gets (bytes_all HD.out U2b.out) HC.out).mono ?_
  rintro e w2c ⟨ds2, x2, rfl, u, rc, _, _⟩
  rw [HR2.out]
  have U2c := Lib.hid (U2b.out.trans u (by simp))
  have HB2c := Lib.hid (u.blk HB2.out (by simp))
  have RB2c := Lib.hid (rep_all RB2.out u)
  have HM2 : Hid (ds2.length = 29) := Lib.hid rc.len
  have HQ2 := Lib.hid rc.one
  clear u rc
  go_wp2_with (refine wpList_load_blk rfl 47 (.tmp 9) rfl w2a.heap.size rfl HB2c.out Tryz.underlying47 rfl (by rw [HN2.out]; exact Tryz.size47) ?_)
  obtain ⟨p2, hp⟩ : ∃ p, p = bytesOf true sEntry v2 := ⟨_, rfl⟩
  have HPP2 := Lib.hid hp
  clear hp
  refine (puts_u (g := true) putEntry_puts RB2c.out (Nat.le_trans (Sch.wmax_le _ _ GV2.out) (of_decide_eq_true (by kernel_rfl))) ⟨fun _ => GV2.out, fun _ => rfl⟩ HPP2.out).mono ?_
  rintro e w2e ⟨a2, c2, rfl, u, b, _⟩
  rw [show errOf true = 0 from rfl]
  have U2e := Lib.hid (U2c.out.trans u (by simp))
  have B2 := Lib.hid b
  clear u b
  go_upto_region 9 with fail
  go_cut [78] (fun t wc => t = .bool false ∧ Upd [] w wc)
  case first =>
   cases r2 with
   | true =>
    have HL := Lib.hid (show p2.length ≤ 1099511627776 by rw [HPP2.out]; exact bytesOf_len (g := true) ⟨fun _ => GV2.out, fun _ => rfl⟩ (Nat.le_trans (Sch.wmax_le _ _ GV2.out) (of_decide_eq_true (by kernel_rfl))))
    obtain rfl : l = p2 := by rw [HPP2.out, HP2.out rfl]; rfl
    go_wp2_with fail
    refine (same_any _ _ a2 a c2 c l l _ B2.out (bytes_all HD.out U2e.out) HL.out).mono ?_
    rintro e w2f ⟨rfl, u⟩
    have U2f := Lib.hid (U2e.out.trans u (by simp))
    clear u
    rw [show (l == l) = true by simp]
    go_wp2_with fail
    go_meet
    exact ⟨rfl, U2f.out⟩
   | false =>
    go_wp2_with fail
    go_meet
    exact ⟨rfl, U2e.out⟩
  case rest =>
  obtain ⟨rfl, u⟩ := hcut
  have V2 := Lib.hid u
  clear u
  obtain ⟨r3, hr3⟩ : ∃ r, isRec sMsg l = r := ⟨_, rfl⟩
  have HR3 := Lib.hid hr3
  clear hr3
  go_wp2_with fail
  refine (gets_d getMsg_gets (bytes_all HD.out V2.out) HC.out).mono ?_
  rintro e w3a ⟨cs3, v3, rfl, u, rc, gv, hp⟩
  rw [HR3.out] at hp ⊢
  have U3a := Lib.hid (V2.out.trans u (by simp))
  have HN3 : Hid (cs3.length = 46) := Lib.hid rc.len
  have HO3 := Lib.hid rc.one
  have RC3 := Lib.hid rc
  have GV3 := Lib.hid gv
  have HP3 := Lib.hid hp
  clear u rc gv hp
  go_wp2_with (first | (refine wpList_alloc_blk rfl 55 rfl sMsg.zc (zero55 _) ?_; intro wA hA uA; have HA3 := Lib.hid hA; have UA3 := Lib.hid uA; clear hA uA) | (refine wpList_store_blk rfl 55 (.tmp 10) (.tmp 82) rfl w3a.heap.size cs3 rfl rfl HA3.out (by rw [HN3.out]; exact Tryz.size55) (by rw [HN3.out]; rfl) HO3.out ?_; intro wS hs us; have HB3 := Lib.hid hs; have UB3 : Hid (Upd [] w3a wS) := Lib.hid (UA3.out.trans us (by simp)); clear hs us))
  have U3b := Lib.hid (U3a.out.trans UB3.out (by simp))
  have RB3 := Lib.hid (rep_all RC3.out UB3.out)
  refine (gets_d rgetMsg_gets (bytes_all HD.out U3b.out) HC.out).mono ?_
  rintro e w3c ⟨ds3, x3, rfl, u, rc, _, _⟩
  rw [HR3.out]
  have U3c := Lib.hid (U3b.out.trans u (by simp))
  have HB3c := Lib.hid (u.blk HB3.out (by simp))
  have RB3c := Lib.hid (rep_all RB3.out u)
  have HM3 : Hid (ds3.length = 46) := Lib.hid rc.len
  have HQ3 := Lib.hid rc.one
  clear u rc
  go_wp2_with (refine wpList_load_blk rfl 55 (.tmp 10) rfl w3a.heap.size rfl HB3c.out Tryz.underlying55 rfl (by rw [HN3.out]; exact Tryz.size55) ?_)
  obtain ⟨p3, hp⟩ : ∃ p, p = bytesOf true sMsg v3 := ⟨_, rfl⟩
  have HPP3 := Lib.hid hp
  clear hp
  refine (puts_u (g := true) putMsg_puts RB3c.out (Nat.le_trans (Sch.wmax_le _ _ GV3.out) (of_decide_eq_true (by kernel_rfl))) ⟨fun _ => GV3.out, fun _ => rfl⟩ HPP3.out).mono ?_
  rintro e w3e ⟨a3, c3, rfl, u, b, _⟩
  rw [show errOf true = 0 from rfl]
  have U3e := Lib.hid (U3c.out.trans u (by simp))
  have B3 := Lib.hid b
  clear u b
  go_upto_region 14 with fail
  go_cut [109] (fun t wc => t = .bool false ∧ Upd [] w wc)
  case first =>
   cases r3 with
   | true =>
    have HL := Lib.hid (show p3.length ≤ 1099511627776 by rw [HPP3.out]; exact bytesOf_len (g := true) ⟨fun _ => GV3.out, fun _ => rfl⟩ (Nat.le_trans (Sch.wmax_le _ _ GV3.out) (of_decide_eq_true (by kernel_rfl))))
    obtain rfl : l = p3 := by rw [HPP3.out, HP3.out rfl]; rfl
    go_wp2_with fail
    refine (same_any _ _ a3 a c3 c l l _ B3.out (bytes_all HD.out U3e.out) HL.out).mono ?_
    rintro e w3f ⟨rfl, u⟩
    have U3f := Lib.hid (U3e.out.trans u (by simp))
    clear u
    rw [show (l == l) = true by simp]
    go_wp2_with fail
    go_meet
    exact ⟨rfl, U3f.out⟩
   | false =>
    go_wp2_with fail
    go_meet
    exact ⟨rfl, U3e.out⟩
  case rest =>
  obtain ⟨rfl, u⟩ := hcut
  have V3 := Lib.hid u
  clear u
  obtain ⟨r4, hr4⟩ : ∃ r, isRec sSnapshot l = r := ⟨_, rfl⟩
  have HR4 := Lib.hid hr4
  clear hr4
  go_wp2_with fail
  refine (gets_d getSnapshot_gets (bytes_all HD.out V3.out) HC.out).mono ?_
  rintro e w4a ⟨cs4, v4, rfl, u, rc, gv, hp⟩
  rw [HR4.out] at hp ⊢
  have U4a := Lib.hid (V3.out.trans u (by simp))
  have HN4 : Hid (cs4.length = 5) := Lib.hid rc.len
  have HO4 := Lib.hid rc.one
  have RC4 := Lib.hid rc
  have GV4 := Lib.hid gv
  have HP4 := Lib.hid hp
  clear u rc gv hp
  go_wp2_with (first | (refine wpList_alloc_blk rfl 60 rfl sSnapshot.zc (zero60 _) ?_; intro wA hA uA; have HA4 := Lib.hid hA; have UA4 := Lib.hid uA; clear hA uA) | (refine wpList_store_blk rfl 60 (.tmp 11) (.tmp 113) rfl w4a.heap.size cs4 rfl rfl HA4.out (by rw [HN4.out]; exact Tryz.size60) (by rw [HN4.out]; rfl) HO4.out ?_; intro wS hs us; have HB4 := Lib.hid hs; have UB4 : Hid (Upd [] w4a wS) := Lib.hid (UA4.out.trans us (by simp)); clear hs us))
  have U4b := Lib.hid (U4a.out.trans UB4.out (by simp))
  have RB4 := Lib.hid (rep_all RC4.out UB4.out)
  refine (gets_d rgetSnapshot_gets (bytes_all HD.out U4b.out) HC.out).mono ?_
  rintro e w4c ⟨ds4, x4, rfl, u, rc, _, _⟩
  rw [HR4.out]
  have U4c := Lib.hid (U4b.out.trans u (by simp))
  have HB4c := Lib.hid (u.blk HB4.out (by simp))
  have RB4c := Lib.hid (rep_all RB4.out u)
  have HM4 : Hid (ds4.length = 5) := Lib.hid rc.len
  have HQ4 := Lib.hid rc.one
  clear u rc
  go_wp2_with (refine wpList_load_blk rfl 60 (.tmp 11) rfl w4a.heap.size rfl HB4c.out Tryz.underlying60 rfl (by rw [HN4.out]; exact Tryz.size60) ?_)
  obtain ⟨p4, hp⟩ : ∃ p, p = bytesOf true sSnapshot v4 := ⟨_, rfl⟩
  have HPP4 := Lib.hid hp
  clear hp
  refine (puts_u (g := true) putSnapshot_puts RB4c.out (Nat.le_trans (Sch.wmax_le _ _ GV4.out) (of_decide_eq_true (by kernel_rfl))) ⟨fun _ => GV4.out, fun _ => rfl⟩ HPP4.out).mono ?_
  rintro e w4e ⟨a4, c4, rfl, u, b, _⟩
  rw [show errOf true = 0 from rfl]
  have U4e := Lib.hid (U4c.out.trans u (by simp))
  have B4 := Lib.hid b
  clear u b
  go_upto_region 19 with fail
  go_cut [140] (fun t wc => t = .bool false ∧ Upd [] w wc)
  case first =>
   cases r4 with
   | true =>
    have HL := Lib.hid (show p4.length ≤ 1099511627776 by rw [HPP4.out]; exact bytesOf_len (g := true) ⟨fun _ => GV4.out, fun _ => rfl⟩ (Nat.le_trans (Sch.wmax_le _ _ GV4.out) (of_decide_eq_true (by kernel_rfl))))
    obtain rfl : l = p4 := by rw [HPP4.out, HP4.out rfl]; rfl
    go_wp2_with fail
    refine (same_any _ _ a4 a c4 c l l _ B4.out (bytes_all HD.out U4e.out) HL.out).mono ?_
    rintro e w4f ⟨rfl, u⟩
    have U4f := Lib.hid (U4e.out.trans u (by simp))
    clear u
    rw [show (l == l) = true by simp]
    go_wp2_with fail
    go_meet
    exact ⟨rfl, U4f.out⟩
   | false =>
    go_wp2_with fail
    go_meet
    exact ⟨rfl, U4e.out⟩
  case rest =>
  obtain ⟨rfl, u⟩ := hcut
  have V4 := Lib.hid u
  clear u
  obtain ⟨r5, hr5⟩ : ∃ r, isRec sStore l = r := ⟨_, rfl⟩
  have HR5 := Lib.hid hr5
  clear hr5
  go_wp2_with fail
  refine (gets_d getStore_gets (bytes_all HD.out V4.out) HC.out).mono ?_
  rintro e w5a ⟨cs5, v5, rfl, u, rc, gv, hp⟩
  rw [HR5.out] at hp ⊢
  have U5a := Lib.hid (V4.out.trans u (by simp))
  have HN5 : Hid (cs5.length = 9) := Lib.hid rc.len
  have HO5 := Lib.hid rc.one
  have RC5 := Lib.hid rc
  have GV5 := Lib.hid gv
  have HP5 := Lib.hid hp
  clear u rc gv hp
  go_wp2_with (first | (refine wpList_alloc_blk rfl 70 rfl sStore.zc (zero70 _) ?_; intro wA hA uA; have HA5 := Lib.hid hA; have UA5 := Lib.hid uA; clear hA uA) | (refine wpList_store_blk rfl 70 (.tmp 12) (.tmp 144) rfl w5a.heap.size cs5 rfl rfl HA5.out (by rw [HN5.out]; exact Tryz.size70) (by rw [HN5.out]; rfl) HO5.out ?_; intro wS hs us; have HB5 := Lib.hid hs; have UB5 : Hid (Upd [] w5a wS) := Lib.hid (UA5.out.trans us (by simp)); clear hs us))
  have U5b := Lib.hid (U5a.out.trans UB5.out (by simp))
  have RB5 := Lib.hid (rep_all RC5.out UB5.out)
  refine (gets_d rgetStore_gets (bytes_all HD.out U5b.out) HC.out).mono ?_
  rintro e w5c ⟨ds5, x5, rfl, u, rc, _, _⟩
  rw [HR5.out]
  have U5c := Lib.hid (U5b.out.trans u (by simp))
  have HB5c := Lib.hid (u.blk HB5.out (by simp))
  have RB5c := Lib.hid (rep_all RB5.out u)
  have HM5 : Hid (ds5.length = 9) := Lib.hid rc.len
  have HQ5 := Lib.hid rc.one
  clear u rc
  go_wp2_with (refine wpList_load_blk rfl 70 (.tmp 12) rfl w5a.heap.size rfl HB5c.out Tryz.underlying70 rfl (by rw [HN5.out]; exact Tryz.size70) ?_)
  obtain ⟨p5, hp⟩ : ∃ p, p = bytesOf true sStore v5 := ⟨_, rfl⟩
  have HPP5 := Lib.hid hp
  clear hp
  refine (puts_u (g := true) putStore_puts RB5c.out (Nat.le_trans (Sch.wmax_le _ _ GV5.out) (of_decide_eq_true (by kernel_rfl))) ⟨fun _ => GV5.out, fun _ => rfl⟩ HPP5.out).mono ?_
  rintro e w5e ⟨a5, c5, rfl, u, b, _⟩
  rw [show errOf true = 0 from rfl]
  have U5e := Lib.hid (U5c.out.trans u (by simp))
  have B5 := Lib.hid b
  clear u b
  cases r5 with
  | true =>
    have HL := Lib.hid (show p5.length ≤ 1099511627776 by rw [HPP5.out]; exact bytesOf_len (g := true) ⟨fun _ => GV5.out, fun _ => rfl⟩ (Nat.le_trans (Sch.wmax_le _ _ GV5.out) (of_decide_eq_true (by kernel_rfl))))
    obtain rfl : l = p5 := by rw [HPP5.out, HP5.out rfl]; rfl
    go_wp2_with fail
    refine (same_any _ _ a5 a c5 c l l _ B5.out (bytes_all HD.out U5e.out) HL.out).mono ?_
    rintro e w5f ⟨rfl, u⟩
    have U5f := Lib.hid (U5e.out.trans u (by simp))
    clear u
    rw [show (l == l) = true by simp]
    go_wp2_with fail
    go_ret
    exact ⟨rfl, U5f.out⟩
  | false =>
    go_wp2_with fail
    go_ret
    exact ⟨rfl, U5e.out⟩
end Go.Proofs.YthclnpigplcckaaGreat
/- What the frames of the statements share: the bound read off; bytes and records that came in, opened. -/
namespace Go.Proofs.YthclnpigplcckaaGreat
open Go.ChangeShapes Go.WideShapes Go.ChangeAt Go.RowKit Go.Lb Go.Rc

instance : Inhabited Val := ⟨.unit⟩
theorem Tryz.own : ownKnob Tryz.prog.godebug = none := by kernel_rfl
theorem Tryz.laidOut : laidOutB Tryz.prog = true := by kernel_rfl

theorem bulk_one {H : Type} (x : DataW H) : 1 ≤ Rows.uptoBulk x := by
  cases x with
  | lit l => cases l <;> simp [Rows.uptoBulk]
  | _ => simp [Rows.uptoBulk]
theorem bulk_len {H : Type} (l : List (DataW H)) : l.length ≤ Rows.uptoBulkAll l := by
  induction l with
  | nil => simp [Rows.uptoBulkAll]
  | cons x r ih => have h1 := bulk_one x; simp only [Rows.uptoBulkAll, List.length_cons]; omega
theorem bulk_mem {H : Type} {l : List (DataW H)} {x : DataW H} (h : x ∈ l) : Rows.uptoBulk x ≤ Rows.uptoBulkAll l := by
  induction l with
  | nil => simp at h
  | cons y r ih =>
    simp only [Rows.uptoBulkAll]
    rcases List.mem_cons.1 h with rfl | h
    · omega
    · have := ih h; omega
theorem bulk_sum {H : Type} (l : List (DataW H)) : (l.map Rows.uptoBulk).sum = Rows.uptoBulkAll l := by
  induction l with
  | nil => rfl
  | cons y r ih => simp only [List.map_cons, List.sum_cons, Rows.uptoBulkAll, ih]
theorem bulk_of {H : Type} {l : List (DataW H)} (hk : Rows.uptoSmall H l = true) : Rows.uptoBulkAll l ≤ 1048576 := of_decide_eq_true hk
theorem pick_all {α : Type} [Inhabited α] {p : Nat → α → Prop} : ∀ n, (∀ i, i < n → ∃ v, p i v) → ∃ f : Nat → α, ∀ i, i < n → p i (f i)
  | 0, _ => ⟨fun _ => default, fun i h => by omega⟩
  | n + 1, h => by
    obtain ⟨f, hf⟩ := pick_all n (fun i hi => h i (by omega))
    obtain ⟨v, hv⟩ := h n (by omega)
    refine ⟨fun i => if i = n then v else f i, fun i hi => ?_⟩
    by_cases e : i = n
    · subst e; simpa using hv
    · simp only [if_neg e]; exact hf i (by omega)
theorem sum_le {f g : Nat → Nat} : ∀ n, (∀ i, i < n → f i ≤ g i) → ((List.range n).map f).sum ≤ ((List.range n).map g).sum
  | 0, _ => by simp
  | n + 1, h => by
    have h1 := sum_le n (fun i hi => h i (by omega))
    have h2 := h n (by omega)
    simp only [List.range_succ, List.map_append, List.sum_append, List.map_cons, List.map_nil, List.sum_cons, List.sum_nil]
    omega
theorem sum_mul6 (f : Nat → Nat) : ∀ n, ((List.range n).map fun i => 6 * f i).sum = 6 * ((List.range n).map f).sum
  | 0 => by simp
  | n + 1 => by
    have := sum_mul6 f n
    simp only [List.range_succ, List.map_append, List.sum_append, List.map_cons, List.map_nil, List.sum_cons, List.sum_nil, this]
    omega

section
variable {H : Type} {enc : TypeId × Value → H} {W : World} {n : Nat} {cs : List Value} {x : DataW H × List MemPlace} {P : Program}
/-- A slice that came in, opened at every place: all in one block. -/
theorem open_rows {t e : TypeId} {k : Nat} (ht : P.underlying t = some (.slice e)) (hk : P.cellsOf e = k) (h0 : 0 < k) {a : Option Addr} {len cap : Nat} {Q : List Value → DataW H → Prop}
    (hQ : ∀ n' cs x, n' < n → DataW.trod enc P W 0 (fun _ => true) true n' e cs = some x → Q cs x.1)
    (h : DataW.trod enc P W 0 (fun _ => true) true n t [.slice a len cap] = some x) :
    len ≤ cap ∧ cap ≤ maxLen ∧ len + 1 ≤ Rows.uptoBulk x.1 ∧ ∃ D : Nat → DataW H, ((List.range len).map fun i => Rows.uptoBulk (D i)).sum + 1 ≤ Rows.uptoBulk x.1 ∧ ∀ i, i < len → ∃ b o cs, a = some ⟨b, o, none⟩ ∧ b < W.heap.size ∧ W.rangeAt b (o + i * k) cs ∧ cs.length = k ∧ Q cs (D i) := by
  obtain ⟨n0, rfl⟩ : ∃ n0, n = n0 + 1 := by
    cases n with
    | zero => simp [DataW.trod] at h
    | succ n0 => exact ⟨n0, rfl⟩
  rcases DataW.trod_slice ht h with ⟨hcs, hx⟩ | ⟨y, l, c, elems, rest, m, hm0, hcs, hx, _, hl, hm, hlen, hel, _⟩
  · simp at hcs
    obtain ⟨rfl, rfl, rfl⟩ := hcs
    have := bulk_one x.1
    exact ⟨by omega, by omega, by omega, fun _ => .nil, by simpa using this, fun i hi => by omega⟩
  · obtain rfl : n0 = m := by omega
    simp at hcs
    obtain ⟨rfl, rfl, rfl⟩ := hcs
    have hD : ((List.range elems.length).map fun i => Rows.uptoBulk ((elems.map (·.1)).getD i .nil)).sum = Rows.uptoBulkAll (elems.map (·.1)) := by
      rw [← bulk_sum]
      congr 1
      refine List.ext_getElem (by simp) fun i h1 h2 => ?_
      simp at h1
      simp [h1]
    rw [hlen] at hD
    have h3 := bulk_len (elems.map (·.1))
    rw [List.length_map, hlen] at h3
    refine ⟨hl, hm, by rw [hx]; simp only [Rows.uptoBulk]; omega, fun i => (elems.map (·.1)).getD i .nil, by rw [hD, hx]; simp only [Rows.uptoBulk]; omega, fun i hi => ?_⟩
    have key : ∀ i, i < len → ∃ cs' z, W.cells? 0 (y.add (i * P.cellsOf e)) (P.cellsOf e) = some cs' ∧ DataW.trod enc P W 0 (fun _ => true) true n0 e cs' = some z ∧ elems[i]? = some z := fun i hi => by
      have h4 := hel i hi
      rw [List.getElem?_eq_getElem (by omega)] at h4
      obtain ⟨cs', h1, h2⟩ := Option.bind_eq_some_iff.1 h4
      exact ⟨cs', _, h1, h2, List.getElem?_eq_getElem (by omega)⟩
    obtain ⟨cs', z, h1, h2, h5⟩ := key i hi
    rw [hk] at h1
    obtain ⟨_, hlc, hc⟩ := World.cells?_some h1
    obtain ⟨b, off, spot⟩ := y
    have c0 := hc 0 (by omega)
    rw [List.getElem?_eq_getElem (by omega)] at c0
    have hspot : spot = none := by
      obtain ⟨cs0, _, h10, _⟩ := key 0 (by omega)
      rw [hk] at h10
      obtain ⟨_, hl0, hc0⟩ := World.cells?_some h10
      have z0 := hc0 0 (by omega)
      rw [List.getElem?_eq_getElem (by omega)] at z0
      simpa [Addr.add] using World.cell?_spot z0
    subst hspot
    simp only [Addr.add_lit, Nat.add_zero] at c0
    refine ⟨b, off, cs', rfl, block_lt_of_cell c0, fun j v hj => ?_, hlc, ?_⟩
    · have hjl := (List.getElem?_eq_some_iff.1 hj).1
      have := hc j (by omega)
      rw [hj] at this
      simpa [Addr.add_lit] using this
    · have h6 : (elems.map (·.1)).getD i .nil = z.1 := by simp [List.getD, h5]
      show Q cs' ((elems.map (·.1)).getD i .nil)
      rw [h6]
      exact hQ _ _ _ (by omega) h2

theorem open_u8 {t : TypeId} (ht : P.underlying t = some (.int .u8)) (h : DataW.trod enc P W 0 (fun _ => true) true n t cs = some x) : ∃ m : Nat, cs = [bv m] ∧ m < 256 := by
  obtain ⟨k, e, _, hw⟩ := DataW.trod_int ht h
  rw [Lit.wf_int_iff] at hw
  have h1 : (0 : Int) ≤ k := hw.1
  have h2 : k ≤ 255 := hw.2
  refine ⟨k.toNat, ?_, by omega⟩
  rw [e]
  simp [bv, Int.toNat_of_nonneg h1]
/-- Bytes that came in. -/
theorem open_bytes {t e : TypeId} (ht : P.underlying t = some (.slice e)) (he : P.underlying e = some (.int .u8)) (hk : P.cellsOf e = 1) {a : Option Addr} {len cap : Nat}
    (h : DataW.trod enc P W 0 (fun _ => true) true n t [.slice a len cap] = some x) : ∃ l : List Nat, l.length = len ∧ len ≤ cap ∧ cap ≤ maxLen ∧ len + 1 ≤ Rows.uptoBulk x.1 ∧ Bytes W (· < W.heap.size) a l := by
  obtain ⟨q1, q2, q3, D, q4, q5⟩ := open_rows (Q := fun cs _ => ∃ m : Nat, cs = [bv m] ∧ m < 256) ht hk (by omega) (fun n cs x _ hx => open_u8 he hx) h
  obtain ⟨f, hf⟩ := pick_all (α := Nat) (p := fun i m => m < 256 ∧ ∃ b o, a = some ⟨b, o, none⟩ ∧ b < W.heap.size ∧ W.rangeAt b (o + i) [bv m]) len (fun i hi => by
    obtain ⟨b, o, cs, h1, h2, h3, _, m, rfl, h4⟩ := q5 i hi
    exact ⟨m, h4, b, o, h1, h2, by simpa using h3⟩)
  refine ⟨(List.range len).map f, by simp, q1, q2, q3, fun i y hy => ?_⟩
  have hi := (List.getElem?_eq_some_iff.1 hy).1
  simp only [List.length_map, List.length_range] at hi
  rw [List.getElem?_map, List.getElem?_range hi] at hy
  obtain rfl : f i = y := by simpa using hy
  obtain ⟨k1, b, o, k2, k3, k4⟩ := hf i hi
  exact ⟨k1, b, o, k2, k3, k3, by simpa using k4 0 _ rfl⟩

/-- The shape of a type's values. -/
def foldO (f : TypeId → Option Sch) : List TypeId → Option (List Sch)
  | [] => some []
  | t :: r => match f t with
    | none => none
    | some s => match foldO f r with
      | none => none
      | some l => some (s :: l)
def offs (P : Program) : Nat → List Field → Bool
  | _, [] => true
  | o, f :: r => (f.offset == o) && offs P (o + P.cellsOf f.type) r
def schOf (P : Program) : Nat → TypeId → Option Sch
  | 0, _ => none
  | n + 1, t => match P.underlying t with
    | some (.int .i64) => some .num
    | some .bool => some .flag
    | some (.slice e) => match P.underlying e with
      | some (.int .u8) => if P.cellsOf e = 1 then some .raw else none
      | _ => match schOf P n e with
        | none => none
        | some s => if P.cellsOf e = s.size ∧ 0 < s.size then some (.list s) else none
    | some (.struct fs) => if offs P 0 fs.toList = true ∧ P.cellsOf t = (fs.toList.map fun g => P.cellsOf g.type).sum then (foldO (schOf P n) (fs.toList.map (·.type))).map tup else none
    | _ => none

/-- Fields one behind the other, opened. -/
theorem open_fields {k : Nat} {f : TypeId → Option Sch} (hf : ∀ t s cs x, f t = some s → DataW.trod enc P W 0 (fun _ => true) true k t cs = some x → ∃ v, s.Rep W (· < W.heap.size) cs v ∧ s.wmax v ≤ 6 * Rows.uptoBulk x.1) :
    ∀ (fs : List Field) (o : Nat) (cs : List Value) (xs : List (DataW H × List MemPlace)) (ss : List Sch), offs P o fs = true → foldO f (fs.map (·.type)) = some ss → xs.length = fs.length →
      (∀ (i : Nat) (g : Field), fs[i]? = some g → DataW.trod enc P W 0 (fun _ => true) true k g.type ((cs.drop g.offset).take (P.cellsOf g.type)) = xs[i]?) →
      cs.length = o + (fs.map fun g => P.cellsOf g.type).sum →
      ∃ v, (tup ss).Rep W (· < W.heap.size) (cs.drop o) v ∧ (tup ss).wmax v ≤ 6 * Rows.uptoBulkAll (xs.map (·.1))
  | [], o, cs, xs, ss, _, h2, h3, _, h5 => by
    simp only [List.map_nil, foldO, Option.some.injEq] at h2
    subst h2
    simp only [List.map_nil, List.sum_nil, Nat.add_zero] at h5
    refine ⟨.unit, ⟨by rw [List.drop_eq_nil_of_le (by omega)], rfl⟩, by simp [tup, Sch.wmax]⟩
  | g :: r, o, cs, xs, ss, h1, h2, h3, h4, h5 => by
    simp only [offs, Bool.and_eq_true, beq_iff_eq] at h1
    obtain ⟨h1, h1'⟩ := h1
    simp only [List.map_cons, foldO] at h2
    cases hs : f g.type with
    | none => simp [hs] at h2
    | some s =>
      cases hl : foldO f (r.map (·.type)) with
      | none => simp [hs, hl] at h2
      | some l =>
        obtain rfl : s :: l = ss := by simpa [hs, hl] using h2
        match xs, h3 with
        | x :: xr, h3 =>
          have h40 := h4 0 g rfl
          simp only [List.getElem?_cons_zero, h1] at h40
          obtain ⟨v, k1, k2⟩ := hf _ _ _ _ hs h40
          simp only [List.map_cons, List.sum_cons] at h5
          obtain ⟨v', m1, m2⟩ := open_fields hf r (o + P.cellsOf g.type) cs xr l h1' hl (by simpa using h3) (fun i g' hg' => by simpa using h4 (i + 1) g' (by simpa using hg')) (by omega)
          refine ⟨.pair v v', ⟨_, _, _, _, ?_, rfl, k1, m1⟩, ?_⟩
          · rw [← List.drop_drop, List.take_append_drop]
          · simp only [List.map_cons, Rows.uptoBulkAll]
            show s.wmax v + (tup l).wmax v' ≤ _
            omega

theorem open_sch : ∀ (m : Nat) (t : TypeId) (s : Sch) (n : Nat) (cs : List Value) (x : DataW H × List MemPlace), schOf P m t = some s →
    DataW.trod enc P W 0 (fun _ => true) true n t cs = some x → ∃ v, s.Rep W (· < W.heap.size) cs v ∧ s.wmax v ≤ 6 * Rows.uptoBulk x.1
  | 0, _, _, _, _, _, h, _ => by simp [schOf] at h
  | m + 1, t, s, n, cs, x, h, hx => by
    have b1 := bulk_one x.1
    unfold schOf at h
    split at h
    · rename_i hu
      obtain rfl : Sch.num = s := by simpa using h
      obtain ⟨k, rfl, _, _⟩ := DataW.trod_int hu hx
      exact ⟨_, ⟨k, rfl, rfl⟩, by simp only [Sch.wmax]; omega⟩
    · rename_i hu
      obtain rfl : Sch.flag = s := by simpa using h
      obtain ⟨k, rfl, _⟩ := DataW.trod_bool hu hx
      exact ⟨_, ⟨k, rfl, rfl⟩, by simp only [Sch.wmax]; omega⟩
    · rename_i e hu
      obtain ⟨a, len, cap, rfl⟩ : ∃ a len cap, cs = [.slice a len cap] := by
        rcases DataW.trod_slice hu hx with ⟨e, _⟩ | ⟨a, len, cap, _, _, _, _, e, _⟩
        · exact ⟨none, 0, 0, e⟩
        · exact ⟨some a, len, cap, e⟩
      split at h
      · rename_i he
        split at h
        · rename_i h1
          obtain rfl : Sch.raw = s := by simpa using h
          obtain ⟨l, rfl, _, _, q4, q5⟩ := open_bytes hu he h1 hx
          exact ⟨_, ⟨a, cap, l, rfl, rfl, q5⟩, by simp only [Sch.wmax]; omega⟩
        · cases h
      · split at h
        · cases h
        · rename_i s' hs'
          split at h
          · rename_i h1
            obtain rfl : Sch.list s' = s := by simpa using h
            obtain ⟨_, _, q3, D, q4, q5⟩ := open_rows (Q := fun cs x => ∃ v, s'.Rep W (· < W.heap.size) cs v ∧ s'.wmax v ≤ 6 * Rows.uptoBulk x) hu h1.1 h1.2 (fun n cs x _ hx => open_sch m e s' n cs x hs' hx) hx
            obtain ⟨f, hf⟩ := pick_all (α := Val) (p := fun i v => ∃ b o us, a = some ⟨b, o, none⟩ ∧ b < W.heap.size ∧ W.rangeAt b (o + i * s'.size) us ∧ s'.Rep W (· < W.heap.size) us v ∧ s'.wmax v ≤ 6 * Rows.uptoBulk (D i)) len (fun i hi => by
              obtain ⟨b, o, cs, h1, h2, h3, _, v, h4, h5⟩ := q5 i hi
              exact ⟨v, b, o, cs, h1, h2, h3, h4, h5⟩)
            refine ⟨.list ((List.range len).map f), ⟨a, cap, _, by simp, rfl, fun i y hy => ?_⟩, ?_⟩
            · have hi := (List.getElem?_eq_some_iff.1 hy).1
              simp only [List.length_map, List.length_range] at hi
              rw [List.getElem?_map, List.getElem?_range hi] at hy
              obtain rfl : f i = y := by simpa using hy
              obtain ⟨b, o, us, k1, k2, k3, k4, _⟩ := hf i hi
              exact ⟨b, o, us, k1, k2, k2, k3, k4⟩
            · have h6 := sum_le (f := fun i => s'.wmax (f i)) (g := fun i => 6 * Rows.uptoBulk (D i)) len (fun i hi => by
                obtain ⟨b, o, us, k1, k2, k3, k4, k5⟩ := hf i hi
                exact k5)
              rw [sum_mul6] at h6
              simp only [Sch.wmax, List.map_map]
              have : (List.map (s'.wmax ∘ f) (List.range len)).sum = ((List.range len).map fun i => s'.wmax (f i)).sum := rfl
              omega
          · cases h
    · rename_i fs hu
      split at h
      · rename_i ho
        obtain ⟨ss, hss, rfl⟩ := Option.map_eq_some_iff.1 h
        obtain ⟨xs, k, _, rfl, hl, hlen, hf⟩ := DataW.trod_struct hu hx
        obtain ⟨v, k1, k2⟩ := open_fields (fun t s cs x h1 h2 => open_sch m t s k cs x h1 h2) fs.toList 0 cs xs ss ho.1 hss (by simpa using hlen) (fun i g hg => hf i g (by simpa using hg)) (by rw [hl, ho.2]; omega)
        exact ⟨v, by simpa using k1, by simp only [Rows.uptoBulk]; omega⟩
      · cases h
    · cases h
/-- Bytes that were handed in. -/
theorem arg_bytes {t e : TypeId} (ht : P.underlying t = some (.slice e)) (he : P.underlying e = some (.int .u8)) (hk : P.cellsOf e = 1) {a : Option Addr} {len cap : Nat} {d : DataW H} {p : List MemPlace}
    (h : DataW.Trod enc P W 0 (fun _ => true) true t (.slice a len cap) d p) : ∃ l : List Nat, l.length = len ∧ len ≤ cap ∧ cap ≤ maxLen ∧ len + 1 ≤ Rows.uptoBulk d ∧ Bytes W (· < W.heap.size) a l := by
  obtain ⟨m, hm⟩ := h
  exact open_bytes ht he hk hm
theorem list_of {s : Sch} {ok : Nat → Prop} {a : Option Addr} {len cap : Nat} {v : Val} (h : (Sch.list s).Rep W ok [.slice a len cap] v) : ∃ l : List Val, len = l.length ∧ v = .list l := by
  obtain ⟨a', c', l, h1, h2, _⟩ := h
  simp only [List.cons.injEq, Value.slice.injEq, and_true] at h1
  exact ⟨l, h1.2.1, h2⟩
/-- A list that was handed in. -/
theorem arg_list {t : TypeId} {m : Nat} {s : Sch} (hs : schOf P m t = some s) {a : Option Addr} {len cap : Nat} {d : DataW H} {p : List MemPlace} (h : DataW.Trod enc P W 0 (fun _ => true) true t (.slice a len cap) d p) :
    ∃ v, s.Rep W (· < W.heap.size) [.slice a len cap] v ∧ s.wmax v ≤ 6 * Rows.uptoBulk d := by
  obtain ⟨k, hk⟩ := h
  exact open_sch m t s k _ _ hs hk
/-- A record that was handed in. -/
theorem arg_sch {t : TypeId} {m : Nat} {s : Sch} (hs : schOf P m t = some s) {cs : Array Value} {d : DataW H} {p : List MemPlace} (h : DataW.Trod enc P W 0 (fun _ => true) true t (.agg cs) d p) :
    ∃ v, s.Rep W (· < W.heap.size) cs.toList v ∧ s.wmax v ≤ 6 * Rows.uptoBulk d := by
  obtain ⟨k, hk⟩ := h
  exact open_sch m t s k _ _ hs hk
end
end Go.Proofs.YthclnpigplcckaaGreat
/- What the program's first words say, once for all statements. -/
namespace Go.Proofs.YthclnpigplcckaaGreat
open Go.ChangeShapes Go.WideShapes Go.ChangeAt
theorem Tryz.words : (Tryz.prog.mayEnter, Tryz.prog.liftsFinal, Tryz.prog.make) = (true, false, some .cut) := by kernel_rfl
theorem Tryz.words1 : Tryz.prog.mayEnter = true := (Prod.mk.inj Tryz.words).1
theorem Tryz.words2 : Tryz.prog.liftsFinal = false := (Prod.mk.inj (Prod.mk.inj Tryz.words).2).1
theorem Tryz.words3 : Tryz.prog.make = some .cut := (Prod.mk.inj (Prod.mk.inj Tryz.words).2).2
end Go.Proofs.YthclnpigplcckaaGreat
