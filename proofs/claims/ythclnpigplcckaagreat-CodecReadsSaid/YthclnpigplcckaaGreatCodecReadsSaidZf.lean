/- A part of the proof of CodecReadsSaid: the texts that it leans on, one behind the other. No condition but those that each theorem states. -/
import Derived.Test.YthclnpigplcckaaGreatCodecReadsSaidZe
set_option linter.unusedVariables false
set_option linter.unusedSimpArgs false
/- The reference's job, written. -/
namespace Go.Proofs.YthclnpigplcckaaGreat
open Go.RowKit Go.Lb Go.Rc

set_option maxRecDepth 20000 in
set_option maxHeartbeats 4000000 in
theorem ojob_writes : OWrites 100 sJob := fun B X f cs v o b w h hr hl => by
  have hlen : cs.length = 7 := hr.len
  have k0 : (tup [.num, .num, .num, .num, .list sGroup, .num, .flag]).Rep w (· < B) cs v := hr
  obtain ⟨_, _, v0, y1, -, rfl, ⟨n0, -, rfl⟩, k1⟩ := Sch.Rep.tup_cons k0
  obtain ⟨_, _, v1, y2, -, rfl, ⟨n1, -, rfl⟩, k2⟩ := Sch.Rep.tup_cons k1
  obtain ⟨_, _, v2, y3, -, rfl, ⟨n2, -, rfl⟩, k3⟩ := Sch.Rep.tup_cons k2
  obtain ⟨_, _, v3, y4, -, rfl, ⟨n3, -, rfl⟩, k4⟩ := Sch.Rep.tup_cons k3
  obtain ⟨_, _, v4, y5, -, rfl, ⟨-, -, l4, -, rfl, -⟩, k5⟩ := Sch.Rep.tup_cons k4
  obtain ⟨_, _, v5, y6, -, rfl, ⟨n5, -, rfl⟩, k6⟩ := Sch.Rep.tup_cons k5
  obtain ⟨_, _, v6, y7, -, rfl, ⟨t6, -, rfl⟩, k7⟩ := Sch.Rep.tup_cons k6
  obtain ⟨-, rfl⟩ := Sch.Rep.tup_nil k7
  clear k1 k2 k3 k4 k5 k6 k7
  have H0 := Lib.hid (OWg.start (tp := 25) (rest := [(.num, .num n0), (.num, .num n1), (.num, .num n2), (.num, .num n3), (.list sGroup, .list l4), (.num, .num n5), (.flag, .flag t6)]) h hr (by have := tup_wmax [(.num, .num n0), (.num, .num n1), (.num, .num n2), (.num, .num n3), (.list sGroup, .list l4), (.num, .num n5), (.flag, .flag t6)]; rw [← this]; exact hl) (Blk.new w 25 cs) ((Upd.refl _ _).alloc _))
  have hB := h.base
  clear h hr hl k0
  show Calls Tryz.prog _ #[_, .agg cs.toArray] _ _
  go_enter Tryz.func100, Tryz.ntmps100
  have e0 := WrG.numAt (q := 0) H0.out rfl
  go_wp2_with fail
  refine (OWg.goNum H0.out).mono ?_
  rintro e w1 ⟨rfl, o1, b1, h⟩
  have H1 := Lib.hid h
  clear h e0
  have e1 := WrG.numAt (q := 1) H1.out rfl
  go_wp2_with fail
  refine (OWg.goNum H1.out).mono ?_
  rintro e w2 ⟨rfl, o2, b2, h⟩
  have H2 := Lib.hid h
  clear h e1
  have e2 := WrG.numAt (q := 2) H2.out rfl
  go_wp2_with fail
  refine (OWg.goNum H2.out).mono ?_
  rintro e w3 ⟨rfl, o3, b3, h⟩
  have H3 := Lib.hid h
  clear h e2
  have e3 := WrG.numAt (q := 3) H3.out rfl
  go_wp2_with fail
  refine (OWg.goNum H3.out).mono ?_
  rintro e w4 ⟨rfl, o4, b4, h⟩
  have H4 := Lib.hid h
  clear h e3
  obtain ⟨a4, c4, e4, r4⟩ := WrG.listAt (q := 4) H4.out rfl
  have HA4 : Hid (Elems w4 (· < B) sGroup 3 a4 l4) := Lib.hid (list_elems r4).2
  have hwl4 := H4.out.len
  rw [wsum_cons] at hwl4
  have HL4 : Hid (o4.length + (Sch.list sGroup).wmax (.list l4) ≤ 1099511627776) := Lib.hid (by dsimp only at hwl4; omega)
  have hps4 := H4.out.fw.1 w.heap.size (by simp)
  have hll4 : l4.length ≤ 1099511627776 := elems_len HA4.out HL4.out rfl
  clear r4 hwl4
  go_wp2_with fail
  refine (OWg.goCount H4.out).mono ?_
  rintro e w4x ⟨rfl, o4x, b4x, h1, h2, h3⟩
  have p4 := (h2.cell (o := 4) hps4 (.inr (by simp))).trans e4
  have H1x := Lib.hid h1
  have H2x := Lib.hid h2
  have H3x := Lib.hid h3
  clear h1 h2 h3
  go_wp2_with fail
  go_loopg [4] l4.length (fun g t wr => ∃ (i : Nat) (o' : List Nat) (b' : Bool), t = .int .i64 i ∧ l4.length - i = g ∧ i ≤ l4.length ∧ Ow B (w.heap.size :: X) wr f o' b' ∧ Kp B (w.heap.size :: X) w4 wr ∧ LWk sGroup l4.length (l4.take i) o4 b4 o' b')
  case atStart => exact ⟨0, o4x, b4x, rfl, rfl, by omega, H1x.out, H2x.out, H3x.out⟩
  case round =>
    obtain ⟨i, o', b', rfl, hg, hi, hF, hK, hW⟩ := hrel
    have HG := Lib.hid hg
    have HF := Lib.hid hF
    have HK := Lib.hid hK
    have HW := Lib.hid hW
    have r0 := (hK.cell (o := 4) hps4 (.inr (by simp))).trans e4
    clear hg hF hK hW p4
    by_cases hlt : i < l4.length
    · have t1 : decide (i < l4.length) = true := by simpa using hlt
      obtain ⟨x, hx⟩ : ∃ x, l4[i]? = some x := ⟨_, List.getElem?_eq_getElem hlt⟩
      obtain ⟨b0, o0, us, rfl, hb0, hbl, hrg, hrep⟩ := HA4.out i x hx
      have hrep := hrep.keep (ok' := (· < B)) (fun k hk hl => ⟨hk, HK.out.block k hl (.inl hk)⟩) HK.out.size
      have hrg : wr.rangeAt b0 (o0 + i * 3) us := rangeAt_keep hrg (HK.out.block b0 hbl (.inl hb0))
      have hblr : b0 < wr.heap.size := Nat.lt_of_lt_of_le hbl HK.out.size
      have HWL := Lib.hid (HW.out.room hx HL4.out)
      have Hx := Lib.hid hx
      clear hx
      have hrepc := hrep
      obtain ⟨_, _, zv0, zy1, -, rfl, ⟨zn0, -, rfl⟩, zk1⟩ := Sch.Rep.tup_cons hrepc
      obtain ⟨_, _, zv1, zy2, -, rfl, -, zk2⟩ := Sch.Rep.tup_cons zk1
      obtain ⟨-, rfl⟩ := Sch.Rep.tup_nil zk2
      clear zk1 zk2
      have hlw := HWL.out
      have G0 : Hid (OWg B (w.heap.size :: X) f b0 (o0 + i * 3) wr wr o' b' o' b' [] [(.num, .num zn0), (sRes, zv1)]) := Lib.hid (WrG.start HF.out (.inl hb0) hblr hrg hrep (by have := tup_wmax [(.num, .num zn0), (sRes, zv1)]; rw [← this]; exact hlw))
      clear hrg hrep hlw
      have u0 := WrG.numAt (q := o0 + i * 3) G0.out rfl
      go_wp2_with fail
      refine (OWg.goNum G0.out).mono ?_
      rintro e y1 ⟨rfl, o1', b1', h⟩
      have G1 := Lib.hid h
      clear h u0
      have r1 := (G1.out.kp.cell (o := 4) (b := w.heap.size) (by have := HK.out.size; omega) (.inr (by simp))).trans r0
      obtain ⟨c1z, r1z, g1z⟩ := WrG.range (q := o0 + i * 3 + 1) G1.out rfl
      have hl1z : c1z.length = 2 := r1z.len
      have RG := Lib.hid g1z
      have RR := Lib.hid r1z
      clear g1z r1z
      go_wp2_with (refine wpList_load_mid rfl 27 _ rfl b0 (o0 + i * 3 + 1) rfl c1z _ RG.out Tryz.underlying27 rfl (by rw [hl1z]; exact Tryz.size27) ?_)
      refine (OWg.go ores_writes G1.out RR.out).mono ?_
      rintro e y2 ⟨rfl, o2', b2', h⟩
      have G2 := Lib.hid h
      clear h
      clear r1
      have H1 := Lib.hid G2.out.fw
      have H2 := Lib.hid G2.out.kp
      have H3 := Lib.hid (HW.out.snoc (s := sGroup) (WSeq.tup G2.out.seq))
      go_wp2_with fail
      go_roundg (l4.length - (i + 1))
      case measure => have := HG.out; omega
      case rel => exact ⟨i + 1, o2', b2', by go_num, rfl, by omega, H1.out, HK.out.trans H2.out, by rw [take_snoc Hx.out]; exact H3.out⟩
    · obtain rfl : i = l4.length := by omega
      have t1 : decide (l4.length < l4.length) = false := by simp
      have hfin := HW.out
      rw [List.take_length] at hfin
      have H5 := Lib.hid (WrG.next (m := [(.list sGroup, .list l4)]) H4.out HF.out HK.out (WSeq.one (LWk.fin hfin)))
      clear hfin e4
      clear HF HW HG hlt hi
      obtain ⟨ws5, hz⟩ : ∃ z, z = wr := ⟨_, rfl⟩
      subst hz
      obtain ⟨os5, hz⟩ : ∃ z, z = o' := ⟨_, rfl⟩
      subst hz
      obtain ⟨bs5, hz⟩ : ∃ z, z = b' := ⟨_, rfl⟩
      subst hz
      clear HK
      have e5 := WrG.numAt (q := 5) H5.out rfl
      go_wp2_with fail
      refine (OWg.goNum H5.out).mono ?_
      rintro e w6 ⟨rfl, o6, b6, h⟩
      have H6 := Lib.hid h
      clear h e5
      have e6 := WrG.flagAt (q := 6) H6.out rfl
      go_wp2_with fail
      refine (OWg.goFlag H6.out).mono ?_
      rintro e w7 ⟨rfl, o7, b7, h⟩
      have H7 := Lib.hid h
      clear h e6
      go_wp2_with fail
      go_end0
      exact OWg.fin H7.out ((Upd.refl _ _).alloc _) rfl rfl
end Go.Proofs.YthclnpigplcckaaGreat
/- The reference's node, written. -/
namespace Go.Proofs.YthclnpigplcckaaGreat
open Go.RowKit Go.Lb Go.Rc

set_option maxRecDepth 20000 in
set_option maxHeartbeats 4000000 in
theorem onode_writes : OWrites 101 sNode := fun B X f cs v o b w h hr hl => by
  have hlen : cs.length = 8 := hr.len
  have k0 : (tup [.num, sRes, .flag, .flag, .num, .num, .num]).Rep w (· < B) cs v := hr
  obtain ⟨_, _, v0, y1, -, rfl, ⟨n0, -, rfl⟩, k1⟩ := Sch.Rep.tup_cons k0
  obtain ⟨_, _, v1, y2, -, rfl, -, k2⟩ := Sch.Rep.tup_cons k1
  obtain ⟨_, _, v2, y3, -, rfl, ⟨t2, -, rfl⟩, k3⟩ := Sch.Rep.tup_cons k2
  obtain ⟨_, _, v3, y4, -, rfl, ⟨t3, -, rfl⟩, k4⟩ := Sch.Rep.tup_cons k3
  obtain ⟨_, _, v4, y5, -, rfl, ⟨n4, -, rfl⟩, k5⟩ := Sch.Rep.tup_cons k4
  obtain ⟨_, _, v5, y6, -, rfl, ⟨n5, -, rfl⟩, k6⟩ := Sch.Rep.tup_cons k5
  obtain ⟨_, _, v6, y7, -, rfl, ⟨n6, -, rfl⟩, k7⟩ := Sch.Rep.tup_cons k6
  obtain ⟨-, rfl⟩ := Sch.Rep.tup_nil k7
  clear k1 k2 k3 k4 k5 k6 k7
  have H0 := Lib.hid (OWg.start (tp := 29) (rest := [(.num, .num n0), (sRes, v1), (.flag, .flag t2), (.flag, .flag t3), (.num, .num n4), (.num, .num n5), (.num, .num n6)]) h hr (by have := tup_wmax [(.num, .num n0), (sRes, v1), (.flag, .flag t2), (.flag, .flag t3), (.num, .num n4), (.num, .num n5), (.num, .num n6)]; rw [← this]; exact hl) (Blk.new w 29 cs) ((Upd.refl _ _).alloc _))
  have hB := h.base
  clear h hr hl k0
  show Calls Tryz.prog _ #[_, .agg cs.toArray] _ _
  go_enter Tryz.func101, Tryz.ntmps101
  have e0 := WrG.numAt (q := 0) H0.out rfl
  go_wp2_with fail
  refine (OWg.goNum H0.out).mono ?_
  rintro e w1 ⟨rfl, o1, b1, h⟩
  have H1 := Lib.hid h
  clear h e0
  obtain ⟨c1, r1, g1⟩ := WrG.range (q := 1) H1.out rfl
  have hl1 : c1.length = 2 := r1.len
  have G1 := Lib.hid g1
  have R1 := Lib.hid r1
  clear g1 r1
  go_wp2_with (refine wpList_load_mid rfl 27 _ rfl w.heap.size 1 rfl c1 _ G1.out Tryz.underlying27 rfl (by rw [hl1]; exact Tryz.size27) ?_)
  refine (OWg.go ores_writes H1.out R1.out).mono ?_
  rintro e w2 ⟨rfl, o2, b2, h⟩
  have H2 := Lib.hid h
  clear h
  have e2 := WrG.flagAt (q := 3) H2.out rfl
  go_wp2_with fail
  refine (OWg.goFlag H2.out).mono ?_
  rintro e w3 ⟨rfl, o3, b3, h⟩
  have H3 := Lib.hid h
  clear h e2
  have e3 := WrG.flagAt (q := 4) H3.out rfl
  go_wp2_with fail
  refine (OWg.goFlag H3.out).mono ?_
  rintro e w4 ⟨rfl, o4, b4, h⟩
  have H4 := Lib.hid h
  clear h e3
  have e4 := WrG.numAt (q := 5) H4.out rfl
  go_wp2_with fail
  refine (OWg.goNum H4.out).mono ?_
  rintro e w5 ⟨rfl, o5, b5, h⟩
  have H5 := Lib.hid h
  clear h e4
  have e5 := WrG.numAt (q := 6) H5.out rfl
  go_wp2_with fail
  refine (OWg.goNum H5.out).mono ?_
  rintro e w6 ⟨rfl, o6, b6, h⟩
  have H6 := Lib.hid h
  clear h e5
  have e6 := WrG.numAt (q := 7) H6.out rfl
  go_wp2_with fail
  refine (OWg.goNum H6.out).mono ?_
  rintro e w7 ⟨rfl, o7, b7, h⟩
  have H7 := Lib.hid h
  clear h e6
  go_wp2_with fail
  go_end0
  exact OWg.fin H7.out ((Upd.refl _ _).alloc _) rfl rfl
end Go.Proofs.YthclnpigplcckaaGreat
/- The reference's Nums, writing. -/
namespace Go.Proofs.YthclnpigplcckaaGreat
open Go.RowKit Go.Lb Go.Rc

set_option maxRecDepth 20000 in
set_option maxHeartbeats 2000000 in
theorem onums_writes : OWrites 115 (.list .num) := fun B X f cs v o b w h hr hl => by
  obtain ⟨a, c, l, rfl, rfl, hall⟩ := hr
  have HA : Hid (Elems w (· < B) .num 1 a l) := Lib.hid hall
  have H := Lib.hid h
  have HL := Lib.hid hl
  have hll : l.length ≤ 1099511627776 := elems_len hall hl rfl
  have hl1 : o.length + 6 ≤ 1099511627776 := by simp only [Sch.wmax] at hl; omega
  have hB := h.base
  clear h hall hl
  show Calls Tryz.prog _ #[_, .slice a l.length c] _ _
  go_enter Tryz.func115, Tryz.ntmps115
  go_wp2_with fail
  refine (ocount_w B X f l.length o b _ H.out hl1).mono ?_
  rintro e w1 ⟨rfl, o1, b1, h1, h2, h3⟩
  have H1 := Lib.hid h1
  have H2 := Lib.hid h2
  have H3 : Hid (LWk .num l.length [] o b o1 b1) := Lib.hid (LWk.start h3)
  clear h1 h2 h3
  go_wp2_with fail
  go_loopg [4] l.length (fun g t wr => ∃ (i : Nat) (o' : List Nat) (b' : Bool), t = .int .i64 i ∧ l.length - i = g ∧ i ≤ l.length ∧ Ow B X wr f o' b' ∧ Kp B X w wr ∧ LWk .num l.length (l.take i) o b o' b')
  case atStart => exact ⟨0, o1, b1, rfl, rfl, by omega, H1.out, H2.out, H3.out⟩
  case round =>
    obtain ⟨i, o', b', rfl, hg, hi, hF, hK, hW⟩ := hrel
    have HG := Lib.hid hg
    have HF := Lib.hid hF
    have HK := Lib.hid hK
    have HW := Lib.hid hW
    clear hg hF hK hW
    by_cases hlt : i < l.length
    · have t1 : decide (i < l.length) = true := by simpa using hlt
      obtain ⟨x, hx⟩ : ∃ x, l[i]? = some x := ⟨_, List.getElem?_eq_getElem hlt⟩
      obtain ⟨b0, o0, us, rfl, hb0, hbl, hrg, hrep⟩ := HA.out i x hx
      have hrep := hrep.keep (ok' := (· < B)) (fun k hk hl => ⟨hk, HK.out.block k hl (.inl hk)⟩) HK.out.size
      have hrg : wr.rangeAt b0 (o0 + i * 1) us := rangeAt_keep hrg (HK.out.block b0 hbl (.inl hb0))
      have HWL := Lib.hid (HW.out.room hx HL.out)
      have Hx := Lib.hid hx
      clear hx
      obtain ⟨nn, rfl, rfl⟩ := hrep
      have e0 := hrg 0 _ rfl
      rw [Nat.mul_one, Nat.add_zero] at e0
      clear hrg
      go_wp2_with fail
      refine (onum_writes B X f [.int .i64 nn] (.num nn) o' b' _ HF.out (Sch.Rep.num_mk nn) HWL.out).mono ?_
      rintro e w2 ⟨rfl, o2, b2, h1, h2, h3⟩
      have H1 := Lib.hid h1
      have H2 := Lib.hid h2
      have H3 := Lib.hid (HW.out.snoc h3)
      clear h1 h2 h3
      go_wp2_with fail
      go_roundg (l.length - (i + 1))
      case measure => have := HG.out; omega
      case rel => exact ⟨i + 1, o2, b2, by go_num, rfl, by omega, H1.out, HK.out.trans H2.out, by rw [take_snoc Hx.out]; exact H3.out⟩
    · obtain rfl : i = l.length := by omega
      have t1 : decide (l.length < l.length) = false := by simp
      go_wp2_with fail
      go_end0
      refine ⟨rfl, o', b', HF.out, HK.out, LWk.fin ?_⟩
      have := HW.out
      rwa [List.take_length] at this
end Go.Proofs.YthclnpigplcckaaGreat
/- The reference's alloc, written. -/
namespace Go.Proofs.YthclnpigplcckaaGreat
open Go.RowKit Go.Lb Go.Rc

set_option maxRecDepth 20000 in
set_option maxHeartbeats 4000000 in
theorem oalloc_writes : OWrites 116 sAlloc := fun B X f cs v o b w h hr hl => by
  have hlen : cs.length = 11 := hr.len
  have k0 : (tup [.num, .num, .num, .num, .num, .num, .num, sRes, .flag, .num]).Rep w (· < B) cs v := hr
  obtain ⟨_, _, v0, y1, -, rfl, ⟨n0, -, rfl⟩, k1⟩ := Sch.Rep.tup_cons k0
  obtain ⟨_, _, v1, y2, -, rfl, ⟨n1, -, rfl⟩, k2⟩ := Sch.Rep.tup_cons k1
  obtain ⟨_, _, v2, y3, -, rfl, ⟨n2, -, rfl⟩, k3⟩ := Sch.Rep.tup_cons k2
  obtain ⟨_, _, v3, y4, -, rfl, ⟨n3, -, rfl⟩, k4⟩ := Sch.Rep.tup_cons k3
  obtain ⟨_, _, v4, y5, -, rfl, ⟨n4, -, rfl⟩, k5⟩ := Sch.Rep.tup_cons k4
  obtain ⟨_, _, v5, y6, -, rfl, ⟨n5, -, rfl⟩, k6⟩ := Sch.Rep.tup_cons k5
  obtain ⟨_, _, v6, y7, -, rfl, ⟨n6, -, rfl⟩, k7⟩ := Sch.Rep.tup_cons k6
  obtain ⟨_, _, v7, y8, -, rfl, -, k8⟩ := Sch.Rep.tup_cons k7
  obtain ⟨_, _, v8, y9, -, rfl, ⟨t8, -, rfl⟩, k9⟩ := Sch.Rep.tup_cons k8
  obtain ⟨_, _, v9, y10, -, rfl, ⟨n9, -, rfl⟩, k10⟩ := Sch.Rep.tup_cons k9
  obtain ⟨-, rfl⟩ := Sch.Rep.tup_nil k10
  clear k1 k2 k3 k4 k5 k6 k7 k8 k9 k10
  have H0 := Lib.hid (OWg.start (tp := 162) (rest := [(.num, .num n0), (.num, .num n1), (.num, .num n2), (.num, .num n3), (.num, .num n4), (.num, .num n5), (.num, .num n6), (sRes, v7), (.flag, .flag t8), (.num, .num n9)]) h hr (by have := tup_wmax [(.num, .num n0), (.num, .num n1), (.num, .num n2), (.num, .num n3), (.num, .num n4), (.num, .num n5), (.num, .num n6), (sRes, v7), (.flag, .flag t8), (.num, .num n9)]; rw [← this]; exact hl) (Blk.new w 162 cs) ((Upd.refl _ _).alloc _))
  have hB := h.base
  clear h hr hl k0
  show Calls Tryz.prog _ #[_, .agg cs.toArray] _ _
  go_enter Tryz.func116, Tryz.ntmps116
  have e0 := WrG.numAt (q := 0) H0.out rfl
  go_wp2_with fail
  refine (OWg.goNum H0.out).mono ?_
  rintro e w1 ⟨rfl, o1, b1, h⟩
  have H1 := Lib.hid h
  clear h e0
  have e1 := WrG.numAt (q := 1) H1.out rfl
  go_wp2_with fail
  refine (OWg.goNum H1.out).mono ?_
  rintro e w2 ⟨rfl, o2, b2, h⟩
  have H2 := Lib.hid h
  clear h e1
  have e2 := WrG.numAt (q := 2) H2.out rfl
  go_wp2_with fail
  refine (OWg.goNum H2.out).mono ?_
  rintro e w3 ⟨rfl, o3, b3, h⟩
  have H3 := Lib.hid h
  clear h e2
  have e3 := WrG.numAt (q := 3) H3.out rfl
  go_wp2_with fail
  refine (OWg.goNum H3.out).mono ?_
  rintro e w4 ⟨rfl, o4, b4, h⟩
  have H4 := Lib.hid h
  clear h e3
  have e4 := WrG.numAt (q := 4) H4.out rfl
  go_wp2_with fail
  refine (OWg.goNum H4.out).mono ?_
  rintro e w5 ⟨rfl, o5, b5, h⟩
  have H5 := Lib.hid h
  clear h e4
  have e5 := WrG.numAt (q := 5) H5.out rfl
  go_wp2_with fail
  refine (OWg.goNum H5.out).mono ?_
  rintro e w6 ⟨rfl, o6, b6, h⟩
  have H6 := Lib.hid h
  clear h e5
  have e6 := WrG.numAt (q := 6) H6.out rfl
  go_wp2_with fail
  refine (OWg.goNum H6.out).mono ?_
  rintro e w7 ⟨rfl, o7, b7, h⟩
  have H7 := Lib.hid h
  clear h e6
  obtain ⟨c7, r7, g7⟩ := WrG.range (q := 7) H7.out rfl
  have hl7 : c7.length = 2 := r7.len
  have G7 := Lib.hid g7
  have R7 := Lib.hid r7
  clear g7 r7
  go_wp2_with (refine wpList_load_mid rfl 27 _ rfl w.heap.size 7 rfl c7 _ G7.out Tryz.underlying27 rfl (by rw [hl7]; exact Tryz.size27) ?_)
  refine (OWg.go ores_writes H7.out R7.out).mono ?_
  rintro e w8 ⟨rfl, o8, b8, h⟩
  have H8 := Lib.hid h
  clear h
  have e8 := WrG.flagAt (q := 9) H8.out rfl
  go_wp2_with fail
  refine (OWg.goFlag H8.out).mono ?_
  rintro e w9 ⟨rfl, o9, b9, h⟩
  have H9 := Lib.hid h
  clear h e8
  have e9 := WrG.numAt (q := 10) H9.out rfl
  go_wp2_with fail
  refine (OWg.goNum H9.out).mono ?_
  rintro e w10 ⟨rfl, o10, b10, h⟩
  have H10 := Lib.hid h
  clear h e9
  go_wp2_with fail
  go_end0
  exact OWg.fin H10.out ((Upd.refl _ _).alloc _) rfl rfl
end Go.Proofs.YthclnpigplcckaaGreat
/- The reference's allocs, writing. -/
namespace Go.Proofs.YthclnpigplcckaaGreat
open Go.RowKit Go.Lb Go.Rc

set_option maxRecDepth 20000 in
set_option maxHeartbeats 2000000 in
theorem oallocs_writes : OWrites 112 (.list sAlloc) := fun B X f cs v o b w h hr hl => by
  obtain ⟨a, c, l, rfl, rfl, hall⟩ := hr
  have HA : Hid (Elems w (· < B) sAlloc 11 a l) := Lib.hid hall
  have H := Lib.hid h
  have HL := Lib.hid hl
  have hll : l.length ≤ 1099511627776 := elems_len hall hl rfl
  have hl1 : o.length + 6 ≤ 1099511627776 := by simp only [Sch.wmax] at hl; omega
  have hB := h.base
  clear h hall hl
  show Calls Tryz.prog _ #[_, .slice a l.length c] _ _
  go_enter Tryz.func112, Tryz.ntmps112
  go_wp2_with fail
  refine (ocount_w B X f l.length o b _ H.out hl1).mono ?_
  rintro e w1 ⟨rfl, o1, b1, h1, h2, h3⟩
  have H1 := Lib.hid h1
  have H2 := Lib.hid h2
  have H3 : Hid (LWk sAlloc l.length [] o b o1 b1) := Lib.hid (LWk.start h3)
  clear h1 h2 h3
  go_wp2_with fail
  go_loopg [4] l.length (fun g t wr => ∃ (i : Nat) (o' : List Nat) (b' : Bool), t = .int .i64 i ∧ l.length - i = g ∧ i ≤ l.length ∧ Ow B X wr f o' b' ∧ Kp B X w wr ∧ LWk sAlloc l.length (l.take i) o b o' b')
  case atStart => exact ⟨0, o1, b1, rfl, rfl, by omega, H1.out, H2.out, H3.out⟩
  case round =>
    obtain ⟨i, o', b', rfl, hg, hi, hF, hK, hW⟩ := hrel
    have HG := Lib.hid hg
    have HF := Lib.hid hF
    have HK := Lib.hid hK
    have HW := Lib.hid hW
    clear hg hF hK hW
    by_cases hlt : i < l.length
    · have t1 : decide (i < l.length) = true := by simpa using hlt
      obtain ⟨x, hx⟩ : ∃ x, l[i]? = some x := ⟨_, List.getElem?_eq_getElem hlt⟩
      obtain ⟨b0, o0, us, rfl, hb0, hbl, hrg, hrep⟩ := HA.out i x hx
      have hrep := hrep.keep (ok' := (· < B)) (fun k hk hl => ⟨hk, HK.out.block k hl (.inl hk)⟩) HK.out.size
      have hrg : wr.rangeAt b0 (o0 + i * 11) us := rangeAt_keep hrg (HK.out.block b0 hbl (.inl hb0))
      have HWL := Lib.hid (HW.out.room hx HL.out)
      have Hx := Lib.hid hx
      clear hx
      have HRG := Lib.hid hrg
      have HREP := Lib.hid hrep
      have hus : us.length = 11 := hrep.len
      clear hrg hrep
      go_wp2_with (refine wpList_load_mid rfl 162 _ rfl b0 (o0 + i * 11) rfl us _ HRG.out Tryz.underlying162 rfl (by rw [hus]; exact Tryz.size162) ?_)
      refine (oalloc_writes B X f us x o' b' _ HF.out HREP.out HWL.out).mono ?_
      rintro e w2 ⟨rfl, o2, b2, h1, h2, h3⟩
      have H1 := Lib.hid h1
      have H2 := Lib.hid h2
      have H3 := Lib.hid (HW.out.snoc h3)
      clear h1 h2 h3
      go_wp2_with fail
      go_roundg (l.length - (i + 1))
      case measure => have := HG.out; omega
      case rel => exact ⟨i + 1, o2, b2, by go_num, rfl, by omega, H1.out, HK.out.trans H2.out, by rw [take_snoc Hx.out]; exact H3.out⟩
    · obtain rfl : i = l.length := by omega
      have t1 : decide (l.length < l.length) = false := by simp
      go_wp2_with fail
      go_end0
      refine ⟨rfl, o', b', HF.out, HK.out, LWk.fin ?_⟩
      have := HW.out
      rwa [List.take_length] at this
end Go.Proofs.YthclnpigplcckaaGreat
/- The reference's plan, written. -/
namespace Go.Proofs.YthclnpigplcckaaGreat
open Go.RowKit Go.Lb Go.Rc

set_option maxRecDepth 20000 in
set_option maxHeartbeats 4000000 in
theorem oplan_writes : OWrites 103 sPlan := fun B X f cs v o b w h hr hl => by
  have hlen : cs.length = 6 := hr.len
  have k0 : (tup [.num, .num, .num, .list .num, .list sAlloc, .flag]).Rep w (· < B) cs v := hr
  obtain ⟨_, _, v0, y1, -, rfl, ⟨n0, -, rfl⟩, k1⟩ := Sch.Rep.tup_cons k0
  obtain ⟨_, _, v1, y2, -, rfl, ⟨n1, -, rfl⟩, k2⟩ := Sch.Rep.tup_cons k1
  obtain ⟨_, _, v2, y3, -, rfl, ⟨n2, -, rfl⟩, k3⟩ := Sch.Rep.tup_cons k2
  obtain ⟨_, _, v3, y4, -, rfl, ⟨-, -, l3, -, rfl, -⟩, k4⟩ := Sch.Rep.tup_cons k3
  obtain ⟨_, _, v4, y5, -, rfl, ⟨-, -, l4, -, rfl, -⟩, k5⟩ := Sch.Rep.tup_cons k4
  obtain ⟨_, _, v5, y6, -, rfl, ⟨t5, -, rfl⟩, k6⟩ := Sch.Rep.tup_cons k5
  obtain ⟨-, rfl⟩ := Sch.Rep.tup_nil k6
  clear k1 k2 k3 k4 k5 k6
  have H0 := Lib.hid (OWg.start (tp := 34) (rest := [(.num, .num n0), (.num, .num n1), (.num, .num n2), (.list .num, .list l3), (.list sAlloc, .list l4), (.flag, .flag t5)]) h hr (by have := tup_wmax [(.num, .num n0), (.num, .num n1), (.num, .num n2), (.list .num, .list l3), (.list sAlloc, .list l4), (.flag, .flag t5)]; rw [← this]; exact hl) (Blk.new w 34 cs) ((Upd.refl _ _).alloc _))
  have hB := h.base
  clear h hr hl k0
  show Calls Tryz.prog _ #[_, .agg cs.toArray] _ _
  go_enter Tryz.func103, Tryz.ntmps103
  have e0 := WrG.numAt (q := 0) H0.out rfl
  go_wp2_with fail
  refine (OWg.goNum H0.out).mono ?_
  rintro e w1 ⟨rfl, o1, b1, h⟩
  have H1 := Lib.hid h
  clear h e0
  have e1 := WrG.numAt (q := 1) H1.out rfl
  go_wp2_with fail
  refine (OWg.goNum H1.out).mono ?_
  rintro e w2 ⟨rfl, o2, b2, h⟩
  have H2 := Lib.hid h
  clear h e1
  have e2 := WrG.numAt (q := 2) H2.out rfl
  go_wp2_with fail
  refine (OWg.goNum H2.out).mono ?_
  rintro e w3 ⟨rfl, o3, b3, h⟩
  have H3 := Lib.hid h
  clear h e2
  obtain ⟨a3, c3, e3, r3⟩ := WrG.listAt (q := 3) H3.out rfl
  have R3 := Lib.hid r3
  clear r3
  go_wp2_with fail
  refine (OWg.go (c := [.slice a3 l3.length c3]) onums_writes H3.out R3.out).mono ?_
  rintro e w4 ⟨rfl, o4, b4, h⟩
  have H4 := Lib.hid h
  clear h e3
  obtain ⟨a4, c4, e4, r4⟩ := WrG.listAt (q := 4) H4.out rfl
  have R4 := Lib.hid r4
  clear r4
  go_wp2_with fail
  refine (OWg.go (c := [.slice a4 l4.length c4]) oallocs_writes H4.out R4.out).mono ?_
  rintro e w5 ⟨rfl, o5, b5, h⟩
  have H5 := Lib.hid h
  clear h e4
  have e5 := WrG.flagAt (q := 5) H5.out rfl
  go_wp2_with fail
  refine (OWg.goFlag H5.out).mono ?_
  rintro e w6 ⟨rfl, o6, b6, h⟩
  have H6 := Lib.hid h
  clear h e5
  go_wp2_with fail
  go_end0
  exact OWg.fin H6.out ((Upd.refl _ _).alloc _) rfl rfl
end Go.Proofs.YthclnpigplcckaaGreat
/- The reference's conf, written. -/
namespace Go.Proofs.YthclnpigplcckaaGreat
open Go.RowKit Go.Lb Go.Rc

set_option maxRecDepth 20000 in
set_option maxHeartbeats 4000000 in
theorem oconf_writes : OWrites 104 sConf := fun B X f cs v o b w h hr hl => by
  have hlen : cs.length = 2 := hr.len
  have k0 : (tup [.list .num, .list .num]).Rep w (· < B) cs v := hr
  obtain ⟨_, _, v0, y1, -, rfl, ⟨-, -, l0, -, rfl, -⟩, k1⟩ := Sch.Rep.tup_cons k0
  obtain ⟨_, _, v1, y2, -, rfl, ⟨-, -, l1, -, rfl, -⟩, k2⟩ := Sch.Rep.tup_cons k1
  obtain ⟨-, rfl⟩ := Sch.Rep.tup_nil k2
  clear k1 k2
  have H0 := Lib.hid (OWg.start (tp := 36) (rest := [(.list .num, .list l0), (.list .num, .list l1)]) h hr (by have := tup_wmax [(.list .num, .list l0), (.list .num, .list l1)]; rw [← this]; exact hl) (Blk.new w 36 cs) ((Upd.refl _ _).alloc _))
  have hB := h.base
  clear h hr hl k0
  show Calls Tryz.prog _ #[_, .agg cs.toArray] _ _
  go_enter Tryz.func104, Tryz.ntmps104
  obtain ⟨a0, c0, e0, r0⟩ := WrG.listAt (q := 0) H0.out rfl
  have R0 := Lib.hid r0
  clear r0
  go_wp2_with fail
  refine (OWg.go (c := [.slice a0 l0.length c0]) onums_writes H0.out R0.out).mono ?_
  rintro e w1 ⟨rfl, o1, b1, h⟩
  have H1 := Lib.hid h
  clear h e0
  obtain ⟨a1, c1, e1, r1⟩ := WrG.listAt (q := 1) H1.out rfl
  have R1 := Lib.hid r1
  clear r1
  go_wp2_with fail
  refine (OWg.go (c := [.slice a1 l1.length c1]) onums_writes H1.out R1.out).mono ?_
  rintro e w2 ⟨rfl, o2, b2, h⟩
  have H2 := Lib.hid h
  clear h e1
  go_wp2_with fail
  go_end0
  exact OWg.fin H2.out ((Upd.refl _ _).alloc _) rfl rfl
end Go.Proofs.YthclnpigplcckaaGreat
/- The reference's cmd, written. -/
namespace Go.Proofs.YthclnpigplcckaaGreat
open Go.RowKit Go.Lb Go.Rc

set_option maxRecDepth 20000 in
set_option maxHeartbeats 4000000 in
theorem ocmd_writes : OWrites 62 sCmd := fun B X f cs v o b w h hr hl => by
  have hlen : cs.length = 27 := hr.len
  have k0 : (tup [.num, .num, .num, sJob, sNode, .list sReport, sPlan, sConf]).Rep w (· < B) cs v := hr
  obtain ⟨_, _, v0, y1, -, rfl, ⟨n0, -, rfl⟩, k1⟩ := Sch.Rep.tup_cons k0
  obtain ⟨_, _, v1, y2, -, rfl, ⟨n1, -, rfl⟩, k2⟩ := Sch.Rep.tup_cons k1
  obtain ⟨_, _, v2, y3, -, rfl, ⟨n2, -, rfl⟩, k3⟩ := Sch.Rep.tup_cons k2
  obtain ⟨_, _, v3, y4, -, rfl, -, k4⟩ := Sch.Rep.tup_cons k3
  obtain ⟨_, _, v4, y5, -, rfl, -, k5⟩ := Sch.Rep.tup_cons k4
  obtain ⟨_, _, v5, y6, -, rfl, ⟨-, -, l5, -, rfl, -⟩, k6⟩ := Sch.Rep.tup_cons k5
  obtain ⟨_, _, v6, y7, -, rfl, -, k7⟩ := Sch.Rep.tup_cons k6
  obtain ⟨_, _, v7, y8, -, rfl, -, k8⟩ := Sch.Rep.tup_cons k7
  obtain ⟨-, rfl⟩ := Sch.Rep.tup_nil k8
  clear k1 k2 k3 k4 k5 k6 k7 k8
  have H0 := Lib.hid (OWg.start (tp := 38) (rest := [(.num, .num n0), (.num, .num n1), (.num, .num n2), (sJob, v3), (sNode, v4), (.list sReport, .list l5), (sPlan, v6), (sConf, v7)]) h hr (by have := tup_wmax [(.num, .num n0), (.num, .num n1), (.num, .num n2), (sJob, v3), (sNode, v4), (.list sReport, .list l5), (sPlan, v6), (sConf, v7)]; rw [← this]; exact hl) (Blk.new w 38 cs) ((Upd.refl _ _).alloc _))
  have hB := h.base
  clear h hr hl k0
  show Calls Tryz.prog _ #[_, .agg cs.toArray] _ _
  go_enter Tryz.func62, Tryz.ntmps62
  have e0 := WrG.numAt (q := 0) H0.out rfl
  go_wp2_with fail
  refine (OWg.goNum H0.out).mono ?_
  rintro e w1 ⟨rfl, o1, b1, h⟩
  have H1 := Lib.hid h
  clear h e0
  have e1 := WrG.numAt (q := 1) H1.out rfl
  go_wp2_with fail
  refine (OWg.goNum H1.out).mono ?_
  rintro e w2 ⟨rfl, o2, b2, h⟩
  have H2 := Lib.hid h
  clear h e1
  have e2 := WrG.numAt (q := 2) H2.out rfl
  go_wp2_with fail
  refine (OWg.goNum H2.out).mono ?_
  rintro e w3 ⟨rfl, o3, b3, h⟩
  have H3 := Lib.hid h
  clear h e2
  obtain ⟨c3, r3, g3⟩ := WrG.range (q := 3) H3.out rfl
  have hl3 : c3.length = 7 := r3.len
  have G3 := Lib.hid g3
  have R3 := Lib.hid r3
  clear g3 r3
  go_wp2_with (refine wpList_load_mid rfl 25 _ rfl w.heap.size 3 rfl c3 _ G3.out Tryz.underlying25 rfl (by rw [hl3]; exact Tryz.size25) ?_)
  refine (OWg.go ojob_writes H3.out R3.out).mono ?_
  rintro e w4 ⟨rfl, o4, b4, h⟩
  have H4 := Lib.hid h
  clear h
  obtain ⟨c4, r4, g4⟩ := WrG.range (q := 10) H4.out rfl
  have hl4 : c4.length = 8 := r4.len
  have G4 := Lib.hid g4
  have R4 := Lib.hid r4
  clear g4 r4
  go_wp2_with (refine wpList_load_mid rfl 29 _ rfl w.heap.size 10 rfl c4 _ G4.out Tryz.underlying29 rfl (by rw [hl4]; exact Tryz.size29) ?_)
  refine (OWg.go onode_writes H4.out R4.out).mono ?_
  rintro e w5 ⟨rfl, o5, b5, h⟩
  have H5 := Lib.hid h
  clear h
  obtain ⟨a5, c5, e5, r5⟩ := WrG.listAt (q := 18) H5.out rfl
  have HA5 : Hid (Elems w5 (· < B) sReport 2 a5 l5) := Lib.hid (list_elems r5).2
  have hwl5 := H5.out.len
  rw [wsum_cons] at hwl5
  have HL5 : Hid (o5.length + (Sch.list sReport).wmax (.list l5) ≤ 1099511627776) := Lib.hid (by dsimp only at hwl5; omega)
  have hps5 := H5.out.fw.1 w.heap.size (by simp)
  have hll5 : l5.length ≤ 1099511627776 := elems_len HA5.out HL5.out rfl
  clear r5 hwl5
  go_wp2_with fail
  refine (OWg.goCount H5.out).mono ?_
  rintro e w5x ⟨rfl, o5x, b5x, h1, h2, h3⟩
  have p5 := (h2.cell (o := 18) hps5 (.inr (by simp))).trans e5
  have H1x := Lib.hid h1
  have H2x := Lib.hid h2
  have H3x := Lib.hid h3
  clear h1 h2 h3
  go_wp2_with fail
  go_loopg [4] l5.length (fun g t wr => ∃ (i : Nat) (o' : List Nat) (b' : Bool), t = .int .i64 i ∧ l5.length - i = g ∧ i ≤ l5.length ∧ Ow B (w.heap.size :: X) wr f o' b' ∧ Kp B (w.heap.size :: X) w5 wr ∧ LWk sReport l5.length (l5.take i) o5 b5 o' b')
  case atStart => exact ⟨0, o5x, b5x, rfl, rfl, by omega, H1x.out, H2x.out, H3x.out⟩
  case round =>
    obtain ⟨i, o', b', rfl, hg, hi, hF, hK, hW⟩ := hrel
    have HG := Lib.hid hg
    have HF := Lib.hid hF
    have HK := Lib.hid hK
    have HW := Lib.hid hW
    have r0 := (hK.cell (o := 18) hps5 (.inr (by simp))).trans e5
    clear hg hF hK hW p5
    by_cases hlt : i < l5.length
    · have t1 : decide (i < l5.length) = true := by simpa using hlt
      obtain ⟨x, hx⟩ : ∃ x, l5[i]? = some x := ⟨_, List.getElem?_eq_getElem hlt⟩
      obtain ⟨b0, o0, us, rfl, hb0, hbl, hrg, hrep⟩ := HA5.out i x hx
      have hrep := hrep.keep (ok' := (· < B)) (fun k hk hl => ⟨hk, HK.out.block k hl (.inl hk)⟩) HK.out.size
      have hrg : wr.rangeAt b0 (o0 + i * 2) us := rangeAt_keep hrg (HK.out.block b0 hbl (.inl hb0))
      have hblr : b0 < wr.heap.size := Nat.lt_of_lt_of_le hbl HK.out.size
      have HWL := Lib.hid (HW.out.room hx HL5.out)
      have Hx := Lib.hid hx
      clear hx
      have hrepc := hrep
      obtain ⟨_, _, zv0, zy1, -, rfl, ⟨zn0, -, rfl⟩, zk1⟩ := Sch.Rep.tup_cons hrepc
      obtain ⟨_, _, zv1, zy2, -, rfl, ⟨zn1, -, rfl⟩, zk2⟩ := Sch.Rep.tup_cons zk1
      obtain ⟨-, rfl⟩ := Sch.Rep.tup_nil zk2
      clear zk1 zk2
      have hlw := HWL.out
      have G0 : Hid (OWg B (w.heap.size :: X) f b0 (o0 + i * 2) wr wr o' b' o' b' [] [(.num, .num zn0), (.num, .num zn1)]) := Lib.hid (WrG.start HF.out (.inl hb0) hblr hrg hrep (by have := tup_wmax [(.num, .num zn0), (.num, .num zn1)]; rw [← this]; exact hlw))
      clear hrg hrep hlw
      have u0 := WrG.numAt (q := o0 + i * 2) G0.out rfl
      go_wp2_with fail
      refine (OWg.goNum G0.out).mono ?_
      rintro e y1 ⟨rfl, o1', b1', h⟩
      have G1 := Lib.hid h
      clear h u0
      have r1 := (G1.out.kp.cell (o := 18) (b := w.heap.size) (by have := HK.out.size; omega) (.inr (by simp))).trans r0
      have u1 := WrG.numAt (q := o0 + i * 2 + 1) G1.out rfl
      go_wp2_with fail
      refine (OWg.goNum G1.out).mono ?_
      rintro e y2 ⟨rfl, o2', b2', h⟩
      have G2 := Lib.hid h
      clear h u1
      clear r1
      have H1 := Lib.hid G2.out.fw
      have H2 := Lib.hid G2.out.kp
      have H3 := Lib.hid (HW.out.snoc (s := sReport) (WSeq.tup G2.out.seq))
      go_wp2_with fail
      go_roundg (l5.length - (i + 1))
      case measure => have := HG.out; omega
      case rel => exact ⟨i + 1, o2', b2', by go_num, rfl, by omega, H1.out, HK.out.trans H2.out, by rw [take_snoc Hx.out]; exact H3.out⟩
    · obtain rfl : i = l5.length := by omega
      have t1 : decide (l5.length < l5.length) = false := by simp
      have hfin := HW.out
      rw [List.take_length] at hfin
      have H6 := Lib.hid (WrG.next (m := [(.list sReport, .list l5)]) H5.out HF.out HK.out (WSeq.one (LWk.fin hfin)))
      clear hfin e5
      clear HF HW HG hlt hi
      obtain ⟨ws6, hz⟩ : ∃ z, z = wr := ⟨_, rfl⟩
      subst hz
      obtain ⟨os6, hz⟩ : ∃ z, z = o' := ⟨_, rfl⟩
      subst hz
      obtain ⟨bs6, hz⟩ : ∃ z, z = b' := ⟨_, rfl⟩
      subst hz
      clear HK
      obtain ⟨c6, r6, g6⟩ := WrG.range (q := 19) H6.out rfl
      have hl6 : c6.length = 6 := r6.len
      have G6 := Lib.hid g6
      have R6 := Lib.hid r6
      clear g6 r6
      go_wp2_with (refine wpList_load_mid rfl 34 _ rfl w.heap.size 19 rfl c6 _ G6.out Tryz.underlying34 rfl (by rw [hl6]; exact Tryz.size34) ?_)
      refine (OWg.go oplan_writes H6.out R6.out).mono ?_
      rintro e w7 ⟨rfl, o7, b7, h⟩
      have H7 := Lib.hid h
      clear h
      obtain ⟨c7, r7, g7⟩ := WrG.range (q := 25) H7.out rfl
      have hl7 : c7.length = 2 := r7.len
      have G7 := Lib.hid g7
      have R7 := Lib.hid r7
      clear g7 r7
      go_wp2_with (refine wpList_load_mid rfl 36 _ rfl w.heap.size 25 rfl c7 _ G7.out Tryz.underlying36 rfl (by rw [hl7]; exact Tryz.size36) ?_)
      refine (OWg.go oconf_writes H7.out R7.out).mono ?_
      rintro e w8 ⟨rfl, o8, b8, h⟩
      have H8 := Lib.hid h
      clear h
      go_wp2_with fail
      go_end0
      exact OWg.fin H8.out ((Upd.refl _ _).alloc _) rfl rfl
end Go.Proofs.YthclnpigplcckaaGreat
/- The reference's PutCmd. -/
namespace Go.Proofs.YthclnpigplcckaaGreat
open Go.RowKit Go.Lb Go.Rc

set_option maxRecDepth 20000 in
set_option maxHeartbeats 2000000 in
theorem rputCmd_puts : Puts 24 sCmd := by
  intro cs v w hr hl
  have hlen : cs.length = 27 := hr.len
  have uW : Upd [] w ((w.alloc (.cells cs.toArray 38)).alloc (.cells #[.slice none 0 0, .bool false] 131)) := ((Upd.refl _ _).alloc _).alloc _
  have HR := Lib.hid hr
  have HL := Lib.hid hl
  have HB := Lib.hid ((Blk.new w 38 cs).alloc (.cells #[.slice none 0 0, .bool false] 131))
  have hb0 := Tryz.prog.built 131 []
  have HBU : Hid (Tryz.prog.built 131 [] = some #[.slice none 0 0, .bool false]) := Lib.hid (by kernel_rfl)
  clear hr hl hb0
  go_enter Tryz.func24, Tryz.ntmps24
  go_wp2_with (first | (refine wpList_buildTo (o := ⟨some 5, .build 131 #[], _, _, _, _⟩) rfl 131 #[] rfl (some 5) rfl #[.slice none 0 0, .bool false] (by simpa using HBU.out) ?_) | (refine wpList_load_blk rfl 38 (.tmp 1) rfl w.heap.size rfl HB.out Tryz.underlying38 rfl (by rw [hlen]; exact Tryz.size38) ?_))
  refine (ocmd_writes w.heap.size [w.heap.size] (w.heap.size + 1) cs v [] false _ (fresh_out (mk := oW) rfl) (HR.out.upd uW (by simp)) (by simpa using HL.out)).mono ?_
  rintro e w1 ⟨rfl, o, b, h1, h2, h3⟩
  cases b with
  | true =>
    have HF := Lib.hid (putIs_bad h2 uW h3)
    have H1 := Lib.hid h1
    clear h1 h2 h3 uW
    go_wp2_with fail
    refine (told_bad H1.out).mono ?_
    rintro e w2 ⟨rfl, rfl⟩
    go_wp2_with fail
    go_ret2
    exact HF.out
  | false =>
    obtain ⟨a, c, e0, hF⟩ := putIs_good h1 h2 uW h3
    have e1 : w1.cell? ⟨w.heap.size + 1, 0, none⟩ = some (.slice a (sCmd.put v).length c) := e0
    have HF := Lib.hid hF
    have H1 := Lib.hid h1
    have E1 := Lib.hid e1
    clear h1 h2 h3 uW e0 hF e1
    go_wp2_with fail
    refine (told_good H1.out E1.out).mono ?_
    rintro e w2 ⟨rfl, rfl⟩
    go_wp2_with fail
    go_ret2
    exact HF.out
end Go.Proofs.YthclnpigplcckaaGreat
/- The reference's GetCmd. -/
namespace Go.Proofs.YthclnpigplcckaaGreat
open Go.RowKit Go.Lb Go.Rc

set_option maxRecDepth 20000 in
set_option maxHeartbeats 4000000 in
theorem rgetCmd_gets : Gets 5 sCmd := by
  intro a c l w hb hc
  have HB := Lib.hid hb
  have HC := Lib.hid hc
  have HL256 : Hid (∀ x ∈ l, x < 256) := Lib.hid (fun x hx => by
    obtain ⟨i, hi⟩ := List.mem_iff_getElem?.1 hx
    exact (hb i x hi).1)
  have HBU : Hid (Tryz.prog.built 81 [(0, .slice a l.length c)] = some #[.slice a l.length c, .bool false]) := Lib.hid (by
    have e := built_seq (P := Tryz.prog) (t := 81) [1, 1] [.slice none 0 0, .bool false] (by kernel_rfl) (by kernel_rfl) (by rfl) [.slice a l.length c] [[.slice a l.length c]] rfl (by simp)
    simpa using e)
  have HBZ : Hid (Tryz.prog.built 38 [] = some sCmd.zc.toArray) := Lib.hid (by kernel_rfl)
  clear hb hc
  go_enter Tryz.func5, Tryz.ntmps5
  go_wp2_with (first | (refine wpList_alloc_blk rfl 38 rfl sCmd.zc (zero38 _) ?_; intro w0 hA uA; have HA := Lib.hid hA; have UA := Lib.hid uA; clear hA uA) | (refine wpList_buildTo rfl 81 #[(0, .tmp 8)] rfl (some 9) rfl #[.slice a l.length c, .bool false] (by have h := HBU.out; simp [Act.eval]; with_reducible exact h) ?_))
  have s0 := HA.out.lt
  obtain ⟨wI, hwI⟩ : ∃ z, z = w0.alloc (.cells #[.slice a l.length c, .bool false] 81) := ⟨_, rfl⟩
  have hbI : Blk wI w0.heap.size 81 [.slice a l.length c, .bool false] := by rw [hwI]; exact Blk.new _ _ _
  have uI : Upd [] w0 wI := by rw [hwI]; exact (Upd.refl _ _).alloc _
  have hIr : Ir w0.heap.size wI w0.heap.size l false := ⟨a, c, hbI, ((HB.out.upd UA.out (by simp)).keep (ok' := (· < w0.heap.size)) (fun k hk hl => ⟨hl, rfl⟩) (Nat.le_refl _)).upd uI (by simp), HC.out, Nat.le_refl _⟩
  have HIr := Lib.hid hIr
  have UI := Lib.hid uI
  have sI := hbI.lt
  rw [← hwI]
  clear hwI hbI uI hIr
  refine (icmd_reads _ _ l false wI HIr.out).mono ?_
  rintro e w1 ⟨v, cs, l', b', rfl, h1, h2, h3, h4, h5⟩
  rw [show argOf sCmd cs = .agg cs.toArray from rfl]
  have hcl : cs.length = 27 := h3.len
  have HONE := Lib.hid h3.one
  have H1 := Lib.hid h1
  have U1 : Hid (Upd [] w0 w1) := Lib.hid (UI.out.trans h2 (by simp))
  have H3 : Hid (Sch.Rep w1 (fun k => w0.heap.size < k ∧ Soft w1 k) sCmd cs v) := Lib.hid (h3.mono (fun k hk _ => ⟨by have := hk.1; omega, hk.2⟩))
  have H4 := Lib.hid h4
  have H5 := Lib.hid h5
  have HA1 := Lib.hid (U1.out.blk HA.out (by simp))
  have hf1 := (ir_mark h1).2.2.1
  clear h1 h2 h3 h4 h5
  obtain ⟨g, hg⟩ := good_dec sCmd v
  obtain ⟨p, hp⟩ : ∃ p, p = bytesOf g sCmd v := ⟨_, rfl⟩
  have HG := Lib.hid hg
  have HP := Lib.hid hp
  clear hg hp
  go_wp2_with (first | (refine wpList_alloc_blk rfl 38 rfl sCmd.zc (zero38 _) ?_; intro wP hP uP; have HPb := Lib.hid hP; have UP := Lib.hid uP; clear hP uP) | (refine wpList_store_blk rfl 38 (.tmp 5) (.tmp 12) rfl w1.heap.size cs rfl rfl HPb.out (by rw [hcl]; exact Tryz.size38) (by rw [hcl]; rfl) HONE.out ?_; intro w2 hd ud; have HD := Lib.hid hd; have U2 : Hid (Upd [] w1 w2) := Lib.hid (UP.out.trans ud (by simp)); clear hd ud) | (refine wpList_load_blk rfl 38 (.tmp 5) rfl w1.heap.size rfl HD.out Tryz.underlying38 rfl (by rw [hcl]; exact Tryz.size38) ?_))
  refine (puts_u rputCmd_puts (rep_all H3.out U2.out) (Nat.le_trans H5.out (of_decide_eq_true (by kernel_rfl))) HG.out HP.out).mono ?_
  rintro e w3 ⟨a3, c3, rfl, u, b, hc⟩
  have U3 := Lib.hid (U2.out.trans u (by simp))
  have B3 := Lib.hid b
  have HD3 := Lib.hid (u.blk HD.out (by simp))
  clear u b hc
  go_wp2_with fail
  refine (idone_post _ _ l' b' w3 ((H1.out).upd U3.out (by simp))).mono ?_
  rintro e w4 ⟨rfl, u⟩
  have U4 := Lib.hid (U3.out.trans u (by simp))
  have B4 := Lib.hid (bytes_all B3.out u)
  have HD4 := Lib.hid (u.blk HD3.out (by simp))
  have HA4 := Lib.hid (U4.out.blk HA1.out (by simp))
  have U04 : Hid (Upd [] w0 w4) := Lib.hid (U1.out.trans U4.out (by simp))
  clear u
  obtain ⟨r, hr⟩ : ∃ r, (!b' && decide (l' = [])) = r := ⟨_, rfl⟩
  rw [hr]
  cases r with
  | true =>
    have hr2 : b' = false ∧ l' = [] := by simpa using hr
    obtain ⟨rfl, rfl⟩ := hr2
    have hget := (H4.out.good rfl).2
    obtain ⟨e1, e2⟩ := Sch.get_one sCmd l v [] hget HL256.out
    obtain rfl : g = true := HG.out.2 e2
    have HPL : Hid (p.length ≤ 1099511627776) := Lib.hid (by rw [HP.out]; exact bytesOf_len HG.out (Nat.le_trans H5.out (of_decide_eq_true (by kernel_rfl))))
    obtain rfl : p = l := by rw [HP.out, e1]; simp [bytesOf]
    have HGET := Lib.hid hget
    have et : errOf true = 0 := rfl
    rw [et]
    clear hr hget e1 e2 et
    go_wp2_with fail
    refine (same_any _ _ a3 a c3 c p p _ B4.out ((HB.out.upd UA.out (by simp)).upd U04.out (by simp)) HPL.out).mono ?_
    rintro e w5 ⟨rfl, u⟩
    have U5 := Lib.hid (U4.out.trans u (by simp))
    have HD5 := Lib.hid (u.blk HD4.out (by simp))
    have HA5 := Lib.hid (u.blk HA4.out (by simp))
    rw [show (p == p) = true by simp]
    clear u
    go_wp2_with (first | (refine wpList_load_blk rfl 38 (.tmp 5) rfl w1.heap.size rfl HD5.out Tryz.underlying38 rfl (by rw [hcl]; exact Tryz.size38) ?_) | (refine wpList_store_blk rfl 38 (.tmp 2) (.tmp 32) rfl w.heap.size cs rfl rfl HA5.out (by rw [hcl]; exact Tryz.size38) (by rw [hcl]; rfl) HONE.out ?_; intro wz hz uz))
    have hld := run_loadVar_blk (P := Tryz.prog) hz 38 _ Tryz.underlying38 rfl (by rw [hcl]; exact Tryz.size38)
    have UF : Upd [] w wz := ((UA.out.trans U1.out (by simp)).trans U5.out (by simp)).trans uz (by simp)
    refine bodyPost_ret (v := .tuple #[.agg cs.toArray, .bool true]) ?_ rfl ⟨UF, cs, v, true, rfl, (H3.out.keep (ok' := Nw w.heap.size wz) (fun k hk hl => have hk1 := hk.1; have e := (uz.block k (Nat.lt_of_lt_of_le hl U5.out.size) (by simp; omega)).trans (U5.out.block k hl (by simp)); ⟨⟨by omega, hk.2.keep e⟩, e⟩) (Nat.le_trans U5.out.size uz.size)), fun _ => HGET.out, fun h => by cases h⟩
    rw [results_cell_tmp Tryz.results5]; simp [asAddr, Act.put, hld]
  | false =>
    have hno : ∀ v', sCmd.get l ≠ some (v', []) := by
      intro v' hv
      cases b' with
      | true =>
        rcases H4.out.bad rfl with h | h
        · cases h
        · rw [hv] at h; cases h
      | false =>
        have := (H4.out.good rfl).2
        rw [hv] at this
        simp only [Option.some.injEq, Prod.mk.injEq] at this
        rw [← this.2] at hr
        simp at hr
    have HNO := Lib.hid hno
    clear hr hno
    go_wp2_with (first | (refine wpList_store_blk rfl 38 (.tmp 2) (.tmp 31) rfl w.heap.size sCmd.zc rfl rfl HA4.out (by exact Tryz.size38) rfl (Sch.zc_one _) ?_; intro wz hz uz) | (refine wpList_buildTo rfl 38 #[] rfl (some 31) rfl sCmd.zc.toArray (by have h := HBZ.out; simp; with_reducible exact h) ?_))
    have hld := run_loadVar_blk (P := Tryz.prog) hz 38 _ Tryz.underlying38 rfl (by exact Tryz.size38)
    have UF : Upd [] w wz := ((UA.out.trans U1.out (by simp)).trans U4.out (by simp)).trans uz (by simp)
    refine bodyPost_ret (v := .tuple #[.agg sCmd.zc.toArray, .bool false]) ?_ rfl ⟨UF, sCmd.zc, sCmd.zero, false, rfl, Sch.Rep.zero _ _ _, fun h => (by cases h), fun _ => ⟨HNO.out, rfl⟩⟩
    rw [results_cell_tmp Tryz.results5]; simp [asAddr, Act.put, hld]
end Go.Proofs.YthclnpigplcckaaGreat
/- codec's form.entry, reading. -/
namespace Go.Proofs.YthclnpigplcckaaGreat
open Go.RowKit Go.Lb Go.Rc

set_option maxRecDepth 20000 in
set_option maxHeartbeats 2000000 in
theorem entry_reads : Reads 30 sEntry := by
  intro B f p q tp pre post l b w h hB hpf hq hp
  subst hq
  have H0 := Lib.hid (RdSt.start (rest := [.num, .num, sCmd]) h hB hpf hp (fr_mark h).2.2.2.1)
  clear h hp
  go_enter Tryz.func30, Tryz.ntmps30
  go_wp2_with fail
  refine wp_region_lex (fun _ => True) 99 [(0, true), (1, true), (2, true), (3, true), (4, true), (5, true), (6, true), (7, false), (8, false)] (by kernel_rfl) (by kernel_rfl) (by kernel_rfl) (by kernel_rfl) (fun _ _ d _ _ h => by cases d <;> exact h) ?_
  simp only [lexOps, List.map_cons, List.map_nil, List.getD_cons_zero, List.getD_cons_succ]
  iterate 7 (refine lex_read rfl trivial (v := ?_) (fun w' _ => ?_) ?_; rotate_left; (focus (go_simp; try with_reducible rfl)); simp only [Act.put, List.setIfInBounds_toArray, List.set_cons_zero, List.set_cons_succ])
  refine lex_do rfl (fun K hK => ?_)
  go_simp
  refine hK _ _ (fun _ => trivial) ?_
  clear hK K
  refine lex_do rfl (fun K hK => ?_)
  go_simp
  refine (CRd.goNums (rest := [sCmd]) (k := 2) H0.out ((Upd.refl _ _).alloc _).drew (Nat.le_refl _) (Blk.drew (Blk.new _ _ [_, _])) (by simp only [fsize_append, fsize_nums, fsize, List.nil_append] <;> rfl) (by decide)).mono ?_
  rintro e w1 ⟨rfl, ns1, l1, b1, hn, h⟩
  have H1 := Lib.hid h
  have HN1 := Lib.hid hn
  clear hn
  refine hK _ _ (fun _ => trivial) ?_
  clear hK K h
  refine lex_nil ?_
  go_wp2_with fail
  refine (CRd.go cmd_reads H1.out (by simp only [fsize_append, fsize_nums, fsize, HN1.out, List.nil_append] <;> rfl)).mono ?_
  rintro e w2 ⟨rfl, v2, l2, b2, h⟩
  have H2 := Lib.hid h
  clear h
  go_wp2_with fail
  go_end0
  exact CRd.fin H2.out (by simp only [List.map_append, nums_fst, HN1.out, List.append_assoc, List.map_cons, List.map_nil, List.nil_append]; rfl)
end Go.Proofs.YthclnpigplcckaaGreat
/- codec's get[Entry] and GetEntry. -/
namespace Go.Proofs.YthclnpigplcckaaGreat
open Go.RowKit Go.Lb Go.Rc

set_option maxRecDepth 20000 in
set_option maxHeartbeats 2000000 in
theorem getEntry_any (a : Option Addr) (c : Nat) (l : List Nat) (w : World) (hb : Bytes w (· < w.heap.size) a l) (hc : l.length ≤ c ∧ c ≤ maxLen) :
    Calls Tryz.prog 29 #[.slice a l.length c, .func (.func 30) #[] #[]] w (GetIs sEntry l w) := by
  have HB := Lib.hid hb
  have HC := Lib.hid hc
  clear hb hc
  go_enter Tryz.func29, Tryz.ntmps29
  go_wp2_with (refine wpList_alloc_blk rfl 47 rfl sEntry.zc (zero47 _) ?_; intro wA hA uA)
  rename_i wB hB uB wC hC uC K1 a1 K2 a2
  have uW : Upd [] w (wA.alloc (.cells #[.slice a l.length c, .bool true, .bool false] 108)) := ((uB.trans uC (by simp)).trans uA (by simp)).alloc _
  have s1 := uB.size
  have s2 := uC.size
  have s3 := uA.size
  have l1 := hB.lt
  have l2 := hC.lt
  have l3 := hA.lt
  have hT := (uA.blk (uC.blk hB (by simp)) (by simp)).alloc (.cells #[.slice a l.length c, .bool true, .bool false] 108)
  have hX := (uA.blk hC (by simp)).alloc (.cells #[.slice a l.length c, .bool true, .bool false] 108)
  have hN := hA.alloc (.cells #[.slice a l.length c, .bool true, .bool false] 108)
  refine (entry_reads w.heap.size wA.heap.size wB.heap.size 0 47 [] [] l false _ ⟨a, c, Blk.new wA 108 [.slice a l.length c, .bool true, .bool false], HB.out.upd uW (by simp), HC.out, by omega⟩ (by omega) (by omega) rfl (by simpa using hX)).mono ?_
  rintro e w1 ⟨rfl, v, cs, l', b', h1, h2, h3, h4, h5⟩
  have hlen : cs.length = 29 := h4.len
  have h3' : Blk w1 wB.heap.size 47 cs := by simpa using h3
  have hT1 : Blk w1 w.heap.size 47 sEntry.zc := h2.blk hT (by simp; omega)
  have hN1 : Blk w1 wC.heap.size 47 sEntry.zc := h2.blk hN (by simp; omega)
  have HU : Hid (Upd [] w w1) := Lib.hid (uW.trans h2 (by simp; omega))
  have HT := Lib.hid hT1
  have HN := Lib.hid hN1
  have HX := Lib.hid h3'
  have HRep := Lib.hid (h4.mono (ok' := fun k => w.heap.size < k ∧ Soft w1 k) (fun b hb _ => ⟨by have := hb.1; simp at this; omega, hb.2⟩))
  have HR := Lib.hid h5
  obtain ⟨m2, _, _, _, _⟩ := fr_mark h1
  obtain ⟨a', c', hI⟩ := h1
  have f0 := hI.blk.cell (o := 0) rfl
  clear h2 h3 h4 h5 h3' hT1 hN1 hT hX hN hI uA uB uC hA hB hC uW
  by_cases hg : b' = false ∧ l' = []
  · obtain ⟨rfl, rfl⟩ := hg
    have f0' : w1.cell? ⟨wA.heap.size, 0, none⟩ = some (.slice a' 0 c') := f0
    clear f0
    go_wp2_with (first | (refine wpList_load_blk rfl 47 (.tmp 6) rfl wB.heap.size rfl HX.out Tryz.underlying47 rfl (by rw [hlen]; exact Tryz.size47) ?_) | (refine wpList_store_blk (o := ⟨none, .store 47 (.tmp 4) (.tmp 28), _, _, _, _⟩) rfl 47 (.tmp 4) (.tmp 28) rfl w.heap.size cs rfl rfl HT.out (by rw [hlen]; exact Tryz.size47) (by rw [hlen]; rfl) HRep.out.one ?_; intro w3 hb3 hu3))
    have hl := run_loadVar_blk (P := Tryz.prog) hb3 47 _ Tryz.underlying47 rfl (by rw [hlen]; exact Tryz.size47)
    refine bodyPost_ret (v := .tuple #[.agg cs.toArray, .bool true]) ?_ rfl ⟨HU.out.trans hu3 (by simp), cs, v, true, rfl, HRep.out.keep (fun k hk hl => ⟨⟨Nat.le_of_lt hk.1, hk.2.keep (hu3.block k hl (by simp; omega))⟩, hu3.block k hl (by simp; omega)⟩) hu3.size, fun _ => (HR.out.good rfl).2, fun h => (by cases h)⟩
    · rw [results_cell_tmp Tryz.results29]; simp [asAddr, hl]
  · have t1 : b' = true ∨ (b' = false ∧ decide (0 < l'.length) = true) := by
      cases b' with
      | true => exact .inl rfl
      | false =>
        right
        refine ⟨rfl, ?_⟩
        rw [decide_eq_true_eq, List.length_pos_iff]
        exact fun h => hg ⟨rfl, h⟩
    have HG : Hid (∀ v', sEntry.get l ≠ some (v', [])) := Lib.hid (fun v' hv => by
      cases b' with
      | true =>
        rcases HR.out.bad rfl with h | h
        · cases h
        · rw [hv] at h; cases h
      | false =>
        have := (HR.out.good rfl).2
        rw [hv] at this
        simp only [Option.some.injEq, Prod.mk.injEq] at this
        exact hg ⟨rfl, this.2.symm⟩)
    clear hg
    rcases t1 with rfl | ⟨rfl, t1⟩
    all_goals
      go_wp2_with (first | (refine wpList_load_blk rfl 47 (.tmp 7) rfl wC.heap.size rfl HN.out Tryz.underlying47 rfl (by exact Tryz.size47) ?_) | (refine wpList_store_blk (o := ⟨none, .store 47 (.tmp 4) (.tmp 27), _, _, _, _⟩) rfl 47 (.tmp 4) (.tmp 27) rfl w.heap.size sEntry.zc rfl rfl HT.out (by exact Tryz.size47) (by rfl) (Sch.zc_one sEntry) ?_; intro w3 hb3 hu3))
      have hl := run_loadVar_blk (P := Tryz.prog) hb3 47 _ Tryz.underlying47 rfl (by exact Tryz.size47)
      refine bodyPost_ret (v := .tuple #[.agg sEntry.zc.toArray, .bool false]) ?_ rfl ⟨HU.out.trans hu3 (by simp), sEntry.zc, sEntry.zero, false, rfl, Sch.Rep.zero _ _ _, fun h => (by cases h), fun _ => ⟨HG.out, rfl⟩⟩
      rw [results_cell_tmp Tryz.results29]; simp [asAddr, hl]

set_option maxRecDepth 20000 in
set_option maxHeartbeats 2000000 in
theorem getEntry_gets : Gets 9 sEntry := by
  intro a c l w hb hc
  have HB := Lib.hid hb
  have HC := Lib.hid hc
  clear hb hc
  go_enter Tryz.func9, Tryz.ntmps9
  go_wp2_with (refine wpList_alloc_blk rfl 47 rfl sEntry.zc (zero47 _) ?_; intro wA hA uA)
  have s1 := uA.size
  have l1 := hA.lt
  refine (getEntry_any a c l wA ((HB.out.upd uA (by simp)).mono' s1) HC.out).mono ?_
  rintro e w1 ⟨u1, cs, v, r, rfl, hr, h1, h2⟩
  have hlen : cs.length = 29 := hr.len
  have HT := Lib.hid (u1.blk hA (by simp))
  have HU : Hid (Upd [] w w1) := Lib.hid (uA.trans u1 (by simp))
  have HRep := Lib.hid (hr.mono (ok' := fun k => w.heap.size < k ∧ Soft w1 k) (fun b hb _ => ⟨by have := hb.1; omega, hb.2⟩))
  have H1 := Lib.hid h1
  have H2 := Lib.hid h2
  clear hr h1 h2 u1 uA hA
  go_wp2_with (refine wpList_store_blk (o := ⟨none, .store 47 (.tmp 2) (.tmp 6), _, _, _, _⟩) rfl 47 (.tmp 2) (.tmp 6) rfl w.heap.size cs rfl rfl HT.out (by rw [hlen]; exact Tryz.size47) (by rw [hlen]; rfl) HRep.out.one ?_; intro w3 hb3 hu3)
  have hl := run_loadVar_blk (P := Tryz.prog) hb3 47 _ Tryz.underlying47 rfl (by rw [hlen]; exact Tryz.size47)
  refine bodyPost_ret (v := .tuple #[.agg cs.toArray, .bool r]) ?_ rfl ⟨HU.out.trans hu3 (by simp), cs, v, r, rfl, HRep.out.keep (fun k hk hl => ⟨⟨Nat.le_of_lt hk.1, hk.2.keep (hu3.block k hl (by simp; omega))⟩, hu3.block k hl (by simp; omega)⟩) hu3.size, H1.out, H2.out⟩
  rw [results_cell_tmp Tryz.results9]; simp [asAddr, hl]
end Go.Proofs.YthclnpigplcckaaGreat
/- The reference's entry, read. -/
namespace Go.Proofs.YthclnpigplcckaaGreat
open Go.RowKit Go.Lb Go.Rc

set_option maxRecDepth 20000 in
set_option maxHeartbeats 4000000 in
theorem ientry_reads : IReads 31 sEntry := fun B f l b w h => by
  obtain ⟨_, _, hf, hBf⟩ := ir_mark h
  have H := Lib.hid h
  clear h
  go_enter Tryz.func31, Tryz.ntmps31
  go_wp2_with (refine wpList_alloc_blk rfl 47 rfl sEntry.zc (zero47 _) ?_; intro w0 hA uA; have HA := Lib.hid hA; have UA := Lib.hid uA; clear hA uA)
  have s0 := HA.out.lt
  have H0 := Lib.hid (IRdG.start ((H.out).upd UA.out (by simp)) (Nat.lt_of_lt_of_le hf UA.out.size) hBf)
  refine (IRd.goNum H0.out).mono ?_
  rintro e w1 ⟨n1, l1, b1, rfl, u, h⟩
  have H1 := Lib.hid h
  clear u h
  go_wp2_with fail
  refine (IRd.goNum H1.out).mono ?_
  rintro e w2 ⟨n2, l2, b2, rfl, u, h⟩
  have H2 := Lib.hid h
  clear u h
  go_wp2_with fail
  refine (IRd.go icmd_reads H2.out).mono ?_
  rintro e w3 ⟨v3, c3, l3, b3, rfl, hl, u, h⟩
  have hl3 : c3.length = 27 := hl
  clear hl
  rw [show argOf sCmd c3 = .agg c3.toArray from rfl]
  have H3 := Lib.hid h
  clear u h
  obtain ⟨cs3, hcs3⟩ : ∃ z : List Value, z = ((([] ++ [.int .i64 n1]) ++ [.int .i64 n2]) ++ c3) := ⟨_, rfl⟩
  have cs3l : cs3.length = 29 := by rw [hcs3]; simp [hl3]
  have HBU : Hid (Tryz.prog.built 47 [(0, .int .i64 n1), (1, .int .i64 n2), (2, .agg c3.toArray)] = some (cs3 ++ (tup []).zc).toArray) := Lib.hid (by
    have e := built_seq (P := Tryz.prog) (t := 47) [1, 1, 27] sEntry.zc (by kernel_rfl) (by kernel_rfl) (by rfl) [.int .i64 n1, .int .i64 n2, .agg c3.toArray] [[.int .i64 n1], [.int .i64 n2], c3] rfl (by simp [hl3])
    rw [show List.flatten [[.int .i64 n1], [.int .i64 n2], c3] = cs3 from by rw [hcs3]; simp, show (sEntry.zc).drop cs3.length = (tup []).zc from by rw [cs3l]; rfl] at e
    simp only [List.zipIdx_cons, List.zipIdx_nil, List.map_cons, List.map_nil, Nat.reduceAdd] at e
    exact e)
  have HI := H3.out
  rw [← hcs3] at HI
  have H3 := Lib.hid HI
  have HCS := Lib.hid hcs3
  clear HI hcs3
  have HA3 := Lib.hid (H3.out.upd.blk HA.out (by have := hf; simp; omega))
  have hone := Lib.hid H3.out.one
  go_wp2_with (first | (refine wpList_store_blk rfl 47 (.tmp 2) (.tmp 9) rfl w.heap.size (cs3 ++ (tup []).zc) rfl rfl HA3.out (by rw [show (tup []).zc = [] from rfl, List.append_nil, cs3l]; exact Tryz.size47) (by rw [show (tup []).zc = [] from rfl, List.append_nil, cs3l]; rfl) (by rw [show (tup []).zc = [] from rfl, List.append_nil]; exact hone.out) ?_; intro wz hz uz) | (refine wpList_buildTo rfl 47 #[(0, .tmp 4), (1, .tmp 6), (2, .tmp 8)] rfl (some 9) rfl (cs3 ++ (tup []).zc).toArray (by have h := HBU.out; simp [Act.eval]; with_reducible exact h) ?_))
  rw [show (tup []).zc = [] from rfl, List.append_nil] at hz
  have hld := run_loadVar_blk (P := Tryz.prog) hz 47 _ Tryz.underlying47 rfl (by rw [cs3l]; exact Tryz.size47)
  refine bodyPost_ret (v := .agg cs3.toArray) ?_ rfl (IRd.fin' H3.out UA.out uz s0 (by omega) (by omega) (Nat.le_refl _) (by simp only [List.map_append, List.map_cons, List.map_nil, List.nil_append, List.append_assoc, List.cons_append]; rfl) (by intro h; cases h) hf)
  simp [results, Tryz.results31, asAddr, Act.put, hld]
end Go.Proofs.YthclnpigplcckaaGreat
/- The reference's entry, written. -/
namespace Go.Proofs.YthclnpigplcckaaGreat
open Go.RowKit Go.Lb Go.Rc

set_option maxRecDepth 20000 in
set_option maxHeartbeats 4000000 in
theorem oentry_writes : OWrites 67 sEntry := fun B X f cs v o b w h hr hl => by
  have hlen : cs.length = 29 := hr.len
  have k0 : (tup [.num, .num, sCmd]).Rep w (· < B) cs v := hr
  obtain ⟨_, _, v0, y1, -, rfl, ⟨n0, -, rfl⟩, k1⟩ := Sch.Rep.tup_cons k0
  obtain ⟨_, _, v1, y2, -, rfl, ⟨n1, -, rfl⟩, k2⟩ := Sch.Rep.tup_cons k1
  obtain ⟨_, _, v2, y3, -, rfl, -, k3⟩ := Sch.Rep.tup_cons k2
  obtain ⟨-, rfl⟩ := Sch.Rep.tup_nil k3
  clear k1 k2 k3
  have H0 := Lib.hid (OWg.start (tp := 47) (rest := [(.num, .num n0), (.num, .num n1), (sCmd, v2)]) h hr (by have := tup_wmax [(.num, .num n0), (.num, .num n1), (sCmd, v2)]; rw [← this]; exact hl) (Blk.new w 47 cs) ((Upd.refl _ _).alloc _))
  have hB := h.base
  clear h hr hl k0
  show Calls Tryz.prog _ #[_, .agg cs.toArray] _ _
  go_enter Tryz.func67, Tryz.ntmps67
  have e0 := WrG.numAt (q := 0) H0.out rfl
  go_wp2_with fail
  refine (OWg.goNum H0.out).mono ?_
  rintro e w1 ⟨rfl, o1, b1, h⟩
  have H1 := Lib.hid h
  clear h e0
  have e1 := WrG.numAt (q := 1) H1.out rfl
  go_wp2_with fail
  refine (OWg.goNum H1.out).mono ?_
  rintro e w2 ⟨rfl, o2, b2, h⟩
  have H2 := Lib.hid h
  clear h e1
  obtain ⟨c2, r2, g2⟩ := WrG.range (q := 2) H2.out rfl
  have hl2 : c2.length = 27 := r2.len
  have G2 := Lib.hid g2
  have R2 := Lib.hid r2
  clear g2 r2
  go_wp2_with (refine wpList_load_mid rfl 38 _ rfl w.heap.size 2 rfl c2 _ G2.out Tryz.underlying38 rfl (by rw [hl2]; exact Tryz.size38) ?_)
  refine (OWg.go ocmd_writes H2.out R2.out).mono ?_
  rintro e w3 ⟨rfl, o3, b3, h⟩
  have H3 := Lib.hid h
  clear h
  go_wp2_with fail
  go_end0
  exact OWg.fin H3.out ((Upd.refl _ _).alloc _) rfl rfl
end Go.Proofs.YthclnpigplcckaaGreat
/- The reference's PutEntry. -/
namespace Go.Proofs.YthclnpigplcckaaGreat
open Go.RowKit Go.Lb Go.Rc

set_option maxRecDepth 20000 in
set_option maxHeartbeats 2000000 in
theorem rputEntry_puts : Puts 32 sEntry := by
  intro cs v w hr hl
  have hlen : cs.length = 29 := hr.len
  have uW : Upd [] w ((w.alloc (.cells cs.toArray 47)).alloc (.cells #[.slice none 0 0, .bool false] 131)) := ((Upd.refl _ _).alloc _).alloc _
  have HR := Lib.hid hr
  have HL := Lib.hid hl
  have HB := Lib.hid ((Blk.new w 47 cs).alloc (.cells #[.slice none 0 0, .bool false] 131))
  have hb0 := Tryz.prog.built 131 []
  have HBU : Hid (Tryz.prog.built 131 [] = some #[.slice none 0 0, .bool false]) := Lib.hid (by kernel_rfl)
  clear hr hl hb0
  go_enter Tryz.func32, Tryz.ntmps32
  go_wp2_with (first | (refine wpList_buildTo (o := ⟨some 5, .build 131 #[], _, _, _, _⟩) rfl 131 #[] rfl (some 5) rfl #[.slice none 0 0, .bool false] (by simpa using HBU.out) ?_) | (refine wpList_load_blk rfl 47 (.tmp 1) rfl w.heap.size rfl HB.out Tryz.underlying47 rfl (by rw [hlen]; exact Tryz.size47) ?_))
  refine (oentry_writes w.heap.size [w.heap.size] (w.heap.size + 1) cs v [] false _ (fresh_out (mk := oW) rfl) (HR.out.upd uW (by simp)) (by simpa using HL.out)).mono ?_
  rintro e w1 ⟨rfl, o, b, h1, h2, h3⟩
  cases b with
  | true =>
    have HF := Lib.hid (putIs_bad h2 uW h3)
    have H1 := Lib.hid h1
    clear h1 h2 h3 uW
    go_wp2_with fail
    refine (told_bad H1.out).mono ?_
    rintro e w2 ⟨rfl, rfl⟩
    go_wp2_with fail
    go_ret2
    exact HF.out
  | false =>
    obtain ⟨a, c, e0, hF⟩ := putIs_good h1 h2 uW h3
    have e1 : w1.cell? ⟨w.heap.size + 1, 0, none⟩ = some (.slice a (sEntry.put v).length c) := e0
    have HF := Lib.hid hF
    have H1 := Lib.hid h1
    have E1 := Lib.hid e1
    clear h1 h2 h3 uW e0 hF e1
    go_wp2_with fail
    refine (told_good H1.out E1.out).mono ?_
    rintro e w2 ⟨rfl, rfl⟩
    go_wp2_with fail
    go_ret2
    exact HF.out
end Go.Proofs.YthclnpigplcckaaGreat
/- The reference's GetEntry. -/
namespace Go.Proofs.YthclnpigplcckaaGreat
open Go.RowKit Go.Lb Go.Rc

set_option maxRecDepth 20000 in
set_option maxHeartbeats 4000000 in
theorem rgetEntry_gets : Gets 10 sEntry := by
  intro a c l w hb hc
  have HB := Lib.hid hb
  have HC := Lib.hid hc
  have HL256 : Hid (∀ x ∈ l, x < 256) := Lib.hid (fun x hx => by
    obtain ⟨i, hi⟩ := List.mem_iff_getElem?.1 hx
    exact (hb i x hi).1)
  have HBU : Hid (Tryz.prog.built 81 [(0, .slice a l.length c)] = some #[.slice a l.length c, .bool false]) := Lib.hid (by
    have e := built_seq (P := Tryz.prog) (t := 81) [1, 1] [.slice none 0 0, .bool false] (by kernel_rfl) (by kernel_rfl) (by rfl) [.slice a l.length c] [[.slice a l.length c]] rfl (by simp)
    simpa using e)
  have HBZ : Hid (Tryz.prog.built 47 [] = some sEntry.zc.toArray) := Lib.hid (by kernel_rfl)
  clear hb hc
  go_enter Tryz.func10, Tryz.ntmps10
  go_wp2_with (first | (refine wpList_alloc_blk rfl 47 rfl sEntry.zc (zero47 _) ?_; intro w0 hA uA; have HA := Lib.hid hA; have UA := Lib.hid uA; clear hA uA) | (refine wpList_buildTo rfl 81 #[(0, .tmp 8)] rfl (some 9) rfl #[.slice a l.length c, .bool false] (by have h := HBU.out; simp [Act.eval]; with_reducible exact h) ?_))
  have s0 := HA.out.lt
  obtain ⟨wI, hwI⟩ : ∃ z, z = w0.alloc (.cells #[.slice a l.length c, .bool false] 81) := ⟨_, rfl⟩
  have hbI : Blk wI w0.heap.size 81 [.slice a l.length c, .bool false] := by rw [hwI]; exact Blk.new _ _ _
  have uI : Upd [] w0 wI := by rw [hwI]; exact (Upd.refl _ _).alloc _
  have hIr : Ir w0.heap.size wI w0.heap.size l false := ⟨a, c, hbI, ((HB.out.upd UA.out (by simp)).keep (ok' := (· < w0.heap.size)) (fun k hk hl => ⟨hl, rfl⟩) (Nat.le_refl _)).upd uI (by simp), HC.out, Nat.le_refl _⟩
  have HIr := Lib.hid hIr
  have UI := Lib.hid uI
  have sI := hbI.lt
  rw [← hwI]
  clear hwI hbI uI hIr
  refine (ientry_reads _ _ l false wI HIr.out).mono ?_
  rintro e w1 ⟨v, cs, l', b', rfl, h1, h2, h3, h4, h5⟩
  rw [show argOf sEntry cs = .agg cs.toArray from rfl]
  have hcl : cs.length = 29 := h3.len
  have HONE := Lib.hid h3.one
  have H1 := Lib.hid h1
  have U1 : Hid (Upd [] w0 w1) := Lib.hid (UI.out.trans h2 (by simp))
  have H3 : Hid (Sch.Rep w1 (fun k => w0.heap.size < k ∧ Soft w1 k) sEntry cs v) := Lib.hid (h3.mono (fun k hk _ => ⟨by have := hk.1; omega, hk.2⟩))
  have H4 := Lib.hid h4
  have H5 := Lib.hid h5
  have HA1 := Lib.hid (U1.out.blk HA.out (by simp))
  have hf1 := (ir_mark h1).2.2.1
  clear h1 h2 h3 h4 h5
  obtain ⟨g, hg⟩ := good_dec sEntry v
  obtain ⟨p, hp⟩ : ∃ p, p = bytesOf g sEntry v := ⟨_, rfl⟩
  have HG := Lib.hid hg
  have HP := Lib.hid hp
  clear hg hp
  go_wp2_with (first | (refine wpList_alloc_blk rfl 47 rfl sEntry.zc (zero47 _) ?_; intro wP hP uP; have HPb := Lib.hid hP; have UP := Lib.hid uP; clear hP uP) | (refine wpList_store_blk rfl 47 (.tmp 5) (.tmp 12) rfl w1.heap.size cs rfl rfl HPb.out (by rw [hcl]; exact Tryz.size47) (by rw [hcl]; rfl) HONE.out ?_; intro w2 hd ud; have HD := Lib.hid hd; have U2 : Hid (Upd [] w1 w2) := Lib.hid (UP.out.trans ud (by simp)); clear hd ud) | (refine wpList_load_blk rfl 47 (.tmp 5) rfl w1.heap.size rfl HD.out Tryz.underlying47 rfl (by rw [hcl]; exact Tryz.size47) ?_))
  refine (puts_u rputEntry_puts (rep_all H3.out U2.out) (Nat.le_trans H5.out (of_decide_eq_true (by kernel_rfl))) HG.out HP.out).mono ?_
  rintro e w3 ⟨a3, c3, rfl, u, b, hc⟩
  have U3 := Lib.hid (U2.out.trans u (by simp))
  have B3 := Lib.hid b
  have HD3 := Lib.hid (u.blk HD.out (by simp))
  clear u b hc
  go_wp2_with fail
  refine (idone_post _ _ l' b' w3 ((H1.out).upd U3.out (by simp))).mono ?_
  rintro e w4 ⟨rfl, u⟩
  have U4 := Lib.hid (U3.out.trans u (by simp))
  have B4 := Lib.hid (bytes_all B3.out u)
  have HD4 := Lib.hid (u.blk HD3.out (by simp))
  have HA4 := Lib.hid (U4.out.blk HA1.out (by simp))
  have U04 : Hid (Upd [] w0 w4) := Lib.hid (U1.out.trans U4.out (by simp))
  clear u
  obtain ⟨r, hr⟩ : ∃ r, (!b' && decide (l' = [])) = r := ⟨_, rfl⟩
  rw [hr]
  cases r with
  | true =>
    have hr2 : b' = false ∧ l' = [] := by simpa using hr
    obtain ⟨rfl, rfl⟩ := hr2
    have hget := (H4.out.good rfl).2
    obtain ⟨e1, e2⟩ := Sch.get_one sEntry l v [] hget HL256.out
    obtain rfl : g = true := HG.out.2 e2
    have HPL : Hid (p.length ≤ 1099511627776) := Lib.hid (by rw [HP.out]; exact bytesOf_len HG.out (Nat.le_trans H5.out (of_decide_eq_true (by kernel_rfl))))
    obtain rfl : p = l := by rw [HP.out, e1]; simp [bytesOf]
    have HGET := Lib.hid hget
    have et : errOf true = 0 := rfl
    rw [et]
    clear hr hget e1 e2 et
    go_wp2_with fail
    refine (same_any _ _ a3 a c3 c p p _ B4.out ((HB.out.upd UA.out (by simp)).upd U04.out (by simp)) HPL.out).mono ?_
    rintro e w5 ⟨rfl, u⟩
    have U5 := Lib.hid (U4.out.trans u (by simp))
    have HD5 := Lib.hid (u.blk HD4.out (by simp))
    have HA5 := Lib.hid (u.blk HA4.out (by simp))
    rw [show (p == p) = true by simp]
    clear u
    go_wp2_with (first | (refine wpList_load_blk rfl 47 (.tmp 5) rfl w1.heap.size rfl HD5.out Tryz.underlying47 rfl (by rw [hcl]; exact Tryz.size47) ?_) | (refine wpList_store_blk rfl 47 (.tmp 2) (.tmp 32) rfl w.heap.size cs rfl rfl HA5.out (by rw [hcl]; exact Tryz.size47) (by rw [hcl]; rfl) HONE.out ?_; intro wz hz uz))
    have hld := run_loadVar_blk (P := Tryz.prog) hz 47 _ Tryz.underlying47 rfl (by rw [hcl]; exact Tryz.size47)
    have UF : Upd [] w wz := ((UA.out.trans U1.out (by simp)).trans U5.out (by simp)).trans uz (by simp)
    refine bodyPost_ret (v := .tuple #[.agg cs.toArray, .bool true]) ?_ rfl ⟨UF, cs, v, true, rfl, (H3.out.keep (ok' := Nw w.heap.size wz) (fun k hk hl => have hk1 := hk.1; have e := (uz.block k (Nat.lt_of_lt_of_le hl U5.out.size) (by simp; omega)).trans (U5.out.block k hl (by simp)); ⟨⟨by omega, hk.2.keep e⟩, e⟩) (Nat.le_trans U5.out.size uz.size)), fun _ => HGET.out, fun h => by cases h⟩
    rw [results_cell_tmp Tryz.results10]; simp [asAddr, Act.put, hld]
  | false =>
    have hno : ∀ v', sEntry.get l ≠ some (v', []) := by
      intro v' hv
      cases b' with
      | true =>
        rcases H4.out.bad rfl with h | h
        · cases h
        · rw [hv] at h; cases h
      | false =>
        have := (H4.out.good rfl).2
        rw [hv] at this
        simp only [Option.some.injEq, Prod.mk.injEq] at this
        rw [← this.2] at hr
        simp at hr
    have HNO := Lib.hid hno
    clear hr hno
    go_wp2_with (first | (refine wpList_store_blk rfl 47 (.tmp 2) (.tmp 31) rfl w.heap.size sEntry.zc rfl rfl HA4.out (by exact Tryz.size47) rfl (Sch.zc_one _) ?_; intro wz hz uz) | (refine wpList_buildTo rfl 47 #[] rfl (some 31) rfl sEntry.zc.toArray (by have h := HBZ.out; simp; with_reducible exact h) ?_))
    have hld := run_loadVar_blk (P := Tryz.prog) hz 47 _ Tryz.underlying47 rfl (by exact Tryz.size47)
    have UF : Upd [] w wz := ((UA.out.trans U1.out (by simp)).trans U4.out (by simp)).trans uz (by simp)
    refine bodyPost_ret (v := .tuple #[.agg sEntry.zc.toArray, .bool false]) ?_ rfl ⟨UF, sEntry.zc, sEntry.zero, false, rfl, Sch.Rep.zero _ _ _, fun h => (by cases h), fun _ => ⟨HNO.out, rfl⟩⟩
    rw [results_cell_tmp Tryz.results10]; simp [asAddr, Act.put, hld]
end Go.Proofs.YthclnpigplcckaaGreat
/- codec's form.entry, writing. -/
namespace Go.Proofs.YthclnpigplcckaaGreat
open Go.RowKit Go.Lb Go.Rc

set_option maxRecDepth 20000 in
set_option maxHeartbeats 2000000 in
theorem entry_writes : Writes 30 sEntry := by
  intro B X f p q tp pre cs post v o b w h hX hq hp hr hl
  have k0 : (tup [.num, .num, sCmd]).Rep w (· < B) cs v := hr
  obtain ⟨_, _, v0, y0, _, rfl, ⟨n0, _, rfl⟩, k1⟩ := Sch.Rep.tup_cons k0
  obtain ⟨_, _, v1, y1, _, rfl, ⟨n1, _, rfl⟩, k2⟩ := Sch.Rep.tup_cons k1
  obtain ⟨_, _, v2, y2, _, rfl, _, k3⟩ := Sch.Rep.tup_cons k2
  obtain ⟨_, rfl⟩ := Sch.Rep.tup_nil k3
  subst hq
  have H0 := Lib.hid (WrSt.start (rest := ([(.num, .num n0), (.num, .num n1), (sCmd, v2)] : List (Sch × Val))) h hX hp hr (by have := tup_wmax ([(.num, .num n0), (.num, .num n1), (sCmd, v2)] : List (Sch × Val)); rw [← this]; exact hl))
  clear h hX hp hr hl k0 k1 k2 k3
  go_enter Tryz.func30, Tryz.ntmps30
  go_wp2_with fail
  refine wp_region_lex (fun _ => True) 99 [(0, true), (1, true), (2, true), (3, true), (4, true), (5, true), (6, true), (7, false), (8, false)] (by kernel_rfl) (by kernel_rfl) (by kernel_rfl) (by kernel_rfl) (fun _ _ d _ _ h => by cases d <;> exact h) ?_
  simp only [lexOps, List.map_cons, List.map_nil, List.getD_cons_zero, List.getD_cons_succ]
  iterate 7 (refine lex_read rfl trivial (v := ?_) (fun w' _ => ?_) ?_; rotate_left; (focus (go_simp; try with_reducible rfl)); simp only [Act.put, List.setIfInBounds_toArray, List.set_cons_zero, List.set_cons_succ])
  refine lex_do rfl (fun K hK => ?_)
  go_simp
  refine hK _ _ (fun _ => trivial) ?_
  clear hK K
  refine lex_do rfl (fun K hK => ?_)
  go_simp
  refine (CWr.goNums (ns := [n0, n1]) (rest := [(sCmd, v2)]) (k := 2) H0.out rfl ((Upd.refl _ _).alloc _).drew (Nat.le_refl _) (Blk.drew (Blk.new _ _ [_, _])) rfl).mono ?_
  rintro e w1 ⟨rfl, o1, b1, h⟩
  have H1 := Lib.hid h
  refine hK _ _ (fun _ => trivial) ?_
  clear hK K h
  refine lex_nil ?_
  go_wp2_with fail
  refine (CWr.go cmd_writes H1.out rfl).mono ?_
  rintro e w2 ⟨rfl, o2, b2, h⟩
  have H2 := Lib.hid h
  clear h
  go_wp2_with fail
  go_end0
  exact CWr.fin H2.out rfl rfl
end Go.Proofs.YthclnpigplcckaaGreat
/- codec's put[Entry] and PutEntry. -/
namespace Go.Proofs.YthclnpigplcckaaGreat
open Go.RowKit Go.Lb Go.Rc

set_option maxRecDepth 20000 in
set_option maxHeartbeats 2000000 in
theorem putEntry_any (cs : List Value) (v : Val) (w : World) (hr : Sch.Rep w (· < w.heap.size) sEntry cs v) (hl : sEntry.wmax v ≤ 1099511627776) :
    Calls Tryz.prog 33 #[.agg cs.toArray, .func (.func 30) #[] #[]] w (PutIs sEntry v w) := by
  have hlen : cs.length = 29 := hr.len
  have HR := Lib.hid hr
  have HL := Lib.hid hl
  clear hr hl
  go_enter Tryz.func33, Tryz.ntmps33
  go_wp2_with fail
  have uW : Upd [] w ((w.alloc (.cells cs.toArray 47)).alloc (.cells #[.slice none 0 0, .bool false, .bool false] 108)) := ((Upd.refl _ _).alloc _).alloc _
  refine (entry_writes w.heap.size [w.heap.size] (w.heap.size + 1) w.heap.size 0 47 [] cs [] v [] false _ (fresh_out (mk := cW) rfl) (by simp) rfl (by simpa using (Blk.new w 47 cs).alloc _) (HR.out.upd uW (by simp)) (by simpa using HL.out)).mono ?_
  rintro e w1 ⟨rfl, o, b, h1, h2, h3⟩
  obtain ⟨m2, m3, m4, m5⟩ := fw_mark h1
  cases b with
  | true =>
    have HF := Lib.hid (putIs_bad h2 uW h3)
    clear h1 h2 h3 uW
    go_wp2_with fail
    go_ret2
    exact HF.out
  | false =>
    obtain ⟨a, c, e0, hF⟩ := putIs_good h1 h2 uW h3
    have e1 : w1.cell? ⟨w.heap.size + 1, 0, none⟩ = some (.slice a (sEntry.put v).length c) := e0
    have HF := Lib.hid hF
    clear h1 h2 h3 uW e0 hF
    go_wp2_with fail
    go_ret2
    exact HF.out

set_option maxRecDepth 20000 in
set_option maxHeartbeats 2000000 in
theorem putEntry_puts : Puts 11 sEntry := by
  intro cs v w hr hl
  have hlen : cs.length = 29 := hr.len
  have uW : Upd [] w (w.alloc (.cells cs.toArray 47)) := (Upd.refl _ _).alloc _
  have HR := Lib.hid hr
  have HL := Lib.hid hl
  have hb := Blk.new w 47 cs
  have HB := Lib.hid hb
  clear hr hl hb
  go_enter Tryz.func11, Tryz.ntmps11
  go_wp2_with (refine wpList_load_blk rfl 47 (.tmp 1) rfl w.heap.size rfl HB.out Tryz.underlying47 rfl (by rw [hlen]; exact Tryz.size47) ?_)
  refine (putEntry_any cs v _ ((HR.out.upd uW (by simp)).mono (fun b hb hl => hl)) HL.out).mono ?_
  rintro e w1 ⟨u1, ⟨hg, a, c, rfl, hown⟩ | ⟨hg, rfl⟩⟩
  · have HF : Hid (PutIs sEntry v w (.returned (.tuple #[.slice a (sEntry.put v).length c, .int .i64 0])) w1) := Lib.hid ⟨uW.trans u1 (by simp), .inl ⟨hg, a, c, rfl, own_rebase hown (fun k hk => by have := own_lo hown hk; have := uW.size; omega)⟩⟩
    clear u1 hg hown uW
    go_wp2_with fail
    go_ret2
    exact HF.out
  · have HF : Hid (PutIs sEntry v w (.returned (.tuple #[.slice none 0 0, .int .i64 1])) w1) := Lib.hid ⟨uW.trans u1 (by simp), .inr ⟨hg, rfl⟩⟩
    clear u1 hg uW
    go_wp2_with fail
    go_ret2
    exact HF.out
end Go.Proofs.YthclnpigplcckaaGreat
/- codec's list[Entry], reading. -/
namespace Go.Proofs.YthclnpigplcckaaGreat
open Go.RowKit Go.Lb Go.Rc

set_option maxRecDepth 20000 in
set_option maxHeartbeats 2000000 in
theorem listEntry_reads : LReads 69 30 sEntry := by
  intro B f p q tp pre post l b w h hB hpf hq hp
  obtain ⟨iT, hiT, hz0, hz1, hz2⟩ := info47
  subst hq
  have c0 := hp.cell (o := pre.length) mid_at
  obtain ⟨_, _, _, hf, hBf⟩ := fr_mark h
  have hplt := hp.lt
  have H := Lib.hid h
  have HP := Lib.hid hp
  clear h hp
  go_enter Tryz.func69, Tryz.ntmps69
  go_wp2_with fail
  refine (many_r B f 64 _ l b _ H.out).mono ?_
  rintro e w1 ⟨k, l1, b1, rfl, hk, h1, h2, h3⟩
  obtain ⟨m2, m3, m4, m5, _⟩ := fr_mark h1
  have HB1 := Lib.hid (h2.blk HP.out (by simpa using hpf))
  have HS : Hid (LRdSt sEntry 108 cR [f, p] B f 47 29 w w1 k l b 0 l1 b1 (.slice none 0 0) [] []) := Lib.hid (LRdSt.start h1 (h2.mono (by simp)) (by simp; omega) h3)
  clear h1 h2 h3 H
  go_wp2_with fail
  go_loopg [9, 42] k (fun g u t wr => ∃ (i : Nat) (l' : List Nat) (b' : Bool) (v : Value) (xss : List (List Value)) (xs : List Val), t = .int .i64 i ∧ k - i = g ∧ i ≤ k ∧ Blk wr p tp (pre ++ [v] ++ post) ∧ LRdSt sEntry 108 cR [f, p] B f 47 29 w wr k l b i l' b' v xss xs)
  case atStart => exact ⟨0, l1, b1, _, [], [], rfl, rfl, by omega, HB1.out, HS.out⟩
  case round =>
    obtain ⟨i, l', b', v, xss, xs, rfl, hg, hi, hbk, hS⟩ := hrel
    have HG := Lib.hid hg
    have HBK := Lib.hid hbk
    have HST := Lib.hid hS
    obtain ⟨n2, n3, n4, n5, _⟩ := fr_mark hS.fr
    have hsz := hS.upd.size
    clear hg hbk hS m2 m3 m4 m5
    by_cases hlt : i < k
    · have t1 : decide (i < k) = true := by simpa using hlt
      cases b' with
      | true =>
        have HE := Lib.hid (HST.out.rd (.inl rfl))
        go_wp2_with fail
        go_end0
        exact ⟨rfl, .list xs, [v], l', true, HST.out.fr, HST.out.upd, HBK.out, HST.out.isRep, HE.out⟩
      | false =>
      go_wp2_with (refine wpList_alloc_blk rfl 47 rfl sEntry.zc (zero47 _) ?_; intro wB hb hu)
      have hN := HST.out.upd' hu
      refine (entry_reads B f wr.heap.size 0 47 [] [] l' false wB hN.fr (by omega) (by omega) rfl (by simpa [Sch.zc] using hb)).mono ?_
      rintro e w2 ⟨rfl, x, us, l2, b2, h1, h2, h3, h4, h5⟩
      have hus : us.length = 29 := h4.len
      have hb2 : Blk w2 wr.heap.size 47 us := by simpa using h3
      have hU : Upd [f, p] wr w2 := (hu.mono (by simp)).trans h2 (by
        intro y hy
        simp only [List.mem_cons, List.not_mem_nil, or_false] at hy
        rcases hy with rfl | rfl
        · simp
        · exact .inr (Nat.le_refl _))
      have h4' : Sch.Rep w2 (Nw wr.heap.size w2) sEntry us x := h4.mono (fun b hb _ => hb.go hu.size rfl)
      have hbp : Blk w2 p tp (pre ++ [v] ++ post) := by
        refine h2.blk (hu.blk HBK.out (by simp)) ?_
        simp; omega
      have hrow2 := (hN.row)
      have hrw : w2.ownsRow w.heap.size 47 29 v i xss.flatten := h2.row (hu.row HST.out.row (by simp)) (by
        intro y hy
        have := own_lo HST.out.row hy
        simp; omega)
      have hsz2 := hU.size
      have hl2 := hb2.lt
      obtain ⟨a, c, rfl⟩ := own_shape' hrw
      have HO := Lib.hid h4.one
      have HR : Hid (∀ w', Upd (Value.slice a i c).ownBlock.toList w2 w' → w'.cell? ⟨p, pre.length, none⟩ = some (.slice a i c) ∧ Blk w' wr.heap.size 47 us) := Lib.hid (by
        intro w' u
        refine ⟨(u.blk hbp ?_).cell mid_at, u.blk hb2 ?_⟩
        · intro hm
          have := own_lo HST.out.row (g := p) (by simpa using hm)
          omega
        · intro hm
          have := own_lo HST.out.row (g := wr.heap.size) (by simpa using hm)
          omega)
      have HST2 := HST
      have HU := Lib.hid hU
      have H4 := Lib.hid h4'
      have H5 := Lib.hid h5
      have H1 := Lib.hid h1
      have HRW := Lib.hid hrw
      have HBP := Lib.hid hbp
      have HUS := Lib.hid hus
      clear h1 h2 h3 h4 h5 hN hb hu hbp hrow2 hrw hU h4' hus
      go_wp2_with fail
      refine wp_region_lex (fun w' => Upd (Value.slice a i c).ownBlock.toList w2 w') 8 [(0, true), (1, true), (2, true), (3, true), (4, true), (5, false), (6, false), (7, false), (8, false)] (by kernel_rfl) (by kernel_rfl) (by kernel_rfl) (by kernel_rfl) (fun _ _ d _ _ h => by cases d <;> exact h) ?_
      simp only [lexOps, List.map_cons, List.map_nil, List.getD_cons_zero, List.getD_cons_succ]
      have hS0 : Upd (Value.slice a i c).ownBlock.toList w2 w2.drew := (Upd.refl _ _).drew
      iterate 4 (refine lex_read rfl (by exact hS0) (v := ?_) (fun w' hw => ?_) ?_; rotate_left; (focus (obtain ⟨k1, k2⟩ := HR.out w' hw; clear k2; go_simp; try with_reducible rfl)); simp only [Act.put, List.setIfInBounds_toArray, List.set_cons_zero, List.set_cons_succ])
      refine lex_read rfl (by exact hS0) (fun w' hw => exec_load (by rfl) (by rfl) (run_loadAt_mid w' wr.heap.size 0 47 us _ (HR.out w' hw).2.range Tryz.underlying47 rfl (by rw [HUS.out]; exact Tryz.size47))) ?_
      try simp only [Act.put, List.setIfInBounds_toArray, List.set_cons_zero, List.set_cons_succ]
      refine lex_run rfl (exec_buildSlice (by rfl) (by simp [Act.eval]) (run_buildSlice1 _ 51 47 iT _ us 29 Tryz.underlying51 hiT hz0 hz1 HUS.out (by decide) (by decide))) (fun _ => hS0.alloc _) ?_
      try simp only [Act.put, List.setIfInBounds_toArray, List.set_cons_zero, List.set_cons_succ]
      have h64 : k ≤ 64 := hk
      have hB2 : Blk (w2.drew.alloc (.cells us.toArray 47)) w2.heap.size 47 us := Blk.new w2.drew _ _
      refine lex_do rfl (fun K hK => ?_)
      refine wp_append_mine (.tmp 53) (.tmp 55) 51 rfl w.heap.size 47 iT _ 29 _ Tryz.underlying51 hiT hz0 hz1 hz2 rfl (by decide) (.slice a i c) i xss.flatten rfl (World.ownsRow.alloc HRW.out _) ⟨w2.heap.size, 0, none⟩ 1 1 us rfl (by rw [HUS.out]) hB2.news (HO.out) (by unfold maxLen; omega) (by omega) (by have := HST.out.upd.size; simp; omega) ?_
      intro v' w3 hown hg hv
      have uA : Upd [f, p] wr (w2.drew.alloc (.cells us.toArray 47)) := (HU.out.drew).alloc _
      have hF : Fr B w3 f l2 b2 := by
        obtain ⟨a', c', hI⟩ := H1.out
        have hI2 : In 108 cR B (w2.drew.alloc (.cells us.toArray 47)) f l2 b2 a' c' := hI.upd (F := []) ((Upd.refl [] w2).drew.alloc _) (by simp)
        refine ⟨a', c', hI2.upd (F := (Value.slice a i c).ownBlock.toList) ((Upd.refl _ _).grown hg (fun k hk => .inl (by simp [hk]))) (fun k hk => ?_)⟩
        have := own_lo HST.out.row (g := k) (by simpa using hk)
        omega
      have hbp3 : Blk w3 p tp (pre ++ [.slice a i c] ++ post) := by
        have hb4 : Blk (w2.drew.alloc (.cells us.toArray 47)) p tp (pre ++ [.slice a i c] ++ post) := (HBP.out.drew).alloc _
        refine (hg.block p hb4.lt (fun e => ?_)).trans hb4
        have := own_lo HST.out.row (g := p) e.symm
        omega
      have q1 := hbp3.cell (o := pre.length) mid_at
      have q2 := hbp3.frozen pre.length
      have q3 := hbp3.lt
      have uS : Upd [p] w3 (w3.setCell ⟨p, pre.length, none⟩ v') := (Upd.refl _ _).setCell (by simp) _
      have HX : Hid (Blk (w3.setCell ⟨p, pre.length, none⟩ v') p tp (pre ++ [v'] ++ post) ∧ LRdSt sEntry 108 cR [f, p] B f 47 29 w (w3.setCell ⟨p, pre.length, none⟩ v') k l b (i + 1) l2 b2 v' (xss ++ [us]) (xs ++ [x])) := by
        refine Lib.hid ⟨?_, LRdSt.next HST.out hlt uA (H4.out.updN ((Upd.refl [] w2).drew.alloc _) (by simp)) HUS.out H5.out hg hown ?_ (uS.mono (by simp)) (hF.upd uS (by simp; omega))⟩
        · have := hbp3.set pre.length v'
          rwa [mid_set] at this
        · rcases hv with h | h
          · exact .inl h
          · exact .inr h
      have hS3 : Upd (Value.slice a i c).ownBlock.toList w2 w3 := (hS0.alloc _).grown hg (fun k hk => .inl (by simp [hk]))
      refine hK _ _ (fun _ => hS3) ?_
      obtain ⟨a', c', rfl⟩ := own_shape' hown
      clear hK K hown hg hv uA hF hbp3 uS hB2 hS0
      try simp only [Act.put, List.setIfInBounds_toArray, List.set_cons_zero, List.set_cons_succ]
      refine lex_do rfl (fun K hK => ?_)
      go_simp
      refine hK _ _ (fun _ => hS3) ?_
      clear hK K hS3
      try simp only [Act.put, List.setIfInBounds_toArray, List.set_cons_zero, List.set_cons_succ]
      refine lex_do rfl (fun K hK => ?_)
      go_simp
      refine hK _ _ (fun h => absurd rfl h) ?_
      clear hK K
      try simp only [Act.put, List.setIfInBounds_toArray, List.set_cons_zero, List.set_cons_succ]
      refine lex_nil ?_
      go_wp2_with fail
      go_roundg (k - (i + 1))
      case measure => have := HG.out; omega
      case rel => exact ⟨i + 1, l2, b2, _, _, _, by go_num, rfl, by omega, HX.out.1, HX.out.2⟩
    · obtain rfl : i = k := by omega
      have HE := Lib.hid (HST.out.rd (.inr rfl))
      go_wp2_with fail
      go_end0
      exact ⟨rfl, .list xs, [v], l', b', HST.out.fr, HST.out.upd, HBK.out, HST.out.isRep, HE.out⟩
end Go.Proofs.YthclnpigplcckaaGreat
/- codec's form.code, writing and reading. -/
namespace Go.Proofs.YthclnpigplcckaaGreat
open Go.RowKit Go.Lb Go.Rc

set_option maxRecDepth 20000 in
set_option maxHeartbeats 1000000 in
theorem code_writes : Writes 105 .num := by
  intro B X f p q tp pre cs post v o b w h hX hq hp hr hl
  obtain ⟨n, rfl, rfl⟩ := hr
  subst hq
  simp only [Sch.wmax] at hl
  have hN := h.new ((Upd.refl [] w).alloc (.cells #[.int .i64 n] 3)) (x := w.heap.size) (Nat.le_refl _) (by simp)
  have HN := Lib.hid hN
  have HPb := Lib.hid (hp.alloc (.cells #[.int .i64 n] 3))
  have k0 := hp.cell (o := pre.length) mid_at
  have hB := h.base
  have hplt := hp.lt
  have HX := Lib.hid hX
  clear h hN hp hX
  go_enter Tryz.func105, Tryz.ntmps105
  go_wp2_with fail
  refine (num_w B (w.heap.size :: X) f _ _ _ o b _ HN.out ((Blk.new w 3 [.int .i64 _]).cell rfl) hl).mono ?_
  rintro e w1 ⟨rfl, o', b', h1, h2, h3⟩
  have hbn := h2.blk (Blk.new w 3 [.int .i64 _]) (.inr (by simp))
  have c0 := hbn.cell (o := 0) rfl
  have hbp := h2.blk HPb.out (.inr (by simp [HX.out]))
  have p0 := hbp.cell (o := pre.length) mid_at
  have pz := hbp.frozen pre.length
  have plt := hbp.lt
  have HS := Lib.hid (setCell_same hbp (o := pre.length) mid_at)
  have HF := Lib.hid (show WrPost .num B X f (.num n) o b w (.returned (.tuple #[])) w1 from ⟨rfl, o', b', h1.less, (Kp.of_nil ((Upd.refl [] w).alloc _)).trans h2.drop, h3⟩)
  clear h1 h2 h3 hbn hbp
  go_wp2_with fail
  go_end0
  first | (rw [HS.out]; exact HF.out) | exact HF.out

set_option maxRecDepth 20000 in
set_option maxHeartbeats 1000000 in
theorem code_reads : Reads 105 .num := by
  intro B f p q tp pre post l b w h hB hpf hq hp
  subst hq
  obtain ⟨_, _, _, hf, hBf⟩ := fr_mark h
  have HN := Lib.hid (h.upd ((Upd.refl [] w).alloc (.cells #[.int .i64 0] 3)) (by simp))
  have HPb := Lib.hid (hp.alloc (.cells #[.int .i64 0] 3))
  have k0 := hp.cell (o := pre.length) mid_at
  have hplt := hp.lt
  clear h hp
  go_enter Tryz.func105, Tryz.ntmps105
  go_wp2_with fail
  refine (num_r' B f w.heap.size 0 3 (.int .i64 0) [] [] l b _ HN.out (by omega) (by omega) rfl (Blk.new w _ _)).mono ?_
  rintro e w1 ⟨rfl, n, l', b', h1, h2, h3, h4⟩
  have c0 := h3.cell (o := 0) rfl
  have hbp := h2.blk HPb.out (by simp; omega)
  have p0 := hbp.cell (o := pre.length) mid_at
  have pz := hbp.frozen pre.length
  have plt := hbp.lt
  have HF : Hid (RdPost .num B f p tp pre post l b w (.returned (.tuple #[])) (w1.setCell ⟨p, pre.length, none⟩ (.int .i64 n))) := by
    refine Lib.hid ?_
    have uS : Upd [p] w1 (w1.setCell ⟨p, pre.length, none⟩ (.int .i64 n)) := (Upd.refl _ _).setCell (by simp) _
    refine ⟨rfl, .num n, [.int .i64 n], l', b', h1.upd uS (fun k hk => ?_), ?_, ?_, Sch.Rep.num_mk _, Sch.Rd.num h4⟩
    · simp at hk; subst hk; exact ⟨hpf, hB⟩
    · have hu : Upd [f, p] w w1 := ((Upd.refl [f, p] w).alloc _).trans h2 (by intro x hx; simp at hx; rcases hx with rfl | rfl; simp; right; exact Nat.le_refl _)
      exact hu.trans uS (by simp)
    · have := hbp.set pre.length (.int .i64 n)
      simpa [Sch.zc] using this
  clear h1 h2 h3 h4 hbp
  go_wp2_with fail
  go_end0
  exact HF.out
end Go.Proofs.YthclnpigplcckaaGreat
/- codec's form.result, reading. -/
namespace Go.Proofs.YthclnpigplcckaaGreat
open Go.RowKit Go.Lb Go.Rc

set_option maxRecDepth 20000 in
set_option maxHeartbeats 2000000 in
theorem result_reads : Reads 71 sResult := by
  intro B f p q tp pre post l b w h hB hpf hq hp
  subst hq
  have H0 := Lib.hid (RdSt.start (rest := [.num, .num, .list sAlloc]) h hB hpf hp (fr_mark h).2.2.2.1)
  clear h hp
  go_enter Tryz.func71, Tryz.ntmps71
  go_wp2_with fail
  refine (CRd.go code_reads H0.out (by simp only [fsize_append, fsize_nums, fsize, List.nil_append] <;> rfl)).mono ?_
  rintro e w1 ⟨rfl, v1, l1, b1, h⟩
  have H1 := Lib.hid h
  clear h
  go_wp2_with fail
  refine (CRd.go num_reads H1.out (by simp only [fsize_append, fsize_nums, fsize, List.nil_append] <;> rfl)).mono ?_
  rintro e w2 ⟨rfl, v2, l2, b2, h⟩
  have H2 := Lib.hid h
  clear h
  go_wp2_with fail
  refine (CRd.goList listAlloc_reads H2.out (by simp only [fsize_append, fsize_nums, fsize, List.nil_append] <;> rfl)).mono ?_
  rintro e w3 ⟨rfl, v3, l3, b3, h⟩
  have H3 := Lib.hid h
  clear h
  go_wp2_with fail
  go_end0
  exact CRd.fin H3.out (by simp only [List.map_append, nums_fst, List.append_assoc, List.map_cons, List.map_nil, List.nil_append]; rfl)
end Go.Proofs.YthclnpigplcckaaGreat
/- codec's form.msg, reading. -/
namespace Go.Proofs.YthclnpigplcckaaGreat
open Go.RowKit Go.Lb Go.Rc

set_option maxRecDepth 20000 in
set_option maxHeartbeats 2000000 in
theorem msg_reads : Reads 35 sMsg := by
  intro B f p q tp pre post l b w h hB hpf hq hp
  subst hq
  have H0 := Lib.hid (RdSt.start (rest := [.num, .num, .num, .num, .num, .num, .num, .flag, .num, .num, .num, .num, .list sEntry, sConf, .raw, sCmd, sResult]) h hB hpf hp (fr_mark h).2.2.2.1)
  clear h hp
  go_enter Tryz.func35, Tryz.ntmps35
  go_wp2_with fail
  refine wp_region_lex (fun _ => True) 99 [(0, true), (1, true), (2, true), (3, true), (4, true), (5, true), (6, true), (7, true), (8, true), (9, true), (10, true), (11, true), (12, true), (13, true), (14, true), (15, true), (16, true), (17, true), (18, true), (19, true), (20, true), (21, true), (22, false), (23, false)] (by kernel_rfl) (by kernel_rfl) (by kernel_rfl) (by kernel_rfl) (fun _ _ d _ _ h => by cases d <;> exact h) ?_
  simp only [lexOps, List.map_cons, List.map_nil, List.getD_cons_zero, List.getD_cons_succ]
  iterate 22 (refine lex_read rfl trivial (v := ?_) (fun w' _ => ?_) ?_; rotate_left; (focus (go_simp; try with_reducible rfl)); simp only [Act.put, List.setIfInBounds_toArray, List.set_cons_zero, List.set_cons_succ])
  refine lex_do rfl (fun K hK => ?_)
  go_simp
  refine hK _ _ (fun _ => trivial) ?_
  clear hK K
  refine lex_do rfl (fun K hK => ?_)
  go_simp
  refine (CRd.goNums (rest := [.flag, .num, .num, .num, .num, .list sEntry, sConf, .raw, sCmd, sResult]) (k := 7) H0.out ((Upd.refl _ _).alloc _).drew (Nat.le_refl _) (Blk.drew (Blk.new _ _ [_, _, _, _, _, _, _])) (by simp only [fsize_append, fsize_nums, fsize, List.nil_append] <;> rfl) (by decide)).mono ?_
  rintro e w1 ⟨rfl, ns1, l1, b1, hn, h⟩
  have H1 := Lib.hid h
  have HN1 := Lib.hid hn
  clear hn
  refine hK _ _ (fun _ => trivial) ?_
  clear hK K h
  refine lex_nil ?_
  go_wp2_with fail
  refine (CRd.go flag_reads H1.out (by simp only [fsize_append, fsize_nums, fsize, HN1.out, List.nil_append] <;> rfl)).mono ?_
  rintro e w2 ⟨rfl, v2, l2, b2, h⟩
  have H2 := Lib.hid h
  clear h
  go_wp2_with fail
  refine wp_region_lex (fun _ => True) 99 [(0, true), (1, true), (2, true), (3, true), (4, true), (5, true), (6, true), (7, true), (8, true), (9, true), (10, true), (11, true), (12, true), (13, false), (14, false)] (by kernel_rfl) (by kernel_rfl) (by kernel_rfl) (by kernel_rfl) (fun _ _ d _ _ h => by cases d <;> exact h) ?_
  simp only [lexOps, List.map_cons, List.map_nil, List.getD_cons_zero, List.getD_cons_succ]
  iterate 13 (refine lex_read rfl trivial (v := ?_) (fun w' _ => ?_) ?_; rotate_left; (focus (go_simp; try with_reducible rfl)); simp only [Act.put, List.setIfInBounds_toArray, List.set_cons_zero, List.set_cons_succ])
  refine lex_do rfl (fun K hK => ?_)
  go_simp
  refine hK _ _ (fun _ => trivial) ?_
  clear hK K
  refine lex_do rfl (fun K hK => ?_)
  go_simp
  refine (CRd.goNums (rest := [.list sEntry, sConf, .raw, sCmd, sResult]) (k := 4) H2.out ((Upd.refl _ _).alloc _).drew (Nat.le_refl _) (Blk.drew (Blk.new _ _ [_, _, _, _])) (by simp only [fsize_append, fsize_nums, fsize, HN1.out, List.nil_append] <;> rfl) (by decide)).mono ?_
  rintro e w3 ⟨rfl, ns3, l3, b3, hn, h⟩
  have H3 := Lib.hid h
  have HN3 := Lib.hid hn
  clear hn
  refine hK _ _ (fun _ => trivial) ?_
  clear hK K h
  refine lex_nil ?_
  go_wp2_with fail
  refine (CRd.goList listEntry_reads H3.out (by simp only [fsize_append, fsize_nums, fsize, HN1.out, HN3.out, List.nil_append] <;> rfl)).mono ?_
  rintro e w4 ⟨rfl, v4, l4, b4, h⟩
  have H4 := Lib.hid h
  clear h
  go_wp2_with fail
  refine (CRd.go conf_reads H4.out (by simp only [fsize_append, fsize_nums, fsize, HN1.out, HN3.out, List.nil_append] <;> rfl)).mono ?_
  rintro e w5 ⟨rfl, v5, l5, b5, h⟩
  have H5 := Lib.hid h
  clear h
  go_wp2_with fail
  refine (CRd.go raw_reads H5.out (by simp only [fsize_append, fsize_nums, fsize, HN1.out, HN3.out, List.nil_append] <;> rfl)).mono ?_
  rintro e w6 ⟨rfl, v6, l6, b6, h⟩
  have H6 := Lib.hid h
  clear h
  go_wp2_with fail
  refine (CRd.go cmd_reads H6.out (by simp only [fsize_append, fsize_nums, fsize, HN1.out, HN3.out, List.nil_append] <;> rfl)).mono ?_
  rintro e w7 ⟨rfl, v7, l7, b7, h⟩
  have H7 := Lib.hid h
  clear h
  go_wp2_with fail
  refine (CRd.go result_reads H7.out (by simp only [fsize_append, fsize_nums, fsize, HN1.out, HN3.out, List.nil_append] <;> rfl)).mono ?_
  rintro e w8 ⟨rfl, v8, l8, b8, h⟩
  have H8 := Lib.hid h
  clear h
  go_wp2_with fail
  go_end0
  exact CRd.fin H8.out (by simp only [List.map_append, nums_fst, HN1.out, HN3.out, List.append_assoc, List.map_cons, List.map_nil, List.nil_append]; rfl)
end Go.Proofs.YthclnpigplcckaaGreat
/- codec's get[Msg] and GetMsg. -/
namespace Go.Proofs.YthclnpigplcckaaGreat
open Go.RowKit Go.Lb Go.Rc

set_option maxRecDepth 20000 in
set_option maxHeartbeats 2000000 in
theorem getMsg_any (a : Option Addr) (c : Nat) (l : List Nat) (w : World) (hb : Bytes w (· < w.heap.size) a l) (hc : l.length ≤ c ∧ c ≤ maxLen) :
    Calls Tryz.prog 34 #[.slice a l.length c, .func (.func 35) #[] #[]] w (GetIs sMsg l w) := by
  have HB := Lib.hid hb
  have HC := Lib.hid hc
  clear hb hc
  go_enter Tryz.func34, Tryz.ntmps34
  go_wp2_with (refine wpList_alloc_blk rfl 55 rfl sMsg.zc (zero55 _) ?_; intro wA hA uA)
  rename_i wB hB uB wC hC uC K1 a1 K2 a2
  have uW : Upd [] w (wA.alloc (.cells #[.slice a l.length c, .bool true, .bool false] 108)) := ((uB.trans uC (by simp)).trans uA (by simp)).alloc _
  have s1 := uB.size
  have s2 := uC.size
  have s3 := uA.size
  have l1 := hB.lt
  have l2 := hC.lt
  have l3 := hA.lt
  have hT := (uA.blk (uC.blk hB (by simp)) (by simp)).alloc (.cells #[.slice a l.length c, .bool true, .bool false] 108)
  have hX := (uA.blk hC (by simp)).alloc (.cells #[.slice a l.length c, .bool true, .bool false] 108)
  have hN := hA.alloc (.cells #[.slice a l.length c, .bool true, .bool false] 108)
  refine (msg_reads w.heap.size wA.heap.size wB.heap.size 0 55 [] [] l false _ ⟨a, c, Blk.new wA 108 [.slice a l.length c, .bool true, .bool false], HB.out.upd uW (by simp), HC.out, by omega⟩ (by omega) (by omega) rfl (by simpa using hX)).mono ?_
  rintro e w1 ⟨rfl, v, cs, l', b', h1, h2, h3, h4, h5⟩
  have hlen : cs.length = 46 := h4.len
  have h3' : Blk w1 wB.heap.size 55 cs := by simpa using h3
  have hT1 : Blk w1 w.heap.size 55 sMsg.zc := h2.blk hT (by simp; omega)
  have hN1 : Blk w1 wC.heap.size 55 sMsg.zc := h2.blk hN (by simp; omega)
  have HU : Hid (Upd [] w w1) := Lib.hid (uW.trans h2 (by simp; omega))
  have HT := Lib.hid hT1
  have HN := Lib.hid hN1
  have HX := Lib.hid h3'
  have HRep := Lib.hid (h4.mono (ok' := fun k => w.heap.size < k ∧ Soft w1 k) (fun b hb _ => ⟨by have := hb.1; simp at this; omega, hb.2⟩))
  have HR := Lib.hid h5
  obtain ⟨m2, _, _, _, _⟩ := fr_mark h1
  obtain ⟨a', c', hI⟩ := h1
  have f0 := hI.blk.cell (o := 0) rfl
  clear h2 h3 h4 h5 h3' hT1 hN1 hT hX hN hI uA uB uC hA hB hC uW
  by_cases hg : b' = false ∧ l' = []
  · obtain ⟨rfl, rfl⟩ := hg
    have f0' : w1.cell? ⟨wA.heap.size, 0, none⟩ = some (.slice a' 0 c') := f0
    clear f0
    go_wp2_with (first | (refine wpList_load_blk rfl 55 (.tmp 6) rfl wB.heap.size rfl HX.out Tryz.underlying55 rfl (by rw [hlen]; exact Tryz.size55) ?_) | (refine wpList_store_blk (o := ⟨none, .store 55 (.tmp 4) (.tmp 28), _, _, _, _⟩) rfl 55 (.tmp 4) (.tmp 28) rfl w.heap.size cs rfl rfl HT.out (by rw [hlen]; exact Tryz.size55) (by rw [hlen]; rfl) HRep.out.one ?_; intro w3 hb3 hu3))
    have hl := run_loadVar_blk (P := Tryz.prog) hb3 55 _ Tryz.underlying55 rfl (by rw [hlen]; exact Tryz.size55)
    refine bodyPost_ret (v := .tuple #[.agg cs.toArray, .bool true]) ?_ rfl ⟨HU.out.trans hu3 (by simp), cs, v, true, rfl, HRep.out.keep (fun k hk hl => ⟨⟨Nat.le_of_lt hk.1, hk.2.keep (hu3.block k hl (by simp; omega))⟩, hu3.block k hl (by simp; omega)⟩) hu3.size, fun _ => (HR.out.good rfl).2, fun h => (by cases h)⟩
    · rw [results_cell_tmp Tryz.results34]; simp [asAddr, hl]
  · have t1 : b' = true ∨ (b' = false ∧ decide (0 < l'.length) = true) := by
      cases b' with
      | true => exact .inl rfl
      | false =>
        right
        refine ⟨rfl, ?_⟩
        rw [decide_eq_true_eq, List.length_pos_iff]
        exact fun h => hg ⟨rfl, h⟩
    have HG : Hid (∀ v', sMsg.get l ≠ some (v', [])) := Lib.hid (fun v' hv => by
      cases b' with
      | true =>
        rcases HR.out.bad rfl with h | h
        · cases h
        · rw [hv] at h; cases h
      | false =>
        have := (HR.out.good rfl).2
        rw [hv] at this
        simp only [Option.some.injEq, Prod.mk.injEq] at this
        exact hg ⟨rfl, this.2.symm⟩)
    clear hg
    rcases t1 with rfl | ⟨rfl, t1⟩
    all_goals
      go_wp2_with (first | (refine wpList_load_blk rfl 55 (.tmp 7) rfl wC.heap.size rfl HN.out Tryz.underlying55 rfl (by exact Tryz.size55) ?_) | (refine wpList_store_blk (o := ⟨none, .store 55 (.tmp 4) (.tmp 27), _, _, _, _⟩) rfl 55 (.tmp 4) (.tmp 27) rfl w.heap.size sMsg.zc rfl rfl HT.out (by exact Tryz.size55) (by rfl) (Sch.zc_one sMsg) ?_; intro w3 hb3 hu3))
      have hl := run_loadVar_blk (P := Tryz.prog) hb3 55 _ Tryz.underlying55 rfl (by exact Tryz.size55)
      refine bodyPost_ret (v := .tuple #[.agg sMsg.zc.toArray, .bool false]) ?_ rfl ⟨HU.out.trans hu3 (by simp), sMsg.zc, sMsg.zero, false, rfl, Sch.Rep.zero _ _ _, fun h => (by cases h), fun _ => ⟨HG.out, rfl⟩⟩
      rw [results_cell_tmp Tryz.results34]; simp [asAddr, hl]

set_option maxRecDepth 20000 in
set_option maxHeartbeats 2000000 in
theorem getMsg_gets : Gets 12 sMsg := by
  intro a c l w hb hc
  have HB := Lib.hid hb
  have HC := Lib.hid hc
  clear hb hc
  go_enter Tryz.func12, Tryz.ntmps12
  go_wp2_with (refine wpList_alloc_blk rfl 55 rfl sMsg.zc (zero55 _) ?_; intro wA hA uA)
  have s1 := uA.size
  have l1 := hA.lt
  refine (getMsg_any a c l wA ((HB.out.upd uA (by simp)).mono' s1) HC.out).mono ?_
  rintro e w1 ⟨u1, cs, v, r, rfl, hr, h1, h2⟩
  have hlen : cs.length = 46 := hr.len
  have HT := Lib.hid (u1.blk hA (by simp))
  have HU : Hid (Upd [] w w1) := Lib.hid (uA.trans u1 (by simp))
  have HRep := Lib.hid (hr.mono (ok' := fun k => w.heap.size < k ∧ Soft w1 k) (fun b hb _ => ⟨by have := hb.1; omega, hb.2⟩))
  have H1 := Lib.hid h1
  have H2 := Lib.hid h2
  clear hr h1 h2 u1 uA hA
  go_wp2_with (refine wpList_store_blk (o := ⟨none, .store 55 (.tmp 2) (.tmp 6), _, _, _, _⟩) rfl 55 (.tmp 2) (.tmp 6) rfl w.heap.size cs rfl rfl HT.out (by rw [hlen]; exact Tryz.size55) (by rw [hlen]; rfl) HRep.out.one ?_; intro w3 hb3 hu3)
  have hl := run_loadVar_blk (P := Tryz.prog) hb3 55 _ Tryz.underlying55 rfl (by rw [hlen]; exact Tryz.size55)
  refine bodyPost_ret (v := .tuple #[.agg cs.toArray, .bool r]) ?_ rfl ⟨HU.out.trans hu3 (by simp), cs, v, r, rfl, HRep.out.keep (fun k hk hl => ⟨⟨Nat.le_of_lt hk.1, hk.2.keep (hu3.block k hl (by simp; omega))⟩, hu3.block k hl (by simp; omega)⟩) hu3.size, H1.out, H2.out⟩
  rw [results_cell_tmp Tryz.results12]; simp [asAddr, hl]
end Go.Proofs.YthclnpigplcckaaGreat
/- The reference's In.Bytes. -/
namespace Go.Proofs.YthclnpigplcckaaGreat
open Go.RowKit Go.Lb Go.Rc

set_option maxRecDepth 20000 in
set_option maxHeartbeats 4000000 in
theorem ibytes_reads : IReads 73 .raw := fun B f l b w h => by
  obtain ⟨i5, hi5, hz0, hz1, hz2⟩ := infoU8
  have HTT : Hid (Tryz.prog.underlying 22 = some (.slice (Tryz.prog.elem 22))) := Lib.hid <| by rw [Tryz.elem22]; exact Tryz.underlying22
  obtain ⟨_, _, hf, hBf⟩ := ir_mark h
  have H := Lib.hid h
  clear h
  go_enter Tryz.func73, Tryz.ntmps73
  go_wp2_with fail
  refine (inum_post B f l b _ H.out).mono ?_
  rintro e w1 ⟨n, l', b', rfl, h1, h2, h3⟩
  obtain ⟨m1, m2, m3, _⟩ := ir_mark h1
  obtain ⟨k1, k2⟩ := ir_set h1 true
  obtain ⟨a, c, hI⟩ := h1
  have c0 := hI.blk.cell (o := 0) rfl
  have z0 := hI.blk.frozen 0
  obtain ⟨hc1, hc2⟩ := hI.cap
  by_cases hn : 0 ≤ n ∧ n ≤ 65536 ∧ n.toNat ≤ l'.length
  · obtain ⟨k, rfl⟩ : ∃ k : Nat, n = k := ⟨n.toNat, (Int.toNat_of_nonneg hn.1).symm⟩
    simp only [Int.toNat_natCast] at hn
    have hk1 : k ≤ 65536 := by omega
    have hk2 : k ≤ l'.length := by omega
    have t1 : decide ((k : Int) < 0) = false := by simp
    have t2 : decide ((65536 : Int) < (k : Int)) = false := by simp; omega
    have t3 : decide ((l'.length : Int) < (k : Int)) = false := by simp; omega
    have hBt : Bytes w1 (· < B) (suba a 0 c) (l'.take k) := suba_to hI.byte k hc1
    have htl : (l'.take k).length = k := by rw [List.length_take]; omega
    obtain ⟨v2, w2, hrun, hown, hg, hv⟩ := append_bytes (P := Tryz.prog) (w := w1) (base := w.heap.size) (ty := 22) (c := c) (v := .slice none 0 0) (n := 0) (xs := []) Tryz.underlying22 hi5 hz0 hz1 hz2 rfl ⟨rfl, .inl ⟨rfl, rfl⟩⟩ hBt (by omega) h2.size
    rw [htl] at hrun
    have u2 : Upd [] w1 w2 := (Upd.refl _ _).grown hg (fun k hk => by simp [Value.ownBlock] at hk)
    have R2 : Hid (Row w.heap.size w2 v2 (l'.take k)) := Lib.hid (by simpa using Row.mk (o := []) (news := l'.take k) hown)
    have hI2 := hI.upd u2 (by simp)
    have d0 := hI2.blk.cell (o := 0) rfl
    have dz := hI2.blk.frozen 0
    have dl := hI2.blk.lt
    have hdl : (l'.drop k).length = l'.length - k := by simp
    obtain ⟨f3, u3⟩ := ir_cut (l2 := l'.drop k) (a' := suba a k c) (c' := c - k) hI2 (suba_from hI2.byte k hc1) (by rw [hdl]; exact ⟨by omega, by omega⟩)
    rw [hdl] at f3 u3
    have hget : ROk Sch.raw.get l b (.raw (l'.take k)) (l'.drop k) b' := by
      constructor
      · intro e
        obtain ⟨g1, g2⟩ := h3.good e
        refine ⟨g1, ?_⟩
        simp only [Sch.get, g2, Int.toNat_natCast]
        rw [if_pos (by omega)]
      · intro e
        exact (h3.bad e).imp id fun h => by simp only [Sch.get, h]
    have HRUN := Lib.hid hrun
    have F3 := Lib.hid f3
    have U3 : Hid (Upd [f] w (w2.setCell ⟨f, 0, none⟩ (.slice (suba a k c) (l'.length - k) (c - k)))) := Lib.hid ((h2.trans u2 (by simp)).trans u3 (by simp))
    have U23 := Lib.hid u3
    have HGET := Lib.hid hget
    have HBY : Hid (∀ x ∈ l'.take k, x < 256) := Lib.hid (fun x hx => by
      obtain ⟨i, hi⟩ := List.mem_iff_getElem?.1 hx
      exact (hBt i x hi).1)
    have hfw := h2.size
    obtain ⟨a2, c2, rfl⟩ := R2.out.shape
    rw [htl] at HRUN R2
    clear h2 h3 k1 k2 hI hI2 hBt hrun hown hg hv u2 f3 u3 hget hn hdl
    go_wp2_with (first | (refine wpList_run (o := ⟨some 31, .slice 22 (.tmp 29) none (some (.tmp 30)) none, _, _, _, _⟩) rfl (exec_sliceAt (by rfl) (by rfl) (by rfl) (by rfl) (sub_h HTT.out Tryz.elem22 hi5 hz1 (up := k) rfl (by omega))) ?_) | (refine wpList_run (o := ⟨some 39, .slice 22 (.tmp 37) (some (.tmp 38)) none none, _, _, _, _⟩) rfl (exec_sliceAt (by rfl) (by rfl) (by rfl) (by rfl) (sub_l HTT.out Tryz.elem22 hi5 hz1 (lo := k) rfl (by omega))) ?_) | (at_builtin; refine wpList_run rfl (exec_append (by rfl) (by rfl) (by rfl) HRUN.out) ?_))
    refine bodyPost_ret (results_tmp rfl _ _ _) rfl ?_
    refine ⟨.raw (l'.take k), [.slice a2 k c2], l'.drop k, b', rfl, F3.out, U3.out, ⟨a2, c2, l'.take k, by rw [htl], rfl, ?_⟩, HGET.out, by simp only [Sch.wmax, Sch.most, htl]; omega⟩
    exact (R2.out.bytesN HBY.out htl.symm).updN U23.out (fun x hx => by simp; omega)
  · have hbad : Sch.raw.get l = none ∨ b = true := by
      cases b' with
      | true => exact (h3.bad rfl).symm.imp (fun h => by simp only [Sch.get, h]) id
      | false => left; simp only [Sch.get, (h3.good rfl).2]; rw [if_neg (by omega)]
    have HF : Hid (IPost .raw B f l b w (.returned (.slice none 0 0)) (w1.setCell ⟨f, 1, none⟩ (.bool true))) := Lib.hid ⟨.raw [], [.slice none 0 0], l', true, rfl, k1, h2.trans k2 (by simp), ⟨none, 0, [], rfl, rfl, Bytes.nil _ _ _⟩, ⟨fun e => (by cases e), fun _ => hbad.symm⟩, by simp [Sch.wmax, Sch.most]⟩
    have tn : decide (n < 0) = true ∨ (decide (n < 0) = false ∧ decide (65536 < n) = true) ∨ (decide (n < 0) = false ∧ decide (65536 < n) = false ∧ decide ((l'.length : Int) < n) = true) := by
      by_cases h0 : n < 0
      · left; simpa using h0
      · right
        by_cases h1 : 65536 < n
        · left; exact ⟨by simpa using h0, by simpa using h1⟩
        · right; exact ⟨by simpa using h0, by simpa using h1, by simp; omega⟩
    clear h2 h3 k1 k2 hn hbad hI
    rcases tn with t1 | ⟨t1, t2⟩ | ⟨t1, t2, t3⟩
    all_goals
      go_wp2_with fail
      refine bodyPost_ret (results_tmp rfl _ _ _) rfl ?_
      exact HF.out
end Go.Proofs.YthclnpigplcckaaGreat
/- The reference's result, read. -/
namespace Go.Proofs.YthclnpigplcckaaGreat
open Go.RowKit Go.Lb Go.Rc

set_option maxRecDepth 20000 in
set_option maxHeartbeats 4000000 in
theorem iresult_reads : IReads 74 sResult := fun B f l b w h => by
  obtain ⟨_, _, hf, hBf⟩ := ir_mark h
  have H := Lib.hid h
  clear h
  go_enter Tryz.func74, Tryz.ntmps74
  go_wp2_with (refine wpList_alloc_blk rfl 53 rfl sResult.zc (zero53 _) ?_; intro w0 hA uA; have HA := Lib.hid hA; have UA := Lib.hid uA; clear hA uA)
  have s0 := HA.out.lt
  have H0 := Lib.hid (IRdG.start ((H.out).upd UA.out (by simp)) (Nat.lt_of_lt_of_le hf UA.out.size) hBf)
  refine (IRd.goNum H0.out).mono ?_
  rintro e w1 ⟨n1, l1, b1, rfl, u, h⟩
  have H1 := Lib.hid h
  clear u h
  go_wp2_with fail
  refine (IRd.goNum H1.out).mono ?_
  rintro e w2 ⟨n2, l2, b2, rfl, u, h⟩
  have H2 := Lib.hid h
  clear u h
  go_wp2_with fail
  refine (IRd.goList iallocs_reads H2.out).mono ?_
  rintro e w3 ⟨a3, m3, c3, v3, l3, b3, rfl, u, h⟩
  have H3 := Lib.hid h
  clear u h
  obtain ⟨cs3, hcs3⟩ : ∃ z : List Value, z = ((([] ++ [.int .i64 n1]) ++ [.int .i64 n2]) ++ [.slice a3 m3 c3]) := ⟨_, rfl⟩
  have cs3l : cs3.length = 3 := by rw [hcs3]; simp
  have HBU : Hid (Tryz.prog.built 53 [(0, .int .i64 n1), (1, .int .i64 n2), (2, .slice a3 m3 c3)] = some (cs3 ++ (tup []).zc).toArray) := Lib.hid (by
    have e := built_seq (P := Tryz.prog) (t := 53) [1, 1, 1] sResult.zc (by kernel_rfl) (by kernel_rfl) (by rfl) [.int .i64 n1, .int .i64 n2, .slice a3 m3 c3] [[.int .i64 n1], [.int .i64 n2], [.slice a3 m3 c3]] rfl (by simp [])
    rw [show List.flatten [[.int .i64 n1], [.int .i64 n2], [.slice a3 m3 c3]] = cs3 from by rw [hcs3]; simp, show (sResult.zc).drop cs3.length = (tup []).zc from by rw [cs3l]; rfl] at e
    simp only [List.zipIdx_cons, List.zipIdx_nil, List.map_cons, List.map_nil, Nat.reduceAdd] at e
    exact e)
  have HI := H3.out
  rw [← hcs3] at HI
  have H3 := Lib.hid HI
  have HCS := Lib.hid hcs3
  clear HI hcs3
  have HA3 := Lib.hid (H3.out.upd.blk HA.out (by have := hf; simp; omega))
  have hone := Lib.hid H3.out.one
  go_wp2_with (first | (refine wpList_store_blk rfl 53 (.tmp 2) (.tmp 9) rfl w.heap.size (cs3 ++ (tup []).zc) rfl rfl HA3.out (by rw [show (tup []).zc = [] from rfl, List.append_nil, cs3l]; exact Tryz.size53) (by rw [show (tup []).zc = [] from rfl, List.append_nil, cs3l]; rfl) (by rw [show (tup []).zc = [] from rfl, List.append_nil]; exact hone.out) ?_; intro wz hz uz) | (refine wpList_buildTo rfl 53 #[(0, .tmp 4), (1, .tmp 6), (2, .tmp 8)] rfl (some 9) rfl (cs3 ++ (tup []).zc).toArray (by have h := HBU.out; simp [Act.eval]; with_reducible exact h) ?_))
  rw [show (tup []).zc = [] from rfl, List.append_nil] at hz
  have hld := run_loadVar_blk (P := Tryz.prog) hz 53 _ Tryz.underlying53 rfl (by rw [cs3l]; exact Tryz.size53)
  refine bodyPost_ret (v := .agg cs3.toArray) ?_ rfl (IRd.fin' H3.out UA.out uz s0 (by omega) (by omega) (Nat.le_refl _) (by simp only [List.map_append, List.map_cons, List.map_nil, List.nil_append, List.append_assoc, List.cons_append]; rfl) (by intro h; cases h) hf)
  simp [results, Tryz.results74, asAddr, Act.put, hld]
end Go.Proofs.YthclnpigplcckaaGreat
