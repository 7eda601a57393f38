/- A part that several proofs lean on: texts one behind the other. No condition but those that each theorem states. -/
import Derived.Test.YtpoplipjombdbaaZbe
import Derived.Test.YtpoplipjombdbaaRows
import Derived.DataShut
import Derived.ProofKit
import Derived.OpenShut
import Derived.ShutString
import Derived.ChangeOld
import Derived.JoinedCond
import Derived.Deep.Slices
import Derived.ChangeSame
import Derived.ArgAppend
set_option linter.unusedVariables false
set_option linter.unusedSimpArgs false
/- The reference's msg, written. -/
namespace Go.Proofs.Ytpoplipjombdbaa
open Go.RowKit Go.Lb Go.Rc

set_option maxRecDepth 20000 in
set_option maxHeartbeats 4000000 in
theorem omsg_writes : OWrites 51 sMsg := fun B X f cs v o b w h hr hl => by
  have hlen : cs.length = 46 := hr.len
  have k0 : (tup [.num, .num, .num, .num, .num, .num, .num, .flag, .num, .num, .num, .num, .list sEntry, sConf, .raw, sCmd, sResult]).Rep w (· < B) cs v := hr
  obtain ⟨_, _, v0, y1, -, rfl, ⟨n0, -, rfl⟩, k1⟩ := Sch.Rep.tup_cons k0
  obtain ⟨_, _, v1, y2, -, rfl, ⟨n1, -, rfl⟩, k2⟩ := Sch.Rep.tup_cons k1
  obtain ⟨_, _, v2, y3, -, rfl, ⟨n2, -, rfl⟩, k3⟩ := Sch.Rep.tup_cons k2
  obtain ⟨_, _, v3, y4, -, rfl, ⟨n3, -, rfl⟩, k4⟩ := Sch.Rep.tup_cons k3
  obtain ⟨_, _, v4, y5, -, rfl, ⟨n4, -, rfl⟩, k5⟩ := Sch.Rep.tup_cons k4
  obtain ⟨_, _, v5, y6, -, rfl, ⟨n5, -, rfl⟩, k6⟩ := Sch.Rep.tup_cons k5
  obtain ⟨_, _, v6, y7, -, rfl, ⟨n6, -, rfl⟩, k7⟩ := Sch.Rep.tup_cons k6
  obtain ⟨_, _, v7, y8, -, rfl, ⟨t7, -, rfl⟩, k8⟩ := Sch.Rep.tup_cons k7
  obtain ⟨_, _, v8, y9, -, rfl, ⟨n8, -, rfl⟩, k9⟩ := Sch.Rep.tup_cons k8
  obtain ⟨_, _, v9, y10, -, rfl, ⟨n9, -, rfl⟩, k10⟩ := Sch.Rep.tup_cons k9
  obtain ⟨_, _, v10, y11, -, rfl, ⟨n10, -, rfl⟩, k11⟩ := Sch.Rep.tup_cons k10
  obtain ⟨_, _, v11, y12, -, rfl, ⟨n11, -, rfl⟩, k12⟩ := Sch.Rep.tup_cons k11
  obtain ⟨_, _, v12, y13, -, rfl, ⟨-, -, l12, -, rfl, -⟩, k13⟩ := Sch.Rep.tup_cons k12
  obtain ⟨_, _, v13, y14, -, rfl, -, k14⟩ := Sch.Rep.tup_cons k13
  obtain ⟨_, _, v14, y15, -, rfl, ⟨-, -, l14, -, rfl, -⟩, k15⟩ := Sch.Rep.tup_cons k14
  obtain ⟨_, _, v15, y16, -, rfl, -, k16⟩ := Sch.Rep.tup_cons k15
  obtain ⟨_, _, v16, y17, -, rfl, -, k17⟩ := Sch.Rep.tup_cons k16
  obtain ⟨-, rfl⟩ := Sch.Rep.tup_nil k17
  clear k1 k2 k3 k4 k5 k6 k7 k8 k9 k10 k11 k12 k13 k14 k15 k16 k17
  have H0 := Lib.hid (OWg.start (tp := 61) (rest := [(.num, .num n0), (.num, .num n1), (.num, .num n2), (.num, .num n3), (.num, .num n4), (.num, .num n5), (.num, .num n6), (.flag, .flag t7), (.num, .num n8), (.num, .num n9), (.num, .num n10), (.num, .num n11), (.list sEntry, .list l12), (sConf, v13), (.raw, .raw l14), (sCmd, v15), (sResult, v16)]) h hr (by have := tup_wmax [(.num, .num n0), (.num, .num n1), (.num, .num n2), (.num, .num n3), (.num, .num n4), (.num, .num n5), (.num, .num n6), (.flag, .flag t7), (.num, .num n8), (.num, .num n9), (.num, .num n10), (.num, .num n11), (.list sEntry, .list l12), (sConf, v13), (.raw, .raw l14), (sCmd, v15), (sResult, v16)]; rw [← this]; exact hl) (Blk.new w 61 cs) ((Upd.refl _ _).alloc _))
  have hB := h.base
  clear h hr hl k0
  show Calls Try.prog _ #[_, .agg cs.toArray] _ _
  go_enter Try.func51, Try.ntmps51
  have e0_0 := WrG.numsAt (ns := [n0, n1, n2, n3, n4, n5, n6]) (rest := [(.flag, .flag t7), (.num, .num n8), (.num, .num n9), (.num, .num n10), (.num, .num n11), (.list sEntry, .list l12), (sConf, v13), (.raw, .raw l14), (sCmd, v15), (sResult, v16)]) (q := 0) H0.out rfl 0 _ rfl
  have e0_1 := WrG.numsAt (ns := [n0, n1, n2, n3, n4, n5, n6]) (rest := [(.flag, .flag t7), (.num, .num n8), (.num, .num n9), (.num, .num n10), (.num, .num n11), (.list sEntry, .list l12), (sConf, v13), (.raw, .raw l14), (sCmd, v15), (sResult, v16)]) (q := 0) H0.out rfl 1 _ rfl
  have e0_2 := WrG.numsAt (ns := [n0, n1, n2, n3, n4, n5, n6]) (rest := [(.flag, .flag t7), (.num, .num n8), (.num, .num n9), (.num, .num n10), (.num, .num n11), (.list sEntry, .list l12), (sConf, v13), (.raw, .raw l14), (sCmd, v15), (sResult, v16)]) (q := 0) H0.out rfl 2 _ rfl
  have e0_3 := WrG.numsAt (ns := [n0, n1, n2, n3, n4, n5, n6]) (rest := [(.flag, .flag t7), (.num, .num n8), (.num, .num n9), (.num, .num n10), (.num, .num n11), (.list sEntry, .list l12), (sConf, v13), (.raw, .raw l14), (sCmd, v15), (sResult, v16)]) (q := 0) H0.out rfl 3 _ rfl
  have e0_4 := WrG.numsAt (ns := [n0, n1, n2, n3, n4, n5, n6]) (rest := [(.flag, .flag t7), (.num, .num n8), (.num, .num n9), (.num, .num n10), (.num, .num n11), (.list sEntry, .list l12), (sConf, v13), (.raw, .raw l14), (sCmd, v15), (sResult, v16)]) (q := 0) H0.out rfl 4 _ rfl
  have e0_5 := WrG.numsAt (ns := [n0, n1, n2, n3, n4, n5, n6]) (rest := [(.flag, .flag t7), (.num, .num n8), (.num, .num n9), (.num, .num n10), (.num, .num n11), (.list sEntry, .list l12), (sConf, v13), (.raw, .raw l14), (sCmd, v15), (sResult, v16)]) (q := 0) H0.out rfl 5 _ rfl
  have e0_6 := WrG.numsAt (ns := [n0, n1, n2, n3, n4, n5, n6]) (rest := [(.flag, .flag t7), (.num, .num n8), (.num, .num n9), (.num, .num n10), (.num, .num n11), (.list sEntry, .list l12), (sConf, v13), (.raw, .raw l14), (sCmd, v15), (sResult, v16)]) (q := 0) H0.out rfl 6 _ rfl
  simp only [Nat.reduceAdd] at e0_0 e0_1 e0_2 e0_3 e0_4 e0_5 e0_6
  go_wp2_with fail
  refine (OWg.goNums (ns := [n0, n1, n2, n3, n4, n5, n6]) (rest := [(.flag, .flag t7), (.num, .num n8), (.num, .num n9), (.num, .num n10), (.num, .num n11), (.list sEntry, .list l12), (sConf, v13), (.raw, .raw l14), (sCmd, v15), (sResult, v16)]) (k := 7) H0.out rfl ((Upd.refl _ _).alloc _) (by simp) (Blk.new2 w (.cells cs.toArray 61) 3 [_, _, _, _, _, _, _]) rfl).mono ?_
  rintro e w1 ⟨rfl, o1, b1, h⟩
  have H1 := Lib.hid h
  clear h e0_0 e0_1 e0_2 e0_3 e0_4 e0_5 e0_6
  have e1 := WrG.flagAt (q := 7) H1.out rfl
  go_wp2_with fail
  refine (OWg.goFlag H1.out).mono ?_
  rintro e w2 ⟨rfl, o2, b2, h⟩
  have H2 := Lib.hid h
  clear h e1
  have e2_0 := WrG.numsAt (ns := [n8, n9, n10, n11]) (rest := [(.list sEntry, .list l12), (sConf, v13), (.raw, .raw l14), (sCmd, v15), (sResult, v16)]) (q := 8) H2.out rfl 0 _ rfl
  have e2_1 := WrG.numsAt (ns := [n8, n9, n10, n11]) (rest := [(.list sEntry, .list l12), (sConf, v13), (.raw, .raw l14), (sCmd, v15), (sResult, v16)]) (q := 8) H2.out rfl 1 _ rfl
  have e2_2 := WrG.numsAt (ns := [n8, n9, n10, n11]) (rest := [(.list sEntry, .list l12), (sConf, v13), (.raw, .raw l14), (sCmd, v15), (sResult, v16)]) (q := 8) H2.out rfl 2 _ rfl
  have e2_3 := WrG.numsAt (ns := [n8, n9, n10, n11]) (rest := [(.list sEntry, .list l12), (sConf, v13), (.raw, .raw l14), (sCmd, v15), (sResult, v16)]) (q := 8) H2.out rfl 3 _ rfl
  simp only [Nat.reduceAdd] at e2_0 e2_1 e2_2 e2_3
  go_wp2_with fail
  refine (OWg.goNums (ns := [n8, n9, n10, n11]) (rest := [(.list sEntry, .list l12), (sConf, v13), (.raw, .raw l14), (sCmd, v15), (sResult, v16)]) (k := 4) H2.out rfl ((Upd.refl _ _).alloc _) (Nat.le_refl _) (Blk.new _ 3 [_, _, _, _]) rfl).mono ?_
  rintro e w3 ⟨rfl, o3, b3, h⟩
  have H3 := Lib.hid h
  clear h e2_0 e2_1 e2_2 e2_3
  obtain ⟨a3, c3, e3, r3⟩ := WrG.listAt (q := 12) H3.out rfl
  have HA3 : Hid (Elems w3 (· < B) sEntry 29 a3 l12) := Lib.hid (list_elems r3).2
  have hwl3 := H3.out.len
  rw [wsum_cons] at hwl3
  have HL3 : Hid (o3.length + (Sch.list sEntry).wmax (.list l12) ≤ 1099511627776) := Lib.hid (by dsimp only at hwl3; omega)
  have hps3 := H3.out.fw.1 w.heap.size (by simp)
  have hll3 : l12.length ≤ 1099511627776 := elems_len HA3.out HL3.out rfl
  clear r3 hwl3
  go_wp2_with fail
  refine (OWg.goCount H3.out).mono ?_
  rintro e w3x ⟨rfl, o3x, b3x, h1, h2, h3⟩
  have p3 := (h2.cell (o := 12) hps3 (.inr (by simp))).trans e3
  have H1x := Lib.hid h1
  have H2x := Lib.hid h2
  have H3x := Lib.hid h3
  clear h1 h2 h3
  go_wp2_with fail
  go_loopg [4] l12.length (fun g t wr => ∃ (i : Nat) (o' : List Nat) (b' : Bool), t = .int .i64 i ∧ l12.length - i = g ∧ i ≤ l12.length ∧ Ow B (w.heap.size :: X) wr f o' b' ∧ Kp B (w.heap.size :: X) w3 wr ∧ LWk sEntry l12.length (l12.take i) o3 b3 o' b')
  case atStart => exact ⟨0, o3x, b3x, rfl, rfl, by omega, H1x.out, H2x.out, H3x.out⟩
  case round =>
    obtain ⟨i, o', b', rfl, hg, hi, hF, hK, hW⟩ := hrel
    have HG := Lib.hid hg
    have HF := Lib.hid hF
    have HK := Lib.hid hK
    have HW := Lib.hid hW
    have r0 := (hK.cell (o := 12) hps3 (.inr (by simp))).trans e3
    clear hg hF hK hW p3
    by_cases hlt : i < l12.length
    · have t1 : decide (i < l12.length) = true := by simpa using hlt
      obtain ⟨x, hx⟩ : ∃ x, l12[i]? = some x := ⟨_, List.getElem?_eq_getElem hlt⟩
      obtain ⟨b0, o0, us, rfl, hb0, hbl, hrg, hrep⟩ := HA3.out i x hx
      have hrep := hrep.keep (ok' := (· < B)) (fun k hk hl => ⟨hk, HK.out.block k hl (.inl hk)⟩) HK.out.size
      have hrg : wr.rangeAt b0 (o0 + i * 29) us := rangeAt_keep hrg (HK.out.block b0 hbl (.inl hb0))
      have hblr : b0 < wr.heap.size := Nat.lt_of_lt_of_le hbl HK.out.size
      have HWL := Lib.hid (HW.out.room hx HL3.out)
      have Hx := Lib.hid hx
      clear hx
      have HRG := Lib.hid hrg
      have HREP := Lib.hid hrep
      have hus : us.length = 29 := hrep.len
      clear hrg hrep
      go_wp2_with (refine wpList_load_mid rfl 82 _ rfl b0 (o0 + i * 29) rfl us _ HRG.out Try.underlying82 rfl (by rw [hus]; exact Try.size82) ?_)
      refine (oentry_writes B (w.heap.size :: X) f us x o' b' _ HF.out HREP.out HWL.out).mono ?_
      rintro e w2 ⟨rfl, o2, b2, h1, h2, h3⟩
      have H1 := Lib.hid h1
      have H2 := Lib.hid h2
      have H3 := Lib.hid (HW.out.snoc h3)
      clear h1 h2 h3
      go_wp2_with fail
      go_roundg (l12.length - (i + 1))
      case measure => have := HG.out; omega
      case rel => exact ⟨i + 1, o2, b2, by go_num, rfl, by omega, H1.out, HK.out.trans H2.out, by rw [take_snoc Hx.out]; exact H3.out⟩
    · obtain rfl : i = l12.length := by omega
      have t1 : decide (l12.length < l12.length) = false := by simp
      have hfin := HW.out
      rw [List.take_length] at hfin
      have H4 := Lib.hid (WrG.next (m := [(.list sEntry, .list l12)]) H3.out HF.out HK.out (WSeq.one (LWk.fin hfin)))
      clear hfin e3
      clear HF HW HG hlt hi
      obtain ⟨ws4, hz⟩ : ∃ z, z = wr := ⟨_, rfl⟩
      subst hz
      obtain ⟨os4, hz⟩ : ∃ z, z = o' := ⟨_, rfl⟩
      subst hz
      obtain ⟨bs4, hz⟩ : ∃ z, z = b' := ⟨_, rfl⟩
      subst hz
      clear HK
      obtain ⟨c4, r4, g4⟩ := WrG.range (q := 13) H4.out rfl
      have hl4 : c4.length = 2 := r4.len
      have G4 := Lib.hid g4
      have R4 := Lib.hid r4
      clear g4 r4
      go_wp2_with (refine wpList_load_mid rfl 47 _ rfl w.heap.size 13 rfl c4 _ G4.out Try.underlying47 rfl (by rw [hl4]; exact Try.size47) ?_)
      refine (OWg.go oconf_writes H4.out R4.out).mono ?_
      rintro e w5 ⟨rfl, o5, b5, h⟩
      have H5 := Lib.hid h
      clear h
      obtain ⟨a5, c5, e5, r5⟩ := WrG.rawAt (q := 15) H5.out rfl
      have R5 := Lib.hid r5
      clear r5
      go_wp2_with fail
      refine (OWg.go (c := [.slice a5 l14.length c5]) obytes_writes H5.out R5.out).mono ?_
      rintro e w6 ⟨rfl, o6, b6, h⟩
      have H6 := Lib.hid h
      clear h e5
      obtain ⟨c6, r6, g6⟩ := WrG.range (q := 16) H6.out rfl
      have hl6 : c6.length = 27 := r6.len
      have G6 := Lib.hid g6
      have R6 := Lib.hid r6
      clear g6 r6
      go_wp2_with (refine wpList_load_mid rfl 49 _ rfl w.heap.size 16 rfl c6 _ G6.out Try.underlying49 rfl (by rw [hl6]; exact Try.size49) ?_)
      refine (OWg.go ocmd_writes H6.out R6.out).mono ?_
      rintro e w7 ⟨rfl, o7, b7, h⟩
      have H7 := Lib.hid h
      clear h
      obtain ⟨c7, r7, g7⟩ := WrG.range (q := 43) H7.out rfl
      have hl7 : c7.length = 3 := r7.len
      have G7 := Lib.hid g7
      have R7 := Lib.hid r7
      clear g7 r7
      go_wp2_with (refine wpList_load_mid rfl 59 _ rfl w.heap.size 43 rfl c7 _ G7.out Try.underlying59 rfl (by rw [hl7]; exact Try.size59) ?_)
      refine (OWg.go oresult_writes H7.out R7.out).mono ?_
      rintro e w8 ⟨rfl, o8, b8, h⟩
      have H8 := Lib.hid h
      clear h
      go_wp2_with fail
      go_end0
      exact OWg.fin H8.out ((Upd.refl _ _).alloc _) rfl rfl
end Go.Proofs.Ytpoplipjombdbaa
/- The reference's PutMsg. -/
namespace Go.Proofs.Ytpoplipjombdbaa
open Go.RowKit Go.Lb Go.Rc

set_option maxRecDepth 20000 in
set_option maxHeartbeats 2000000 in
theorem rputMsg_puts : Puts 32 sMsg := by
  intro cs v w hr hl
  have hlen : cs.length = 46 := hr.len
  have uW : Upd [] w ((w.alloc (.cells cs.toArray 61)).alloc (.cells #[.slice none 0 0, .bool false] 108)) := ((Upd.refl _ _).alloc _).alloc _
  have HR := Lib.hid hr
  have HL := Lib.hid hl
  have HB := Lib.hid ((Blk.new w 61 cs).alloc (.cells #[.slice none 0 0, .bool false] 108))
  have hb0 := Try.prog.built 108 []
  have HBU : Hid (Try.prog.built 108 [] = some #[.slice none 0 0, .bool false]) := Lib.hid (by kernel_rfl)
  clear hr hl hb0
  go_enter Try.func32, Try.ntmps32
  go_wp2_with (first | (refine wpList_buildTo (o := ⟨some 5, .build 108 #[], _, _, _, _⟩) rfl 108 #[] rfl (some 5) rfl #[.slice none 0 0, .bool false] (by simpa using HBU.out) ?_) | (refine wpList_load_blk rfl 61 (.tmp 1) rfl w.heap.size rfl HB.out Try.underlying61 rfl (by rw [hlen]; exact Try.size61) ?_))
  refine (omsg_writes w.heap.size [w.heap.size] (w.heap.size + 1) cs v [] false _ (fresh_out (mk := oW) rfl) (HR.out.upd uW (by simp)) (by simpa using HL.out)).mono ?_
  rintro e w1 ⟨rfl, o, b, h1, h2, h3⟩
  cases b with
  | true =>
    have HF := Lib.hid (putIs_bad h2 uW h3)
    have H1 := Lib.hid h1
    clear h1 h2 h3 uW
    go_wp2_with fail
    refine (told_bad H1.out).mono ?_
    rintro e w2 ⟨rfl, rfl⟩
    go_wp2_with fail
    go_ret2
    exact HF.out
  | false =>
    obtain ⟨a, c, e0, hF⟩ := putIs_good h1 h2 uW h3
    have e1 : w1.cell? ⟨w.heap.size + 1, 0, none⟩ = some (.slice a (sMsg.put v).length c) := e0
    have HF := Lib.hid hF
    have H1 := Lib.hid h1
    have E1 := Lib.hid e1
    clear h1 h2 h3 uW e0 hF e1
    go_wp2_with fail
    refine (told_good H1.out E1.out).mono ?_
    rintro e w2 ⟨rfl, rfl⟩
    go_wp2_with fail
    go_ret2
    exact HF.out
end Go.Proofs.Ytpoplipjombdbaa
/- What the frames of the statements share: the bound read off; bytes and records that came in, opened. -/
namespace Go.Proofs.Ytpoplipjombdbaa
open Go.ChangeShapes Go.WideShapes Go.ChangeAt Go.RowKit Go.Lb Go.Rc

instance : Inhabited Val := ⟨.unit⟩
theorem Try.own : ownKnob Try.prog.godebug = none := by kernel_rfl
theorem Try.laidOut : laidOutB Try.prog = true := by kernel_rfl

theorem bulk_one {H : Type} (x : DataW H) : 1 ≤ Rows.uptoBulk x := by
  cases x with
  | lit l => cases l <;> simp [Rows.uptoBulk]
  | _ => simp [Rows.uptoBulk]
theorem bulk_len {H : Type} (l : List (DataW H)) : l.length ≤ Rows.uptoBulkAll l := by
  induction l with
  | nil => simp [Rows.uptoBulkAll]
  | cons x r ih => have h1 := bulk_one x; simp only [Rows.uptoBulkAll, List.length_cons]; omega
theorem bulk_mem {H : Type} {l : List (DataW H)} {x : DataW H} (h : x ∈ l) : Rows.uptoBulk x ≤ Rows.uptoBulkAll l := by
  induction l with
  | nil => simp at h
  | cons y r ih =>
    simp only [Rows.uptoBulkAll]
    rcases List.mem_cons.1 h with rfl | h
    · omega
    · have := ih h; omega
theorem bulk_sum {H : Type} (l : List (DataW H)) : (l.map Rows.uptoBulk).sum = Rows.uptoBulkAll l := by
  induction l with
  | nil => rfl
  | cons y r ih => simp only [List.map_cons, List.sum_cons, Rows.uptoBulkAll, ih]
theorem bulk_of {H : Type} {l : List (DataW H)} (hk : Rows.uptoSmall H l = true) : Rows.uptoBulkAll l ≤ 1048576 := of_decide_eq_true hk
theorem pick_all {α : Type} [Inhabited α] {p : Nat → α → Prop} : ∀ n, (∀ i, i < n → ∃ v, p i v) → ∃ f : Nat → α, ∀ i, i < n → p i (f i)
  | 0, _ => ⟨fun _ => default, fun i h => by omega⟩
  | n + 1, h => by
    obtain ⟨f, hf⟩ := pick_all n (fun i hi => h i (by omega))
    obtain ⟨v, hv⟩ := h n (by omega)
    refine ⟨fun i => if i = n then v else f i, fun i hi => ?_⟩
    by_cases e : i = n
    · subst e; simpa using hv
    · simp only [if_neg e]; exact hf i (by omega)
theorem sum_le {f g : Nat → Nat} : ∀ n, (∀ i, i < n → f i ≤ g i) → ((List.range n).map f).sum ≤ ((List.range n).map g).sum
  | 0, _ => by simp
  | n + 1, h => by
    have h1 := sum_le n (fun i hi => h i (by omega))
    have h2 := h n (by omega)
    simp only [List.range_succ, List.map_append, List.sum_append, List.map_cons, List.map_nil, List.sum_cons, List.sum_nil]
    omega
theorem sum_mul6 (f : Nat → Nat) : ∀ n, ((List.range n).map fun i => 6 * f i).sum = 6 * ((List.range n).map f).sum
  | 0 => by simp
  | n + 1 => by
    have := sum_mul6 f n
    simp only [List.range_succ, List.map_append, List.sum_append, List.map_cons, List.map_nil, List.sum_cons, List.sum_nil, this]
    omega

section
variable {H : Type} {enc : TypeId × Value → H} {W : World} {n : Nat} {cs : List Value} {x : DataW H × List MemPlace} {P : Program}
/-- A slice that came in, opened at every place: all in one block. -/
theorem open_rows {t e : TypeId} {k : Nat} (ht : P.underlying t = some (.slice e)) (hk : P.cellsOf e = k) (h0 : 0 < k) {a : Option Addr} {len cap : Nat} {Q : List Value → DataW H → Prop}
    (hQ : ∀ n' cs x, n' < n → DataW.trod enc P W 0 (fun _ => true) true n' e cs = some x → Q cs x.1)
    (h : DataW.trod enc P W 0 (fun _ => true) true n t [.slice a len cap] = some x) :
    len ≤ cap ∧ cap ≤ maxLen ∧ len + 1 ≤ Rows.uptoBulk x.1 ∧ ∃ D : Nat → DataW H, ((List.range len).map fun i => Rows.uptoBulk (D i)).sum + 1 ≤ Rows.uptoBulk x.1 ∧ ∀ i, i < len → ∃ b o cs, a = some ⟨b, o, none⟩ ∧ b < W.heap.size ∧ W.rangeAt b (o + i * k) cs ∧ cs.length = k ∧ Q cs (D i) := by
  obtain ⟨n0, rfl⟩ : ∃ n0, n = n0 + 1 := by
    cases n with
    | zero => simp [DataW.trod] at h
    | succ n0 => exact ⟨n0, rfl⟩
  rcases DataW.trod_slice ht h with ⟨hcs, hx⟩ | ⟨y, l, c, elems, rest, m, hm0, hcs, hx, _, hl, hm, hlen, hel, _⟩
  · simp at hcs
    obtain ⟨rfl, rfl, rfl⟩ := hcs
    have := bulk_one x.1
    exact ⟨by omega, by omega, by omega, fun _ => .nil, by simpa using this, fun i hi => by omega⟩
  · obtain rfl : n0 = m := by omega
    simp at hcs
    obtain ⟨rfl, rfl, rfl⟩ := hcs
    have hD : ((List.range elems.length).map fun i => Rows.uptoBulk ((elems.map (·.1)).getD i .nil)).sum = Rows.uptoBulkAll (elems.map (·.1)) := by
      rw [← bulk_sum]
      congr 1
      refine List.ext_getElem (by simp) fun i h1 h2 => ?_
      simp at h1
      simp [h1]
    rw [hlen] at hD
    have h3 := bulk_len (elems.map (·.1))
    rw [List.length_map, hlen] at h3
    refine ⟨hl, hm, by rw [hx]; simp only [Rows.uptoBulk]; omega, fun i => (elems.map (·.1)).getD i .nil, by rw [hD, hx]; simp only [Rows.uptoBulk]; omega, fun i hi => ?_⟩
    have key : ∀ i, i < len → ∃ cs' z, W.cells? 0 (y.add (i * P.cellsOf e)) (P.cellsOf e) = some cs' ∧ DataW.trod enc P W 0 (fun _ => true) true n0 e cs' = some z ∧ elems[i]? = some z := fun i hi => by
      have h4 := hel i hi
      rw [List.getElem?_eq_getElem (by omega)] at h4
      obtain ⟨cs', h1, h2⟩ := Option.bind_eq_some_iff.1 h4
      exact ⟨cs', _, h1, h2, List.getElem?_eq_getElem (by omega)⟩
    obtain ⟨cs', z, h1, h2, h5⟩ := key i hi
    rw [hk] at h1
    obtain ⟨_, hlc, hc⟩ := World.cells?_some h1
    obtain ⟨b, off, spot⟩ := y
    have c0 := hc 0 (by omega)
    rw [List.getElem?_eq_getElem (by omega)] at c0
    have hspot : spot = none := by
      obtain ⟨cs0, _, h10, _⟩ := key 0 (by omega)
      rw [hk] at h10
      obtain ⟨_, hl0, hc0⟩ := World.cells?_some h10
      have z0 := hc0 0 (by omega)
      rw [List.getElem?_eq_getElem (by omega)] at z0
      simpa [Addr.add] using World.cell?_spot z0
    subst hspot
    simp only [Addr.add_lit, Nat.add_zero] at c0
    refine ⟨b, off, cs', rfl, block_lt_of_cell c0, fun j v hj => ?_, hlc, ?_⟩
    · have hjl := (List.getElem?_eq_some_iff.1 hj).1
      have := hc j (by omega)
      rw [hj] at this
      simpa [Addr.add_lit] using this
    · have h6 : (elems.map (·.1)).getD i .nil = z.1 := by simp [List.getD, h5]
      show Q cs' ((elems.map (·.1)).getD i .nil)
      rw [h6]
      exact hQ _ _ _ (by omega) h2

theorem open_u8 {t : TypeId} (ht : P.underlying t = some (.int .u8)) (h : DataW.trod enc P W 0 (fun _ => true) true n t cs = some x) : ∃ m : Nat, cs = [bv m] ∧ m < 256 := by
  obtain ⟨k, e, _, hw⟩ := DataW.trod_int ht h
  rw [Lit.wf_int_iff] at hw
  have h1 : (0 : Int) ≤ k := hw.1
  have h2 : k ≤ 255 := hw.2
  refine ⟨k.toNat, ?_, by omega⟩
  rw [e]
  simp [bv, Int.toNat_of_nonneg h1]
/-- Bytes that came in. -/
theorem open_bytes {t e : TypeId} (ht : P.underlying t = some (.slice e)) (he : P.underlying e = some (.int .u8)) (hk : P.cellsOf e = 1) {a : Option Addr} {len cap : Nat}
    (h : DataW.trod enc P W 0 (fun _ => true) true n t [.slice a len cap] = some x) : ∃ l : List Nat, l.length = len ∧ len ≤ cap ∧ cap ≤ maxLen ∧ len + 1 ≤ Rows.uptoBulk x.1 ∧ Bytes W (· < W.heap.size) a l := by
  obtain ⟨q1, q2, q3, D, q4, q5⟩ := open_rows (Q := fun cs _ => ∃ m : Nat, cs = [bv m] ∧ m < 256) ht hk (by omega) (fun n cs x _ hx => open_u8 he hx) h
  obtain ⟨f, hf⟩ := pick_all (α := Nat) (p := fun i m => m < 256 ∧ ∃ b o, a = some ⟨b, o, none⟩ ∧ b < W.heap.size ∧ W.rangeAt b (o + i) [bv m]) len (fun i hi => by
    obtain ⟨b, o, cs, h1, h2, h3, _, m, rfl, h4⟩ := q5 i hi
    exact ⟨m, h4, b, o, h1, h2, by simpa using h3⟩)
  refine ⟨(List.range len).map f, by simp, q1, q2, q3, fun i y hy => ?_⟩
  have hi := (List.getElem?_eq_some_iff.1 hy).1
  simp only [List.length_map, List.length_range] at hi
  rw [List.getElem?_map, List.getElem?_range hi] at hy
  obtain rfl : f i = y := by simpa using hy
  obtain ⟨k1, b, o, k2, k3, k4⟩ := hf i hi
  exact ⟨k1, b, o, k2, k3, k3, by simpa using k4 0 _ rfl⟩

/-- The shape of a type's values. -/
def foldO (f : TypeId → Option Sch) : List TypeId → Option (List Sch)
  | [] => some []
  | t :: r => match f t with
    | none => none
    | some s => match foldO f r with
      | none => none
      | some l => some (s :: l)
def offs (P : Program) : Nat → List Field → Bool
  | _, [] => true
  | o, f :: r => (f.offset == o) && offs P (o + P.cellsOf f.type) r
def schOf (P : Program) : Nat → TypeId → Option Sch
  | 0, _ => none
  | n + 1, t => match P.underlying t with
    | some (.int .i64) => some .num
    | some .bool => some .flag
    | some (.slice e) => match P.underlying e with
      | some (.int .u8) => if P.cellsOf e = 1 then some .raw else none
      | _ => match schOf P n e with
        | none => none
        | some s => if P.cellsOf e = s.size ∧ 0 < s.size then some (.list s) else none
    | some (.struct fs) => if offs P 0 fs.toList = true ∧ P.cellsOf t = (fs.toList.map fun g => P.cellsOf g.type).sum then (foldO (schOf P n) (fs.toList.map (·.type))).map tup else none
    | _ => none

/-- Fields one behind the other, opened. -/
theorem open_fields {k : Nat} {f : TypeId → Option Sch} (hf : ∀ t s cs x, f t = some s → DataW.trod enc P W 0 (fun _ => true) true k t cs = some x → ∃ v, s.Rep W (· < W.heap.size) cs v ∧ s.wmax v ≤ 6 * Rows.uptoBulk x.1) :
    ∀ (fs : List Field) (o : Nat) (cs : List Value) (xs : List (DataW H × List MemPlace)) (ss : List Sch), offs P o fs = true → foldO f (fs.map (·.type)) = some ss → xs.length = fs.length →
      (∀ (i : Nat) (g : Field), fs[i]? = some g → DataW.trod enc P W 0 (fun _ => true) true k g.type ((cs.drop g.offset).take (P.cellsOf g.type)) = xs[i]?) →
      cs.length = o + (fs.map fun g => P.cellsOf g.type).sum →
      ∃ v, (tup ss).Rep W (· < W.heap.size) (cs.drop o) v ∧ (tup ss).wmax v ≤ 6 * Rows.uptoBulkAll (xs.map (·.1))
  | [], o, cs, xs, ss, _, h2, h3, _, h5 => by
    simp only [List.map_nil, foldO, Option.some.injEq] at h2
    subst h2
    simp only [List.map_nil, List.sum_nil, Nat.add_zero] at h5
    refine ⟨.unit, ⟨by rw [List.drop_eq_nil_of_le (by omega)], rfl⟩, by simp [tup, Sch.wmax]⟩
  | g :: r, o, cs, xs, ss, h1, h2, h3, h4, h5 => by
    simp only [offs, Bool.and_eq_true, beq_iff_eq] at h1
    obtain ⟨h1, h1'⟩ := h1
    simp only [List.map_cons, foldO] at h2
    cases hs : f g.type with
    | none => simp [hs] at h2
    | some s =>
      cases hl : foldO f (r.map (·.type)) with
      | none => simp [hs, hl] at h2
      | some l =>
        obtain rfl : s :: l = ss := by simpa [hs, hl] using h2
        match xs, h3 with
        | x :: xr, h3 =>
          have h40 := h4 0 g rfl
          simp only [List.getElem?_cons_zero, h1] at h40
          obtain ⟨v, k1, k2⟩ := hf _ _ _ _ hs h40
          simp only [List.map_cons, List.sum_cons] at h5
          obtain ⟨v', m1, m2⟩ := open_fields hf r (o + P.cellsOf g.type) cs xr l h1' hl (by simpa using h3) (fun i g' hg' => by simpa using h4 (i + 1) g' (by simpa using hg')) (by omega)
          refine ⟨.pair v v', ⟨_, _, _, _, ?_, rfl, k1, m1⟩, ?_⟩
          · rw [← List.drop_drop, List.take_append_drop]
          · simp only [List.map_cons, Rows.uptoBulkAll]
            show s.wmax v + (tup l).wmax v' ≤ _
            omega

theorem open_sch : ∀ (m : Nat) (t : TypeId) (s : Sch) (n : Nat) (cs : List Value) (x : DataW H × List MemPlace), schOf P m t = some s →
    DataW.trod enc P W 0 (fun _ => true) true n t cs = some x → ∃ v, s.Rep W (· < W.heap.size) cs v ∧ s.wmax v ≤ 6 * Rows.uptoBulk x.1
  | 0, _, _, _, _, _, h, _ => by simp [schOf] at h
  | m + 1, t, s, n, cs, x, h, hx => by
    have b1 := bulk_one x.1
    unfold schOf at h
    split at h
    · rename_i hu
      obtain rfl : Sch.num = s := by simpa using h
      obtain ⟨k, rfl, _, _⟩ := DataW.trod_int hu hx
      exact ⟨_, ⟨k, rfl, rfl⟩, by simp only [Sch.wmax]; omega⟩
    · rename_i hu
      obtain rfl : Sch.flag = s := by simpa using h
      obtain ⟨k, rfl, _⟩ := DataW.trod_bool hu hx
      exact ⟨_, ⟨k, rfl, rfl⟩, by simp only [Sch.wmax]; omega⟩
    · rename_i e hu
      obtain ⟨a, len, cap, rfl⟩ : ∃ a len cap, cs = [.slice a len cap] := by
        rcases DataW.trod_slice hu hx with ⟨e, _⟩ | ⟨a, len, cap, _, _, _, _, e, _⟩
        · exact ⟨none, 0, 0, e⟩
        · exact ⟨some a, len, cap, e⟩
      split at h
      · rename_i he
        split at h
        · rename_i h1
          obtain rfl : Sch.raw = s := by simpa using h
          obtain ⟨l, rfl, _, _, q4, q5⟩ := open_bytes hu he h1 hx
          exact ⟨_, ⟨a, cap, l, rfl, rfl, q5⟩, by simp only [Sch.wmax]; omega⟩
        · cases h
      · split at h
        · cases h
        · rename_i s' hs'
          split at h
          · rename_i h1
            obtain rfl : Sch.list s' = s := by simpa using h
            obtain ⟨_, _, q3, D, q4, q5⟩ := open_rows (Q := fun cs x => ∃ v, s'.Rep W (· < W.heap.size) cs v ∧ s'.wmax v ≤ 6 * Rows.uptoBulk x) hu h1.1 h1.2 (fun n cs x _ hx => open_sch m e s' n cs x hs' hx) hx
            obtain ⟨f, hf⟩ := pick_all (α := Val) (p := fun i v => ∃ b o us, a = some ⟨b, o, none⟩ ∧ b < W.heap.size ∧ W.rangeAt b (o + i * s'.size) us ∧ s'.Rep W (· < W.heap.size) us v ∧ s'.wmax v ≤ 6 * Rows.uptoBulk (D i)) len (fun i hi => by
              obtain ⟨b, o, cs, h1, h2, h3, _, v, h4, h5⟩ := q5 i hi
              exact ⟨v, b, o, cs, h1, h2, h3, h4, h5⟩)
            refine ⟨.list ((List.range len).map f), ⟨a, cap, _, by simp, rfl, fun i y hy => ?_⟩, ?_⟩
            · have hi := (List.getElem?_eq_some_iff.1 hy).1
              simp only [List.length_map, List.length_range] at hi
              rw [List.getElem?_map, List.getElem?_range hi] at hy
              obtain rfl : f i = y := by simpa using hy
              obtain ⟨b, o, us, k1, k2, k3, k4, _⟩ := hf i hi
              exact ⟨b, o, us, k1, k2, k2, k3, k4⟩
            · have h6 := sum_le (f := fun i => s'.wmax (f i)) (g := fun i => 6 * Rows.uptoBulk (D i)) len (fun i hi => by
                obtain ⟨b, o, us, k1, k2, k3, k4, k5⟩ := hf i hi
                exact k5)
              rw [sum_mul6] at h6
              simp only [Sch.wmax, List.map_map]
              have : (List.map (s'.wmax ∘ f) (List.range len)).sum = ((List.range len).map fun i => s'.wmax (f i)).sum := rfl
              omega
          · cases h
    · rename_i fs hu
      split at h
      · rename_i ho
        obtain ⟨ss, hss, rfl⟩ := Option.map_eq_some_iff.1 h
        obtain ⟨xs, k, _, rfl, hl, hlen, hf⟩ := DataW.trod_struct hu hx
        obtain ⟨v, k1, k2⟩ := open_fields (fun t s cs x h1 h2 => open_sch m t s k cs x h1 h2) fs.toList 0 cs xs ss ho.1 hss (by simpa using hlen) (fun i g hg => hf i g (by simpa using hg)) (by rw [hl, ho.2]; omega)
        exact ⟨v, by simpa using k1, by simp only [Rows.uptoBulk]; omega⟩
      · cases h
    · cases h
/-- Bytes that were handed in. -/
theorem arg_bytes {t e : TypeId} (ht : P.underlying t = some (.slice e)) (he : P.underlying e = some (.int .u8)) (hk : P.cellsOf e = 1) {a : Option Addr} {len cap : Nat} {d : DataW H} {p : List MemPlace}
    (h : DataW.Trod enc P W 0 (fun _ => true) true t (.slice a len cap) d p) : ∃ l : List Nat, l.length = len ∧ len ≤ cap ∧ cap ≤ maxLen ∧ len + 1 ≤ Rows.uptoBulk d ∧ Bytes W (· < W.heap.size) a l := by
  obtain ⟨m, hm⟩ := h
  exact open_bytes ht he hk hm
theorem list_of {s : Sch} {ok : Nat → Prop} {a : Option Addr} {len cap : Nat} {v : Val} (h : (Sch.list s).Rep W ok [.slice a len cap] v) : ∃ l : List Val, len = l.length ∧ v = .list l := by
  obtain ⟨a', c', l, h1, h2, _⟩ := h
  simp only [List.cons.injEq, Value.slice.injEq, and_true] at h1
  exact ⟨l, h1.2.1, h2⟩
/-- A list that was handed in. -/
theorem arg_list {t : TypeId} {m : Nat} {s : Sch} (hs : schOf P m t = some s) {a : Option Addr} {len cap : Nat} {d : DataW H} {p : List MemPlace} (h : DataW.Trod enc P W 0 (fun _ => true) true t (.slice a len cap) d p) :
    ∃ v, s.Rep W (· < W.heap.size) [.slice a len cap] v ∧ s.wmax v ≤ 6 * Rows.uptoBulk d := by
  obtain ⟨k, hk⟩ := h
  exact open_sch m t s k _ _ hs hk
/-- A record that was handed in. -/
theorem arg_sch {t : TypeId} {m : Nat} {s : Sch} (hs : schOf P m t = some s) {cs : Array Value} {d : DataW H} {p : List MemPlace} (h : DataW.Trod enc P W 0 (fun _ => true) true t (.agg cs) d p) :
    ∃ v, s.Rep W (· < W.heap.size) cs.toList v ∧ s.wmax v ≤ 6 * Rows.uptoBulk d := by
  obtain ⟨k, hk⟩ := h
  exact open_sch m t s k _ _ hs hk
end
end Go.Proofs.Ytpoplipjombdbaa
/- What the program's first words say, once for all statements. -/
namespace Go.Proofs.Ytpoplipjombdbaa
open Go.ChangeShapes Go.WideShapes Go.ChangeAt
theorem Try.words : (Try.prog.mayEnter, Try.prog.liftsFinal, Try.prog.make) = (true, false, some .cut) := by kernel_rfl
theorem Try.words1 : Try.prog.mayEnter = true := (Prod.mk.inj Try.words).1
theorem Try.words2 : Try.prog.liftsFinal = false := (Prod.mk.inj (Prod.mk.inj Try.words).2).1
theorem Try.words3 : Try.prog.make = some .cut := (Prod.mk.inj (Prod.mk.inj Try.words).2).2
end Go.Proofs.Ytpoplipjombdbaa
/- Packets under way: a row of slices of bytes, where it stands; a thing taken out of a row; slices that look at a part of a row. Over any program. -/
namespace Go.Lb
open Go Go.RowKit

/-- The slice v holds xs, one cell each, somewhere in a row of the call's own. -/
def Win (w : World) (e : TypeId) (v : Value) (xs : List Value) : Prop :=
  (v = .slice none 0 0 ∧ xs = []) ∨
  ∃ g o cap vs, v = .slice (some ⟨g, o, none⟩) xs.length cap ∧ Blk w g e vs ∧ xs.length ≤ cap ∧ cap ≤ maxLen ∧ o + cap ≤ vs.length ∧ ∀ i u, xs[i]? = some u → vs[o + i]? = some u

theorem Win.nil (w : World) (e : TypeId) : Win w e (.slice none 0 0) [] := .inl ⟨rfl, rfl⟩
theorem Win.shape {w : World} {e : TypeId} {v : Value} {xs : List Value} (h : Win w e v xs) : ∃ a c, v = .slice a xs.length c := by
  rcases h with ⟨rfl, rfl⟩ | ⟨g, o, cap, vs, rfl, _⟩
  · exact ⟨_, _, rfl⟩
  · exact ⟨_, _, rfl⟩
theorem Win.upd {w w' : World} {e : TypeId} {v : Value} {xs : List Value} (h : Win w e v xs) {F : List Nat} (u : Upd F w w') (hF : ∀ k, v.ownBlock = some k → k ∉ F) : Win w' e v xs := by
  rcases h with h | ⟨g, o, cap, vs, rfl, hb, r⟩
  · exact .inl h
  · exact .inr ⟨g, o, cap, vs, rfl, u.blk hb (hF g rfl), r⟩
theorem Win.lt {w : World} {e : TypeId} {v : Value} {xs : List Value} (h : Win w e v xs) : ∀ k, v.ownBlock = some k → k < w.heap.size := by
  intro k hk
  rcases h with ⟨rfl, _⟩ | ⟨g, o, cap, vs, rfl, hb, r⟩
  · cases hk
  · simp [Value.ownBlock] at hk; subst hk; exact hb.lt
theorem Win.head {w : World} {e : TypeId} {v x : Value} {xs : List Value} (h : Win w e v (x :: xs)) : ∃ g o cap, v = .slice (some ⟨g, o, none⟩) (xs.length + 1) cap ∧ w.cell? ⟨g, o, none⟩ = some x ∧ xs.length + 1 ≤ cap ∧ cap ≤ maxLen := by
  rcases h with ⟨_, h⟩ | ⟨g, o, cap, vs, rfl, hb, h1, h2, h3, h4⟩
  · cases h
  · exact ⟨g, o, cap, rfl, by have := h4 0 x rfl; exact hb.cell (by simpa using this), h1, h2⟩
theorem Win.tail {w : World} {e : TypeId} {x : Value} {xs : List Value} {g o cap : Nat} (h : Win w e (.slice (some ⟨g, o, none⟩) (xs.length + 1) cap) (x :: xs)) :
    Win w e (.slice (some ⟨g, if cap = 1 then o else o + 1, none⟩) xs.length (cap - 1)) xs := by
  rcases h with ⟨h, _⟩ | ⟨g', o', cap', vs, hv, hb, h1, h2, h3, h4⟩
  · cases h
  · simp at hv
    obtain ⟨⟨rfl, rfl⟩, rfl⟩ := hv
    simp at h1
    refine .inr ⟨g, _, cap - 1, vs, rfl, hb, by omega, by omega, by split <;> omega, fun i u hi => ?_⟩
    have hil := (List.getElem?_eq_some_iff.1 hi).1
    have := h4 (i + 1) u (by simpa using hi)
    rw [if_neg (by omega)]
    rw [show o + 1 + i = o + (i + 1) by omega]
    exact this

theorem arr_of_list (l : List Value) (a : Array Value) : l.toArray ++ a = (l ++ a.toList).toArray := by
  cases a; simp
theorem arr_of_list2 (l m : List Value) (a : Array Value) : l.toArray ++ m.toArray ++ a = (l ++ m ++ a.toList).toArray := by
  cases a; simp

section
variable {P : Program}
theorem run_append_win (w : World) (t ty e : TypeId) (i : TypeInfo) (z : Value) (bytes : Nat) (ht : P.underlying t = some (.slice e)) (hi : P.info? e = some i) (hz : i.zero = some z) (hsize : i.size = 1) (hby : i.bytes = bytes) (hzs : z.cells.size = 1)
    (v : Value) (xs : List Value) (hown : Win w e v xs) (a : Addr) (c : Nat) (x : Value) (hx : w.cell? a = some x) (ha : a.add 0 = a) (h1 : x.oneCell' = true) (h63 : xs.length + 1 ≤ maxLen) (hbytes : (xs.length + 1) * bytes ≤ 140737488355328) :
    ∃ v' w', (Builtin.append_ #[t, t] ty #[v, .slice (some a) 1 c]).run P w = .ok v' w' ∧ Win w' e v' (xs ++ [x]) ∧ w.grownBy w' v.ownBlock ∧ (v'.ownBlock = v.ownBlock ∨ v'.ownBlock = some w.heap.size) := by
  have hnews : ∀ j u, [x][j]? = some u → w.cell? (a.add j) = some u := by
    intro j u hj
    match j, hj with
    | 0, hj => simp at hj; subst hj; rw [ha]; exact hx
    | j + 1, hj => simp at hj
  have h63' : xs.length + 1 ≤ 9223372036854775807 := by simp only [maxLen] at h63; omega
  rcases hown with ⟨rfl, rfl⟩ | ⟨g, o, cap, vs, rfl, hb, g1, g2, g3, g4⟩
  · have hr := run_append_nil (P := P) w t ty e i z ht hi hz a 1 c [x] (by simp [hsize]) hnews (by omega) (by omega) (by rw [hby]; simp at hbytes; omega)
    have hge := grownCap_ge w 1 0 e
    have hcm : grownCap w 1 0 e ≤ maxLen := grownCap_le_maxLen w 1 0 e (by simpa using h63)
    refine ⟨_, _, hr, .inr ⟨w.heap.size, 0, _, [x] ++ (Builtin.zeroCells z.cells (grownCap w 1 0 e - 1)).toList, rfl, ?_, by simpa using hge, hcm, ?_, ?_⟩, ⟨rfl, rfl, rfl, by simp, fun k hk _ => Below.heap_alloc w.drew _ k hk⟩, .inr rfl⟩
    · rw [show ([x].toArray ++ Builtin.zeroCells z.cells (grownCap w 1 0 e - 1)) = ([x] ++ (Builtin.zeroCells z.cells (grownCap w 1 0 e - 1)).toList).toArray from arr_of_list _ _]
      exact Blk.new w.drew e _
    · simp [size_zeroCells, hzs]; omega
    · intro i u hi
      match i, hi with
      | 0, hi => simp at hi; subst hi; simp
      | i + 1, hi => simp at hi
  · by_cases hroom : xs.length + 1 ≤ cap
    · have hlt : o + xs.length < vs.length := by omega
      have hcl := hb.cell (o := o + xs.length) (List.getElem?_eq_getElem hlt)
      have hr := run_append_room_cells (P := P) w t ty e i ht hi g o xs.length cap a 1 c [x] (by simp [hsize]) hnews (by simp [h1]) hroom
        (by intro j hj; simp at hj; subst hj; rw [hsize, Nat.mul_one, Nat.add_zero, hcl]; rfl) (by intro j hj; exact hb.frozen _)
      rw [hsize, Nat.mul_one] at hr
      simp only [World.setCells] at hr
      refine ⟨_, _, hr, .inr ⟨g, o, cap, vs.set (o + xs.length) x, by simp, hb.set _ _, by simpa using hroom, g2, by simpa using g3, ?_⟩, ⟨rfl, rfl, rfl, by simp, fun k _ hk => Below.heap_setCell _ _ _ _ (fun e => hk (by simp [Value.ownBlock, e]))⟩, .inl rfl⟩
      intro i u hi
      by_cases e1 : i < xs.length
      · rw [List.getElem?_append_left e1] at hi
        rw [List.getElem?_set_ne (by omega)]
        exact g4 i u hi
      · have e2 : i = xs.length := by
          have := (List.getElem?_eq_some_iff.1 hi).1
          simp at this
          omega
        subst e2
        simp at hi
        subst hi
        simp [hlt]
    · have holds : ∀ j u, xs[j]? = some u → w.cell? ((⟨g, o, none⟩ : Addr).add j) = some u := by
        intro j u hj
        rw [Addr.add_lit]
        exact hb.cell (g4 j u hj)
      have hr := run_append_grow (P := P) w t ty e i z ht hi hz ⟨g, o, none⟩ xs.length cap xs (by simp [hsize]) holds a 1 c [x] (by simp [hsize]) hnews (by omega) (by omega) (growslice_fits (by omega) (by rw [hby]; exact hbytes))
      have hge := grownCap_ge w (xs.length + 1) cap e
      have hcm : grownCap w (xs.length + 1) cap e ≤ maxLen := grownCap_le_maxLen w (xs.length + 1) cap e h63
      refine ⟨_, _, hr, .inr ⟨w.heap.size, 0, _, xs ++ [x] ++ (Builtin.zeroCells z.cells (grownCap w (xs.length + 1) cap e - (xs.length + 1))).toList, by simp, ?_, by simpa using hge, hcm, ?_, ?_⟩, ⟨rfl, rfl, rfl, by simp, fun k hk _ => Below.heap_alloc w.drew _ k hk⟩, .inr rfl⟩
      · rw [arr_of_list2]
        exact Blk.new w.drew e _
      · simp [size_zeroCells, hzs]; omega
      · intro i u hi
        rw [Nat.zero_add, List.getElem?_append_left (by have := (List.getElem?_eq_some_iff.1 hi).1; exact this)]
        exact hi

theorem wpList_append_win {w : World} {ops : Array Oper} {rest : List Oper} {o : Oper} {a : Act} {Q : Exit → Act → World → Prop} (hgd : o.guard = none) (s x : Operand) (t : TypeId)
    (ho : o.op = .call { callee := .builtin .append, args := #[s, x], argTypes := #[t, t] })
    (e : TypeId) (i : TypeInfo) (z : Value) (bytes : Nat) (ht : P.underlying t = some (.slice e)) (hi : P.info? e = some i) (hz : i.zero = some z) (hsize : i.size = 1) (hby : i.bytes = bytes) (hzs : z.cells.size = 1)
    (v : Value) (xs : List Value) (hs : a.eval s = v) (hown : Win w e v xs) (ad : Addr) (c : Nat) (u : Value) (hx : a.eval x = .slice (some ad) 1 c) (hc : w.cell? ad = some u) (ha : ad.add 0 = ad) (h1 : u.oneCell' = true) (h63 : xs.length + 1 ≤ maxLen) (hbytes : (xs.length + 1) * bytes ≤ 140737488355328)
    (h : ∀ v' w', Win w' e v' (xs ++ [u]) → w.grownBy w' v.ownBlock → (v'.ownBlock = v.ownBlock ∨ v'.ownBlock = some w.heap.size) → wpList P ops Q rest (a.put o.dst v') w') : wpList P ops Q (o :: rest) a w := by
  refine wpList_plain hgd fun K hK => ?_
  obtain ⟨v', w', hr, h2, h3, h4⟩ := run_append_win (P := P) w t o.type e i z bytes ht hi hz hsize hby hzs v xs hown ad c u hc ha h1 h63 hbytes
  unfold Oper.wp execOp
  simp only [ho, resolve, invoke, builtin, Sem.run_bind, Sem.run_pure, Result.andThen_ok, List.map_toArray, List.map_cons, List.map_nil, hs, hx, hr]
  exact hK _ _ (h v' w' h2 h3 h4)
end
section
variable {P : Program} {w : World}
/-- append(s[:k], s[k+1:]...): the k-th is taken out of the row. -/
theorem run_append_mid {base g n cap k c2 : Nat} {t ty e : TypeId} {i : TypeInfo} {z : Value} {bytes : Nat} {xs : List Value} {ad : Addr} (ht : P.underlying t = some (.slice e)) (hi : P.info? e = some i) (hz : i.zero = some z)
    (hsize : i.size = 1) (hby : i.bytes = bytes) (hzs : z.cells.size = 1) (h : w.ownsRow base e 1 (.slice (some ⟨g, 0, none⟩) n cap) n xs) (hk : k < n) (h1 : ∀ u ∈ xs, u.oneCell' = true) (hb : n * bytes ≤ 140737488355328)
    (hbase : base ≤ w.heap.size) (ha : k + 1 < n → ad = ⟨g, k + 1, none⟩) :
    ∃ w', (Builtin.append_ #[t, t] ty #[.slice (some ⟨g, 0, none⟩) k cap, .slice (some ad) (n - (k + 1)) c2]).run P w = .ok (.slice (some ⟨g, 0, none⟩) (n - 1) cap) w' ∧
      w'.ownsRow base e 1 (.slice (some ⟨g, 0, none⟩) (n - 1) cap) (n - 1) (xs.eraseIdx k) ∧ w.grownBy w' (some g) := by
  have hl := h.1
  rw [Nat.mul_one] at hl
  have hcap : n ≤ cap ∧ cap ≤ maxLen := by
    rcases h.2 with ⟨h0, _⟩ | ⟨g', cap', cur, hv, hb, hg, hnc, hcm, hcs, htake⟩
    · cases h0
    · cases hv; exact ⟨hnc, hcm⟩
  have hnews : ∀ j u, (xs.drop (k + 1))[j]? = some u → w.cell? (ad.add j) = some u := fun j u hj => by
    have hjl := (List.getElem?_eq_some_iff.1 hj).1
    rw [List.length_drop] at hjl
    rw [List.getElem?_drop] at hj
    rw [ha (by omega), Addr.add_lit]
    rw [h.cellAt (k + 1 + j) (by omega)]; exact hj
  have hto := own_take h (Nat.le_of_lt hk)
  rw [Nat.mul_one] at hto
  have hd1 : ∀ u ∈ xs.drop (k + 1), u.oneCell' = true := fun u hu => h1 u (List.mem_of_mem_drop hu)
  have hmax : k + (n - (k + 1)) ≤ maxLen := by omega
  obtain ⟨v', w', hr, h2, h3, _⟩ := run_append_own (P := P) w base t ty e i z 1 bytes ht hi hz hsize hby hzs (by decide) _ k _ hto ad (n - (k + 1)) c2 (xs.drop (k + 1)) (by rw [List.length_drop]; omega) hnews hd1 hmax (Nat.le_trans (Nat.mul_le_mul_right _ (by omega)) hb) hbase
  rcases hto.2 with ⟨h0, _⟩ | ⟨g', cap', cur, hv, hbg, hg, hnc, hcm, hcs, htake⟩
  · cases h0
  cases hv
  have hr2 := run_append_room (P := P) w t ty e i ht hi g k cap cur hg ad (n - (k + 1)) c2 (xs.drop (k + 1)) (by rw [List.length_drop, hsize]; omega) hnews hd1 (by omega) (by rw [hsize, List.length_drop, hcs]; omega)
  have hr3 := hr
  rw [hr2] at hr3
  simp only [Result.ok.injEq] at hr3
  obtain ⟨rfl, rfl⟩ := hr3
  have e1 : k + (n - (k + 1)) = n - 1 := by omega
  have e2 : xs.take k ++ xs.drop (k + 1) = xs.eraseIdx k := (List.eraseIdx_eq_take_drop_succ xs k).symm
  rw [e1] at hr h2
  rw [e2] at h2
  exact ⟨_, hr, h2, h3⟩
end
end Go.Lb
namespace Go.Rc
open Go Go.RowKit Go.Lb
/-- A packet: a slice of the bytes of a message that may be written. -/
def Pk (w : World) (ok : Nat → Prop) (u : Value) (x : Val) : Prop := sMsg.good x ∧ ∃ a c, u = .slice a (sMsg.put x).length c ∧ (sMsg.put x).length ≤ c ∧ c ≤ maxLen ∧ Bytes w ok a (sMsg.put x)
theorem Pk.keep {w w' : World} {ok ok' : Nat → Prop} {u : Value} {x : Val} (h : Pk w ok u x) (hk : ∀ b, ok b → b < w.heap.size → ok' b ∧ w'.heap[b]? = w.heap[b]?) (hs : w.heap.size ≤ w'.heap.size) : Pk w' ok' u x := by
  obtain ⟨h1, a, c, h2, h3, h4, h5⟩ := h
  exact ⟨h1, a, c, h2, h3, h4, h5.keep hk hs⟩
structure Pks (w : World) (ok : Nat → Prop) (us : List Value) (L : List Val) : Prop where
  len : us.length = L.length
  at_ : ∀ (i : Nat) (u : Value) (x : Val), us[i]? = some u → L[i]? = some x → Pk w ok u x
section
variable {w w' : World} {ok ok' : Nat → Prop} {us : List Value} {L : List Val} {u : Value} {x : Val}
theorem Pks.nil : Pks w ok [] [] := ⟨rfl, fun i u x h => by simp at h⟩
theorem Pks.keep (h : Pks w ok us L) (hk : ∀ b, ok b → b < w.heap.size → ok' b ∧ w'.heap[b]? = w.heap[b]?) (hs : w.heap.size ≤ w'.heap.size) : Pks w' ok' us L := ⟨h.len, fun i u x h1 h2 => (h.at_ i u x h1 h2).keep hk hs⟩
theorem Pks.snoc (h : Pks w ok us L) (hx : Pk w ok u x) : Pks w ok (us ++ [u]) (L ++ [x]) := by
  refine ⟨by simp [h.len], fun i v y h1 h2 => ?_⟩
  by_cases hi : i < us.length
  · rw [List.getElem?_append_left hi] at h1
    rw [List.getElem?_append_left (by rw [← h.len]; exact hi)] at h2
    exact h.at_ i v y h1 h2
  · have hl := (List.getElem?_eq_some_iff.1 h1).1
    simp only [List.length_append, List.length_singleton] at hl
    obtain rfl : i = us.length := by omega
    rw [List.getElem?_append_right (Nat.le_refl _), Nat.sub_self] at h1
    rw [h.len, List.getElem?_append_right (Nat.le_refl _), Nat.sub_self] at h2
    simp at h1 h2
    subst h1 h2
    exact hx
theorem Pks.erase (h : Pks w ok us L) (k : Nat) : Pks w ok (us.eraseIdx k) (L.eraseIdx k) := by
  refine ⟨by rw [List.length_eraseIdx, List.length_eraseIdx, h.len], fun i v y h1 h2 => ?_⟩
  rw [List.getElem?_eraseIdx] at h1 h2
  split at h1
  · rename_i hi
    rw [if_pos hi] at h2
    exact h.at_ i v y h1 h2
  · rename_i hi
    rw [if_neg hi] at h2
    exact h.at_ _ v y h1 h2
theorem Pks.one (h : Pks w ok us L) : ∀ u ∈ us, u.oneCell' = true := fun u hu => by
  obtain ⟨i, hi⟩ := List.mem_iff_getElem?.1 hu
  have hl := (List.getElem?_eq_some_iff.1 hi).1
  obtain ⟨_, a, c, rfl, _⟩ := h.at_ i u _ hi (List.getElem?_eq_getElem (by rw [← h.len]; exact hl))
  rfl
end
/-- A net of room m at block p: its packets, in the slice v, are those of the messages L. Y: other blocks that will change. -/
structure NetV (T : TypeId) (own : World → Value → List Value → Prop) (w : World) (p m : Nat) (L : List Val) (Y : List Nat) (v : Value) (us : List Value) : Prop where
  blk : Blk w p T [.int .i64 (m : Int), v]
  own : own w v us
  ne : v.ownBlock ≠ some p
  low : ∀ k ∈ p :: v.ownBlock.toList, k ∉ Y ∧ k < w.heap.size
  ylow : ∀ k ∈ Y, k < w.heap.size
  pks : Pks w (fun b => b ∉ p :: v.ownBlock.toList ∧ b ∉ Y) us L
/-- .. X: the blocks that it may change. -/
def NetAt (T : TypeId) (own : World → Value → List Value → Prop) (w : World) (p m : Nat) (L : List Val) (X Y : List Nat) : Prop :=
  ∃ v us, X = p :: v.ownBlock.toList ∧ NetV T own w p m L Y v us
/-- What a call on a net changes. -/
structure NetTo (w : World) (X : List Nat) (w' : World) (X' : List Nat) : Prop where
  upd : Upd X w w'
  new : ∀ k ∈ X', k ∈ X ∨ w.heap.size ≤ k
theorem NetTo.refl (w : World) (X : List Nat) : NetTo w X w X := ⟨Upd.refl _ _, fun k hk => .inl hk⟩
theorem NetTo.trans {w w1 w2 : World} {X X1 X2 : List Nat} (h : NetTo w X w1 X1) (k : NetTo w1 X1 w2 X2) : NetTo w X w2 X2 :=
  ⟨h.upd.trans k.upd h.new, fun x hx => by
    rcases k.new x hx with h1 | h1
    · exact h.new x h1
    · have := h.upd.size; exact .inr (by omega)⟩
theorem NetTo.same {w w1 w2 : World} {X X1 : List Nat} (h : NetTo w X w1 X1) (u : Upd [] w1 w2) : NetTo w X w2 X1 := ⟨h.upd.trans u (by simp), h.new⟩
theorem NetTo.low {w w' : World} {X X' : List Nat} (h : NetTo w X w' X') {B : Nat} (hX : ∀ k ∈ X, B ≤ k) (hB : B ≤ w.heap.size) : ∀ k ∈ X', B ≤ k := fun k hk => by
  rcases h.new k hk with h1 | h1
  · exact hX k h1
  · omega
section
variable {T T2 : TypeId} {own own2 : World → Value → List Value → Prop} {w w' : World} {p q m m2 : Nat} {L L' : List Val} {X X' Y : List Nat}
/-- The next state: all packets were there before. -/
theorem NetV.next {v v' : Value} {us us' : List Value} (h : NetV T own w p m L Y v us) (u : Upd (p :: v.ownBlock.toList) w w') (hb : Blk w' p T [.int .i64 (m : Int), v']) (ho : own w' v' us') (hv : ∀ k, v'.ownBlock = some k → k ≠ p ∧ k < w'.heap.size ∧ (v.ownBlock = some k ∨ w.heap.size ≤ k)) (hp : Pks w (fun b => b ∉ p :: v.ownBlock.toList ∧ b ∉ Y) us' L') :
    NetTo w (p :: v.ownBlock.toList) w' (p :: v'.ownBlock.toList) ∧ NetV T own w' p m L' Y v' us' := by
  obtain ⟨h1, h2, h4, h5, h6, h7⟩ := h
  refine ⟨⟨u, fun k hk => ?_⟩, hb, ho, fun e => (hv p e).1 rfl, fun k hk => ?_, fun k hk => Nat.lt_of_lt_of_le (h6 k hk) u.size, hp.keep (fun b hb hl => ⟨⟨fun hm => ?_, hb.2⟩, u.block b hl hb.1⟩) u.size⟩
  · rcases List.mem_cons.1 hk with rfl | hk
    · exact .inl (by simp)
    · rcases (hv k (by simpa using hk)).2.2 with h8 | h8
      · exact .inl (by simp [h8])
      · exact .inr h8
  · rcases List.mem_cons.1 hk with rfl | hk
    · exact ⟨(h5 _ (by simp)).1, hb.lt⟩
    · obtain ⟨_, k1, k2⟩ := hv k (by simpa using hk)
      refine ⟨fun hy => ?_, k1⟩
      rcases k2 with k2 | k2
      · exact (h5 k (by simp [k2])).1 hy
      · have := h6 k hy; omega
  · rcases List.mem_cons.1 hm with rfl | hm
    · exact hb.1 (by simp)
    · rcases (hv b (by simpa using hm)).2.2 with h8 | h8
      · exact hb.1 (by simp [h8])
      · omega
/-- Another net stands by. -/
theorem NetAt.by (h : NetAt T own w p m L X Y) (n : NetTo w Y w' X') (hown : ∀ v us F, own w v us → Upd F w w' → (∀ k, v.ownBlock = some k → k ∉ F) → own w' v us) (hX : ∀ k ∈ X', k < w'.heap.size) : NetAt T own w' p m L X X' := by
  obtain ⟨v, us, rfl, h1, h2, h4, h5, h6, h7⟩ := h
  have hn : ∀ k, k < w.heap.size → k ∉ Y → k ∉ X' := fun k hk hy hx => by
    rcases n.new k hx with h8 | h8
    · exact hy h8
    · omega
  refine ⟨v, us, rfl, n.upd.blk h1 (h5 p (by simp)).1, hown v us Y h2 n.upd (fun k hk => (h5 k (by simp [hk])).1), h4, fun k hk => ⟨hn k (h5 k hk).2 (h5 k hk).1, Nat.lt_of_lt_of_le (h5 k hk).2 n.upd.size⟩, hX, h7.keep (fun b hb hl => ⟨⟨hb.1, hn b hl hb.2⟩, n.upd.block b hl hb.2⟩) n.upd.size⟩
/-- Nothing of it is changed. -/
theorem NetV.same {v : Value} {us : List Value} {F : List Nat} (h : NetV T own w p m L Y v us) (u : Upd F w w') (hF : ∀ k ∈ F, k ∈ Y) (hown : ∀ v us F, own w v us → Upd F w w' → (∀ k, v.ownBlock = some k → k ∉ F) → own w' v us) : NetV T own w' p m L Y v us := by
  obtain ⟨h1, h2, h4, h5, h6, h7⟩ := h
  have hn : ∀ k, k ∈ p :: v.ownBlock.toList → k ∉ F := fun k hk hf => (h5 k hk).1 (hF k hf)
  exact ⟨u.blk h1 (hn p (by simp)), hown v us F h2 u (fun k hk => hn k (by simp [hk])), h4, fun k hk => ⟨(h5 k hk).1, Nat.lt_of_lt_of_le (h5 k hk).2 u.size⟩, fun k hk => Nat.lt_of_lt_of_le (h6 k hk) u.size, h7.keep (fun b hb hl => ⟨hb, u.block b hl (fun hf => hb.2 (hF b hf))⟩) u.size⟩
theorem NetAt.same {F : List Nat} (h : NetAt T own w p m L X Y) (u : Upd F w w') (hF : ∀ k ∈ F, k ∈ Y) (hown : ∀ v us F, own w v us → Upd F w w' → (∀ k, v.ownBlock = some k → k ∉ F) → own w' v us) : NetAt T own w' p m L X Y := by
  obtain ⟨v, us, hX, h⟩ := h
  exact ⟨v, us, hX, h.same u hF hown⟩
theorem NetAt.lt (h : NetAt T own w p m L X Y) : (∀ k ∈ X, k < w.heap.size) ∧ (∀ k ∈ Y, k < w.heap.size) ∧ p ∈ X ∧ ∀ k ∈ X, k ∉ Y := by
  obtain ⟨v, us, rfl, h1, h2, h4, h5, h6, h7⟩ := h
  exact ⟨fun k hk => (h5 k hk).2, h6, by simp, fun k hk => (h5 k hk).1⟩
theorem NetAt.len (h : NetAt T own w p m L X Y) : ∀ x ∈ L, sMsg.good x := fun x hx => by
  obtain ⟨v, us, rfl, h1, h2, h4, h5, h6, h7⟩ := h
  obtain ⟨i, hi⟩ := List.mem_iff_getElem?.1 hx
  have hl := (List.getElem?_eq_some_iff.1 hi).1
  exact (h7.at_ i _ x (List.getElem?_eq_getElem (by rw [h7.len]; exact hl)) hi).1
/-- Fewer blocks that will change. -/
theorem NetAt.more (h : NetAt T own w p m L X Y) {Y' : List Nat} (hy : ∀ k ∈ Y', k ∈ Y) : NetAt T own w p m L X Y' := by
  obtain ⟨v, us, hX, h1, h2, h4, h5, h6, h7⟩ := h
  exact ⟨v, us, hX, h1, h2, h4, fun k hk => ⟨fun hm => (h5 k hk).1 (hy k hm), (h5 k hk).2⟩, fun k hk => h6 k (hy k hk), h7.keep (fun b hb hl => ⟨⟨hb.1, fun hm => hb.2 (hy b hm)⟩, rfl⟩) (Nat.le_refl _)⟩
/-- What comes to be in the net. -/
def came (m : Nat) (L : List Val) (x : Val) : List Val := if m < (L ++ [x]).length then (L ++ [x]).eraseIdx 0 else L ++ [x]
theorem came_len {x : Val} (h : L.length ≤ m) (hm : 1 ≤ m) : (came m L x).length ≤ m := by
  unfold came
  split
  · rw [List.length_eraseIdx]
    simp only [List.length_append, List.length_singleton] at *
    rw [if_pos (by omega)]; omega
  · omega
end
end Go.Rc
/- net.Net: New, Len, there, slices.Delete of one, came, Lose, Copy. -/
namespace Go.Proofs.Ytpoplipjombdbaa
open Go.RowKit Go.Lb Go.Rc

theorem infoSl : ∃ i, Try.prog.info? 22 = some i ∧ i.zero = some (.slice none 0 0) ∧ i.size = 1 ∧ i.bytes = 24 := by
  obtain ⟨i, h1, h2, h3, h4⟩ := info_parts (show (Try.prog.info? 22).map (fun i => (i.zero, i.size, i.bytes)) = some (some (.slice none 0 0), 1, 24) by kernel_rfl)
  exact ⟨i, h1, h2, h3, h4⟩
theorem Try.elem31 : Try.prog.elem 31 = 22 := by kernel_rfl
/-- Its packets stand in a row of its own. -/
def ownN (w : World) (v : Value) (us : List Value) : Prop := w.ownsRow 0 22 1 v us.length us
theorem ownN_upd {w w' : World} : ∀ v us F, ownN w v us → Upd F w w' → (∀ k, v.ownBlock = some k → k ∉ F) → ownN w' v us := fun v us F h u hF => u.row h hF
abbrev PNet (w : World) (p m : Nat) (L : List Val) (X Y : List Nat) : Prop := NetAt 112 ownN w p m L X Y

set_option maxRecDepth 20000 in
theorem nnew_yes (m : Nat) (w : World) (h1 : 1 ≤ m) (h2 : m ≤ 256) : Calls Try.prog 19 #[.int .i64 (m : Int)] w fun e w' => e = .returned (.pointer (some ⟨w.heap.size, 0, none⟩)) ∧ Upd [] w w' ∧ PNet w' w.heap.size m [] [w.heap.size] [] := by
  have t1 : decide ((m : Int) < 1) = false := by simp; omega
  have t2 : decide ((256 : Int) < (m : Int)) = false := by simp; omega
  have HF : Hid (PNet (w.alloc (.cells #[.int .i64 (m : Int), .slice none 0 0] 112)) w.heap.size m [] [w.heap.size] []) := Lib.hid ⟨.slice none 0 0, [], rfl, Blk.new w 112 [.int .i64 (m : Int), .slice none 0 0], ⟨rfl, .inl ⟨rfl, rfl⟩⟩, by simp [Value.ownBlock], fun k hk => by simp [Value.ownBlock] at hk; subst hk; simp, by simp, Pks.nil⟩
  go_enter Try.func19, Try.ntmps19
  go_wp2_with fail
  refine bodyPost_ret (results_tmp rfl _ _ _) rfl ?_
  exact ⟨rfl, (Upd.refl _ _).alloc _, HF.out⟩
set_option maxRecDepth 20000 in
theorem nnew_no (m : Int) (w : World) (h : m < 1 ∨ 256 < m) : Calls Try.prog 19 #[.int .i64 m] w fun e w' => e = .returned (.pointer none) ∧ Upd [] w w' := by
  have ht : decide (m < 1) = true ∨ (decide (m < 1) = false ∧ decide (256 < m) = true) := by
    rcases h with h | h
    · exact .inl (by simpa using h)
    · exact .inr ⟨by simp; omega, by simpa using h⟩
  clear h
  rcases ht with t1 | ⟨t1, t2⟩
  all_goals
    go_enter Try.func19, Try.ntmps19
    go_wp2_with fail
    refine bodyPost_ret (results_tmp rfl _ _ _) rfl ?_
    exact ⟨rfl, Upd.refl _ _⟩
section
variable {p m : Nat} {L : List Val} {X Y : List Nat} {w : World}
set_option maxRecDepth 20000 in
theorem nlen_any (h : PNet w p m L X Y) : Calls Try.prog 31 #[.pointer (some ⟨p, 0, none⟩)] w fun e w' => e = .returned (.int .i64 (L.length : Int)) ∧ Upd [] w w' := by
  obtain ⟨v, us, _, hb, ho, _, _, _, hp⟩ := h
  obtain ⟨a, c, rfl⟩ := own_shape' ho
  rw [hp.len] at hb
  have c1 := hb.cell (o := 1) rfl
  have c2 := hb.lt
  clear hb ho hp
  go_enter Try.func31, Try.ntmps31
  go_wp2_with fail
  refine bodyPost_ret (results_tmp rfl _ _ _) rfl ?_
  exact ⟨rfl, Upd.refl _ _⟩
set_option maxRecDepth 20000 in
theorem nthere_any (h : PNet w p m L X Y) (k : Int) (r : Bool) (hr : decide (0 ≤ k ∧ k < (L.length : Int)) = r) : Calls Try.prog 48 #[.pointer (some ⟨p, 0, none⟩), .int .i64 k] w fun e w' => e = .returned (.bool r) ∧ Upd [] w w' := by
  obtain ⟨v, us, _, hb, ho, _, _, _, hp⟩ := h
  obtain ⟨a, c, rfl⟩ := own_shape' ho
  rw [hp.len] at hb
  have c1 := hb.cell (o := 1) rfl
  have c2 := hb.lt
  have HR := Lib.hid hr
  clear hb ho hp hr
  by_cases h0 : 0 ≤ k
  · have t1 : decide (0 ≤ k) = true := by simpa using h0
    obtain ⟨q, hq⟩ : ∃ q, decide (k < (L.length : Int)) = q := ⟨_, rfl⟩
    have HQ : Hid (q = r) := Lib.hid (by rw [← HR.out, ← hq]; simp [h0])
    go_enter Try.func48, Try.ntmps48
    go_wp2_with fail
    refine bodyPost_ret (results_tmp rfl _ _ _) rfl ?_
    exact ⟨by rw [← HQ.out]; rfl, Upd.refl _ _⟩
  · have t1 : decide (0 ≤ k) = false := by simpa using h0
    have HQ : Hid (r = false) := Lib.hid (by rw [← HR.out]; simp; omega)
    go_enter Try.func48, Try.ntmps48
    go_wp2_with fail
    refine bodyPost_ret (results_tmp rfl _ _ _) rfl ?_
    exact ⟨by rw [HQ.out]; rfl, Upd.refl _ _⟩
end

set_option maxRecDepth 20000 in
set_option maxHeartbeats 2000000 in
/-- One is taken out of a row. -/
theorem delete_any (g cap k n : Nat) (x y : Int) (us : List Value) (w : World) (h : w.ownsRow 0 22 1 (.slice (some ⟨g, 0, none⟩) n cap) n us) (h1 : ∀ u ∈ us, u.oneCell' = true) (hk : k < n) (hn : n ≤ 100000) (hx : x = (k : Int)) (hy : y = (k : Int) + 1) :
    Calls Try.prog 50 #[.slice (some ⟨g, 0, none⟩) n cap, .int .i64 x, .int .i64 y] w fun e w' => e = .returned (.slice (some ⟨g, 0, none⟩) (n - 1) cap) ∧
      w'.ownsRow 0 22 1 (.slice (some ⟨g, 0, none⟩) (n - 1) cap) (n - 1) (us.eraseIdx k) ∧ Upd [g] w w' := by
  subst hx hy
  obtain ⟨iS, hiS, hzS0, hzS1, hzS2⟩ := infoSl
  have HTT : Hid (Try.prog.underlying 31 = some (.slice (Try.prog.elem 31))) := Lib.hid <| by rw [Try.elem31]; exact Try.underlying31
  have hcap : n ≤ cap ∧ cap ≤ maxLen := by
    rcases h.2 with ⟨h0, _⟩ | ⟨g', cap', cur, hv, hb, hg, hnc, hcm, hcs, htake⟩
    · cases h0
    · cases hv; exact ⟨hnc, hcm⟩
  obtain ⟨hnc, hcm⟩ := hcap
  unfold maxLen at hcm
  obtain ⟨w1, hrun, hown, hg⟩ := run_append_mid (P := Try.prog) (t := 31) (ty := 31) (c2 := cap - (k + 1)) (ad := if cap = k + 1 then ⟨g, 0, none⟩ else ⟨g, k + 1, none⟩) Try.underlying31 hiS hzS0 hzS1 hzS2 rfl (World.ownsRow.drew h) hk h1 (by omega) (Nat.zero_le _) (fun e => by rw [if_neg (by omega)])
  have es0 : suba (some ⟨g, 0, none⟩) 0 cap = some ⟨g, 0, none⟩ := by rw [suba, if_neg (by omega)]; rfl
  have es1 : suba (some ⟨g, 0, none⟩) (k + 1) cap = some (if cap = k + 1 then ⟨g, 0, none⟩ else ⟨g, k + 1, none⟩) := by
    rw [suba]
    split
    · rfl
    · simp [Addr.add]
  have es2 : suba (some ⟨g, 0, none⟩) (n - 1) cap = some ⟨g, n - 1, none⟩ := by rw [suba, if_neg (by omega)]; simp [Addr.add]; omega
  rw [← es1] at hrun
  have HRUN : Hid ((Builtin.append_ #[31, 31] 31 #[.slice (suba (some ⟨g, 0, none⟩) 0 cap) k cap, .slice (suba (some ⟨g, 0, none⟩) (k + 1) cap) (n - (k + 1)) (cap - (k + 1))]).run Try.prog w.drew = .ok (.slice (some ⟨g, 0, none⟩) (n - 1) cap) w1) := Lib.hid (by rw [es0]; exact hrun)
  have HOWN := Lib.hid hown
  have U1 : Hid (Upd [g] w w1) := Lib.hid ((Upd.refl _ _).drew.grown hg (by simp))
  have HS2 := Lib.hid es2
  have tne : ((k : Int) == (k : Int) + 1) = false := by rw [beq_eq_false_iff_ne]; omega
  have hn1 : (((n - 1 : Nat) : Int)) = (n : Int) - 1 := by omega
  have HN1 := Lib.hid hn1
  clear hrun hown hg es0 es1 es2 h h1 hn1
  go_enter Try.func50, Try.ntmps50
  go_wp2_with fail
  refine wp_region_lex (fun _ => True) 99 [(0, true), (1, true), (2, true), (3, true), (4, true), (5, true), (6, false), (7, false)] (by kernel_rfl) (by kernel_rfl) (by kernel_rfl) (by kernel_rfl) (fun _ _ d _ _ h => by cases d <;> exact h) ?_
  simp only [lexOps, List.map_cons, List.map_nil, List.getD_cons_zero, List.getD_cons_succ]
  iterate 2 (refine lex_read rfl trivial (v := ?_) (fun w' _ => ?_) ?_; rotate_left; (focus (go_simp; try with_reducible rfl)); simp only [Act.put, List.setIfInBounds_toArray, List.set_cons_zero, List.set_cons_succ])
  refine lex_read rfl trivial (fun w' hw => exec_sliceAt (by rfl) (by rfl) (by rfl) (by rfl) (sub_h HTT.out Try.elem31 hiS hzS1 (up := k) rfl (by omega))) ?_
  simp only [Act.put, List.setIfInBounds_toArray, List.set_cons_zero, List.set_cons_succ]
  iterate 2 (refine lex_read rfl trivial (v := ?_) (fun w' _ => ?_) ?_; rotate_left; (focus (go_simp; try with_reducible rfl)); simp only [Act.put, List.setIfInBounds_toArray, List.set_cons_zero, List.set_cons_succ])
  refine lex_read rfl trivial (fun w' hw => exec_sliceAt (by rfl) (by rfl) (by rfl) (by rfl) (sub_l HTT.out Try.elem31 hiS hzS1 (lo := k + 1) (by omega) (by omega))) ?_
  simp only [Act.put, List.setIfInBounds_toArray, List.set_cons_zero, List.set_cons_succ]
  refine lex_run rfl (exec_append (by rfl) (by rfl) (by rfl) HRUN.out) (fun _ => trivial) ?_
  try simp only [Act.put, List.setIfInBounds_toArray, List.set_cons_zero, List.set_cons_succ]
  refine lex_do rfl (fun K hK => ?_)
  go_simp
  refine hK _ _ (fun _ => trivial) ?_
  clear hK K
  try simp only [Act.put, List.setIfInBounds_toArray, List.set_cons_zero, List.set_cons_succ]
  refine lex_nil ?_
  go_wp2_with (first | (refine wpList_run (o := ⟨some 31, .slice 31 (.tmp 27) (some (.tmp 29)) (some (.tmp 30)) none, _, _, _, _⟩) rfl (exec_sliceAt (by rfl) (by rfl) (by rfl) (by rfl) (sub_lh HTT.out Try.elem31 hiS hzS1 (lo := n - 1) (k := 1) (by first | rfl | (have := HN1.out; omega)) (by have := HN1.out; omega) (by omega))) ?_; rw [HS2.out]) | (refine wpList_clear_tail rfl (.tmp 31) 31 rfl 0 22 iS _ 1 Try.underlying31 hiS hzS0 rfl (by simp [Value.cells, Value.oneCell']) g (n - 1) cap 1 _ _ _ rfl HOWN.out (by omega) (by omega) ?_; intro w2 ho2 hg2; have HO2 := Lib.hid ho2; have U2 : Hid (Upd [g] w w2) := Lib.hid (U1.out.trans ((Upd.refl _ _).grown hg2 (by simp)) (fun k hk => .inl hk)); clear ho2 hg2))
  go_ret
  exact ⟨rfl, HO2.out, U2.out⟩
end Go.Proofs.Ytpoplipjombdbaa
/- net.Net: came, Lose, Copy, Send, Deliver. -/
namespace Go.Proofs.Ytpoplipjombdbaa
open Go.RowKit Go.Lb Go.Rc
section
variable {p m : Nat} {L : List Val} {X Y : List Nat} {w : World}

/-- A net at v, from where its calls start. -/
abbrev PNetV (w : World) (p m : Nat) (L : List Val) (Y : List Nat) (v : Value) (us : List Value) : Prop := NetV 112 ownN w p m L Y v us
theorem own_some {w : World} {base n sz : Nat} {e : TypeId} {v : Value} {xs : List Value} (h : w.ownsRow base e sz v n xs) (hn : 0 < n) : ∃ g c, v = .slice (some ⟨g, 0, none⟩) n c ∧ n ≤ c ∧ c ≤ maxLen := by
  rcases own_is h with ⟨_, h0⟩ | ⟨g, c, h1, _, _, h2, h3⟩
  · omega
  · exact ⟨g, c, h1, h2, h3⟩
/-- One more stands in the row. -/
theorem ncame_put {w1 : World} {us : List Value} {a0 : Option Addr} {c0 g1 c1 : Nat} {u : Value} {x : Val} (H : PNetV w p m L Y (.slice a0 us.length c0) us) (hx : Pk w (fun b => b ∉ p :: (Value.slice a0 us.length c0).ownBlock.toList ∧ b ∉ Y) u x) (o : Obj)
    (ho : w1.ownsRow 0 22 1 (.slice (some ⟨g1, 0, none⟩) (us.length + 1) c1) (us.length + 1) (us ++ [u])) (hg : (w.alloc o).grownBy w1 (Value.slice a0 us.length c0).ownBlock)
    (hv : (Value.slice (some ⟨g1, 0, none⟩) (us.length + 1) c1).ownBlock = (Value.slice a0 us.length c0).ownBlock ∨ (Value.slice (some ⟨g1, 0, none⟩) (us.length + 1) c1).ownBlock = some (w.alloc o).heap.size) :
    Blk w1 p 112 [.int .i64 (m : Int), .slice a0 us.length c0] ∧ g1 ≠ p ∧ g1 < w1.heap.size ∧
    NetTo w (p :: (Value.slice a0 us.length c0).ownBlock.toList) (w1.setCell ⟨p, 1, none⟩ (.slice (some ⟨g1, 0, none⟩) (us.length + 1) c1)) [p, g1] ∧
    PNetV (w1.setCell ⟨p, 1, none⟩ (.slice (some ⟨g1, 0, none⟩) (us.length + 1) c1)) p m (L ++ [x]) Y (.slice (some ⟨g1, 0, none⟩) (us.length + 1) c1) (us ++ [u]) := by
  have hb1 : Blk w1 p 112 [.int .i64 (m : Int), .slice a0 us.length c0] := (hg.block p (H.blk.alloc _).lt (fun e => H.ne e.symm)).trans (H.blk.alloc _)
  have hlt : g1 < w1.heap.size := (own_lo ho rfl).2
  have hpl := H.blk.lt
  have hnp : g1 ≠ p := by
    rintro rfl
    rcases hv with h1 | h1
    · exact H.ne h1.symm
    · simp [Value.ownBlock] at h1; omega
  have hgx : (Value.slice a0 us.length c0).ownBlock = some g1 ∨ w.heap.size ≤ g1 := by
    rcases hv with h1 | h1
    · exact .inl h1.symm
    · simp [Value.ownBlock] at h1; exact .inr (by omega)
  have hu : Upd (p :: (Value.slice a0 us.length c0).ownBlock.toList) w (w1.setCell ⟨p, 1, none⟩ (.slice (some ⟨g1, 0, none⟩) (us.length + 1) c1)) := by
    refine Upd.setCell ?_ (.inl (by simp)) _
    exact ((Upd.refl _ w).alloc _).grown hg (fun k hk => .inl (by simp [hk]))
  have hb2 : Blk (w1.setCell ⟨p, 1, none⟩ (.slice (some ⟨g1, 0, none⟩) (us.length + 1) c1)) p 112 [.int .i64 (m : Int), .slice (some ⟨g1, 0, none⟩) (us.length + 1) c1] := hb1.set 1 _
  have ho2 : ownN (w1.setCell ⟨p, 1, none⟩ (.slice (some ⟨g1, 0, none⟩) (us.length + 1) c1)) (.slice (some ⟨g1, 0, none⟩) (us.length + 1) c1) (us ++ [u]) := by
    unfold ownN
    rw [List.length_append, List.length_singleton]
    exact Upd.row (F := [p]) ((Upd.refl _ _).setCell (by simp) _) ho (fun k hk => by simp [Value.ownBlock] at hk; subst hk; simpa using hnp)
  obtain ⟨n1, n2⟩ := NetV.next H hu hb2 ho2 (fun k hk => by simp [Value.ownBlock] at hk; subst hk; exact ⟨hnp, by simpa using hlt, hgx⟩) (H.pks.snoc hx)
  exact ⟨hb1, hnp, hlt, n1, n2⟩
/-- One stands in the row no more. -/
theorem nlose_put {w1 : World} {us us' : List Value} {g n n1 c k : Nat} (H : PNetV w p m L Y (.slice (some ⟨g, 0, none⟩) n c) us) (hu : us' = us.eraseIdx k) (hn : us'.length = n1) (u : Upd [g] w w1) (ho : w1.ownsRow 0 22 1 (.slice (some ⟨g, 0, none⟩) n1 c) n1 us') :
    Blk w1 p 112 [.int .i64 (m : Int), .slice (some ⟨g, 0, none⟩) n c] ∧
    NetTo w [p, g] (w1.setCell ⟨p, 1, none⟩ (.slice (some ⟨g, 0, none⟩) n1 c)) [p, g] ∧
    PNetV (w1.setCell ⟨p, 1, none⟩ (.slice (some ⟨g, 0, none⟩) n1 c)) p m (L.eraseIdx k) Y (.slice (some ⟨g, 0, none⟩) n1 c) us' := by
  have hnp : g ≠ p := fun e => H.ne (by rw [e]; rfl)
  have hb1 : Blk w1 p 112 [.int .i64 (m : Int), .slice (some ⟨g, 0, none⟩) n c] := u.blk H.blk (by simpa using fun e => hnp e.symm)
  have ho2 : ownN (w1.setCell ⟨p, 1, none⟩ (.slice (some ⟨g, 0, none⟩) n1 c)) (.slice (some ⟨g, 0, none⟩) n1 c) us' := by
    unfold ownN
    rw [hn]
    exact Upd.row (F := [p]) ((Upd.refl _ _).setCell (by simp) _) ho (fun k hk => by simp [Value.ownBlock] at hk; subst hk; simpa using hnp)
  obtain ⟨n1', n2'⟩ := NetV.next H (((u.mono (fun k hk => .inl (by simp [Value.ownBlock] at hk ⊢; simp [hk]))).setCell (.inl (by simp)) _)) (hb1.set 1 _) ho2 (fun k hk => by simp [Value.ownBlock] at hk; subst hk; exact ⟨hnp, by have := (own_lo ho rfl).2; simpa using this, .inl rfl⟩) (by rw [hu]; exact H.pks.erase k)
  exact ⟨hb1, n1', n2'⟩

set_option maxRecDepth 20000 in
set_option maxHeartbeats 2000000 in
theorem ncame_any (a : Option Addr) (n c : Nat) (x : Val) (h : PNet w p m L X Y) (hx : Pk w (fun b => b ∉ X ∧ b ∉ Y) (.slice a n c) x) (hm : 1 ≤ m) (hm2 : m ≤ 256) (hl : L.length ≤ m) :
    Calls Try.prog 46 #[.pointer (some ⟨p, 0, none⟩), .slice a n c] w fun e w' => e = .returned (.tuple #[]) ∧ ∃ X', NetTo w X w' X' ∧ PNet w' p m (came m L x) X' Y := by
  obtain ⟨iS, hiS, hzS0, hzS1, hzS2⟩ := infoSl
  obtain ⟨v, us, rfl, h⟩ := h
  obtain ⟨a0, c0, rfl⟩ := own_shape' h.own
  have HUL := Lib.hid h.pks.len
  have hul : us.length ≤ 256 := by rw [h.pks.len]; omega
  have c1 := h.blk.cell (o := 1) rfl
  have c2 := h.blk.lt
  have H := Lib.hid h
  have HPX := Lib.hid hx
  have HONE := Lib.hid (h.pks.snoc hx).one
  have HCAME : Hid (m < us.length + 1 → came m L x = (L ++ [x]).eraseIdx 0) := Lib.hid (fun e => by unfold came; rw [if_pos (by simpa [h.pks.len] using e)])
  have HCAME2 : Hid (¬ m < us.length + 1 → came m L x = L ++ [x]) := Lib.hid (fun e => by unfold came; rw [if_neg (by simpa [h.pks.len] using e)])
  clear h hx
  go_enter Try.func46, Try.ntmps46
  go_wp2_with (at_builtin; refine wpList_append_mine rfl (.tmp 8) (.tmp 10) 31 rfl 0 22 iS _ 1 24 Try.underlying31 hiS hzS0 hzS1 hzS2 rfl (by decide) (.slice a0 us.length c0) us.length us rfl (World.ownsRow.alloc H.out.own _) ⟨w.heap.size, 0, none⟩ 1 1 [.slice a n c] rfl rfl (Blk.news (Blk.new _ 22 [.slice a n c])) (by simp [Value.oneCell']) (by unfold maxLen; omega) (by omega) (Nat.zero_le _) ?_; intro v1 w1 ho1 hg1 hv1; obtain ⟨g1, c1', rfl, _, _⟩ := own_some ho1 (by omega); obtain ⟨hbA, hnp, hlt1, n1, h1⟩ := ncame_put H.out HPX.out _ ho1 hg1 hv1; have q1 := hbA.cell (o := 1) rfl; have q2 := hbA.frozen 1; have q3 := hbA.lt; have HO1 := Lib.hid ho1; have N1 := Lib.hid n1; have H1 := Lib.hid h1; clear hbA ho1 hg1 hv1 n1 h1)
  have k0 := H1.out.blk.cell (o := 0) rfl
  have k1 := H1.out.blk.cell (o := 1) rfl
  have k2 := H1.out.blk.lt
  generalize hw2 : (w1.setCell ⟨p, 1, none⟩ (.slice (some ⟨g1, 0, none⟩) (us.length + 1) c1')) = w2 at *
  clear q1 q2 q3 c1 hw2
  by_cases hov : m < us.length + 1
  · have t1 : decide ((m : Int) < (us.length : Int) + 1) = true := by simp; omega
    have t2 : decide (m < us.length + 1) = true := by simp; omega
    have H1d := Lib.hid (H1.out.same ((Upd.refl [] _).drew) (by simp) ownN_upd)
    have hod : w2.drew.ownsRow 0 22 1 (.slice (some ⟨g1, 0, none⟩) (us.length + 1) c1') (us.length + 1) (us ++ [.slice a n c]) := by
      have := H1d.out.own
      unfold ownN at this
      rwa [List.length_append, List.length_singleton] at this
    have HOD := Lib.hid hod
    clear hod
    go_wp2_with fail
    go_region
    go_wp2_with fail
    refine (delete_any g1 c1' 0 (us.length + 1) 0 1 _ _ HOD.out HONE.out (by omega) (by omega) rfl rfl).mono ?_
    rintro e w3 ⟨rfl, ho3, u3⟩
    obtain ⟨hb3, n3, h3⟩ := nlose_put H1d.out rfl (by rw [List.length_eraseIdx]; simp) u3 ho3
    have q1 := hb3.cell (o := 1) rfl
    have q2 := hb3.frozen 1
    have q3 := hb3.lt
    have N3 := Lib.hid n3
    have H3 := Lib.hid h3
    clear ho3 u3 hb3 n3 h3
    go_wp2_with fail
    go_end0
    exact ⟨rfl, [p, g1], (N1.out.same ((Upd.refl [] _).drew)).trans N3.out, .slice (some ⟨g1, 0, none⟩) (us.length + 1 - 1) c1', (us ++ [Value.slice a n c]).eraseIdx 0, rfl, by rw [HCAME.out hov]; exact H3.out⟩
  · have t1 : decide ((m : Int) < (us.length : Int) + 1) = false := by simp; omega
    have t2 : decide (m < us.length + 1) = false := by simp; omega
    go_wp2_with fail
    go_region
    go_wp2_with fail
    go_end0
    exact ⟨rfl, [p, g1], N1.out.same ((Upd.refl [] _).drew), .slice (some ⟨g1, 0, none⟩) (us.length + 1) c1', us ++ [.slice a n c], rfl, by rw [HCAME2.out hov]; exact H1.out.same ((Upd.refl [] _).drew) (by simp) ownN_upd⟩

set_option maxRecDepth 20000 in
set_option maxHeartbeats 2000000 in
theorem nlose_yes (k : Nat) (h : PNet w p m L X Y) (hk : k < L.length) (hl : L.length ≤ 100000) :
    Calls Try.prog 27 #[.pointer (some ⟨p, 0, none⟩), .int .i64 (k : Int)] w fun e w' => e = .returned (.bool true) ∧ ∃ X', NetTo w X w' X' ∧ PNet w' p m (L.eraseIdx k) X' Y := by
  have HTH := Lib.hid h
  obtain ⟨v, us, rfl, h⟩ := h
  have hul := h.pks.len
  have ho0 : w.ownsRow 0 22 1 v us.length us := h.own
  obtain ⟨g, c, rfl, _, _⟩ := own_some ho0 (by omega)
  have c1 := h.blk.cell (o := 1) rfl
  have c2 := h.blk.lt
  have H := Lib.hid h
  have HO := Lib.hid ho0
  have HONE := Lib.hid h.pks.one
  have HKB : Hid (decide (0 ≤ (k : Int) ∧ (k : Int) < (L.length : Int)) = true) := Lib.hid (by simp; omega)
  have hku : k < us.length := by omega
  have hn2 : us.length ≤ 100000 := by omega
  clear h ho0 hul
  go_enter Try.func27, Try.ntmps27
  go_wp2_with fail
  refine (nthere_any HTH.out (k : Int) true HKB.out).mono ?_
  rintro e w1 ⟨rfl, u1⟩
  have H1 := Lib.hid (H.out.same u1 (by simp) ownN_upd)
  have HO1 := Lib.hid (u1.row HO.out (by simp))
  have c1 := H1.out.blk.cell (o := 1) rfl
  have c2 := H1.out.blk.lt
  have U1 := Lib.hid u1
  clear u1
  go_wp2_with fail
  refine (delete_any g c k us.length _ _ _ _ HO1.out HONE.out hku hn2 rfl rfl).mono ?_
  rintro e w3 ⟨rfl, ho3, u3⟩
  obtain ⟨hb3, n3, h3⟩ := nlose_put H1.out rfl (by rw [List.length_eraseIdx, if_pos hku]) u3 ho3
  have q1 := hb3.cell (o := 1) rfl
  have q2 := hb3.frozen 1
  have q3 := hb3.lt
  have N3 := Lib.hid n3
  have H3 := Lib.hid h3
  clear ho3 u3 hb3 n3 h3
  go_wp2_with fail
  refine bodyPost_ret (results_tmp rfl _ _ _) rfl ?_
  exact ⟨rfl, [p, g], ((NetTo.refl _ _).same U1.out).trans N3.out, .slice (some ⟨g, 0, none⟩) (us.length - 1) c, us.eraseIdx k, rfl, H3.out⟩
set_option maxRecDepth 20000 in
set_option maxHeartbeats 2000000 in
theorem nlose_no (k : Int) (h : PNet w p m L X Y) (hk : ¬ (0 ≤ k ∧ k < (L.length : Int))) :
    Calls Try.prog 27 #[.pointer (some ⟨p, 0, none⟩), .int .i64 k] w fun e w' => e = .returned (.bool false) ∧ Upd [] w w' := by
  have HTH := Lib.hid h
  have HKB : Hid (decide (0 ≤ k ∧ k < (L.length : Int)) = false) := Lib.hid (by simpa using hk)
  clear h hk
  go_enter Try.func27, Try.ntmps27
  go_wp2_with fail
  refine (nthere_any HTH.out k false HKB.out).mono ?_
  rintro e w1 ⟨rfl, u1⟩
  have U1 := Lib.hid u1
  clear u1
  go_wp2_with fail
  refine bodyPost_ret (results_tmp rfl _ _ _) rfl ?_
  exact ⟨rfl, U1.out⟩
set_option maxRecDepth 20000 in
set_option maxHeartbeats 2000000 in
theorem ncopy_yes (k : Nat) (x : Val) (h : PNet w p m L X Y) (hx : L[k]? = some x) (hm : 1 ≤ m) (hm2 : m ≤ 256) (hl : L.length ≤ m) :
    Calls Try.prog 29 #[.pointer (some ⟨p, 0, none⟩), .int .i64 (k : Int)] w fun e w' => e = .returned (.bool true) ∧ ∃ X', NetTo w X w' X' ∧ PNet w' p m (came m L x) X' Y := by
  have HTH := Lib.hid h
  obtain ⟨v, us, rfl, h⟩ := h
  have hkl := (List.getElem?_eq_some_iff.1 hx).1
  have hul := h.pks.len
  have ho0 : w.ownsRow 0 22 1 v us.length us := h.own
  obtain ⟨g, c, rfl, _, _⟩ := own_some ho0 (by omega)
  have hus : us[k]? = some (us[k]'(by omega)) := List.getElem?_eq_getElem (by omega)
  have hpk := h.pks.at_ k _ x hus hx
  have hcel := ho0.cellAt k (by omega)
  rw [hus] at hcel
  generalize us[k]'(by omega) = pk at *
  obtain ⟨hgx, pa, pc, rfl, hp1, hp2, hp3⟩ := hpk
  have HU := Lib.hid (show Upd [] w w from Upd.refl _ _)
  have H := Lib.hid h
  have HKB : Hid (decide (0 ≤ (k : Int) ∧ (k : Int) < (L.length : Int)) = true) := Lib.hid (by simp; omega)
  have hku : k < us.length := by omega
  have HCL := Lib.hid hcel
  have hgl := block_lt_of_cell hcel
  obtain ⟨pl, hpl⟩ : ∃ pl, pl = (sMsg.put x).length := ⟨_, rfl⟩
  rw [← hpl] at HCL
  have HPK : Hid (Pk w (fun b => b ∉ p :: (Value.slice (some ⟨g, 0, none⟩) us.length c).ownBlock.toList ∧ b ∉ Y) (.slice pa pl pc) x) := Lib.hid ⟨hgx, pa, pc, by rw [hpl], hp1, hp2, hp3⟩
  clear h ho0 hul hp1 hp2 hp3 hgx hpl hcel hus hkl hx
  go_enter Try.func29, Try.ntmps29
  go_wp2_with fail
  refine (nthere_any HTH.out (k : Int) true HKB.out).mono ?_
  rintro e w1 ⟨rfl, u1⟩
  have H1 := Lib.hid (H.out.same u1 (by simp) ownN_upd)
  have c1 := H1.out.blk.cell (o := 1) rfl
  have c2 := H1.out.blk.lt
  have c3 : w1.cell? ⟨g, k, none⟩ = some (.slice pa pl pc) := (u1.cell (a := ⟨g, k, none⟩) hgl (by simp)).trans HCL.out
  have HPK1 := Lib.hid (HPK.out.keep (fun b hb hl => ⟨hb, u1.block b hl (by simp)⟩) u1.size)
  have U1 := Lib.hid u1
  clear u1
  go_wp2_with fail
  refine (ncame_any (X := [p, g]) pa pl pc x ⟨_, _, rfl, H1.out⟩ HPK1.out hm hm2 hl).mono ?_
  rintro e w2 ⟨rfl, X2, n2, h2⟩
  have N2 := Lib.hid n2
  have H2 := Lib.hid h2
  clear n2 h2
  go_wp2_with fail
  refine bodyPost_ret (results_tmp rfl _ _ _) rfl ?_
  exact ⟨rfl, X2, ((NetTo.refl _ _).same U1.out).trans N2.out, H2.out⟩
set_option maxRecDepth 20000 in
set_option maxHeartbeats 2000000 in
theorem ncopy_no (k : Int) (h : PNet w p m L X Y) (hk : ¬ (0 ≤ k ∧ k < (L.length : Int))) :
    Calls Try.prog 29 #[.pointer (some ⟨p, 0, none⟩), .int .i64 k] w fun e w' => e = .returned (.bool false) ∧ Upd [] w w' := by
  have HTH := Lib.hid h
  have HKB : Hid (decide (0 ≤ k ∧ k < (L.length : Int)) = false) := Lib.hid (by simpa using hk)
  clear h hk
  go_enter Try.func29, Try.ntmps29
  go_wp2_with fail
  refine (nthere_any HTH.out k false HKB.out).mono ?_
  rintro e w1 ⟨rfl, u1⟩
  have U1 := Lib.hid u1
  clear u1
  go_wp2_with fail
  refine bodyPost_ret (results_tmp rfl _ _ _) rfl ?_
  exact ⟨rfl, U1.out⟩
end
end Go.Proofs.Ytpoplipjombdbaa
/- The reference's Net: New, there, came, Lose, Copy. -/
namespace Go.Lb
open Go Go.RowKit
theorem Win.isSome {w : World} {e : TypeId} {v : Value} {xs : List Value} (h : Win w e v xs) (hn : 0 < xs.length) : ∃ g o cap, v = .slice (some ⟨g, o, none⟩) xs.length cap ∧ xs.length ≤ cap ∧ cap ≤ maxLen ∧ g < w.heap.size ∧ ∀ i u, xs[i]? = some u → w.cell? ⟨g, o + i, none⟩ = some u := by
  rcases h with ⟨_, h⟩ | ⟨g, o, cap, vs, rfl, hb, h1, h2, h3, h4⟩
  · rw [h] at hn; simp at hn
  · exact ⟨g, o, cap, rfl, h1, h2, hb.lt, fun i u hu => hb.cell (h4 i u hu)⟩
theorem own_win {w : World} {base n : Nat} {e : TypeId} {v : Value} {xs : List Value} (h : w.ownsRow base e 1 v n xs) : Win w e v xs := by
  have hl := h.1
  rw [Nat.mul_one] at hl
  rcases h.2 with ⟨rfl, h0⟩ | ⟨g, cap, cur, rfl, hb, h1, h2, h3, h4, h5⟩
  · exact .inl ⟨rfl, List.eq_nil_of_length_eq_zero (by omega)⟩
  · refine .inr ⟨g, 0, cap, cur.toList, by rw [hl], ?_, by omega, h3, by simp; omega, fun i u hu => ?_⟩
    · unfold Blk; rw [h1]
    · have hi := (List.getElem?_eq_some_iff.1 hu).1
      rw [Nat.zero_add, ← hu, ← h5, List.getElem?_take, if_pos (by omega)]
end Go.Lb
namespace Go.Proofs.Ytpoplipjombdbaa
open Go.RowKit Go.Lb Go.Rc
/-- Its packets stand somewhere in a row of its own. -/
def ownS (w : World) (v : Value) (us : List Value) : Prop := Win w 22 v us
theorem ownS_upd {w w' : World} : ∀ v us F, ownS w v us → Upd F w w' → (∀ k, v.ownBlock = some k → k ∉ F) → ownS w' v us := fun v us F h u hF => Win.upd h u hF
abbrev SNet (w : World) (p m : Nat) (L : List Val) (X Y : List Nat) : Prop := NetAt 71 ownS w p m L X Y
abbrev SNetV (w : World) (p m : Nat) (L : List Val) (Y : List Nat) (v : Value) (us : List Value) : Prop := NetV 71 ownS w p m L Y v us

set_option maxRecDepth 20000 in
theorem snew_yes (m : Nat) (w : World) (h1 : 1 ≤ m) (h2 : m ≤ 256) : Calls Try.prog 20 #[.int .i64 (m : Int)] w fun e w' => e = .returned (.pointer (some ⟨w.heap.size, 0, none⟩)) ∧ Upd [] w w' ∧ SNet w' w.heap.size m [] [w.heap.size] [] := by
  have t1 : decide ((m : Int) < 1) = false := by simp; omega
  have t2 : decide ((256 : Int) < (m : Int)) = false := by simp; omega
  have HF : Hid (SNet (w.alloc (.cells #[.int .i64 (m : Int), .slice none 0 0] 71)) w.heap.size m [] [w.heap.size] []) := Lib.hid ⟨.slice none 0 0, [], rfl, Blk.new w 71 [.int .i64 (m : Int), .slice none 0 0], Win.nil _ _, by simp [Value.ownBlock], fun k hk => by simp [Value.ownBlock] at hk; subst hk; simp, by simp, Pks.nil⟩
  go_enter Try.func20, Try.ntmps20
  go_wp2_with fail
  refine bodyPost_ret (results_tmp rfl _ _ _) rfl ?_
  exact ⟨rfl, (Upd.refl _ _).alloc _, HF.out⟩
set_option maxRecDepth 20000 in
theorem snew_no (m : Int) (w : World) (h : m < 1 ∨ 256 < m) : Calls Try.prog 20 #[.int .i64 m] w fun e w' => e = .returned (.pointer none) ∧ Upd [] w w' := by
  have ht : decide (m < 1) = true ∨ (decide (m < 1) = false ∧ decide (256 < m) = true) := by
    rcases h with h | h
    · exact .inl (by simpa using h)
    · exact .inr ⟨by simp; omega, by simpa using h⟩
  clear h
  rcases ht with t1 | ⟨t1, t2⟩
  all_goals
    go_enter Try.func20, Try.ntmps20
    go_wp2_with fail
    refine bodyPost_ret (results_tmp rfl _ _ _) rfl ?_
    exact ⟨rfl, Upd.refl _ _⟩
section
variable {p m : Nat} {L : List Val} {X Y : List Nat} {w : World}
set_option maxRecDepth 20000 in
theorem sthere_any (h : SNet w p m L X Y) (k : Int) (r : Bool) (hr : decide (0 ≤ k ∧ k < (L.length : Int)) = r) : Calls Try.prog 49 #[.pointer (some ⟨p, 0, none⟩), .int .i64 k] w fun e w' => e = .returned (.bool r) ∧ Upd [] w w' := by
  obtain ⟨v, us, _, hb, ho, _, _, _, hp⟩ := h
  obtain ⟨a, c, rfl⟩ := Win.shape ho
  rw [hp.len] at hb
  have c1 := hb.cell (o := 1) rfl
  have c2 := hb.lt
  have HR := Lib.hid hr
  clear hb ho hp hr
  by_cases h0 : 0 ≤ k
  · have t1 : decide (0 ≤ k) = true := by simpa using h0
    obtain ⟨q, hq⟩ : ∃ q, decide (k < (L.length : Int)) = q := ⟨_, rfl⟩
    have HQ : Hid (q = r) := Lib.hid (by rw [← HR.out, ← hq]; simp [h0])
    go_enter Try.func49, Try.ntmps49
    go_wp2_with fail
    refine bodyPost_ret (results_tmp rfl _ _ _) rfl ?_
    exact ⟨by rw [← HQ.out]; rfl, Upd.refl _ _⟩
  · have t1 : decide (0 ≤ k) = false := by simpa using h0
    have HQ : Hid (r = false) := Lib.hid (by rw [← HR.out]; simp; omega)
    go_enter Try.func49, Try.ntmps49
    go_wp2_with fail
    refine bodyPost_ret (results_tmp rfl _ _ _) rfl ?_
    exact ⟨by rw [HQ.out]; rfl, Upd.refl _ _⟩

/-- One more stands in the row. -/
theorem scame_put {w1 : World} {us : List Value} {v0 v1 : Value} {u : Value} {x : Val} (H : SNetV w p m L Y v0 us) (hx : Pk w (fun b => b ∉ p :: v0.ownBlock.toList ∧ b ∉ Y) u x) (o : Obj)
    (ho : Win w1 22 v1 (us ++ [u])) (hg : (w.alloc o).grownBy w1 v0.ownBlock) (hv : v1.ownBlock = v0.ownBlock ∨ v1.ownBlock = some (w.alloc o).heap.size) :
    Blk w1 p 71 [.int .i64 (m : Int), v0] ∧
    NetTo w (p :: v0.ownBlock.toList) (w1.setCell ⟨p, 1, none⟩ v1) (p :: v1.ownBlock.toList) ∧
    SNetV (w1.setCell ⟨p, 1, none⟩ v1) p m (L ++ [x]) Y v1 (us ++ [u]) := by
  have hb1 : Blk w1 p 71 [.int .i64 (m : Int), v0] := (hg.block p (H.blk.alloc _).lt (fun e => H.ne e.symm)).trans (H.blk.alloc _)
  have hpl := H.blk.lt
  have hnp : ∀ k, v1.ownBlock = some k → k ≠ p ∧ k < w1.heap.size ∧ (v0.ownBlock = some k ∨ w.heap.size ≤ k) := fun k hk => by
    refine ⟨?_, ho.lt k hk, ?_⟩
    · rintro rfl
      rcases hv with h1 | h1
      · exact H.ne (h1 ▸ hk)
      · rw [h1] at hk; simp at hk; omega
    · rcases hv with h1 | h1
      · exact .inl (h1 ▸ hk)
      · rw [h1] at hk; simp at hk; exact .inr (by omega)
  have hu : Upd (p :: v0.ownBlock.toList) w (w1.setCell ⟨p, 1, none⟩ v1) := by
    refine Upd.setCell ?_ (.inl (by simp)) _
    exact ((Upd.refl _ w).alloc _).grown hg (fun k hk => .inl (by simp [hk]))
  have ho2 : ownS (w1.setCell ⟨p, 1, none⟩ v1) v1 (us ++ [u]) := Win.upd (F := [p]) ho ((Upd.refl _ _).setCell (by simp) _) (fun k hk => by simpa using (hnp k hk).1)
  obtain ⟨n1, n2⟩ := NetV.next H hu (hb1.set 1 _) ho2 (fun k hk => ⟨(hnp k hk).1, by simpa using (hnp k hk).2.1, (hnp k hk).2.2⟩) (H.pks.snoc hx)
  exact ⟨hb1, n1, n2⟩
/-- The slice is another: of the same row, or of a new one. -/
theorem slose_put {w1 : World} {us us' : List Value} {v0 v1 : Value} {k : Nat} (H : SNetV w p m L Y v0 us) (hu : us' = us.eraseIdx k) (u : Upd [] w w1) (ho : Win w1 22 v1 us') (hv : v1.ownBlock = v0.ownBlock ∨ ∀ k, v1.ownBlock = some k → w.heap.size ≤ k) :
    Blk w1 p 71 [.int .i64 (m : Int), v0] ∧
    NetTo w (p :: v0.ownBlock.toList) (w1.setCell ⟨p, 1, none⟩ v1) (p :: v1.ownBlock.toList) ∧
    SNetV (w1.setCell ⟨p, 1, none⟩ v1) p m (L.eraseIdx k) Y v1 us' := by
  have hb1 : Blk w1 p 71 [.int .i64 (m : Int), v0] := u.blk H.blk (by simp)
  have hpl := H.blk.lt
  have hnp : ∀ k, v1.ownBlock = some k → k ≠ p ∧ k < w1.heap.size ∧ (v0.ownBlock = some k ∨ w.heap.size ≤ k) := fun k hk => by
    refine ⟨?_, ho.lt k hk, ?_⟩
    · rintro rfl
      rcases hv with h1 | h1
      · exact H.ne (h1 ▸ hk)
      · have := h1 _ hk; omega
    · rcases hv with h1 | h1
      · exact .inl (h1 ▸ hk)
      · exact .inr (h1 _ hk)
  have ho2 : ownS (w1.setCell ⟨p, 1, none⟩ v1) v1 us' := Win.upd (F := [p]) ho ((Upd.refl _ _).setCell (by simp) _) (fun k hk => by simpa using (hnp k hk).1)
  obtain ⟨n1, n2⟩ := NetV.next H ((u.mono (by simp)).setCell (.inl (by simp)) _) (hb1.set 1 _) ho2 (fun k hk => ⟨(hnp k hk).1, by simpa using (hnp k hk).2.1, (hnp k hk).2.2⟩) (by rw [hu]; exact H.pks.erase k)
  exact ⟨hb1, n1, n2⟩

set_option maxRecDepth 20000 in
set_option maxHeartbeats 2000000 in
theorem scame_any (a : Option Addr) (n c : Nat) (x : Val) (h : SNet w p m L X Y) (hx : Pk w (fun b => b ∉ X ∧ b ∉ Y) (.slice a n c) x) (hm : 1 ≤ m) (hm2 : m ≤ 256) (hl : L.length ≤ m) :
    Calls Try.prog 47 #[.pointer (some ⟨p, 0, none⟩), .slice a n c] w fun e w' => e = .returned (.tuple #[]) ∧ ∃ X', NetTo w X w' X' ∧ SNet w' p m (came m L x) X' Y := by
  obtain ⟨iS, hiS, hzS0, hzS1, hzS2⟩ := infoSl
  have HTT : Hid (Try.prog.underlying 31 = some (.slice (Try.prog.elem 31))) := Lib.hid <| by rw [Try.elem31]; exact Try.underlying31
  obtain ⟨v, us, rfl, h⟩ := h
  obtain ⟨a0, c0, rfl⟩ := Win.shape h.own
  have HUL := Lib.hid h.pks.len
  have hul : us.length ≤ 256 := by rw [h.pks.len]; omega
  have c1 := h.blk.cell (o := 1) rfl
  have c2 := h.blk.lt
  have H := Lib.hid h
  have HW : Hid (Win (w.alloc (.cells #[.slice a n c] 22)) 22 (.slice a0 us.length c0) us) := Lib.hid (Win.upd h.own ((Upd.refl [] w).alloc _) (by simp))
  have HPX := Lib.hid hx
  have HCAME : Hid (m < us.length + 1 → came m L x = (L ++ [x]).eraseIdx 0) := Lib.hid (fun e => by unfold came; rw [if_pos (by simpa [h.pks.len] using e)])
  have HCAME2 : Hid (¬ m < us.length + 1 → came m L x = L ++ [x]) := Lib.hid (fun e => by unfold came; rw [if_neg (by simpa [h.pks.len] using e)])
  clear h hx
  go_enter Try.func47, Try.ntmps47
  go_wp2_with (at_builtin; refine wpList_append_win rfl (.tmp 8) (.tmp 10) 31 rfl 22 iS _ 24 Try.underlying31 hiS hzS0 hzS1 hzS2 rfl (.slice a0 us.length c0) us rfl HW.out ⟨w.heap.size, 0, none⟩ 1 (.slice a n c) rfl ((Blk.new w 22 [.slice a n c]).cell rfl) rfl rfl (by unfold maxLen; omega) (by omega) ?_; intro v1 w1 ho1 hg1 hv1; obtain ⟨g1, o1, c1', rfl, hcc1, hcc2, hlt1, _⟩ := ho1.isSome (by simp); obtain ⟨hbA, n1, h1⟩ := scame_put H.out HPX.out _ ho1 hg1 hv1; have q1 := hbA.cell (o := 1) rfl; have q2 := hbA.frozen 1; have q3 := hbA.lt; have N1 := Lib.hid n1; have H1 := Lib.hid h1; clear hbA ho1 hg1 hv1 n1 h1)
  have hll : (us ++ [Value.slice a n c]).length = us.length + 1 := by simp
  rw [hll] at H1 N1 hcc1
  try rw [hll]
  clear hll
  have k0 := H1.out.blk.cell (o := 0) rfl
  have k1 := H1.out.blk.cell (o := 1) rfl
  have k2 := H1.out.blk.lt
  generalize hw2 : (w1.setCell ⟨p, 1, none⟩ (.slice (some ⟨g1, o1, none⟩) (us.length + 1) c1')) = w2 at *
  clear q1 q2 q3 c1 hw2
  by_cases hov : m < us.length + 1
  · have t1 : decide ((m : Int) < (us.length : Int) + 1) = true := by simp; omega
    have t2 : decide (m < us.length + 1) = true := by simp; omega
    have H1d := Lib.hid (H1.out.same ((Upd.refl [] _).drew) (by simp) ownS_upd)
    have es1 : suba (some ⟨g1, o1, none⟩) 1 c1' = some ⟨g1, o1 + 1, none⟩ := by rw [suba, if_neg (by omega)]; simp [Addr.add]
    have HS1 := Lib.hid es1
    have hw3 : Win w2.drew 22 (.slice (some ⟨g1, o1 + 1, none⟩) us.length (c1' - 1)) ((us ++ [Value.slice a n c]).eraseIdx 0) := by
      have hw := H1d.out.own
      unfold ownS at hw
      cases us with
      | nil => simp at hov; omega
      | cons u0 ur =>
        have := Win.tail (xs := ur ++ [.slice a n c]) (x := u0) (g := g1) (o := o1) (cap := c1') (by simpa using hw)
        rw [if_neg (by simp at hcc1; omega)] at this
        simpa using this
    obtain ⟨hb3, n3, h3⟩ := slose_put H1d.out rfl (Upd.refl [] _) hw3 (.inl rfl)
    have q1 := hb3.cell (o := 1) rfl
    have q2 := hb3.frozen 1
    have q3 := hb3.lt
    have N3 := Lib.hid n3
    have H3 := Lib.hid h3
    clear hb3 n3 h3 es1 hw3
    go_wp2_with fail
    go_region
    go_wp2_with (refine wpList_run (o := ⟨some 29, .slice 31 (.tmp 28) (some (.const (.int .i64 1))) none none, _, _, _, _⟩) rfl (exec_sliceAt (by rfl) (by rfl) (by rfl) (by rfl) (sub_l HTT.out Try.elem31 hiS hzS1 (lo := 1) rfl (by omega))) ?_; rw [HS1.out])
    go_end0
    exact ⟨rfl, [p, g1], (N1.out.same ((Upd.refl [] _).drew)).trans N3.out, .slice (some ⟨g1, o1 + 1, none⟩) us.length (c1' - 1), (us ++ [Value.slice a n c]).eraseIdx 0, rfl, by rw [HCAME.out hov]; exact H3.out⟩
  · have t1 : decide ((m : Int) < (us.length : Int) + 1) = false := by simp; omega
    have t2 : decide (m < us.length + 1) = false := by simp; omega
    go_wp2_with fail
    go_region
    go_wp2_with fail
    go_end0
    exact ⟨rfl, [p, g1], N1.out.same ((Upd.refl [] _).drew), .slice (some ⟨g1, o1, none⟩) (us.length + 1) c1', us ++ [.slice a n c], rfl, by rw [HCAME2.out hov]; exact H1.out.same ((Upd.refl [] _).drew) (by simp) ownS_upd⟩
end
end Go.Proofs.Ytpoplipjombdbaa
/- The reference's Net: Lose, Copy. -/
namespace Go.Proofs.Ytpoplipjombdbaa
open Go.RowKit Go.Lb Go.Rc
section
variable {p m : Nat} {L : List Val} {X Y : List Nat} {w : World}
set_option maxRecDepth 20000 in
set_option maxHeartbeats 2000000 in
theorem slose_yes (k : Nat) (h : SNet w p m L X Y) (hk : k < L.length) (hl : L.length ≤ 100000) :
    Calls Try.prog 28 #[.pointer (some ⟨p, 0, none⟩), .int .i64 (k : Int)] w fun e w' => e = .returned (.bool true) ∧ ∃ X', NetTo w X w' X' ∧ SNet w' p m (L.eraseIdx k) X' Y := by
  obtain ⟨iS, hiS, hzS0, hzS1, hzS2⟩ := infoSl
  have HTT : Hid (Try.prog.underlying 31 = some (.slice (Try.prog.elem 31))) := Lib.hid <| by rw [Try.elem31]; exact Try.underlying31
  have HTH := Lib.hid h
  obtain ⟨v, us, rfl, h⟩ := h
  have hul := h.pks.len
  have ho0 : Win w 22 v us := h.own
  obtain ⟨g, o, c, rfl, hcc, hcm, hgl, hcel⟩ := ho0.isSome (by omega)
  have HCEL := Lib.hid hcel
  have H := Lib.hid h
  have HONE := Lib.hid h.pks.one
  have HKB : Hid (decide (0 ≤ (k : Int) ∧ (k : Int) < (L.length : Int)) = true) := Lib.hid (by simp; omega)
  have hku : k < us.length := by omega
  have hn2 : us.length ≤ 100000 := by omega
  have es0 : suba (some ⟨g, o, none⟩) 0 c = some ⟨g, o, none⟩ := by rw [suba, if_neg (by omega)]; rfl
  obtain ⟨ad, es1, had⟩ : ∃ ad : Addr, suba (some ⟨g, o, none⟩) (k + 1) c = some ad ∧ (k + 1 < us.length → ad = ⟨g, o + (k + 1), none⟩) := by
    by_cases hc : c = k + 1
    · exact ⟨⟨g, o, none⟩, by rw [suba, if_pos hc], fun h => by omega⟩
    · exact ⟨⟨g, o + (k + 1), none⟩, by rw [suba, if_neg hc]; simp [Addr.add], fun _ => rfl⟩
  have HAD := Lib.hid had
  have HS0 := Lib.hid es0
  have HS1 := Lib.hid es1
  have HPL := Lib.hid h.blk.lt
  clear h ho0 hul hcel es0 es1 had
  go_enter Try.func28, Try.ntmps28
  go_wp2_with fail
  refine (sthere_any HTH.out (k : Int) true HKB.out).mono ?_
  rintro e w1 ⟨rfl, u1⟩
  have H1 := Lib.hid (H.out.same u1 (by simp) ownS_upd)
  have c1 := H1.out.blk.cell (o := 1) rfl
  have c2 := H1.out.blk.lt
  have U1 := Lib.hid u1
  have HC1 : Hid (∀ w', Upd [] w1 w' → ∀ (i : Nat) (u : Value), us[i]? = some u → w'.cell? ⟨g, o + i, none⟩ = some u) := Lib.hid (fun w' u' i u hu => ((u1.trans u' (by simp)).cell (a := ⟨g, o + i, none⟩) hgl (by simp)).trans (HCEL.out i u hu))
  have hgl1 : g < w1.heap.size := Nat.lt_of_lt_of_le hgl u1.size
  clear u1
  have hnew1 : ∀ j u, (us.take k)[j]? = some u → w1.cell? ((⟨g, o, none⟩ : Addr).add j) = some u := fun j u hj => by
    rw [List.getElem?_take] at hj
    split at hj
    · rw [Addr.add_lit]; exact HC1.out w1 (Upd.refl _ _) j u hj
    · cases hj
  have HN1 := Lib.hid hnew1
  have HO1 : Hid (∀ u ∈ us.take k, u.oneCell' = true) := Lib.hid (fun u hu => HONE.out u (List.mem_of_mem_take hu))
  have HO2 : Hid (∀ u ∈ us.drop (k + 1), u.oneCell' = true) := Lib.hid (fun u hu => HONE.out u (List.mem_of_mem_drop hu))
  clear hnew1
  go_upto_region 5 with (first | (refine wpList_run (o := ⟨some 16, .slice 31 (.tmp 14) none (some (.tmp 15)) none, _, _, _, _⟩) rfl (exec_sliceAt (by rfl) (by rfl) (by rfl) (by rfl) (sub_h HTT.out Try.elem31 hiS hzS1 (up := k) rfl (by omega))) ?_; rw [HS0.out]) | (refine wpList_append_mine rfl (.tmp 10) (.tmp 16) 31 rfl w1.heap.size 22 iS _ 1 24 Try.underlying31 hiS hzS0 hzS1 hzS2 rfl (by decide) (.slice none 0 0) 0 [] rfl ⟨rfl, .inl ⟨rfl, rfl⟩⟩ ⟨g, o, none⟩ k c (us.take k) rfl (by rw [List.length_take]; omega) HN1.out HO1.out (by unfold maxLen; omega) (by omega) (Nat.le_refl _) ?_; intro v2 w2 ho2 hg2 hv2; rw [Nat.zero_add, List.nil_append] at ho2; obtain ⟨a2, c2', rfl⟩ := own_shape' ho2; have U2 : Hid (Upd [] w1 w2) := Lib.hid ((Upd.refl _ _).grown hg2 (fun k hk => by simp [Value.ownBlock] at hk)); have HW2 := Lib.hid ho2; have H2 := Lib.hid (H1.out.same U2.out (by simp) ownS_upd); have d1 := H2.out.blk.cell (o := 1) rfl; have d2 := H2.out.blk.lt; have HN2 : Hid (∀ j u, (us.drop (k + 1))[j]? = some u → w2.cell? (ad.add j) = some u) := Lib.hid (fun j u hj => by have hjl := (List.getElem?_eq_some_iff.1 hj).1; rw [List.length_drop] at hjl; rw [List.getElem?_drop] at hj; rw [HAD.out (by omega), Addr.add_lit, Nat.add_assoc]; exact HC1.out w2 U2.out _ u hj); clear ho2 hg2 hv2))
  go_wp2_with (first | (refine wpList_run (o := ⟨some 25, .slice 31 (.tmp 22) (some (.tmp 24)) none none, _, _, _, _⟩) rfl (exec_sliceAt (by rfl) (by rfl) (by rfl) (by rfl) (sub_l HTT.out Try.elem31 hiS hzS1 (lo := k + 1) (by omega) (by omega))) ?_; rw [HS1.out]) | (refine wpList_append_mine rfl (.tmp 18) (.tmp 25) 31 rfl w1.heap.size 22 iS _ 1 24 Try.underlying31 hiS hzS0 hzS1 hzS2 rfl (by decide) _ _ _ rfl HW2.out _ (us.length - (k + 1)) (c - (k + 1)) (us.drop (k + 1)) rfl (by rw [List.length_drop]; omega) HN2.out HO2.out (by unfold maxLen; omega) (by omega) U2.out.size ?_; intro v3 w3 ho3 hg3 hv3; rw [show k + (us.length - (k + 1)) = us.length - 1 by omega, ← List.eraseIdx_eq_take_drop_succ] at ho3; obtain ⟨a3, c3', rfl⟩ := own_shape' ho3; have U3 : Hid (Upd [] w1 w3) := Lib.hid (U2.out.grown hg3 (fun k hk => .inr (own_lo HW2.out hk).1)); obtain ⟨hb4, n4, h4⟩ := slose_put H1.out rfl U3.out (own_win ho3) (.inr (fun x hx => (own_lo ho3 hx).1)); have q1 := hb4.cell (o := 1) rfl; have q2 := hb4.frozen 1; have q3 := hb4.lt; have N4 := Lib.hid n4; have H4 := Lib.hid h4; clear ho3 hg3 hv3 hb4 n4 h4))
  refine bodyPost_ret (results_tmp rfl _ _ _) rfl ?_
  exact ⟨rfl, _, ((NetTo.refl _ _).same U1.out).trans N4.out, .slice a3 (us.length - 1) c3', us.eraseIdx k, rfl, H4.out⟩
set_option maxRecDepth 20000 in
set_option maxHeartbeats 2000000 in
theorem slose_no (k : Int) (h : SNet w p m L X Y) (hk : ¬ (0 ≤ k ∧ k < (L.length : Int))) :
    Calls Try.prog 28 #[.pointer (some ⟨p, 0, none⟩), .int .i64 k] w fun e w' => e = .returned (.bool false) ∧ Upd [] w w' := by
  have HTH := Lib.hid h
  have HKB : Hid (decide (0 ≤ k ∧ k < (L.length : Int)) = false) := Lib.hid (by simpa using hk)
  clear h hk
  go_enter Try.func28, Try.ntmps28
  go_wp2_with fail
  refine (sthere_any HTH.out k false HKB.out).mono ?_
  rintro e w1 ⟨rfl, u1⟩
  have U1 := Lib.hid u1
  clear u1
  go_wp2_with fail
  refine bodyPost_ret (results_tmp rfl _ _ _) rfl ?_
  exact ⟨rfl, U1.out⟩
set_option maxRecDepth 20000 in
set_option maxHeartbeats 2000000 in
theorem scopy_yes (k : Nat) (x : Val) (h : SNet w p m L X Y) (hx : L[k]? = some x) (hm : 1 ≤ m) (hm2 : m ≤ 256) (hl : L.length ≤ m) :
    Calls Try.prog 30 #[.pointer (some ⟨p, 0, none⟩), .int .i64 (k : Int)] w fun e w' => e = .returned (.bool true) ∧ ∃ X', NetTo w X w' X' ∧ SNet w' p m (came m L x) X' Y := by
  have HTH := Lib.hid h
  obtain ⟨v, us, rfl, h⟩ := h
  have hkl := (List.getElem?_eq_some_iff.1 hx).1
  have hul := h.pks.len
  have ho0 : Win w 22 v us := h.own
  obtain ⟨g, o, c, rfl, _, _, hgl, hcel0⟩ := ho0.isSome (by omega)
  have hus : us[k]? = some (us[k]'(by omega)) := List.getElem?_eq_getElem (by omega)
  have hpk := h.pks.at_ k _ x hus hx
  have hcel := hcel0 k _ hus
  generalize us[k]'(by omega) = pk at *
  obtain ⟨hgx, pa, pc, rfl, hp1, hp2, hp3⟩ := hpk
  have H := Lib.hid h
  have HKB : Hid (decide (0 ≤ (k : Int) ∧ (k : Int) < (L.length : Int)) = true) := Lib.hid (by simp; omega)
  have hku : k < us.length := by omega
  have HCL := Lib.hid hcel
  obtain ⟨pl, hpl⟩ : ∃ pl, pl = (sMsg.put x).length := ⟨_, rfl⟩
  rw [← hpl] at HCL
  have HPK : Hid (Pk w (fun b => b ∉ p :: (Value.slice (some ⟨g, o, none⟩) us.length c).ownBlock.toList ∧ b ∉ Y) (.slice pa pl pc) x) := Lib.hid ⟨hgx, pa, pc, by rw [hpl], hp1, hp2, hp3⟩
  clear h ho0 hul hp1 hp2 hp3 hgx hpl hcel hus hkl hx hcel0
  go_enter Try.func30, Try.ntmps30
  go_wp2_with fail
  refine (sthere_any HTH.out (k : Int) true HKB.out).mono ?_
  rintro e w1 ⟨rfl, u1⟩
  have H1 := Lib.hid (H.out.same u1 (by simp) ownS_upd)
  have c1 := H1.out.blk.cell (o := 1) rfl
  have c2 := H1.out.blk.lt
  have c3 : w1.cell? ⟨g, o + k, none⟩ = some (.slice pa pl pc) := (u1.cell (a := ⟨g, o + k, none⟩) hgl (by simp)).trans HCL.out
  have HPK1 := Lib.hid (HPK.out.keep (fun b hb hl => ⟨hb, u1.block b hl (by simp)⟩) u1.size)
  have U1 := Lib.hid u1
  clear u1
  go_wp2_with fail
  refine (scame_any (X := [p, g]) pa pl pc x ⟨_, _, rfl, H1.out⟩ HPK1.out hm hm2 hl).mono ?_
  rintro e w2 ⟨rfl, X2, n2, h2⟩
  have N2 := Lib.hid n2
  have H2 := Lib.hid h2
  clear n2 h2
  go_wp2_with fail
  refine bodyPost_ret (results_tmp rfl _ _ _) rfl ?_
  exact ⟨rfl, X2, ((NetTo.refl _ _).same U1.out).trans N2.out, H2.out⟩
set_option maxRecDepth 20000 in
set_option maxHeartbeats 2000000 in
theorem scopy_no (k : Int) (h : SNet w p m L X Y) (hk : ¬ (0 ≤ k ∧ k < (L.length : Int))) :
    Calls Try.prog 30 #[.pointer (some ⟨p, 0, none⟩), .int .i64 k] w fun e w' => e = .returned (.bool false) ∧ Upd [] w w' := by
  have HTH := Lib.hid h
  have HKB : Hid (decide (0 ≤ k ∧ k < (L.length : Int)) = false) := Lib.hid (by simpa using hk)
  clear h hk
  go_enter Try.func30, Try.ntmps30
  go_wp2_with fail
  refine (sthere_any HTH.out k false HKB.out).mono ?_
  rintro e w1 ⟨rfl, u1⟩
  have U1 := Lib.hid u1
  clear u1
  go_wp2_with fail
  refine bodyPost_ret (results_tmp rfl _ _ _) rfl ?_
  exact ⟨rfl, U1.out⟩
end
end Go.Proofs.Ytpoplipjombdbaa
