/- A part of the proof of CodecReadsSaid: the texts that it leans on, one behind the other. No condition but those that each theorem states. -/
import Derived.Test.YthclnpigplcckaaGreatCodecReadsSaidZc
import Derived.Lib.SlBytesConst
set_option linter.unusedVariables false
set_option linter.unusedSimpArgs false
/- codec's list[Alloc], writing. -/
namespace Go.Proofs.YthclnpigplcckaaGreat
open Go.RowKit Go.Lb Go.Rc

set_option maxRecDepth 20000 in
set_option maxHeartbeats 2000000 in
theorem listAlloc_writes : LWrites 79 80 sAlloc := by
  intro B X f p q tp pre cs post v o b w h hX hq hp hr hl
  obtain ⟨a, c, l, rfl, rfl, hall⟩ := hr
  have HA : Hid (Elems w (· < B) sAlloc 11 a l) := Lib.hid hall
  subst hq
  have H := Lib.hid h
  have HL := Lib.hid hl
  have HX := Lib.hid hX
  have HP := Lib.hid hp
  have hl1 : o.length + 6 ≤ 1099511627776 := by simp only [Sch.wmax] at hl; omega
  have c0 := hp.cell (o := pre.length) mid_at
  have hB := h.base
  clear h hX hall hl hp
  go_enter Tryz.func79, Tryz.ntmps79
  go_wp2_with fail
  refine (many_w B X f l.length 64 o b _ H.out hl1 (by decide)).mono ?_
  rintro e w1 ⟨r, o1, b1, rfl, h1, h2, h3⟩
  obtain ⟨m2, m3, m4, m5⟩ := fw_mark h1
  have p0 := (h2.blk HP.out (.inr HX.out)).cell (o := pre.length) mid_at
  have H1 := Lib.hid h1
  have H2 := Lib.hid h2
  have H3 : Hid (LWk sAlloc l.length [] o b o1 b1) := Lib.hid (LWk.start h3)
  clear h1 h2 h3
  go_wp2_with fail
  go_loopg [7, 8, 25] l.length (fun g u v t wr => ∃ (i : Nat) (o' : List Nat) (b' : Bool), t = .int .i64 i ∧ l.length - i = g ∧ i ≤ l.length ∧ Fw B X wr f o' b' ∧ Kp B X w wr ∧ LWk sAlloc l.length (l.take i) o b o' b')
  case atStart => exact ⟨0, o1, b1, rfl, rfl, by omega, H1.out, H2.out, H3.out⟩
  case round =>
    obtain ⟨i, o', b', rfl, hg, hi, hF, hK, hW⟩ := hrel
    have HG := Lib.hid hg
    have HF := Lib.hid hF
    have HK := Lib.hid hK
    have HW := Lib.hid hW
    obtain ⟨n2, n3, n4, n5⟩ := fw_mark hF
    have r0 := (hK.blk HP.out (.inr HX.out)).cell (o := pre.length) mid_at
    clear hg hF hK hW m2 m3 m4 m5 p0
    by_cases hlt : i < l.length
    · have t1 : decide (i < l.length) = true := by simpa using hlt
      cases b' with
      | true =>
        have HE := Lib.hid HW.out.early
        go_wp2_with fail
        go_end0
        exact ⟨rfl, o', true, HF.out, HK.out, HE.out⟩
      | false =>
      obtain ⟨x, hx⟩ : ∃ x, l[i]? = some x := ⟨_, List.getElem?_eq_getElem hlt⟩
      obtain ⟨b0, o0, us, rfl, hb0, hbl, hrg, hrep⟩ := HA.out i x hx
      have hrep := hrep.keep (ok' := (· < B)) (fun k hk hl => ⟨hk, HK.out.block k hl (.inl hk)⟩) HK.out.size
      have hrg : wr.rangeAt b0 (o0 + i * 11) us := rangeAt_keep hrg (HK.out.block b0 hbl (.inl hb0))
      have hwl := HW.out.room hx HL.out
      have HWL := Lib.hid hwl
      have h64 : l.length ≤ 64 := (HW.out.bad.1 rfl).2.1
      have Hx := Lib.hid hx
      have hus : us.length = 11 := hrep.len
      have HONE : Hid (∀ u ∈ us, u.oneCell' = true) := Lib.hid hrep.one
      clear hx hwl
      have HREP := Lib.hid hrep
      have HRG := Lib.hid hrg
      clear hrep hrg
      go_wp2_with (first | (refine wpList_load_mid rfl 162 (.tmp 36) rfl b0 (o0 + i * 11) rfl us _ HRG.out Tryz.underlying162 rfl (by rw [hus]; exact Tryz.size162) ?_) | (refine wpList_alloc_blk rfl 162 rfl sAlloc.zc (zero162 _) ?_; intro wA hbA huA) | (refine wpList_store_blk (o := ⟨none, .store 162 (.tmp 8) (.tmp 37), _, _, _, _⟩) rfl 162 (.tmp 8) (.tmp 37) rfl wr.heap.size us rfl rfl hbA (by rw [hus]; exact Tryz.size162) (by rw [hus]; rfl) HONE.out ?_; intro wB hb huB))
      have hu : Upd [] wr wB := huA.trans huB (by simp)
      clear huA hbA huB
      refine (alloc_writes B (wr.heap.size :: X) f wr.heap.size 0 162 [] us [] x o' false wB (HF.out.new hu (Nat.le_refl _) hb.lt) (by simp) rfl (by simpa using hb) (HREP.out.upd hu (by simp)) HWL.out).mono ?_
      rintro e w2 ⟨rfl, o2, b2, h1, h2, h3⟩
      have H1 := Lib.hid h1.less
      have H2 := Lib.hid ((Kp.of_nil hu).trans h2.drop)
      have H3 := Lib.hid (HW.out.snoc h3)
      clear h1 h2 h3
      go_wp2_with fail
      go_roundg (l.length - (i + 1))
      case measure => have := HG.out; omega
      case rel => exact ⟨i + 1, o2, b2, by go_num, rfl, by omega, H1.out, HK.out.trans H2.out, by rw [take_snoc Hx.out]; exact H3.out⟩
    · obtain rfl : i = l.length := by omega
      go_wp2_with fail
      go_end0
      refine ⟨rfl, o', b', HF.out, HK.out, LWk.fin ?_⟩
      have := HW.out
      rwa [List.take_length] at this
end Go.Proofs.YthclnpigplcckaaGreat
/- codec's form.plan, writing. -/
namespace Go.Proofs.YthclnpigplcckaaGreat
open Go.RowKit Go.Lb Go.Rc

set_option maxRecDepth 20000 in
set_option maxHeartbeats 2000000 in
theorem plan_writes : Writes 54 sPlan := by
  intro B X f p q tp pre cs post v o b w h hX hq hp hr hl
  have k0 : (tup [.num, .num, .num, .list .num, .list sAlloc, .flag]).Rep w (· < B) cs v := hr
  obtain ⟨_, _, v0, y0, _, rfl, ⟨n0, _, rfl⟩, k1⟩ := Sch.Rep.tup_cons k0
  obtain ⟨_, _, v1, y1, _, rfl, ⟨n1, _, rfl⟩, k2⟩ := Sch.Rep.tup_cons k1
  obtain ⟨_, _, v2, y2, _, rfl, ⟨n2, _, rfl⟩, k3⟩ := Sch.Rep.tup_cons k2
  obtain ⟨_, _, v3, y3, _, rfl, _, k4⟩ := Sch.Rep.tup_cons k3
  obtain ⟨_, _, v4, y4, _, rfl, _, k5⟩ := Sch.Rep.tup_cons k4
  obtain ⟨_, _, v5, y5, _, rfl, _, k6⟩ := Sch.Rep.tup_cons k5
  obtain ⟨_, rfl⟩ := Sch.Rep.tup_nil k6
  subst hq
  have H0 := Lib.hid (WrSt.start (rest := ([(.num, .num n0), (.num, .num n1), (.num, .num n2), (.list .num, v3), (.list sAlloc, v4), (.flag, v5)] : List (Sch × Val))) h hX hp hr (by have := tup_wmax ([(.num, .num n0), (.num, .num n1), (.num, .num n2), (.list .num, v3), (.list sAlloc, v4), (.flag, v5)] : List (Sch × Val)); rw [← this]; exact hl))
  clear h hX hp hr hl k0 k1 k2 k3 k4 k5 k6
  go_enter Tryz.func54, Tryz.ntmps54
  go_wp2_with fail
  refine wp_region_lex (fun _ => True) 99 [(0, true), (1, true), (2, true), (3, true), (4, true), (5, true), (6, true), (7, true), (8, true), (9, true), (10, false), (11, false)] (by kernel_rfl) (by kernel_rfl) (by kernel_rfl) (by kernel_rfl) (fun _ _ d _ _ h => by cases d <;> exact h) ?_
  simp only [lexOps, List.map_cons, List.map_nil, List.getD_cons_zero, List.getD_cons_succ]
  iterate 10 (refine lex_read rfl trivial (v := ?_) (fun w' _ => ?_) ?_; rotate_left; (focus (go_simp; try with_reducible rfl)); simp only [Act.put, List.setIfInBounds_toArray, List.set_cons_zero, List.set_cons_succ])
  refine lex_do rfl (fun K hK => ?_)
  go_simp
  refine hK _ _ (fun _ => trivial) ?_
  clear hK K
  refine lex_do rfl (fun K hK => ?_)
  go_simp
  refine (CWr.goNums (ns := [n0, n1, n2]) (rest := [(.list .num, v3), (.list sAlloc, v4), (.flag, v5)]) (k := 3) H0.out rfl ((Upd.refl _ _).alloc _).drew (Nat.le_refl _) (Blk.drew (Blk.new _ _ [_, _, _])) rfl).mono ?_
  rintro e w1 ⟨rfl, o1, b1, h⟩
  have H1 := Lib.hid h
  refine hK _ _ (fun _ => trivial) ?_
  clear hK K h
  refine lex_nil ?_
  go_wp2_with fail
  refine (CWr.goList listint_writes H1.out rfl).mono ?_
  rintro e w2 ⟨rfl, o2, b2, h⟩
  have H2 := Lib.hid h
  clear h
  go_wp2_with fail
  refine (CWr.goList listAlloc_writes H2.out rfl).mono ?_
  rintro e w3 ⟨rfl, o3, b3, h⟩
  have H3 := Lib.hid h
  clear h
  go_wp2_with fail
  refine (CWr.go flag_writes H3.out rfl).mono ?_
  rintro e w4 ⟨rfl, o4, b4, h⟩
  have H4 := Lib.hid h
  clear h
  go_wp2_with fail
  go_end0
  exact CWr.fin H4.out rfl rfl
end Go.Proofs.YthclnpigplcckaaGreat
/- codec's form.conf, writing. -/
namespace Go.Proofs.YthclnpigplcckaaGreat
open Go.RowKit Go.Lb Go.Rc

set_option maxRecDepth 20000 in
set_option maxHeartbeats 2000000 in
theorem conf_writes : Writes 55 sConf := by
  intro B X f p q tp pre cs post v o b w h hX hq hp hr hl
  have k0 : (tup [.list .num, .list .num]).Rep w (· < B) cs v := hr
  obtain ⟨_, _, v0, y0, _, rfl, _, k1⟩ := Sch.Rep.tup_cons k0
  obtain ⟨_, _, v1, y1, _, rfl, _, k2⟩ := Sch.Rep.tup_cons k1
  obtain ⟨_, rfl⟩ := Sch.Rep.tup_nil k2
  subst hq
  have H0 := Lib.hid (WrSt.start (rest := ([(.list .num, v0), (.list .num, v1)] : List (Sch × Val))) h hX hp hr (by have := tup_wmax ([(.list .num, v0), (.list .num, v1)] : List (Sch × Val)); rw [← this]; exact hl))
  clear h hX hp hr hl k0 k1 k2
  go_enter Tryz.func55, Tryz.ntmps55
  go_wp2_with fail
  refine (CWr.goList listint_writes H0.out rfl).mono ?_
  rintro e w1 ⟨rfl, o1, b1, h⟩
  have H1 := Lib.hid h
  clear h
  go_wp2_with fail
  refine (CWr.goList listint_writes H1.out rfl).mono ?_
  rintro e w2 ⟨rfl, o2, b2, h⟩
  have H2 := Lib.hid h
  clear h
  go_wp2_with fail
  go_end0
  exact CWr.fin H2.out rfl rfl
end Go.Proofs.YthclnpigplcckaaGreat
/- codec's form.cmd, writing. -/
namespace Go.Proofs.YthclnpigplcckaaGreat
open Go.RowKit Go.Lb Go.Rc

set_option maxRecDepth 20000 in
set_option maxHeartbeats 2000000 in
theorem cmd_writes : Writes 22 sCmd := by
  intro B X f p q tp pre cs post v o b w h hX hq hp hr hl
  have k0 : (tup [.num, .num, .num, sJob, sNode, .list sReport, sPlan, sConf]).Rep w (· < B) cs v := hr
  obtain ⟨_, _, v0, y0, _, rfl, ⟨n0, _, rfl⟩, k1⟩ := Sch.Rep.tup_cons k0
  obtain ⟨_, _, v1, y1, _, rfl, ⟨n1, _, rfl⟩, k2⟩ := Sch.Rep.tup_cons k1
  obtain ⟨_, _, v2, y2, _, rfl, ⟨n2, _, rfl⟩, k3⟩ := Sch.Rep.tup_cons k2
  obtain ⟨_, _, v3, y3, _, rfl, _, k4⟩ := Sch.Rep.tup_cons k3
  obtain ⟨_, _, v4, y4, _, rfl, _, k5⟩ := Sch.Rep.tup_cons k4
  obtain ⟨_, _, v5, y5, _, rfl, _, k6⟩ := Sch.Rep.tup_cons k5
  obtain ⟨_, _, v6, y6, _, rfl, _, k7⟩ := Sch.Rep.tup_cons k6
  obtain ⟨_, _, v7, y7, _, rfl, _, k8⟩ := Sch.Rep.tup_cons k7
  obtain ⟨_, rfl⟩ := Sch.Rep.tup_nil k8
  subst hq
  have H0 := Lib.hid (WrSt.start (rest := ([(.num, .num n0), (.num, .num n1), (.num, .num n2), (sJob, v3), (sNode, v4), (.list sReport, v5), (sPlan, v6), (sConf, v7)] : List (Sch × Val))) h hX hp hr (by have := tup_wmax ([(.num, .num n0), (.num, .num n1), (.num, .num n2), (sJob, v3), (sNode, v4), (.list sReport, v5), (sPlan, v6), (sConf, v7)] : List (Sch × Val)); rw [← this]; exact hl))
  clear h hX hp hr hl k0 k1 k2 k3 k4 k5 k6 k7 k8
  go_enter Tryz.func22, Tryz.ntmps22
  go_wp2_with fail
  refine wp_region_lex (fun _ => True) 99 [(0, true), (1, true), (2, true), (3, true), (4, true), (5, true), (6, true), (7, true), (8, true), (9, true), (10, false), (11, false)] (by kernel_rfl) (by kernel_rfl) (by kernel_rfl) (by kernel_rfl) (fun _ _ d _ _ h => by cases d <;> exact h) ?_
  simp only [lexOps, List.map_cons, List.map_nil, List.getD_cons_zero, List.getD_cons_succ]
  iterate 10 (refine lex_read rfl trivial (v := ?_) (fun w' _ => ?_) ?_; rotate_left; (focus (go_simp; try with_reducible rfl)); simp only [Act.put, List.setIfInBounds_toArray, List.set_cons_zero, List.set_cons_succ])
  refine lex_do rfl (fun K hK => ?_)
  go_simp
  refine hK _ _ (fun _ => trivial) ?_
  clear hK K
  refine lex_do rfl (fun K hK => ?_)
  go_simp
  refine (CWr.goNums (ns := [n0, n1, n2]) (rest := [(sJob, v3), (sNode, v4), (.list sReport, v5), (sPlan, v6), (sConf, v7)]) (k := 3) H0.out rfl ((Upd.refl _ _).alloc _).drew (Nat.le_refl _) (Blk.drew (Blk.new _ _ [_, _, _])) rfl).mono ?_
  rintro e w1 ⟨rfl, o1, b1, h⟩
  have H1 := Lib.hid h
  refine hK _ _ (fun _ => trivial) ?_
  clear hK K h
  refine lex_nil ?_
  go_wp2_with fail
  refine (CWr.go job_writes H1.out rfl).mono ?_
  rintro e w2 ⟨rfl, o2, b2, h⟩
  have H2 := Lib.hid h
  clear h
  go_wp2_with fail
  refine (CWr.go node_writes H2.out rfl).mono ?_
  rintro e w3 ⟨rfl, o3, b3, h⟩
  have H3 := Lib.hid h
  clear h
  go_wp2_with fail
  refine (CWr.goList listReport_writes H3.out rfl).mono ?_
  rintro e w4 ⟨rfl, o4, b4, h⟩
  have H4 := Lib.hid h
  clear h
  go_wp2_with fail
  refine (CWr.go plan_writes H4.out rfl).mono ?_
  rintro e w5 ⟨rfl, o5, b5, h⟩
  have H5 := Lib.hid h
  clear h
  go_wp2_with fail
  refine (CWr.go conf_writes H5.out rfl).mono ?_
  rintro e w6 ⟨rfl, o6, b6, h⟩
  have H6 := Lib.hid h
  clear h
  go_wp2_with fail
  go_end0
  exact CWr.fin H6.out rfl rfl
end Go.Proofs.YthclnpigplcckaaGreat
/- codec's put[Cmd] and PutCmd. -/
namespace Go.Proofs.YthclnpigplcckaaGreat
open Go.RowKit Go.Lb Go.Rc

set_option maxRecDepth 20000 in
set_option maxHeartbeats 2000000 in
theorem putCmd_any (cs : List Value) (v : Val) (w : World) (hr : Sch.Rep w (· < w.heap.size) sCmd cs v) (hl : sCmd.wmax v ≤ 1099511627776) :
    Calls Tryz.prog 26 #[.agg cs.toArray, .func (.func 22) #[] #[]] w (PutIs sCmd v w) := by
  have hlen : cs.length = 27 := hr.len
  have HR := Lib.hid hr
  have HL := Lib.hid hl
  clear hr hl
  go_enter Tryz.func26, Tryz.ntmps26
  go_wp2_with fail
  have uW : Upd [] w ((w.alloc (.cells cs.toArray 38)).alloc (.cells #[.slice none 0 0, .bool false, .bool false] 108)) := ((Upd.refl _ _).alloc _).alloc _
  refine (cmd_writes w.heap.size [w.heap.size] (w.heap.size + 1) w.heap.size 0 38 [] cs [] v [] false _ (fresh_out (mk := cW) rfl) (by simp) rfl (by simpa using (Blk.new w 38 cs).alloc _) (HR.out.upd uW (by simp)) (by simpa using HL.out)).mono ?_
  rintro e w1 ⟨rfl, o, b, h1, h2, h3⟩
  obtain ⟨m2, m3, m4, m5⟩ := fw_mark h1
  cases b with
  | true =>
    have HF := Lib.hid (putIs_bad h2 uW h3)
    clear h1 h2 h3 uW
    go_wp2_with fail
    go_ret2
    exact HF.out
  | false =>
    obtain ⟨a, c, e0, hF⟩ := putIs_good h1 h2 uW h3
    have e1 : w1.cell? ⟨w.heap.size + 1, 0, none⟩ = some (.slice a (sCmd.put v).length c) := e0
    have HF := Lib.hid hF
    clear h1 h2 h3 uW e0 hF
    go_wp2_with fail
    go_ret2
    exact HF.out

set_option maxRecDepth 20000 in
set_option maxHeartbeats 2000000 in
theorem putCmd_puts : Puts 6 sCmd := by
  intro cs v w hr hl
  have hlen : cs.length = 27 := hr.len
  have uW : Upd [] w (w.alloc (.cells cs.toArray 38)) := (Upd.refl _ _).alloc _
  have HR := Lib.hid hr
  have HL := Lib.hid hl
  have hb := Blk.new w 38 cs
  have HB := Lib.hid hb
  clear hr hl hb
  go_enter Tryz.func6, Tryz.ntmps6
  go_wp2_with (refine wpList_load_blk rfl 38 (.tmp 1) rfl w.heap.size rfl HB.out Tryz.underlying38 rfl (by rw [hlen]; exact Tryz.size38) ?_)
  refine (putCmd_any cs v _ ((HR.out.upd uW (by simp)).mono (fun b hb hl => hl)) HL.out).mono ?_
  rintro e w1 ⟨u1, ⟨hg, a, c, rfl, hown⟩ | ⟨hg, rfl⟩⟩
  · have HF : Hid (PutIs sCmd v w (.returned (.tuple #[.slice a (sCmd.put v).length c, .int .i64 0])) w1) := Lib.hid ⟨uW.trans u1 (by simp), .inl ⟨hg, a, c, rfl, own_rebase hown (fun k hk => by have := own_lo hown hk; have := uW.size; omega)⟩⟩
    clear u1 hg hown uW
    go_wp2_with fail
    go_ret2
    exact HF.out
  · have HF : Hid (PutIs sCmd v w (.returned (.tuple #[.slice none 0 0, .int .i64 1])) w1) := Lib.hid ⟨uW.trans u1 (by simp), .inr ⟨hg, rfl⟩⟩
    clear u1 hg uW
    go_wp2_with fail
    go_ret2
    exact HF.out
end Go.Proofs.YthclnpigplcckaaGreat
/- codec's form.res, reading. -/
namespace Go.Proofs.YthclnpigplcckaaGreat
open Go.RowKit Go.Lb Go.Rc

set_option maxRecDepth 20000 in
set_option maxHeartbeats 2000000 in
theorem res_reads : Reads 93 sRes := by
  intro B f p q tp pre post l b w h hB hpf hq hp
  subst hq
  have H0 := Lib.hid (RdSt.start (rest := [.num, .num]) h hB hpf hp (fr_mark h).2.2.2.1)
  clear h hp
  go_enter Tryz.func93, Tryz.ntmps93
  refine wp_region_lex (fun _ => True) 99 [(0, true), (1, true), (2, true), (3, true), (4, true), (5, true), (6, true), (7, false), (8, false)] (by kernel_rfl) (by kernel_rfl) (by kernel_rfl) (by kernel_rfl) (fun _ _ d _ _ h => by cases d <;> exact h) ?_
  simp only [lexOps, List.map_cons, List.map_nil, List.getD_cons_zero, List.getD_cons_succ]
  iterate 7 (refine lex_read rfl trivial (v := ?_) (fun w' _ => ?_) ?_; rotate_left; (focus (go_simp; try with_reducible rfl)); simp only [Act.put, List.setIfInBounds_toArray, List.set_cons_zero, List.set_cons_succ])
  refine lex_do rfl (fun K hK => ?_)
  go_simp
  refine hK _ _ (fun _ => trivial) ?_
  clear hK K
  refine lex_do rfl (fun K hK => ?_)
  go_simp
  refine (CRd.goNums (rest := []) (k := 2) H0.out ((Upd.refl _ _).alloc _).drew (Nat.le_refl _) (Blk.drew (Blk.new _ _ [_, _])) (by simp only [fsize_append, fsize_nums, fsize, List.nil_append] <;> rfl) (by decide)).mono ?_
  rintro e w1 ⟨rfl, ns1, l1, b1, hn, h⟩
  have H1 := Lib.hid h
  have HN1 := Lib.hid hn
  clear hn
  refine hK _ _ (fun _ => trivial) ?_
  clear hK K h
  refine lex_nil ?_
  go_wp2_with fail
  go_end0
  exact CRd.fin H1.out (by simp only [List.map_append, nums_fst, HN1.out, List.append_assoc, List.map_cons, List.map_nil, List.nil_append]; rfl)
end Go.Proofs.YthclnpigplcckaaGreat
/- codec's form.group, reading. -/
namespace Go.Proofs.YthclnpigplcckaaGreat
open Go.RowKit Go.Lb Go.Rc

set_option maxRecDepth 20000 in
set_option maxHeartbeats 2000000 in
theorem group_reads : Reads 92 sGroup := by
  intro B f p q tp pre post l b w h hB hpf hq hp
  subst hq
  have H0 := Lib.hid (RdSt.start (rest := [.num, sRes]) h hB hpf hp (fr_mark h).2.2.2.1)
  clear h hp
  go_enter Tryz.func92, Tryz.ntmps92
  go_wp2_with fail
  refine (CRd.go num_reads H0.out (by simp only [fsize_append, fsize_nums, fsize, List.nil_append] <;> rfl)).mono ?_
  rintro e w1 ⟨rfl, v1, l1, b1, h⟩
  have H1 := Lib.hid h
  clear h
  go_wp2_with fail
  refine (CRd.go res_reads H1.out (by simp only [fsize_append, fsize_nums, fsize, List.nil_append] <;> rfl)).mono ?_
  rintro e w2 ⟨rfl, v2, l2, b2, h⟩
  have H2 := Lib.hid h
  clear h
  go_wp2_with fail
  go_end0
  exact CRd.fin H2.out (by simp only [List.map_append, nums_fst, List.append_assoc, List.map_cons, List.map_nil, List.nil_append]; rfl)
end Go.Proofs.YthclnpigplcckaaGreat
/- codec's list[Group], reading. -/
namespace Go.Proofs.YthclnpigplcckaaGreat
open Go.RowKit Go.Lb Go.Rc

set_option maxRecDepth 20000 in
set_option maxHeartbeats 2000000 in
theorem listGroup_reads : LReads 91 92 sGroup := by
  intro B f p q tp pre post l b w h hB hpf hq hp
  obtain ⟨iT, hiT, hz0, hz1, hz2⟩ := info187
  subst hq
  have c0 := hp.cell (o := pre.length) mid_at
  obtain ⟨_, _, _, hf, hBf⟩ := fr_mark h
  have hplt := hp.lt
  have H := Lib.hid h
  have HP := Lib.hid hp
  clear h hp
  go_enter Tryz.func91, Tryz.ntmps91
  go_wp2_with fail
  refine (many_r B f 64 _ l b _ H.out).mono ?_
  rintro e w1 ⟨k, l1, b1, rfl, hk, h1, h2, h3⟩
  obtain ⟨m2, m3, m4, m5, _⟩ := fr_mark h1
  have HB1 := Lib.hid (h2.blk HP.out (by simpa using hpf))
  have HS : Hid (LRdSt sGroup 108 cR [f, p] B f 187 3 w w1 k l b 0 l1 b1 (.slice none 0 0) [] []) := Lib.hid (LRdSt.start h1 (h2.mono (by simp)) (by simp; omega) h3)
  clear h1 h2 h3 H
  go_wp2_with fail
  go_loopg [9, 42] k (fun g u t wr => ∃ (i : Nat) (l' : List Nat) (b' : Bool) (v : Value) (xss : List (List Value)) (xs : List Val), t = .int .i64 i ∧ k - i = g ∧ i ≤ k ∧ Blk wr p tp (pre ++ [v] ++ post) ∧ LRdSt sGroup 108 cR [f, p] B f 187 3 w wr k l b i l' b' v xss xs)
  case atStart => exact ⟨0, l1, b1, _, [], [], rfl, rfl, by omega, HB1.out, HS.out⟩
  case round =>
    obtain ⟨i, l', b', v, xss, xs, rfl, hg, hi, hbk, hS⟩ := hrel
    have HG := Lib.hid hg
    have HBK := Lib.hid hbk
    have HST := Lib.hid hS
    obtain ⟨n2, n3, n4, n5, _⟩ := fr_mark hS.fr
    have hsz := hS.upd.size
    clear hg hbk hS m2 m3 m4 m5
    by_cases hlt : i < k
    · have t1 : decide (i < k) = true := by simpa using hlt
      cases b' with
      | true =>
        have HE := Lib.hid (HST.out.rd (.inl rfl))
        go_wp2_with fail
        go_end0
        exact ⟨rfl, .list xs, [v], l', true, HST.out.fr, HST.out.upd, HBK.out, HST.out.isRep, HE.out⟩
      | false =>
      go_wp2_with (refine wpList_alloc_blk rfl 187 rfl sGroup.zc (zero187 _) ?_; intro wB hb hu)
      have hN := HST.out.upd' hu
      refine (group_reads B f wr.heap.size 0 187 [] [] l' false wB hN.fr (by omega) (by omega) rfl (by simpa [Sch.zc] using hb)).mono ?_
      rintro e w2 ⟨rfl, x, us, l2, b2, h1, h2, h3, h4, h5⟩
      have hus : us.length = 3 := h4.len
      have hb2 : Blk w2 wr.heap.size 187 us := by simpa using h3
      have hU : Upd [f, p] wr w2 := (hu.mono (by simp)).trans h2 (by
        intro y hy
        simp only [List.mem_cons, List.not_mem_nil, or_false] at hy
        rcases hy with rfl | rfl
        · simp
        · exact .inr (Nat.le_refl _))
      have h4' : Sch.Rep w2 (Nw wr.heap.size w2) sGroup us x := h4.mono (fun b hb _ => hb.go hu.size rfl)
      have hbp : Blk w2 p tp (pre ++ [v] ++ post) := by
        refine h2.blk (hu.blk HBK.out (by simp)) ?_
        simp; omega
      have hrow2 := (hN.row)
      have hrw : w2.ownsRow w.heap.size 187 3 v i xss.flatten := h2.row (hu.row HST.out.row (by simp)) (by
        intro y hy
        have := own_lo HST.out.row hy
        simp; omega)
      have hsz2 := hU.size
      have hl2 := hb2.lt
      obtain ⟨a, c, rfl⟩ := own_shape' hrw
      have HO := Lib.hid h4.one
      have HR : Hid (∀ w', Upd (Value.slice a i c).ownBlock.toList w2 w' → w'.cell? ⟨p, pre.length, none⟩ = some (.slice a i c) ∧ Blk w' wr.heap.size 187 us) := Lib.hid (by
        intro w' u
        refine ⟨(u.blk hbp ?_).cell mid_at, u.blk hb2 ?_⟩
        · intro hm
          have := own_lo HST.out.row (g := p) (by simpa using hm)
          omega
        · intro hm
          have := own_lo HST.out.row (g := wr.heap.size) (by simpa using hm)
          omega)
      have HST2 := HST
      have HU := Lib.hid hU
      have H4 := Lib.hid h4'
      have H5 := Lib.hid h5
      have H1 := Lib.hid h1
      have HRW := Lib.hid hrw
      have HBP := Lib.hid hbp
      have HUS := Lib.hid hus
      clear h1 h2 h3 h4 h5 hN hb hu hbp hrow2 hrw hU h4' hus
      go_wp2_with fail
      refine wp_region_lex (fun w' => Upd (Value.slice a i c).ownBlock.toList w2 w') 8 [(0, true), (1, true), (2, true), (3, true), (4, true), (5, false), (6, false), (7, false), (8, false)] (by kernel_rfl) (by kernel_rfl) (by kernel_rfl) (by kernel_rfl) (fun _ _ d _ _ h => by cases d <;> exact h) ?_
      simp only [lexOps, List.map_cons, List.map_nil, List.getD_cons_zero, List.getD_cons_succ]
      have hS0 : Upd (Value.slice a i c).ownBlock.toList w2 w2.drew := (Upd.refl _ _).drew
      iterate 4 (refine lex_read rfl (by exact hS0) (v := ?_) (fun w' hw => ?_) ?_; rotate_left; (focus (obtain ⟨k1, k2⟩ := HR.out w' hw; clear k2; go_simp; try with_reducible rfl)); simp only [Act.put, List.setIfInBounds_toArray, List.set_cons_zero, List.set_cons_succ])
      refine lex_read rfl (by exact hS0) (fun w' hw => exec_load (by rfl) (by rfl) (run_loadAt_mid w' wr.heap.size 0 187 us _ (HR.out w' hw).2.range Tryz.underlying187 rfl (by rw [HUS.out]; exact Tryz.size187))) ?_
      try simp only [Act.put, List.setIfInBounds_toArray, List.set_cons_zero, List.set_cons_succ]
      refine lex_run rfl (exec_buildSlice (by rfl) (by simp [Act.eval]) (run_buildSlice1 _ 23 187 iT _ us 3 Tryz.underlying23 hiT hz0 hz1 HUS.out (by decide) (by decide))) (fun _ => hS0.alloc _) ?_
      try simp only [Act.put, List.setIfInBounds_toArray, List.set_cons_zero, List.set_cons_succ]
      have h64 : k ≤ 64 := hk
      have hB2 : Blk (w2.drew.alloc (.cells us.toArray 187)) w2.heap.size 187 us := Blk.new w2.drew _ _
      refine lex_do rfl (fun K hK => ?_)
      refine wp_append_mine (.tmp 53) (.tmp 55) 23 rfl w.heap.size 187 iT _ 3 _ Tryz.underlying23 hiT hz0 hz1 hz2 rfl (by decide) (.slice a i c) i xss.flatten rfl (World.ownsRow.alloc HRW.out _) ⟨w2.heap.size, 0, none⟩ 1 1 us rfl (by rw [HUS.out]) hB2.news (HO.out) (by unfold maxLen; omega) (by omega) (by have := HST.out.upd.size; simp; omega) ?_
      intro v' w3 hown hg hv
      have uA : Upd [f, p] wr (w2.drew.alloc (.cells us.toArray 187)) := (HU.out.drew).alloc _
      have hF : Fr B w3 f l2 b2 := by
        obtain ⟨a', c', hI⟩ := H1.out
        have hI2 : In 108 cR B (w2.drew.alloc (.cells us.toArray 187)) f l2 b2 a' c' := hI.upd (F := []) ((Upd.refl [] w2).drew.alloc _) (by simp)
        refine ⟨a', c', hI2.upd (F := (Value.slice a i c).ownBlock.toList) ((Upd.refl _ _).grown hg (fun k hk => .inl (by simp [hk]))) (fun k hk => ?_)⟩
        have := own_lo HST.out.row (g := k) (by simpa using hk)
        omega
      have hbp3 : Blk w3 p tp (pre ++ [.slice a i c] ++ post) := by
        have hb4 : Blk (w2.drew.alloc (.cells us.toArray 187)) p tp (pre ++ [.slice a i c] ++ post) := (HBP.out.drew).alloc _
        refine (hg.block p hb4.lt (fun e => ?_)).trans hb4
        have := own_lo HST.out.row (g := p) e.symm
        omega
      have q1 := hbp3.cell (o := pre.length) mid_at
      have q2 := hbp3.frozen pre.length
      have q3 := hbp3.lt
      have uS : Upd [p] w3 (w3.setCell ⟨p, pre.length, none⟩ v') := (Upd.refl _ _).setCell (by simp) _
      have HX : Hid (Blk (w3.setCell ⟨p, pre.length, none⟩ v') p tp (pre ++ [v'] ++ post) ∧ LRdSt sGroup 108 cR [f, p] B f 187 3 w (w3.setCell ⟨p, pre.length, none⟩ v') k l b (i + 1) l2 b2 v' (xss ++ [us]) (xs ++ [x])) := by
        refine Lib.hid ⟨?_, LRdSt.next HST.out hlt uA (H4.out.updN ((Upd.refl [] w2).drew.alloc _) (by simp)) HUS.out H5.out hg hown ?_ (uS.mono (by simp)) (hF.upd uS (by simp; omega))⟩
        · have := hbp3.set pre.length v'
          rwa [mid_set] at this
        · rcases hv with h | h
          · exact .inl h
          · exact .inr h
      have hS3 : Upd (Value.slice a i c).ownBlock.toList w2 w3 := (hS0.alloc _).grown hg (fun k hk => .inl (by simp [hk]))
      refine hK _ _ (fun _ => hS3) ?_
      obtain ⟨a', c', rfl⟩ := own_shape' hown
      clear hK K hown hg hv uA hF hbp3 uS hB2 hS0
      try simp only [Act.put, List.setIfInBounds_toArray, List.set_cons_zero, List.set_cons_succ]
      refine lex_do rfl (fun K hK => ?_)
      go_simp
      refine hK _ _ (fun _ => hS3) ?_
      clear hK K hS3
      try simp only [Act.put, List.setIfInBounds_toArray, List.set_cons_zero, List.set_cons_succ]
      refine lex_do rfl (fun K hK => ?_)
      go_simp
      refine hK _ _ (fun h => absurd rfl h) ?_
      clear hK K
      try simp only [Act.put, List.setIfInBounds_toArray, List.set_cons_zero, List.set_cons_succ]
      refine lex_nil ?_
      go_wp2_with fail
      go_roundg (k - (i + 1))
      case measure => have := HG.out; omega
      case rel => exact ⟨i + 1, l2, b2, _, _, _, by go_num, rfl, by omega, HX.out.1, HX.out.2⟩
    · obtain rfl : i = k := by omega
      have HE := Lib.hid (HST.out.rd (.inr rfl))
      go_wp2_with fail
      go_end0
      exact ⟨rfl, .list xs, [v], l', b', HST.out.fr, HST.out.upd, HBK.out, HST.out.isRep, HE.out⟩
end Go.Proofs.YthclnpigplcckaaGreat
/- codec's form.job, reading. -/
namespace Go.Proofs.YthclnpigplcckaaGreat
open Go.RowKit Go.Lb Go.Rc

set_option maxRecDepth 20000 in
set_option maxHeartbeats 2000000 in
theorem job_reads : Reads 50 sJob := by
  intro B f p q tp pre post l b w h hB hpf hq hp
  subst hq
  have H0 := Lib.hid (RdSt.start (rest := [.num, .num, .num, .num, .list sGroup, .num, .flag]) h hB hpf hp (fr_mark h).2.2.2.1)
  clear h hp
  go_enter Tryz.func50, Tryz.ntmps50
  go_wp2_with fail
  refine wp_region_lex (fun _ => True) 99 [(0, true), (1, true), (2, true), (3, true), (4, true), (5, true), (6, true), (7, true), (8, true), (9, true), (10, true), (11, true), (12, true), (13, false), (14, false)] (by kernel_rfl) (by kernel_rfl) (by kernel_rfl) (by kernel_rfl) (fun _ _ d _ _ h => by cases d <;> exact h) ?_
  simp only [lexOps, List.map_cons, List.map_nil, List.getD_cons_zero, List.getD_cons_succ]
  iterate 13 (refine lex_read rfl trivial (v := ?_) (fun w' _ => ?_) ?_; rotate_left; (focus (go_simp; try with_reducible rfl)); simp only [Act.put, List.setIfInBounds_toArray, List.set_cons_zero, List.set_cons_succ])
  refine lex_do rfl (fun K hK => ?_)
  go_simp
  refine hK _ _ (fun _ => trivial) ?_
  clear hK K
  refine lex_do rfl (fun K hK => ?_)
  go_simp
  refine (CRd.goNums (rest := [.list sGroup, .num, .flag]) (k := 4) H0.out ((Upd.refl _ _).alloc _).drew (Nat.le_refl _) (Blk.drew (Blk.new _ _ [_, _, _, _])) (by simp only [fsize_append, fsize_nums, fsize, List.nil_append] <;> rfl) (by decide)).mono ?_
  rintro e w1 ⟨rfl, ns1, l1, b1, hn, h⟩
  have H1 := Lib.hid h
  have HN1 := Lib.hid hn
  clear hn
  refine hK _ _ (fun _ => trivial) ?_
  clear hK K h
  refine lex_nil ?_
  go_wp2_with fail
  refine (CRd.goList listGroup_reads H1.out (by simp only [fsize_append, fsize_nums, fsize, HN1.out, List.nil_append] <;> rfl)).mono ?_
  rintro e w2 ⟨rfl, v2, l2, b2, h⟩
  have H2 := Lib.hid h
  clear h
  go_wp2_with fail
  refine (CRd.go num_reads H2.out (by simp only [fsize_append, fsize_nums, fsize, HN1.out, List.nil_append] <;> rfl)).mono ?_
  rintro e w3 ⟨rfl, v3, l3, b3, h⟩
  have H3 := Lib.hid h
  clear h
  go_wp2_with fail
  refine (CRd.go flag_reads H3.out (by simp only [fsize_append, fsize_nums, fsize, HN1.out, List.nil_append] <;> rfl)).mono ?_
  rintro e w4 ⟨rfl, v4, l4, b4, h⟩
  have H4 := Lib.hid h
  clear h
  go_wp2_with fail
  go_end0
  exact CRd.fin H4.out (by simp only [List.map_append, nums_fst, HN1.out, List.append_assoc, List.map_cons, List.map_nil, List.nil_append]; rfl)
end Go.Proofs.YthclnpigplcckaaGreat
/- codec's form.node, reading. -/
namespace Go.Proofs.YthclnpigplcckaaGreat
open Go.RowKit Go.Lb Go.Rc

set_option maxRecDepth 20000 in
set_option maxHeartbeats 2000000 in
theorem node_reads : Reads 51 sNode := by
  intro B f p q tp pre post l b w h hB hpf hq hp
  subst hq
  have H0 := Lib.hid (RdSt.start (rest := [.num, sRes, .flag, .flag, .num, .num, .num]) h hB hpf hp (fr_mark h).2.2.2.1)
  clear h hp
  go_enter Tryz.func51, Tryz.ntmps51
  go_wp2_with fail
  refine (CRd.go num_reads H0.out (by simp only [fsize_append, fsize_nums, fsize, List.nil_append] <;> rfl)).mono ?_
  rintro e w1 ⟨rfl, v1, l1, b1, h⟩
  have H1 := Lib.hid h
  clear h
  go_wp2_with fail
  refine (CRd.go res_reads H1.out (by simp only [fsize_append, fsize_nums, fsize, List.nil_append] <;> rfl)).mono ?_
  rintro e w2 ⟨rfl, v2, l2, b2, h⟩
  have H2 := Lib.hid h
  clear h
  go_wp2_with fail
  refine (CRd.go flag_reads H2.out (by simp only [fsize_append, fsize_nums, fsize, List.nil_append] <;> rfl)).mono ?_
  rintro e w3 ⟨rfl, v3, l3, b3, h⟩
  have H3 := Lib.hid h
  clear h
  go_wp2_with fail
  refine (CRd.go flag_reads H3.out (by simp only [fsize_append, fsize_nums, fsize, List.nil_append] <;> rfl)).mono ?_
  rintro e w4 ⟨rfl, v4, l4, b4, h⟩
  have H4 := Lib.hid h
  clear h
  go_wp2_with fail
  refine wp_region_lex (fun _ => True) 99 [(0, true), (1, true), (2, true), (3, true), (4, true), (5, true), (6, true), (7, true), (8, true), (9, true), (10, false), (11, false)] (by kernel_rfl) (by kernel_rfl) (by kernel_rfl) (by kernel_rfl) (fun _ _ d _ _ h => by cases d <;> exact h) ?_
  simp only [lexOps, List.map_cons, List.map_nil, List.getD_cons_zero, List.getD_cons_succ]
  iterate 10 (refine lex_read rfl trivial (v := ?_) (fun w' _ => ?_) ?_; rotate_left; (focus (go_simp; try with_reducible rfl)); simp only [Act.put, List.setIfInBounds_toArray, List.set_cons_zero, List.set_cons_succ])
  refine lex_do rfl (fun K hK => ?_)
  go_simp
  refine hK _ _ (fun _ => trivial) ?_
  clear hK K
  refine lex_do rfl (fun K hK => ?_)
  go_simp
  refine (CRd.goNums (rest := []) (k := 3) H4.out ((Upd.refl _ _).alloc _).drew (Nat.le_refl _) (Blk.drew (Blk.new _ _ [_, _, _])) (by simp only [fsize_append, fsize_nums, fsize, List.nil_append] <;> rfl) (by decide)).mono ?_
  rintro e w5 ⟨rfl, ns5, l5, b5, hn, h⟩
  have H5 := Lib.hid h
  have HN5 := Lib.hid hn
  clear hn
  refine hK _ _ (fun _ => trivial) ?_
  clear hK K h
  refine lex_nil ?_
  go_wp2_with fail
  go_end0
  exact CRd.fin H5.out (by simp only [List.map_append, nums_fst, HN5.out, List.append_assoc, List.map_cons, List.map_nil, List.nil_append]; rfl)
end Go.Proofs.YthclnpigplcckaaGreat
/- codec's form.report, reading. -/
namespace Go.Proofs.YthclnpigplcckaaGreat
open Go.RowKit Go.Lb Go.Rc

set_option maxRecDepth 20000 in
set_option maxHeartbeats 2000000 in
theorem report_reads : Reads 53 sReport := by
  intro B f p q tp pre post l b w h hB hpf hq hp
  subst hq
  have H0 := Lib.hid (RdSt.start (rest := [.num, .num]) h hB hpf hp (fr_mark h).2.2.2.1)
  clear h hp
  go_enter Tryz.func53, Tryz.ntmps53
  refine wp_region_lex (fun _ => True) 99 [(0, true), (1, true), (2, true), (3, true), (4, true), (5, true), (6, true), (7, false), (8, false)] (by kernel_rfl) (by kernel_rfl) (by kernel_rfl) (by kernel_rfl) (fun _ _ d _ _ h => by cases d <;> exact h) ?_
  simp only [lexOps, List.map_cons, List.map_nil, List.getD_cons_zero, List.getD_cons_succ]
  iterate 7 (refine lex_read rfl trivial (v := ?_) (fun w' _ => ?_) ?_; rotate_left; (focus (go_simp; try with_reducible rfl)); simp only [Act.put, List.setIfInBounds_toArray, List.set_cons_zero, List.set_cons_succ])
  refine lex_do rfl (fun K hK => ?_)
  go_simp
  refine hK _ _ (fun _ => trivial) ?_
  clear hK K
  refine lex_do rfl (fun K hK => ?_)
  go_simp
  refine (CRd.goNums (rest := []) (k := 2) H0.out ((Upd.refl _ _).alloc _).drew (Nat.le_refl _) (Blk.drew (Blk.new _ _ [_, _])) (by simp only [fsize_append, fsize_nums, fsize, List.nil_append] <;> rfl) (by decide)).mono ?_
  rintro e w1 ⟨rfl, ns1, l1, b1, hn, h⟩
  have H1 := Lib.hid h
  have HN1 := Lib.hid hn
  clear hn
  refine hK _ _ (fun _ => trivial) ?_
  clear hK K h
  refine lex_nil ?_
  go_wp2_with fail
  go_end0
  exact CRd.fin H1.out (by simp only [List.map_append, nums_fst, HN1.out, List.append_assoc, List.map_cons, List.map_nil, List.nil_append]; rfl)
end Go.Proofs.YthclnpigplcckaaGreat
/- codec's list[Report], reading. -/
namespace Go.Proofs.YthclnpigplcckaaGreat
open Go.RowKit Go.Lb Go.Rc

set_option maxRecDepth 20000 in
set_option maxHeartbeats 2000000 in
theorem listReport_reads : LReads 52 53 sReport := by
  intro B f p q tp pre post l b w h hB hpf hq hp
  obtain ⟨iT, hiT, hz0, hz1, hz2⟩ := info118
  subst hq
  have c0 := hp.cell (o := pre.length) mid_at
  obtain ⟨_, _, _, hf, hBf⟩ := fr_mark h
  have hplt := hp.lt
  have H := Lib.hid h
  have HP := Lib.hid hp
  clear h hp
  go_enter Tryz.func52, Tryz.ntmps52
  go_wp2_with fail
  refine (many_r B f 64 _ l b _ H.out).mono ?_
  rintro e w1 ⟨k, l1, b1, rfl, hk, h1, h2, h3⟩
  obtain ⟨m2, m3, m4, m5, _⟩ := fr_mark h1
  have HB1 := Lib.hid (h2.blk HP.out (by simpa using hpf))
  have HS : Hid (LRdSt sReport 108 cR [f, p] B f 118 2 w w1 k l b 0 l1 b1 (.slice none 0 0) [] []) := Lib.hid (LRdSt.start h1 (h2.mono (by simp)) (by simp; omega) h3)
  clear h1 h2 h3 H
  go_wp2_with fail
  go_loopg [9, 42] k (fun g u t wr => ∃ (i : Nat) (l' : List Nat) (b' : Bool) (v : Value) (xss : List (List Value)) (xs : List Val), t = .int .i64 i ∧ k - i = g ∧ i ≤ k ∧ Blk wr p tp (pre ++ [v] ++ post) ∧ LRdSt sReport 108 cR [f, p] B f 118 2 w wr k l b i l' b' v xss xs)
  case atStart => exact ⟨0, l1, b1, _, [], [], rfl, rfl, by omega, HB1.out, HS.out⟩
  case round =>
    obtain ⟨i, l', b', v, xss, xs, rfl, hg, hi, hbk, hS⟩ := hrel
    have HG := Lib.hid hg
    have HBK := Lib.hid hbk
    have HST := Lib.hid hS
    obtain ⟨n2, n3, n4, n5, _⟩ := fr_mark hS.fr
    have hsz := hS.upd.size
    clear hg hbk hS m2 m3 m4 m5
    by_cases hlt : i < k
    · have t1 : decide (i < k) = true := by simpa using hlt
      cases b' with
      | true =>
        have HE := Lib.hid (HST.out.rd (.inl rfl))
        go_wp2_with fail
        go_end0
        exact ⟨rfl, .list xs, [v], l', true, HST.out.fr, HST.out.upd, HBK.out, HST.out.isRep, HE.out⟩
      | false =>
      go_wp2_with (refine wpList_alloc_blk rfl 118 rfl sReport.zc (zero118 _) ?_; intro wB hb hu)
      have hN := HST.out.upd' hu
      refine (report_reads B f wr.heap.size 0 118 [] [] l' false wB hN.fr (by omega) (by omega) rfl (by simpa [Sch.zc] using hb)).mono ?_
      rintro e w2 ⟨rfl, x, us, l2, b2, h1, h2, h3, h4, h5⟩
      have hus : us.length = 2 := h4.len
      have hb2 : Blk w2 wr.heap.size 118 us := by simpa using h3
      have hU : Upd [f, p] wr w2 := (hu.mono (by simp)).trans h2 (by
        intro y hy
        simp only [List.mem_cons, List.not_mem_nil, or_false] at hy
        rcases hy with rfl | rfl
        · simp
        · exact .inr (Nat.le_refl _))
      have h4' : Sch.Rep w2 (Nw wr.heap.size w2) sReport us x := h4.mono (fun b hb _ => hb.go hu.size rfl)
      have hbp : Blk w2 p tp (pre ++ [v] ++ post) := by
        refine h2.blk (hu.blk HBK.out (by simp)) ?_
        simp; omega
      have hrow2 := (hN.row)
      have hrw : w2.ownsRow w.heap.size 118 2 v i xss.flatten := h2.row (hu.row HST.out.row (by simp)) (by
        intro y hy
        have := own_lo HST.out.row hy
        simp; omega)
      have hsz2 := hU.size
      have hl2 := hb2.lt
      obtain ⟨a, c, rfl⟩ := own_shape' hrw
      have HO := Lib.hid h4.one
      have HR : Hid (∀ w', Upd (Value.slice a i c).ownBlock.toList w2 w' → w'.cell? ⟨p, pre.length, none⟩ = some (.slice a i c) ∧ Blk w' wr.heap.size 118 us) := Lib.hid (by
        intro w' u
        refine ⟨(u.blk hbp ?_).cell mid_at, u.blk hb2 ?_⟩
        · intro hm
          have := own_lo HST.out.row (g := p) (by simpa using hm)
          omega
        · intro hm
          have := own_lo HST.out.row (g := wr.heap.size) (by simpa using hm)
          omega)
      have HST2 := HST
      have HU := Lib.hid hU
      have H4 := Lib.hid h4'
      have H5 := Lib.hid h5
      have H1 := Lib.hid h1
      have HRW := Lib.hid hrw
      have HBP := Lib.hid hbp
      have HUS := Lib.hid hus
      clear h1 h2 h3 h4 h5 hN hb hu hbp hrow2 hrw hU h4' hus
      go_wp2_with fail
      refine wp_region_lex (fun w' => Upd (Value.slice a i c).ownBlock.toList w2 w') 8 [(0, true), (1, true), (2, true), (3, true), (4, true), (5, false), (6, false), (7, false), (8, false)] (by kernel_rfl) (by kernel_rfl) (by kernel_rfl) (by kernel_rfl) (fun _ _ d _ _ h => by cases d <;> exact h) ?_
      simp only [lexOps, List.map_cons, List.map_nil, List.getD_cons_zero, List.getD_cons_succ]
      have hS0 : Upd (Value.slice a i c).ownBlock.toList w2 w2.drew := (Upd.refl _ _).drew
      iterate 4 (refine lex_read rfl (by exact hS0) (v := ?_) (fun w' hw => ?_) ?_; rotate_left; (focus (obtain ⟨k1, k2⟩ := HR.out w' hw; clear k2; go_simp; try with_reducible rfl)); simp only [Act.put, List.setIfInBounds_toArray, List.set_cons_zero, List.set_cons_succ])
      refine lex_read rfl (by exact hS0) (fun w' hw => exec_load (by rfl) (by rfl) (run_loadAt_mid w' wr.heap.size 0 118 us _ (HR.out w' hw).2.range Tryz.underlying118 rfl (by rw [HUS.out]; exact Tryz.size118))) ?_
      try simp only [Act.put, List.setIfInBounds_toArray, List.set_cons_zero, List.set_cons_succ]
      refine lex_run rfl (exec_buildSlice (by rfl) (by simp [Act.eval]) (run_buildSlice1 _ 30 118 iT _ us 2 Tryz.underlying30 hiT hz0 hz1 HUS.out (by decide) (by decide))) (fun _ => hS0.alloc _) ?_
      try simp only [Act.put, List.setIfInBounds_toArray, List.set_cons_zero, List.set_cons_succ]
      have h64 : k ≤ 64 := hk
      have hB2 : Blk (w2.drew.alloc (.cells us.toArray 118)) w2.heap.size 118 us := Blk.new w2.drew _ _
      refine lex_do rfl (fun K hK => ?_)
      refine wp_append_mine (.tmp 53) (.tmp 55) 30 rfl w.heap.size 118 iT _ 2 _ Tryz.underlying30 hiT hz0 hz1 hz2 rfl (by decide) (.slice a i c) i xss.flatten rfl (World.ownsRow.alloc HRW.out _) ⟨w2.heap.size, 0, none⟩ 1 1 us rfl (by rw [HUS.out]) hB2.news (HO.out) (by unfold maxLen; omega) (by omega) (by have := HST.out.upd.size; simp; omega) ?_
      intro v' w3 hown hg hv
      have uA : Upd [f, p] wr (w2.drew.alloc (.cells us.toArray 118)) := (HU.out.drew).alloc _
      have hF : Fr B w3 f l2 b2 := by
        obtain ⟨a', c', hI⟩ := H1.out
        have hI2 : In 108 cR B (w2.drew.alloc (.cells us.toArray 118)) f l2 b2 a' c' := hI.upd (F := []) ((Upd.refl [] w2).drew.alloc _) (by simp)
        refine ⟨a', c', hI2.upd (F := (Value.slice a i c).ownBlock.toList) ((Upd.refl _ _).grown hg (fun k hk => .inl (by simp [hk]))) (fun k hk => ?_)⟩
        have := own_lo HST.out.row (g := k) (by simpa using hk)
        omega
      have hbp3 : Blk w3 p tp (pre ++ [.slice a i c] ++ post) := by
        have hb4 : Blk (w2.drew.alloc (.cells us.toArray 118)) p tp (pre ++ [.slice a i c] ++ post) := (HBP.out.drew).alloc _
        refine (hg.block p hb4.lt (fun e => ?_)).trans hb4
        have := own_lo HST.out.row (g := p) e.symm
        omega
      have q1 := hbp3.cell (o := pre.length) mid_at
      have q2 := hbp3.frozen pre.length
      have q3 := hbp3.lt
      have uS : Upd [p] w3 (w3.setCell ⟨p, pre.length, none⟩ v') := (Upd.refl _ _).setCell (by simp) _
      have HX : Hid (Blk (w3.setCell ⟨p, pre.length, none⟩ v') p tp (pre ++ [v'] ++ post) ∧ LRdSt sReport 108 cR [f, p] B f 118 2 w (w3.setCell ⟨p, pre.length, none⟩ v') k l b (i + 1) l2 b2 v' (xss ++ [us]) (xs ++ [x])) := by
        refine Lib.hid ⟨?_, LRdSt.next HST.out hlt uA (H4.out.updN ((Upd.refl [] w2).drew.alloc _) (by simp)) HUS.out H5.out hg hown ?_ (uS.mono (by simp)) (hF.upd uS (by simp; omega))⟩
        · have := hbp3.set pre.length v'
          rwa [mid_set] at this
        · rcases hv with h | h
          · exact .inl h
          · exact .inr h
      have hS3 : Upd (Value.slice a i c).ownBlock.toList w2 w3 := (hS0.alloc _).grown hg (fun k hk => .inl (by simp [hk]))
      refine hK _ _ (fun _ => hS3) ?_
      obtain ⟨a', c', rfl⟩ := own_shape' hown
      clear hK K hown hg hv uA hF hbp3 uS hB2 hS0
      try simp only [Act.put, List.setIfInBounds_toArray, List.set_cons_zero, List.set_cons_succ]
      refine lex_do rfl (fun K hK => ?_)
      go_simp
      refine hK _ _ (fun _ => hS3) ?_
      clear hK K hS3
      try simp only [Act.put, List.setIfInBounds_toArray, List.set_cons_zero, List.set_cons_succ]
      refine lex_do rfl (fun K hK => ?_)
      go_simp
      refine hK _ _ (fun h => absurd rfl h) ?_
      clear hK K
      try simp only [Act.put, List.setIfInBounds_toArray, List.set_cons_zero, List.set_cons_succ]
      refine lex_nil ?_
      go_wp2_with fail
      go_roundg (k - (i + 1))
      case measure => have := HG.out; omega
      case rel => exact ⟨i + 1, l2, b2, _, _, _, by go_num, rfl, by omega, HX.out.1, HX.out.2⟩
    · obtain rfl : i = k := by omega
      have HE := Lib.hid (HST.out.rd (.inr rfl))
      go_wp2_with fail
      go_end0
      exact ⟨rfl, .list xs, [v], l', b', HST.out.fr, HST.out.upd, HBK.out, HST.out.isRep, HE.out⟩
end Go.Proofs.YthclnpigplcckaaGreat
/- codec's list[int], reading. -/
namespace Go.Proofs.YthclnpigplcckaaGreat
open Go.RowKit Go.Lb Go.Rc

set_option maxRecDepth 20000 in
set_option maxHeartbeats 2000000 in
theorem listint_reads : LReads 95 90 .num := by
  intro B f p q tp pre post l b w h hB hpf hq hp
  obtain ⟨iT, hiT, hz0, hz1, hz2⟩ := info3
  subst hq
  have c0 := hp.cell (o := pre.length) mid_at
  obtain ⟨_, _, _, hf, hBf⟩ := fr_mark h
  have hplt := hp.lt
  have H := Lib.hid h
  have HP := Lib.hid hp
  clear h hp
  go_enter Tryz.func95, Tryz.ntmps95
  go_wp2_with fail
  refine (many_r B f 64 _ l b _ H.out).mono ?_
  rintro e w1 ⟨k, l1, b1, rfl, hk, h1, h2, h3⟩
  obtain ⟨m2, m3, m4, m5, _⟩ := fr_mark h1
  have HB1 := Lib.hid (h2.blk HP.out (by simpa using hpf))
  have HS : Hid (LRdSt .num 108 cR [f, p] B f 3 1 w w1 k l b 0 l1 b1 (.slice none 0 0) [] []) := Lib.hid (LRdSt.start h1 (h2.mono (by simp)) (by simp; omega) h3)
  clear h1 h2 h3 H
  go_wp2_with fail
  go_loopg [9, 42] k (fun g u t wr => ∃ (i : Nat) (l' : List Nat) (b' : Bool) (v : Value) (xss : List (List Value)) (xs : List Val), t = .int .i64 i ∧ k - i = g ∧ i ≤ k ∧ Blk wr p tp (pre ++ [v] ++ post) ∧ LRdSt .num 108 cR [f, p] B f 3 1 w wr k l b i l' b' v xss xs)
  case atStart => exact ⟨0, l1, b1, _, [], [], rfl, rfl, by omega, HB1.out, HS.out⟩
  case round =>
    obtain ⟨i, l', b', v, xss, xs, rfl, hg, hi, hbk, hS⟩ := hrel
    have HG := Lib.hid hg
    have HBK := Lib.hid hbk
    have HST := Lib.hid hS
    obtain ⟨n2, n3, n4, n5, _⟩ := fr_mark hS.fr
    have hsz := hS.upd.size
    clear hg hbk hS m2 m3 m4 m5
    by_cases hlt : i < k
    · have t1 : decide (i < k) = true := by simpa using hlt
      cases b' with
      | true =>
        have HE := Lib.hid (HST.out.rd (.inl rfl))
        go_wp2_with fail
        go_end0
        exact ⟨rfl, .list xs, [v], l', true, HST.out.fr, HST.out.upd, HBK.out, HST.out.isRep, HE.out⟩
      | false =>
      go_wp2_with fail
      generalize hwB : World.alloc _ _ = wB
      have hb : Blk wB wr.heap.size 3 [.int .i64 0] := by subst hwB; exact Blk.new _ _ _
      have hu : Upd [] wr wB := by subst hwB; exact (Upd.refl _ _).alloc _
      have hN := HST.out.upd' hu
      refine (num_reads B f wr.heap.size 0 3 [] [] l' false wB hN.fr (by omega) (by omega) rfl (by simpa [Sch.zc] using hb)).mono ?_
      rintro e w2 ⟨rfl, x, us, l2, b2, h1, h2, h3, h4, h5⟩
      have hus : us.length = 1 := h4.len
      have hb2 : Blk w2 wr.heap.size 3 us := by simpa using h3
      have hU : Upd [f, p] wr w2 := (hu.mono (by simp)).trans h2 (by
        intro y hy
        simp only [List.mem_cons, List.not_mem_nil, or_false] at hy
        rcases hy with rfl | rfl
        · simp
        · exact .inr (Nat.le_refl _))
      have h4' : Sch.Rep w2 (Nw wr.heap.size w2) .num us x := h4.mono (fun b hb _ => hb.go hu.size rfl)
      have hbp : Blk w2 p tp (pre ++ [v] ++ post) := by
        refine h2.blk (hu.blk HBK.out (by simp)) ?_
        simp; omega
      have hrow2 := (hN.row)
      have hrw : w2.ownsRow w.heap.size 3 1 v i xss.flatten := h2.row (hu.row HST.out.row (by simp)) (by
        intro y hy
        have := own_lo HST.out.row hy
        simp; omega)
      have hsz2 := hU.size
      have hl2 := hb2.lt
      obtain ⟨a, c, rfl⟩ := own_shape' hrw
      have h4c := h4
      obtain ⟨nn, rfl, rfl⟩ := h4c
      have HR : Hid (∀ w', Upd (Value.slice a i c).ownBlock.toList w2 w' → w'.cell? ⟨p, pre.length, none⟩ = some (.slice a i c) ∧ Blk w' wr.heap.size 3 [.int .i64 nn]) := Lib.hid (by
        intro w' u
        refine ⟨(u.blk hbp ?_).cell mid_at, u.blk hb2 ?_⟩
        · intro hm
          have := own_lo HST.out.row (g := p) (by simpa using hm)
          omega
        · intro hm
          have := own_lo HST.out.row (g := wr.heap.size) (by simpa using hm)
          omega)
      have HST2 := HST
      have HU := Lib.hid hU
      have H4 := Lib.hid h4'
      have H5 := Lib.hid h5
      have H1 := Lib.hid h1
      have HRW := Lib.hid hrw
      have HBP := Lib.hid hbp
      have HUS := Lib.hid hus
      clear h1 h2 h3 h4 h5 hN hb hu hbp hrow2 hrw hU h4' hus
      go_wp2_with fail
      refine wp_region_lex (fun w' => Upd (Value.slice a i c).ownBlock.toList w2 w') 8 [(0, true), (1, true), (2, true), (3, true), (4, true), (5, false), (6, false), (7, false), (8, false)] (by kernel_rfl) (by kernel_rfl) (by kernel_rfl) (by kernel_rfl) (fun _ _ d _ _ h => by cases d <;> exact h) ?_
      simp only [lexOps, List.map_cons, List.map_nil, List.getD_cons_zero, List.getD_cons_succ]
      have hS0 : Upd (Value.slice a i c).ownBlock.toList w2 w2.drew := (Upd.refl _ _).drew
      iterate 4 (refine lex_read rfl (by exact hS0) (v := ?_) (fun w' hw => ?_) ?_; rotate_left; (focus (obtain ⟨k1, k2⟩ := HR.out w' hw; clear k2; go_simp; try with_reducible rfl)); simp only [Act.put, List.setIfInBounds_toArray, List.set_cons_zero, List.set_cons_succ])
      refine lex_read rfl (by exact hS0) (v := .int .i64 nn) (fun w' hw => ?_) ?_
      · have k2 := (HR.out w' hw).2.cell (o := 0) rfl
        go_simp
      try simp only [Act.put, List.setIfInBounds_toArray, List.set_cons_zero, List.set_cons_succ]
      refine lex_run (w' := w2.drew.alloc (.cells #[.int .i64 nn] 3)) rfl (v := .slice (some ⟨w2.heap.size, 0, none⟩) 1 1) (by go_simp) (fun _ => hS0.alloc _) ?_
      try simp only [Act.put, List.setIfInBounds_toArray, List.set_cons_zero, List.set_cons_succ]
      have h64 : k ≤ 64 := hk
      have hB2 : Blk (w2.drew.alloc (.cells #[.int .i64 nn] 3)) w2.heap.size 3 [.int .i64 nn] := Blk.new w2.drew _ _
      refine lex_do rfl (fun K hK => ?_)
      refine wp_append_mine (.tmp 53) (.tmp 55) 31 rfl w.heap.size 3 iT _ 1 _ Tryz.underlying31 hiT hz0 hz1 hz2 rfl (by decide) (.slice a i c) i xss.flatten rfl (World.ownsRow.alloc HRW.out _) ⟨w2.heap.size, 0, none⟩ 1 1 [.int .i64 nn] rfl (by rw [HUS.out]) hB2.news (by intro u hu; simp at hu; subst hu; rfl) (by unfold maxLen; omega) (by omega) (by have := HST.out.upd.size; simp; omega) ?_
      intro v' w3 hown hg hv
      have uA : Upd [f, p] wr (w2.drew.alloc (.cells #[.int .i64 nn] 3)) := (HU.out.drew).alloc _
      have hF : Fr B w3 f l2 b2 := by
        obtain ⟨a', c', hI⟩ := H1.out
        have hI2 : In 108 cR B (w2.drew.alloc (.cells #[.int .i64 nn] 3)) f l2 b2 a' c' := hI.upd (F := []) ((Upd.refl [] w2).drew.alloc _) (by simp)
        refine ⟨a', c', hI2.upd (F := (Value.slice a i c).ownBlock.toList) ((Upd.refl _ _).grown hg (fun k hk => .inl (by simp [hk]))) (fun k hk => ?_)⟩
        have := own_lo HST.out.row (g := k) (by simpa using hk)
        omega
      have hbp3 : Blk w3 p tp (pre ++ [.slice a i c] ++ post) := by
        have hb4 : Blk (w2.drew.alloc (.cells #[.int .i64 nn] 3)) p tp (pre ++ [.slice a i c] ++ post) := (HBP.out.drew).alloc _
        refine (hg.block p hb4.lt (fun e => ?_)).trans hb4
        have := own_lo HST.out.row (g := p) e.symm
        omega
      have q1 := hbp3.cell (o := pre.length) mid_at
      have q2 := hbp3.frozen pre.length
      have q3 := hbp3.lt
      have uS : Upd [p] w3 (w3.setCell ⟨p, pre.length, none⟩ v') := (Upd.refl _ _).setCell (by simp) _
      have HX : Hid (Blk (w3.setCell ⟨p, pre.length, none⟩ v') p tp (pre ++ [v'] ++ post) ∧ LRdSt .num 108 cR [f, p] B f 3 1 w (w3.setCell ⟨p, pre.length, none⟩ v') k l b (i + 1) l2 b2 v' (xss ++ [[.int .i64 nn]]) (xs ++ [.num nn])) := by
        refine Lib.hid ⟨?_, LRdSt.next HST.out hlt uA (H4.out.updN ((Upd.refl [] w2).drew.alloc _) (by simp)) HUS.out H5.out hg hown ?_ (uS.mono (by simp)) (hF.upd uS (by simp; omega))⟩
        · have := hbp3.set pre.length v'
          rwa [mid_set] at this
        · rcases hv with h | h
          · exact .inl h
          · exact .inr h
      have hS3 : Upd (Value.slice a i c).ownBlock.toList w2 w3 := (hS0.alloc _).grown hg (fun k hk => .inl (by simp [hk]))
      refine hK _ _ (fun _ => hS3) ?_
      obtain ⟨a', c', rfl⟩ := own_shape' hown
      clear hK K hown hg hv uA hF hbp3 uS hB2 hS0
      try simp only [Act.put, List.setIfInBounds_toArray, List.set_cons_zero, List.set_cons_succ]
      refine lex_do rfl (fun K hK => ?_)
      go_simp
      refine hK _ _ (fun _ => hS3) ?_
      clear hK K hS3
      try simp only [Act.put, List.setIfInBounds_toArray, List.set_cons_zero, List.set_cons_succ]
      refine lex_do rfl (fun K hK => ?_)
      go_simp
      refine hK _ _ (fun h => absurd rfl h) ?_
      clear hK K
      try simp only [Act.put, List.setIfInBounds_toArray, List.set_cons_zero, List.set_cons_succ]
      refine lex_nil ?_
      go_wp2_with fail
      go_roundg (k - (i + 1))
      case measure => have := HG.out; omega
      case rel => exact ⟨i + 1, l2, b2, _, _, _, by go_num, rfl, by omega, HX.out.1, HX.out.2⟩
    · obtain rfl : i = k := by omega
      have HE := Lib.hid (HST.out.rd (.inr rfl))
      go_wp2_with fail
      go_end0
      exact ⟨rfl, .list xs, [v], l', b', HST.out.fr, HST.out.upd, HBK.out, HST.out.isRep, HE.out⟩
end Go.Proofs.YthclnpigplcckaaGreat
/- codec's form.alloc, reading. -/
namespace Go.Proofs.YthclnpigplcckaaGreat
open Go.RowKit Go.Lb Go.Rc

set_option maxRecDepth 20000 in
set_option maxHeartbeats 2000000 in
theorem alloc_reads : Reads 80 sAlloc := by
  intro B f p q tp pre post l b w h hB hpf hq hp
  subst hq
  have H0 := Lib.hid (RdSt.start (rest := [.num, .num, .num, .num, .num, .num, .num, sRes, .flag, .num]) h hB hpf hp (fr_mark h).2.2.2.1)
  clear h hp
  go_enter Tryz.func80, Tryz.ntmps80
  go_wp2_with fail
  refine wp_region_lex (fun _ => True) 99 [(0, true), (1, true), (2, true), (3, true), (4, true), (5, true), (6, true), (7, true), (8, true), (9, true), (10, true), (11, true), (12, true), (13, true), (14, true), (15, true), (16, true), (17, true), (18, true), (19, true), (20, true), (21, true), (22, false), (23, false)] (by kernel_rfl) (by kernel_rfl) (by kernel_rfl) (by kernel_rfl) (fun _ _ d _ _ h => by cases d <;> exact h) ?_
  simp only [lexOps, List.map_cons, List.map_nil, List.getD_cons_zero, List.getD_cons_succ]
  iterate 22 (refine lex_read rfl trivial (v := ?_) (fun w' _ => ?_) ?_; rotate_left; (focus (go_simp; try with_reducible rfl)); simp only [Act.put, List.setIfInBounds_toArray, List.set_cons_zero, List.set_cons_succ])
  refine lex_do rfl (fun K hK => ?_)
  go_simp
  refine hK _ _ (fun _ => trivial) ?_
  clear hK K
  refine lex_do rfl (fun K hK => ?_)
  go_simp
  refine (CRd.goNums (rest := [sRes, .flag, .num]) (k := 7) H0.out ((Upd.refl _ _).alloc _).drew (Nat.le_refl _) (Blk.drew (Blk.new _ _ [_, _, _, _, _, _, _])) (by simp only [fsize_append, fsize_nums, fsize, List.nil_append] <;> rfl) (by decide)).mono ?_
  rintro e w1 ⟨rfl, ns1, l1, b1, hn, h⟩
  have H1 := Lib.hid h
  have HN1 := Lib.hid hn
  clear hn
  refine hK _ _ (fun _ => trivial) ?_
  clear hK K h
  refine lex_nil ?_
  go_wp2_with fail
  refine (CRd.go res_reads H1.out (by simp only [fsize_append, fsize_nums, fsize, HN1.out, List.nil_append] <;> rfl)).mono ?_
  rintro e w2 ⟨rfl, v2, l2, b2, h⟩
  have H2 := Lib.hid h
  clear h
  go_wp2_with fail
  refine (CRd.go flag_reads H2.out (by simp only [fsize_append, fsize_nums, fsize, HN1.out, List.nil_append] <;> rfl)).mono ?_
  rintro e w3 ⟨rfl, v3, l3, b3, h⟩
  have H3 := Lib.hid h
  clear h
  go_wp2_with fail
  refine (CRd.go num_reads H3.out (by simp only [fsize_append, fsize_nums, fsize, HN1.out, List.nil_append] <;> rfl)).mono ?_
  rintro e w4 ⟨rfl, v4, l4, b4, h⟩
  have H4 := Lib.hid h
  clear h
  go_wp2_with fail
  go_end0
  exact CRd.fin H4.out (by simp only [List.map_append, nums_fst, HN1.out, List.append_assoc, List.map_cons, List.map_nil, List.nil_append]; rfl)
end Go.Proofs.YthclnpigplcckaaGreat
/- codec's list[Alloc], reading. -/
namespace Go.Proofs.YthclnpigplcckaaGreat
open Go.RowKit Go.Lb Go.Rc

set_option maxRecDepth 20000 in
set_option maxHeartbeats 2000000 in
theorem listAlloc_reads : LReads 79 80 sAlloc := by
  intro B f p q tp pre post l b w h hB hpf hq hp
  obtain ⟨iT, hiT, hz0, hz1, hz2⟩ := info162
  subst hq
  have c0 := hp.cell (o := pre.length) mid_at
  obtain ⟨_, _, _, hf, hBf⟩ := fr_mark h
  have hplt := hp.lt
  have H := Lib.hid h
  have HP := Lib.hid hp
  clear h hp
  go_enter Tryz.func79, Tryz.ntmps79
  go_wp2_with fail
  refine (many_r B f 64 _ l b _ H.out).mono ?_
  rintro e w1 ⟨k, l1, b1, rfl, hk, h1, h2, h3⟩
  obtain ⟨m2, m3, m4, m5, _⟩ := fr_mark h1
  have HB1 := Lib.hid (h2.blk HP.out (by simpa using hpf))
  have HS : Hid (LRdSt sAlloc 108 cR [f, p] B f 162 11 w w1 k l b 0 l1 b1 (.slice none 0 0) [] []) := Lib.hid (LRdSt.start h1 (h2.mono (by simp)) (by simp; omega) h3)
  clear h1 h2 h3 H
  go_wp2_with fail
  go_loopg [9, 42] k (fun g u t wr => ∃ (i : Nat) (l' : List Nat) (b' : Bool) (v : Value) (xss : List (List Value)) (xs : List Val), t = .int .i64 i ∧ k - i = g ∧ i ≤ k ∧ Blk wr p tp (pre ++ [v] ++ post) ∧ LRdSt sAlloc 108 cR [f, p] B f 162 11 w wr k l b i l' b' v xss xs)
  case atStart => exact ⟨0, l1, b1, _, [], [], rfl, rfl, by omega, HB1.out, HS.out⟩
  case round =>
    obtain ⟨i, l', b', v, xss, xs, rfl, hg, hi, hbk, hS⟩ := hrel
    have HG := Lib.hid hg
    have HBK := Lib.hid hbk
    have HST := Lib.hid hS
    obtain ⟨n2, n3, n4, n5, _⟩ := fr_mark hS.fr
    have hsz := hS.upd.size
    clear hg hbk hS m2 m3 m4 m5
    by_cases hlt : i < k
    · have t1 : decide (i < k) = true := by simpa using hlt
      cases b' with
      | true =>
        have HE := Lib.hid (HST.out.rd (.inl rfl))
        go_wp2_with fail
        go_end0
        exact ⟨rfl, .list xs, [v], l', true, HST.out.fr, HST.out.upd, HBK.out, HST.out.isRep, HE.out⟩
      | false =>
      go_wp2_with (refine wpList_alloc_blk rfl 162 rfl sAlloc.zc (zero162 _) ?_; intro wB hb hu)
      have hN := HST.out.upd' hu
      refine (alloc_reads B f wr.heap.size 0 162 [] [] l' false wB hN.fr (by omega) (by omega) rfl (by simpa [Sch.zc] using hb)).mono ?_
      rintro e w2 ⟨rfl, x, us, l2, b2, h1, h2, h3, h4, h5⟩
      have hus : us.length = 11 := h4.len
      have hb2 : Blk w2 wr.heap.size 162 us := by simpa using h3
      have hU : Upd [f, p] wr w2 := (hu.mono (by simp)).trans h2 (by
        intro y hy
        simp only [List.mem_cons, List.not_mem_nil, or_false] at hy
        rcases hy with rfl | rfl
        · simp
        · exact .inr (Nat.le_refl _))
      have h4' : Sch.Rep w2 (Nw wr.heap.size w2) sAlloc us x := h4.mono (fun b hb _ => hb.go hu.size rfl)
      have hbp : Blk w2 p tp (pre ++ [v] ++ post) := by
        refine h2.blk (hu.blk HBK.out (by simp)) ?_
        simp; omega
      have hrow2 := (hN.row)
      have hrw : w2.ownsRow w.heap.size 162 11 v i xss.flatten := h2.row (hu.row HST.out.row (by simp)) (by
        intro y hy
        have := own_lo HST.out.row hy
        simp; omega)
      have hsz2 := hU.size
      have hl2 := hb2.lt
      obtain ⟨a, c, rfl⟩ := own_shape' hrw
      have HO := Lib.hid h4.one
      have HR : Hid (∀ w', Upd (Value.slice a i c).ownBlock.toList w2 w' → w'.cell? ⟨p, pre.length, none⟩ = some (.slice a i c) ∧ Blk w' wr.heap.size 162 us) := Lib.hid (by
        intro w' u
        refine ⟨(u.blk hbp ?_).cell mid_at, u.blk hb2 ?_⟩
        · intro hm
          have := own_lo HST.out.row (g := p) (by simpa using hm)
          omega
        · intro hm
          have := own_lo HST.out.row (g := wr.heap.size) (by simpa using hm)
          omega)
      have HST2 := HST
      have HU := Lib.hid hU
      have H4 := Lib.hid h4'
      have H5 := Lib.hid h5
      have H1 := Lib.hid h1
      have HRW := Lib.hid hrw
      have HBP := Lib.hid hbp
      have HUS := Lib.hid hus
      clear h1 h2 h3 h4 h5 hN hb hu hbp hrow2 hrw hU h4' hus
      go_wp2_with fail
      refine wp_region_lex (fun w' => Upd (Value.slice a i c).ownBlock.toList w2 w') 8 [(0, true), (1, true), (2, true), (3, true), (4, true), (5, false), (6, false), (7, false), (8, false)] (by kernel_rfl) (by kernel_rfl) (by kernel_rfl) (by kernel_rfl) (fun _ _ d _ _ h => by cases d <;> exact h) ?_
      simp only [lexOps, List.map_cons, List.map_nil, List.getD_cons_zero, List.getD_cons_succ]
      have hS0 : Upd (Value.slice a i c).ownBlock.toList w2 w2.drew := (Upd.refl _ _).drew
      iterate 4 (refine lex_read rfl (by exact hS0) (v := ?_) (fun w' hw => ?_) ?_; rotate_left; (focus (obtain ⟨k1, k2⟩ := HR.out w' hw; clear k2; go_simp; try with_reducible rfl)); simp only [Act.put, List.setIfInBounds_toArray, List.set_cons_zero, List.set_cons_succ])
      refine lex_read rfl (by exact hS0) (fun w' hw => exec_load (by rfl) (by rfl) (run_loadAt_mid w' wr.heap.size 0 162 us _ (HR.out w' hw).2.range Tryz.underlying162 rfl (by rw [HUS.out]; exact Tryz.size162))) ?_
      try simp only [Act.put, List.setIfInBounds_toArray, List.set_cons_zero, List.set_cons_succ]
      refine lex_run rfl (exec_buildSlice (by rfl) (by simp [Act.eval]) (run_buildSlice1 _ 32 162 iT _ us 11 Tryz.underlying32 hiT hz0 hz1 HUS.out (by decide) (by decide))) (fun _ => hS0.alloc _) ?_
      try simp only [Act.put, List.setIfInBounds_toArray, List.set_cons_zero, List.set_cons_succ]
      have h64 : k ≤ 64 := hk
      have hB2 : Blk (w2.drew.alloc (.cells us.toArray 162)) w2.heap.size 162 us := Blk.new w2.drew _ _
      refine lex_do rfl (fun K hK => ?_)
      refine wp_append_mine (.tmp 53) (.tmp 55) 32 rfl w.heap.size 162 iT _ 11 _ Tryz.underlying32 hiT hz0 hz1 hz2 rfl (by decide) (.slice a i c) i xss.flatten rfl (World.ownsRow.alloc HRW.out _) ⟨w2.heap.size, 0, none⟩ 1 1 us rfl (by rw [HUS.out]) hB2.news (HO.out) (by unfold maxLen; omega) (by omega) (by have := HST.out.upd.size; simp; omega) ?_
      intro v' w3 hown hg hv
      have uA : Upd [f, p] wr (w2.drew.alloc (.cells us.toArray 162)) := (HU.out.drew).alloc _
      have hF : Fr B w3 f l2 b2 := by
        obtain ⟨a', c', hI⟩ := H1.out
        have hI2 : In 108 cR B (w2.drew.alloc (.cells us.toArray 162)) f l2 b2 a' c' := hI.upd (F := []) ((Upd.refl [] w2).drew.alloc _) (by simp)
        refine ⟨a', c', hI2.upd (F := (Value.slice a i c).ownBlock.toList) ((Upd.refl _ _).grown hg (fun k hk => .inl (by simp [hk]))) (fun k hk => ?_)⟩
        have := own_lo HST.out.row (g := k) (by simpa using hk)
        omega
      have hbp3 : Blk w3 p tp (pre ++ [.slice a i c] ++ post) := by
        have hb4 : Blk (w2.drew.alloc (.cells us.toArray 162)) p tp (pre ++ [.slice a i c] ++ post) := (HBP.out.drew).alloc _
        refine (hg.block p hb4.lt (fun e => ?_)).trans hb4
        have := own_lo HST.out.row (g := p) e.symm
        omega
      have q1 := hbp3.cell (o := pre.length) mid_at
      have q2 := hbp3.frozen pre.length
      have q3 := hbp3.lt
      have uS : Upd [p] w3 (w3.setCell ⟨p, pre.length, none⟩ v') := (Upd.refl _ _).setCell (by simp) _
      have HX : Hid (Blk (w3.setCell ⟨p, pre.length, none⟩ v') p tp (pre ++ [v'] ++ post) ∧ LRdSt sAlloc 108 cR [f, p] B f 162 11 w (w3.setCell ⟨p, pre.length, none⟩ v') k l b (i + 1) l2 b2 v' (xss ++ [us]) (xs ++ [x])) := by
        refine Lib.hid ⟨?_, LRdSt.next HST.out hlt uA (H4.out.updN ((Upd.refl [] w2).drew.alloc _) (by simp)) HUS.out H5.out hg hown ?_ (uS.mono (by simp)) (hF.upd uS (by simp; omega))⟩
        · have := hbp3.set pre.length v'
          rwa [mid_set] at this
        · rcases hv with h | h
          · exact .inl h
          · exact .inr h
      have hS3 : Upd (Value.slice a i c).ownBlock.toList w2 w3 := (hS0.alloc _).grown hg (fun k hk => .inl (by simp [hk]))
      refine hK _ _ (fun _ => hS3) ?_
      obtain ⟨a', c', rfl⟩ := own_shape' hown
      clear hK K hown hg hv uA hF hbp3 uS hB2 hS0
      try simp only [Act.put, List.setIfInBounds_toArray, List.set_cons_zero, List.set_cons_succ]
      refine lex_do rfl (fun K hK => ?_)
      go_simp
      refine hK _ _ (fun _ => hS3) ?_
      clear hK K hS3
      try simp only [Act.put, List.setIfInBounds_toArray, List.set_cons_zero, List.set_cons_succ]
      refine lex_do rfl (fun K hK => ?_)
      go_simp
      refine hK _ _ (fun h => absurd rfl h) ?_
      clear hK K
      try simp only [Act.put, List.setIfInBounds_toArray, List.set_cons_zero, List.set_cons_succ]
      refine lex_nil ?_
      go_wp2_with fail
      go_roundg (k - (i + 1))
      case measure => have := HG.out; omega
      case rel => exact ⟨i + 1, l2, b2, _, _, _, by go_num, rfl, by omega, HX.out.1, HX.out.2⟩
    · obtain rfl : i = k := by omega
      have HE := Lib.hid (HST.out.rd (.inr rfl))
      go_wp2_with fail
      go_end0
      exact ⟨rfl, .list xs, [v], l', b', HST.out.fr, HST.out.upd, HBK.out, HST.out.isRep, HE.out⟩
end Go.Proofs.YthclnpigplcckaaGreat
/- codec's form.plan, reading. -/
namespace Go.Proofs.YthclnpigplcckaaGreat
open Go.RowKit Go.Lb Go.Rc

set_option maxRecDepth 20000 in
set_option maxHeartbeats 2000000 in
theorem plan_reads : Reads 54 sPlan := by
  intro B f p q tp pre post l b w h hB hpf hq hp
  subst hq
  have H0 := Lib.hid (RdSt.start (rest := [.num, .num, .num, .list .num, .list sAlloc, .flag]) h hB hpf hp (fr_mark h).2.2.2.1)
  clear h hp
  go_enter Tryz.func54, Tryz.ntmps54
  go_wp2_with fail
  refine wp_region_lex (fun _ => True) 99 [(0, true), (1, true), (2, true), (3, true), (4, true), (5, true), (6, true), (7, true), (8, true), (9, true), (10, false), (11, false)] (by kernel_rfl) (by kernel_rfl) (by kernel_rfl) (by kernel_rfl) (fun _ _ d _ _ h => by cases d <;> exact h) ?_
  simp only [lexOps, List.map_cons, List.map_nil, List.getD_cons_zero, List.getD_cons_succ]
  iterate 10 (refine lex_read rfl trivial (v := ?_) (fun w' _ => ?_) ?_; rotate_left; (focus (go_simp; try with_reducible rfl)); simp only [Act.put, List.setIfInBounds_toArray, List.set_cons_zero, List.set_cons_succ])
  refine lex_do rfl (fun K hK => ?_)
  go_simp
  refine hK _ _ (fun _ => trivial) ?_
  clear hK K
  refine lex_do rfl (fun K hK => ?_)
  go_simp
  refine (CRd.goNums (rest := [.list .num, .list sAlloc, .flag]) (k := 3) H0.out ((Upd.refl _ _).alloc _).drew (Nat.le_refl _) (Blk.drew (Blk.new _ _ [_, _, _])) (by simp only [fsize_append, fsize_nums, fsize, List.nil_append] <;> rfl) (by decide)).mono ?_
  rintro e w1 ⟨rfl, ns1, l1, b1, hn, h⟩
  have H1 := Lib.hid h
  have HN1 := Lib.hid hn
  clear hn
  refine hK _ _ (fun _ => trivial) ?_
  clear hK K h
  refine lex_nil ?_
  go_wp2_with fail
  refine (CRd.goList listint_reads H1.out (by simp only [fsize_append, fsize_nums, fsize, HN1.out, List.nil_append] <;> rfl)).mono ?_
  rintro e w2 ⟨rfl, v2, l2, b2, h⟩
  have H2 := Lib.hid h
  clear h
  go_wp2_with fail
  refine (CRd.goList listAlloc_reads H2.out (by simp only [fsize_append, fsize_nums, fsize, HN1.out, List.nil_append] <;> rfl)).mono ?_
  rintro e w3 ⟨rfl, v3, l3, b3, h⟩
  have H3 := Lib.hid h
  clear h
  go_wp2_with fail
  refine (CRd.go flag_reads H3.out (by simp only [fsize_append, fsize_nums, fsize, HN1.out, List.nil_append] <;> rfl)).mono ?_
  rintro e w4 ⟨rfl, v4, l4, b4, h⟩
  have H4 := Lib.hid h
  clear h
  go_wp2_with fail
  go_end0
  exact CRd.fin H4.out (by simp only [List.map_append, nums_fst, HN1.out, List.append_assoc, List.map_cons, List.map_nil, List.nil_append]; rfl)
end Go.Proofs.YthclnpigplcckaaGreat
/- codec's form.conf, reading. -/
namespace Go.Proofs.YthclnpigplcckaaGreat
open Go.RowKit Go.Lb Go.Rc

set_option maxRecDepth 20000 in
set_option maxHeartbeats 2000000 in
theorem conf_reads : Reads 55 sConf := by
  intro B f p q tp pre post l b w h hB hpf hq hp
  subst hq
  have H0 := Lib.hid (RdSt.start (rest := [.list .num, .list .num]) h hB hpf hp (fr_mark h).2.2.2.1)
  clear h hp
  go_enter Tryz.func55, Tryz.ntmps55
  go_wp2_with fail
  refine (CRd.goList listint_reads H0.out (by simp only [fsize_append, fsize_nums, fsize, List.nil_append] <;> rfl)).mono ?_
  rintro e w1 ⟨rfl, v1, l1, b1, h⟩
  have H1 := Lib.hid h
  clear h
  go_wp2_with fail
  refine (CRd.goList listint_reads H1.out (by simp only [fsize_append, fsize_nums, fsize, List.nil_append] <;> rfl)).mono ?_
  rintro e w2 ⟨rfl, v2, l2, b2, h⟩
  have H2 := Lib.hid h
  clear h
  go_wp2_with fail
  go_end0
  exact CRd.fin H2.out (by simp only [List.map_append, nums_fst, List.append_assoc, List.map_cons, List.map_nil, List.nil_append]; rfl)
end Go.Proofs.YthclnpigplcckaaGreat
/- codec's form.cmd, reading. -/
namespace Go.Proofs.YthclnpigplcckaaGreat
open Go.RowKit Go.Lb Go.Rc

set_option maxRecDepth 20000 in
set_option maxHeartbeats 2000000 in
theorem cmd_reads : Reads 22 sCmd := by
  intro B f p q tp pre post l b w h hB hpf hq hp
  subst hq
  have H0 := Lib.hid (RdSt.start (rest := [.num, .num, .num, sJob, sNode, .list sReport, sPlan, sConf]) h hB hpf hp (fr_mark h).2.2.2.1)
  clear h hp
  go_enter Tryz.func22, Tryz.ntmps22
  go_wp2_with fail
  refine wp_region_lex (fun _ => True) 99 [(0, true), (1, true), (2, true), (3, true), (4, true), (5, true), (6, true), (7, true), (8, true), (9, true), (10, false), (11, false)] (by kernel_rfl) (by kernel_rfl) (by kernel_rfl) (by kernel_rfl) (fun _ _ d _ _ h => by cases d <;> exact h) ?_
  simp only [lexOps, List.map_cons, List.map_nil, List.getD_cons_zero, List.getD_cons_succ]
  iterate 10 (refine lex_read rfl trivial (v := ?_) (fun w' _ => ?_) ?_; rotate_left; (focus (go_simp; try with_reducible rfl)); simp only [Act.put, List.setIfInBounds_toArray, List.set_cons_zero, List.set_cons_succ])
  refine lex_do rfl (fun K hK => ?_)
  go_simp
  refine hK _ _ (fun _ => trivial) ?_
  clear hK K
  refine lex_do rfl (fun K hK => ?_)
  go_simp
  refine (CRd.goNums (rest := [sJob, sNode, .list sReport, sPlan, sConf]) (k := 3) H0.out ((Upd.refl _ _).alloc _).drew (Nat.le_refl _) (Blk.drew (Blk.new _ _ [_, _, _])) (by simp only [fsize_append, fsize_nums, fsize, List.nil_append] <;> rfl) (by decide)).mono ?_
  rintro e w1 ⟨rfl, ns1, l1, b1, hn, h⟩
  have H1 := Lib.hid h
  have HN1 := Lib.hid hn
  clear hn
  refine hK _ _ (fun _ => trivial) ?_
  clear hK K h
  refine lex_nil ?_
  go_wp2_with fail
  refine (CRd.go job_reads H1.out (by simp only [fsize_append, fsize_nums, fsize, HN1.out, List.nil_append] <;> rfl)).mono ?_
  rintro e w2 ⟨rfl, v2, l2, b2, h⟩
  have H2 := Lib.hid h
  clear h
  go_wp2_with fail
  refine (CRd.go node_reads H2.out (by simp only [fsize_append, fsize_nums, fsize, HN1.out, List.nil_append] <;> rfl)).mono ?_
  rintro e w3 ⟨rfl, v3, l3, b3, h⟩
  have H3 := Lib.hid h
  clear h
  go_wp2_with fail
  refine (CRd.goList listReport_reads H3.out (by simp only [fsize_append, fsize_nums, fsize, HN1.out, List.nil_append] <;> rfl)).mono ?_
  rintro e w4 ⟨rfl, v4, l4, b4, h⟩
  have H4 := Lib.hid h
  clear h
  go_wp2_with fail
  refine (CRd.go plan_reads H4.out (by simp only [fsize_append, fsize_nums, fsize, HN1.out, List.nil_append] <;> rfl)).mono ?_
  rintro e w5 ⟨rfl, v5, l5, b5, h⟩
  have H5 := Lib.hid h
  clear h
  go_wp2_with fail
  refine (CRd.go conf_reads H5.out (by simp only [fsize_append, fsize_nums, fsize, HN1.out, List.nil_append] <;> rfl)).mono ?_
  rintro e w6 ⟨rfl, v6, l6, b6, h⟩
  have H6 := Lib.hid h
  clear h
  go_wp2_with fail
  go_end0
  exact CRd.fin H6.out (by simp only [List.map_append, nums_fst, HN1.out, List.append_assoc, List.map_cons, List.map_nil, List.nil_append]; rfl)
end Go.Proofs.YthclnpigplcckaaGreat
/- codec's get[Cmd] and GetCmd. -/
namespace Go.Proofs.YthclnpigplcckaaGreat
open Go.RowKit Go.Lb Go.Rc

set_option maxRecDepth 20000 in
set_option maxHeartbeats 2000000 in
theorem getCmd_any (a : Option Addr) (c : Nat) (l : List Nat) (w : World) (hb : Bytes w (· < w.heap.size) a l) (hc : l.length ≤ c ∧ c ≤ maxLen) :
    Calls Tryz.prog 21 #[.slice a l.length c, .func (.func 22) #[] #[]] w (GetIs sCmd l w) := by
  have HB := Lib.hid hb
  have HC := Lib.hid hc
  clear hb hc
  go_enter Tryz.func21, Tryz.ntmps21
  go_wp2_with (refine wpList_alloc_blk rfl 38 rfl sCmd.zc (zero38 _) ?_; intro wA hA uA)
  rename_i wB hB uB wC hC uC K1 a1 K2 a2
  have uW : Upd [] w (wA.alloc (.cells #[.slice a l.length c, .bool true, .bool false] 108)) := ((uB.trans uC (by simp)).trans uA (by simp)).alloc _
  have s1 := uB.size
  have s2 := uC.size
  have s3 := uA.size
  have l1 := hB.lt
  have l2 := hC.lt
  have l3 := hA.lt
  have hT := (uA.blk (uC.blk hB (by simp)) (by simp)).alloc (.cells #[.slice a l.length c, .bool true, .bool false] 108)
  have hX := (uA.blk hC (by simp)).alloc (.cells #[.slice a l.length c, .bool true, .bool false] 108)
  have hN := hA.alloc (.cells #[.slice a l.length c, .bool true, .bool false] 108)
  refine (cmd_reads w.heap.size wA.heap.size wB.heap.size 0 38 [] [] l false _ ⟨a, c, Blk.new wA 108 [.slice a l.length c, .bool true, .bool false], HB.out.upd uW (by simp), HC.out, by omega⟩ (by omega) (by omega) rfl (by simpa using hX)).mono ?_
  rintro e w1 ⟨rfl, v, cs, l', b', h1, h2, h3, h4, h5⟩
  have hlen : cs.length = 27 := h4.len
  have h3' : Blk w1 wB.heap.size 38 cs := by simpa using h3
  have hT1 : Blk w1 w.heap.size 38 sCmd.zc := h2.blk hT (by simp; omega)
  have hN1 : Blk w1 wC.heap.size 38 sCmd.zc := h2.blk hN (by simp; omega)
  have HU : Hid (Upd [] w w1) := Lib.hid (uW.trans h2 (by simp; omega))
  have HT := Lib.hid hT1
  have HN := Lib.hid hN1
  have HX := Lib.hid h3'
  have HRep := Lib.hid (h4.mono (ok' := fun k => w.heap.size < k ∧ Soft w1 k) (fun b hb _ => ⟨by have := hb.1; simp at this; omega, hb.2⟩))
  have HR := Lib.hid h5
  obtain ⟨m2, _, _, _, _⟩ := fr_mark h1
  obtain ⟨a', c', hI⟩ := h1
  have f0 := hI.blk.cell (o := 0) rfl
  clear h2 h3 h4 h5 h3' hT1 hN1 hT hX hN hI uA uB uC hA hB hC uW
  by_cases hg : b' = false ∧ l' = []
  · obtain ⟨rfl, rfl⟩ := hg
    have f0' : w1.cell? ⟨wA.heap.size, 0, none⟩ = some (.slice a' 0 c') := f0
    clear f0
    go_wp2_with (first | (refine wpList_load_blk rfl 38 (.tmp 6) rfl wB.heap.size rfl HX.out Tryz.underlying38 rfl (by rw [hlen]; exact Tryz.size38) ?_) | (refine wpList_store_blk (o := ⟨none, .store 38 (.tmp 4) (.tmp 28), _, _, _, _⟩) rfl 38 (.tmp 4) (.tmp 28) rfl w.heap.size cs rfl rfl HT.out (by rw [hlen]; exact Tryz.size38) (by rw [hlen]; rfl) HRep.out.one ?_; intro w3 hb3 hu3))
    have hl := run_loadVar_blk (P := Tryz.prog) hb3 38 _ Tryz.underlying38 rfl (by rw [hlen]; exact Tryz.size38)
    refine bodyPost_ret (v := .tuple #[.agg cs.toArray, .bool true]) ?_ rfl ⟨HU.out.trans hu3 (by simp), cs, v, true, rfl, HRep.out.keep (fun k hk hl => ⟨⟨Nat.le_of_lt hk.1, hk.2.keep (hu3.block k hl (by simp; omega))⟩, hu3.block k hl (by simp; omega)⟩) hu3.size, fun _ => (HR.out.good rfl).2, fun h => (by cases h)⟩
    · rw [results_cell_tmp Tryz.results21]; simp [asAddr, hl]
  · have t1 : b' = true ∨ (b' = false ∧ decide (0 < l'.length) = true) := by
      cases b' with
      | true => exact .inl rfl
      | false =>
        right
        refine ⟨rfl, ?_⟩
        rw [decide_eq_true_eq, List.length_pos_iff]
        exact fun h => hg ⟨rfl, h⟩
    have HG : Hid (∀ v', sCmd.get l ≠ some (v', [])) := Lib.hid (fun v' hv => by
      cases b' with
      | true =>
        rcases HR.out.bad rfl with h | h
        · cases h
        · rw [hv] at h; cases h
      | false =>
        have := (HR.out.good rfl).2
        rw [hv] at this
        simp only [Option.some.injEq, Prod.mk.injEq] at this
        exact hg ⟨rfl, this.2.symm⟩)
    clear hg
    rcases t1 with rfl | ⟨rfl, t1⟩
    all_goals
      go_wp2_with (first | (refine wpList_load_blk rfl 38 (.tmp 7) rfl wC.heap.size rfl HN.out Tryz.underlying38 rfl (by exact Tryz.size38) ?_) | (refine wpList_store_blk (o := ⟨none, .store 38 (.tmp 4) (.tmp 27), _, _, _, _⟩) rfl 38 (.tmp 4) (.tmp 27) rfl w.heap.size sCmd.zc rfl rfl HT.out (by exact Tryz.size38) (by rfl) (Sch.zc_one sCmd) ?_; intro w3 hb3 hu3))
      have hl := run_loadVar_blk (P := Tryz.prog) hb3 38 _ Tryz.underlying38 rfl (by exact Tryz.size38)
      refine bodyPost_ret (v := .tuple #[.agg sCmd.zc.toArray, .bool false]) ?_ rfl ⟨HU.out.trans hu3 (by simp), sCmd.zc, sCmd.zero, false, rfl, Sch.Rep.zero _ _ _, fun h => (by cases h), fun _ => ⟨HG.out, rfl⟩⟩
      rw [results_cell_tmp Tryz.results21]; simp [asAddr, hl]

set_option maxRecDepth 20000 in
set_option maxHeartbeats 2000000 in
theorem getCmd_gets : Gets 4 sCmd := by
  intro a c l w hb hc
  have HB := Lib.hid hb
  have HC := Lib.hid hc
  clear hb hc
  go_enter Tryz.func4, Tryz.ntmps4
  go_wp2_with (refine wpList_alloc_blk rfl 38 rfl sCmd.zc (zero38 _) ?_; intro wA hA uA)
  have s1 := uA.size
  have l1 := hA.lt
  refine (getCmd_any a c l wA ((HB.out.upd uA (by simp)).mono' s1) HC.out).mono ?_
  rintro e w1 ⟨u1, cs, v, r, rfl, hr, h1, h2⟩
  have hlen : cs.length = 27 := hr.len
  have HT := Lib.hid (u1.blk hA (by simp))
  have HU : Hid (Upd [] w w1) := Lib.hid (uA.trans u1 (by simp))
  have HRep := Lib.hid (hr.mono (ok' := fun k => w.heap.size < k ∧ Soft w1 k) (fun b hb _ => ⟨by have := hb.1; omega, hb.2⟩))
  have H1 := Lib.hid h1
  have H2 := Lib.hid h2
  clear hr h1 h2 u1 uA hA
  go_wp2_with (refine wpList_store_blk (o := ⟨none, .store 38 (.tmp 2) (.tmp 6), _, _, _, _⟩) rfl 38 (.tmp 2) (.tmp 6) rfl w.heap.size cs rfl rfl HT.out (by rw [hlen]; exact Tryz.size38) (by rw [hlen]; rfl) HRep.out.one ?_; intro w3 hb3 hu3)
  have hl := run_loadVar_blk (P := Tryz.prog) hb3 38 _ Tryz.underlying38 rfl (by rw [hlen]; exact Tryz.size38)
  refine bodyPost_ret (v := .tuple #[.agg cs.toArray, .bool r]) ?_ rfl ⟨HU.out.trans hu3 (by simp), cs, v, r, rfl, HRep.out.keep (fun k hk hl => ⟨⟨Nat.le_of_lt hk.1, hk.2.keep (hu3.block k hl (by simp; omega))⟩, hu3.block k hl (by simp; omega)⟩) hu3.size, H1.out, H2.out⟩
  rw [results_cell_tmp Tryz.results4]; simp [asAddr, hl]
end Go.Proofs.YthclnpigplcckaaGreat
/- law01's known. -/
namespace Go.Rc
theorem put_zero_len : ∀ s : Sch, (s.put s.zero).length = s.size
  | .nil => rfl
  | .num => by simp [Sch.put, Sch.zero, Sch.size, nput, zig, vput]
  | .flag => by simp [Sch.put, Sch.zero, Sch.size, nput, zig, vput]
  | .raw => by simp [Sch.put, Sch.zero, Sch.size, nput, zig, vput]
  | .list _ => by simp [Sch.put, Sch.zero, Sch.size, nput, zig, vput]
  | .pair a b => by simp [Sch.put, Sch.zero, Sch.size, put_zero_len a, put_zero_len b]
theorem put_byte : ∀ (s : Sch) (v : Val), s.good v → ∀ b ∈ s.put v, b < 256
  | .nil, v, h => by cases v <;> simp [Sch.put]
  | .num, v, h => by
    cases v with
    | num n => exact vput_byte _
    | _ => exact absurd h (by simp [Sch.good])
  | .flag, v, h => by
    cases v with
    | flag b => exact vput_byte _
    | _ => exact absurd h (by simp [Sch.good])
  | .raw, v, h => by
    cases v with
    | raw l =>
      intro b hb
      rcases List.mem_append.1 hb with hb | hb
      · exact vput_byte _ b hb
      · exact h.2 b hb
    | _ => exact absurd h (by simp [Sch.good])
  | .list s, v, h => by
    cases v with
    | list l =>
      intro b hb
      rcases List.mem_append.1 hb with hb | hb
      · exact vput_byte _ b hb
      · obtain ⟨x, hx, hb⟩ := List.mem_flatMap.1 hb
        exact put_byte s x (h.2 x hx) b hb
    | _ => exact absurd h (by simp [Sch.good])
  | .pair a b, v, h => by
    cases v with
    | pair x y =>
      intro c hc
      rcases List.mem_append.1 hc with hc | hc
      · exact put_byte a x h.1 c hc
      · exact put_byte b y h.2 c hc
    | _ => exact absurd h (by simp [Sch.good])
end Go.Rc
namespace Go.Proofs.YthclnpigplcckaaGreat
open Go.RowKit Go.Lb Go.Rc Go.Crc

set_option maxRecDepth 20000 in
set_option maxHeartbeats 4000000 in
theorem known_true (w : World) : Calls Tryz.prog 8 #[] w fun e w' => e = .returned (.bool true) ∧ Upd [] w w' := by
  have kc := fun (w : World) (C : Array Value) (n c : Nat) => Lib.run_convert_bytes_const (P := Tryz.prog) w 22 5 C n c Tryz.underlying22 Tryz.underlying5
  have HB : Hid (Bytes (w.alloc (.cells #[.int .u8 97] 5 (1, 2))) (· < w.heap.size + 1) (some ⟨w.heap.size, 0, none⟩) [97]) := Lib.hid (fun i x hx => by
    have hi := (List.getElem?_eq_some_iff.1 hx).1
    simp only [List.length_cons, List.length_nil] at hi
    obtain rfl : i = 0 := by omega
    simp at hx
    subst hx
    exact ⟨by omega, _, _, rfl, by simp, by simp, by rw [World.cell?_alloc_mark]; rfl⟩)
  have uA : Upd [] w (w.alloc (.cells #[.int .u8 97] 5 (1, 2))) := (Upd.refl _ _).alloc _
  obtain ⟨fr, hfr⟩ : ∃ fr, fr = frame 1 2 [97] := ⟨_, rfl⟩
  have hf16 : fr.length = 16 := by rw [hfr, frame_len]; rfl
  have HF3 : Hid (fr[3]? = some 1) := Lib.hid (by rw [hfr]; simp [frame, frm, be])
  have HF10 : Hid (fr[10]? = some 2) := Lib.hid (by rw [hfr]; simp [frame, frm, be])
  have fits : Fits 1 2 [97] := ⟨by decide, by decide, by decide, by decide⟩
  have HFB : Hid (∀ x ∈ fr, x < 256) := Lib.hid (by rw [hfr]; exact frame_byte fits)
  have HFIND : Hid (find fr = .whole 1 2 [97]) := Lib.hid (by
    have := find_frame fits []
    rw [List.append_nil] at this
    rw [hfr]; exact this)
  have HFR := Lib.hid hfr
  have HF16 := Lib.hid hf16
  have HBU : Hid (Tryz.prog.built 38 [] = some sCmd.zc.toArray) := Lib.hid (by kernel_rfl)
  clear hfr fits hf16
  go_enter Tryz.func8, Tryz.ntmps8
  go_wp2_with fail
  refine (frame_any _ 1 2 _ 1 [97] _ HB.out).mono ?_
  rintro e w1 ⟨u1, ⟨_, v1, rfl, r1⟩ | ⟨hno, _⟩⟩
  rotate_left
  · exact absurd ⟨by omega, by omega, by omega, by omega, by simp⟩ hno
  have e1 : frame (1 : Int).toNat (2 : Int).toNat [97] = fr := HFR.out.symm
  rw [e1] at r1
  have R1 := Lib.hid r1
  have U1 := Lib.hid (uA.trans u1 (by simp))
  obtain ⟨a1, c1, rfl⟩ := r1.shape
  have hcap := r1.cap
  clear r1 u1 uA e1 kc
  go_wp2_with fail
  refine (unframe_any _ a1 c1 fr w1 (R1.out.bytes HFB.out rfl) hcap.1 (by have := HF16.out; omega)).mono ?_
  rintro e w2 ⟨u2, hun⟩
  rw [HFIND.out] at hun
  obtain ⟨v2, rfl, r2⟩ := hun
  have U2 := Lib.hid (U1.out.trans u2 (by simp))
  have R12 : Hid (Bytes w2 (fun _ => True) a1 fr) := Lib.hid (((R1.out.bytes HFB.out rfl).keep (ok' := fun _ => True) (fun b _ hb => ⟨trivial, rfl⟩) (Nat.le_refl _)).upd u2 (by simp))
  have R2 : Hid (∃ a2 c2, v2 = .slice a2 1 c2 ∧ Bytes w2 (fun _ => True) a2 [97]) := Lib.hid (by
    obtain ⟨a2, c2, rfl⟩ := r2.shape
    exact ⟨a2, c2, rfl, (r2.bytes (by simp) rfl).keep (fun b _ hb => ⟨trivial, rfl⟩) (Nat.le_refl _)⟩)
  clear u2 r2 hcap
  obtain ⟨a2, c2, rfl, b2⟩ := R2.out
  have B2 := Lib.hid b2
  clear R2 b2
  go_wp2_with (refine wpList_buildTo (o := ⟨some 27, .build 38 #[], _, _, _, _⟩) rfl 38 #[] rfl (some 27) rfl sCmd.zc.toArray (by simpa using HBU.out) ?_)
  refine (putCmd_puts sCmd.zc sCmd.zero w2 (Sch.Rep.zero _ _ _) (Nat.le_trans (Sch.wmax_le _ _ (Sch.good_zero _)) (of_decide_eq_true (by kernel_rfl)))).mono ?_
  rintro e w3 ⟨u3, ⟨_, a3, c3, rfl, r3⟩ | ⟨hno, _⟩⟩
  rotate_left
  · exact absurd (Sch.good_zero _) hno
  obtain ⟨pz, hpz⟩ : ∃ pz, pz = sCmd.put sCmd.zero := ⟨_, rfl⟩
  rw [← hpz] at r3
  rw [← hpz]
  have HPL : Hid (pz.length = 27) := Lib.hid (by rw [hpz, put_zero_len]; rfl)
  have HGET : Hid (sCmd.get pz = some (sCmd.zero, [])) := Lib.hid (by
    have := Sch.get_put sCmd sCmd.zero [] (Sch.good_zero _)
    rw [hpz]; rwa [List.append_nil] at this)
  have HPB : Hid (∀ x ∈ pz, x < 256) := Lib.hid (by rw [hpz]; exact put_byte _ _ (Sch.good_zero _))
  have U3 := Lib.hid (U2.out.trans u3 (by simp))
  have U23 := Lib.hid u3
  have R3 : Hid (Row w2.heap.size w3 (.slice a3 pz.length c3) pz) := Lib.hid r3
  clear u3 r3 hpz
  have hcap := R3.out.cap
  go_wp2_with fail
  refine (getCmd_gets a3 c3 pz w3 ((R3.out.bytes HPB.out rfl).keep (fun b _ hb => ⟨hb, rfl⟩) (Nat.le_refl _)) hcap).mono ?_
  rintro e w4 ⟨u4, cs, v, r, rfl, hr, h1, h2⟩
  obtain rfl : r = true := by
    cases r with
    | true => rfl
    | false => exact absurd HGET.out ((h2 rfl).1 _)
  have HCS := Lib.hid (show cs.length = 27 from hr.len)
  have HONE := Lib.hid hr.one
  have U4 := Lib.hid u4
  clear h1 h2 hr u4 hcap
  go_wp2_with (first | (refine wpList_alloc_blk rfl 38 rfl sCmd.zc (zero38 _) ?_; intro wA hA uA; have HA := Lib.hid hA; have UA := Lib.hid uA; clear hA uA) | (refine wpList_store_blk (o := ⟨none, .store 38 (.tmp 10) (.tmp 34), _, _, _, _⟩) rfl 38 (.tmp 10) (.tmp 34) rfl w4.heap.size cs rfl rfl HA.out (by rw [HCS.out]; exact Tryz.size38) (by rw [HCS.out]; rfl) HONE.out ?_; intro w5 h5 u5; have U5 : Hid (Upd [] w4 w5) := Lib.hid (UA.out.trans u5 (by simp)); obtain ⟨b1, o1, rfl, _, hb1, hr1⟩ := bytes_range R12.out (fun e => by have hf16 := HF16.out; rw [e] at hf16; cases hf16); obtain ⟨b2, o2, rfl, _, hb2, hr2⟩ := bytes_range B2.out (by simp); have hU25 := (U23.out.trans U4.out (by simp)).trans U5.out (by simp); have q1 := rangeAt_keep hr1 (hU25.block b1 hb1 (by simp)); have q2 := rangeAt_keep hr2 (hU25.block b2 hb2 (by simp)); have z3 : w5.cell? ⟨b1, o1 + 3, none⟩ = some (.int .u8 1) := q1 3 _ (by rw [List.getElem?_map, HF3.out]; rfl); have z10 : w5.cell? ⟨b1, o1 + 10, none⟩ = some (.int .u8 2) := q1 10 _ (by rw [List.getElem?_map, HF10.out]; rfl); have z0 : w5.cell? ⟨b2, o2, none⟩ = some (.int .u8 97) := q2 0 _ rfl; have hcv := run_convert_bytes_back (P := Tryz.prog) w5 22 9 5 ⟨b2, o2, none⟩ c2 [97] Tryz.underlying22 Tryz.underlying5 Tryz.underlying9 (fun j hj => by simp at hj; subst hj; simpa [Addr.add] using z0); (try simp only [List.length_cons, List.length_nil, Nat.zero_add] at hcv); have g3 : (3 : Int) < (fr.length : Int) := (by have := HF16.out; omega); have g10 : (10 : Int) < (fr.length : Int) := (by have := HF16.out; omega); have l16 : ((fr.length : Int) == 16) = true := (by rw [beq_iff_eq]; have := HF16.out; omega); have l27 : ((pz.length : Int) == 27) = true := (by rw [beq_iff_eq]; have := HPL.out; omega); clear h5 u5 hr1 hr2 hU25 q1 q2))
  go_ret
  exact ⟨rfl, (U3.out.trans U4.out (by simp)).trans U5.out (by simp)⟩
end Go.Proofs.YthclnpigplcckaaGreat
/- The reference's Out.Num, Count, Flag. -/
namespace Go.Proofs.YthclnpigplcckaaGreat
open Go.RowKit Go.Lb Go.Rc

theorem ow_mark {B f : Nat} {X : List Nat} {o : List Nat} {b : Bool} {w : World} (h : Ow B X w f o b) : w.cell? ⟨f, 1, none⟩ = some (.bool b) ∧ w.frozen? ⟨f, 1, none⟩ = false ∧ f < w.heap.size := by
  obtain ⟨_, v, h, _⟩ := h
  exact ⟨h.blk.cell rfl, h.blk.frozen 1, h.blk.lt⟩
/-- How a thing of a shape is handed over. -/
def argOf : Sch → List Value → Value
  | .pair _ _, cs => .agg cs.toArray
  | _, cs => cs.headD undef
/-- What a thing's writing by the reference does. -/
def OPost (s : Sch) (B : Nat) (X : List Nat) (f : Nat) (v : Val) (o : List Nat) (b : Bool) (w : World) (e : Ending) (w' : World) : Prop :=
  e = .returned (.tuple #[]) ∧ ∃ o' b', Ow B X w' f o' b' ∧ Kp B X w w' ∧ s.Wr v o b o' b'
/-- Function K of the reference writes things of shape s. -/
def OWrites (K : Nat) (s : Sch) : Prop := ∀ (B : Nat) (X : List Nat) (f : Nat) (cs : List Value) (v : Val) (o : List Nat) (b : Bool) (w : World), Ow B X w f o b → s.Rep w (· < B) cs v → o.length + s.wmax v ≤ 1099511627776 →
  Calls Tryz.prog K #[.pointer (some ⟨f, 0, none⟩), argOf s cs] w (OPost s B X f v o b w)

set_option maxRecDepth 20000 in
set_option maxHeartbeats 1000000 in
theorem onum_wb (B : Nat) (X : List Nat) (f : Nat) (n : Int) (o : List Nat) (b : Bool) (w : World) (h : Ow B X w f o b) (hn : ¬ (-maxN ≤ n ∧ n ≤ maxN)) :
    Calls Tryz.prog 99 #[.pointer (some ⟨f, 0, none⟩), .int .i64 n] w fun e w' => e = .returned (.tuple #[]) ∧ Ow B X w' f o true ∧ Kp B X w w' := by
  have HM := Lib.hid (out_mark (i := 1) (fun _ _ _ => rfl) h true)
  obtain ⟨hX, v, h, hs⟩ := h
  have c1 := h.blk.cell (o := 1) rfl
  have hfz := h.blk.frozen 1
  have hlt := h.blk.lt
  unfold maxN at hn
  clear h hs hX
  by_cases h1 : n < -1099511627776
  · have d1 : decide (n < -1099511627776) = true := by simpa using h1
    clear hn h1
    go_enter Tryz.func99, Tryz.ntmps99
    go_wp2_with fail
    refine bodyPost_ret (results_none rfl _ _ _) rfl ?_
    exact ⟨rfl, HM.out⟩
  · have d1 : decide (n < -1099511627776) = false := by simpa using h1
    have d2 : decide (1099511627776 < n) = true := by simp; omega
    clear hn h1
    go_enter Tryz.func99, Tryz.ntmps99
    go_wp2_with fail
    refine bodyPost_ret (results_none rfl _ _ _) rfl ?_
    exact ⟨rfl, HM.out⟩

theorem ozig_neg {n : Int} (h0 : n < 0) : -2 * n - 1 = (zig n : Int) := by
  unfold zig
  rw [if_neg (by omega)]; omega
theorem ozig_pos {n : Int} (h0 : ¬ n < 0) : 2 * n = (zig n : Int) := by
  unfold zig
  rw [if_pos (by omega)]; omega

set_option maxRecDepth 20000 in
set_option maxHeartbeats 1000000 in
theorem onum_wg (B : Nat) (X : List Nat) (f : Nat) (n : Int) (o : List Nat) (b : Bool) (w : World) (h : Ow B X w f o b) (hn : -maxN ≤ n ∧ n ≤ maxN) (hl : o.length + 6 ≤ 1099511627776) :
    Calls Tryz.prog 99 #[.pointer (some ⟨f, 0, none⟩), .int .i64 n] w fun e w' => e = .returned (.tuple #[]) ∧ Ow B X w' f (o ++ nput n) b ∧ Kp B X w w' := by
  obtain ⟨i5, hi5, hz0, hz1, hz2⟩ := infoU8
  have H := Lib.hid h
  obtain ⟨hX, v, h, hs⟩ := h
  have c0 := h.blk.cell (o := 0) rfl
  have c1 := h.blk.cell (o := 1) rfl
  have hfz := h.blk.frozen 0
  have hlt := h.blk.lt
  have hzl := zig_le hn
  have Hlen := Lib.hid (show (nput n).length ≤ 6 from nput_len hn)
  have HN := Lib.hid hn
  unfold maxN at hn
  clear h hs hX
  have d1 : decide (n < -1099511627776) = false := by simp; omega
  have d2 : decide (1099511627776 < n) = false := by simp; omega
  by_cases h0 : n < 0
  all_goals
    first | (have d3 : decide (n < 0) = true := by simpa using h0) | (have d3 : decide (n < 0) = false := by simpa using h0)
    first | (have hz := ozig_neg h0) | (have hz := ozig_pos h0)
    go_enter Tryz.func99, Tryz.ntmps99
    go_wp2_with fail
    clear hz
    go_loopg [4] (zig n) (fun g s wr => ∃ (u : Nat) (o' : List Nat), s = .int .i64 u ∧ u ≤ 2199023255552 ∧ u = g ∧ o' ++ vput u = o ++ nput n ∧ Ow B X wr f o' b ∧ Kp B X w wr)
    case atStart => exact ⟨zig n, o, rfl, hzl, rfl, rfl, H.out, Kp.refl _ _ _⟩
    case round =>
      obtain ⟨u, o', rfl, hu, rfl, ho, hF, hK⟩ := hrel
      have HK := Lib.hid hK
      obtain ⟨hX, v, h, hs⟩ := hF
      have hlo : o'.length + (vput u).length = o.length + (nput n).length := by rw [← List.length_append, ho, List.length_append]
      have hlo2 : o'.length ≤ o.length + 6 := by have := Hlen.out; omega
      have k0 := h.blk.cell (o := 0) rfl
      have kfz := h.blk.frozen 0
      have klt := h.blk.lt
      have Hr := Lib.hid h.row
      obtain ⟨va, vc, rfl⟩ := own_shape h.row
      have HH := Lib.hid h
      have HS := Lib.hid hs
      have HX := Lib.hid hX
      by_cases hlt128 : u < 128
      · have ht : decide ((128 : Int) ≤ (u : Int)) = false := by simp; omega
        have hvp : vput u = [u] := by unfold vput; rw [if_pos hlt128]
        rw [hvp] at ho
        have HO := Lib.hid ho
        clear ho hK h hs hX hvp hlo
        go_wp2_with (at_builtin; refine wpList_append_mine rfl (.tmp 42) (.tmp 45) 22 rfl 0 5 i5 (.int .u8 0) 1 1 Tryz.underlying22 hi5 hz0 hz1 hz2 rfl (by decide) (.slice va o'.length vc) o'.length (o'.map bv) rfl (World.ownsRow.alloc Hr.out _) ⟨wr.heap.size, 0, none⟩ 1 1 [bv u] rfl rfl (Blk.news (Blk.new _ 5 [bv u])) (by simp [bv, Value.oneCell']) (by unfold maxLen; omega) (by omega) (by simp) ?_; intro v' w11 ho hg hgb; obtain ⟨va', vc', rfl⟩ := own_shape ho; have Hn := Lib.hid (out_step (mk := oW) (B := B) (X := X) (news := [u]) (fun _ _ _ => rfl) (fun _ _ => rfl) HH.out HS.out HX.out ((Upd.refl _ _).alloc _) (by simp; omega) ho hg hgb); have e0 := Hn.out.2.1; have e1 := Hn.out.2.2.1; have e2 := Hn.out.2.2.2; clear ho hg hgb)
        go_end0
        exact ⟨rfl, by rw [← HO.out]; exact Hn.out.1.1, HK.out.trans Hn.out.1.2⟩
      · have ht : decide ((128 : Int) ≤ (u : Int)) = true := by simp; omega
        have hvp : vput u = (128 + u % 128) :: vput (u / 128) := by conv => { lhs; unfold vput }; rw [if_neg hlt128]
        rw [hvp] at ho
        have HO := Lib.hid ho
        obtain ⟨m, hm⟩ : ∃ m, m = 128 + u % 128 := ⟨_, rfl⟩
        have hor : (128 : Int) + (u : Int) % 128 = (m : Int) := by omega
        rw [← hm] at HO
        have hm2 : m < 256 := by omega
        clear hm
        clear ho hK h hs hX hvp hlo
        go_wp2_with (at_builtin; refine wpList_append_mine rfl (.tmp 27) (.tmp 32) 22 rfl 0 5 i5 (.int .u8 0) 1 1 Tryz.underlying22 hi5 hz0 hz1 hz2 rfl (by decide) (.slice va o'.length vc) o'.length (o'.map bv) rfl (World.ownsRow.alloc Hr.out _) ⟨wr.heap.size, 0, none⟩ 1 1 [bv m] rfl rfl (Blk.news (Blk.new _ 5 [bv m])) (by simp [bv, Value.oneCell']) (by unfold maxLen; omega) (by omega) (by simp) ?_; intro v' w11 ho hg hgb; obtain ⟨va', vc', rfl⟩ := own_shape ho; have Hn := Lib.hid (out_step (mk := oW) (B := B) (X := X) (news := [m]) (fun _ _ _ => rfl) (fun _ _ => rfl) HH.out HS.out HX.out ((Upd.refl _ _).alloc _) (by simp; omega) ho hg hgb); have e0 := Hn.out.2.1; have e1 := Hn.out.2.2.1; have e2 := Hn.out.2.2.2; clear ho hg hgb)
        go_roundg (u / 128)
        case measure => omega
        case rel => exact ⟨u / 128, o' ++ [m], by rw [Int.natCast_ediv]; rfl, by omega, rfl, by rw [← HO.out]; simp, Hn.out.1.1, HK.out.trans Hn.out.1.2⟩

theorem onum_w (B : Nat) (X : List Nat) (f : Nat) (n : Int) (o : List Nat) (b : Bool) (w : World) (h : Ow B X w f o b) (hl : o.length + 6 ≤ 1099511627776) :
    Calls Tryz.prog 99 #[.pointer (some ⟨f, 0, none⟩), .int .i64 n] w fun e w' => e = .returned (.tuple #[]) ∧ ∃ o' b', Ow B X w' f o' b' ∧ Kp B X w w' ∧ Sch.num.Wr (.num n) o b o' b' := by
  by_cases hn : -maxN ≤ n ∧ n ≤ maxN
  · refine (onum_wg B X f n o b w h hn hl).mono fun e w' ⟨he, h1, h2⟩ => ⟨he, _, _, h1, h2, ⟨by simp [Sch.good, hn], fun _ => rfl, ?_⟩⟩
    have := nput_len hn
    simp only [Sch.wmax, List.length_append]; omega
  · refine (onum_wb B X f n o b w h hn).mono fun e w' ⟨he, h1, h2⟩ => ⟨he, _, _, h1, h2, ⟨by simp [Sch.good, hn], (fun h => by cases h), by omega⟩⟩
theorem onum_writes : OWrites 99 .num := fun B X f cs v o b w h hr hl => by
  obtain ⟨n, rfl, rfl⟩ := hr
  exact onum_w B X f n o b w h (by simpa [Sch.wmax] using hl)

set_option maxRecDepth 20000 in
set_option maxHeartbeats 1000000 in
theorem oflag_writes : OWrites 107 .flag := fun B X f cs v o b w h hr hl => by
  obtain ⟨t, rfl, rfl⟩ := hr
  simp only [Sch.wmax] at hl
  have H := Lib.hid h
  clear h
  show Calls Tryz.prog _ #[_, .bool t] _ _
  cases t
  all_goals
    go_enter Tryz.func107, Tryz.ntmps107
    go_wp2_with fail
    refine (onum_w B X f _ o b _ H.out hl).mono ?_
    rintro e w1 ⟨rfl, o', b', h1, h2, h3⟩
    have H1 := Lib.hid h1
    have H2 := Lib.hid h2
    have H3 := Lib.hid h3
    clear h1 h2 h3
    go_wp2_with fail
    go_end0
    exact ⟨rfl, o', b', H1.out, H2.out, ⟨by rw [H3.out.bad]; simp [Sch.good, maxN], H3.out.out, H3.out.len⟩⟩

set_option maxRecDepth 20000 in
set_option maxHeartbeats 1000000 in
/-- How many a list has. -/
theorem ocount_w (B : Nat) (X : List Nat) (f k : Nat) (o : List Nat) (b : Bool) (w : World) (h : Ow B X w f o b) (hl : o.length + 6 ≤ 1099511627776) :
    Calls Tryz.prog 102 #[.pointer (some ⟨f, 0, none⟩), .int .i64 (k : Int)] w fun e w' => e = .returned (.tuple #[]) ∧ ∃ o' b', Ow B X w' f o' b' ∧ Kp B X w w' ∧ WOk (k ≤ 64) (nput k) 6 o b o' b' := by
  obtain ⟨m1, m2, m3⟩ := ow_mark h
  obtain ⟨b1, hb1⟩ : ∃ b1 : Bool, b1 = (b || decide (64 < k)) := ⟨_, rfl⟩
  have HM := Lib.hid (out_mark (i := 1) (fun _ _ _ => rfl) h b1)
  clear h
  have fin : ∀ (o' : List Nat) (b' : Bool), Sch.num.Wr (.num (k : Int)) o b1 o' b' → WOk (k ≤ 64) (nput k) 6 o b o' b' := fun o' b' h => by
    refine ⟨?_, h.out, h.len⟩
    rw [h.bad, hb1]
    simp only [Bool.or_eq_false_iff, decide_eq_false_iff_not, Sch.good, maxN, Nat.not_lt, and_assoc]
    exact ⟨fun h => ⟨h.1, h.2.1⟩, fun h => ⟨h.1, h.2, by omega, by omega⟩⟩
  have HFIN := Lib.hid fin
  clear fin
  cases b
  · by_cases hk : 64 < k
    · have t1 : decide ((64 : Int) < (k : Int)) = true := by simp; omega
      obtain rfl : b1 = true := by simp [hb1, hk]
      clear hb1 hk
      go_enter Tryz.func102, Tryz.ntmps102
      go_wp2_with fail
      refine (onum_w B X f _ o true _ HM.out.1 hl).mono ?_
      rintro e w1 ⟨rfl, o', b', h1, h2, h3⟩
      have H1 := Lib.hid h1
      have H2 := Lib.hid (HM.out.2.trans h2)
      have H3 := Lib.hid h3
      clear h1 h2 h3
      go_wp2_with fail
      go_end0
      exact ⟨rfl, o', b', H1.out, H2.out, HFIN.out _ _ H3.out⟩
    · have t1 : decide ((64 : Int) < (k : Int)) = false := by simp; omega
      obtain rfl : b1 = false := by simp [hb1]; omega
      clear hb1 hk
      go_enter Tryz.func102, Tryz.ntmps102
      go_wp2_with fail
      refine (onum_w B X f _ o false _ HM.out.1 hl).mono ?_
      rintro e w1 ⟨rfl, o', b', h1, h2, h3⟩
      have H1 := Lib.hid h1
      have H2 := Lib.hid (HM.out.2.trans h2)
      have H3 := Lib.hid h3
      clear h1 h2 h3
      go_wp2_with fail
      go_end0
      exact ⟨rfl, o', b', H1.out, H2.out, HFIN.out _ _ H3.out⟩
  · obtain rfl : b1 = true := by simp [hb1]
    clear hb1
    go_enter Tryz.func102, Tryz.ntmps102
    go_wp2_with fail
    refine (onum_w B X f _ o true _ HM.out.1 hl).mono ?_
    rintro e w1 ⟨rfl, o', b', h1, h2, h3⟩
    have H1 := Lib.hid h1
    have H2 := Lib.hid (HM.out.2.trans h2)
    have H3 := Lib.hid h3
    clear h1 h2 h3
    go_wp2_with fail
    go_end0
    exact ⟨rfl, o', b', H1.out, H2.out, HFIN.out _ _ H3.out⟩
end Go.Proofs.YthclnpigplcckaaGreat
/- The reference's In.Num. -/
namespace Go.Proofs.YthclnpigplcckaaGreat
open Go.RowKit Go.Lb Go.Rc

theorem ir_mark {B f : Nat} {l : List Nat} {b : Bool} {w : World} (h : Ir B w f l b) : w.cell? ⟨f, 1, none⟩ = some (.bool b) ∧ w.frozen? ⟨f, 1, none⟩ = false ∧ f < w.heap.size ∧ B ≤ f := by
  obtain ⟨a, c, h⟩ := h
  exact ⟨h.blk.cell rfl, h.blk.frozen 1, h.blk.lt, h.low⟩
/-- The mark is set while reading. -/
theorem ir_set {B f : Nat} {l : List Nat} {b : Bool} {w : World} (h : Ir B w f l b) (b' : Bool) : Ir B (w.setCell ⟨f, 1, none⟩ (.bool b')) f l b' ∧ Upd [f] w (w.setCell ⟨f, 1, none⟩ (.bool b')) := by
  obtain ⟨a, c, h⟩ := h
  have uS : Upd [f] w (w.setCell ⟨f, 1, none⟩ (.bool b')) := (Upd.refl _ _).setCell (by simp) _
  refine ⟨⟨a, c, ⟨h.blk.set 1 (.bool b'), h.byte.upd uS (fun k hk => ?_), h.cap, h.low⟩⟩, uS⟩
  have := h.low
  simp; omega
/-- The bytes are cut while reading. -/
theorem ir_cut {B f : Nat} {l l2 : List Nat} {b : Bool} {w : World} {a a' : Option Addr} {c c' : Nat} (h : In 81 oW B w f l b a c) (hB : Bytes w (· < B) a' l2) (hc : l2.length ≤ c' ∧ c' ≤ maxLen) :
    Ir B (w.setCell ⟨f, 0, none⟩ (.slice a' l2.length c')) f l2 b ∧ Upd [f] w (w.setCell ⟨f, 0, none⟩ (.slice a' l2.length c')) := by
  have uS : Upd [f] w (w.setCell ⟨f, 0, none⟩ (.slice a' l2.length c')) := (Upd.refl _ _).setCell (by simp) _
  refine ⟨⟨a', c', ⟨h.blk.set 0 _, hB.upd uS (fun k hk => ?_), hc, h.low⟩⟩, uS⟩
  have := h.low
  simp; omega

set_option maxRecDepth 20000 in
theorem iin_ok (f : Nat) (z : Int) (w : World) (h : -maxN ≤ z ∧ z ≤ maxN) : Calls Tryz.prog 96 #[.pointer (some ⟨f, 0, none⟩), .int .i64 z] w fun e w' => e = .returned (.int .i64 z) ∧ w' = w := by
  unfold maxN at h
  obtain ⟨h1, h2⟩ := h
  have t1 : decide (z < -1099511627776) = false := by simp; omega
  have t2 : decide (1099511627776 < z) = false := by simp; omega
  clear h1 h2
  go_enter Tryz.func96, Tryz.ntmps96
  go_wp2_with fail
  refine bodyPost_ret (results_tmp rfl _ _ _) rfl ?_
  exact ⟨rfl, rfl⟩
set_option maxRecDepth 20000 in
theorem iin_no (f : Nat) (z : Int) (b : Bool) (w : World) (h : ¬ (-maxN ≤ z ∧ z ≤ maxN)) (h1 : w.cell? ⟨f, 1, none⟩ = some (.bool b)) (h2 : w.frozen? ⟨f, 1, none⟩ = false) (h3 : f < w.heap.size) :
    Calls Tryz.prog 96 #[.pointer (some ⟨f, 0, none⟩), .int .i64 z] w fun e w' => e = .returned (.int .i64 0) ∧ w' = w.setCell ⟨f, 1, none⟩ (.bool true) := by
  unfold maxN at h
  have tz : (decide (z < -1099511627776) = true) ∨ (decide (z < -1099511627776) = false ∧ decide (1099511627776 < z) = true) := by
    by_cases h1 : z < -1099511627776
    · left; simpa using h1
    · right; refine ⟨by simpa using h1, by simp; omega⟩
  clear h
  rcases tz with t1 | ⟨t1, t2⟩
  all_goals
    go_enter Tryz.func96, Tryz.ntmps96
    go_wp2_with fail
    refine bodyPost_ret (results_tmp rfl _ _ _) rfl ?_
    exact ⟨rfl, rfl⟩

/-- What reading a number does. -/
def INumPost (B f : Nat) (l : List Nat) (b : Bool) (w : World) (e : Ending) (w' : World) : Prop :=
  ∃ (n : Int) (l' : List Nat) (b' : Bool), e = .returned (.int .i64 n) ∧ Ir B w' f l' b' ∧ Upd [f] w w' ∧ ROk nget l b n l' b'

theorem wrap64_id {n : Int} (h1 : -9223372036854775808 ≤ n) (h2 : n ≤ 9223372036854775807) : wrap64 n = n := by unfold wrap64; omega
theorem shl_i64 {u x i : Nat} (hu : u < 128 ^ i) (hx : x < 256) (hi : i < 6) : wrap64 ((u : Int) + wrap64 ((x : Int) % 128 * 2 ^ (7 * i))) = ((u + x % 128 * 128 ^ i : Nat) : Int) := by
  have hp : (128 : Nat) ^ i = 2 ^ (7 * i) := by rw [Nat.pow_mul]
  have hle : (128 : Nat) ^ i ≤ 128 ^ 5 := Nat.pow_le_pow_right (by decide) (by omega)
  have h5 : (128 : Nat) ^ 5 = 34359738368 := by decide
  have hm : x % 128 < 128 := Nat.mod_lt _ (by decide)
  have hml : x % 128 * 128 ^ i ≤ 127 * 34359738368 := Nat.mul_le_mul (by omega) (by omega)
  have e2 : (x : Int) % 128 * 2 ^ (7 * i) = ((x % 128 * 128 ^ i : Nat) : Int) := by rw [hp]; simp
  obtain ⟨m, hm2⟩ : ∃ m, m = x % 128 * 128 ^ i := ⟨_, rfl⟩
  have hu2 : u < 34359738368 := by omega
  rw [e2, ← hm2]
  rw [← hm2] at hml
  clear hp hle h5 hu hm e2
  clear hm2
  rw [wrap64_id (n := (m : Int)) (by omega) (by omega), wrap64_id (by omega) (by omega)]
  omega
theorem zag_odd2 {u : Nat} (h : u % 2 = 1) : -((u : Int) + 1) / 2 = zag u := by unfold zag; rw [if_pos h]

set_option maxRecDepth 20000 in
set_option maxHeartbeats 4000000 in
theorem inum_post (B f : Nat) (l : List Nat) (b : Bool) (w : World) (h : Ir B w f l b) :
    Calls Tryz.prog 56 #[.pointer (some ⟨f, 0, none⟩)] w (INumPost B f l b w) := by
  obtain ⟨i5, hi5, hz0, hz1, hz2⟩ := infoU8
  obtain ⟨a, c, h⟩ := h
  have H := Lib.hid h
  have c0 := h.blk.cell (o := 0) rfl
  have c2 := h.blk.cell (o := 1) rfl
  have hfz := h.blk.frozen 0
  have hfz2 := h.blk.frozen 1
  have hlt := h.blk.lt
  obtain ⟨hc1, hc2⟩ := h.cap
  unfold maxLen at hc2
  have none_post : nget l = none → INumPost B f l b w (.returned (.int .i64 0)) ((w.setCell ⟨f, 1, none⟩ (.bool true)).setCell ⟨f, 0, none⟩ (.slice none 0 0)) := fun hn => by
    obtain ⟨⟨a1, c1, h1⟩, u1⟩ := ir_set (b := b) ⟨a, c, h⟩ true
    obtain ⟨h2, u2⟩ := ir_cut (l2 := []) (c' := 0) h1 (Bytes.nil _ _ none) ⟨by simp, by simp⟩
    exact ⟨0, [], true, rfl, h2, u1.trans u2 (by simp), fun e => (by cases e), fun _ => .inr hn⟩
  have HNONE := Lib.hid none_post
  clear h none_post
  go_enter Tryz.func56, Tryz.ntmps56
  go_wp2_with fail
  go_loopg [3, 4, 5] 6 (fun g s t v wr => ∃ (i : Nat), t = .int .i64 i ∧ 6 - i = g ∧ i ≤ 6 ∧ i ≤ l.length ∧ s = .int .i64 (val (l.take i)) ∧ (∀ x ∈ l.take i, 128 ≤ x) ∧ wr = w)
  case atStart => exact ⟨0, rfl, rfl, by omega, by omega, by simp [val], by simp, rfl⟩
  case round =>
    obtain ⟨i, rfl, hg, hi6, hil, rfl, hall, rfl⟩ := hrel
    have HA := Lib.hid hall
    have HG := Lib.hid hg
    clear hall hg
    by_cases hll : i < l.length
    · have tl : decide (i < l.length) = true := by simp; omega
      by_cases hlt6 : i < 6
      · have t6 : decide ((i : Int) < 6) = true := by simp; omega
        obtain ⟨x, hx⟩ : ∃ x, l[i]? = some x := ⟨_, List.getElem?_eq_getElem hll⟩
        obtain ⟨hx2, d, o, rfl, hdB, hdl, hcell⟩ := H.out.byte i x hx
        have HX := Lib.hid hx
        have hv : val (l.take i) < 128 ^ i := by
          have := val_lt (l.take i)
          rwa [show (l.take i).length = i by simp; omega] at this
        have HOR := Lib.hid (shl_i64 (x := x) hv hx2 hlt6)
        have hv2 : val (l.take i) + x % 128 * 128 ^ i < 128 ^ (i + 1) := by
          have h1 : x % 128 * 128 ^ i ≤ 127 * 128 ^ i := Nat.mul_le_mul_right _ (by omega)
          rw [Nat.pow_succ]; omega
        have hv3 : (128 : Nat) ^ (i + 1) ≤ 128 ^ 6 := Nat.pow_le_pow_right (by decide) (by omega)
        have h6 : (128 : Nat) ^ 6 = 4398046511104 := by decide
        have HS := Lib.hid (val_snoc (l.take i) x)
        have hsn : l.take (i + 1) = l.take i ++ [x] := take_snoc hx
        have HSN := Lib.hid hsn
        obtain ⟨u2, hu2⟩ : ∃ u2, u2 = val (l.take i) + x % 128 * 128 ^ i := ⟨_, rfl⟩
        have HOR2 : Hid (wrap64 ((val (l.take i) : Int) + wrap64 ((x : Int) % 128 * 2 ^ (7 * i))) = (u2 : Int)) := Lib.hid (by rw [hu2]; exact HOR.out)
        rw [← hu2] at hv2
        have HU2 := Lib.hid hu2
        have hu2l : u2 ≤ 8796093022208 := by omega
        clear hx hu2 hv hv3 h6 hsn hv2
        unfold bv at hcell
        go_upto_if 35 with fail
        have hor := HOR2.out
        simp only [hor]
        clear hor
        generalize wrap64 ((x : Int) % 128 * 2 ^ (7 * i)) = j1
        generalize (x : Int) % 128 = j2
        by_cases hx128 : x < 128
        · have tx : decide ((x : Int) < 128) = true := by simp; omega
          obtain ⟨a', c', hsl, hB', hcc⟩ := bytes_from (P := Tryz.prog) (t := 22) (by rw [Tryz.elem22]; exact Tryz.underlying22) Tryz.elem22 hi5 hz1 H.out.byte (i + 1) (by omega) H.out.cap.1
          rw [show ((i + 1 : Nat) : Int) = (i : Int) + 1 from by omega] at hsl
          have HSL := Lib.hid hsl
          have hng := nget_at HX.out HA.out hlt6 hx128
          rw [show x * 128 ^ i = x % 128 * 128 ^ i by rw [Nat.mod_eq_of_lt hx128], ← HU2.out] at hng
          have HNG := Lib.hid hng
          have hdl2 : (l.drop (i + 1)).length = l.length - (i + 1) := by simp
          obtain ⟨f1, u1⟩ := ir_cut (l2 := l.drop (i + 1)) (c' := c') H.out hB' (by rw [hdl2]; exact ⟨hcc.1, Nat.le_trans hcc.2 H.out.cap.2⟩)
          rw [hdl2] at f1 u1
          have F1 := Lib.hid f1
          have U1 := Lib.hid u1
          have hcc' := hcc.1
          clear hsl hB' hng hdl2 f1 u1 hcc hcc'
          obtain ⟨z, hz⟩ : ∃ z, z = zag u2 := ⟨_, rfl⟩
          have HZ := Lib.hid hz
          obtain ⟨b2, hb2⟩ : ∃ b2, b2 = (b || (decide (0 < i) && decide (x = 0))) := ⟨_, rfl⟩
          obtain ⟨f2, u2'⟩ := ir_set F1.out b2
          have HM2 := Lib.hid (ir_mark f2)
          have F2 := Lib.hid f2
          have U2 := Lib.hid (U1.out.trans u2' (by simp))
          have hF3 := ir_set F2.out true
          have F3 := Lib.hid hF3.1
          have U3 := Lib.hid (U2.out.trans hF3.2 (by simp))
          clear f2 u2' hF3
          have HB2 := Lib.hid hb2
          clear hb2
          have hin : ∀ b3, (b2 = true → b3 = true) → (0 < i ∧ x = 0 → b3 = true) → (b3 = false → -maxN ≤ z ∧ z ≤ maxN) → (b3 = true → b2 = true ∨ ¬ (-maxN ≤ z ∧ z ≤ maxN)) → ∀ n, (b3 = false → n = z) → ROk nget l b n (l.drop (i + 1)) b3 := by
            intro b3 k1 k2 k3 k4 n k5
            constructor
            · intro e
              have hb : b2 = false := by cases b2 with | false => rfl | true => rw [k1 rfl] at e; cases e
              rw [HB2.out] at hb
              simp only [Bool.or_eq_false_iff] at hb
              refine ⟨hb.1, ?_⟩
              rw [HNG.out, if_neg (fun hc => by rw [k2 hc] at e; cases e), ← HZ.out, if_pos (k3 e), k5 e]
            · intro e
              by_cases hc : 0 < i ∧ x = 0
              · right; rw [HNG.out, if_pos hc]
              · rcases k4 e with h | h
                · rw [HB2.out] at h
                  simp only [Bool.or_eq_true, Bool.and_eq_true, decide_eq_true_eq] at h
                  rcases h with h | h
                  · exact .inl h
                  · exact absurd h hc
                · right; rw [HNG.out, if_neg hc, ← HZ.out, if_neg h]
          have HIN := Lib.hid hin
          have hxz : 0 < i ∧ x = 0 → b2 = true := fun hc => by rw [HB2.out]; simp [hc]
          have HXZ := Lib.hid hxz
          clear hin hxz hcell tl t6
          have hparz : ((u2 : Int) % 2 = 1 ∧ -((u2 : Int) + 1) / 2 = z) ∨ ((u2 : Int) % 2 = 0 ∧ (u2 : Int) / 2 = z) := by
            rcases Nat.mod_two_eq_zero_or_one u2 with h | h
            · right; exact ⟨by omega, by rw [hz, zag_even h]⟩
            · left; exact ⟨by omega, by rw [hz, zag_odd2 h]⟩
          have HPZ := Lib.hid hparz
          clear hparz hz
          have tb : (b = true ∧ b2 = true) ∨ (b = false ∧ decide ((0 : Int) < (i : Int)) = false ∧ decide (0 < i) = false ∧ ¬ 0 < i ∧ b2 = false) ∨ (b = false ∧ decide ((0 : Int) < (i : Int)) = true ∧ decide (0 < i) = true ∧ ((x : Int) == 0) = true ∧ decide (x = 0) = true ∧ b2 = true) ∨ (b = false ∧ decide ((0 : Int) < (i : Int)) = true ∧ decide (0 < i) = true ∧ ((x : Int) == 0) = false ∧ ¬ x = 0 ∧ b2 = false) := by
            rw [HB2.out]
            cases b with
            | true => left; simp
            | false =>
              right
              by_cases h0 : 0 < i
              · right
                by_cases hx0 : x = 0
                · left; subst hx0; simp [h0]
                · right; simp [h0, hx0]
              · left; simp [h0]
          have hpar : ((u2 : Int) % 2 = 1 ∧ Hid (wrap64 (-((u2 : Int) + 1).tdiv 2) = z)) ∨ ((u2 : Int) % 2 = 0 ∧ Hid ((u2 : Int) / 2 = z)) := by
            rcases HPZ.out with ⟨p1, p2⟩ | ⟨p1, p2⟩
            · left
              refine ⟨p1, Lib.hid ?_⟩
              have e1 : ((u2 : Int) + 1).tdiv 2 = ((u2 : Int) + 1) / 2 := Int.tdiv_eq_ediv_of_nonneg (by omega)
              rw [e1, wrap64_id (by omega) (by omega), ← p2]
              omega
            · exact .inr ⟨p1, Lib.hid p2⟩
          rcases tb with ⟨rfl, rfl⟩ | ⟨rfl, t1, t2, t3, rfl⟩ | ⟨rfl, t1, t2, t3, t4, rfl⟩ | ⟨rfl, t1, t2, t3, t4, rfl⟩
          all_goals
            rcases hpar with ⟨p1, p2⟩ | ⟨p1, p2⟩
            all_goals
              go_wp2_with (refine wpList_run (o := ⟨some 43, .slice 22 (.tmp 40) (some (.tmp 42)) none none, _, _, _, _⟩) rfl (exec_sliceAt (by rfl) (by rfl) (by rfl) (by rfl) HSL.out) ?_)
              rw [p2.out]
              by_cases hr : -maxN ≤ z ∧ z ≤ maxN
              · have HR := Lib.hid hr
                clear hr
                refine (iin_ok f z _ HR.out).mono ?_
                rintro e w1 ⟨rfl, rfl⟩
                go_wp2_with fail
                refine bodyPost_ret (results_tmp rfl _ _ _) rfl ?_
                exact ⟨z, l.drop (i + 1), _, rfl, F2.out, U2.out, HIN.out _ (fun h => by first | rfl | exact h | exact h.elim) (fun h => by first | rfl | (have h2 := HXZ.out h; first | exact h2 | exact h2.elim)) (fun _ => HR.out) (fun h => by first | exact .inl trivial | exact .inl h | (cases h)) z (fun _ => rfl)⟩
              · have HR := Lib.hid hr
                clear hr
                refine (iin_no f z _ _ HR.out HM2.out.1 HM2.out.2.1 HM2.out.2.2.1).mono ?_
                rintro e w1 ⟨rfl, rfl⟩
                go_wp2_with fail
                refine bodyPost_ret (results_tmp rfl _ _ _) rfl ?_
                exact ⟨0, l.drop (i + 1), true, rfl, F3.out, U3.out, HIN.out true (fun _ => rfl) (fun _ => rfl) (fun e => by cases e) (fun _ => .inr HR.out) 0 (fun e => by cases e)⟩
        · have tx : decide ((x : Int) < 128) = false := by simp; omega
          go_wp2_with fail
          go_roundg (6 - (i + 1))
          case measure => have := HG.out; omega
          case rel => exact ⟨i + 1, by go_num, rfl, by omega, by omega, by rw [HSN.out, HS.out, show (l.take i).length = i by simp; omega, ← HU2.out], fun y hy => by
            rw [HSN.out] at hy
            rcases List.mem_append.1 hy with hy | hy
            · exact HA.out y hy
            · simp at hy; omega, rfl⟩
      · have t6 : decide ((i : Int) < 6) = false := by simp; omega
        have HF := Lib.hid (HNONE.out (nget_end HA.out hi6 hil (.inl (by omega))))
        go_wp2_with fail
        refine bodyPost_ret (results_tmp rfl _ _ _) rfl ?_
        exact HF.out
    · have tl : decide (i < l.length) = false := by simp; omega
      have HF := Lib.hid (HNONE.out (nget_end HA.out hi6 hil (.inr (by omega))))
      go_wp2_with fail
      refine bodyPost_ret (results_tmp rfl _ _ _) rfl ?_
      exact HF.out
end Go.Proofs.YthclnpigplcckaaGreat
