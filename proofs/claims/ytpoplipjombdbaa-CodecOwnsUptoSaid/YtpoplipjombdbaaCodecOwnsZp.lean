/- CodecOwns returns true for every input of bulk at most 1048576, and the input reads afterwards as it did. Condition: the bulk. -/
import Derived.Test.YtpoplipjombdbaaZbh
set_option linter.unusedVariables false
set_option linter.unusedSimpArgs false
/- law01's CodecOwns, walked. -/
namespace Go.Proofs.Ytpoplipjombdbaa
open Go.RowKit Go.Lb Go.Rc

set_option maxRecDepth 20000 in
set_option maxHeartbeats 4000000 in
theorem owns_ok (cs : List Value) (v : Val) (w : World) (hr : sMsg.Rep w (· < w.heap.size) cs v) (hl : sMsg.wmax v ≤ 1099511627776) :
    Calls Try.prog 11 #[.agg cs.toArray] w fun e w' => e = .returned (.bool true) ∧ Upd [] w w' := by
  obtain ⟨g, hg⟩ := good_dec sMsg v
  have hlen : cs.length = 46 := hr.len
  have uW : Upd [] w (w.alloc (.cells cs.toArray 61)) := (Upd.refl _ _).alloc _
  have HB := Lib.hid (Blk.new w 61 cs)
  have HR := Lib.hid (rep_all hr uW)
  have UW := Lib.hid uW
  have HGV := Lib.hid hg
  obtain ⟨pb, hpb⟩ : ∃ pb, pb = bytesOf g sMsg v := ⟨_, rfl⟩
  have HPB := Lib.hid hpb
  have HPL : Hid (pb.length ≤ 1099511627776) := Lib.hid (by rw [hpb]; exact bytesOf_len hg hl)
  clear hr uW hg hpb
  go_enter Try.func11, Try.ntmps11
  go_wp2_with (refine wpList_load_blk rfl 61 (.tmp 1) rfl w.heap.size rfl HB.out Try.underlying61 rfl (by rw [hlen]; exact Try.size61) ?_)
  refine (puts_u putMsg_puts HR.out hl HGV.out HPB.out).mono ?_
  rintro e w1 ⟨a1, c1, rfl, uu, b, hc⟩
  have U1 := Lib.hid (UW.out.trans uu (by simp))
  have D1 := Lib.hid (bytes_all b (Upd.refl _ _))
  have HB1 := Lib.hid (uu.blk HB.out (by simp))
  have HR1 := Lib.hid (rep_all HR.out uu)
  have HC1 := Lib.hid hc
  clear uu b hc
  go_wp2_with (refine wpList_load_blk rfl 61 (.tmp 1) rfl w.heap.size rfl HB1.out Try.underlying61 rfl (by rw [hlen]; exact Try.size61) ?_)
  refine (puts_u rputMsg_puts HR1.out hl HGV.out HPB.out).mono ?_
  rintro e w2 ⟨a2, c2, rfl, uu, b, hc⟩
  have U2 := Lib.hid (U1.out.trans uu (by simp))
  have D2 := Lib.hid (bytes_all D1.out uu)
  have E2 := Lib.hid (bytes_all b (Upd.refl _ _))
  have HB2 := Lib.hid (uu.blk HB1.out (by simp))
  have HR2 := Lib.hid (rep_all HR1.out uu)
  clear uu b hc
  cases g with
  | false =>
    rw [show errOf false = 1 from rfl]
    go_wp2_with fail
    refine (known_true _).mono ?_
    rintro e w3 ⟨rfl, uu⟩
    have U3 := Lib.hid (U2.out.trans uu (by simp))
    clear uu
    go_wp2_with fail
    refine bodyPost_ret (results_tmp rfl _ _ _) rfl ?_
    exact ⟨rfl, U3.out⟩
  | true =>
    rw [show errOf true = 0 from rfl]
    have HGET : Hid (sMsg.get pb = some (v, [])) := Lib.hid (by rw [HPB.out]; exact get_bytesOf HGV.out rfl)
    go_wp2_with fail
    refine (gets_u (g := true) (v := v) getMsg_gets D2.out HC1.out (fun _ => HGET.out) (fun h => by cases h)).mono ?_
    rintro e w3 ⟨ds, v2, rfl, uu, hr3, hv3, hgd⟩
    obtain ⟨aE, nE, cE, aV, nV, cV, aD, lD, cD, aA, nA, cA, k12, k13, k15, k45, hE, hV, hD, hA, gE, gV, gD, gA⟩ := msg_fields hr3.mut hgd
    have hdl : ds.length = 46 := hr3.len
    have HONE := Lib.hid hr3.one
    obtain ⟨nD, hnD⟩ : ∃ n, n = lD.length := ⟨_, rfl⟩
    have hDD := hD.heads
    rw [← hnD] at k15 gD hDD
    have hE : Heads (since w2.heap.size w3.heap.size) w3 aE 29 nE := hE
    have hA : Heads (since w2.heap.size w3.heap.size) w3 aA 11 nA := hA
    obtain ⟨F, hF⟩ : ∃ F, F = since w2.heap.size w3.heap.size := ⟨_, rfl⟩
    rw [← hF] at hE hA hDD
    have HFM : Hid (∀ k, k ∈ F ↔ w2.heap.size ≤ k ∧ k < w3.heap.size) := Lib.hid (fun k => by rw [hF]; exact mem_since)
    have H3 : Hid (Heads F w3 aE 29 nE ∧ Heads F w3 aD 1 nD ∧ Heads F w3 aA 11 nA) := Lib.hid ⟨hE, hDD, hA⟩
    have K12 := Lib.hid k12
    have K15 := Lib.hid k15
    have K45 := Lib.hid k45
    have U3 := Lib.hid (U2.out.trans uu (by simp))
    have U23 := Lib.hid uu
    clear uu hr3 hv3 hgd k12 k13 k15 k45 hE hV hD hA gV hnD hDD hF
    go_wp2_with (first | (refine wpList_alloc_blk rfl 61 rfl sMsg.zc (zero61 _) ?_; intro wP hP uP; have HPb := Lib.hid hP; have UP := Lib.hid uP; clear hP uP) | (refine wpList_store_blk rfl 61 (.tmp 7) (.tmp 35) rfl w3.heap.size ds rfl rfl HPb.out (by rw [hdl]; exact Try.size61) (by rw [hdl]; rfl) HONE.out ?_; intro w5 hd ud; have HD5 := Lib.hid hd; have U5 : Hid (Upd [] w3 w5) := Lib.hid (UP.out.trans ud (by simp)); have c15 := hd.cell K15.out; have cl := hd.lt; clear hd ud))
    have H5 : Hid (Heads F w5 aE 29 nE ∧ Heads F w5 aD 1 nD ∧ Heads F w5 aA 11 nA) := Lib.hid ⟨H3.out.1.upd U5.out (by simp), H3.out.2.1.upd U5.out (by simp), H3.out.2.2.upd U5.out (by simp)⟩
    obtain ⟨mb, hmb⟩ : ∃ mb, mb = w3.heap.size := ⟨_, rfl⟩
    rw [← hmb] at HD5 c15 cl ⊢
    have HMF : Hid (mb ∉ F) := Lib.hid (fun h => by have := (HFM.out mb).1 h; omega)
    have HMB := Lib.hid hmb
    clear hmb
    go_wp2_with fail
    go_loopg [9] nD (fun g t wr => ∃ (i : Nat), t = .int .i64 i ∧ nD - i = g ∧ i ≤ nD ∧ (Heads F wr aE 29 nE ∧ Heads F wr aD 1 nD ∧ Heads F wr aA 11 nA) ∧ Blk wr mb 61 ds ∧ Upd F w5 wr)
    case atStart => exact ⟨0, rfl, rfl, by omega, H5.out, HD5.out, Upd.refl _ _⟩
    case round =>
      obtain ⟨j, rfl, hg, hi, hhs, hbl, hu⟩ := hrel
      have HG := Lib.hid hg
      have HHS := Lib.hid hhs
      have HBL := Lib.hid hbl
      have HU := Lib.hid hu
      have c15 := hbl.cell K15.out
      have cl := hbl.lt
      clear hg hhs hbl hu
      by_cases hlt : j < nD
      · have t1 : decide ((j : Int) < (nD : Int)) = true := by simp; omega
        obtain ⟨b, o, u, ha, hbF, hsf, hbc⟩ := HHS.out.2.1 j hlt
        subst ha
        have q1 : wr.cell? ⟨b, o + j, none⟩ = some u := by simpa using hbc
        have q2 := hsf.frozen (o + j)
        have q3 := block_lt_of_cell hbc
        have HBF := Lib.hid hbF
        clear hbc hbF hsf
        go_wp2_with fail
        go_roundg (nD - (j + 1))
        case measure => have := HG.out; omega
        case rel => exact ⟨j + 1, by go_num, rfl, by omega, ⟨HHS.out.1.set _ _, HHS.out.2.1.set _ _, HHS.out.2.2.set _ _⟩, HBL.out.other (a := ⟨b, o + j, none⟩) (fun e => HMF.out (by rw [e]; exact HBF.out)) _, HU.out.setCell (.inl HBF.out) _⟩
      · obtain rfl : nD = j := by omega
        have c12 := HBL.out.cell K12.out
        go_wp2_with fail
        go_loopg [10] nE (fun g t wr => ∃ (i : Nat), t = .int .i64 i ∧ nE - i = g ∧ i ≤ nE ∧ (Heads F wr aE 29 nE ∧ Heads F wr aD 1 nD ∧ Heads F wr aA 11 nA) ∧ Blk wr mb 61 ds ∧ Upd F w5 wr)
        case atStart => exact ⟨0, rfl, rfl, by omega, HHS.out, HBL.out, HU.out⟩
        case round =>
          obtain ⟨j, rfl, hg, hi, hhs, hbl, hu⟩ := hrel
          have HG := Lib.hid hg
          have HHS := Lib.hid hhs
          have HBL := Lib.hid hbl
          have HU := Lib.hid hu
          have c12 := hbl.cell K12.out
          have cl := hbl.lt
          clear hg hhs hbl hu
          by_cases hlt : j < nE
          · have t1 : decide ((j : Int) < (nE : Int)) = true := by simp; omega
            obtain ⟨b, o, u, ha, hbF, hsf, hbc⟩ := HHS.out.1 j hlt
            subst ha
            have q1 : wr.cell? ⟨b, o + j * 29, none⟩ = some u := by exact hbc
            have q2 := hsf.frozen (o + j * 29)
            have q3 := block_lt_of_cell hbc
            have HBF := Lib.hid hbF
            clear hbc hbF hsf
            go_wp2_with fail
            go_roundg (nE - (j + 1))
            case measure => have := HG.out; omega
            case rel => exact ⟨j + 1, by go_num, rfl, by omega, ⟨HHS.out.1.set _ _, HHS.out.2.1.set _ _, HHS.out.2.2.set _ _⟩, HBL.out.other (a := ⟨b, o + j * 29, none⟩) (fun e => HMF.out (by rw [e]; exact HBF.out)) _, HU.out.setCell (.inl HBF.out) _⟩
          · obtain rfl : nE = j := by omega
            have c45 := HBL.out.cell K45.out
            go_wp2_with fail
            go_loopg [11] nA (fun g t wr => ∃ (i : Nat), t = .int .i64 i ∧ nA - i = g ∧ i ≤ nA ∧ (Heads F wr aE 29 nE ∧ Heads F wr aD 1 nD ∧ Heads F wr aA 11 nA) ∧ Blk wr mb 61 ds ∧ Upd F w5 wr)
            case atStart => exact ⟨0, rfl, rfl, by omega, HHS.out, HBL.out, HU.out⟩
            case round =>
              obtain ⟨j, rfl, hg, hi, hhs, hbl, hu⟩ := hrel
              have HG := Lib.hid hg
              have HHS := Lib.hid hhs
              have HBL := Lib.hid hbl
              have HU := Lib.hid hu
              have c45 := hbl.cell K45.out
              have cl := hbl.lt
              clear hg hhs hbl hu
              by_cases hlt : j < nA
              · have t1 : decide ((j : Int) < (nA : Int)) = true := by simp; omega
                obtain ⟨b, o, u, ha, hbF, hsf, hbc⟩ := HHS.out.2.2 j hlt
                subst ha
                have q1 : wr.cell? ⟨b, o + j * 11, none⟩ = some u := by exact hbc
                have q2 := hsf.frozen (o + j * 11)
                have q3 := block_lt_of_cell hbc
                have HBF := Lib.hid hbF
                clear hbc hbF hsf
                go_wp2_with fail
                go_roundg (nA - (j + 1))
                case measure => have := HG.out; omega
                case rel => exact ⟨j + 1, by go_num, rfl, by omega, ⟨HHS.out.1.set _ _, HHS.out.2.1.set _ _, HHS.out.2.2.set _ _⟩, HBL.out.other (a := ⟨b, o + j * 11, none⟩) (fun e => HMF.out (by rw [e]; exact HBF.out)) _, HU.out.setCell (.inl HBF.out) _⟩
              · obtain rfl : nA = j := by omega
                have HNF : Hid (∀ k, k < w2.heap.size → k ∉ F) := Lib.hid (fun k hk hf => by have := (HFM.out k).1 hf; omega)
                have UR : Hid (Upd F w2 wr) := Lib.hid (((U23.out.trans U5.out (by simp)).mono (by simp)).trans HU.out (fun k hk => .inl hk))
                have UWR : Hid (Upd [] w wr) := Lib.hid (U2.out.trans UR.out (fun k hk => .inr (by have := (HFM.out k).1 hk; have := U2.out.size; omega)))
                have DR := Lib.hid (D2.out.keep (ok' := fun _ => True) (fun k hk hl => ⟨trivial, UR.out.block k hl (HNF.out k hl)⟩) UR.out.size)
                have ER := Lib.hid (E2.out.keep (ok' := fun _ => True) (fun k hk hl => ⟨trivial, UR.out.block k hl (HNF.out k hl)⟩) UR.out.size)
                have HBR := Lib.hid (UR.out.blk HB2.out (HNF.out _ HB2.out.lt))
                have HRR := Lib.hid (HR2.out.keep (ok' := (· < wr.heap.size)) (fun k hk hl => ⟨Nat.lt_of_lt_of_le hl UR.out.size, UR.out.block k hl (HNF.out k hl)⟩) UR.out.size)
                go_wp2_with fail
                refine (same_any _ _ a1 a2 c1 c2 pb pb _ DR.out ER.out HPL.out).mono ?_
                rintro e w6 ⟨rfl, uu⟩
                rw [show (pb == pb) = true by simp]
                have U6 := Lib.hid (UWR.out.trans uu (by simp))
                have E6 := Lib.hid (ER.out.upd uu (by simp))
                have HB6 := Lib.hid (uu.blk HBR.out (by simp))
                have HR6 := Lib.hid (rep_all HRR.out uu)
                clear uu
                go_wp2_with (refine wpList_load_blk rfl 61 (.tmp 1) rfl w.heap.size rfl HB6.out Try.underlying61 rfl (by rw [hlen]; exact Try.size61) ?_)
                refine (puts_u (g := true) putMsg_puts HR6.out hl (by simpa using HGV.out) HPB.out).mono ?_
                rintro e w7 ⟨a7, c7, rfl, uu, b, hc⟩
                have U7 := Lib.hid (U6.out.trans uu (by simp))
                have E7 := Lib.hid (E6.out.upd uu (by simp))
                have D7 := Lib.hid (bytes_all b (Upd.refl _ _))
                clear uu b hc
                go_wp2_with fail
                refine (same_any _ _ a7 a2 c7 c2 pb pb _ D7.out E7.out HPL.out).mono ?_
                rintro e w8 ⟨rfl, uu⟩
                rw [show (pb == pb) = true by simp]
                have U8 := Lib.hid (U7.out.trans uu (by simp))
                clear uu
                go_wp2_with fail
                refine (known_true _).mono ?_
                rintro e w9 ⟨rfl, uu⟩
                have U9 := Lib.hid (U8.out.trans uu (by simp))
                clear uu
                go_wp2_with fail
                refine bodyPost_ret (results_tmp rfl _ _ _) rfl ?_
                exact ⟨rfl, U9.out⟩
end Go.Proofs.Ytpoplipjombdbaa
namespace Go.Proofs.Ytpoplipjombdbaa.codecOwns
open Go.ChangeShapes Go.WideShapes Go.ChangeAt Go.RowKit Go.Lb Go.Rc

set_option maxRecDepth 100000 in
theorem contract (H : Type) (enc : TypeId × Value → H) (W : World) (base : Nat) (args : Array Value) (ds gs : List (DataW H)) (before : List MemPlace)
    (hval : ∀ (j : Nat) t v, Try.f11.params[j]? = some t → args[j]? = some v → Value.okWide Try.prog W .any base t v)
    (hW : DataW.Whole enc Try.prog Try.f11.params.toList Rows.codecOwnsSpec.vars false W args.toList ds gs before) (hk : Rows.uptoSmall H (ds ++ gs) = true) :
    Calls Try.prog 11 args W fun e W' => ∃ v, e = .returned v ∧ Rows.codecOwnsSpec.post enc Try.prog Try.f11 false true false false W args v W' := by
  have hW' := hW
  obtain ⟨p, q, hA0, hV, rfl, hfz, hnd⟩ := hW
  have hA : DataW.TrodAll enc Try.prog W 0 (fun _ => true) true Try.f11.params.toList args.toList ds p := hA0
  rw [Try.params11] at hA hval
  obtain ⟨v0, vs0, d0, ds0, p0, q0, hargs, rfl, rfl, h0, r0⟩ := trodAll_cons hA
  obtain ⟨rfl, rfl, rfl⟩ := trodAll_nil r0
  obtain rfl : args = #[v0] := by cases args; simp_all
  obtain ⟨rfl, rfl⟩ := trodVars_none hV
  have k0 := h0
  have lt0 : ∀ x ∈ p0, x.block < W.heap.size := by obtain ⟨m, hm⟩ := k0; exact DataW.trod_lt m _ _ _ hm
  have hb := bulk_of hk
  simp only [List.append_nil, List.nil_append, List.cons_append, Rows.uptoBulkAll, Nat.add_zero] at hb
  obtain ⟨ar0, rfl, hz0⟩ := okWide_struct Try.underlying61 (hval 0 61 v0 rfl rfl)
  obtain ⟨cs0, rfl⟩ : ∃ cs : List Value, ar0 = cs.toArray := ⟨ar0.toList, by simp⟩
  obtain ⟨y0, hr0, hu0⟩ := arg_sch (m := 14) (s := Rc.sMsg) (by kernel_rfl) h0
  clear hA0
  refine (owns_ok cs0 y0 W hr0 (by omega)).mono fun e W' ⟨he, bel⟩ => ?_
  subst he
  exact ⟨_, rfl, _, _, _, [], _, [], hW', trodAll_mk1 (shut_bool Try.underlying4 _), (trodAll_cons_mk (Below.trod Try.laidOut (by kernel_rfl) (of_decide_eq_true (by kernel_rfl)) k0 bel.below lt0) trodAll_mk0), rfl, bel.below.frame _, fun h => by cases h⟩

set_option maxRecDepth 100000 in
theorem lifted (os : Os) (started : os.Started) (H : Type) (enc : TypeId × Value → H) (F : Stop.Interp) :
    ReturnsInHanded {} Try.checked os 11 .any ((Rows.OpenSpec.upto Rows.codecOwnsSpec).pre6 enc Try.prog Try.f11 Rows.codecOwnsUptoRow.domain false) (((Rows.OpenSpec.upto Rows.codecOwnsSpec).at F).post enc Try.prog Try.f11 false true false false) := by
  refine returnsInHanded_of_cond (C := Try.checked) (s := Rows.OpenSpec.upto Rows.codecOwnsSpec) (k := Rows.uptoSmall) rfl Try.own started (by kernel_rfl) Try.func11
    (OpenSpec.witness (enc := enc) (C := Try.checked) (s := Rows.OpenSpec.upto Rows.codecOwnsSpec) (k := Rows.uptoSmall) rfl false ⟨#[], #[.agg Rc.sMsg.zc.toArray], []⟩ 8 (by kernel_rfl) (by kernel_rfl) (by kernel_rfl)
      (x := ([.agg [.lit (.int .i64 0), .lit (.int .i64 0), .lit (.int .i64 0), .lit (.int .i64 0), .lit (.int .i64 0), .lit (.int .i64 0), .lit (.int .i64 0), .lit (.bool false), .lit (.int .i64 0), .lit (.int .i64 0), .lit (.int .i64 0), .lit (.int .i64 0), .nil, .agg [.nil, .nil], .nil, .agg [.lit (.int .i64 0), .lit (.int .i64 0), .lit (.int .i64 0), .agg [.lit (.int .i64 0), .lit (.int .i64 0), .lit (.int .i64 0), .lit (.int .i64 0), .nil, .lit (.int .i64 0), .lit (.bool false)], .agg [.lit (.int .i64 0), .agg [.lit (.int .i64 0), .lit (.int .i64 0)], .lit (.bool false), .lit (.bool false), .lit (.int .i64 0), .lit (.int .i64 0), .lit (.int .i64 0)], .nil, .agg [.lit (.int .i64 0), .lit (.int .i64 0), .lit (.int .i64 0), .nil, .nil, .lit (.bool false)], .agg [.nil, .nil]], .agg [.lit (.int .i64 0), .lit (.int .i64 0), .nil]]], [], [])) (by kernel_rfl) rfl (by kernel_rfl)) ?_
  intro W base args ds gs before hval hW _ hk _
  exact contract H enc W base args ds gs before hval hW hk

theorem closed : joinedFacts Try.prog 11 Try.f11 (Rows.OpenSpec.upto Rows.codecOwnsSpec).bare Rows.codecOwnsUptoRow = true := by
  unfold joinedFacts
  rw [Try.words1, Try.words2, Try.words3]
  kernel_rfl

theorem proved : Rows.CodecOwnsUptoSaid :=
  OpenClaim.holds_of_cond 11 Try.f11 rfl rfl rfl rfl rfl rfl rfl ⟨rfl, rfl, rfl, rfl, rfl⟩ rfl rfl rfl rfl rfl (by kernel_rfl) Try.func11 closed
    (of_decide_eq_true (by kernel_rfl)) (by unfold Func.isWrapper; first | (rw [if_pos (by decide +kernel)]; kernel_rfl) | (rw [if_neg (by decide +kernel)]; exact ⟨rfl, rfl⟩))
    (fun os started H enc _ F => lifted os started H enc F)
#print axioms proved
end Go.Proofs.Ytpoplipjombdbaa.codecOwns
