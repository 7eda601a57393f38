/- NetOwn returns true for every input of bulk at most 1048576, and the input reads afterwards as it did. Condition: the bulk. -/
import Derived.Test.YtpoplipjombdbaaZbh
set_option linter.unusedVariables false
set_option linter.unusedSimpArgs false
/- law03's over. -/
namespace Go.Proofs.Ytpoplipjombdbaa
open Go.RowKit Go.Lb Go.Rc

set_option maxRecDepth 20000 in
set_option maxHeartbeats 4000000 in
theorem over_any (F : List Nat) (cs : List Value) (x : Val) (w : World) (hr : sMsg.Rep w (Mut F w) cs x) (hgd : sMsg.good x) (hF : ∀ k ∈ F, k < w.heap.size) :
    Calls Try.prog 34 #[.agg cs.toArray] w fun e w' => e = .returned (.tuple #[]) ∧ Upd F w w' := by
  have hcl : cs.length = 46 := hr.len
  obtain ⟨aE, nE, cE, aV, nV, cV, aD, lD, cD, aA, nA, cA, k12, k13, k15, k45, hE, hV, hD, hA, gE, gV, gD, gA⟩ := msg_fields hr hgd
  have hE : Heads F w aE 29 nE := hE
  have hA : Heads F w aA 11 nA := hA
  have uW : Upd [] w (w.alloc (.cells cs.toArray 61)) := (Upd.refl _ _).alloc _
  obtain ⟨nD, hnD⟩ : ∃ n, n = lD.length := ⟨_, rfl⟩
  rw [← hnD] at k15
  have HF := Lib.hid hF
  have H0 : Hid (Heads F (w.alloc (.cells cs.toArray 61)) aE 29 nE ∧ Heads F (w.alloc (.cells cs.toArray 61)) aV 1 nV ∧ Heads F (w.alloc (.cells cs.toArray 61)) aA 11 nA) := Lib.hid ⟨hE.upd uW (by simp), hV.upd uW (by simp), hA.upd uW (by simp)⟩
  have HD0 : Hid (Bytes (w.alloc (.cells cs.toArray 61)) (Mut F (w.alloc (.cells cs.toArray 61))) aD lD) := Lib.hid (hD.keep (fun b hb hl => ⟨⟨hb.1, hb.2.keep (uW.block b hl (by simp))⟩, uW.block b hl (by simp)⟩) uW.size)
  have HB0 := Lib.hid (Blk.new w 61 cs)
  have UW : Hid (Upd F w (w.alloc (.cells cs.toArray 61))) := Lib.hid (uW.mono (by simp))
  have K12 := Lib.hid k12
  have K13 := Lib.hid k13
  have K15 := Lib.hid k15
  have K45 := Lib.hid k45
  have HND := Lib.hid hnD
  have hnDl : nD ≤ 65536 := by omega
  clear hr hgd gD hF uW hE hV hA hD k12 k13 k15 k45 hnD
  go_enter Try.func34, Try.ntmps34
  go_wp2_with fail
  obtain ⟨mb, hmb⟩ : ∃ mb, mb = w.heap.size := ⟨_, rfl⟩
  rw [← hmb] at HB0
  have HMF : Hid (mb ∉ F) := Lib.hid (fun h => by have := HF.out mb h; omega)
  rw [← hmb]
  have hmbw : w.heap.size ≤ mb := by omega
  clear hmb
  go_loopg [2] nD (fun g t wr => ∃ (i : Nat) (l : List Nat), t = .int .i64 i ∧ nD - i = g ∧ i ≤ nD ∧ l.length = nD ∧ Bytes wr (Mut F wr) aD l ∧ (Heads F wr aE 29 nE ∧ Heads F wr aV 1 nV ∧ Heads F wr aA 11 nA) ∧ Blk wr mb 61 cs ∧ Upd F w wr)
  case atStart => exact ⟨0, lD, rfl, rfl, by omega, HND.out.symm, HD0.out, H0.out, HB0.out, UW.out⟩
  case round =>
    obtain ⟨i, l, rfl, hg, hi, hll, hby, hhs, hbl, hu⟩ := hrel
    have HG := Lib.hid hg
    have HL := Lib.hid hll
    have HBY := Lib.hid hby
    have HHS := Lib.hid hhs
    have HBL := Lib.hid hbl
    have HU := Lib.hid hu
    have c15 := hbl.cell K15.out
    have cl := hbl.lt
    clear hg hll hby hhs hbl hu
    by_cases hlt : i < nD
    · have t1 : decide ((i : Int) < (nD : Int)) = true := by simp; omega
      obtain ⟨hx2, b, o, ha, hbF, hbl, hbc⟩ := HBY.out i (l[i]'(by have := HL.out; omega)) (List.getElem?_eq_getElem _)
      generalize l[i]'(by have := HL.out; omega) = x0 at *
      subst ha
      have q1 : wr.cell? ⟨b, o + i, none⟩ = some (.int .u8 (x0 : Int)) := hbc
      have q2 := hbF.2.frozen (o + i)
      obtain ⟨y, hy⟩ : ∃ y, y = (x0 + 1) % 256 := ⟨_, rfl⟩
      have hy2 : (((x0 : Int) + 1) % 256) = (y : Int) := by omega
      have hyl : y < 256 := by omega
      have HBF := Lib.hid hbF
      clear hy hbc hbF
      go_wp2_with fail
      go_region
      go_wp2_with fail
      go_roundg (nD - (i + 1))
      case measure => have := HG.out; omega
      case rel =>
        exact ⟨i + 1, l.set i y, by go_num, rfl, by omega, by rw [List.length_set]; exact HL.out, Bytes.set HBY.out rfl (by have := HL.out; omega) hyl, ⟨(HHS.out.1.set _ _).drew, (HHS.out.2.1.set _ _).drew, (HHS.out.2.2.set _ _).drew⟩, (HBL.out.other (a := ⟨b, o + i, none⟩) (fun e => HMF.out (by rw [e]; exact HBF.out.1)) _).drew, (HU.out.setCell (.inl HBF.out.1) _).drew⟩
    · obtain rfl : i = nD := by omega
      have c12 := HBL.out.cell K12.out
      go_wp2_with fail
      go_loopg [3] nE (fun g t wr => ∃ (i : Nat), t = .int .i64 i ∧ nE - i = g ∧ i ≤ nE ∧ (Heads F wr aE 29 nE ∧ Heads F wr aV 1 nV ∧ Heads F wr aA 11 nA) ∧ Blk wr mb 61 cs ∧ Upd F w wr)
      case atStart => exact ⟨0, rfl, rfl, by omega, HHS.out, HBL.out, HU.out⟩
      case round =>
        obtain ⟨j, rfl, hg, hi, hhs, hbl, hu⟩ := hrel
        have HG := Lib.hid hg
        have HHS := Lib.hid hhs
        have HBL := Lib.hid hbl
        have HU := Lib.hid hu
        have c12 := hbl.cell K12.out
        have cl := hbl.lt
        clear hg hhs hbl hu
        by_cases hlt : j < nE
        · have t1 : decide ((j : Int) < (nE : Int)) = true := by simp; omega
          obtain ⟨b, o, v, ha, hbF, hsf, hbc⟩ := HHS.out.1 j hlt
          subst ha
          have q1 : wr.cell? ⟨b, o + j * 29, none⟩ = some v := by exact hbc
          have q2 := hsf.frozen (o + j * 29)
          have q3 := block_lt_of_cell hbc
          have HBF := Lib.hid hbF
          clear hbc hbF hsf
          go_wp2_with fail
          go_roundg (nE - (j + 1))
          case measure => have := HG.out; omega
          case rel => exact ⟨j + 1, by go_num, rfl, by omega, ⟨HHS.out.1.set _ _, HHS.out.2.1.set _ _, HHS.out.2.2.set _ _⟩, HBL.out.other (a := ⟨b, o + j * 29, none⟩) (fun e => HMF.out (by rw [e]; exact HBF.out)) _, HU.out.setCell (.inl HBF.out) _⟩
        · obtain rfl : nE = j := by omega
          have c13 := HBL.out.cell K13.out
          go_wp2_with fail
          go_loopg [4] nV (fun g t wr => ∃ (i : Nat), t = .int .i64 i ∧ nV - i = g ∧ i ≤ nV ∧ (Heads F wr aE 29 nE ∧ Heads F wr aV 1 nV ∧ Heads F wr aA 11 nA) ∧ Blk wr mb 61 cs ∧ Upd F w wr)
          case atStart => exact ⟨0, rfl, rfl, by omega, HHS.out, HBL.out, HU.out⟩
          case round =>
            obtain ⟨j, rfl, hg, hi, hhs, hbl, hu⟩ := hrel
            have HG := Lib.hid hg
            have HHS := Lib.hid hhs
            have HBL := Lib.hid hbl
            have HU := Lib.hid hu
            have c13 := hbl.cell K13.out
            have cl := hbl.lt
            clear hg hhs hbl hu
            by_cases hlt : j < nV
            · have t1 : decide ((j : Int) < (nV : Int)) = true := by simp; omega
              obtain ⟨b, o, v, ha, hbF, hsf, hbc⟩ := HHS.out.2.1 j hlt
              subst ha
              have q1 : wr.cell? ⟨b, o + j, none⟩ = some v := by simpa using hbc
              have q2 := hsf.frozen (o + j)
              have q3 := block_lt_of_cell hbc
              have HBF := Lib.hid hbF
              clear hbc hbF hsf
              go_wp2_with fail
              go_roundg (nV - (j + 1))
              case measure => have := HG.out; omega
              case rel => exact ⟨j + 1, by go_num, rfl, by omega, ⟨HHS.out.1.set _ _, HHS.out.2.1.set _ _, HHS.out.2.2.set _ _⟩, HBL.out.other (a := ⟨b, o + j, none⟩) (fun e => HMF.out (by rw [e]; exact HBF.out)) _, HU.out.setCell (.inl HBF.out) _⟩
            · obtain rfl : nV = j := by omega
              have c45 := HBL.out.cell K45.out
              go_wp2_with fail
              go_loopg [5] nA (fun g t wr => ∃ (i : Nat), t = .int .i64 i ∧ nA - i = g ∧ i ≤ nA ∧ (Heads F wr aE 29 nE ∧ Heads F wr aV 1 nV ∧ Heads F wr aA 11 nA) ∧ Blk wr mb 61 cs ∧ Upd F w wr)
              case atStart => exact ⟨0, rfl, rfl, by omega, HHS.out, HBL.out, HU.out⟩
              case round =>
                obtain ⟨j, rfl, hg, hi, hhs, hbl, hu⟩ := hrel
                have HG := Lib.hid hg
                have HHS := Lib.hid hhs
                have HBL := Lib.hid hbl
                have HU := Lib.hid hu
                have c45 := hbl.cell K45.out
                have cl := hbl.lt
                clear hg hhs hbl hu
                by_cases hlt : j < nA
                · have t1 : decide ((j : Int) < (nA : Int)) = true := by simp; omega
                  obtain ⟨b, o, v, ha, hbF, hsf, hbc⟩ := HHS.out.2.2 j hlt
                  subst ha
                  have q1 : wr.cell? ⟨b, o + j * 11, none⟩ = some v := by exact hbc
                  have q2 := hsf.frozen (o + j * 11)
                  have q3 := block_lt_of_cell hbc
                  have HBF := Lib.hid hbF
                  clear hbc hbF hsf
                  go_wp2_with fail
                  go_roundg (nA - (j + 1))
                  case measure => have := HG.out; omega
                  case rel => exact ⟨j + 1, by go_num, rfl, by omega, ⟨HHS.out.1.set _ _, HHS.out.2.1.set _ _, HHS.out.2.2.set _ _⟩, HBL.out.other (a := ⟨b, o + j * 11, none⟩) (fun e => HMF.out (by rw [e]; exact HBF.out)) _, HU.out.setCell (.inl HBF.out) _⟩
                · obtain rfl : nA = j := by omega
                  go_wp2_with fail
                  go_end0
                  exact ⟨rfl, HU.out⟩
end Go.Proofs.Ytpoplipjombdbaa
/- law03's NetOwn, walked. -/
namespace Go.Rc
open Go Go.RowKit Go.Lb
theorem msg_none : sMsg.get [] = none := rfl
section
variable {T : TypeId} {own : World → Value → List Value → Prop} {w w' : World} {p m : Nat} {L : List Val} {X Y F : List Nat}
/-- New blocks that will change. -/
theorem NetAt.wide (h : NetAt T own w p m L X Y) (u : Upd [] w w') (hF : ∀ k ∈ F, w.heap.size ≤ k ∧ k < w'.heap.size) (hown : ∀ v us F, own w v us → Upd F w w' → (∀ k, v.ownBlock = some k → k ∉ F) → own w' v us) : NetAt T own w' p m L X (F ++ Y) := by
  have hlt := h.lt
  refine h.by ⟨u.mono (by simp), fun k hk => ?_⟩ hown (fun k hk => ?_)
  · rcases List.mem_append.1 hk with hk | hk
    · exact .inr (hF k hk).1
    · exact .inl hk
  · rcases List.mem_append.1 hk with hk | hk
    · exact (hF k hk).2
    · exact Nat.lt_of_lt_of_le (hlt.2.1 k hk) u.size
end
end Go.Rc
namespace Go.Proofs.Ytpoplipjombdbaa
open Go.RowKit Go.Lb Go.Rc

set_option maxRecDepth 20000 in
set_option maxHeartbeats 4000000 in
theorem netown_ok (cs : List Value) (v : Val) (w : World) (hr : sMsg.Rep w (· < w.heap.size) cs v) (hl : sMsg.wmax v ≤ 1099511627776) :
    Calls Try.prog 8 #[.agg cs.toArray] w fun e w' => e = .returned (.bool true) ∧ Upd [] w w' := by
  obtain ⟨g, hg⟩ := good_dec sMsg v
  have hlen : cs.length = 46 := hr.len
  have uW : Upd [] w (w.alloc (.cells cs.toArray 61)) := (Upd.refl _ _).alloc _
  obtain ⟨w0, hw0⟩ : ∃ w0, w0 = w.alloc (.cells cs.toArray 61) := ⟨_, rfl⟩
  obtain ⟨mb, hmb⟩ : ∃ mb, mb = w.heap.size := ⟨_, rfl⟩
  have HB := Blk.new w 61 cs
  rw [← hw0, ← hmb] at HB
  rw [← hw0] at uW
  have HBH := Lib.hid HB
  clear HB
  have HR := Lib.hid (rep_all hr uW)
  have UW := Lib.hid uW
  have HGV := Lib.hid hg
  obtain ⟨pb, hpb⟩ : ∃ pb, pb = bytesOf g sMsg v := ⟨_, rfl⟩
  have HPB := Lib.hid hpb
  have HST : Hid (∀ wi, Upd [] w0 wi → Blk wi mb 61 cs ∧ sMsg.Rep wi (· < wi.heap.size) cs v) := Lib.hid (fun wi u => ⟨u.blk HBH.out (by simp), rep_all HR.out u⟩)
  have HW0 := Lib.hid hw0
  have HMB := Lib.hid hmb
  clear hr uW hg hpb hw0 hmb
  go_enter Try.func8, Try.ntmps8
  go_wp2_with fail
  rw [← HW0.out, ← HMB.out]
  refine (nnew_yes 3 w0 (by decide) (by decide)).mono ?_
  rintro e w1 ⟨rfl, u1, h1⟩
  obtain ⟨p, hp⟩ : ∃ p, p = w0.heap.size := ⟨_, rfl⟩
  rw [← hp] at h1 ⊢
  have HP := Lib.hid hp
  have U1 := Lib.hid u1
  have H1 := Lib.hid h1
  clear u1 h1 hp
  go_wp2_with fail
  refine (nknown_true _).mono ?_
  rintro e w2 ⟨rfl, uu⟩
  have U2 := Lib.hid (U1.out.trans uu (by simp))
  have H2 := Lib.hid (H1.out.same uu (by simp) ownN_upd)
  clear uu
  go_wp2_with (refine wpList_load_blk rfl 61 (.tmp 1) rfl mb rfl (HST.out _ U2.out).1 Try.underlying61 rfl (by rw [hlen]; exact Try.size61) ?_)
  refine (puts_u rputMsg_puts (HST.out _ U2.out).2 hl HGV.out HPB.out).mono ?_
  rintro e w3 ⟨a3, c3, rfl, uu, b, hc⟩
  have U3 := Lib.hid (U2.out.trans uu (by simp))
  have H3 := Lib.hid (H2.out.same uu (by simp) ownN_upd)
  have D3 := Lib.hid (bytes_all b (Upd.refl _ _))
  have HC3 := Lib.hid hc
  have HGET : Hid (g = true → sMsg.get pb = some (v, [])) := Lib.hid (by rw [HPB.out]; exact get_bytesOf HGV.out)
  have HNON : Hid (g = false → ∀ v', sMsg.get pb ≠ some (v', [])) := Lib.hid (by rw [HPB.out]; exact get_none msg_none)
  clear uu b hc
  go_wp2_with fail
  refine (gets_u (g := g) (v := v) rgetMsg_gets D3.out HC3.out HGET.out HNON.out).mono ?_
  rintro e w4 ⟨ds, v2, rfl, uu, hr4, hv4, hgd⟩
  have hdl : ds.length = 46 := hr4.len
  have HONE := Lib.hid hr4.one
  have U4 := Lib.hid (U3.out.trans uu (by simp))
  have HV4 := Lib.hid hv4
  have HGD := Lib.hid hgd
  obtain ⟨F, hF⟩ : ∃ F, F = since w3.heap.size w4.heap.size := ⟨_, rfl⟩
  have HFM : Hid (∀ k, k ∈ F ↔ w3.heap.size ≤ k ∧ k < w4.heap.size) := Lib.hid (fun k => by rw [hF]; exact mem_since)
  have hrm := hr4.mut
  rw [← hF] at hrm
  have HRM := Lib.hid hrm
  have H4 : Hid (PNet w4 p 3 [] [p] (F ++ [])) := Lib.hid (H3.out.wide uu (fun k hk => (HFM.out k).1 hk) ownN_upd)
  have hs4 := uu.size
  clear uu hr4 hv4 hgd hrm hF
  cases g with
  | false =>
    rw [show errOf false = 1 from rfl]
    go_wp2_with (first | (refine wpList_alloc_blk rfl 61 rfl sMsg.zc (zero61 _) ?_; intro wP hP uP; have HPb := Lib.hid hP; have UP := Lib.hid uP; clear hP uP) | (refine wpList_store_blk rfl 61 (.tmp 6) (.tmp 27) rfl w4.heap.size ds rfl rfl HPb.out (by rw [hdl]; exact Try.size61) (by rw [hdl]; rfl) HONE.out ?_; intro w5 hd ud; have HD5 := Lib.hid hd; have V5 : Hid (Upd [] w4 w5) := Lib.hid (UP.out.trans ud (by simp)); have U5 : Hid (Upd [] w0 w5) := Lib.hid (U4.out.trans V5.out (by simp)); have H5 := Lib.hid (H4.out.same V5.out (by simp) ownN_upd); have HRM5 := Lib.hid (HRM.out.updM V5.out (by simp)); have hs5 := V5.out.size; clear hd ud) | (refine wpList_load_blk rfl 61 (.tmp 1) rfl mb rfl (HST.out _ U5.out).1 Try.underlying61 rfl (by rw [hlen]; exact Try.size61) ?_))
    refine (nsend_any cs v false H5.out (HST.out _ U5.out).2 hl (by simpa using HGV.out) (by decide) (by decide) (by simp)).mono ?_
    rintro e w6 ⟨rfl, X6, n6, h6⟩
    rw [show errOf false = 1 from rfl]
    have N6 := Lib.hid n6
    have H6 : Hid (PNet w6 p 3 [] X6 (F ++ [])) := Lib.hid h6
    clear n6 h6
    go_wp2_with fail
    refine (nlen_any H6.out).mono ?_
    rintro e w7 ⟨rfl, uu⟩
    have N7 := Lib.hid (N6.out.same uu)
    clear uu
    go_wp2_with fail
    refine bodyPost_ret (results_tmp rfl _ _ _) rfl ?_
    refine ⟨rfl, UW.out.trans (U5.out.trans N7.out.upd (fun k hk => ?_)) (by simp)⟩
    simp at hk; subst hk
    exact .inr (by rw [HP.out]; exact Nat.le_refl _)
  | true =>
    obtain rfl : v2 = v := HV4.out rfl
    rw [show errOf true = 0 from rfl]
    go_wp2_with (first | (refine wpList_alloc_blk rfl 61 rfl sMsg.zc (zero61 _) ?_; intro wP hP uP; have HPb := Lib.hid hP; have UP := Lib.hid uP; clear hP uP) | (refine wpList_store_blk rfl 61 (.tmp 6) (.tmp 27) rfl w4.heap.size ds rfl rfl HPb.out (by rw [hdl]; exact Try.size61) (by rw [hdl]; rfl) HONE.out ?_; intro w5 hd ud; have HD5 := Lib.hid hd; have V5 : Hid (Upd [] w4 w5) := Lib.hid (UP.out.trans ud (by simp)); have U5 : Hid (Upd [] w0 w5) := Lib.hid (U4.out.trans V5.out (by simp)); have H5 := Lib.hid (H4.out.same V5.out (by simp) ownN_upd); have HRM5 := Lib.hid (HRM.out.updM V5.out (by simp)); have hs5 := V5.out.size; clear hd ud) | (refine wpList_load_blk rfl 61 (.tmp 6) rfl w4.heap.size rfl HD5.out Try.underlying61 rfl (by rw [hdl]; exact Try.size61) ?_))
    refine (nsend_any ds v2 true H5.out (HRM5.out.mono (fun b _ hl => hl)) hl (by simpa using HGV.out) (by decide) (by decide) (by simp)).mono ?_
    rintro e w6 ⟨rfl, X6, n6, h6⟩
    rw [show errOf true = 0 from rfl]
    have hX5 : ∀ k ∈ [p], w0.heap.size ≤ k := fun k hk => by simp at hk; subst hk; rw [HP.out]; exact Nat.le_refl _
    have hX6 : ∀ k ∈ X6, w0.heap.size ≤ k := n6.low hX5 U5.out.size
    have hlt5 := H5.out.lt
    have HX6 := Lib.hid hX6
    have U6 := Lib.hid (U5.out.trans n6.upd (fun k hk => .inr (hX5 k hk)))
    have H6 : Hid (PNet w6 p 3 [v2] X6 (F ++ [])) := Lib.hid h6
    have hpo : p < w4.heap.size := (H4.out.lt).1 p (by simp)
    have HRM6 := Lib.hid (HRM5.out.updM n6.upd (fun k hk hx => hlt5.2.2.2 k hx (by simp [hk])))
    have HD6 := Lib.hid (n6.upd.blk HD5.out (by simp; omega))
    have hs6 := n6.upd.size
    clear n6 h6 hX5 hX6 hlt5 hpo
    go_wp2_with (refine wpList_load_blk rfl 61 (.tmp 6) rfl w4.heap.size rfl HD6.out Try.underlying61 rfl (by rw [hdl]; exact Try.size61) ?_)
    refine (over_any F ds v2 w6 HRM6.out HGD.out (fun k hk => by have := (HFM.out k).1 hk; omega)).mono ?_
    rintro e w7 ⟨rfl, uu⟩
    have hs3 := U3.out.size
    have U7 := Lib.hid (U6.out.trans uu (fun k hk => .inr (by have := (HFM.out k).1 hk; omega)))
    have H7 := Lib.hid (H6.out.same uu (by simp) ownN_upd)
    have hs7 := uu.size
    clear uu
    go_wp2_with fail
    refine (ncopy_yes 0 v2 H7.out rfl (by decide) (by decide) (by simp)).mono ?_
    rintro e w8 ⟨rfl, X8, n8, h8⟩
    have HX8 := Lib.hid (n8.low HX6.out U7.out.size)
    have U8 := Lib.hid (U7.out.trans n8.upd (fun k hk => .inr (HX6.out k hk)))
    have H8 : Hid (PNet w8 p 3 [v2, v2] X8 (F ++ [])) := Lib.hid h8
    clear n8 h8
    go_wp2_with fail
    refine (ndeliver_yes 0 v2 H8.out rfl (by simp)).mono ?_
    rintro e w9 ⟨es, X9, F9, rfl, n9, h9, hr9, hF9⟩
    have hel : es.length = 46 := hr9.len
    have HONE9 := Lib.hid hr9.one
    have HX9 := Lib.hid (n9.low HX8.out U8.out.size)
    have U9 := Lib.hid (U8.out.trans n9.upd (fun k hk => .inr (HX8.out k hk)))
    have H9 : Hid (PNet w9 p 3 [v2] X9 (F9 ++ (F ++ []))) := Lib.hid h9
    have HR9 := Lib.hid hr9
    have HF9 := Lib.hid hF9
    have hs8 := U8.out.size
    clear n9 h9 hr9 hF9
    go_wp2_with (first | (refine wpList_alloc_blk rfl 61 rfl sMsg.zc (zero61 _) ?_; intro wP9 hP uP; have HPb9 := Lib.hid hP; have UP9 := Lib.hid uP; clear hP uP) | (refine wpList_store_blk rfl 61 (.tmp 8) (.tmp 52) rfl w9.heap.size es rfl rfl HPb9.out (by rw [hel]; exact Try.size61) (by rw [hel]; rfl) HONE9.out ?_; intro w10 hd ud; have HD10 := Lib.hid hd; have V10 : Hid (Upd [] w9 w10) := Lib.hid (UP9.out.trans ud (by simp)); have U10 : Hid (Upd [] w0 w10) := Lib.hid (U9.out.trans V10.out (by simp)); clear hd ud) | (refine wpList_load_g (by first | rfl | simp [Region.wanted, yielded]) 61 (.tmp 8) rfl w9.heap.size rfl HD10.out Try.underlying61 rfl (by rw [hel]; exact Try.size61) ?_) | (refine wpList_load_g (by first | rfl | simp [Region.wanted, yielded]) 61 (.tmp 1) rfl mb rfl (HST.out _ U10.out).1 Try.underlying61 rfl (by rw [hlen]; exact Try.size61) ?_))
    have HR10 := Lib.hid (HR9.out.updM V10.out (by simp))
    have H10 := Lib.hid (H9.out.same V10.out (by simp) ownN_upd)
    refine (nsame_eq es cs v2 w10 (HR10.out.mono (fun b _ hl => hl)) (HST.out _ U10.out).2 hl).mono ?_
    rintro e w11 ⟨rfl, uu⟩
    have U11 := Lib.hid (U10.out.trans uu (by simp))
    have H11 := Lib.hid (H10.out.same uu (by simp) ownN_upd)
    have HR11 := Lib.hid (HR10.out.updM uu (by simp))
    have HD11 := Lib.hid (uu.blk HD10.out (by simp))
    have hs11 := (V10.out.trans uu (by simp)).size
    clear uu
    go_wp2_with (refine wpList_load_blk rfl 61 (.tmp 8) rfl w9.heap.size rfl HD11.out Try.underlying61 rfl (by rw [hel]; exact Try.size61) ?_)
    refine (over_any F9 es v2 w11 HR11.out HGD.out (fun k hk => by have := HF9.out k hk; omega)).mono ?_
    rintro e w12 ⟨rfl, uu⟩
    have U12 := Lib.hid (U11.out.trans uu (fun k hk => .inr (by have := HF9.out k hk; omega)))
    have H12 := Lib.hid (H11.out.same uu (fun k hk => List.mem_append.2 (.inl hk)) ownN_upd)
    clear uu
    go_wp2_with fail
    refine (ndeliver_yes 0 v2 H12.out rfl (by simp)).mono ?_
    rintro e w13 ⟨fs, X13, F13, rfl, n13, h13, hr13, hF13⟩
    have hfl : fs.length = 46 := hr13.len
    have HONE13 := Lib.hid hr13.one
    have U13 := Lib.hid (U12.out.trans n13.upd (fun k hk => .inr (HX9.out k hk)))
    have H13 : Hid (PNet w13 p 3 [] X13 (F13 ++ (F9 ++ (F ++ [])))) := Lib.hid h13
    have HR13 := Lib.hid hr13
    clear n13 h13 hr13 hF13
    go_wp2_with (first | (refine wpList_alloc_blk rfl 61 rfl sMsg.zc (zero61 _) ?_; intro wP13 hP uP; have HPb13 := Lib.hid hP; have UP13 := Lib.hid uP; clear hP uP) | (refine wpList_store_blk rfl 61 (.tmp 10) (.tmp 67) rfl w13.heap.size fs rfl rfl HPb13.out (by rw [hfl]; exact Try.size61) (by rw [hfl]; rfl) HONE13.out ?_; intro w14 hd ud; have HD14 := Lib.hid hd; have V14 : Hid (Upd [] w13 w14) := Lib.hid (UP13.out.trans ud (by simp)); have U14 : Hid (Upd [] w0 w14) := Lib.hid (U13.out.trans V14.out (by simp)); clear hd ud) | (refine wpList_load_g (by first | rfl | simp [Region.wanted, yielded]) 61 (.tmp 10) rfl w13.heap.size rfl HD14.out Try.underlying61 rfl (by rw [hfl]; exact Try.size61) ?_) | (refine wpList_load_g (by first | rfl | simp [Region.wanted, yielded]) 61 (.tmp 1) rfl mb rfl (HST.out _ U14.out).1 Try.underlying61 rfl (by rw [hlen]; exact Try.size61) ?_))
    have H14 := Lib.hid (H13.out.same V14.out (by simp) ownN_upd)
    refine (nsame_eq fs cs v2 w14 ((HR13.out.updM V14.out (by simp)).mono (fun b _ hl => hl)) (HST.out _ U14.out).2 hl).mono ?_
    rintro e w15 ⟨rfl, uu⟩
    have U15 := Lib.hid (U14.out.trans uu (by simp))
    have H15 := Lib.hid (H14.out.same uu (by simp) ownN_upd)
    clear uu
    go_wp2_with fail
    refine (nlen_any H15.out).mono ?_
    rintro e w16 ⟨rfl, uu⟩
    have U16 := Lib.hid (U15.out.trans uu (by simp))
    clear uu
    go_wp2_with fail
    refine bodyPost_ret (results_tmp rfl _ _ _) rfl ?_
    exact ⟨rfl, UW.out.trans U16.out (by simp)⟩
end Go.Proofs.Ytpoplipjombdbaa
namespace Go.Proofs.Ytpoplipjombdbaa.netOwn
open Go.ChangeShapes Go.WideShapes Go.ChangeAt Go.RowKit Go.Lb Go.Rc

set_option maxRecDepth 100000 in
theorem contract (H : Type) (enc : TypeId × Value → H) (W : World) (base : Nat) (args : Array Value) (ds gs : List (DataW H)) (before : List MemPlace)
    (hval : ∀ (j : Nat) t v, Try.f8.params[j]? = some t → args[j]? = some v → Value.okWide Try.prog W .any base t v)
    (hW : DataW.Whole enc Try.prog Try.f8.params.toList Rows.netOwnSpec.vars false W args.toList ds gs before) (hk : Rows.uptoSmall H (ds ++ gs) = true) :
    Calls Try.prog 8 args W fun e W' => ∃ v, e = .returned v ∧ Rows.netOwnSpec.post enc Try.prog Try.f8 false true false false W args v W' := by
  have hW' := hW
  obtain ⟨p, q, hA0, hV, rfl, hfz, hnd⟩ := hW
  have hA : DataW.TrodAll enc Try.prog W 0 (fun _ => true) true Try.f8.params.toList args.toList ds p := hA0
  rw [Try.params8] at hA hval
  obtain ⟨v0, vs0, d0, ds0, p0, q0, hargs, rfl, rfl, h0, r0⟩ := trodAll_cons hA
  obtain ⟨rfl, rfl, rfl⟩ := trodAll_nil r0
  obtain rfl : args = #[v0] := by cases args; simp_all
  obtain ⟨rfl, rfl⟩ := trodVars_none hV
  have k0 := h0
  have lt0 : ∀ x ∈ p0, x.block < W.heap.size := by obtain ⟨m, hm⟩ := k0; exact DataW.trod_lt m _ _ _ hm
  have hb := bulk_of hk
  simp only [List.append_nil, List.nil_append, List.cons_append, Rows.uptoBulkAll, Nat.add_zero] at hb
  obtain ⟨ar0, rfl, hz0⟩ := okWide_struct Try.underlying61 (hval 0 61 v0 rfl rfl)
  obtain ⟨cs0, rfl⟩ : ∃ cs : List Value, ar0 = cs.toArray := ⟨ar0.toList, by simp⟩
  obtain ⟨y0, hr0, hu0⟩ := arg_sch (m := 14) (s := Rc.sMsg) (by kernel_rfl) h0
  clear hA0
  refine (netown_ok cs0 y0 W hr0 (by omega)).mono fun e W' ⟨he, bel⟩ => ?_
  subst he
  exact ⟨_, rfl, _, _, _, [], _, [], hW', trodAll_mk1 (shut_bool Try.underlying4 _), (trodAll_cons_mk (Below.trod Try.laidOut (by kernel_rfl) (of_decide_eq_true (by kernel_rfl)) k0 bel.below lt0) trodAll_mk0), rfl, bel.below.frame _, fun h => by cases h⟩

set_option maxRecDepth 100000 in
theorem lifted (os : Os) (started : os.Started) (H : Type) (enc : TypeId × Value → H) (F : Stop.Interp) :
    ReturnsInHanded {} Try.checked os 8 .any ((Rows.OpenSpec.upto Rows.netOwnSpec).pre6 enc Try.prog Try.f8 Rows.netOwnUptoRow.domain false) (((Rows.OpenSpec.upto Rows.netOwnSpec).at F).post enc Try.prog Try.f8 false true false false) := by
  refine returnsInHanded_of_cond (C := Try.checked) (s := Rows.OpenSpec.upto Rows.netOwnSpec) (k := Rows.uptoSmall) rfl Try.own started (by kernel_rfl) Try.func8
    (OpenSpec.witness (enc := enc) (C := Try.checked) (s := Rows.OpenSpec.upto Rows.netOwnSpec) (k := Rows.uptoSmall) rfl false ⟨#[], #[.agg Rc.sMsg.zc.toArray], []⟩ 8 (by kernel_rfl) (by kernel_rfl) (by kernel_rfl)
      (x := ([.agg [.lit (.int .i64 0), .lit (.int .i64 0), .lit (.int .i64 0), .lit (.int .i64 0), .lit (.int .i64 0), .lit (.int .i64 0), .lit (.int .i64 0), .lit (.bool false), .lit (.int .i64 0), .lit (.int .i64 0), .lit (.int .i64 0), .lit (.int .i64 0), .nil, .agg [.nil, .nil], .nil, .agg [.lit (.int .i64 0), .lit (.int .i64 0), .lit (.int .i64 0), .agg [.lit (.int .i64 0), .lit (.int .i64 0), .lit (.int .i64 0), .lit (.int .i64 0), .nil, .lit (.int .i64 0), .lit (.bool false)], .agg [.lit (.int .i64 0), .agg [.lit (.int .i64 0), .lit (.int .i64 0)], .lit (.bool false), .lit (.bool false), .lit (.int .i64 0), .lit (.int .i64 0), .lit (.int .i64 0)], .nil, .agg [.lit (.int .i64 0), .lit (.int .i64 0), .lit (.int .i64 0), .nil, .nil, .lit (.bool false)], .agg [.nil, .nil]], .agg [.lit (.int .i64 0), .lit (.int .i64 0), .nil]]], [], [])) (by kernel_rfl) rfl (by kernel_rfl)) ?_
  intro W base args ds gs before hval hW _ hk _
  exact contract H enc W base args ds gs before hval hW hk

theorem closed : joinedFacts Try.prog 8 Try.f8 (Rows.OpenSpec.upto Rows.netOwnSpec).bare Rows.netOwnUptoRow = true := by
  unfold joinedFacts
  rw [Try.words1, Try.words2, Try.words3]
  kernel_rfl

theorem proved : Rows.NetOwnUptoSaid :=
  OpenClaim.holds_of_cond 8 Try.f8 rfl rfl rfl rfl rfl rfl rfl ⟨rfl, rfl, rfl, rfl, rfl⟩ rfl rfl rfl rfl rfl (by kernel_rfl) Try.func8 closed
    (of_decide_eq_true (by kernel_rfl)) (by unfold Func.isWrapper; first | (rw [if_pos (by decide +kernel)]; kernel_rfl) | (rw [if_neg (by decide +kernel)]; exact ⟨rfl, rfl⟩))
    (fun os started H enc _ F => lifted os started H enc F)
#print axioms proved
end Go.Proofs.Ytpoplipjombdbaa.netOwn
