/- NetAll returns true for every input, and the input reads afterwards as it did. No condition. -/
import Derived.Test.YthecincpejpmpaaZfh
import Derived.BigQuiet
import Derived.SizedLaws
set_option linter.unusedVariables false
set_option linter.unusedSimpArgs false
/- law03's NetAll, walked. -/
namespace Go.Proofs.Ythecincpejpmpaa
open Go.RowKit Go.Lb Go.Rc
def ofP (P : List (Int × Val)) (j : Nat) : Val := (P.getD j (0, .unit)).2
theorem ofP_all (P : List (Int × Val)) : (List.range P.length).map (ofP P) = P.map (·.2) := by
  refine List.ext_getElem (by simp) fun i h1 h2 => ?_
  simp at h1
  simp [ofP, h1]
theorem ofP_at {P : List (Int × Val)} {j : Nat} {q : Int × Val} (h : P[j]? = some q) : ofP P j = q.2 := by simp [ofP, h]
set_option maxRecDepth 20000 in
theorem nlen_q {p m : Nat} {L : List Val} {X Y : List Nat} {w : World} (h : PNet w p m L X Y) : Calls Try.prog 22 #[.pointer (some ⟨p, 0, none⟩)] w fun e w' => e = .returned (.int .i64 (L.length : Int)) ∧ w' = w := by
  obtain ⟨v, us, _, hb, ho, _, _, _, hp⟩ := h
  obtain ⟨a, c, rfl⟩ := own_shape' ho
  rw [hp.len] at hb
  have c1 := hb.cell (o := 1) rfl
  have c2 := hb.lt
  clear hb ho hp
  go_enter Try.func22, Try.ntmps22
  go_wp2_with fail
  refine bodyPost_ret (results_tmp rfl _ _ _) rfl ?_
  exact ⟨rfl, rfl⟩

set_option maxRecDepth 20000 in
set_option maxHeartbeats 8000000 in
theorem netall_ok (a : Option Addr) (c : Nat) (l : List Val) (a2 : Option Addr) (cl : Nat) (ls : List Val) (w : World) (hr : (Sch.list sMsg).Rep w (· < w.heap.size) [.slice a l.length c] (.list l)) (hr2 : (Sch.list .num).Rep w (· < w.heap.size) [.slice a2 ls.length cl] (.list ls)) (hl : ∀ (i : Nat) (x : Val), l[i]? = some x → sMsg.cmax x ≤ 224000000000000) (hll : l.length ≤ 140737488351232) (hls : ls.length ≤ 140737488351232) :
    Calls Try.prog 7 #[.slice a l.length c, .slice a2 ls.length cl] w fun e w' => e = .returned (.bool true) ∧ Upd [] w w' := by
  obtain ⟨iM, hiM, hz0, hz1, hz2⟩ := infoMsg
  obtain ⟨iB, hiB, hzB0, hzB1, hzB2⟩ := info_parts (show (Try.prog.info? 4).map (fun i => (i.zero, i.size, i.bytes)) = some (some (.bool false), 1, 1) by kernel_rfl)
  have HEL : Hid (∀ wi, Upd [] w wi → ∀ (i : Nat) (x : Val), l[i]? = some x → ∃ b o us, a = some ⟨b, o, none⟩ ∧ wi.rangeAt b (o + i * 46) us ∧ b < wi.heap.size ∧ sMsg.Rep w (· < w.heap.size) us x) := Lib.hid (fun wi u i x hx => by
    obtain ⟨b, o, us, h1, h2, h3, h4⟩ := (elem_at hr).2 i x hx
    exact ⟨b, o, us, h1, rangeAt_keep h2 (u.block b h3 (by simp)), Nat.lt_of_lt_of_le h3 u.size, h4⟩)
  have HWX := Lib.hid hl
  have HNUM : Hid (∀ wi, Upd [] w wi → ∀ i, i < ls.length → ∃ b o, ∃ z : Int, a2 = some ⟨b, o, none⟩ ∧ b < w.heap.size ∧ wi.cell? ⟨b, o + i, none⟩ = some (.int .i64 z)) := Lib.hid (fun wi u i hi => by
    obtain ⟨a', c', l', h1, h2, h3⟩ := hr2
    cases h2
    simp only [List.cons.injEq, Value.slice.injEq, and_true] at h1
    obtain ⟨rfl, _, rfl⟩ := h1
    obtain ⟨b, o, us, k1, _, k2, k3, z, rfl, _⟩ := h3 i _ (List.getElem?_eq_getElem hi)
    refine ⟨b, o, z, k1, k2, ?_⟩
    rw [u.cell (a := ⟨b, o + i, none⟩) k2 (by simp)]
    have := k3 0 _ rfl
    simpa [Sch.size] using this)
  clear hr hr2 hl
  obtain ⟨m, hm⟩ : ∃ m : Nat, m = 256 := ⟨_, rfl⟩
  have hm1 : 1 ≤ m := by omega
  have hm2 : m ≤ 256 := by omega
  have HM := Lib.hid hm
  clear hm
  go_enter Try.func7, Try.ntmps7
  go_wp2_with fail
  refine (nnew_yes 256 w (by decide) (by decide)).mono ?_
  rintro e w1 ⟨rfl, u1, h1⟩
  rw [← HM.out] at h1
  obtain ⟨p, hp⟩ : ∃ p, p = w.heap.size := ⟨_, rfl⟩
  rw [← hp] at h1 ⊢
  have HP := Lib.hid hp
  have U1 := Lib.hid u1
  have H1 := Lib.hid h1
  clear u1 h1 hp
  go_wp2_with fail
  refine (nknown_true _).mono ?_
  rintro e w2 ⟨rfl, uu⟩
  have U2 := Lib.hid (U1.out.trans uu (by simp))
  have H2 := Lib.hid (H1.out.same uu (by simp) ownN_upd)
  clear uu
  go_wp2_with fail
  go_loopg [6, 7] l.length (fun g s t wr => ∃ (i : Nat) (P : List (Int × Val)) (xss : List (List Value)) (X : List Nat), t = .int .i64 i ∧ l.length - i = g ∧ i ≤ l.length ∧ i ≤ 100 ∧ P.length ≤ i ∧ (∀ q ∈ P, q.1 < (i : Int)) ∧ SentM w wr p m s P xss (P.map (·.2)) X [])
  case atStart => exact ⟨0, [], [], [p], rfl, rfl, by omega, by omega, by simp, by simp, ⟨⟨rfl, .inl ⟨rfl, rfl⟩⟩, by simp, rfl, fun j us q h => by simp at h, by simp, fun j k q r _ h => by simp at h, by have := H2.out; simpa [Value.ownBlock] using this, fun k hk => by simp at hk; subst hk; rw [HP.out]; exact Nat.le_refl _, U2.out⟩⟩
  case round =>
    obtain ⟨i, P, xss, X, rfl, hg, hi, hi2, hpi, hinc, hS⟩ := hrel
    have HG := Lib.hid hg
    have HS := Lib.hid hS
    have HI := Lib.hid hinc
    have hrow := hS.row
    obtain ⟨sa, sc, rfl⟩ := own_shape' hrow
    have hsz := hS.upd.size
    clear hg hS hrow hinc
    by_cases hlt : i < l.length ∧ i < 100
    · obtain ⟨hlt1, hlt2⟩ := hlt
      have t1 : decide ((i : Int) < (l.length : Int)) = true := by simp; omega
      have t2 : decide ((i : Int) < 100) = true := by simp; omega
      have t2n : decide (i < 100) = true := by simp; omega
      obtain ⟨x, hx⟩ : ∃ x, l[i]? = some x := ⟨_, List.getElem?_eq_getElem hlt1⟩
      obtain ⟨b, o, us, ha, hrg, hbl, hru⟩ := HEL.out wr HS.out.upd i x hx
      have hwx := HWX.out i x hx
      subst ha
      obtain ⟨n8, _, h8, htag⟩ := msg_ctx hru
      obtain ⟨hrt, hnt, hwt⟩ := htag (i : Int)
      have hus : us.length = 46 := hru.len
      have HUS := Lib.hid hus
      have HRG := Lib.hid hrg
      have HONE := Lib.hid hru.one
      have HONT := Lib.hid hrt.one
      have H8 := Lib.hid h8
      have HRT := Lib.hid hrt
      have HNT := Lib.hid hnt
      have HWT : Hid (sMsg.cmax (tag (i : Int) x) ≤ 225000000000000) := Lib.hid (by rw [hwt]; omega)
      obtain ⟨gd, hgd⟩ := good_dec sMsg (tag (i : Int) x)
      have HGD := Lib.hid hgd
      clear hx hrg hru h8 htag hrt hnt hwt hus hgd hwx
      go_wp2_with (first | (refine wpList_load_mid rfl 58 (.tmp 36) rfl b (o + i * 46) rfl us _ HRG.out Try.underlying58 rfl (by rw [HUS.out]; exact Try.size58) ?_) | (refine wpList_alloc_blk rfl 58 rfl sMsg.zc (zero58 _) ?_; intro wP hP uP; have HPb := Lib.hid hP; have UP := Lib.hid uP; clear hP uP) | (refine wpList_store_blk rfl 58 (.tmp 8) (.tmp 37) rfl wr.heap.size us rfl rfl HPb.out (by rw [HUS.out]; exact Try.size58) (by rw [HUS.out]; rfl) HONE.out ?_; intro w5 hd ud; have HD5 := Lib.hid hd; have V5 : Hid (Upd [] wr w5) := Lib.hid (UP.out.trans ud (by simp)); have x1 := hd.cell (o := 8) H8.out; have x2 := hd.frozen 8; have x3 := hd.lt; clear hd ud) | (refine wpList_load_blk rfl 58 (.tmp 8) rfl wr.heap.size rfl (HD5.out.set 8 (.int .i64 (i : Int))) Try.underlying58 rfl (by rw [List.length_set, HUS.out]; exact Try.size58) ?_))
      have V6 : Hid (Upd [] wr (w5.setCell ⟨wr.heap.size, 8, none⟩ (.int .i64 (i : Int)))) := Lib.hid (V5.out.setCell (.inr (Nat.le_refl _)) _)
      have HD6 : Hid (Blk (w5.setCell ⟨wr.heap.size, 8, none⟩ (.int .i64 (i : Int))) wr.heap.size 58 (us.set 8 (.int .i64 (i : Int)))) := Lib.hid (HD5.out.set 8 _)
      have S6 := Lib.hid (HS.out.same V6.out)
      have HR6 := Lib.hid (rep_all HRT.out S6.out.upd)
      have hXn : wr.heap.size ∉ X := fun hx => by have := HS.out.net.lt.1 _ hx; omega
      have HXN := Lib.hid hXn
      have HLL : Hid ((P.map (·.2)).length ≤ m) := Lib.hid (by rw [List.length_map, HM.out]; omega)
      clear hXn
      refine (nsend_any (us.set 8 (.int .i64 (i : Int))) (tag (i : Int) x) gd S6.out.net HR6.out HWT.out HGD.out hm1 hm2 HLL.out).mono ?_
      rintro e w7 ⟨rfl, X7, n7, h7⟩
      have S7 := Lib.hid (S6.out.call0 n7 h7)
      have HD7 := Lib.hid (n7.upd.blk HD6.out HXN.out)
      clear n7 h7 x1 x2 x3
      have hsz7 := S7.out.upd.size
      have HI1 : Hid (∀ q ∈ P, q.1 < ((i + 1 : Nat) : Int)) := Lib.hid (fun q hq => by have := HI.out q hq; omega)
      cases gd with
      | false =>
        rw [show errOf false = 1 from rfl]
        go_wp2_with fail
        go_roundg (l.length - (i + 1))
        case measure => have := HG.out; omega
        case rel => exact ⟨i + 1, P, xss, X7, by go_num, rfl, by omega, by omega, by omega, HI1.out, S7.out⟩
      | true =>
        have S7b : Hid (SentM w w7 p m (.slice sa P.length sc) P xss (P.map (·.2) ++ [tag (i : Int) x]) X7 []) := Lib.hid (by
          have := S7.out
          have e : came m (P.map (·.2)) (tag (i : Int) x) = P.map (·.2) ++ [tag (i : Int) x] := by
            unfold came
            rw [if_neg (by simp; have := HM.out; omega)]
          rw [← e]; exact this)
        rw [show errOf true = 0 from rfl]
        go_wp2_with (first | (refine wpList_load_blk rfl 58 (.tmp 8) rfl wr.heap.size rfl HD7.out Try.underlying58 rfl (by rw [List.length_set, HUS.out]; exact Try.size58) ?_) | (refine wpList_run (o := ⟨some 46, .buildSlice 51 1 #[(0, .tmp 45)], _, _, _, _⟩) rfl (exec_buildSlice (by rfl) (by first | rfl | (simp [Act.eval, Act.put]; done)) (run_buildSlice1 _ 51 58 iM _ (us.set 8 (.int .i64 (i : Int))) 46 Try.underlying51 hiM hz0 hz1 (by rw [List.length_set, HUS.out]) (by decide) (by decide))) ?_) | (at_builtin; refine wpList_append_mine rfl (.tmp 44) (.tmp 46) 51 rfl w.heap.size 58 iM _ 46 _ Try.underlying51 hiM hz0 hz1 hz2 rfl (by decide) (.slice sa P.length sc) P.length xss.flatten rfl (World.ownsRow.alloc S7.out.row _) ⟨w7.heap.size, 0, none⟩ 1 1 (us.set 8 (.int .i64 (i : Int))) rfl (by rw [List.length_set, HUS.out]) (Blk.news (Blk.new _ 58 (us.set 8 (.int .i64 (i : Int))))) HONT.out (by unfold maxLen; omega) (by omega) (by simp; omega) ?_; intro v8 w8 ho8 hg8 hv8; have S8 := Lib.hid (S7b.out.push HNT.out HI.out HRT.out ho8 hg8 hv8); clear ho8 hg8 hv8))
        go_roundg (l.length - (i + 1))
        case measure => have := HG.out; omega
        case rel => exact ⟨i + 1, P ++ [((i : Int), tag (i : Int) x)], xss ++ [us.set 8 (.int .i64 (i : Int))], X7, by go_num, rfl, by omega, by omega, by simp; omega, fun q hq => by
          rcases List.mem_append.1 hq with hq | hq
          · exact HI1.out q hq
          · simp at hq; subst hq; simp; omega, by have := S8.out; simpa using this⟩
    · have tx : (decide (i < l.length) = false) ∨ (decide (i < l.length) = true ∧ decide ((i : Int) < 100) = false ∧ decide (i < 100) = false) := by
        by_cases h1 : i < l.length
        · exact .inr ⟨by simp; omega, by simp; omega, by simp; omega⟩
        · exact .inl (by simp; omega)
      clear hlt
      obtain ⟨q, hq⟩ : ∃ q, q = P.length := ⟨_, rfl⟩
      have HQ := Lib.hid hq
      have hq1 : q ≤ 100 := by omega
      rw [← hq] at HS ⊢
      have HLEN : Hid ((P.map (·.2)).length = q) := Lib.hid (by rw [List.length_map, hq])
      clear hq hpi
      rcases tx with tx | ⟨tx, tz, tz2⟩
      all_goals
        go_wp2_with fail
        refine (nlen_any HS.out.net).mono ?_
        rintro e w3 ⟨rfl, uu⟩
        rw [HLEN.out]
        have HS3 := Lib.hid (HS.out.same uu)
        clear uu
        go_wp2_with (refine wpList_make_row _ rfl _ _ 61 rfl 4 iB (.bool false) Try.underlying61 hiB hzB0 hzB1 rfl .i64 .i64 q rfl rfl (by rw [hzB2]; omega) (by omega) ?_)
        have HT0 := Lib.hid (World.rowIs_made w3 (.bool false) q 4)
        have UM : Hid (Upd [] w3 (w3.alloc (.cells (madeCells #[.bool false] q) 4))) := Lib.hid ((Upd.refl _ _).alloc _)
        obtain ⟨tb, htb⟩ : ∃ tb, tb = w3.heap.size := ⟨_, rfl⟩
        have htbw : w.heap.size ≤ tb := by rw [htb]; exact HS3.out.upd.size
        have HS4 : Hid (SentM w (w3.alloc (.cells (madeCells #[.bool false] q) 4)) p m (.slice sa q sc) P xss (P.map (·.2)) X ([] ++ [tb])) := Lib.hid (HS3.out.wide UM.out (fun k hk => by simp at hk; subst hk; rw [htb]; simp))
        have HSB : Hid ((Value.slice sa q sc).ownBlock ≠ some tb) := Lib.hid (fun e => by have := (own_lo HS3.out.row e).2; omega)
        rw [← htb] at HT0 ⊢
        generalize hw4 : (w3.alloc (.cells (madeCells #[.bool false] q) 4)) = w4 at *
        clear htb hw4
        go_loopg [10] q (fun g t wr => ∃ (i : Nat) (idx : List Nat) (T : Nat → Bool) (X : List Nat), t = .int .i64 i ∧ idx.length = g ∧ i + idx.length ≤ q ∧ Way q idx T ∧ wr.rowIs tb 4 q (fun j => .bool (T j)) ∧ SentM w wr p m (.slice sa q sc) P xss (idx.map (ofP P)) X [tb])
        case atStart => exact ⟨0, List.range q, fun _ => false, X, rfl, by simp, by simp, Way.start q, HT0.out, by have := HS4.out; rw [HQ.out, ofP_all, ← HQ.out]; exact this⟩
        case round =>
          obtain ⟨i, idx, T, X, rfl, hg, hiq, hW, hT, hS⟩ := hrel
          have HG := Lib.hid hg
          have HW := Lib.hid hW
          have HT := Lib.hid hT
          have HSo := Lib.hid hS
          clear hg hW hT hS
          have HLI : Hid ((idx.map (ofP P)).length = idx.length) := Lib.hid (by rw [List.length_map])
          go_wp2_with fail
          refine (nlen_any HSo.out.net).mono ?_
          rintro e w5 ⟨rfl, uu⟩
          rw [HLI.out]
          have HS5 := Lib.hid (HSo.out.same uu)
          have HT5 := Lib.hid (HT.out.of_block (uu.block tb HT.out.lt (by simp)))
          clear uu
          by_cases hn : 0 < idx.length
          rotate_left
          · have n1 : decide (0 < idx.length) = false := by simpa using hn
            have HNE : Hid (idx = []) := Lib.hid (List.eq_nil_of_length_eq_zero (by omega))
            go_wp2_with fail
            go_loopg [16] q (fun g t wr => ∃ j : Nat, t = .int .i64 j ∧ q - j = g ∧ j ≤ q ∧ Upd [] w wr ∧ wr.rowIs tb 4 q (fun j => .bool (T j)))
            case atStart => exact ⟨0, rfl, rfl, by omega, HS5.out.upd, HT5.out⟩
            case round =>
              obtain ⟨j, rfl, hg2, hj, hu, hT2⟩ := hrel
              have HG2 := Lib.hid hg2
              have HU2 := Lib.hid hu
              have HT2 := Lib.hid hT2
              clear hg2 hu hT2
              by_cases hjlt : j < q
              · have j1 : decide (j < q) = true := by simpa using hjlt
                have htr : T j = true := (HW.out.flag j hjlt).2 (by rw [HNE.out]; simp)
                have y1 : wr.cell? ⟨tb, j, none⟩ = some (.bool true) := by rw [HT2.out.cell hjlt, htr]
                have y2 := HT2.out.lt
                clear htr
                go_wp2_with fail
                go_roundg (q - (j + 1))
                case measure => have := HG2.out; omega
                case rel => exact ⟨j + 1, by go_num, rfl, by omega, HU2.out, HT2.out⟩
              · have j1 : decide (j < q) = false := by simpa using hjlt
                go_wp2_with fail
                refine bodyPost_ret (results_tmp rfl _ _ _) rfl ?_
                exact ⟨rfl, HU2.out⟩
          · have n1 : decide (0 < idx.length) = true := by simpa using hn
            by_cases hp2 : i < ls.length
            rotate_left
            · have p1 : decide (i < ls.length) = false := by simpa using hp2
              obtain ⟨k, hk0⟩ : ∃ k : Nat, k = 0 := ⟨_, rfl⟩
              have hk : k < idx.length := by omega
              have HK0 := Lib.hid hk0
              clear hk0
              go_wp2_with fail
              rw [show (Value.int .i64 0) = .int .i64 (k : Int) by rw [HK0.out]; rfl]
              have SX := HS5
              have TX := HT5
              obtain ⟨j0, hj0⟩ : ∃ j, idx[k]? = some j := ⟨_, List.getElem?_eq_getElem hk⟩
              have hjq : j0 < q := HW.out.lt j0 (List.mem_of_getElem? hj0)
              obtain ⟨⟨pi, px⟩, hpx⟩ : ∃ x, P[j0]? = some x := ⟨_, List.getElem?_eq_getElem (by have := HQ.out; omega)⟩
              have hd0 : (idx.map (ofP P))[k]? = some px := by rw [List.getElem?_map, hj0]; exact congrArg some (ofP_at hpx)
              have hctx : nth 8 px = .num pi := SX.out.ctx _ (List.mem_of_getElem? hpx)
              have HD0 := Lib.hid hd0
              have HCTX := Lib.hid hctx
              have HPX := Lib.hid hpx
              have HJ0 := Lib.hid hj0
              have HLN : Hid ((idx.map (ofP P)).length ≤ 100000) := Lib.hid (by rw [List.length_map]; omega)
              have htX : tb ∉ X := fun hx => SX.out.net.lt.2.2.2 tb hx (by simp)
              have HTX := Lib.hid htX
              have HGD : Hid (sMsg.good px) := Lib.hid (SX.out.net.len px (List.mem_of_getElem? hd0))
              clear hpx hd0 hctx hj0 htX
              refine (ndeliver_yes k px SX.out.net HD0.out HLN.out).mono ?_
              rintro e w6 ⟨ds, X6, F6, rfl, n6, h6, hr6, hF6⟩
              have S6 : Hid (SentM w w6 p m (.slice sa q sc) P xss ((idx.eraseIdx k).map (ofP P)) X6 [tb]) := Lib.hid (by
                have := SX.out.call n6 h6
                rwa [← map_erase] at this)
              have T6 := Lib.hid (TX.out.of_block (n6.upd.block tb TX.out.lt HTX.out))
              have hdl : ds.length = 46 := hr6.len
              have HONE := Lib.hid hr6.one
              have H8 : Hid (ds[8]? = some (.int .i64 pi)) := Lib.hid (by
                obtain ⟨n, e1, e2, _⟩ := msg_ctx hr6
                rw [HCTX.out] at e1
                cases e1; exact e2)
              have HR6 := Lib.hid hr6
              clear n6 h6 hr6 hF6
              go_wp2_with (first | (refine wpList_alloc_blk rfl 58 rfl sMsg.zc (zero58 _) ?_; intro wP hP uP; have HPb := Lib.hid hP; have UP := Lib.hid uP; clear hP uP) | (refine wpList_store_blk rfl 58 (.tmp 12) (.tmp 82) rfl w6.heap.size ds rfl rfl HPb.out (by rw [hdl]; exact Try.size58) (by rw [hdl]; rfl) HONE.out ?_; intro w7 hd ud; have HD7 := Lib.hid hd; have V7 : Hid (Upd [] w6 w7) := Lib.hid (UP.out.trans ud (by simp)); clear hd ud))
              have S7 := Lib.hid (S6.out.same V7.out)
              have T7 := Lib.hid (T6.out.of_block (V7.out.block tb T6.out.lt (by simp)))
              have HR7 := Lib.hid (HR6.out.updM V7.out (by simp))
              obtain ⟨mb, hmb⟩ : ∃ mb, mb = w6.heap.size := ⟨_, rfl⟩
              rw [← hmb] at HD7 ⊢
              clear hmb
              have hrow := S7.out.row
              obtain ⟨sg, scq, hsv, _, _⟩ := own_some hrow (by have := HQ.out; omega)
              simp only [Value.slice.injEq] at hsv
              obtain ⟨rfl, hsn, rfl⟩ := hsv
              rw [← hsn] at hrow
              have hXC : ∀ j us, xss[j]? = some us → w7.rangeAt sg (j * 46) us ∧ sg < w7.heap.size := fun j us hj => ⟨row_range hrow S7.out.wid hj, (by rcases hrow.2 with ⟨h0, _⟩ | ⟨g', cap, cur, hv, _, hb, _⟩; cases h0; cases hv; exact lt_of_block hb)⟩
              have HXC := Lib.hid hXC
              clear hrow hsn hXC
              have HCE : Hid (∀ j, j < q → ∃ (us : List Value) (pj : Int × Val), xss[j]? = some us ∧ P[j]? = some pj ∧ us[8]? = some (.int .i64 pj.1)) := Lib.hid (fun j hj => by
                have h1 : xss[j]? = some (xss[j]'(by rw [S7.out.cnt, ← HQ.out]; exact hj)) := List.getElem?_eq_getElem _
                have h2 : P[j]? = some (P[j]'(by rw [← HQ.out]; exact hj)) := List.getElem?_eq_getElem _
                refine ⟨_, _, h1, h2, ?_⟩
                obtain ⟨n, e1, e2, _⟩ := msg_ctx (S7.out.rep j _ _ h1 h2)
                rw [S7.out.ctx _ (List.mem_of_getElem? h2)] at e1
                cases e1; exact e2)
              have HNEQ : Hid (∀ j (pj : Int × Val), P[j]? = some pj → (pj.1 == pi) = decide (j = j0)) := Lib.hid (fun j pj hj => by
                by_cases e : j = j0
                · subst e
                  have := HPX.out
                  rw [hj] at this
                  cases this
                  simp
                · rcases Nat.lt_or_gt_of_ne e with h | h
                  · have := S7.out.inc j j0 _ _ h hj HPX.out
                    simp only at this
                    rw [decide_eq_false e, beq_eq_false_iff_ne]; omega
                  · have := S7.out.inc j0 j _ _ h HPX.out hj
                    simp only at this
                    rw [decide_eq_false e, beq_eq_false_iff_ne]; omega)
              go_wp2_with fail
              go_loopg [14, 15] q (fun g s t wr => ∃ j : Nat, t = .int .i64 j ∧ q - j = g ∧ j ≤ q ∧ s = .int .i64 (if j0 < j then (j0 : Int) else -1) ∧ Upd [] w7 wr)
              case atStart => exact ⟨0, rfl, rfl, by omega, by rw [if_neg (by omega)], Upd.refl _ _⟩
              case round =>
                obtain ⟨j, rfl, hg2, hj, rfl, hu2⟩ := hrel
                have HG2 := Lib.hid hg2
                have HU2 := Lib.hid hu2
                clear hg2 hu2
                obtain ⟨at_, hat⟩ : ∃ z : Int, z = if j0 < j then (j0 : Int) else -1 := ⟨_, rfl⟩
                rw [← hat]
                have HAT := Lib.hid hat
                clear hat
                by_cases hjlt : j < q
                · have j1 : decide (j < q) = true := by simpa using hjlt
                  obtain ⟨us, pj, hus, hpj, h8⟩ := HCE.out j hjlt
                  obtain ⟨hrg, hsl⟩ := HXC.out j us hus
                  have y1 : wr.cell? ⟨sg, j * 46 + 8, none⟩ = some (.int .i64 pj.1) := (HU2.out.cell (a := ⟨sg, j * 46 + 8, none⟩) hsl (by simp)).trans (hrg 8 _ h8)
                  have y2 : wr.cell? ⟨mb, 8, none⟩ = some (.int .i64 pi) := (HU2.out.blk HD7.out (by simp)).cell H8.out
                  have y3 := (HU2.out.blk HD7.out (by simp)).lt
                  have y4 : sg < wr.heap.size := Nat.lt_of_lt_of_le hsl HU2.out.size
                  have hne := HNEQ.out j pj hpj
                  clear hus hpj h8 hrg
                  by_cases e : j = j0
                  · rw [decide_eq_true e] at hne
                    have HE := Lib.hid e
                    clear e
                    go_wp2_with fail
                    go_quiet (fail)
                    go_wp2_with fail
                    go_roundg (q - (j + 1))
                    case measure => have := HG2.out; omega
                    case rel => exact ⟨j + 1, by go_num, rfl, by omega, by rw [if_pos (by have := HE.out; omega), HE.out], HU2.out.drewN _⟩
                  · rw [decide_eq_false e] at hne
                    have HE := Lib.hid e
                    clear e
                    go_wp2_with fail
                    go_quiet (fail)
                    go_wp2_with fail
                    go_roundg (q - (j + 1))
                    case measure => have := HG2.out; omega
                    case rel => exact ⟨j + 1, by go_num, rfl, by omega, by
                      rw [HAT.out]
                      by_cases h : j0 < j
                      · rw [if_pos h, if_pos (by omega)]
                      · rw [if_neg h, if_neg (by have := HE.out; omega)], HU2.out.drewN _⟩
                · have j1 : decide (j < q) = false := by simpa using hjlt
                  have hat : at_ = (j0 : Int) := by rw [HAT.out, if_pos (by omega)]
                  subst hat
                  obtain ⟨us, pj, hus, hpj, h8⟩ := HCE.out j0 hjq
                  have hpp : pj = (pi, px) := by have := HPX.out; rw [hpj] at this; exact Option.some.inj this
                  subst hpp
                  have hrus := S7.out.rep j0 us _ hus hpj
                  have hul : us.length = 46 := hrus.len
                  obtain ⟨hrg, hsl⟩ := HXC.out j0 us hus
                  have HRUS := Lib.hid hrus
                  have HRGS := Lib.hid hrg
                  have HTF : Hid (T j0 = false) := Lib.hid (by
                    have := HW.out.flag j0 hjq
                    cases h : T j0 with
                    | false => rfl
                    | true => exact absurd (List.mem_of_getElem? HJ0.out) (this.1 h))
                  have HFT : Hid (∀ wi, Upd [] w7 wi → wi.cell? ⟨tb, j0, none⟩ = some (.bool false) ∧ wi.rangeAt sg (j0 * 46) us ∧ wi.rangeAt mb 0 ds ∧ wi.frozen? ⟨tb, j0, none⟩ = false ∧ tb < wi.heap.size) := Lib.hid (fun wi u => by
                    have hb := u.block tb T7.out.lt (by simp)
                    have ht := T7.out.of_block hb
                    refine ⟨by rw [ht.cell hjq, HTF.out], rangeAt_keep HRGS.out (u.block sg hsl (by simp)), (u.blk HD7.out (by simp)).range, ht.frozen _, ht.lt⟩)
                  have HWM : Hid (sMsg.wmax px ≤ 1099511627776) := Lib.hid (Nat.le_trans (Sch.wmax_le _ _ HGD.out) (of_decide_eq_true (by kernel_rfl)))
                  clear hus hpj h8 hrus hrg HAT
                  have t5 : decide ((j0 : Int) < 0) = false := by simp
                  go_wp2_with fail
                  refine wp_region_lex (fun w' => Upd [] w7 w') 99 [(0, true), (1, true), (2, true), (3, true), (4, true), (5, true), (6, true), (7, true), (8, true), (9, true), (10, true), (11, true), (12, true), (13, true), (14, false), (15, false), (16, false)] (by kernel_rfl) (by kernel_rfl) (by kernel_rfl) (by kernel_rfl) (fun _ _ d _ _ h => by cases d <;> exact h) ?_
                  simp only [lexOps, List.map_cons, List.map_nil, List.getD_cons_zero, List.getD_cons_succ]
                  have hS0 : Upd [] w7 wr.drew := HU2.out.drew
                  iterate 3 (refine lex_read rfl (by exact hS0) (v := ?_) (fun w' hw => ?_) ?_; rotate_left; (focus (go_simp; try with_reducible rfl)); simp only [Act.put, List.setIfInBounds_toArray, List.set_cons_zero, List.set_cons_succ])
                  iterate 4 (refine lex_read_g (by first | rfl | simp [Region.wanted, yielded]) (by exact hS0) (v := ?_) (fun w' hw => ?_) ?_; rotate_left; (focus (obtain ⟨k1, _, _, _, k2⟩ := HFT.out w' hw; go_simp; try with_reducible rfl)); simp only [Act.put, List.setIfInBounds_toArray, List.set_cons_zero, List.set_cons_succ])
                  iterate 2 (refine lex_read rfl (by exact hS0) (v := ?_) (fun w' hw => ?_) ?_; rotate_left; (focus (go_simp; try with_reducible rfl)); simp only [Act.put, List.setIfInBounds_toArray, List.set_cons_zero, List.set_cons_succ])
                  iterate 3 (refine lex_read_g (by first | rfl | simp [Region.wanted, yielded]) (by exact hS0) (v := ?_) (fun w' hw => ?_) ?_; rotate_left; (focus (go_simp; try with_reducible rfl)); simp only [Act.put, List.setIfInBounds_toArray, List.set_cons_zero, List.set_cons_succ])
                  refine lex_read_g (by first | rfl | simp [Region.wanted, yielded]) (by exact hS0) (fun w' hw => exec_load (by rfl) (by rfl) (run_loadAt_mid w' sg (j0 * 46) 58 us _ (HFT.out w' hw).2.1 Try.underlying58 rfl (by rw [hul]; exact Try.size58))) ?_
                  simp only [Act.put, List.setIfInBounds_toArray, List.set_cons_zero, List.set_cons_succ]
                  refine lex_read_g (by first | rfl | simp [Region.wanted, yielded]) (by exact hS0) (fun w' hw => exec_load (by rfl) (by rfl) (run_loadAt_mid w' mb 0 58 ds _ (HFT.out w' hw).2.2.1 Try.underlying58 rfl (by rw [hdl]; exact Try.size58))) ?_
                  simp only [Act.put, List.setIfInBounds_toArray, List.set_cons_zero, List.set_cons_succ]
                  have SD := Lib.hid (S7.out.same hS0)
                  refine lex_do_g (by first | rfl | simp [Region.wanted, yielded]) (fun K hK => ?_)
                  go_simp
                  refine (nsame_eq us ds px wr.drew (rep_all HRUS.out SD.out.upd) ((HR7.out.updM hS0 (by simp)).mono (fun _ _ h => h)) HWM.out).mono ?_
                  rintro e w8 ⟨rfl, u8⟩
                  have hS8 : Upd [] w7 w8 := hS0.trans u8 (by simp)
                  refine hK _ _ (fun _ => hS8) ?_
                  clear hK K
                  try simp only [Act.put, List.setIfInBounds_toArray, List.set_cons_zero, List.set_cons_succ]
                  refine lex_do_g (by first | rfl | simp [Region.wanted, yielded]) (fun K hK => ?_)
                  go_simp
                  refine hK _ _ (fun _ => hS8) ?_
                  clear hK K
                  try simp only [Act.put, List.setIfInBounds_toArray, List.set_cons_zero, List.set_cons_succ]
                  refine lex_do rfl (fun K hK => ?_)
                  go_simp
                  refine hK _ _ (fun _ => hS8) ?_
                  clear hK K
                  try simp only [Act.put, List.setIfInBounds_toArray, List.set_cons_zero, List.set_cons_succ]
                  refine lex_nil ?_
                  obtain ⟨z1, _, _, z2, z3⟩ := HFT.out w8 hS8
                  have S8 := Lib.hid (S7.out.same hS8)
                  have T8 := Lib.hid (T7.out.of_block (hS8.block tb T7.out.lt (by simp)))
                  clear hS0 hS8 u8
                  go_wp2_with fail
                  go_roundg (idx.eraseIdx k).length
                  case measure => have := HG.out; rw [List.length_eraseIdx, if_pos hk]; omega
                  case rel => exact ⟨i + 1, idx.eraseIdx k, fun i => if i = j0 then true else T i, X6, by go_num, rfl, by rw [List.length_eraseIdx, if_pos hk]; omega, HW.out.take HJ0.out, (T8.out.set j0 (.bool true)).congr (fun i _ => by by_cases h : i = j0 <;> simp [h]), S8.out.chg (F := [tb]) ((Upd.refl _ _).setCell (by simp) _) (fun k hk => by simp at hk; subst hk; exact ⟨by simp, htbw, HSB.out⟩)⟩
            · have p1 : decide (i < ls.length) = true := by simpa using hp2
              obtain ⟨b, o, z, ha2, hbw, hz⟩ := HNUM.out w5 HS5.out.upd i hp2
              subst ha2
              obtain ⟨nn, hnn⟩ : ∃ nn, nn = idx.length := ⟨_, rfl⟩
              have HNN := Lib.hid hnn
              have hqn : ((nn : Int) == 0) = false := by rw [beq_eq_false_iff_ne]; omega
              obtain ⟨k, hk, hz2⟩ : ∃ k : Nat, k < idx.length ∧ (z.tmod (nn : Int) = (k : Int) ∨ z.tmod (nn : Int) = (k : Int) - (nn : Int)) := by
                rcases tmod_in (n := (nn : Int)) (by omega) z with ⟨h1, h2⟩ | ⟨h1, h2, h3⟩
                · exact ⟨(z.tmod (nn : Int)).toNat, by omega, .inl (by omega)⟩
                · exact ⟨(z.tmod (nn : Int) + (nn : Int)).toNat, by omega, .inr (by omega)⟩
              have hnn100 : nn ≤ 100 := by omega
              have hkn : k < nn := by omega
              have HLN2 : Hid ((idx.map (ofP P)).length = nn) := Lib.hid (by rw [List.length_map, hnn])
              rw [← hnn] at n1 ⊢
              clear hnn
              have CL := fun n => by
                have h := nlen_q (HS5.out.net.same ((Upd.refl [] _).drewN n) (by simp) ownN_upd)
                rw [HLN2.out] at h
                exact h
              have HCL := Lib.hid CL
              clear CL
              rcases hz2 with hz2 | hz2
              case' inl => have t3 : decide ((k : Int) < 0) = false := by simp
              case' inr => have t3 : decide ((k : Int) - (nn : Int) < 0) = true := by simp; omega
              · go_wp2_with fail
                go_quiet ((go_at_call 22; exact Calls.quiet_of_same ((HCL.out _).mono fun e w' h => ⟨h.1, h.2⟩)))
                go_wp2_with fail
                refine (nlen_any (HS5.out.net.same ((Upd.refl [] w5).drewN nq) (by simp) ownN_upd)).mono ?_
                rintro e wq ⟨rfl, uu⟩
                rw [HLN2.out]
                have SX := Lib.hid ((HS5.out.same ((Upd.refl [] w5).drewN nq)).same uu)
                have TX : Hid (wq.rowIs tb 4 q (fun j => .bool (T j))) := Lib.hid (HT5.out.of_block ((((Upd.refl [] w5).drewN nq).trans uu (by simp)).block tb HT5.out.lt (by simp)))
                clear uu
                go_wp2_with fail
                (try rw [Int.sub_add_cancel])
                obtain ⟨j0, hj0⟩ : ∃ j, idx[k]? = some j := ⟨_, List.getElem?_eq_getElem hk⟩
                have hjq : j0 < q := HW.out.lt j0 (List.mem_of_getElem? hj0)
                obtain ⟨⟨pi, px⟩, hpx⟩ : ∃ x, P[j0]? = some x := ⟨_, List.getElem?_eq_getElem (by have := HQ.out; omega)⟩
                have hd0 : (idx.map (ofP P))[k]? = some px := by rw [List.getElem?_map, hj0]; exact congrArg some (ofP_at hpx)
                have hctx : nth 8 px = .num pi := SX.out.ctx _ (List.mem_of_getElem? hpx)
                have HD0 := Lib.hid hd0
                have HCTX := Lib.hid hctx
                have HPX := Lib.hid hpx
                have HJ0 := Lib.hid hj0
                have HLN : Hid ((idx.map (ofP P)).length ≤ 100000) := Lib.hid (by rw [List.length_map]; omega)
                have htX : tb ∉ X := fun hx => SX.out.net.lt.2.2.2 tb hx (by simp)
                have HTX := Lib.hid htX
                have HGD : Hid (sMsg.good px) := Lib.hid (SX.out.net.len px (List.mem_of_getElem? hd0))
                clear hpx hd0 hctx hj0 htX
                refine (ndeliver_yes k px SX.out.net HD0.out HLN.out).mono ?_
                rintro e w6 ⟨ds, X6, F6, rfl, n6, h6, hr6, hF6⟩
                have S6 : Hid (SentM w w6 p m (.slice sa q sc) P xss ((idx.eraseIdx k).map (ofP P)) X6 [tb]) := Lib.hid (by
                  have := SX.out.call n6 h6
                  rwa [← map_erase] at this)
                have T6 := Lib.hid (TX.out.of_block (n6.upd.block tb TX.out.lt HTX.out))
                have hdl : ds.length = 46 := hr6.len
                have HONE := Lib.hid hr6.one
                have H8 : Hid (ds[8]? = some (.int .i64 pi)) := Lib.hid (by
                  obtain ⟨n, e1, e2, _⟩ := msg_ctx hr6
                  rw [HCTX.out] at e1
                  cases e1; exact e2)
                have HR6 := Lib.hid hr6
                clear n6 h6 hr6 hF6
                go_wp2_with (first | (refine wpList_alloc_blk rfl 58 rfl sMsg.zc (zero58 _) ?_; intro wP hP uP; have HPb := Lib.hid hP; have UP := Lib.hid uP; clear hP uP) | (refine wpList_store_blk rfl 58 (.tmp 12) (.tmp 82) rfl w6.heap.size ds rfl rfl HPb.out (by rw [hdl]; exact Try.size58) (by rw [hdl]; rfl) HONE.out ?_; intro w7 hd ud; have HD7 := Lib.hid hd; have V7 : Hid (Upd [] w6 w7) := Lib.hid (UP.out.trans ud (by simp)); clear hd ud))
                have S7 := Lib.hid (S6.out.same V7.out)
                have T7 := Lib.hid (T6.out.of_block (V7.out.block tb T6.out.lt (by simp)))
                have HR7 := Lib.hid (HR6.out.updM V7.out (by simp))
                obtain ⟨mb, hmb⟩ : ∃ mb, mb = w6.heap.size := ⟨_, rfl⟩
                rw [← hmb] at HD7 ⊢
                clear hmb
                have hrow := S7.out.row
                obtain ⟨sg, scq, hsv, _, _⟩ := own_some hrow (by have := HQ.out; omega)
                simp only [Value.slice.injEq] at hsv
                obtain ⟨rfl, hsn, rfl⟩ := hsv
                rw [← hsn] at hrow
                have hXC : ∀ j us, xss[j]? = some us → w7.rangeAt sg (j * 46) us ∧ sg < w7.heap.size := fun j us hj => ⟨row_range hrow S7.out.wid hj, (by rcases hrow.2 with ⟨h0, _⟩ | ⟨g', cap, cur, hv, _, hb, _⟩; cases h0; cases hv; exact lt_of_block hb)⟩
                have HXC := Lib.hid hXC
                clear hrow hsn hXC
                have HCE : Hid (∀ j, j < q → ∃ (us : List Value) (pj : Int × Val), xss[j]? = some us ∧ P[j]? = some pj ∧ us[8]? = some (.int .i64 pj.1)) := Lib.hid (fun j hj => by
                  have h1 : xss[j]? = some (xss[j]'(by rw [S7.out.cnt, ← HQ.out]; exact hj)) := List.getElem?_eq_getElem _
                  have h2 : P[j]? = some (P[j]'(by rw [← HQ.out]; exact hj)) := List.getElem?_eq_getElem _
                  refine ⟨_, _, h1, h2, ?_⟩
                  obtain ⟨n, e1, e2, _⟩ := msg_ctx (S7.out.rep j _ _ h1 h2)
                  rw [S7.out.ctx _ (List.mem_of_getElem? h2)] at e1
                  cases e1; exact e2)
                have HNEQ : Hid (∀ j (pj : Int × Val), P[j]? = some pj → (pj.1 == pi) = decide (j = j0)) := Lib.hid (fun j pj hj => by
                  by_cases e : j = j0
                  · subst e
                    have := HPX.out
                    rw [hj] at this
                    cases this
                    simp
                  · rcases Nat.lt_or_gt_of_ne e with h | h
                    · have := S7.out.inc j j0 _ _ h hj HPX.out
                      simp only at this
                      rw [decide_eq_false e, beq_eq_false_iff_ne]; omega
                    · have := S7.out.inc j0 j _ _ h HPX.out hj
                      simp only at this
                      rw [decide_eq_false e, beq_eq_false_iff_ne]; omega)
                go_wp2_with fail
                go_loopg [14, 15] q (fun g s t wr => ∃ j : Nat, t = .int .i64 j ∧ q - j = g ∧ j ≤ q ∧ s = .int .i64 (if j0 < j then (j0 : Int) else -1) ∧ Upd [] w7 wr)
                case atStart => exact ⟨0, rfl, rfl, by omega, by rw [if_neg (by omega)], Upd.refl _ _⟩
                case round =>
                  obtain ⟨j, rfl, hg2, hj, rfl, hu2⟩ := hrel
                  have HG2 := Lib.hid hg2
                  have HU2 := Lib.hid hu2
                  clear hg2 hu2
                  obtain ⟨at_, hat⟩ : ∃ z : Int, z = if j0 < j then (j0 : Int) else -1 := ⟨_, rfl⟩
                  rw [← hat]
                  have HAT := Lib.hid hat
                  clear hat
                  by_cases hjlt : j < q
                  · have j1 : decide (j < q) = true := by simpa using hjlt
                    obtain ⟨us, pj, hus, hpj, h8⟩ := HCE.out j hjlt
                    obtain ⟨hrg, hsl⟩ := HXC.out j us hus
                    have y1 : wr.cell? ⟨sg, j * 46 + 8, none⟩ = some (.int .i64 pj.1) := (HU2.out.cell (a := ⟨sg, j * 46 + 8, none⟩) hsl (by simp)).trans (hrg 8 _ h8)
                    have y2 : wr.cell? ⟨mb, 8, none⟩ = some (.int .i64 pi) := (HU2.out.blk HD7.out (by simp)).cell H8.out
                    have y3 := (HU2.out.blk HD7.out (by simp)).lt
                    have y4 : sg < wr.heap.size := Nat.lt_of_lt_of_le hsl HU2.out.size
                    have hne := HNEQ.out j pj hpj
                    clear hus hpj h8 hrg
                    by_cases e : j = j0
                    · rw [decide_eq_true e] at hne
                      have HE := Lib.hid e
                      clear e
                      go_wp2_with fail
                      go_quiet (fail)
                      go_wp2_with fail
                      go_roundg (q - (j + 1))
                      case measure => have := HG2.out; omega
                      case rel => exact ⟨j + 1, by go_num, rfl, by omega, by rw [if_pos (by have := HE.out; omega), HE.out], HU2.out.drewN _⟩
                    · rw [decide_eq_false e] at hne
                      have HE := Lib.hid e
                      clear e
                      go_wp2_with fail
                      go_quiet (fail)
                      go_wp2_with fail
                      go_roundg (q - (j + 1))
                      case measure => have := HG2.out; omega
                      case rel => exact ⟨j + 1, by go_num, rfl, by omega, by
                        rw [HAT.out]
                        by_cases h : j0 < j
                        · rw [if_pos h, if_pos (by omega)]
                        · rw [if_neg h, if_neg (by have := HE.out; omega)], HU2.out.drewN _⟩
                  · have j1 : decide (j < q) = false := by simpa using hjlt
                    have hat : at_ = (j0 : Int) := by rw [HAT.out, if_pos (by omega)]
                    subst hat
                    obtain ⟨us, pj, hus, hpj, h8⟩ := HCE.out j0 hjq
                    have hpp : pj = (pi, px) := by have := HPX.out; rw [hpj] at this; exact Option.some.inj this
                    subst hpp
                    have hrus := S7.out.rep j0 us _ hus hpj
                    have hul : us.length = 46 := hrus.len
                    obtain ⟨hrg, hsl⟩ := HXC.out j0 us hus
                    have HRUS := Lib.hid hrus
                    have HRGS := Lib.hid hrg
                    have HTF : Hid (T j0 = false) := Lib.hid (by
                      have := HW.out.flag j0 hjq
                      cases h : T j0 with
                      | false => rfl
                      | true => exact absurd (List.mem_of_getElem? HJ0.out) (this.1 h))
                    have HFT : Hid (∀ wi, Upd [] w7 wi → wi.cell? ⟨tb, j0, none⟩ = some (.bool false) ∧ wi.rangeAt sg (j0 * 46) us ∧ wi.rangeAt mb 0 ds ∧ wi.frozen? ⟨tb, j0, none⟩ = false ∧ tb < wi.heap.size) := Lib.hid (fun wi u => by
                      have hb := u.block tb T7.out.lt (by simp)
                      have ht := T7.out.of_block hb
                      refine ⟨by rw [ht.cell hjq, HTF.out], rangeAt_keep HRGS.out (u.block sg hsl (by simp)), (u.blk HD7.out (by simp)).range, ht.frozen _, ht.lt⟩)
                    have HWM : Hid (sMsg.wmax px ≤ 1099511627776) := Lib.hid (Nat.le_trans (Sch.wmax_le _ _ HGD.out) (of_decide_eq_true (by kernel_rfl)))
                    clear hus hpj h8 hrus hrg HAT
                    have t5 : decide ((j0 : Int) < 0) = false := by simp
                    go_wp2_with fail
                    refine wp_region_lex (fun w' => Upd [] w7 w') 99 [(0, true), (1, true), (2, true), (3, true), (4, true), (5, true), (6, true), (7, true), (8, true), (9, true), (10, true), (11, true), (12, true), (13, true), (14, false), (15, false), (16, false)] (by kernel_rfl) (by kernel_rfl) (by kernel_rfl) (by kernel_rfl) (fun _ _ d _ _ h => by cases d <;> exact h) ?_
                    simp only [lexOps, List.map_cons, List.map_nil, List.getD_cons_zero, List.getD_cons_succ]
                    have hS0 : Upd [] w7 wr.drew := HU2.out.drew
                    iterate 3 (refine lex_read rfl (by exact hS0) (v := ?_) (fun w' hw => ?_) ?_; rotate_left; (focus (go_simp; try with_reducible rfl)); simp only [Act.put, List.setIfInBounds_toArray, List.set_cons_zero, List.set_cons_succ])
                    iterate 4 (refine lex_read_g (by first | rfl | simp [Region.wanted, yielded]) (by exact hS0) (v := ?_) (fun w' hw => ?_) ?_; rotate_left; (focus (obtain ⟨k1, _, _, _, k2⟩ := HFT.out w' hw; go_simp; try with_reducible rfl)); simp only [Act.put, List.setIfInBounds_toArray, List.set_cons_zero, List.set_cons_succ])
                    iterate 2 (refine lex_read rfl (by exact hS0) (v := ?_) (fun w' hw => ?_) ?_; rotate_left; (focus (go_simp; try with_reducible rfl)); simp only [Act.put, List.setIfInBounds_toArray, List.set_cons_zero, List.set_cons_succ])
                    iterate 3 (refine lex_read_g (by first | rfl | simp [Region.wanted, yielded]) (by exact hS0) (v := ?_) (fun w' hw => ?_) ?_; rotate_left; (focus (go_simp; try with_reducible rfl)); simp only [Act.put, List.setIfInBounds_toArray, List.set_cons_zero, List.set_cons_succ])
                    refine lex_read_g (by first | rfl | simp [Region.wanted, yielded]) (by exact hS0) (fun w' hw => exec_load (by rfl) (by rfl) (run_loadAt_mid w' sg (j0 * 46) 58 us _ (HFT.out w' hw).2.1 Try.underlying58 rfl (by rw [hul]; exact Try.size58))) ?_
                    simp only [Act.put, List.setIfInBounds_toArray, List.set_cons_zero, List.set_cons_succ]
                    refine lex_read_g (by first | rfl | simp [Region.wanted, yielded]) (by exact hS0) (fun w' hw => exec_load (by rfl) (by rfl) (run_loadAt_mid w' mb 0 58 ds _ (HFT.out w' hw).2.2.1 Try.underlying58 rfl (by rw [hdl]; exact Try.size58))) ?_
                    simp only [Act.put, List.setIfInBounds_toArray, List.set_cons_zero, List.set_cons_succ]
                    have SD := Lib.hid (S7.out.same hS0)
                    refine lex_do_g (by first | rfl | simp [Region.wanted, yielded]) (fun K hK => ?_)
                    go_simp
                    refine (nsame_eq us ds px wr.drew (rep_all HRUS.out SD.out.upd) ((HR7.out.updM hS0 (by simp)).mono (fun _ _ h => h)) HWM.out).mono ?_
                    rintro e w8 ⟨rfl, u8⟩
                    have hS8 : Upd [] w7 w8 := hS0.trans u8 (by simp)
                    refine hK _ _ (fun _ => hS8) ?_
                    clear hK K
                    try simp only [Act.put, List.setIfInBounds_toArray, List.set_cons_zero, List.set_cons_succ]
                    refine lex_do_g (by first | rfl | simp [Region.wanted, yielded]) (fun K hK => ?_)
                    go_simp
                    refine hK _ _ (fun _ => hS8) ?_
                    clear hK K
                    try simp only [Act.put, List.setIfInBounds_toArray, List.set_cons_zero, List.set_cons_succ]
                    refine lex_do rfl (fun K hK => ?_)
                    go_simp
                    refine hK _ _ (fun _ => hS8) ?_
                    clear hK K
                    try simp only [Act.put, List.setIfInBounds_toArray, List.set_cons_zero, List.set_cons_succ]
                    refine lex_nil ?_
                    obtain ⟨z1, _, _, z2, z3⟩ := HFT.out w8 hS8
                    have S8 := Lib.hid (S7.out.same hS8)
                    have T8 := Lib.hid (T7.out.of_block (hS8.block tb T7.out.lt (by simp)))
                    clear hS0 hS8 u8
                    go_wp2_with fail
                    go_roundg (idx.eraseIdx k).length
                    case measure => have := HG.out; rw [List.length_eraseIdx, if_pos hk]; omega
                    case rel => exact ⟨i + 1, idx.eraseIdx k, fun i => if i = j0 then true else T i, X6, by go_num, rfl, by rw [List.length_eraseIdx, if_pos hk]; omega, HW.out.take HJ0.out, (T8.out.set j0 (.bool true)).congr (fun i _ => by by_cases h : i = j0 <;> simp [h]), S8.out.chg (F := [tb]) ((Upd.refl _ _).setCell (by simp) _) (fun k hk => by simp at hk; subst hk; exact ⟨by simp, htbw, HSB.out⟩)⟩
              · go_wp2_with fail
                go_quiet ((go_at_call 22; exact Calls.quiet_of_same ((HCL.out _).mono fun e w' h => ⟨h.1, h.2⟩)))
                go_wp2_with fail
                have SX := Lib.hid (HS5.out.same ((Upd.refl [] w5).drewN nq))
                have TX : Hid (World.rowIs (w5.drewN nq) tb 4 q (fun j => .bool (T j))) := Lib.hid (HT5.out.of_block (((Upd.refl [] w5).drewN nq).block tb HT5.out.lt (by simp)))
                obtain ⟨j0, hj0⟩ : ∃ j, idx[k]? = some j := ⟨_, List.getElem?_eq_getElem hk⟩
                have hjq : j0 < q := HW.out.lt j0 (List.mem_of_getElem? hj0)
                obtain ⟨⟨pi, px⟩, hpx⟩ : ∃ x, P[j0]? = some x := ⟨_, List.getElem?_eq_getElem (by have := HQ.out; omega)⟩
                have hd0 : (idx.map (ofP P))[k]? = some px := by rw [List.getElem?_map, hj0]; exact congrArg some (ofP_at hpx)
                have hctx : nth 8 px = .num pi := SX.out.ctx _ (List.mem_of_getElem? hpx)
                have HD0 := Lib.hid hd0
                have HCTX := Lib.hid hctx
                have HPX := Lib.hid hpx
                have HJ0 := Lib.hid hj0
                have HLN : Hid ((idx.map (ofP P)).length ≤ 100000) := Lib.hid (by rw [List.length_map]; omega)
                have htX : tb ∉ X := fun hx => SX.out.net.lt.2.2.2 tb hx (by simp)
                have HTX := Lib.hid htX
                have HGD : Hid (sMsg.good px) := Lib.hid (SX.out.net.len px (List.mem_of_getElem? hd0))
                clear hpx hd0 hctx hj0 htX
                refine (ndeliver_yes k px SX.out.net HD0.out HLN.out).mono ?_
                rintro e w6 ⟨ds, X6, F6, rfl, n6, h6, hr6, hF6⟩
                have S6 : Hid (SentM w w6 p m (.slice sa q sc) P xss ((idx.eraseIdx k).map (ofP P)) X6 [tb]) := Lib.hid (by
                  have := SX.out.call n6 h6
                  rwa [← map_erase] at this)
                have T6 := Lib.hid (TX.out.of_block (n6.upd.block tb TX.out.lt HTX.out))
                have hdl : ds.length = 46 := hr6.len
                have HONE := Lib.hid hr6.one
                have H8 : Hid (ds[8]? = some (.int .i64 pi)) := Lib.hid (by
                  obtain ⟨n, e1, e2, _⟩ := msg_ctx hr6
                  rw [HCTX.out] at e1
                  cases e1; exact e2)
                have HR6 := Lib.hid hr6
                clear n6 h6 hr6 hF6
                go_wp2_with (first | (refine wpList_alloc_blk rfl 58 rfl sMsg.zc (zero58 _) ?_; intro wP hP uP; have HPb := Lib.hid hP; have UP := Lib.hid uP; clear hP uP) | (refine wpList_store_blk rfl 58 (.tmp 12) (.tmp 82) rfl w6.heap.size ds rfl rfl HPb.out (by rw [hdl]; exact Try.size58) (by rw [hdl]; rfl) HONE.out ?_; intro w7 hd ud; have HD7 := Lib.hid hd; have V7 : Hid (Upd [] w6 w7) := Lib.hid (UP.out.trans ud (by simp)); clear hd ud))
                have S7 := Lib.hid (S6.out.same V7.out)
                have T7 := Lib.hid (T6.out.of_block (V7.out.block tb T6.out.lt (by simp)))
                have HR7 := Lib.hid (HR6.out.updM V7.out (by simp))
                obtain ⟨mb, hmb⟩ : ∃ mb, mb = w6.heap.size := ⟨_, rfl⟩
                rw [← hmb] at HD7 ⊢
                clear hmb
                have hrow := S7.out.row
                obtain ⟨sg, scq, hsv, _, _⟩ := own_some hrow (by have := HQ.out; omega)
                simp only [Value.slice.injEq] at hsv
                obtain ⟨rfl, hsn, rfl⟩ := hsv
                rw [← hsn] at hrow
                have hXC : ∀ j us, xss[j]? = some us → w7.rangeAt sg (j * 46) us ∧ sg < w7.heap.size := fun j us hj => ⟨row_range hrow S7.out.wid hj, (by rcases hrow.2 with ⟨h0, _⟩ | ⟨g', cap, cur, hv, _, hb, _⟩; cases h0; cases hv; exact lt_of_block hb)⟩
                have HXC := Lib.hid hXC
                clear hrow hsn hXC
                have HCE : Hid (∀ j, j < q → ∃ (us : List Value) (pj : Int × Val), xss[j]? = some us ∧ P[j]? = some pj ∧ us[8]? = some (.int .i64 pj.1)) := Lib.hid (fun j hj => by
                  have h1 : xss[j]? = some (xss[j]'(by rw [S7.out.cnt, ← HQ.out]; exact hj)) := List.getElem?_eq_getElem _
                  have h2 : P[j]? = some (P[j]'(by rw [← HQ.out]; exact hj)) := List.getElem?_eq_getElem _
                  refine ⟨_, _, h1, h2, ?_⟩
                  obtain ⟨n, e1, e2, _⟩ := msg_ctx (S7.out.rep j _ _ h1 h2)
                  rw [S7.out.ctx _ (List.mem_of_getElem? h2)] at e1
                  cases e1; exact e2)
                have HNEQ : Hid (∀ j (pj : Int × Val), P[j]? = some pj → (pj.1 == pi) = decide (j = j0)) := Lib.hid (fun j pj hj => by
                  by_cases e : j = j0
                  · subst e
                    have := HPX.out
                    rw [hj] at this
                    cases this
                    simp
                  · rcases Nat.lt_or_gt_of_ne e with h | h
                    · have := S7.out.inc j j0 _ _ h hj HPX.out
                      simp only at this
                      rw [decide_eq_false e, beq_eq_false_iff_ne]; omega
                    · have := S7.out.inc j0 j _ _ h HPX.out hj
                      simp only at this
                      rw [decide_eq_false e, beq_eq_false_iff_ne]; omega)
                go_wp2_with fail
                go_loopg [14, 15] q (fun g s t wr => ∃ j : Nat, t = .int .i64 j ∧ q - j = g ∧ j ≤ q ∧ s = .int .i64 (if j0 < j then (j0 : Int) else -1) ∧ Upd [] w7 wr)
                case atStart => exact ⟨0, rfl, rfl, by omega, by rw [if_neg (by omega)], Upd.refl _ _⟩
                case round =>
                  obtain ⟨j, rfl, hg2, hj, rfl, hu2⟩ := hrel
                  have HG2 := Lib.hid hg2
                  have HU2 := Lib.hid hu2
                  clear hg2 hu2
                  obtain ⟨at_, hat⟩ : ∃ z : Int, z = if j0 < j then (j0 : Int) else -1 := ⟨_, rfl⟩
                  rw [← hat]
                  have HAT := Lib.hid hat
                  clear hat
                  by_cases hjlt : j < q
                  · have j1 : decide (j < q) = true := by simpa using hjlt
                    obtain ⟨us, pj, hus, hpj, h8⟩ := HCE.out j hjlt
                    obtain ⟨hrg, hsl⟩ := HXC.out j us hus
                    have y1 : wr.cell? ⟨sg, j * 46 + 8, none⟩ = some (.int .i64 pj.1) := (HU2.out.cell (a := ⟨sg, j * 46 + 8, none⟩) hsl (by simp)).trans (hrg 8 _ h8)
                    have y2 : wr.cell? ⟨mb, 8, none⟩ = some (.int .i64 pi) := (HU2.out.blk HD7.out (by simp)).cell H8.out
                    have y3 := (HU2.out.blk HD7.out (by simp)).lt
                    have y4 : sg < wr.heap.size := Nat.lt_of_lt_of_le hsl HU2.out.size
                    have hne := HNEQ.out j pj hpj
                    clear hus hpj h8 hrg
                    by_cases e : j = j0
                    · rw [decide_eq_true e] at hne
                      have HE := Lib.hid e
                      clear e
                      go_wp2_with fail
                      go_quiet (fail)
                      go_wp2_with fail
                      go_roundg (q - (j + 1))
                      case measure => have := HG2.out; omega
                      case rel => exact ⟨j + 1, by go_num, rfl, by omega, by rw [if_pos (by have := HE.out; omega), HE.out], HU2.out.drewN _⟩
                    · rw [decide_eq_false e] at hne
                      have HE := Lib.hid e
                      clear e
                      go_wp2_with fail
                      go_quiet (fail)
                      go_wp2_with fail
                      go_roundg (q - (j + 1))
                      case measure => have := HG2.out; omega
                      case rel => exact ⟨j + 1, by go_num, rfl, by omega, by
                        rw [HAT.out]
                        by_cases h : j0 < j
                        · rw [if_pos h, if_pos (by omega)]
                        · rw [if_neg h, if_neg (by have := HE.out; omega)], HU2.out.drewN _⟩
                  · have j1 : decide (j < q) = false := by simpa using hjlt
                    have hat : at_ = (j0 : Int) := by rw [HAT.out, if_pos (by omega)]
                    subst hat
                    obtain ⟨us, pj, hus, hpj, h8⟩ := HCE.out j0 hjq
                    have hpp : pj = (pi, px) := by have := HPX.out; rw [hpj] at this; exact Option.some.inj this
                    subst hpp
                    have hrus := S7.out.rep j0 us _ hus hpj
                    have hul : us.length = 46 := hrus.len
                    obtain ⟨hrg, hsl⟩ := HXC.out j0 us hus
                    have HRUS := Lib.hid hrus
                    have HRGS := Lib.hid hrg
                    have HTF : Hid (T j0 = false) := Lib.hid (by
                      have := HW.out.flag j0 hjq
                      cases h : T j0 with
                      | false => rfl
                      | true => exact absurd (List.mem_of_getElem? HJ0.out) (this.1 h))
                    have HFT : Hid (∀ wi, Upd [] w7 wi → wi.cell? ⟨tb, j0, none⟩ = some (.bool false) ∧ wi.rangeAt sg (j0 * 46) us ∧ wi.rangeAt mb 0 ds ∧ wi.frozen? ⟨tb, j0, none⟩ = false ∧ tb < wi.heap.size) := Lib.hid (fun wi u => by
                      have hb := u.block tb T7.out.lt (by simp)
                      have ht := T7.out.of_block hb
                      refine ⟨by rw [ht.cell hjq, HTF.out], rangeAt_keep HRGS.out (u.block sg hsl (by simp)), (u.blk HD7.out (by simp)).range, ht.frozen _, ht.lt⟩)
                    have HWM : Hid (sMsg.wmax px ≤ 1099511627776) := Lib.hid (Nat.le_trans (Sch.wmax_le _ _ HGD.out) (of_decide_eq_true (by kernel_rfl)))
                    clear hus hpj h8 hrus hrg HAT
                    have t5 : decide ((j0 : Int) < 0) = false := by simp
                    go_wp2_with fail
                    refine wp_region_lex (fun w' => Upd [] w7 w') 99 [(0, true), (1, true), (2, true), (3, true), (4, true), (5, true), (6, true), (7, true), (8, true), (9, true), (10, true), (11, true), (12, true), (13, true), (14, false), (15, false), (16, false)] (by kernel_rfl) (by kernel_rfl) (by kernel_rfl) (by kernel_rfl) (fun _ _ d _ _ h => by cases d <;> exact h) ?_
                    simp only [lexOps, List.map_cons, List.map_nil, List.getD_cons_zero, List.getD_cons_succ]
                    have hS0 : Upd [] w7 wr.drew := HU2.out.drew
                    iterate 3 (refine lex_read rfl (by exact hS0) (v := ?_) (fun w' hw => ?_) ?_; rotate_left; (focus (go_simp; try with_reducible rfl)); simp only [Act.put, List.setIfInBounds_toArray, List.set_cons_zero, List.set_cons_succ])
                    iterate 4 (refine lex_read_g (by first | rfl | simp [Region.wanted, yielded]) (by exact hS0) (v := ?_) (fun w' hw => ?_) ?_; rotate_left; (focus (obtain ⟨k1, _, _, _, k2⟩ := HFT.out w' hw; go_simp; try with_reducible rfl)); simp only [Act.put, List.setIfInBounds_toArray, List.set_cons_zero, List.set_cons_succ])
                    iterate 2 (refine lex_read rfl (by exact hS0) (v := ?_) (fun w' hw => ?_) ?_; rotate_left; (focus (go_simp; try with_reducible rfl)); simp only [Act.put, List.setIfInBounds_toArray, List.set_cons_zero, List.set_cons_succ])
                    iterate 3 (refine lex_read_g (by first | rfl | simp [Region.wanted, yielded]) (by exact hS0) (v := ?_) (fun w' hw => ?_) ?_; rotate_left; (focus (go_simp; try with_reducible rfl)); simp only [Act.put, List.setIfInBounds_toArray, List.set_cons_zero, List.set_cons_succ])
                    refine lex_read_g (by first | rfl | simp [Region.wanted, yielded]) (by exact hS0) (fun w' hw => exec_load (by rfl) (by rfl) (run_loadAt_mid w' sg (j0 * 46) 58 us _ (HFT.out w' hw).2.1 Try.underlying58 rfl (by rw [hul]; exact Try.size58))) ?_
                    simp only [Act.put, List.setIfInBounds_toArray, List.set_cons_zero, List.set_cons_succ]
                    refine lex_read_g (by first | rfl | simp [Region.wanted, yielded]) (by exact hS0) (fun w' hw => exec_load (by rfl) (by rfl) (run_loadAt_mid w' mb 0 58 ds _ (HFT.out w' hw).2.2.1 Try.underlying58 rfl (by rw [hdl]; exact Try.size58))) ?_
                    simp only [Act.put, List.setIfInBounds_toArray, List.set_cons_zero, List.set_cons_succ]
                    have SD := Lib.hid (S7.out.same hS0)
                    refine lex_do_g (by first | rfl | simp [Region.wanted, yielded]) (fun K hK => ?_)
                    go_simp
                    refine (nsame_eq us ds px wr.drew (rep_all HRUS.out SD.out.upd) ((HR7.out.updM hS0 (by simp)).mono (fun _ _ h => h)) HWM.out).mono ?_
                    rintro e w8 ⟨rfl, u8⟩
                    have hS8 : Upd [] w7 w8 := hS0.trans u8 (by simp)
                    refine hK _ _ (fun _ => hS8) ?_
                    clear hK K
                    try simp only [Act.put, List.setIfInBounds_toArray, List.set_cons_zero, List.set_cons_succ]
                    refine lex_do_g (by first | rfl | simp [Region.wanted, yielded]) (fun K hK => ?_)
                    go_simp
                    refine hK _ _ (fun _ => hS8) ?_
                    clear hK K
                    try simp only [Act.put, List.setIfInBounds_toArray, List.set_cons_zero, List.set_cons_succ]
                    refine lex_do rfl (fun K hK => ?_)
                    go_simp
                    refine hK _ _ (fun _ => hS8) ?_
                    clear hK K
                    try simp only [Act.put, List.setIfInBounds_toArray, List.set_cons_zero, List.set_cons_succ]
                    refine lex_nil ?_
                    obtain ⟨z1, _, _, z2, z3⟩ := HFT.out w8 hS8
                    have S8 := Lib.hid (S7.out.same hS8)
                    have T8 := Lib.hid (T7.out.of_block (hS8.block tb T7.out.lt (by simp)))
                    clear hS0 hS8 u8
                    go_wp2_with fail
                    go_roundg (idx.eraseIdx k).length
                    case measure => have := HG.out; rw [List.length_eraseIdx, if_pos hk]; omega
                    case rel => exact ⟨i + 1, idx.eraseIdx k, fun i => if i = j0 then true else T i, X6, by go_num, rfl, by rw [List.length_eraseIdx, if_pos hk]; omega, HW.out.take HJ0.out, (T8.out.set j0 (.bool true)).congr (fun i _ => by by_cases h : i = j0 <;> simp [h]), S8.out.chg (F := [tb]) ((Upd.refl _ _).setCell (by simp) _) (fun k hk => by simp at hk; subst hk; exact ⟨by simp, htbw, HSB.out⟩)⟩
end Go.Proofs.Ythecincpejpmpaa
namespace Go.Proofs.Ythecincpejpmpaa.netAll
open Go.ChangeShapes Go.WideShapes Go.ChangeAt Go.RowKit Go.Lb Go.Rc

set_option maxRecDepth 100000 in
theorem contract (H : Type) (enc : TypeId × Value → H) (W : World) (base : Nat) (args : Array Value) (ds gs : List (DataW H)) (before : List MemPlace)
    (hval : ∀ (j : Nat) t v, Try.f7.params[j]? = some t → args[j]? = some v → Value.okWide Try.prog W .any base t v)
    (hW : DataW.Whole enc Try.prog Try.f7.params.toList Rows.netAllSpec.vars false W args.toList ds gs before)
    (hsz : (DataW.weightsEach Try.prog (Try.f7.params.toList ++ Rows.netAllSpec.plain.varTypes Try.prog) (ds ++ gs)).all (· ≤ reachBytes) = true) :
    Calls Try.prog 7 args W fun e W' => ∃ v, e = .returned v ∧ Rows.netAllSpec.post enc Try.prog Try.f7 false true false false W args v W' := by
  have hW' := hW
  obtain ⟨p, q, hA0, hV, rfl, hfz, hnd⟩ := hW
  have hA : DataW.TrodAll enc Try.prog W 0 (fun _ => true) true Try.f7.params.toList args.toList ds p := hA0
  rw [Try.params7] at hA hval hsz
  obtain ⟨v0, vs0, d0, ds0, p0, q0, hargs, rfl, rfl, h0, s0⟩ := trodAll_cons hA
  obtain ⟨v1, vs1, d1, ds1, p1, q1, rfl, rfl, rfl, h1, s1⟩ := trodAll_cons s0
  obtain ⟨rfl, rfl, rfl⟩ := trodAll_nil s1
  have hz0 : (DataW.weightsEach Try.prog (51 :: 41 :: Rows.netAllSpec.plain.varTypes Try.prog) (d0 :: d1 :: gs)).all (· ≤ reachBytes) = true := hsz
  obtain ⟨r0, hz1⟩ := reached_of hz0
  obtain ⟨r1, hz2⟩ := reached_of hz1
  obtain rfl : args = #[v0, v1] := by cases args; simp_all
  obtain ⟨rfl, rfl⟩ := trodVars_none hV
  have k0 := h0
  have lt0 : ∀ x ∈ p0, x.block < W.heap.size := by obtain ⟨m, hm⟩ := k0; exact DataW.trod_lt m _ _ _ hm
  have k1 := h1
  have lt1 : ∀ x ∈ p1, x.block < W.heap.size := by obtain ⟨m, hm⟩ := k1; exact DataW.trod_lt m _ _ _ hm
  obtain ⟨a0, len0, cap0, rfl⟩ := okWide_slice Try.underlying51 (hval 0 51 v0 rfl rfl)
  have hl0 := slice_r Try.underlying51 (z := 536) (by kernel_rfl) h0 r0
  obtain ⟨y0, hr0, hw0⟩ := arg_list_r (m := 20) (s := .list sMsg) (by kernel_rfl) h0 r0
  obtain ⟨Ls0, hle0, hye0⟩ := list_of hr0
  subst hle0 hye0
  simp only [reachBytes] at hl0
  obtain ⟨a1, len1, cap1, rfl⟩ := okWide_slice Try.underlying41 (hval 1 41 v1 rfl rfl)
  have hl1 := slice_r Try.underlying41 (z := 8) (by kernel_rfl) h1 r1
  obtain ⟨y1, hr1, hw1⟩ := arg_list_r (m := 20) (s := .list .num) (by kernel_rfl) h1 r1
  obtain ⟨Ls1, hle1, hye1⟩ := list_of hr1
  subst hle1 hye1
  simp only [reachBytes] at hl1
  clear hA0 hsz hz0
  refine (netall_ok a0 cap0 Ls0 a1 cap1 Ls1 W hr0 hr1 (msgs_cmax hw0) (by omega) (by omega)).mono fun e W' ⟨he, bel⟩ => ?_
  subst he
  exact ⟨_, rfl, _, _, _, [], _, [], hW', trodAll_mk1 (shut_bool Try.underlying4 _), (trodAll_cons_mk (Below.trod Try.laidOut (by kernel_rfl) (of_decide_eq_true (by kernel_rfl)) k0 bel.below lt0) (trodAll_cons_mk (Below.trod Try.laidOut (by kernel_rfl) (of_decide_eq_true (by kernel_rfl)) k1 bel.below lt1) trodAll_mk0)), rfl, bel.below.frame _, fun h => by cases h⟩

set_option maxRecDepth 100000 in
theorem lifted (os : Os) (started : os.Started) (H : Type) (enc : TypeId × Value → H) :
    ReturnsInHanded {} Try.checked os 7 .any (Rows.netAllSpec.pre6 enc Try.prog Try.f7 Rows.netAllRow.domain false) (Rows.netAllSpec.post enc Try.prog Try.f7 false true false false) := by
  refine returnsInHanded_of_change_sized (C := Try.checked) Try.own started (by kernel_rfl) Try.func7
    (ChangeSpec.witness6 (enc := enc) (C := Try.checked) false ⟨#[], #[.slice none 0 0, .slice none 0 0], []⟩ 8 (by kernel_rfl) (by kernel_rfl) (by kernel_rfl) (by kernel_rfl)) ?_
  intro W base args ds gs before hval hW hcnd hsz _
  exact contract H enc W base args ds gs before hval hW hsz

theorem closed : joinedFacts Try.prog 7 Try.f7 Rows.netAllSpec Rows.netAllRow = true := by
  unfold joinedFacts
  rw [Try.words1, Try.words2, Try.words3]
  kernel_rfl

theorem proved : Rows.NetAllSaid :=
  OpenClaim.holds_of_wide 7 Try.f7 rfl rfl rfl rfl rfl rfl rfl ⟨rfl, rfl, rfl, rfl, rfl⟩ rfl rfl rfl rfl rfl (by kernel_rfl) Try.func7 closed
    (of_decide_eq_true (by kernel_rfl)) (by unfold Func.isWrapper; first | (rw [if_pos (by decide +kernel)]; kernel_rfl) | (rw [if_neg (by decide +kernel)]; exact ⟨rfl, rfl⟩))
    (fun os started H enc _ => lifted os started H enc)
#print axioms proved
end Go.Proofs.Ythecincpejpmpaa.netAll
