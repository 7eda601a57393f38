/- NetLoses returns true for every input, and the input reads afterwards as it did. No condition. -/
import Derived.Test.YthecincpejpmpaaZfh
import Derived.SizedLaws
set_option linter.unusedVariables false
set_option linter.unusedSimpArgs false
/- law03's NetLoses, walked. -/
namespace Go.Proofs.Ythecincpejpmpaa
open Go.RowKit Go.Lb Go.Rc

set_option maxRecDepth 20000 in
set_option maxHeartbeats 4000000 in
theorem netloses_ok (a : Option Addr) (c : Nat) (l : List Val) (a2 : Option Addr) (cl : Nat) (ls : List Val) (w : World) (hr : (Sch.list sMsg).Rep w (· < w.heap.size) [.slice a l.length c] (.list l)) (hr2 : (Sch.list .num).Rep w (· < w.heap.size) [.slice a2 ls.length cl] (.list ls)) (hl : ∀ (i : Nat) (x : Val), l[i]? = some x → sMsg.cmax x ≤ 224000000000000) (hll : l.length ≤ 140737488351232) (hls : ls.length ≤ 140737488351232) :
    Calls Try.prog 8 #[.slice a l.length c, .slice a2 ls.length cl] w fun e w' => e = .returned (.bool true) ∧ Upd [] w w' := by
  obtain ⟨iI, hiI, hzI0, hzI1, hzI2⟩ := info3
  have HEL : Hid (∀ wi, Upd [] w wi → ∀ (i : Nat) (x : Val), l[i]? = some x → ∃ b o us, a = some ⟨b, o, none⟩ ∧ wi.rangeAt b (o + i * 46) us ∧ b < wi.heap.size ∧ sMsg.Rep wi (· < wi.heap.size) us x) := Lib.hid (fun wi u i x hx => by
    obtain ⟨b, o, us, h1, h2, h3, h4⟩ := (elem_at hr).2 i x hx
    exact ⟨b, o, us, h1, rangeAt_keep h2 (u.block b h3 (by simp)), Nat.lt_of_lt_of_le h3 u.size, rep_all h4 u⟩)
  have HWX := Lib.hid hl
  have HNUM : Hid (∀ wi, Upd [] w wi → ∀ i, i < ls.length → ∃ b o, ∃ z : Int, a2 = some ⟨b, o, none⟩ ∧ wi.cell? ⟨b, o + i, none⟩ = some (.int .i64 z)) := Lib.hid (fun wi u i hi => by
    obtain ⟨a', c', l', h1, h2, h3⟩ := hr2
    cases h2
    simp only [List.cons.injEq, Value.slice.injEq, and_true] at h1
    obtain ⟨rfl, _, rfl⟩ := h1
    obtain ⟨b, o, us, k1, _, k2, k3, z, rfl, _⟩ := h3 i _ (List.getElem?_eq_getElem hi)
    refine ⟨b, o, z, k1, ?_⟩
    rw [u.cell (a := ⟨b, o + i, none⟩) k2 (by simp)]
    have := k3 0 _ rfl
    simpa [Sch.size] using this)
  have HTTi : Hid (Try.prog.underlying 41 = some (.slice (Try.prog.elem 41))) := Lib.hid <| by rw [Try.elem41]; exact Try.underlying41
  clear hr hr2 hl
  obtain ⟨m, hm⟩ : ∃ m : Nat, m = 256 := ⟨_, rfl⟩
  have hm1 : 1 ≤ m := by omega
  have hm2 : m ≤ 256 := by omega
  have HM := Lib.hid hm
  clear hm
  go_enter Try.func8, Try.ntmps8
  go_wp2_with fail
  refine (nnew_yes 256 w (by decide) (by decide)).mono ?_
  rintro e w1 ⟨rfl, u1, h1⟩
  rw [← HM.out] at h1
  obtain ⟨p, hp⟩ : ∃ p, p = w.heap.size := ⟨_, rfl⟩
  rw [← hp] at h1 ⊢
  have HP := Lib.hid hp
  have U1 := Lib.hid u1
  have H1 := Lib.hid h1
  clear u1 h1 hp
  go_wp2_with fail
  refine (nknown_true _).mono ?_
  rintro e w2 ⟨rfl, uu⟩
  have U2 := Lib.hid (U1.out.trans uu (by simp))
  have H2 := Lib.hid (H1.out.same uu (by simp) ownN_upd)
  clear uu
  go_wp2_with fail
  go_loopg [6, 7] l.length (fun g s t wr => ∃ (i : Nat) (P : List (Int × Val)) (X : List Nat), t = .int .i64 i ∧ l.length - i = g ∧ i ≤ l.length ∧ i ≤ 60 ∧ P.length ≤ i ∧ Sent w wr p m s P ((P.map (·.2)).drop (P.length - m)) X)
  case atStart => exact ⟨0, [], [p], rfl, rfl, by omega, by omega, by simp, ⟨⟨rfl, .inl ⟨rfl, rfl⟩⟩, by simp, by have := H2.out; simpa [Value.ownBlock] using this, fun k hk => by simp at hk; subst hk; rw [HP.out]; exact Nat.le_refl _, U2.out⟩⟩
  case round =>
    obtain ⟨i, P, X, rfl, hg, hi, hi2, hpi, hS⟩ := hrel
    have HG := Lib.hid hg
    have HS := Lib.hid hS
    have hrow := hS.row
    obtain ⟨sa, sc, rfl⟩ := own_shape' hrow
    have hsz := hS.upd.size
    have HLL : Hid (((P.map (·.2)).drop (P.length - m)).length ≤ m) := Lib.hid (by simp; omega)
    clear hg hS hrow
    by_cases hlt : i < l.length ∧ i < 60
    · obtain ⟨hlt1, hlt2⟩ := hlt
      have t1 : decide ((i : Int) < (l.length : Int)) = true := by simp; omega
      have t2 : decide ((i : Int) < 60) = true := by simp; omega
      have t2n : decide (i < 60) = true := by simp; omega
      obtain ⟨x, hx⟩ : ∃ x, l[i]? = some x := ⟨_, List.getElem?_eq_getElem hlt1⟩
      obtain ⟨b, o, us, ha, hrg, hbl, hru⟩ := HEL.out wr HS.out.upd i x hx
      have hwx := HWX.out i x hx
      subst ha
      obtain ⟨n8, _, h8, htag⟩ := msg_ctx hru
      obtain ⟨hrt, hnt, hwt⟩ := htag (i : Int)
      have hus : us.length = 46 := hru.len
      have HUS := Lib.hid hus
      have HRG := Lib.hid hrg
      have HONE := Lib.hid hru.one
      have H8 := Lib.hid h8
      have HRT := Lib.hid hrt
      have HNT := Lib.hid hnt
      have HWT : Hid (sMsg.cmax (tag (i : Int) x) ≤ 225000000000000) := Lib.hid (by rw [hwt]; omega)
      obtain ⟨gd, hgd⟩ := good_dec sMsg (tag (i : Int) x)
      have HGD := Lib.hid hgd
      clear hx hrg hru h8 htag hrt hnt hwt hus hgd hwx
      go_wp2_with (first | (refine wpList_load_mid rfl 58 (.tmp 34) rfl b (o + i * 46) rfl us _ HRG.out Try.underlying58 rfl (by rw [HUS.out]; exact Try.size58) ?_) | (refine wpList_alloc_blk rfl 58 rfl sMsg.zc (zero58 _) ?_; intro wP hP uP; have HPb := Lib.hid hP; have UP := Lib.hid uP; clear hP uP) | (refine wpList_store_blk rfl 58 (.tmp 8) (.tmp 35) rfl wr.heap.size us rfl rfl HPb.out (by rw [HUS.out]; exact Try.size58) (by rw [HUS.out]; rfl) HONE.out ?_; intro w5 hd ud; have HD5 := Lib.hid hd; have V5 : Hid (Upd [] wr w5) := Lib.hid (UP.out.trans ud (by simp)); have x1 := hd.cell (o := 8) H8.out; have x2 := hd.frozen 8; have x3 := hd.lt; clear hd ud) | (refine wpList_load_blk rfl 58 (.tmp 8) rfl wr.heap.size rfl (HD5.out.set 8 (.int .i64 (i : Int))) Try.underlying58 rfl (by rw [List.length_set, HUS.out]; exact Try.size58) ?_))
      have V6 : Hid (Upd [] wr (w5.setCell ⟨wr.heap.size, 8, none⟩ (.int .i64 (i : Int)))) := Lib.hid (V5.out.setCell (.inr (Nat.le_refl _)) _)
      have S6 := Lib.hid (HS.out.same V6.out)
      have HR6 := Lib.hid (rep_all HRT.out V6.out)
      refine (nsend_any (us.set 8 (.int .i64 (i : Int))) (tag (i : Int) x) gd S6.out.net HR6.out HWT.out HGD.out hm1 hm2 HLL.out).mono ?_
      rintro e w7 ⟨rfl, X7, n7, h7⟩
      have S7 := Lib.hid (S6.out.call0 n7 h7)
      clear n7 h7 x1 x2 x3
      have hsz7 := S7.out.upd.size
      cases gd with
      | false =>
        rw [show errOf false = 1 from rfl]
        go_wp2_with fail
        go_roundg (l.length - (i + 1))
        case measure => have := HG.out; omega
        case rel => exact ⟨i + 1, P, X7, by go_num, rfl, by omega, by omega, by omega, S7.out⟩
      | true =>
        have S7b : Hid (Sent w w7 p m (.slice sa P.length sc) P (((P.map (·.2)) ++ [tag (i : Int) x]).drop (((P.map (·.2)) ++ [tag (i : Int) x]).length - m)) X7) := Lib.hid (by
          have := S7.out
          have e := came_drop (S := P.map (·.2)) (x := tag (i : Int) x) hm1
          rw [List.length_map] at e
          rw [← e]; exact this)
        rw [show errOf true = 0 from rfl]
        go_wp2_with (at_builtin; refine wpList_append_mine rfl (.tmp 42) (.tmp 44) 41 rfl w.heap.size 3 iI _ 1 8 Try.underlying41 hiI hzI0 hzI1 hzI2 rfl (by decide) (.slice sa P.length sc) P.length (P.map fun q => .int .i64 q.1) rfl (World.ownsRow.alloc S7.out.row _) ⟨w7.heap.size, 0, none⟩ 1 1 [.int .i64 (i : Int)] rfl rfl (Blk.news (Blk.new _ 3 [.int .i64 (i : Int)])) (by simp [Value.oneCell']) (by unfold maxLen; omega) (by omega) (by simp; omega) ?_; intro v8 w8 ho8 hg8 hv8; have S8 := Lib.hid (S7b.out.push HNT.out ho8 hg8 hv8); clear ho8 hg8 hv8)
        go_roundg (l.length - (i + 1))
        case measure => have := HG.out; omega
        case rel => exact ⟨i + 1, P ++ [((i : Int), tag (i : Int) x)], X7, by go_num, rfl, by omega, by omega, by simp; omega, by have := S8.out; simpa using this⟩
    · have tx : (decide (i < l.length) = false) ∨ (decide (i < l.length) = true ∧ decide ((i : Int) < 60) = false ∧ decide (i < 60) = false) := by
        by_cases h1 : i < l.length
        · exact .inr ⟨by simp; omega, by simp; omega, by simp; omega⟩
        · exact .inl (by simp; omega)
      clear hlt
      have hq6 : P.length ≤ 60 := by omega
      have HSA : Hid (Sent w wr p m (.slice sa P.length sc) P (P.map (·.2)) X) := Lib.hid (by
        have := HS.out
        rw [show P.length - m = 0 by have := HM.out; omega, List.drop_zero] at this
        exact this)
      clear hpi
      rcases tx with tx | ⟨tx, tz, tz2⟩
      all_goals
        go_wp2_with fail
        go_loopg [6, 9] ls.length (fun g s t wr => ∃ (j : Nat) (P : List (Int × Val)) (X : List Nat), t = .int .i64 j ∧ ls.length - j = g ∧ j ≤ ls.length ∧ P.length ≤ 60 ∧ Sent w wr p m s P (P.map (·.2)) X)
        case atStart => exact ⟨0, P, X, rfl, rfl, by omega, hq6, HSA.out⟩
        case round =>
          obtain ⟨j, P, X, rfl, hg, hj, hq6, hS⟩ := hrel
          have HG2 := Lib.hid hg
          have HS2 := Lib.hid hS
          have hrow2 := hS.row
          obtain ⟨sa2, sc2, rfl⟩ := own_shape' hrow2
          have hsz2 := hS.upd.size
          clear hg hS hrow2
          by_cases hlt2 : j < ls.length ∧ 0 < P.length
          · obtain ⟨hj1, hj2⟩ := hlt2
            have u1 : decide (j < ls.length) = true := by simpa using hj1
            have u2 : decide (0 < P.length) = true := by simpa using hj2
            obtain ⟨b, o, z, ha2, hz⟩ := HNUM.out wr HS2.out.upd j hj1
            subst ha2
            have hrow3 := HS2.out.row
            obtain ⟨sg, sc3, hsv, hsc1, hsc2⟩ := own_some hrow3 hj2
            simp only [Value.slice.injEq] at hsv
            obtain ⟨rfl, _, rfl⟩ := hsv
            obtain ⟨q, hq⟩ : ∃ q, q = P.length := ⟨_, rfl⟩
            have HQ := Lib.hid hq
            have hq0 : 0 < q := by omega
            have hq60 : q ≤ 60 := by omega
            have hqn : ((q : Int) == 0) = false := by rw [beq_eq_false_iff_ne]; omega
            rw [← hq] at HS2 hsc1 u2 ⊢
            obtain ⟨k, hk, hz2⟩ : ∃ k : Nat, k < q ∧ (z.tmod (q : Int) = (k : Int) ∨ z.tmod (q : Int) = (k : Int) - (q : Int)) := by
              rcases tmod_in (n := (q : Int)) (by omega) z with ⟨h1, h2⟩ | ⟨h1, h2, h3⟩
              · exact ⟨(z.tmod (q : Int)).toNat, by omega, .inl (by omega)⟩
              · exact ⟨(z.tmod (q : Int) + (q : Int)).toNat, by omega, .inr (by omega)⟩
            have es0 : suba (some ⟨sg, 0, none⟩) 0 sc2 = some ⟨sg, 0, none⟩ := by rw [suba, if_neg (by omega)]; rfl
            obtain ⟨ad, es1, had⟩ : ∃ ad : Addr, suba (some ⟨sg, 0, none⟩) (k + 1) sc2 = some ad ∧ (k + 1 < q → ad = ⟨sg, k + 1, none⟩) := by
              by_cases hc : sc2 = k + 1
              · exact ⟨⟨sg, 0, none⟩, by rw [suba, if_pos hc], fun h => by omega⟩
              · exact ⟨⟨sg, k + 1, none⟩, by rw [suba, if_neg hc]; simp [Addr.add], fun _ => rfl⟩
            have HS0 := Lib.hid es0
            have HS1 := Lib.hid es1
            have HAD := Lib.hid had
            clear hq hrow3 es0 es1 had
            rcases hz2 with hz2 | hz2
            case' inl => have t3 : decide ((k : Int) < 0) = false := by simp
            case' inr => have t3 : decide ((k : Int) - (q : Int) < 0) = true := by simp; omega
            all_goals
              go_wp2_with fail
              (try rw [Int.sub_add_cancel])
              refine (nlose_yes k HS2.out.net (by rw [List.length_map, ← HQ.out]; exact hk) (by rw [List.length_map, ← HQ.out]; omega)).mono ?_
              rintro e w4 ⟨rfl, X4, n4, h4⟩
              have S4 := Lib.hid (HS2.out.call0 n4 h4)
              have hR4 : w4.ownsRow w.heap.size 3 1 (.slice (some ⟨sg, 0, none⟩) q sc2) q (P.map fun q => .int .i64 q.1) := by
                have := S4.out.row
                rwa [← HQ.out] at this
              have hpl : (P.map fun q : Int × Val => Value.int .i64 q.1).length = q := by rw [List.length_map, HQ.out]
              obtain ⟨xs, hxs⟩ : ∃ xs, xs = P.map fun q : Int × Val => Value.int .i64 q.1 := ⟨_, rfl⟩
              rw [← hxs] at hR4 hpl
              have HXS := Lib.hid hxs
              have HC4 : Hid (∀ wi, Upd [] w4 wi → ∀ (i : Nat) (u : Value), xs[i]? = some u → wi.cell? ⟨sg, i, none⟩ = some u) := Lib.hid (fun wi u i v hv => by
                have hi := (List.getElem?_eq_some_iff.1 hv).1
                have := hR4.cellAt i (by omega)
                rw [hv] at this
                exact (u.cell (a := ⟨sg, i, none⟩) (block_lt_of_cell this) (by simp)).trans this)
              have HXL := Lib.hid hpl
              have HO1 : Hid (∀ u ∈ xs, u.oneCell' = true) := Lib.hid (fun u hu => by
                rw [hxs] at hu
                obtain ⟨_, _, rfl⟩ := List.mem_map.1 hu
                rfl)
              have HN1 : Hid (∀ j u, (xs.take k)[j]? = some u → w4.cell? ((⟨sg, 0, none⟩ : Addr).add j) = some u) := Lib.hid (fun j u hj => by
                rw [List.getElem?_take] at hj
                split at hj
                · rw [Addr.add_lit, Nat.zero_add]; exact HC4.out w4 (Upd.refl _ _) j u hj
                · cases hj)
              clear n4 h4 hR4 hpl hxs
              go_wp2_with (first | (refine wpList_run (o := ⟨some 77, .slice 41 (.tmp 75) none (some (.tmp 76)) none, _, _, _, _⟩) rfl (exec_sliceAt (by rfl) (by rfl) (by rfl) (by rfl) (sub_h HTTi.out Try.elem41 hiI hzI1 (up := k) (by first | rfl | omega) (by omega))) ?_; rw [HS0.out]) | (refine wpList_append_mine rfl (.tmp 74) (.tmp 77) 41 rfl w4.heap.size 3 iI _ 1 8 Try.underlying41 hiI hzI0 hzI1 hzI2 rfl (by decide) (.slice none 0 0) 0 [] rfl ⟨rfl, .inl ⟨rfl, rfl⟩⟩ ⟨sg, 0, none⟩ k sc2 (xs.take k) rfl (by rw [List.length_take, HXL.out]; omega) HN1.out (fun u hu => HO1.out u (List.mem_of_mem_take hu)) (by unfold maxLen; omega) (by omega) (Nat.le_refl _) ?_; intro v5 w5 ho5 hg5 hv5; rw [Nat.zero_add, List.nil_append] at ho5; obtain ⟨a5, c5, rfl⟩ := own_shape' ho5; have V5 : Hid (Upd [] w4 w5) := Lib.hid ((Upd.refl _ _).grown hg5 (fun k hk => by simp [Value.ownBlock] at hk)); have HW5 := Lib.hid ho5; have HN2 : Hid (∀ j u, (xs.drop (k + 1))[j]? = some u → w5.cell? (ad.add j) = some u) := Lib.hid (fun j u hj => by have hjl := (List.getElem?_eq_some_iff.1 hj).1; rw [List.length_drop, HXL.out] at hjl; rw [List.getElem?_drop] at hj; rw [HAD.out (by omega), Addr.add_lit]; exact HC4.out w5 V5.out _ u hj); clear ho5 hg5 hv5) | (refine wpList_run (o := ⟨some 83, .slice 41 (.tmp 80) (some (.tmp 82)) none none, _, _, _, _⟩) rfl (exec_sliceAt (by rfl) (by rfl) (by rfl) (by rfl) (sub_l HTTi.out Try.elem41 hiI hzI1 (lo := k + 1) (by omega) (by omega))) ?_; rw [HS1.out]) | (refine wpList_append_mine rfl (.tmp 79) (.tmp 83) 41 rfl w4.heap.size 3 iI _ 1 8 Try.underlying41 hiI hzI0 hzI1 hzI2 rfl (by decide) _ _ _ rfl HW5.out _ (q - (k + 1)) (sc2 - (k + 1)) (xs.drop (k + 1)) rfl (by rw [List.length_drop, HXL.out]; omega) HN2.out (fun u hu => HO1.out u (List.mem_of_mem_drop hu)) (by unfold maxLen; omega) (by omega) V5.out.size ?_; intro v6 w6 ho6 hg6 hv6; rw [show k + (q - (k + 1)) = q - 1 by omega, ← List.eraseIdx_eq_take_drop_succ] at ho6; obtain ⟨a6, c6, rfl⟩ := own_shape' ho6; have V6 : Hid (Upd [] w4 w6) := Lib.hid (V5.out.grown hg6 (fun k hk => .inr (own_lo HW5.out hk).1)); have S6 : Hid (Sent w w6 p m (.slice a6 (q - 1) c6) (P.eraseIdx k) ((P.map (·.2)).eraseIdx k) X4) := Lib.hid (S4.out.swap V6.out ho6 (by rw [List.length_eraseIdx, if_pos (by rw [← HQ.out]; exact hk), HQ.out]) (by rw [HXS.out, map_erase]) (fun x hx => S4.out.ctx x (List.mem_of_mem_eraseIdx hx))); clear ho6 hg6 hv6))
              go_roundg (ls.length - (j + 1))
              case measure => have := HG2.out; omega
              case rel => exact ⟨j + 1, P.eraseIdx k, X4, by go_num, rfl, by omega, by have := HQ.out; rw [List.length_eraseIdx]; split <;> omega, by rw [map_erase]; exact S6.out⟩
          · have ty : (decide (j < ls.length) = false) ∨ (decide (j < ls.length) = true ∧ decide (0 < P.length) = false) := by
              by_cases h1 : j < ls.length
              · exact .inr ⟨by simpa using h1, by rw [decide_eq_false_iff_not]; omega⟩
              · exact .inl (by simpa using h1)
            clear hlt2
            obtain ⟨q, hq⟩ : ∃ q, q = P.length := ⟨_, rfl⟩
            have HQ := Lib.hid hq
            have hq60 : q ≤ 60 := by omega
            rw [← hq] at HS2 ty ⊢
            have HLEN : Hid ((P.map (·.2)).length = q) := Lib.hid (by rw [List.length_map, hq])
            clear hq
            rcases ty with ty | ⟨ty, ty2⟩
            all_goals
              go_wp2_with fail
              refine (nlen_any HS2.out.net).mono ?_
              rintro e w3 ⟨rfl, uu⟩
              rw [HLEN.out]
              have HS3 : Hid (Sent w w3 p m (.slice sa2 q sc2) P ((P.map (·.2)).drop 0) X) := Lib.hid (by
                rw [List.drop_zero]; exact HS2.out.same uu)
              clear uu
              go_wp2_with fail
              go_loopg [12] (q - 0) (fun g t wr => ∃ (j : Nat) (X : List Nat), t = .int .i64 j ∧ q - j = g ∧ 0 ≤ j ∧ j ≤ q ∧ Sent w wr p m (.slice sa2 q sc2) P ((P.map (·.2)).drop j) X)
              case atStart => exact ⟨0, X, by first | rfl | (rw [HF0.out]; rfl), rfl, by omega, by omega, HS3.out⟩
              case round =>
                obtain ⟨j, X2, rfl, hg, hfj, hj, hT⟩ := hrel
                have HG := Lib.hid hg
                have HT := Lib.hid hT
                clear hg hT
                by_cases hlt : j < q
                · have tj : decide ((j : Int) < (q : Int)) = true := by simp; omega
                  obtain ⟨⟨pi, px⟩, hpx⟩ : ∃ x, P[j]? = some x := ⟨_, List.getElem?_eq_getElem (by have := HQ.out; omega)⟩
                  have hd0 : ((P.map (·.2)).drop j)[0]? = some px := by rw [List.getElem?_drop, Nat.add_zero, List.getElem?_map, hpx]; rfl
                  have hctx : nth 8 px = .num pi := HT.out.ctx _ (List.mem_of_getElem? hpx)
                  have hrow := HT.out.row
                  obtain ⟨sg, scq, hsv, _, _⟩ := own_some hrow (by have := HQ.out; omega)
                  simp only [Value.slice.injEq] at hsv
                  obtain ⟨rfl, hsn, rfl⟩ := hsv
                  have hcel : wr.cell? ⟨sg, j, none⟩ = some (.int .i64 pi) := by
                    rw [← hsn] at hrow
                    rw [hrow.cellAt j (by omega), List.getElem?_map, hpx]; rfl
                  have hsl := block_lt_of_cell hcel
                  have HCEL := Lib.hid hcel
                  have hlow : ∀ k ∈ X2, k ≠ sg := fun k hk e => HT.out.net.lt.2.2.2 k hk (by simp [Value.ownBlock, e])
                  have HLOW := Lib.hid hlow
                  have HD0 := Lib.hid hd0
                  have HCTX := Lib.hid hctx
                  have HLN : Hid (((P.map (·.2)).drop j).length ≤ 100000) := Lib.hid (by simp; have := HQ.out; omega)
                  clear hpx hd0 hctx hrow hsn hcel hlow
                  go_wp2_with fail
                  refine (ndeliver_yes 0 px HT.out.net HD0.out HLN.out).mono ?_
                  rintro e w4 ⟨ds, X4, F4, rfl, n4, h4, hr4, hF4⟩
                  have HT4 : Hid (Sent w w4 p m (.slice (some ⟨sg, 0, none⟩) q sc2) P ((P.map (·.2)).drop (j + 1)) X4) := Lib.hid (by
                    have := HT.out.call n4 h4
                    rwa [List.eraseIdx_zero, List.tail_drop] at this)
                  have hdl : ds.length = 46 := hr4.len
                  have HONE := Lib.hid hr4.one
                  have H8 : Hid (ds[8]? = some (.int .i64 pi)) := Lib.hid (by
                    obtain ⟨n, e1, e2, _⟩ := msg_ctx hr4
                    rw [HCTX.out] at e1
                    cases e1; exact e2)
                  have HC4 : Hid (w4.cell? ⟨sg, j, none⟩ = some (.int .i64 pi)) := Lib.hid ((n4.upd.cell (a := ⟨sg, j, none⟩) hsl (fun hx => HLOW.out _ hx rfl)).trans HCEL.out)
                  have hs4 := n4.upd.size
                  clear n4 h4 hr4 hF4
                  go_wp2_with (first | (refine wpList_alloc_blk rfl 58 rfl sMsg.zc (zero58 _) ?_; intro wP hP uP; have HPb := Lib.hid hP; have UP := Lib.hid uP; clear hP uP) | (refine wpList_store_blk rfl 58 (.tmp 13) (.tmp 100) rfl w4.heap.size ds rfl rfl HPb.out (by rw [hdl]; exact Try.size58) (by rw [hdl]; rfl) HONE.out ?_; intro w5 hd ud; have V5 : Hid (Upd [] w4 w5) := Lib.hid (UP.out.trans ud (by simp)); have HT5 := Lib.hid (HT4.out.same V5.out); have x1 := hd.cell (o := 8) H8.out; have x2 := hd.lt; have y1 : w5.cell? ⟨sg, j, none⟩ = some (.int .i64 pi) := (V5.out.cell (a := ⟨sg, j, none⟩) (Nat.lt_of_lt_of_le hsl hs4) (by simp)).trans HC4.out; clear hd ud))
                  go_quiet (fail)
                  go_wp2_with fail
                  go_roundg (q - (j + 1))
                  case measure => have := HG.out; omega
                  case rel => exact ⟨j + 1, X4, by go_num, rfl, by omega, by omega, HT5.out.same ((Upd.refl [] _).drewN _)⟩
                · obtain rfl : q = j := by omega
                  have HLZ : Hid (((P.map (·.2)).drop q).length = 0) := Lib.hid (by rw [List.length_drop, List.length_map, HQ.out]; omega)
                  go_wp2_with fail
                  refine (nlen_any HT.out.net).mono ?_
                  rintro e w9 ⟨rfl, uu⟩
                  have U9 := Lib.hid (HT.out.upd.trans uu (by simp))
                  rw [HLZ.out]
                  clear uu
                  go_wp2_with fail
                  refine bodyPost_ret (results_tmp rfl _ _ _) rfl ?_
                  exact ⟨rfl, U9.out⟩
end Go.Proofs.Ythecincpejpmpaa
namespace Go.Proofs.Ythecincpejpmpaa.netLoses
open Go.ChangeShapes Go.WideShapes Go.ChangeAt Go.RowKit Go.Lb Go.Rc

set_option maxRecDepth 100000 in
theorem contract (H : Type) (enc : TypeId × Value → H) (W : World) (base : Nat) (args : Array Value) (ds gs : List (DataW H)) (before : List MemPlace)
    (hval : ∀ (j : Nat) t v, Try.f8.params[j]? = some t → args[j]? = some v → Value.okWide Try.prog W .any base t v)
    (hW : DataW.Whole enc Try.prog Try.f8.params.toList Rows.netLosesSpec.vars false W args.toList ds gs before)
    (hsz : (DataW.weightsEach Try.prog (Try.f8.params.toList ++ Rows.netLosesSpec.plain.varTypes Try.prog) (ds ++ gs)).all (· ≤ reachBytes) = true) :
    Calls Try.prog 8 args W fun e W' => ∃ v, e = .returned v ∧ Rows.netLosesSpec.post enc Try.prog Try.f8 false true false false W args v W' := by
  have hW' := hW
  obtain ⟨p, q, hA0, hV, rfl, hfz, hnd⟩ := hW
  have hA : DataW.TrodAll enc Try.prog W 0 (fun _ => true) true Try.f8.params.toList args.toList ds p := hA0
  rw [Try.params8] at hA hval hsz
  obtain ⟨v0, vs0, d0, ds0, p0, q0, hargs, rfl, rfl, h0, s0⟩ := trodAll_cons hA
  obtain ⟨v1, vs1, d1, ds1, p1, q1, rfl, rfl, rfl, h1, s1⟩ := trodAll_cons s0
  obtain ⟨rfl, rfl, rfl⟩ := trodAll_nil s1
  have hz0 : (DataW.weightsEach Try.prog (51 :: 41 :: Rows.netLosesSpec.plain.varTypes Try.prog) (d0 :: d1 :: gs)).all (· ≤ reachBytes) = true := hsz
  obtain ⟨r0, hz1⟩ := reached_of hz0
  obtain ⟨r1, hz2⟩ := reached_of hz1
  obtain rfl : args = #[v0, v1] := by cases args; simp_all
  obtain ⟨rfl, rfl⟩ := trodVars_none hV
  have k0 := h0
  have lt0 : ∀ x ∈ p0, x.block < W.heap.size := by obtain ⟨m, hm⟩ := k0; exact DataW.trod_lt m _ _ _ hm
  have k1 := h1
  have lt1 : ∀ x ∈ p1, x.block < W.heap.size := by obtain ⟨m, hm⟩ := k1; exact DataW.trod_lt m _ _ _ hm
  obtain ⟨a0, len0, cap0, rfl⟩ := okWide_slice Try.underlying51 (hval 0 51 v0 rfl rfl)
  have hl0 := slice_r Try.underlying51 (z := 536) (by kernel_rfl) h0 r0
  obtain ⟨y0, hr0, hw0⟩ := arg_list_r (m := 20) (s := .list sMsg) (by kernel_rfl) h0 r0
  obtain ⟨Ls0, hle0, hye0⟩ := list_of hr0
  subst hle0 hye0
  simp only [reachBytes] at hl0
  obtain ⟨a1, len1, cap1, rfl⟩ := okWide_slice Try.underlying41 (hval 1 41 v1 rfl rfl)
  have hl1 := slice_r Try.underlying41 (z := 8) (by kernel_rfl) h1 r1
  obtain ⟨y1, hr1, hw1⟩ := arg_list_r (m := 20) (s := .list .num) (by kernel_rfl) h1 r1
  obtain ⟨Ls1, hle1, hye1⟩ := list_of hr1
  subst hle1 hye1
  simp only [reachBytes] at hl1
  clear hA0 hsz hz0
  refine (netloses_ok a0 cap0 Ls0 a1 cap1 Ls1 W hr0 hr1 (msgs_cmax hw0) (by omega) (by omega)).mono fun e W' ⟨he, bel⟩ => ?_
  subst he
  exact ⟨_, rfl, _, _, _, [], _, [], hW', trodAll_mk1 (shut_bool Try.underlying4 _), (trodAll_cons_mk (Below.trod Try.laidOut (by kernel_rfl) (of_decide_eq_true (by kernel_rfl)) k0 bel.below lt0) (trodAll_cons_mk (Below.trod Try.laidOut (by kernel_rfl) (of_decide_eq_true (by kernel_rfl)) k1 bel.below lt1) trodAll_mk0)), rfl, bel.below.frame _, fun h => by cases h⟩

set_option maxRecDepth 100000 in
theorem lifted (os : Os) (started : os.Started) (H : Type) (enc : TypeId × Value → H) :
    ReturnsInHanded {} Try.checked os 8 .any (Rows.netLosesSpec.pre6 enc Try.prog Try.f8 Rows.netLosesRow.domain false) (Rows.netLosesSpec.post enc Try.prog Try.f8 false true false false) := by
  refine returnsInHanded_of_change_sized (C := Try.checked) Try.own started (by kernel_rfl) Try.func8
    (ChangeSpec.witness6 (enc := enc) (C := Try.checked) false ⟨#[], #[.slice none 0 0, .slice none 0 0], []⟩ 8 (by kernel_rfl) (by kernel_rfl) (by kernel_rfl) (by kernel_rfl)) ?_
  intro W base args ds gs before hval hW hcnd hsz _
  exact contract H enc W base args ds gs before hval hW hsz

theorem closed : joinedFacts Try.prog 8 Try.f8 Rows.netLosesSpec Rows.netLosesRow = true := by
  unfold joinedFacts
  rw [Try.words1, Try.words2, Try.words3]
  kernel_rfl

theorem proved : Rows.NetLosesSaid :=
  OpenClaim.holds_of_wide 8 Try.f8 rfl rfl rfl rfl rfl rfl rfl ⟨rfl, rfl, rfl, rfl, rfl⟩ rfl rfl rfl rfl rfl (by kernel_rfl) Try.func8 closed
    (of_decide_eq_true (by kernel_rfl)) (by unfold Func.isWrapper; first | (rw [if_pos (by decide +kernel)]; kernel_rfl) | (rw [if_neg (by decide +kernel)]; exact ⟨rfl, rfl⟩))
    (fun os started H enc _ => lifted os started H enc)
#print axioms proved
end Go.Proofs.Ythecincpejpmpaa.netLoses
