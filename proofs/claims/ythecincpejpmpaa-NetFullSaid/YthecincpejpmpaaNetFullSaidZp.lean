/- NetFull returns true for every input, and the input reads afterwards as it did. No condition. -/
import Derived.Test.YthecincpejpmpaaZfh
import Derived.SizedLaws
set_option linter.unusedVariables false
set_option linter.unusedSimpArgs false
/- law03's NetFull, walked. -/
namespace Go.Proofs.Ythecincpejpmpaa
open Go.RowKit Go.Lb Go.Rc

set_option maxRecDepth 20000 in
set_option maxHeartbeats 4000000 in
theorem netfull_ok (room : Int) (a : Option Addr) (c : Nat) (l : List Val) (w : World) (hr : (Sch.list sMsg).Rep w (· < w.heap.size) [.slice a l.length c] (.list l)) (hl : ∀ (i : Nat) (x : Val), l[i]? = some x → sMsg.cmax x ≤ 224000000000000) (hll : l.length ≤ 140737488351232) :
    Calls Try.prog 9 #[.int .i64 room, .slice a l.length c] w fun e w' => e = .returned (.bool true) ∧ Upd [] w w' := by
  obtain ⟨iI, hiI, hzI0, hzI1, hzI2⟩ := info3
  have HEL : Hid (∀ wi, Upd [] w wi → ∀ (i : Nat) (x : Val), l[i]? = some x → ∃ b o us, a = some ⟨b, o, none⟩ ∧ wi.rangeAt b (o + i * 46) us ∧ b < wi.heap.size ∧ sMsg.Rep wi (· < wi.heap.size) us x) := Lib.hid (fun wi u i x hx => by
    obtain ⟨b, o, us, h1, h2, h3, h4⟩ := (elem_at hr).2 i x hx
    exact ⟨b, o, us, h1, rangeAt_keep h2 (u.block b h3 (by simp)), Nat.lt_of_lt_of_le h3 u.size, rep_all h4 u⟩)
  have HWX := Lib.hid hl
  clear hr hl
  by_cases hm : 1 ≤ room ∧ room ≤ 256
  · obtain ⟨m, rfl⟩ : ∃ m : Nat, room = m := ⟨room.toNat, by omega⟩
    have hm1 : 1 ≤ m := by omega
    have hm2 : m ≤ 256 := by omega
    have r1 : decide ((m : Int) < 1) = false := by simp; omega
    have r2 : decide ((256 : Int) < (m : Int)) = false := by simp; omega
    clear hm
    go_enter Try.func9, Try.ntmps9
    go_wp2_with fail
    refine (nnew_yes m w hm1 hm2).mono ?_
    rintro e w1 ⟨rfl, u1, h1⟩
    obtain ⟨p, hp⟩ : ∃ p, p = w.heap.size := ⟨_, rfl⟩
    rw [← hp] at h1 ⊢
    have HP := Lib.hid hp
    have U1 := Lib.hid u1
    have H1 := Lib.hid h1
    clear u1 h1 hp
    go_wp2_with fail
    refine (nknown_true _).mono ?_
    rintro e w2 ⟨rfl, uu⟩
    have U2 := Lib.hid (U1.out.trans uu (by simp))
    have H2 := Lib.hid (H1.out.same uu (by simp) ownN_upd)
    clear uu
    go_wp2_with fail
    go_loopg [6, 7] l.length (fun g s t wr => ∃ (i : Nat) (P : List (Int × Val)) (X : List Nat), t = .int .i64 i ∧ l.length - i = g ∧ i ≤ l.length ∧ i ≤ 400 ∧ P.length ≤ i ∧ Sent w wr p m s P ((P.map (·.2)).drop (P.length - m)) X)
    case atStart => exact ⟨0, [], [p], rfl, rfl, by omega, by omega, by simp, ⟨⟨rfl, .inl ⟨rfl, rfl⟩⟩, by simp, by have := H2.out; simpa [Value.ownBlock] using this, fun k hk => by simp at hk; subst hk; rw [HP.out]; exact Nat.le_refl _, U2.out⟩⟩
    case round =>
      obtain ⟨i, P, X, rfl, hg, hi, hi2, hpi, hS⟩ := hrel
      have HG := Lib.hid hg
      have HS := Lib.hid hS
      have hrow := hS.row
      obtain ⟨sa, sc, rfl⟩ := own_shape' hrow
      have hsz := hS.upd.size
      have HLL : Hid (((P.map (·.2)).drop (P.length - m)).length ≤ m) := Lib.hid (by simp; omega)
      clear hg hS hrow
      by_cases hlt : i < l.length ∧ i < 400
      · obtain ⟨hlt1, hlt2⟩ := hlt
        have t1 : decide ((i : Int) < (l.length : Int)) = true := by simp; omega
        have t2 : decide ((i : Int) < 400) = true := by simp; omega
        have t2n : decide (i < 400) = true := by simp; omega
        obtain ⟨x, hx⟩ : ∃ x, l[i]? = some x := ⟨_, List.getElem?_eq_getElem hlt1⟩
        obtain ⟨b, o, us, ha, hrg, hbl, hru⟩ := HEL.out wr HS.out.upd i x hx
        have hwx := HWX.out i x hx
        subst ha
        obtain ⟨n8, _, h8, htag⟩ := msg_ctx hru
        obtain ⟨hrt, hnt, hwt⟩ := htag (i : Int)
        have hus : us.length = 46 := hru.len
        have HUS := Lib.hid hus
        have HRG := Lib.hid hrg
        have HONE := Lib.hid hru.one
        have H8 := Lib.hid h8
        have HRT := Lib.hid hrt
        have HNT := Lib.hid hnt
        have HWT : Hid (sMsg.cmax (tag (i : Int) x) ≤ 225000000000000) := Lib.hid (by rw [hwt]; omega)
        obtain ⟨gd, hgd⟩ := good_dec sMsg (tag (i : Int) x)
        have HGD := Lib.hid hgd
        clear hx hrg hru h8 htag hrt hnt hwt hus hgd hwx
        go_wp2_with (first | (refine wpList_load_mid rfl 58 (.tmp 42) rfl b (o + i * 46) rfl us _ HRG.out Try.underlying58 rfl (by rw [HUS.out]; exact Try.size58) ?_) | (refine wpList_alloc_blk rfl 58 rfl sMsg.zc (zero58 _) ?_; intro wP hP uP; have HPb := Lib.hid hP; have UP := Lib.hid uP; clear hP uP) | (refine wpList_store_blk rfl 58 (.tmp 8) (.tmp 43) rfl wr.heap.size us rfl rfl HPb.out (by rw [HUS.out]; exact Try.size58) (by rw [HUS.out]; rfl) HONE.out ?_; intro w5 hd ud; have HD5 := Lib.hid hd; have V5 : Hid (Upd [] wr w5) := Lib.hid (UP.out.trans ud (by simp)); have x1 := hd.cell (o := 8) H8.out; have x2 := hd.frozen 8; have x3 := hd.lt; clear hd ud) | (refine wpList_load_blk rfl 58 (.tmp 8) rfl wr.heap.size rfl (HD5.out.set 8 (.int .i64 (i : Int))) Try.underlying58 rfl (by rw [List.length_set, HUS.out]; exact Try.size58) ?_))
        have V6 : Hid (Upd [] wr (w5.setCell ⟨wr.heap.size, 8, none⟩ (.int .i64 (i : Int)))) := Lib.hid (V5.out.setCell (.inr (Nat.le_refl _)) _)
        have S6 := Lib.hid (HS.out.same V6.out)
        have HR6 := Lib.hid (rep_all HRT.out V6.out)
        refine (nsend_any (us.set 8 (.int .i64 (i : Int))) (tag (i : Int) x) gd S6.out.net HR6.out HWT.out HGD.out hm1 hm2 HLL.out).mono ?_
        rintro e w7 ⟨rfl, X7, n7, h7⟩
        have S7 := Lib.hid (S6.out.call0 n7 h7)
        clear n7 h7 x1 x2 x3
        have hsz7 := S7.out.upd.size
        cases gd with
        | false =>
          rw [show errOf false = 1 from rfl]
          go_wp2_with fail
          go_roundg (l.length - (i + 1))
          case measure => have := HG.out; omega
          case rel => exact ⟨i + 1, P, X7, by go_num, rfl, by omega, by omega, by omega, S7.out⟩
        | true =>
          have S7b : Hid (Sent w w7 p m (.slice sa P.length sc) P (((P.map (·.2)) ++ [tag (i : Int) x]).drop (((P.map (·.2)) ++ [tag (i : Int) x]).length - m)) X7) := Lib.hid (by
            have := S7.out
            have e := came_drop (S := P.map (·.2)) (x := tag (i : Int) x) hm1
            rw [List.length_map] at e
            rw [← e]; exact this)
          rw [show errOf true = 0 from rfl]
          go_wp2_with (at_builtin; refine wpList_append_mine rfl (.tmp 50) (.tmp 52) 41 rfl w.heap.size 3 iI _ 1 8 Try.underlying41 hiI hzI0 hzI1 hzI2 rfl (by decide) (.slice sa P.length sc) P.length (P.map fun q => .int .i64 q.1) rfl (World.ownsRow.alloc S7.out.row _) ⟨w7.heap.size, 0, none⟩ 1 1 [.int .i64 (i : Int)] rfl rfl (Blk.news (Blk.new _ 3 [.int .i64 (i : Int)])) (by simp [Value.oneCell']) (by unfold maxLen; omega) (by omega) (by simp; omega) ?_; intro v8 w8 ho8 hg8 hv8; have S8 := Lib.hid (S7b.out.push HNT.out ho8 hg8 hv8); clear ho8 hg8 hv8)
          go_roundg (l.length - (i + 1))
          case measure => have := HG.out; omega
          case rel => exact ⟨i + 1, P ++ [((i : Int), tag (i : Int) x)], X7, by go_num, rfl, by omega, by omega, by simp; omega, by have := S8.out; simpa using this⟩
      · have tx : (decide (i < l.length) = false) ∨ (decide (i < l.length) = true ∧ decide ((i : Int) < 400) = false ∧ decide (i < 400) = false) := by
          by_cases h1 : i < l.length
          · exact .inr ⟨by simp; omega, by simp; omega, by simp; omega⟩
          · exact .inl (by simp; omega)
        clear hlt
        obtain ⟨q, hq⟩ : ∃ q, q = P.length := ⟨_, rfl⟩
        have HQ := Lib.hid hq
        have hq4 : q ≤ 400 := by omega
        rw [← hq] at HS ⊢
        have HLEN : Hid (((P.map (·.2)).drop (q - m)).length = q - (q - m)) := Lib.hid (by simp; omega)
        clear hq
        have ty : ∃ f : Nat, f = q - m ∧ (((decide ((q : Int) - (m : Int) < 0) = true ∧ decide (q < m) = true) ∧ f = 0) ∨ ((decide ((q : Int) - (m : Int) < 0) = false ∧ decide (q < m) = false) ∧ (q : Int) - (m : Int) = (f : Int))) := by
          by_cases h : q < m
          · exact ⟨q - m, rfl, .inl ⟨⟨by simp; omega, by simpa using h⟩, by omega⟩⟩
          · exact ⟨q - m, rfl, .inr ⟨⟨by simp; omega, by simpa using h⟩, by omega⟩⟩
        obtain ⟨f, hf, ty⟩ := ty
        have hfq : f ≤ q := by omega
        have hqf : (q : Int) - (f : Int) = ((q - f : Nat) : Int) := by omega
        have HFF := Lib.hid hf
        rw [← hf] at HS HLEN
        clear hf hpi
        rcases tx with tx | ⟨tx, tz, tz2⟩
        all_goals
          rcases ty with ⟨⟨ty1, ty2⟩, ty3⟩ | ⟨⟨ty1, ty2⟩, ty3⟩
          case' inl =>
            have HF0 := Lib.hid ty3
            have HQ0 : Hid (q - f = q) := Lib.hid (by omega)
            clear ty3 hqf
          case' inr => have tf0 : decide ((f : Int) < 0) = false := by rw [decide_eq_false_iff_not]; omega
        all_goals
          go_wp2_with fail
          refine (nlen_any HS.out.net).mono ?_
          rintro e w3 ⟨rfl, uu⟩
          rw [HLEN.out]
          try rw [HQ0.out]
          have HS3 := Lib.hid (HS.out.same uu)
          clear uu
          go_wp2_with fail
          go_loopg [10] (q - f) (fun g t wr => ∃ (j : Nat) (X : List Nat), t = .int .i64 j ∧ q - j = g ∧ f ≤ j ∧ j ≤ q ∧ Sent w wr p m (.slice sa q sc) P ((P.map (·.2)).drop j) X)
          case atStart => exact ⟨f, X, by first | rfl | (rw [HF0.out]; rfl), rfl, by omega, by omega, HS3.out⟩
          case round =>
            obtain ⟨j, X2, rfl, hg, hfj, hj, hT⟩ := hrel
            have HG := Lib.hid hg
            have HT := Lib.hid hT
            clear hg hT
            by_cases hlt : j < q
            · have tj : decide ((j : Int) < (q : Int)) = true := by simp; omega
              obtain ⟨⟨pi, px⟩, hpx⟩ : ∃ x, P[j]? = some x := ⟨_, List.getElem?_eq_getElem (by have := HQ.out; omega)⟩
              have hd0 : ((P.map (·.2)).drop j)[0]? = some px := by rw [List.getElem?_drop, Nat.add_zero, List.getElem?_map, hpx]; rfl
              have hctx : nth 8 px = .num pi := HT.out.ctx _ (List.mem_of_getElem? hpx)
              have hrow := HT.out.row
              obtain ⟨sg, scq, hsv, _, _⟩ := own_some hrow (by have := HQ.out; omega)
              simp only [Value.slice.injEq] at hsv
              obtain ⟨rfl, hsn, rfl⟩ := hsv
              have hcel : wr.cell? ⟨sg, j, none⟩ = some (.int .i64 pi) := by
                rw [← hsn] at hrow
                rw [hrow.cellAt j (by omega), List.getElem?_map, hpx]; rfl
              have hsl := block_lt_of_cell hcel
              have HCEL := Lib.hid hcel
              have hlow : ∀ k ∈ X2, k ≠ sg := fun k hk e => HT.out.net.lt.2.2.2 k hk (by simp [Value.ownBlock, e])
              have HLOW := Lib.hid hlow
              have HD0 := Lib.hid hd0
              have HCTX := Lib.hid hctx
              have HLN : Hid (((P.map (·.2)).drop j).length ≤ 100000) := Lib.hid (by simp; have := HQ.out; omega)
              clear hpx hd0 hctx hrow hsn hcel hlow
              go_wp2_with fail
              refine (ndeliver_yes 0 px HT.out.net HD0.out HLN.out).mono ?_
              rintro e w4 ⟨ds, X4, F4, rfl, n4, h4, hr4, hF4⟩
              have HT4 : Hid (Sent w w4 p m (.slice (some ⟨sg, 0, none⟩) q sc) P ((P.map (·.2)).drop (j + 1)) X4) := Lib.hid (by
                have := HT.out.call n4 h4
                rwa [List.eraseIdx_zero, List.tail_drop] at this)
              have hdl : ds.length = 46 := hr4.len
              have HONE := Lib.hid hr4.one
              have H8 : Hid (ds[8]? = some (.int .i64 pi)) := Lib.hid (by
                obtain ⟨n, e1, e2, _⟩ := msg_ctx hr4
                rw [HCTX.out] at e1
                cases e1; exact e2)
              have HC4 : Hid (w4.cell? ⟨sg, j, none⟩ = some (.int .i64 pi)) := Lib.hid ((n4.upd.cell (a := ⟨sg, j, none⟩) hsl (fun hx => HLOW.out _ hx rfl)).trans HCEL.out)
              have hs4 := n4.upd.size
              clear n4 h4 hr4 hF4
              go_wp2_with (first | (refine wpList_alloc_blk rfl 58 rfl sMsg.zc (zero58 _) ?_; intro wP hP uP; have HPb := Lib.hid hP; have UP := Lib.hid uP; clear hP uP) | (refine wpList_store_blk rfl 58 (.tmp 11) (.tmp 77) rfl w4.heap.size ds rfl rfl HPb.out (by rw [hdl]; exact Try.size58) (by rw [hdl]; rfl) HONE.out ?_; intro w5 hd ud; have V5 : Hid (Upd [] w4 w5) := Lib.hid (UP.out.trans ud (by simp)); have HT5 := Lib.hid (HT4.out.same V5.out); have x1 := hd.cell (o := 8) H8.out; have x2 := hd.lt; have y1 : w5.cell? ⟨sg, j, none⟩ = some (.int .i64 pi) := (V5.out.cell (a := ⟨sg, j, none⟩) (Nat.lt_of_lt_of_le hsl hs4) (by simp)).trans HC4.out; clear hd ud))
              go_quiet (fail)
              go_wp2_with fail
              go_roundg (q - (j + 1))
              case measure => have := HG.out; omega
              case rel => exact ⟨j + 1, X4, by go_num, rfl, by omega, by omega, HT5.out.same ((Upd.refl [] _).drewN _)⟩
            · obtain rfl : q = j := by omega
              go_wp2_with fail
              refine bodyPost_ret (results_tmp rfl _ _ _) rfl ?_
              exact ⟨rfl, HT.out.upd⟩
  · have HS : True := trivial
    clear HS HEL HWX
    have tr : (decide (room < 1) = true) ∨ (decide (room < 1) = false ∧ decide (256 < room) = true) := by
      by_cases h1 : room < 1
      · exact .inl (by simpa using h1)
      · exact .inr ⟨by simp; omega, by simp; omega⟩
    have hno : room < 1 ∨ 256 < room := by omega
    have HNO := Lib.hid hno
    clear hno hm
    rcases tr with t1 | ⟨t1, t2⟩
    all_goals
      go_enter Try.func9, Try.ntmps9
      go_wp2_with fail
      refine (nnew_no room w HNO.out).mono ?_
      rintro e w1 ⟨rfl, uu⟩
      have U1 := Lib.hid uu
      clear uu
      go_wp2_with fail
      refine (nknown_true _).mono ?_
      rintro e w2 ⟨rfl, uu⟩
      have U2 := Lib.hid (U1.out.trans uu (by simp))
      clear uu
      go_wp2_with fail
      refine bodyPost_ret (results_tmp rfl _ _ _) rfl ?_
      exact ⟨rfl, U2.out⟩
end Go.Proofs.Ythecincpejpmpaa
namespace Go.Proofs.Ythecincpejpmpaa.netFull
open Go.ChangeShapes Go.WideShapes Go.ChangeAt Go.RowKit Go.Lb Go.Rc

set_option maxRecDepth 100000 in
theorem contract (H : Type) (enc : TypeId × Value → H) (W : World) (base : Nat) (args : Array Value) (ds gs : List (DataW H)) (before : List MemPlace)
    (hval : ∀ (j : Nat) t v, Try.f9.params[j]? = some t → args[j]? = some v → Value.okWide Try.prog W .any base t v)
    (hW : DataW.Whole enc Try.prog Try.f9.params.toList Rows.netFullSpec.vars false W args.toList ds gs before)
    (hsz : (DataW.weightsEach Try.prog (Try.f9.params.toList ++ Rows.netFullSpec.plain.varTypes Try.prog) (ds ++ gs)).all (· ≤ reachBytes) = true) :
    Calls Try.prog 9 args W fun e W' => ∃ v, e = .returned v ∧ Rows.netFullSpec.post enc Try.prog Try.f9 false true false false W args v W' := by
  have hW' := hW
  obtain ⟨p, q, hA0, hV, rfl, hfz, hnd⟩ := hW
  have hA : DataW.TrodAll enc Try.prog W 0 (fun _ => true) true Try.f9.params.toList args.toList ds p := hA0
  rw [Try.params9] at hA hval hsz
  obtain ⟨v0, vs0, d0, ds0, p0, q0, hargs, rfl, rfl, h0, s0⟩ := trodAll_cons hA
  obtain ⟨v1, vs1, d1, ds1, p1, q1, rfl, rfl, rfl, h1, s1⟩ := trodAll_cons s0
  obtain ⟨rfl, rfl, rfl⟩ := trodAll_nil s1
  have hz0 : (DataW.weightsEach Try.prog (3 :: 51 :: Rows.netFullSpec.plain.varTypes Try.prog) (d0 :: d1 :: gs)).all (· ≤ reachBytes) = true := hsz
  obtain ⟨r0, hz1⟩ := reached_of hz0
  obtain ⟨r1, hz2⟩ := reached_of hz1
  obtain rfl : args = #[v0, v1] := by cases args; simp_all
  obtain ⟨rfl, rfl⟩ := trodVars_none hV
  have k0 := h0
  have lt0 : ∀ x ∈ p0, x.block < W.heap.size := by obtain ⟨m, hm⟩ := k0; exact DataW.trod_lt m _ _ _ hm
  have k1 := h1
  have lt1 : ∀ x ∈ p1, x.block < W.heap.size := by obtain ⟨m, hm⟩ := k1; exact DataW.trod_lt m _ _ _ hm
  obtain ⟨x0, rfl, rfl, rfl, wx0⟩ := open_int Try.underlying3 (hval 0 3 v0 rfl rfl) h0
  obtain ⟨a1, len1, cap1, rfl⟩ := okWide_slice Try.underlying51 (hval 1 51 v1 rfl rfl)
  have hl1 := slice_r Try.underlying51 (z := 536) (by kernel_rfl) h1 r1
  obtain ⟨y1, hr1, hw1⟩ := arg_list_r (m := 20) (s := .list sMsg) (by kernel_rfl) h1 r1
  obtain ⟨Ls1, hle1, hye1⟩ := list_of hr1
  subst hle1 hye1
  simp only [reachBytes] at hl1
  clear hA0 hsz hz0
  refine (netfull_ok x0 a1 cap1 Ls1 W hr1 (msgs_cmax hw1) (by omega)).mono fun e W' ⟨he, bel⟩ => ?_
  subst he
  exact ⟨_, rfl, _, _, _, [], _, [], hW', trodAll_mk1 (shut_bool Try.underlying4 _), (trodAll_cons_mk (Below.trod Try.laidOut (by kernel_rfl) (of_decide_eq_true (by kernel_rfl)) k0 bel.below lt0) (trodAll_cons_mk (Below.trod Try.laidOut (by kernel_rfl) (of_decide_eq_true (by kernel_rfl)) k1 bel.below lt1) trodAll_mk0)), rfl, bel.below.frame _, fun h => by cases h⟩

set_option maxRecDepth 100000 in
theorem lifted (os : Os) (started : os.Started) (H : Type) (enc : TypeId × Value → H) :
    ReturnsInHanded {} Try.checked os 9 .any (Rows.netFullSpec.pre6 enc Try.prog Try.f9 Rows.netFullRow.domain false) (Rows.netFullSpec.post enc Try.prog Try.f9 false true false false) := by
  refine returnsInHanded_of_change_sized (C := Try.checked) Try.own started (by kernel_rfl) Try.func9
    (ChangeSpec.witness6 (enc := enc) (C := Try.checked) false ⟨#[], #[.int .i64 0, .slice none 0 0], []⟩ 8 (by kernel_rfl) (by kernel_rfl) (by kernel_rfl) (by kernel_rfl)) ?_
  intro W base args ds gs before hval hW hcnd hsz _
  exact contract H enc W base args ds gs before hval hW hsz

theorem closed : joinedFacts Try.prog 9 Try.f9 Rows.netFullSpec Rows.netFullRow = true := by
  unfold joinedFacts
  rw [Try.words1, Try.words2, Try.words3]
  kernel_rfl

theorem proved : Rows.NetFullSaid :=
  OpenClaim.holds_of_wide 9 Try.f9 rfl rfl rfl rfl rfl rfl rfl ⟨rfl, rfl, rfl, rfl, rfl⟩ rfl rfl rfl rfl rfl (by kernel_rfl) Try.func9 closed
    (of_decide_eq_true (by kernel_rfl)) (by unfold Func.isWrapper; first | (rw [if_pos (by decide +kernel)]; kernel_rfl) | (rw [if_neg (by decide +kernel)]; exact ⟨rfl, rfl⟩))
    (fun os started H enc _ => lifted os started H enc)
#print axioms proved
end Go.Proofs.Ythecincpejpmpaa.netFull
