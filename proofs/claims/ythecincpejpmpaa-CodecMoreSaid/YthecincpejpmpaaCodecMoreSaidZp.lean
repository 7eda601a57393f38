/- CodecMore returns true for every input, and the input reads afterwards as it did. No condition. -/
import Derived.Test.YthecincpejpmpaaZfh
import Derived.SizedLaws
set_option linter.unusedVariables false
set_option linter.unusedSimpArgs false
/- law01's CodecMore, walked. -/
namespace Go.Rc
def isRec (s : Sch) (l : List Nat) : Bool := match s.get l with
  | some (_, []) => true
  | _ => false
theorem isRec_iff {s : Sch} {l : List Nat} : isRec s l = true ↔ ∃ v, s.get l = some (v, []) := by
  unfold isRec
  split
  · rename_i v h; simp [h]
  · rename_i h
    simp only [Bool.false_eq_true, false_iff]
    rintro ⟨v, hv⟩
    exact h v hv
theorem isRec_more {s : Sch} {l : List Nat} {x : Nat} (hl : ∀ b ∈ l, b < 256) (h : isRec s l = true) : isRec s (l ++ [x]) = false := by
  obtain ⟨v, hv⟩ := isRec_iff.1 h
  have h2 := Sch.whole hv hl [x]
  cases hc : isRec s (l ++ [x]) with
  | false => rfl
  | true =>
    obtain ⟨u, hu⟩ := isRec_iff.1 hc
    rw [h2] at hu
    simp at hu
theorem isRec_less {s : Sch} {l m : List Nat} {x : Nat} (hl : ∀ b ∈ l, b < 256) (e : l = m ++ [x]) (h : isRec s l = true) : isRec s m = false := by
  cases hc : isRec s m with
  | false => rfl
  | true =>
    have := isRec_more (x := x) (fun b hb => hl b (by rw [e]; simp [hb])) hc
    rw [← e, h] at this
    cases this
end Go.Rc
namespace Go.Proofs.Ythecincpejpmpaa
open Go.RowKit Go.Lb Go.Rc
theorem gets_r {K n : Nat} {s : Sch} {w : World} {l : List Nat} {a : Option Addr} {c : Nat} (hn : n = l.length) (C : Gets K s) (hb : Bytes w (· < w.heap.size) a l) (hc : l.length ≤ c ∧ c ≤ maxLen) :
    Calls Try.prog K #[.slice a n c] w fun e w' => ∃ cs : List Value, e = .returned (.tuple #[.agg cs.toArray, .bool (isRec s l)]) ∧ Upd [] w w' ∧ cs.length = s.size ∧ ∀ u ∈ cs, u.oneCell' = true := by
  subst hn
  refine (C a c l w hb hc).mono ?_
  rintro e w' ⟨u, cs, v', r, rfl, h1, h2, h3⟩
  have : isRec s l = r := by
    cases r with
    | true => exact isRec_iff.2 ⟨_, h2 rfl⟩
    | false =>
      cases hc : isRec s l with
      | false => rfl
      | true =>
        obtain ⟨u, hu⟩ := isRec_iff.1 hc
        exact absurd hu ((h3 rfl).1 u)
  rw [this]
  exact ⟨cs, rfl, u, h1.len, h1.one⟩

set_option maxRecDepth 20000 in
set_option maxHeartbeats 8000000 in
theorem more_ok (a : Option Addr) (c x : Nat) (l : List Nat) (w : World) (hb : Bytes w (· < w.heap.size) a l) (hc : l.length ≤ c) (hm : c ≤ maxLen) (hx : x < 256) (hl : l.length ≤ 140737488351232) :
    Calls Try.prog 10 #[.slice a l.length c, .int .u8 (x : Int)] w fun e w' => e = .returned (.bool true) ∧ Upd [] w w' := by
  obtain ⟨i5, hi5, hz0, hz1, hz2⟩ := infoU8
  have HTT : Hid (Try.prog.underlying 22 = some (.slice (Try.prog.elem 22))) := Lib.hid <| by rw [Try.elem22]; exact Try.underlying22
  have HD := Lib.hid hb
  have HC : Hid (l.length ≤ c ∧ c ≤ maxLen) := Lib.hid ⟨hc, hm⟩
  have HX := Lib.hid hx
  have HB256 : Hid (∀ b ∈ l, b < 256) := Lib.hid (fun y hy => by
    obtain ⟨i, hi⟩ := List.mem_iff_getElem?.1 hy
    exact (hb i y hi).1)
  clear hb hx
  go_enter Try.func10, Try.ntmps10
  by_cases h0 : l.length = 0
  · have t0 : ((l.length : Int) == 0) = true := by rw [beq_iff_eq]; omega
    go_wp2_with fail
    refine (known_true _).mono ?_
    rintro e w1 ⟨rfl, u⟩
    have U := Lib.hid u
    clear u
    go_wp2_with fail
    go_ret
    exact ⟨rfl, U.out⟩
  have t0 : ((l.length : Int) == 0) = false := by rw [beq_eq_false_iff_ne]; omega
  obtain ⟨m, hm2⟩ : ∃ m, m = l.take (l.length - 1) := ⟨_, rfl⟩
  have hml : m.length = l.length - 1 := by rw [hm2, List.length_take]; omega
  have HLST : Hid (∃ y, l = m ++ [y]) := Lib.hid (by
    refine ⟨l[l.length - 1]'(by omega), ?_⟩
    rw [hm2, ← List.take_succ_eq_append_getElem (by omega)]
    rw [show l.length - 1 + 1 = l.length by omega, List.take_length])
  have HS : Hid (Bytes w (· < w.heap.size) (suba a 0 c) m) := Lib.hid (by rw [hm2]; exact suba_to HD.out _ hc)
  have HSC : Hid (m.length ≤ c ∧ c ≤ maxLen) := Lib.hid ⟨by omega, hm⟩
  have HML := Lib.hid hml
  obtain ⟨v1, w1, hrun, hown, hg, hv⟩ := append_bytes (P := Try.prog) (w := w) (base := w.heap.size) (ty := 22) (c := c) (v := .slice none 0 0) (n := 0) (xs := []) Try.underlying22 hi5 hz0 hz1 hz2 rfl ⟨rfl, .inl ⟨rfl, rfl⟩⟩ HD.out (by omega) (Nat.le_refl _)
  have R1 : Hid (Row w.heap.size w1 v1 l) := Lib.hid (by simpa using Row.mk (o := []) (news := l) hown)
  have U1 : Hid (Upd [] w w1) := Lib.hid ((Upd.refl _ _).grown hg (fun k hk => by simp [Value.ownBlock] at hk))
  have HRUN := Lib.hid hrun
  obtain ⟨a1, c1, rfl⟩ := R1.out.shape
  have s1 := U1.out.size
  have hl0 : 0 < l.length := by omega
  clear hrun hown hg hv hm2 hml h0 hm
  go_upto_region 5 with (at_builtin; refine wpList_run rfl (exec_append (by rfl) (by rfl) (by rfl) HRUN.out) ?_)
  go_upto_region 6 with (at_builtin; refine wpList_append_mine rfl (.tmp 31) (.tmp 33) 22 rfl w.heap.size 5 i5 (.int .u8 0) 1 1 Try.underlying22 hi5 hz0 hz1 hz2 rfl (by decide) (.slice a1 l.length c1) l.length (l.map bv) rfl (World.ownsRow.alloc R1.out _) ⟨w1.heap.size, 0, none⟩ 1 1 [bv x] rfl rfl (Blk.news (Blk.new _ 5 [bv x])) (by simp [bv, Value.oneCell']) (by unfold maxLen; omega) (by omega) (by simp; omega) ?_; intro v2 w2 ho hg hgb; have R2 : Hid (Row w.heap.size w2 v2 (l ++ [x])) := Lib.hid (Row.mk (news := [x]) ho); have U2 : Hid (Upd [] w w2) := Lib.hid ((U1.out.alloc _).grown hg (fun k hk => .inr (own_lo R1.out hk).1)); clear ho hg hgb; obtain ⟨a2, c2, rfl⟩ := R2.out.shape)
  have HXB : Hid (∀ b ∈ l ++ [x], b < 256) := Lib.hid (fun b hb => by
    rcases List.mem_append.1 hb with hb | hb
    · exact HB256.out b hb
    · simp at hb; subst hb; exact HX.out)
  have HG2 := Lib.hid (bytes_all (R2.out.bytes HXB.out rfl) (Upd.refl _ _))
  have HLC : Hid ((l ++ [x]).length ≤ c2 ∧ c2 ≤ maxLen) := Lib.hid R2.out.cap
  obtain ⟨ln, hln⟩ : ∃ ln : Nat, ln = (l ++ [x]).length := ⟨_, rfl⟩
  have HLN := Lib.hid hln
  clear hln
  have hsub : (l.length : Int) - 1 = ((l.length - 1 : Nat) : Int) := by omega
  go_wp2_with (fail)
  refine (gets_r rfl getMsg_gets (bytes_all HD.out U2.out) HC.out).mono ?_
  rintro e wM1a ⟨csM1a, rfl, u, hl, h1⟩
  have HCM1a : Hid (csM1a.length = 46) := Lib.hid hl
  have HOM1a := Lib.hid h1
  have VM1a := Lib.hid u
  clear hl h1 u
  go_wp2_with (first | (refine wpList_alloc_blk rfl 58 rfl sMsg.zc (zero58 _) ?_; intro wA hA uA; have HA := Lib.hid hA; have UA := Lib.hid uA; clear hA uA) | (refine wpList_store_blk rfl 58 (.tmp 6) (.tmp 38) rfl wM1a.heap.size csM1a rfl rfl HA.out (by rw [HCM1a.out]; exact Try.size58) (by rw [HCM1a.out]; rfl) HOM1a.out ?_; intro wS hs us; have UT : Hid (Upd [] wM1a wS) := Lib.hid (UA.out.trans us (by simp)); have UM1a : Hid (Upd [] w wS) := Lib.hid ((U2.out.trans VM1a.out (by simp)).trans UT.out (by simp)); have HGM1a := Lib.hid (bytes_all (bytes_all HG2.out VM1a.out) UT.out); clear hs us))
  refine (gets_r (by simp) getMsg_gets (HGM1a.out) HLC.out).mono ?_
  rintro e wM1b ⟨csM1b, rfl, u, hl, h1⟩
  have HCM1b : Hid (csM1b.length = 46) := Lib.hid hl
  have HOM1b := Lib.hid h1
  have VM1b := Lib.hid u
  clear hl h1 u
  go_wp2_with (first | (refine wpList_alloc_blk rfl 58 rfl sMsg.zc (zero58 _) ?_; intro wA hA uA; have HA := Lib.hid hA; have UA := Lib.hid uA; clear hA uA) | (refine wpList_store_blk rfl 58 (.tmp 8) (.tmp 43) rfl wM1b.heap.size csM1b rfl rfl HA.out (by rw [HCM1b.out]; exact Try.size58) (by rw [HCM1b.out]; rfl) HOM1b.out ?_; intro wS hs us; have UT : Hid (Upd [] wM1b wS) := Lib.hid (UA.out.trans us (by simp)); have UM1b : Hid (Upd [] w wS) := Lib.hid ((UM1a.out.trans VM1b.out (by simp)).trans UT.out (by simp)); have HGM1b := Lib.hid (bytes_all (bytes_all HGM1a.out VM1b.out) UT.out); clear hs us) | (refine wpList_run rfl (exec_sliceAt (t := 22) (x := .tmp 46) (lo := none) (hi := some (.tmp 49)) (by rfl) (by rfl) (by rfl) (by rfl) (sub_h HTT.out Try.elem22 hi5 hz1 (up := l.length - 1) (by first | omega | (unfold wrap64; omega)) (by omega))) ?_))
  refine (gets_r HML.out.symm getMsg_gets (bytes_all HS.out UM1b.out) HSC.out).mono ?_
  rintro e wM1c ⟨csM1c, rfl, u, hl, h1⟩
  have HCM1c : Hid (csM1c.length = 46) := Lib.hid hl
  have HOM1c := Lib.hid h1
  have VM1c := Lib.hid u
  clear hl h1 u
  have hy : isRec sMsg l = true → isRec sMsg (l ++ [x]) = false ∧ isRec sMsg m = false := fun h => ⟨isRec_more HB256.out h, by obtain ⟨y, hy⟩ := HLST.out; exact isRec_less HB256.out hy h⟩
  cases hr : isRec sMsg l with
  | false =>
    simp only [hr]
    clear hy hr
    obtain ⟨ra, hra⟩ : ∃ r, isRec sMsg (l ++ [x]) = r := ⟨_, rfl⟩
    obtain ⟨rb, hrb⟩ : ∃ r, isRec sMsg m = r := ⟨_, rfl⟩
    simp only [hra, hrb]
    clear hra hrb
    go_wp2_with (first | (refine wpList_alloc_blk rfl 58 rfl sMsg.zc (zero58 _) ?_; intro wA hA uA; have HA := Lib.hid hA; have UA := Lib.hid uA; clear hA uA) | (refine wpList_store_blk rfl 58 (.tmp 10) (.tmp 52) rfl wM1c.heap.size csM1c rfl rfl HA.out (by rw [HCM1c.out]; exact Try.size58) (by rw [HCM1c.out]; rfl) HOM1c.out ?_; intro wS hs us; have UT : Hid (Upd [] wM1c wS) := Lib.hid (UA.out.trans us (by simp)); have UM1c : Hid (Upd [] w wS) := Lib.hid ((UM1b.out.trans VM1c.out (by simp)).trans UT.out (by simp)); have HGM1c := Lib.hid (bytes_all (bytes_all HGM1b.out VM1c.out) UT.out); clear hs us))
    refine (gets_r rfl getStore_gets (bytes_all HD.out UM1c.out) HC.out).mono ?_
    rintro e wS2a ⟨csS2a, rfl, u, hl, h1⟩
    have HCS2a : Hid (csS2a.length = 9) := Lib.hid hl
    have HOS2a := Lib.hid h1
    have VS2a := Lib.hid u
    clear hl h1 u
    go_wp2_with (first | (refine wpList_alloc_blk rfl 75 rfl sStore.zc (zero75 _) ?_; intro wA hA uA; have HA := Lib.hid hA; have UA := Lib.hid uA; clear hA uA) | (refine wpList_store_blk rfl 75 (.tmp 12) (.tmp 64) rfl wS2a.heap.size csS2a rfl rfl HA.out (by rw [HCS2a.out]; exact Try.size75) (by rw [HCS2a.out]; rfl) HOS2a.out ?_; intro wS hs us; have UT : Hid (Upd [] wS2a wS) := Lib.hid (UA.out.trans us (by simp)); have US2a : Hid (Upd [] w wS) := Lib.hid ((UM1c.out.trans VS2a.out (by simp)).trans UT.out (by simp)); have HGS2a := Lib.hid (bytes_all (bytes_all HGM1c.out VS2a.out) UT.out); clear hs us))
    refine (gets_r (by simp) getStore_gets (HGS2a.out) HLC.out).mono ?_
    rintro e wS2b ⟨csS2b, rfl, u, hl, h1⟩
    have HCS2b : Hid (csS2b.length = 9) := Lib.hid hl
    have HOS2b := Lib.hid h1
    have VS2b := Lib.hid u
    clear hl h1 u
    go_wp2_with (first | (refine wpList_alloc_blk rfl 75 rfl sStore.zc (zero75 _) ?_; intro wA hA uA; have HA := Lib.hid hA; have UA := Lib.hid uA; clear hA uA) | (refine wpList_store_blk rfl 75 (.tmp 14) (.tmp 69) rfl wS2b.heap.size csS2b rfl rfl HA.out (by rw [HCS2b.out]; exact Try.size75) (by rw [HCS2b.out]; rfl) HOS2b.out ?_; intro wS hs us; have UT : Hid (Upd [] wS2b wS) := Lib.hid (UA.out.trans us (by simp)); have US2b : Hid (Upd [] w wS) := Lib.hid ((US2a.out.trans VS2b.out (by simp)).trans UT.out (by simp)); have HGS2b := Lib.hid (bytes_all (bytes_all HGS2a.out VS2b.out) UT.out); clear hs us) | (refine wpList_run rfl (exec_sliceAt (t := 22) (x := .tmp 72) (lo := none) (hi := some (.tmp 75)) (by rfl) (by rfl) (by rfl) (by rfl) (sub_h HTT.out Try.elem22 hi5 hz1 (up := l.length - 1) (by first | omega | (unfold wrap64; omega)) (by omega))) ?_))
    refine (gets_r HML.out.symm getStore_gets (bytes_all HS.out US2b.out) HSC.out).mono ?_
    rintro e wS2c ⟨csS2c, rfl, u, hl, h1⟩
    have HCS2c : Hid (csS2c.length = 9) := Lib.hid hl
    have HOS2c := Lib.hid h1
    have VS2c := Lib.hid u
    clear hl h1 u
    have hy : isRec sStore l = true → isRec sStore (l ++ [x]) = false ∧ isRec sStore m = false := fun h => ⟨isRec_more HB256.out h, by obtain ⟨y, hy⟩ := HLST.out; exact isRec_less HB256.out hy h⟩
    cases hr : isRec sStore l with
    | false =>
      simp only [hr]
      clear hy hr
      obtain ⟨ra, hra⟩ : ∃ r, isRec sStore (l ++ [x]) = r := ⟨_, rfl⟩
      obtain ⟨rb, hrb⟩ : ∃ r, isRec sStore m = r := ⟨_, rfl⟩
      simp only [hra, hrb]
      clear hra hrb
      go_wp2_with (first | (refine wpList_alloc_blk rfl 75 rfl sStore.zc (zero75 _) ?_; intro wA hA uA; have HA := Lib.hid hA; have UA := Lib.hid uA; clear hA uA) | (refine wpList_store_blk rfl 75 (.tmp 16) (.tmp 78) rfl wS2c.heap.size csS2c rfl rfl HA.out (by rw [HCS2c.out]; exact Try.size75) (by rw [HCS2c.out]; rfl) HOS2c.out ?_; intro wS hs us; have UT : Hid (Upd [] wS2c wS) := Lib.hid (UA.out.trans us (by simp)); have US2c : Hid (Upd [] w wS) := Lib.hid ((US2b.out.trans VS2c.out (by simp)).trans UT.out (by simp)); have HGS2c := Lib.hid (bytes_all (bytes_all HGS2b.out VS2c.out) UT.out); clear hs us))
      refine (gets_r rfl getCmd_gets (bytes_all HD.out US2c.out) HC.out).mono ?_
      rintro e wC4a ⟨csC4a, rfl, u, hl, h1⟩
      have HCC4a : Hid (csC4a.length = 27) := Lib.hid hl
      have HOC4a := Lib.hid h1
      have VC4a := Lib.hid u
      clear hl h1 u
      go_wp2_with (first | (refine wpList_alloc_blk rfl 48 rfl sCmd.zc (zero48 _) ?_; intro wA hA uA; have HA := Lib.hid hA; have UA := Lib.hid uA; clear hA uA) | (refine wpList_store_blk rfl 48 (.tmp 18) (.tmp 90) rfl wC4a.heap.size csC4a rfl rfl HA.out (by rw [HCC4a.out]; exact Try.size48) (by rw [HCC4a.out]; rfl) HOC4a.out ?_; intro wS hs us; have UT : Hid (Upd [] wC4a wS) := Lib.hid (UA.out.trans us (by simp)); have UC4a : Hid (Upd [] w wS) := Lib.hid ((US2c.out.trans VC4a.out (by simp)).trans UT.out (by simp)); have HGC4a := Lib.hid (bytes_all (bytes_all HGS2c.out VC4a.out) UT.out); clear hs us))
      refine (gets_r (by simp) getCmd_gets (HGC4a.out) HLC.out).mono ?_
      rintro e wC4b ⟨csC4b, rfl, u, hl, h1⟩
      have HCC4b : Hid (csC4b.length = 27) := Lib.hid hl
      have HOC4b := Lib.hid h1
      have VC4b := Lib.hid u
      clear hl h1 u
      go_wp2_with (first | (refine wpList_alloc_blk rfl 48 rfl sCmd.zc (zero48 _) ?_; intro wA hA uA; have HA := Lib.hid hA; have UA := Lib.hid uA; clear hA uA) | (refine wpList_store_blk rfl 48 (.tmp 20) (.tmp 95) rfl wC4b.heap.size csC4b rfl rfl HA.out (by rw [HCC4b.out]; exact Try.size48) (by rw [HCC4b.out]; rfl) HOC4b.out ?_; intro wS hs us; have UT : Hid (Upd [] wC4b wS) := Lib.hid (UA.out.trans us (by simp)); have UC4b : Hid (Upd [] w wS) := Lib.hid ((UC4a.out.trans VC4b.out (by simp)).trans UT.out (by simp)); have HGC4b := Lib.hid (bytes_all (bytes_all HGC4a.out VC4b.out) UT.out); clear hs us) | (refine wpList_run rfl (exec_sliceAt (t := 22) (x := .tmp 98) (lo := none) (hi := some (.tmp 101)) (by rfl) (by rfl) (by rfl) (by rfl) (sub_h HTT.out Try.elem22 hi5 hz1 (up := l.length - 1) (by first | omega | (unfold wrap64; omega)) (by omega))) ?_))
      refine (gets_r HML.out.symm getCmd_gets (bytes_all HS.out UC4b.out) HSC.out).mono ?_
      rintro e wC4c ⟨csC4c, rfl, u, hl, h1⟩
      have HCC4c : Hid (csC4c.length = 27) := Lib.hid hl
      have HOC4c := Lib.hid h1
      have VC4c := Lib.hid u
      clear hl h1 u
      have hy : isRec sCmd l = true → isRec sCmd (l ++ [x]) = false ∧ isRec sCmd m = false := fun h => ⟨isRec_more HB256.out h, by obtain ⟨y, hy⟩ := HLST.out; exact isRec_less HB256.out hy h⟩
      cases hr : isRec sCmd l with
      | false =>
        simp only [hr]
        clear hy hr
        obtain ⟨ra, hra⟩ : ∃ r, isRec sCmd (l ++ [x]) = r := ⟨_, rfl⟩
        obtain ⟨rb, hrb⟩ : ∃ r, isRec sCmd m = r := ⟨_, rfl⟩
        simp only [hra, hrb]
        clear hra hrb
        go_wp2_with (first | (refine wpList_alloc_blk rfl 48 rfl sCmd.zc (zero48 _) ?_; intro wA hA uA; have HA := Lib.hid hA; have UA := Lib.hid uA; clear hA uA) | (refine wpList_store_blk rfl 48 (.tmp 22) (.tmp 104) rfl wC4c.heap.size csC4c rfl rfl HA.out (by rw [HCC4c.out]; exact Try.size48) (by rw [HCC4c.out]; rfl) HOC4c.out ?_; intro wS hs us; have UT : Hid (Upd [] wC4c wS) := Lib.hid (UA.out.trans us (by simp)); have UC4c : Hid (Upd [] w wS) := Lib.hid ((UC4b.out.trans VC4c.out (by simp)).trans UT.out (by simp)); have HGC4c := Lib.hid (bytes_all (bytes_all HGC4b.out VC4c.out) UT.out); clear hs us))
        refine (known_true _).mono ?_
        rintro e wz ⟨rfl, u⟩
        have UZ := Lib.hid (UC4c.out.trans u (by simp))
        clear u
        go_wp2_with fail
        go_ret
        exact ⟨rfl, UZ.out⟩
      | true =>
        obtain ⟨hy1, hy2⟩ := hy hr
        simp only [hr, hy1, hy2]
        clear hy hy1 hy2 hr
        go_wp2_with (first | (refine wpList_alloc_blk rfl 48 rfl sCmd.zc (zero48 _) ?_; intro wA hA uA; have HA := Lib.hid hA; have UA := Lib.hid uA; clear hA uA) | (refine wpList_store_blk rfl 48 (.tmp 22) (.tmp 104) rfl wC4c.heap.size csC4c rfl rfl HA.out (by rw [HCC4c.out]; exact Try.size48) (by rw [HCC4c.out]; rfl) HOC4c.out ?_; intro wS hs us; have UT : Hid (Upd [] wC4c wS) := Lib.hid (UA.out.trans us (by simp)); have UC4c : Hid (Upd [] w wS) := Lib.hid ((UC4b.out.trans VC4c.out (by simp)).trans UT.out (by simp)); have HGC4c := Lib.hid (bytes_all (bytes_all HGC4b.out VC4c.out) UT.out); clear hs us))
        refine (known_true _).mono ?_
        rintro e wz ⟨rfl, u⟩
        have UZ := Lib.hid (UC4c.out.trans u (by simp))
        clear u
        go_wp2_with fail
        go_ret
        exact ⟨rfl, UZ.out⟩
    | true =>
      obtain ⟨hy1, hy2⟩ := hy hr
      simp only [hr, hy1, hy2]
      clear hy hy1 hy2 hr
      go_wp2_with (first | (refine wpList_alloc_blk rfl 75 rfl sStore.zc (zero75 _) ?_; intro wA hA uA; have HA := Lib.hid hA; have UA := Lib.hid uA; clear hA uA) | (refine wpList_store_blk rfl 75 (.tmp 16) (.tmp 78) rfl wS2c.heap.size csS2c rfl rfl HA.out (by rw [HCS2c.out]; exact Try.size75) (by rw [HCS2c.out]; rfl) HOS2c.out ?_; intro wS hs us; have UT : Hid (Upd [] wS2c wS) := Lib.hid (UA.out.trans us (by simp)); have US2c : Hid (Upd [] w wS) := Lib.hid ((US2b.out.trans VS2c.out (by simp)).trans UT.out (by simp)); have HGS2c := Lib.hid (bytes_all (bytes_all HGS2b.out VS2c.out) UT.out); clear hs us))
      refine (gets_r rfl getCmd_gets (bytes_all HD.out US2c.out) HC.out).mono ?_
      rintro e wC5a ⟨csC5a, rfl, u, hl, h1⟩
      have HCC5a : Hid (csC5a.length = 27) := Lib.hid hl
      have HOC5a := Lib.hid h1
      have VC5a := Lib.hid u
      clear hl h1 u
      go_wp2_with (first | (refine wpList_alloc_blk rfl 48 rfl sCmd.zc (zero48 _) ?_; intro wA hA uA; have HA := Lib.hid hA; have UA := Lib.hid uA; clear hA uA) | (refine wpList_store_blk rfl 48 (.tmp 18) (.tmp 90) rfl wC5a.heap.size csC5a rfl rfl HA.out (by rw [HCC5a.out]; exact Try.size48) (by rw [HCC5a.out]; rfl) HOC5a.out ?_; intro wS hs us; have UT : Hid (Upd [] wC5a wS) := Lib.hid (UA.out.trans us (by simp)); have UC5a : Hid (Upd [] w wS) := Lib.hid ((US2c.out.trans VC5a.out (by simp)).trans UT.out (by simp)); have HGC5a := Lib.hid (bytes_all (bytes_all HGS2c.out VC5a.out) UT.out); clear hs us))
      refine (gets_r (by simp) getCmd_gets (HGC5a.out) HLC.out).mono ?_
      rintro e wC5b ⟨csC5b, rfl, u, hl, h1⟩
      have HCC5b : Hid (csC5b.length = 27) := Lib.hid hl
      have HOC5b := Lib.hid h1
      have VC5b := Lib.hid u
      clear hl h1 u
      go_wp2_with (first | (refine wpList_alloc_blk rfl 48 rfl sCmd.zc (zero48 _) ?_; intro wA hA uA; have HA := Lib.hid hA; have UA := Lib.hid uA; clear hA uA) | (refine wpList_store_blk rfl 48 (.tmp 20) (.tmp 95) rfl wC5b.heap.size csC5b rfl rfl HA.out (by rw [HCC5b.out]; exact Try.size48) (by rw [HCC5b.out]; rfl) HOC5b.out ?_; intro wS hs us; have UT : Hid (Upd [] wC5b wS) := Lib.hid (UA.out.trans us (by simp)); have UC5b : Hid (Upd [] w wS) := Lib.hid ((UC5a.out.trans VC5b.out (by simp)).trans UT.out (by simp)); have HGC5b := Lib.hid (bytes_all (bytes_all HGC5a.out VC5b.out) UT.out); clear hs us) | (refine wpList_run rfl (exec_sliceAt (t := 22) (x := .tmp 98) (lo := none) (hi := some (.tmp 101)) (by rfl) (by rfl) (by rfl) (by rfl) (sub_h HTT.out Try.elem22 hi5 hz1 (up := l.length - 1) (by first | omega | (unfold wrap64; omega)) (by omega))) ?_))
      refine (gets_r HML.out.symm getCmd_gets (bytes_all HS.out UC5b.out) HSC.out).mono ?_
      rintro e wC5c ⟨csC5c, rfl, u, hl, h1⟩
      have HCC5c : Hid (csC5c.length = 27) := Lib.hid hl
      have HOC5c := Lib.hid h1
      have VC5c := Lib.hid u
      clear hl h1 u
      have hy : isRec sCmd l = true → isRec sCmd (l ++ [x]) = false ∧ isRec sCmd m = false := fun h => ⟨isRec_more HB256.out h, by obtain ⟨y, hy⟩ := HLST.out; exact isRec_less HB256.out hy h⟩
      cases hr : isRec sCmd l with
      | false =>
        simp only [hr]
        clear hy hr
        obtain ⟨ra, hra⟩ : ∃ r, isRec sCmd (l ++ [x]) = r := ⟨_, rfl⟩
        obtain ⟨rb, hrb⟩ : ∃ r, isRec sCmd m = r := ⟨_, rfl⟩
        simp only [hra, hrb]
        clear hra hrb
        go_wp2_with (first | (refine wpList_alloc_blk rfl 48 rfl sCmd.zc (zero48 _) ?_; intro wA hA uA; have HA := Lib.hid hA; have UA := Lib.hid uA; clear hA uA) | (refine wpList_store_blk rfl 48 (.tmp 22) (.tmp 104) rfl wC5c.heap.size csC5c rfl rfl HA.out (by rw [HCC5c.out]; exact Try.size48) (by rw [HCC5c.out]; rfl) HOC5c.out ?_; intro wS hs us; have UT : Hid (Upd [] wC5c wS) := Lib.hid (UA.out.trans us (by simp)); have UC5c : Hid (Upd [] w wS) := Lib.hid ((UC5b.out.trans VC5c.out (by simp)).trans UT.out (by simp)); have HGC5c := Lib.hid (bytes_all (bytes_all HGC5b.out VC5c.out) UT.out); clear hs us))
        refine (known_true _).mono ?_
        rintro e wz ⟨rfl, u⟩
        have UZ := Lib.hid (UC5c.out.trans u (by simp))
        clear u
        go_wp2_with fail
        go_ret
        exact ⟨rfl, UZ.out⟩
      | true =>
        obtain ⟨hy1, hy2⟩ := hy hr
        simp only [hr, hy1, hy2]
        clear hy hy1 hy2 hr
        go_wp2_with (first | (refine wpList_alloc_blk rfl 48 rfl sCmd.zc (zero48 _) ?_; intro wA hA uA; have HA := Lib.hid hA; have UA := Lib.hid uA; clear hA uA) | (refine wpList_store_blk rfl 48 (.tmp 22) (.tmp 104) rfl wC5c.heap.size csC5c rfl rfl HA.out (by rw [HCC5c.out]; exact Try.size48) (by rw [HCC5c.out]; rfl) HOC5c.out ?_; intro wS hs us; have UT : Hid (Upd [] wC5c wS) := Lib.hid (UA.out.trans us (by simp)); have UC5c : Hid (Upd [] w wS) := Lib.hid ((UC5b.out.trans VC5c.out (by simp)).trans UT.out (by simp)); have HGC5c := Lib.hid (bytes_all (bytes_all HGC5b.out VC5c.out) UT.out); clear hs us))
        refine (known_true _).mono ?_
        rintro e wz ⟨rfl, u⟩
        have UZ := Lib.hid (UC5c.out.trans u (by simp))
        clear u
        go_wp2_with fail
        go_ret
        exact ⟨rfl, UZ.out⟩
  | true =>
    obtain ⟨hy1, hy2⟩ := hy hr
    simp only [hr, hy1, hy2]
    clear hy hy1 hy2 hr
    go_wp2_with (first | (refine wpList_alloc_blk rfl 58 rfl sMsg.zc (zero58 _) ?_; intro wA hA uA; have HA := Lib.hid hA; have UA := Lib.hid uA; clear hA uA) | (refine wpList_store_blk rfl 58 (.tmp 10) (.tmp 52) rfl wM1c.heap.size csM1c rfl rfl HA.out (by rw [HCM1c.out]; exact Try.size58) (by rw [HCM1c.out]; rfl) HOM1c.out ?_; intro wS hs us; have UT : Hid (Upd [] wM1c wS) := Lib.hid (UA.out.trans us (by simp)); have UM1c : Hid (Upd [] w wS) := Lib.hid ((UM1b.out.trans VM1c.out (by simp)).trans UT.out (by simp)); have HGM1c := Lib.hid (bytes_all (bytes_all HGM1b.out VM1c.out) UT.out); clear hs us))
    refine (gets_r rfl getStore_gets (bytes_all HD.out UM1c.out) HC.out).mono ?_
    rintro e wS3a ⟨csS3a, rfl, u, hl, h1⟩
    have HCS3a : Hid (csS3a.length = 9) := Lib.hid hl
    have HOS3a := Lib.hid h1
    have VS3a := Lib.hid u
    clear hl h1 u
    go_wp2_with (first | (refine wpList_alloc_blk rfl 75 rfl sStore.zc (zero75 _) ?_; intro wA hA uA; have HA := Lib.hid hA; have UA := Lib.hid uA; clear hA uA) | (refine wpList_store_blk rfl 75 (.tmp 12) (.tmp 64) rfl wS3a.heap.size csS3a rfl rfl HA.out (by rw [HCS3a.out]; exact Try.size75) (by rw [HCS3a.out]; rfl) HOS3a.out ?_; intro wS hs us; have UT : Hid (Upd [] wS3a wS) := Lib.hid (UA.out.trans us (by simp)); have US3a : Hid (Upd [] w wS) := Lib.hid ((UM1c.out.trans VS3a.out (by simp)).trans UT.out (by simp)); have HGS3a := Lib.hid (bytes_all (bytes_all HGM1c.out VS3a.out) UT.out); clear hs us))
    refine (gets_r (by simp) getStore_gets (HGS3a.out) HLC.out).mono ?_
    rintro e wS3b ⟨csS3b, rfl, u, hl, h1⟩
    have HCS3b : Hid (csS3b.length = 9) := Lib.hid hl
    have HOS3b := Lib.hid h1
    have VS3b := Lib.hid u
    clear hl h1 u
    go_wp2_with (first | (refine wpList_alloc_blk rfl 75 rfl sStore.zc (zero75 _) ?_; intro wA hA uA; have HA := Lib.hid hA; have UA := Lib.hid uA; clear hA uA) | (refine wpList_store_blk rfl 75 (.tmp 14) (.tmp 69) rfl wS3b.heap.size csS3b rfl rfl HA.out (by rw [HCS3b.out]; exact Try.size75) (by rw [HCS3b.out]; rfl) HOS3b.out ?_; intro wS hs us; have UT : Hid (Upd [] wS3b wS) := Lib.hid (UA.out.trans us (by simp)); have US3b : Hid (Upd [] w wS) := Lib.hid ((US3a.out.trans VS3b.out (by simp)).trans UT.out (by simp)); have HGS3b := Lib.hid (bytes_all (bytes_all HGS3a.out VS3b.out) UT.out); clear hs us) | (refine wpList_run rfl (exec_sliceAt (t := 22) (x := .tmp 72) (lo := none) (hi := some (.tmp 75)) (by rfl) (by rfl) (by rfl) (by rfl) (sub_h HTT.out Try.elem22 hi5 hz1 (up := l.length - 1) (by first | omega | (unfold wrap64; omega)) (by omega))) ?_))
    refine (gets_r HML.out.symm getStore_gets (bytes_all HS.out US3b.out) HSC.out).mono ?_
    rintro e wS3c ⟨csS3c, rfl, u, hl, h1⟩
    have HCS3c : Hid (csS3c.length = 9) := Lib.hid hl
    have HOS3c := Lib.hid h1
    have VS3c := Lib.hid u
    clear hl h1 u
    have hy : isRec sStore l = true → isRec sStore (l ++ [x]) = false ∧ isRec sStore m = false := fun h => ⟨isRec_more HB256.out h, by obtain ⟨y, hy⟩ := HLST.out; exact isRec_less HB256.out hy h⟩
    cases hr : isRec sStore l with
    | false =>
      simp only [hr]
      clear hy hr
      obtain ⟨ra, hra⟩ : ∃ r, isRec sStore (l ++ [x]) = r := ⟨_, rfl⟩
      obtain ⟨rb, hrb⟩ : ∃ r, isRec sStore m = r := ⟨_, rfl⟩
      simp only [hra, hrb]
      clear hra hrb
      go_wp2_with (first | (refine wpList_alloc_blk rfl 75 rfl sStore.zc (zero75 _) ?_; intro wA hA uA; have HA := Lib.hid hA; have UA := Lib.hid uA; clear hA uA) | (refine wpList_store_blk rfl 75 (.tmp 16) (.tmp 78) rfl wS3c.heap.size csS3c rfl rfl HA.out (by rw [HCS3c.out]; exact Try.size75) (by rw [HCS3c.out]; rfl) HOS3c.out ?_; intro wS hs us; have UT : Hid (Upd [] wS3c wS) := Lib.hid (UA.out.trans us (by simp)); have US3c : Hid (Upd [] w wS) := Lib.hid ((US3b.out.trans VS3c.out (by simp)).trans UT.out (by simp)); have HGS3c := Lib.hid (bytes_all (bytes_all HGS3b.out VS3c.out) UT.out); clear hs us))
      refine (gets_r rfl getCmd_gets (bytes_all HD.out US3c.out) HC.out).mono ?_
      rintro e wC6a ⟨csC6a, rfl, u, hl, h1⟩
      have HCC6a : Hid (csC6a.length = 27) := Lib.hid hl
      have HOC6a := Lib.hid h1
      have VC6a := Lib.hid u
      clear hl h1 u
      go_wp2_with (first | (refine wpList_alloc_blk rfl 48 rfl sCmd.zc (zero48 _) ?_; intro wA hA uA; have HA := Lib.hid hA; have UA := Lib.hid uA; clear hA uA) | (refine wpList_store_blk rfl 48 (.tmp 18) (.tmp 90) rfl wC6a.heap.size csC6a rfl rfl HA.out (by rw [HCC6a.out]; exact Try.size48) (by rw [HCC6a.out]; rfl) HOC6a.out ?_; intro wS hs us; have UT : Hid (Upd [] wC6a wS) := Lib.hid (UA.out.trans us (by simp)); have UC6a : Hid (Upd [] w wS) := Lib.hid ((US3c.out.trans VC6a.out (by simp)).trans UT.out (by simp)); have HGC6a := Lib.hid (bytes_all (bytes_all HGS3c.out VC6a.out) UT.out); clear hs us))
      refine (gets_r (by simp) getCmd_gets (HGC6a.out) HLC.out).mono ?_
      rintro e wC6b ⟨csC6b, rfl, u, hl, h1⟩
      have HCC6b : Hid (csC6b.length = 27) := Lib.hid hl
      have HOC6b := Lib.hid h1
      have VC6b := Lib.hid u
      clear hl h1 u
      go_wp2_with (first | (refine wpList_alloc_blk rfl 48 rfl sCmd.zc (zero48 _) ?_; intro wA hA uA; have HA := Lib.hid hA; have UA := Lib.hid uA; clear hA uA) | (refine wpList_store_blk rfl 48 (.tmp 20) (.tmp 95) rfl wC6b.heap.size csC6b rfl rfl HA.out (by rw [HCC6b.out]; exact Try.size48) (by rw [HCC6b.out]; rfl) HOC6b.out ?_; intro wS hs us; have UT : Hid (Upd [] wC6b wS) := Lib.hid (UA.out.trans us (by simp)); have UC6b : Hid (Upd [] w wS) := Lib.hid ((UC6a.out.trans VC6b.out (by simp)).trans UT.out (by simp)); have HGC6b := Lib.hid (bytes_all (bytes_all HGC6a.out VC6b.out) UT.out); clear hs us) | (refine wpList_run rfl (exec_sliceAt (t := 22) (x := .tmp 98) (lo := none) (hi := some (.tmp 101)) (by rfl) (by rfl) (by rfl) (by rfl) (sub_h HTT.out Try.elem22 hi5 hz1 (up := l.length - 1) (by first | omega | (unfold wrap64; omega)) (by omega))) ?_))
      refine (gets_r HML.out.symm getCmd_gets (bytes_all HS.out UC6b.out) HSC.out).mono ?_
      rintro e wC6c ⟨csC6c, rfl, u, hl, h1⟩
      have HCC6c : Hid (csC6c.length = 27) := Lib.hid hl
      have HOC6c := Lib.hid h1
      have VC6c := Lib.hid u
      clear hl h1 u
      have hy : isRec sCmd l = true → isRec sCmd (l ++ [x]) = false ∧ isRec sCmd m = false := fun h => ⟨isRec_more HB256.out h, by obtain ⟨y, hy⟩ := HLST.out; exact isRec_less HB256.out hy h⟩
      cases hr : isRec sCmd l with
      | false =>
        simp only [hr]
        clear hy hr
        obtain ⟨ra, hra⟩ : ∃ r, isRec sCmd (l ++ [x]) = r := ⟨_, rfl⟩
        obtain ⟨rb, hrb⟩ : ∃ r, isRec sCmd m = r := ⟨_, rfl⟩
        simp only [hra, hrb]
        clear hra hrb
        go_wp2_with (first | (refine wpList_alloc_blk rfl 48 rfl sCmd.zc (zero48 _) ?_; intro wA hA uA; have HA := Lib.hid hA; have UA := Lib.hid uA; clear hA uA) | (refine wpList_store_blk rfl 48 (.tmp 22) (.tmp 104) rfl wC6c.heap.size csC6c rfl rfl HA.out (by rw [HCC6c.out]; exact Try.size48) (by rw [HCC6c.out]; rfl) HOC6c.out ?_; intro wS hs us; have UT : Hid (Upd [] wC6c wS) := Lib.hid (UA.out.trans us (by simp)); have UC6c : Hid (Upd [] w wS) := Lib.hid ((UC6b.out.trans VC6c.out (by simp)).trans UT.out (by simp)); have HGC6c := Lib.hid (bytes_all (bytes_all HGC6b.out VC6c.out) UT.out); clear hs us))
        refine (known_true _).mono ?_
        rintro e wz ⟨rfl, u⟩
        have UZ := Lib.hid (UC6c.out.trans u (by simp))
        clear u
        go_wp2_with fail
        go_ret
        exact ⟨rfl, UZ.out⟩
      | true =>
        obtain ⟨hy1, hy2⟩ := hy hr
        simp only [hr, hy1, hy2]
        clear hy hy1 hy2 hr
        go_wp2_with (first | (refine wpList_alloc_blk rfl 48 rfl sCmd.zc (zero48 _) ?_; intro wA hA uA; have HA := Lib.hid hA; have UA := Lib.hid uA; clear hA uA) | (refine wpList_store_blk rfl 48 (.tmp 22) (.tmp 104) rfl wC6c.heap.size csC6c rfl rfl HA.out (by rw [HCC6c.out]; exact Try.size48) (by rw [HCC6c.out]; rfl) HOC6c.out ?_; intro wS hs us; have UT : Hid (Upd [] wC6c wS) := Lib.hid (UA.out.trans us (by simp)); have UC6c : Hid (Upd [] w wS) := Lib.hid ((UC6b.out.trans VC6c.out (by simp)).trans UT.out (by simp)); have HGC6c := Lib.hid (bytes_all (bytes_all HGC6b.out VC6c.out) UT.out); clear hs us))
        refine (known_true _).mono ?_
        rintro e wz ⟨rfl, u⟩
        have UZ := Lib.hid (UC6c.out.trans u (by simp))
        clear u
        go_wp2_with fail
        go_ret
        exact ⟨rfl, UZ.out⟩
    | true =>
      obtain ⟨hy1, hy2⟩ := hy hr
      simp only [hr, hy1, hy2]
      clear hy hy1 hy2 hr
      go_wp2_with (first | (refine wpList_alloc_blk rfl 75 rfl sStore.zc (zero75 _) ?_; intro wA hA uA; have HA := Lib.hid hA; have UA := Lib.hid uA; clear hA uA) | (refine wpList_store_blk rfl 75 (.tmp 16) (.tmp 78) rfl wS3c.heap.size csS3c rfl rfl HA.out (by rw [HCS3c.out]; exact Try.size75) (by rw [HCS3c.out]; rfl) HOS3c.out ?_; intro wS hs us; have UT : Hid (Upd [] wS3c wS) := Lib.hid (UA.out.trans us (by simp)); have US3c : Hid (Upd [] w wS) := Lib.hid ((US3b.out.trans VS3c.out (by simp)).trans UT.out (by simp)); have HGS3c := Lib.hid (bytes_all (bytes_all HGS3b.out VS3c.out) UT.out); clear hs us))
      refine (gets_r rfl getCmd_gets (bytes_all HD.out US3c.out) HC.out).mono ?_
      rintro e wC7a ⟨csC7a, rfl, u, hl, h1⟩
      have HCC7a : Hid (csC7a.length = 27) := Lib.hid hl
      have HOC7a := Lib.hid h1
      have VC7a := Lib.hid u
      clear hl h1 u
      go_wp2_with (first | (refine wpList_alloc_blk rfl 48 rfl sCmd.zc (zero48 _) ?_; intro wA hA uA; have HA := Lib.hid hA; have UA := Lib.hid uA; clear hA uA) | (refine wpList_store_blk rfl 48 (.tmp 18) (.tmp 90) rfl wC7a.heap.size csC7a rfl rfl HA.out (by rw [HCC7a.out]; exact Try.size48) (by rw [HCC7a.out]; rfl) HOC7a.out ?_; intro wS hs us; have UT : Hid (Upd [] wC7a wS) := Lib.hid (UA.out.trans us (by simp)); have UC7a : Hid (Upd [] w wS) := Lib.hid ((US3c.out.trans VC7a.out (by simp)).trans UT.out (by simp)); have HGC7a := Lib.hid (bytes_all (bytes_all HGS3c.out VC7a.out) UT.out); clear hs us))
      refine (gets_r (by simp) getCmd_gets (HGC7a.out) HLC.out).mono ?_
      rintro e wC7b ⟨csC7b, rfl, u, hl, h1⟩
      have HCC7b : Hid (csC7b.length = 27) := Lib.hid hl
      have HOC7b := Lib.hid h1
      have VC7b := Lib.hid u
      clear hl h1 u
      go_wp2_with (first | (refine wpList_alloc_blk rfl 48 rfl sCmd.zc (zero48 _) ?_; intro wA hA uA; have HA := Lib.hid hA; have UA := Lib.hid uA; clear hA uA) | (refine wpList_store_blk rfl 48 (.tmp 20) (.tmp 95) rfl wC7b.heap.size csC7b rfl rfl HA.out (by rw [HCC7b.out]; exact Try.size48) (by rw [HCC7b.out]; rfl) HOC7b.out ?_; intro wS hs us; have UT : Hid (Upd [] wC7b wS) := Lib.hid (UA.out.trans us (by simp)); have UC7b : Hid (Upd [] w wS) := Lib.hid ((UC7a.out.trans VC7b.out (by simp)).trans UT.out (by simp)); have HGC7b := Lib.hid (bytes_all (bytes_all HGC7a.out VC7b.out) UT.out); clear hs us) | (refine wpList_run rfl (exec_sliceAt (t := 22) (x := .tmp 98) (lo := none) (hi := some (.tmp 101)) (by rfl) (by rfl) (by rfl) (by rfl) (sub_h HTT.out Try.elem22 hi5 hz1 (up := l.length - 1) (by first | omega | (unfold wrap64; omega)) (by omega))) ?_))
      refine (gets_r HML.out.symm getCmd_gets (bytes_all HS.out UC7b.out) HSC.out).mono ?_
      rintro e wC7c ⟨csC7c, rfl, u, hl, h1⟩
      have HCC7c : Hid (csC7c.length = 27) := Lib.hid hl
      have HOC7c := Lib.hid h1
      have VC7c := Lib.hid u
      clear hl h1 u
      have hy : isRec sCmd l = true → isRec sCmd (l ++ [x]) = false ∧ isRec sCmd m = false := fun h => ⟨isRec_more HB256.out h, by obtain ⟨y, hy⟩ := HLST.out; exact isRec_less HB256.out hy h⟩
      cases hr : isRec sCmd l with
      | false =>
        simp only [hr]
        clear hy hr
        obtain ⟨ra, hra⟩ : ∃ r, isRec sCmd (l ++ [x]) = r := ⟨_, rfl⟩
        obtain ⟨rb, hrb⟩ : ∃ r, isRec sCmd m = r := ⟨_, rfl⟩
        simp only [hra, hrb]
        clear hra hrb
        go_wp2_with (first | (refine wpList_alloc_blk rfl 48 rfl sCmd.zc (zero48 _) ?_; intro wA hA uA; have HA := Lib.hid hA; have UA := Lib.hid uA; clear hA uA) | (refine wpList_store_blk rfl 48 (.tmp 22) (.tmp 104) rfl wC7c.heap.size csC7c rfl rfl HA.out (by rw [HCC7c.out]; exact Try.size48) (by rw [HCC7c.out]; rfl) HOC7c.out ?_; intro wS hs us; have UT : Hid (Upd [] wC7c wS) := Lib.hid (UA.out.trans us (by simp)); have UC7c : Hid (Upd [] w wS) := Lib.hid ((UC7b.out.trans VC7c.out (by simp)).trans UT.out (by simp)); have HGC7c := Lib.hid (bytes_all (bytes_all HGC7b.out VC7c.out) UT.out); clear hs us))
        refine (known_true _).mono ?_
        rintro e wz ⟨rfl, u⟩
        have UZ := Lib.hid (UC7c.out.trans u (by simp))
        clear u
        go_wp2_with fail
        go_ret
        exact ⟨rfl, UZ.out⟩
      | true =>
        obtain ⟨hy1, hy2⟩ := hy hr
        simp only [hr, hy1, hy2]
        clear hy hy1 hy2 hr
        go_wp2_with (first | (refine wpList_alloc_blk rfl 48 rfl sCmd.zc (zero48 _) ?_; intro wA hA uA; have HA := Lib.hid hA; have UA := Lib.hid uA; clear hA uA) | (refine wpList_store_blk rfl 48 (.tmp 22) (.tmp 104) rfl wC7c.heap.size csC7c rfl rfl HA.out (by rw [HCC7c.out]; exact Try.size48) (by rw [HCC7c.out]; rfl) HOC7c.out ?_; intro wS hs us; have UT : Hid (Upd [] wC7c wS) := Lib.hid (UA.out.trans us (by simp)); have UC7c : Hid (Upd [] w wS) := Lib.hid ((UC7b.out.trans VC7c.out (by simp)).trans UT.out (by simp)); have HGC7c := Lib.hid (bytes_all (bytes_all HGC7b.out VC7c.out) UT.out); clear hs us))
        refine (known_true _).mono ?_
        rintro e wz ⟨rfl, u⟩
        have UZ := Lib.hid (UC7c.out.trans u (by simp))
        clear u
        go_wp2_with fail
        go_ret
        exact ⟨rfl, UZ.out⟩
end Go.Proofs.Ythecincpejpmpaa
namespace Go.Proofs.Ythecincpejpmpaa.codecMore
open Go.ChangeShapes Go.WideShapes Go.ChangeAt Go.RowKit Go.Lb Go.Rc

set_option maxRecDepth 100000 in
theorem contract (H : Type) (enc : TypeId × Value → H) (W : World) (base : Nat) (args : Array Value) (ds gs : List (DataW H)) (before : List MemPlace)
    (hval : ∀ (j : Nat) t v, Try.f10.params[j]? = some t → args[j]? = some v → Value.okWide Try.prog W .any base t v)
    (hW : DataW.Whole enc Try.prog Try.f10.params.toList Rows.codecMoreSpec.vars false W args.toList ds gs before)
    (hsz : (DataW.weightsEach Try.prog (Try.f10.params.toList ++ Rows.codecMoreSpec.plain.varTypes Try.prog) (ds ++ gs)).all (· ≤ reachBytes) = true) :
    Calls Try.prog 10 args W fun e W' => ∃ v, e = .returned v ∧ Rows.codecMoreSpec.post enc Try.prog Try.f10 false true false false W args v W' := by
  have hW' := hW
  obtain ⟨p, q, hA0, hV, rfl, hfz, hnd⟩ := hW
  have hA : DataW.TrodAll enc Try.prog W 0 (fun _ => true) true Try.f10.params.toList args.toList ds p := hA0
  rw [Try.params10] at hA hval hsz
  obtain ⟨v0, vs0, d0, ds0, p0, q0, hargs, rfl, rfl, h0, s0⟩ := trodAll_cons hA
  obtain ⟨v1, vs1, d1, ds1, p1, q1, rfl, rfl, rfl, h1, s1⟩ := trodAll_cons s0
  obtain ⟨rfl, rfl, rfl⟩ := trodAll_nil s1
  have hz0 : (DataW.weightsEach Try.prog (22 :: 5 :: Rows.codecMoreSpec.plain.varTypes Try.prog) (d0 :: d1 :: gs)).all (· ≤ reachBytes) = true := hsz
  obtain ⟨r0, hz1⟩ := reached_of hz0
  obtain ⟨r1, hz2⟩ := reached_of hz1
  obtain rfl : args = #[v0, v1] := by cases args; simp_all
  obtain ⟨rfl, rfl⟩ := trodVars_none hV
  have k0 := h0
  have lt0 : ∀ x ∈ p0, x.block < W.heap.size := by obtain ⟨m, hm⟩ := k0; exact DataW.trod_lt m _ _ _ hm
  have k1 := h1
  have lt1 : ∀ x ∈ p1, x.block < W.heap.size := by obtain ⟨m, hm⟩ := k1; exact DataW.trod_lt m _ _ _ hm
  obtain ⟨a0, len0, cap0, rfl⟩ := okWide_slice Try.underlying22 (hval 0 22 v0 rfl rfl)
  have hl0 := slice_r Try.underlying22 (z := 1) (by kernel_rfl) h0 r0
  obtain ⟨l0, rfl, hc0, hm0, hu0, hB0⟩ := arg_bytes Try.underlying22 Try.underlying5 (by kernel_rfl) h0
  simp only [reachBytes] at hl0
  obtain ⟨z1, rfl, rfl, rfl, wx1⟩ := open_int Try.underlying5 (hval 1 5 v1 rfl rfl) h1
  rw [Lit.wf_int_iff] at wx1
  obtain ⟨x1, rfl⟩ : ∃ n : Nat, z1 = n := ⟨z1.toNat, (Int.toNat_of_nonneg wx1.1).symm⟩
  have hx1 : x1 < 256 := by have h : ((x1 : Nat) : Int) ≤ 255 := wx1.2; omega
  clear hA0 hsz hz0
  refine (more_ok a0 cap0 x1 l0 W hB0 hc0 hm0 hx1 (by omega)).mono fun e W' ⟨he, bel⟩ => ?_
  subst he
  exact ⟨_, rfl, _, _, _, [], _, [], hW', trodAll_mk1 (shut_bool Try.underlying4 _), (trodAll_cons_mk (Below.trod Try.laidOut (by kernel_rfl) (of_decide_eq_true (by kernel_rfl)) k0 bel.below lt0) (trodAll_cons_mk (Below.trod Try.laidOut (by kernel_rfl) (of_decide_eq_true (by kernel_rfl)) k1 bel.below lt1) trodAll_mk0)), rfl, bel.below.frame _, fun h => by cases h⟩

set_option maxRecDepth 100000 in
theorem lifted (os : Os) (started : os.Started) (H : Type) (enc : TypeId × Value → H) :
    ReturnsInHanded {} Try.checked os 10 .any (Rows.codecMoreSpec.pre6 enc Try.prog Try.f10 Rows.codecMoreRow.domain false) (Rows.codecMoreSpec.post enc Try.prog Try.f10 false true false false) := by
  refine returnsInHanded_of_change_sized (C := Try.checked) Try.own started (by kernel_rfl) Try.func10
    (ChangeSpec.witness6 (enc := enc) (C := Try.checked) false ⟨#[], #[.slice none 0 0, .int .u8 0], []⟩ 8 (by kernel_rfl) (by kernel_rfl) (by kernel_rfl) (by kernel_rfl)) ?_
  intro W base args ds gs before hval hW hcnd hsz _
  exact contract H enc W base args ds gs before hval hW hsz

theorem closed : joinedFacts Try.prog 10 Try.f10 Rows.codecMoreSpec Rows.codecMoreRow = true := by
  unfold joinedFacts
  rw [Try.words1, Try.words2, Try.words3]
  kernel_rfl

theorem proved : Rows.CodecMoreSaid :=
  OpenClaim.holds_of_wide 10 Try.f10 rfl rfl rfl rfl rfl rfl rfl ⟨rfl, rfl, rfl, rfl, rfl⟩ rfl rfl rfl rfl rfl (by kernel_rfl) Try.func10 closed
    (of_decide_eq_true (by kernel_rfl)) (by unfold Func.isWrapper; first | (rw [if_pos (by decide +kernel)]; kernel_rfl) | (rw [if_neg (by decide +kernel)]; exact ⟨rfl, rfl⟩))
    (fun os started H enc _ => lifted os started H enc)
#print axioms proved
end Go.Proofs.Ythecincpejpmpaa.codecMore
