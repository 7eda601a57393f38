/- A part that several proofs lean on: texts one behind the other. No condition but those that each theorem states. -/
import Derived.Test.YthecincpejpmpaaZfc
set_option linter.unusedVariables false
set_option linter.unusedSimpArgs false
/- codec's Unframe. -/
namespace Go.Proofs.Ythecincpejpmpaa
open Go.RowKit Go.Lb Go.Rc Go.Crc

set_option maxRecDepth 20000 in
set_option maxHeartbeats 4000000 in
theorem unframe_any (ok : Nat → Prop) (a : Option Addr) (c : Nat) (l : List Nat) (w : World) (hb : Bytes w ok a l) (hc : l.length ≤ c) (hl : l.length ≤ 225000000000000) :
    Calls Try.prog 15 #[.slice a l.length c] w (UnIs l w) := by
  obtain ⟨i5, hi5, hz0, hz1, hz2⟩ := infoU8
  have HB := Lib.hid hb
  have HL : Hid (∀ x ∈ l, x < 256) := Lib.hid (fun x hx => by
    obtain ⟨i, hi⟩ := List.mem_iff_getElem?.1 hx
    exact (hb i x hi).1)
  have HTT : Hid (Try.prog.underlying 22 = some (.slice (Try.prog.elem 22))) := Lib.hid <| by rw [Try.elem22]; exact Try.underlying22
  clear hb
  go_enter Try.func15, Try.ntmps15
  by_cases h11 : l.length < 11
  · have t1 : decide ((l.length : Int) < 11) = true := by simp; omega
    have HF := Lib.hid (UnIs.torn (by unfold find; rw [if_pos h11]) (Upd.refl [] w))
    go_wp2_with fail
    (try simp only [Exit.inBlock, Exit.then])
    refine bodyPost_ret (results_tmp5 rfl _ _ _) rfl ?_
    exact HF.out
  have t1 : decide ((l.length : Int) < 11) = false := by simp; omega
  have h4 : (l.take 4).length = 4 := by simp; omega
  have h6 : ((l.drop 5).take 6).length = 6 := by simp; omega
  obtain ⟨n, hn⟩ : ∃ n, n = nOf l := ⟨_, rfl⟩
  obtain ⟨p, hp⟩ : ∃ p, p = pOf l := ⟨_, rfl⟩
  have hn2 : n < 4294967296 := by
    have := unb_lt (l.take 4) (fun b hb => HL.out b (List.mem_of_mem_take hb))
    rw [h4] at this
    rw [hn]; exact this
  have hp2 : p < 281474976710656 := by
    have := unb_lt ((l.drop 5).take 6) (fun b hb => HL.out b (List.mem_of_mem_drop (List.mem_of_mem_take hb)))
    rw [h6] at this
    rw [hp]; exact this
  have C1 := fun w' (hw : Upd [] w w') => number_any ok (suba a 0 c) c (l.take 4) w' ((suba_to HB.out 4 hc).upd hw (by simp)) (by omega)
  have C2 := fun w' (hw : Upd [] w w') => number_any ok (suba a 5 c) (c - 5) ((l.drop 5).take 6) w' ((suba_bytes HB.out 5 6 hc).upd hw (by simp)) (by omega)
  rw [h4] at C1
  rw [h6] at C2
  rw [show unb (l.take 4) = n from hn.symm] at C1
  rw [show unb ((l.drop 5).take 6) = p from hp.symm] at C2
  have HC1 := Lib.hid C1
  have HC2 := Lib.hid C2
  have HN := Lib.hid hn
  have HP := Lib.hid hp
  clear C1 C2 h4 h6 hn hp
  go_wp2_with fail
  refine wp_region_lex (fun w' => Upd [] w w') 99 [(0, true), (1, true), (3, true), (4, true), (2, false), (5, false), (6, false), (7, false)] (by kernel_rfl) (by kernel_rfl) (by kernel_rfl) (by kernel_rfl) (fun _ _ d _ _ h => by cases d <;> exact h) ?_
  simp only [lexOps, List.map_cons, List.map_nil, List.getD_cons_zero, List.getD_cons_succ]
  have hS0 : Upd [] w w.drew := (Upd.refl _ _).drew
  iterate 1 (refine lex_read rfl (by exact hS0) (v := ?_) (fun w' hw => ?_) ?_; rotate_left; (focus (go_simp; try with_reducible rfl)); simp only [Act.put, List.setIfInBounds_toArray, List.set_cons_zero, List.set_cons_succ])
  refine lex_read rfl (by exact hS0) (fun w' hw => exec_sliceAt (by rfl) (by rfl) (by rfl) (by rfl) (sub_h HTT.out Try.elem22 hi5 hz1 (up := 4) rfl (by omega))) ?_
  simp only [Act.put, List.setIfInBounds_toArray, List.set_cons_zero, List.set_cons_succ]
  iterate 1 (refine lex_read rfl (by exact hS0) (v := ?_) (fun w' hw => ?_) ?_; rotate_left; (focus (go_simp; try with_reducible rfl)); simp only [Act.put, List.setIfInBounds_toArray, List.set_cons_zero, List.set_cons_succ])
  refine lex_read rfl (by exact hS0) (fun w' hw => exec_sliceAt (by rfl) (by rfl) (by rfl) (by rfl) (sub_lh HTT.out Try.elem22 hi5 hz1 (lo := 5) (k := 6) rfl rfl (by omega))) ?_
  simp only [Act.put, List.setIfInBounds_toArray, List.set_cons_zero, List.set_cons_succ]
  refine lex_do rfl (fun K hK => ?_)
  go_simp
  refine (HC1.out _ hS0).mono ?_
  rintro e w1 ⟨rfl, rfl⟩
  refine hK _ _ (fun _ => hS0) ?_
  clear hK K
  try simp only [Act.put, List.setIfInBounds_toArray, List.set_cons_zero, List.set_cons_succ]
  refine lex_do rfl (fun K hK => ?_)
  go_simp
  refine (HC2.out _ hS0).mono ?_
  rintro e w1 ⟨rfl, rfl⟩
  refine hK _ _ (fun _ => hS0) ?_
  clear hK K
  try simp only [Act.put, List.setIfInBounds_toArray, List.set_cons_zero, List.set_cons_succ]
  iterate 2 (refine lex_do rfl (fun K hK => ?_); go_simp; refine hK _ _ (fun _ => hS0) ?_; clear hK K; try simp only [Act.put, List.setIfInBounds_toArray, List.set_cons_zero, List.set_cons_succ])
  refine lex_nil ?_
  clear hS0
  have HNP : Hid (nOf l = n ∧ pOf l = p) := Lib.hid ⟨HN.out.symm, HP.out.symm⟩
  by_cases hnb : 1048576 < n
  · have t2 : decide ((1048576 : Int) < (n : Int)) = true := by simp; omega
    have HF := Lib.hid (UnIs.wrong (l := l) (by unfold find; rw [if_neg h11, HNP.out.1, HNP.out.2, if_pos (.inl hnb)]) (Upd.refl [] w).drew)
    go_wp2_with fail
    (try simp only [Exit.inBlock, Exit.then])
    refine bodyPost_ret (results_tmp5 rfl _ _ _) rfl ?_
    exact HF.out
  have t2 : decide ((1048576 : Int) < (n : Int)) = false := by simp; omega
  by_cases hpb : 1099511627776 < p
  · have t3 : decide ((1099511627776 : Int) < (p : Int)) = true := by simp; omega
    have HF := Lib.hid (UnIs.wrong (l := l) (by unfold find; rw [if_neg h11, HNP.out.1, HNP.out.2, if_pos (.inr hpb)]) (Upd.refl [] w).drew)
    go_wp2_with fail
    (try simp only [Exit.inBlock, Exit.then])
    refine bodyPost_ret (results_tmp5 rfl _ _ _) rfl ?_
    exact HF.out
  have t3 : decide ((1099511627776 : Int) < (p : Int)) = false := by simp; omega
  by_cases h15 : l.length < 15 + n
  · have t4 : decide ((l.length : Int) < 11 + (n : Int) + 4) = true := by simp; omega
    have HF := Lib.hid (UnIs.torn (l := l) (by unfold find; rw [if_neg h11, HNP.out.1, HNP.out.2, if_neg (by omega), if_pos h15]) (Upd.refl [] w).drew)
    go_wp2_with fail
    (try simp only [Exit.inBlock, Exit.then])
    refine bodyPost_ret (results_tmp5 rfl _ _ _) rfl ?_
    exact HF.out
  have t4 : decide ((l.length : Int) < 11 + (n : Int) + 4) = false := by simp; omega
  have hfind : ∀ b, ((l.drop (11 + n)).take 4 == le4 (crc (l.take (11 + n)))) = b → find l = if b = true then .whole (kOf l) p ((l.drop 11).take n) else .wrong := by
    intro b hb
    unfold find
    rw [if_neg h11, HNP.out.1, HNP.out.2, if_neg (by omega), if_neg h15, ← hb]
    simp only [beq_iff_eq]
  have HFIND := Lib.hid hfind
  clear hfind
  have hA4 : ((l.drop (11 + n)).take 4).length = 4 := by simp; omega
  have hB11 : (l.take (11 + n)).length = 11 + n := by simp; omega
  obtain ⟨b0, o0, hsa, _, hb0, hrg⟩ := bytes_range (suba_bytes HB.out (11 + n) 4 hc) (fun e => by rw [e] at hA4; cases hA4)
  have HSA := Lib.hid hsa
  have HRG : Hid (∀ w', Upd [] w w' → w'.rangeAt b0 o0 (((l.drop (11 + n)).take 4).map bv)) := Lib.hid fun w' u => rangeAt_keep hrg (u.block b0 hb0 (by simp))
  have C3 := fun w' (hw : Upd [] w w') => sum_any ok (suba a 0 c) c (l.take (11 + n)) w' ((suba_to HB.out (11 + n) hc).upd hw (by simp)) (by omega)
  rw [hB11] at C3
  have HC3 := Lib.hid C3
  have HA4 := Lib.hid hA4
  clear hsa hrg C3 hA4 hB11
  obtain ⟨xa, hxa⟩ : ∃ xa, xa = (l.drop (11 + n)).take 4 := ⟨_, rfl⟩
  obtain ⟨xb, hxb⟩ : ∃ xb, xb = le4 (crc (l.take (11 + n))) := ⟨_, rfl⟩
  have HXA : Hid (∀ x ∈ xa, x < 256) := Lib.hid fun x hx => HL.out x (by rw [hxa] at hx; exact List.mem_of_mem_drop (List.mem_of_mem_take hx))
  have HXB : Hid ((∀ x ∈ xb, x < 256) ∧ xb.length = 4) := Lib.hid (by rw [hxb]; exact ⟨le4_byte _, rfl⟩)
  rw [← hxa] at HRG HA4 HFIND
  rw [← hxb] at HC3 HFIND
  obtain ⟨bq, hbq⟩ : ∃ b, (xa == xb) = b := ⟨_, rfl⟩
  have HBQ := Lib.hid hbq
  clear hbq hxa hxb
  go_wp2_with fail
  refine wp_region_lex (fun w' => Upd [] w w') 99 [(0, true), (1, true), (2, true), (3, true), (4, true), (5, true), (6, true), (7, true), (8, true), (9, true), (10, false), (11, false)] (by kernel_rfl) (by kernel_rfl) (by kernel_rfl) (by kernel_rfl) (fun _ _ d _ _ h => by cases d <;> exact h) ?_
  simp only [lexOps, List.map_cons, List.map_nil, List.getD_cons_zero, List.getD_cons_succ]
  have hS1 : Upd [] w w.drew.drew := (Upd.refl _ _).drew.drew
  iterate 4 (refine lex_read rfl (by exact hS1) (v := ?_) (fun w' hw => ?_) ?_; rotate_left; (focus (go_simp; try with_reducible rfl)); simp only [Act.put, List.setIfInBounds_toArray, List.set_cons_zero, List.set_cons_succ])
  refine lex_read rfl (by exact hS1) (v := .slice (some ⟨b0, o0, none⟩) 4 (c - (11 + n))) (fun w' hw => exec_sliceAt (by rfl) (by rfl) (by rfl) (by rfl) (by rw [← HSA.out]; exact sub_lh HTT.out Try.elem22 hi5 hz1 (lo := 11 + n) (k := 4) (by omega) (by rw [wrapIn (by omega) (by omega)]; omega) (by omega))) ?_
  simp only [Act.put, List.setIfInBounds_toArray, List.set_cons_zero, List.set_cons_succ]
  refine lex_read rfl (by exact hS1) (v := .pointer (some ⟨b0, o0, none⟩)) (fun w' hw => exec_toArray (by rfl) (by rfl) (run_arrayAt w' _ _ 4 _ 4 _ Try.underlying82 (by omega))) ?_
  simp only [Act.put, List.setIfInBounds_toArray, List.set_cons_zero, List.set_cons_succ]
  refine lex_read rfl (by exact hS1) (fun w' hw => exec_load (by rfl) (by rfl) (run_loadAt_mid w' b0 o0 82 (xa.map bv) _ (HRG.out w' hw) Try.underlying82 rfl (by rw [List.length_map, HA4.out]; exact sum4))) ?_
  simp only [Act.put, List.setIfInBounds_toArray, List.set_cons_zero, List.set_cons_succ]
  iterate 2 (refine lex_read rfl (by exact hS1) (v := ?_) (fun w' hw => ?_) ?_; rotate_left; (focus (go_simp; try with_reducible rfl)); simp only [Act.put, List.setIfInBounds_toArray, List.set_cons_zero, List.set_cons_succ])
  refine lex_read rfl (by exact hS1) (fun w' hw => exec_sliceAt (by rfl) (by rfl) (by rfl) (by rfl) (sub_h HTT.out Try.elem22 hi5 hz1 (up := 11 + n) (by omega) (by omega))) ?_
  simp only [Act.put, List.setIfInBounds_toArray, List.set_cons_zero, List.set_cons_succ]
  refine lex_do rfl (fun K hK => ?_)
  go_simp
  refine (HC3.out _ hS1).mono ?_
  rintro e w3 ⟨rfl, u3⟩
  have hS3 : Upd [] w w3 := hS1.trans u3 (by simp)
  refine hK _ _ (fun _ => hS3) ?_
  clear hK K
  try simp only [Act.put, List.setIfInBounds_toArray, List.set_cons_zero, List.set_cons_succ]
  refine lex_run rfl (exec_bin (by rfl) (by rfl) (by rfl) (run_eqGuard_agg _ _ _ _ _ _ _ (by kernel_rfl)) (neq_bytes w3 Try.underlying82 Try.underlying5 (size_u8 hi5 hz1) HXA.out HXB.out.1 HA4.out HXB.out.2)) (fun _ => hS3) ?_
  rw [HBQ.out]
  try simp only [Act.put, List.setIfInBounds_toArray, List.set_cons_zero, List.set_cons_succ]
  refine lex_nil ?_
  have HU3 := Lib.hid hS3
  have hs3 := hS3.size
  clear hS1 u3 hS3
  cases bq with
  | false =>
    have HF := Lib.hid (UnIs.wrong (by rw [HFIND.out _ HBQ.out]; rfl) HU3.out)
    go_wp2_with fail
    (try simp only [Exit.inBlock, Exit.then])
    refine bodyPost_ret (results_tmp5 rfl _ _ _) rfl ?_
    exact HF.out
  | true =>
    obtain ⟨x4, hx4⟩ : ∃ x, l[4]? = some x := ⟨_, List.getElem?_eq_getElem (by omega)⟩
    obtain ⟨hx2, d, o, rfl, hdB, hdl, hcell⟩ := HB.out 4 x4 hx4
    have hk : kOf l = x4 := by unfold kOf; rw [List.getD_eq_getElem?_getD, hx4]; rfl
    have hC11 : ((l.drop 11).take n).length = n := by simp; omega
    have HR : Hid (∀ w', Upd [] w w' → w'.cell? ⟨d, o + 4, none⟩ = some (.int .u8 x4)) := Lib.hid fun w' u => (u.cell (a := ⟨d, o + 4, none⟩) hdl (by simp)).trans hcell
    have C4 := fun w' (hw : Upd [] w w') => clone_any ok (suba (some ⟨d, o, none⟩) 11 c) (c - 11) ((l.drop 11).take n) w' ((suba_bytes HB.out 11 n hc).upd hw (by simp)) (by omega)
    rw [hC11] at C4
    have HC4 := Lib.hid C4
    have HF : Hid (∀ w' v, Upd [] w w' → Row w.heap.size w' v ((l.drop 11).take n) → UnIs l w (.returned (.tuple #[.int .i64 (x4 : Int), .int .i64 (p : Int), v, .int .i64 (11 + (n : Int) + 4), .int .i64 0])) w') := Lib.hid fun w' v u r => by
      have := UnIs.whole (k := x4) (p := p) (body := (l.drop 11).take n) (by rw [HFIND.out _ HBQ.out, ← hk]; rfl) u r
      rw [hC11] at this
      rwa [show (15 : Int) + (n : Int) = 11 + (n : Int) + 4 by omega] at this
    clear hx4 hcell C4 hk hC11
    have g4 : (4 : Int) < (l.length : Int) := by omega
    go_wp2_with fail
    refine wp_region_lex (fun w' => Upd [] w w') 99 [(0, true), (1, true), (2, true), (3, true), (4, true), (5, true), (6, true), (7, true), (9, true), (10, true), (8, false), (11, false), (12, false), (13, false), (14, false), (15, false)] (by kernel_rfl) (by kernel_rfl) (by kernel_rfl) (by kernel_rfl) (fun _ _ d _ _ h => by cases d <;> exact h) ?_
    simp only [lexOps, List.map_cons, List.map_nil, List.getD_cons_zero, List.getD_cons_succ]
    have hS4 : Upd [] w w3.drew := HU3.out.drew
    iterate 7 (refine lex_read rfl (by exact hS4) (v := ?_) (fun w' hw => ?_) ?_; rotate_left; (focus (have q1 := HR.out w' hw; go_simp; try with_reducible rfl)); simp only [Act.put, List.setIfInBounds_toArray, List.set_cons_zero, List.set_cons_succ])
    refine lex_read rfl (by exact hS4) (fun w' hw => exec_sliceAt (by rfl) (by rfl) (by rfl) (by rfl) (sub_lh HTT.out Try.elem22 hi5 hz1 (lo := 11) (k := n) rfl (by omega) (by omega))) ?_
    simp only [Act.put, List.setIfInBounds_toArray, List.set_cons_zero, List.set_cons_succ]
    iterate 2 (refine lex_read rfl (by exact hS4) (v := ?_) (fun w' hw => ?_) ?_; rotate_left; (focus (go_simp; try with_reducible rfl)); simp only [Act.put, List.setIfInBounds_toArray, List.set_cons_zero, List.set_cons_succ])
    refine lex_do rfl (fun K hK => ?_)
    go_simp
    refine (HC4.out _ hS4).mono ?_
    rintro e w5 ⟨v5, rfl, r5, u5⟩
    have hS5 : Upd [] w w5 := hS4.trans u5 (by simp)
    have HF5 := Lib.hid (HF.out w5 v5 hS5 (own_rebase r5 (fun k hk => by have := own_lo r5 hk; have := hS4.size; omega)))
    refine hK _ _ (fun _ => hS5) ?_
    clear hK K
    try simp only [Act.put, List.setIfInBounds_toArray, List.set_cons_zero, List.set_cons_succ]
    iterate 5 (refine lex_do rfl (fun K hK => ?_); go_simp; refine hK _ _ (fun _ => hS5) ?_; clear hK K; try simp only [Act.put, List.setIfInBounds_toArray, List.set_cons_zero, List.set_cons_succ])
    refine lex_nil ?_
    clear hS5 r5 u5
    rw [wrapIn (x := (x4 : Int)) (by omega) (by omega), wrapIn (x := 11 + (n : Int) + 4) (by omega) (by omega)]
    go_wp2_with fail
    (try simp only [Exit.inBlock, Exit.then])
    refine bodyPost_ret (results_tmp5 rfl _ _ _) rfl ?_
    exact HF5.out
end Go.Proofs.Ythecincpejpmpaa
/- The reference's Unframe. -/
namespace Go.Proofs.Ythecincpejpmpaa
open Go.RowKit Go.Lb Go.Rc Go.Crc

set_option maxRecDepth 20000 in
set_option maxHeartbeats 4000000 in
theorem runframe_any (ok : Nat → Prop) (a : Option Addr) (c : Nat) (l : List Nat) (w : World) (hb : Bytes w ok a l) (hc : l.length ≤ c) (hl : l.length ≤ 225000000000000) :
    Calls Try.prog 16 #[.slice a l.length c] w (UnIs l w) := by
  obtain ⟨i5, hi5, hz0, hz1, hz2⟩ := infoU8
  have HB := Lib.hid hb
  have HL : Hid (∀ x ∈ l, x < 256) := Lib.hid (fun x hx => by
    obtain ⟨i, hi⟩ := List.mem_iff_getElem?.1 hx
    exact (hb i x hi).1)
  have HTT : Hid (Try.prog.underlying 22 = some (.slice (Try.prog.elem 22))) := Lib.hid <| by rw [Try.elem22]; exact Try.underlying22
  clear hb
  go_enter Try.func16, Try.ntmps16
  by_cases h11 : l.length < 11
  · have t1 : decide ((l.length : Int) < 11) = true := by simp; omega
    have HF := Lib.hid (UnIs.torn (by unfold find; rw [if_pos h11]) (Upd.refl [] w))
    go_wp2_with fail
    (try simp only [Exit.inBlock, Exit.then])
    refine bodyPost_ret (results_tmp5 rfl _ _ _) rfl ?_
    exact HF.out
  have t1 : decide ((l.length : Int) < 11) = false := by simp; omega
  have h4 : (l.take 4).length = 4 := by simp; omega
  have h6 : ((l.drop 5).take 6).length = 6 := by simp; omega
  obtain ⟨n, hn⟩ : ∃ n, n = nOf l := ⟨_, rfl⟩
  obtain ⟨p, hp⟩ : ∃ p, p = pOf l := ⟨_, rfl⟩
  have hn2 : n < 4294967296 := by
    have := unb_lt (l.take 4) (fun b hb => HL.out b (List.mem_of_mem_take hb))
    rw [h4] at this
    rw [hn]; exact this
  have hp2 : p < 281474976710656 := by
    have := unb_lt ((l.drop 5).take 6) (fun b hb => HL.out b (List.mem_of_mem_drop (List.mem_of_mem_take hb)))
    rw [h6] at this
    rw [hp]; exact this
  have C1 := fun w' (hw : Upd [] w w') => rnumber_any ok a c 0 4 l w' (HB.out.upd hw (by simp)) (by omega) (by omega) hl
  have C2 := fun w' (hw : Upd [] w w') => rnumber_any ok a c 5 6 l w' (HB.out.upd hw (by simp)) (by omega) (by omega) hl
  rw [List.drop_zero, show unb (l.take 4) = n from hn.symm] at C1
  rw [show unb ((l.drop 5).take 6) = p from hp.symm] at C2
  have HC1 := Lib.hid C1
  have HC2 := Lib.hid C2
  have HN := Lib.hid hn
  have HP := Lib.hid hp
  clear C1 C2 h4 h6 hn hp
  obtain ⟨x4, hx4⟩ : ∃ x, l[4]? = some x := ⟨_, List.getElem?_eq_getElem (by omega)⟩
  obtain ⟨hx2, d, o, rfl, hdB, hdl, hcell⟩ := HB.out 4 x4 hx4
  have HK : Hid (kOf l = x4) := Lib.hid (by unfold kOf; rw [List.getD_eq_getElem?_getD, hx4]; rfl)
  have g4 : (4 : Int) < (l.length : Int) := by omega
  have hcl : w.cell? ⟨d, o + 4, none⟩ = some (.int .u8 x4) := hcell
  clear hx4 hcell
  go_wp2_with fail
  refine (HC1.out _ (Upd.refl _ _)).mono ?_
  rintro e w1 ⟨rfl, rfl⟩
  go_wp2_with fail
  refine (HC2.out _ (Upd.refl _ _)).mono ?_
  rintro e w1 ⟨rfl, rfl⟩
  try rw [wrapIn (x := (x4 : Int)) (by omega) (by omega)]
  have HNP : Hid (nOf l = n ∧ pOf l = p) := Lib.hid ⟨HN.out.symm, HP.out.symm⟩
  clear hcl
  by_cases hnb : 1048576 < n
  · have t2 : decide ((1048576 : Int) < (n : Int)) = true := by simp; omega
    have HF := Lib.hid (UnIs.wrong (l := l) (by unfold find; rw [if_neg h11, HNP.out.1, HNP.out.2, if_pos (.inl hnb)]) (Upd.refl [] w1))
    go_wp2_with fail
    (try simp only [Exit.inBlock, Exit.then])
    refine bodyPost_ret (results_tmp5 rfl _ _ _) rfl ?_
    exact HF.out
  have t2 : decide ((1048576 : Int) < (n : Int)) = false := by simp; omega
  by_cases hpb : 1099511627776 < p
  · have t3 : decide ((1099511627776 : Int) < (p : Int)) = true := by simp; omega
    have HF := Lib.hid (UnIs.wrong (l := l) (by unfold find; rw [if_neg h11, HNP.out.1, HNP.out.2, if_pos (.inr hpb)]) (Upd.refl [] w1))
    go_wp2_with fail
    (try simp only [Exit.inBlock, Exit.then])
    refine bodyPost_ret (results_tmp5 rfl _ _ _) rfl ?_
    exact HF.out
  have t3 : decide ((1099511627776 : Int) < (p : Int)) = false := by simp; omega
  by_cases h15 : l.length < 15 + n
  · have t4 : decide ((l.length : Int) < 11 + (n : Int) + 4) = true := by simp; omega
    have HF := Lib.hid (UnIs.torn (l := l) (by unfold find; rw [if_neg h11, HNP.out.1, HNP.out.2, if_neg (by omega), if_pos h15]) (Upd.refl [] w1))
    go_wp2_with fail
    (try simp only [Exit.inBlock, Exit.then])
    refine bodyPost_ret (results_tmp5 rfl _ _ _) rfl ?_
    exact HF.out
  have t4 : decide ((l.length : Int) < 11 + (n : Int) + 4) = false := by simp; omega
  have hH := head_of (by omega) HL.out (by rw [HNP.out.1]; omega)
  rw [HNP.out.1, HNP.out.2, HK.out] at hH
  obtain ⟨body, hbody⟩ : ∃ body, body = (l.drop 11).take n := ⟨_, rfl⟩
  have hbn : body.length = n := by rw [hbody]; simp; omega
  have HBD : Hid (Bytes w1 ok (suba (some ⟨d, o, none⟩) 11 c) body) := Lib.hid (by rw [hbody]; exact suba_bytes HB.out 11 n hc)
  have HBY : Hid (∀ x ∈ body, x < 256) := Lib.hid fun x hx => HL.out x (by rw [hbody] at hx; exact List.mem_of_mem_drop (List.mem_of_mem_take hx))
  obtain ⟨m, hm⟩ : ∃ m, m = l.take (11 + n + 4) := ⟨_, rfl⟩
  have hml : m.length = 11 + n + 4 := by rw [hm]; simp; omega
  have HM : Hid (Bytes w1 ok (suba (some ⟨d, o, none⟩) 0 c) m) := Lib.hid (by rw [hm]; exact suba_to HB.out _ hc)
  rw [← hbody] at hH
  have hfind : ∀ b, (frame x4 p body == m) = b → find l = if b = true then .whole x4 p body else .wrong := by
    intro b hb
    unfold find
    rw [if_neg h11, HNP.out.1, HNP.out.2, if_neg (by omega), if_neg h15, HK.out, ← hbody, ← hb]
    have e1 : m = l.take (11 + n) ++ (l.drop (11 + n)).take 4 := by rw [hm, List.take_add]
    have e2 : frame x4 p body = l.take (11 + n) ++ le4 (crc (l.take (11 + n))) := by rw [← hH]; rfl
    rw [e1, e2]
    simp only [beq_iff_eq, List.append_cancel_left_eq]
    by_cases h : (l.drop (11 + n)).take 4 = le4 (crc (l.take (11 + n)))
    · rw [if_pos h, if_pos h.symm]
    · rw [if_neg h, if_neg (Ne.symm h)]
  have HFIND := Lib.hid hfind
  have HBN := Lib.hid hbn
  have HML := Lib.hid hml
  clear hfind hH hbody hm hbn hml
  obtain ⟨v4, w4, hrun, hown, hg, hv⟩ := append_bytes (P := Try.prog) (w := w1) (base := w1.heap.size) (ty := 22) (c := c - 11) (v := .slice none 0 0) (n := 0) (xs := []) Try.underlying22 hi5 hz0 hz1 hz2 rfl ⟨rfl, .inl ⟨rfl, rfl⟩⟩ HBD.out (by rw [HBN.out]; omega) (Nat.le_refl _)
  have R4 : Hid (Row w1.heap.size w4 v4 body) := Lib.hid (by simpa using Row.mk (o := []) (news := body) hown)
  have U4 : Hid (Upd [] w1 w4) := Lib.hid ((Upd.refl _ _).grown hg (fun k hk => by simp [Value.ownBlock] at hk))
  rw [HBN.out] at hrun
  have HRUN := Lib.hid hrun
  obtain ⟨a4, c4, rfl⟩ := R4.out.shape
  clear hrun hown hg hv
  go_wp2_with (first | (refine wpList_run (o := ⟨some 40, .slice 22 (.tmp 37) (some (.const (.int .i64 11))) (some (.tmp 39)) none, _, _, _, _⟩) rfl (exec_sliceAt (by rfl) (by rfl) (by rfl) (by rfl) (sub_lh HTT.out Try.elem22 hi5 hz1 (lo := 11) (k := n) rfl (by omega) (by omega))) ?_) | (at_builtin; refine wpList_run rfl (exec_append (by rfl) (by rfl) (by rfl) HRUN.out) ?_))
  refine (rframe_any _ (x4 : Int) (p : Int) a4 c4 body w4 (R4.out.bytes HBY.out rfl)).mono ?_
  rintro e w5 ⟨u5, hfr⟩
  have hmay : MayFrame (x4 : Int) (p : Int) body := ⟨by omega, by omega, by omega, by omega, by have := HBN.out; omega⟩
  rcases hfr with ⟨_, v5, rfl, r5⟩ | ⟨hno, _⟩
  rotate_left
  · exact absurd hmay hno
  obtain ⟨fr, hfr⟩ : ∃ fr, fr = frame (x4 : Int).toNat (p : Int).toNat body := ⟨_, rfl⟩
  rw [← hfr] at r5
  have hfr2 : fr = frame x4 p body := hfr
  have HFR := Lib.hid hfr2
  have R5 := Lib.hid r5
  have U5 := Lib.hid (U4.out.trans u5 (by simp))
  have HFB : Hid (∀ x ∈ fr, x < 256) := Lib.hid (by rw [hfr2]; exact frame_byte ⟨by omega, by omega, by have := HBN.out; omega, HBY.out⟩)
  have HFL : Hid (fr.length = 15 + n) := Lib.hid (by rw [hfr2, frame_len, HBN.out])
  have R4' : Hid (Row w1.heap.size w5 (.slice a4 body.length c4) body) := Lib.hid (u5.row R4.out (by simp))
  obtain ⟨a5, c5, rfl⟩ := R5.out.shape
  clear r5 u5 hfr hfr2 hmay
  obtain ⟨bq, hbq⟩ : ∃ b, (fr == m) = b := ⟨_, rfl⟩
  have C6 := same_any _ ok a5 (suba (some ⟨d, o, none⟩) 0 c) c5 c fr m w5 (R5.out.bytes HFB.out rfl) (HM.out.upd U5.out (by simp)) (by have := HFL.out; omega)
  rw [hbq, HML.out] at C6
  have HC6 := Lib.hid C6
  have HBQ : Hid ((frame x4 p body == m) = bq) := Lib.hid (by rw [← HFR.out]; exact hbq)
  clear hbq C6
  rw [HBN.out] at R4'
  try rw [HBN.out]
  go_wp2_with (refine wpList_run (o := ⟨some 54, .slice 22 (.tmp 50) none (some (.tmp 53)) none, _, _, _, _⟩) rfl (exec_sliceAt (by rfl) (by rfl) (by rfl) (by rfl) (sub_h HTT.out Try.elem22 hi5 hz1 (up := 11 + n + 4) (by first | omega | (rw [wrapIn (by omega) (by omega)]; omega)) (by omega))) ?_)
  refine HC6.out.mono ?_
  rintro e w6 ⟨rfl, u6⟩
  have U6 := Lib.hid (U5.out.trans u6 (by simp))
  have R6 : Hid (Row w1.heap.size w6 (.slice a4 n c4) body) := Lib.hid (u6.row R4'.out (by simp))
  clear u6
  cases bq with
  | false =>
    have HF := Lib.hid (UnIs.wrong (by rw [HFIND.out _ HBQ.out]; rfl) U6.out)
    go_wp2_with fail
    (try simp only [Exit.inBlock, Exit.then])
    refine bodyPost_ret (results_tmp5 rfl _ _ _) rfl ?_
    exact HF.out
  | true =>
    have HF : Hid (UnIs l w1 (.returned (.tuple #[.int .i64 (x4 : Int), .int .i64 (p : Int), .slice a4 n c4, .int .i64 (11 + (n : Int) + 4), .int .i64 0])) w6) := Lib.hid (by
      have := UnIs.whole (k := x4) (p := p) (body := body) (by rw [HFIND.out _ HBQ.out]; rfl) U6.out R6.out
      rw [HBN.out] at this
      rwa [show (15 : Int) + (n : Int) = 11 + (n : Int) + 4 by omega] at this)
    go_wp2_with fail
    try rw [wrapIn (x := 11 + (n : Int) + 4) (by omega) (by omega)]
    (try simp only [Exit.inBlock, Exit.then])
    refine bodyPost_ret (results_tmp5 rfl _ _ _) rfl ?_
    exact HF.out
end Go.Proofs.Ythecincpejpmpaa
/- codec's form.res, writing. -/
namespace Go.Proofs.Ythecincpejpmpaa
open Go.RowKit Go.Lb Go.Rc

set_option maxRecDepth 20000 in
set_option maxHeartbeats 2000000 in
theorem res_writes : Writes 83 sRes := by
  intro B X f p q tp pre cs post v o b w h hX hq hp hr hl
  have k0 : (tup [.num, .num]).Rep w (· < B) cs v := hr
  obtain ⟨_, _, v0, y0, _, rfl, ⟨n0, _, rfl⟩, k1⟩ := Sch.Rep.tup_cons k0
  obtain ⟨_, _, v1, y1, _, rfl, ⟨n1, _, rfl⟩, k2⟩ := Sch.Rep.tup_cons k1
  obtain ⟨_, rfl⟩ := Sch.Rep.tup_nil k2
  subst hq
  have H0 := Lib.hid (WrSt.start (rest := ([(.num, .num n0), (.num, .num n1)] : List (Sch × Val))) h hX hp hr (by have := tup_cmax ([(.num, .num n0), (.num, .num n1)] : List (Sch × Val)); rw [← this]; exact hl))
  clear h hX hp hr hl k0 k1 k2
  go_enter Try.func83, Try.ntmps83
  refine wp_region_lex (fun _ => True) 99 [(0, true), (1, true), (2, true), (3, true), (4, true), (5, true), (6, true), (7, false), (8, false)] (by kernel_rfl) (by kernel_rfl) (by kernel_rfl) (by kernel_rfl) (fun _ _ d _ _ h => by cases d <;> exact h) ?_
  simp only [lexOps, List.map_cons, List.map_nil, List.getD_cons_zero, List.getD_cons_succ]
  iterate 7 (refine lex_read rfl trivial (v := ?_) (fun w' _ => ?_) ?_; rotate_left; (focus (go_simp; try with_reducible rfl)); simp only [Act.put, List.setIfInBounds_toArray, List.set_cons_zero, List.set_cons_succ])
  refine lex_do rfl (fun K hK => ?_)
  go_simp
  refine hK _ _ (fun _ => trivial) ?_
  clear hK K
  refine lex_do rfl (fun K hK => ?_)
  go_simp
  refine (CWr.goNums (ns := [n0, n1]) (rest := []) (k := 2) H0.out rfl ((Upd.refl _ _).alloc _).drew (Nat.le_refl _) (Blk.drew (Blk.new _ _ [_, _])) rfl).mono ?_
  rintro e w1 ⟨rfl, o1, b1, h⟩
  have H1 := Lib.hid h
  refine hK _ _ (fun _ => trivial) ?_
  clear hK K h
  refine lex_nil ?_
  go_wp2_with fail
  go_end0
  exact CWr.fin H1.out rfl rfl
end Go.Proofs.Ythecincpejpmpaa
/- codec's form.group, writing. -/
namespace Go.Proofs.Ythecincpejpmpaa
open Go.RowKit Go.Lb Go.Rc

set_option maxRecDepth 20000 in
set_option maxHeartbeats 2000000 in
theorem group_writes : Writes 82 sGroup := by
  intro B X f p q tp pre cs post v o b w h hX hq hp hr hl
  have k0 : (tup [.num, sRes]).Rep w (· < B) cs v := hr
  obtain ⟨_, _, v0, y0, _, rfl, ⟨n0, _, rfl⟩, k1⟩ := Sch.Rep.tup_cons k0
  obtain ⟨_, _, v1, y1, _, rfl, _, k2⟩ := Sch.Rep.tup_cons k1
  obtain ⟨_, rfl⟩ := Sch.Rep.tup_nil k2
  subst hq
  have H0 := Lib.hid (WrSt.start (rest := ([(.num, .num n0), (sRes, v1)] : List (Sch × Val))) h hX hp hr (by have := tup_cmax ([(.num, .num n0), (sRes, v1)] : List (Sch × Val)); rw [← this]; exact hl))
  clear h hX hp hr hl k0 k1 k2
  go_enter Try.func82, Try.ntmps82
  go_wp2_with fail
  refine (CWr.go num_writes H0.out rfl).mono ?_
  rintro e w1 ⟨rfl, o1, b1, h⟩
  have H1 := Lib.hid h
  clear h
  go_wp2_with fail
  refine (CWr.go res_writes H1.out rfl).mono ?_
  rintro e w2 ⟨rfl, o2, b2, h⟩
  have H2 := Lib.hid h
  clear h
  go_wp2_with fail
  go_end0
  exact CWr.fin H2.out rfl rfl
end Go.Proofs.Ythecincpejpmpaa
/- codec's list[Group], writing. -/
namespace Go.Proofs.Ythecincpejpmpaa
open Go.RowKit Go.Lb Go.Rc

set_option maxRecDepth 20000 in
set_option maxHeartbeats 2000000 in
theorem listGroup_writes : LWrites 81 82 sGroup := by
  intro B X f p q tp pre cs post v o b w h hX hq hp hr hl
  obtain ⟨a, c, l, rfl, rfl, hall⟩ := hr
  have HA : Hid (Elems w (· < B) sGroup 3 a l) := Lib.hid hall
  subst hq
  have H := Lib.hid h
  have HL := Lib.hid hl
  have HX := Lib.hid hX
  have HP := Lib.hid hp
  have hl1 : o.length + 6 ≤ 225000000000000 := by simp only [Sch.cmax] at hl; omega
  have c0 := hp.cell (o := pre.length) mid_at
  have hB := h.base
  clear h hX hall hl hp
  go_enter Try.func81, Try.ntmps81
  go_wp2_with fail
  refine (many_w B X f l.length 64 o b _ H.out hl1 (by decide)).mono ?_
  rintro e w1 ⟨r, o1, b1, rfl, h1, h2, h3⟩
  obtain ⟨m2, m3, m4, m5⟩ := fw_mark h1
  have p0 := (h2.blk HP.out (.inr HX.out)).cell (o := pre.length) mid_at
  have H1 := Lib.hid h1
  have H2 := Lib.hid h2
  have H3 : Hid (LCk sGroup l.length [] o b o1 b1) := Lib.hid (LCk.start h3)
  clear h1 h2 h3
  go_wp2_with fail
  go_loopg [7, 8, 25] l.length (fun g u v t wr => ∃ (i : Nat) (o' : List Nat) (b' : Bool), t = .int .i64 i ∧ l.length - i = g ∧ i ≤ l.length ∧ Fw B X wr f o' b' ∧ Kp B X w wr ∧ LCk sGroup l.length (l.take i) o b o' b')
  case atStart => exact ⟨0, o1, b1, rfl, rfl, by omega, H1.out, H2.out, H3.out⟩
  case round =>
    obtain ⟨i, o', b', rfl, hg, hi, hF, hK, hW⟩ := hrel
    have HG := Lib.hid hg
    have HF := Lib.hid hF
    have HK := Lib.hid hK
    have HW := Lib.hid hW
    obtain ⟨n2, n3, n4, n5⟩ := fw_mark hF
    have r0 := (hK.blk HP.out (.inr HX.out)).cell (o := pre.length) mid_at
    clear hg hF hK hW m2 m3 m4 m5 p0
    by_cases hlt : i < l.length
    · have t1 : decide (i < l.length) = true := by simpa using hlt
      cases b' with
      | true =>
        have HE := Lib.hid HW.out.early
        go_wp2_with fail
        go_end0
        exact ⟨rfl, o', true, HF.out, HK.out, HE.out⟩
      | false =>
      obtain ⟨x, hx⟩ : ∃ x, l[i]? = some x := ⟨_, List.getElem?_eq_getElem hlt⟩
      obtain ⟨b0, o0, us, rfl, hb0, hbl, hrg, hrep⟩ := HA.out i x hx
      have hrep := hrep.keep (ok' := (· < B)) (fun k hk hl => ⟨hk, HK.out.block k hl (.inl hk)⟩) HK.out.size
      have hrg : wr.rangeAt b0 (o0 + i * 3) us := rangeAt_keep hrg (HK.out.block b0 hbl (.inl hb0))
      have h64 : l.length ≤ 64 := HW.out.short
      have hwl := HW.out.room h64 hx HL.out
      have HWL := Lib.hid hwl
      have Hx := Lib.hid hx
      have hus : us.length = 3 := hrep.len
      have HONE : Hid (∀ u ∈ us, u.oneCell' = true) := Lib.hid hrep.one
      clear hx hwl
      have HREP := Lib.hid hrep
      have HRG := Lib.hid hrg
      clear hrep hrg
      go_wp2_with (first | (refine wpList_load_mid rfl 178 (.tmp 36) rfl b0 (o0 + i * 3) rfl us _ HRG.out Try.underlying178 rfl (by rw [hus]; exact Try.size178) ?_) | (refine wpList_alloc_blk rfl 178 rfl sGroup.zc (zero178 _) ?_; intro wA hbA huA) | (refine wpList_store_blk (o := ⟨none, .store 178 (.tmp 8) (.tmp 37), _, _, _, _⟩) rfl 178 (.tmp 8) (.tmp 37) rfl wr.heap.size us rfl rfl hbA (by rw [hus]; exact Try.size178) (by rw [hus]; rfl) HONE.out ?_; intro wB hb huB))
      have hu : Upd [] wr wB := huA.trans huB (by simp)
      clear huA hbA huB
      refine (group_writes B (wr.heap.size :: X) f wr.heap.size 0 178 [] us [] x o' false wB (HF.out.new hu (Nat.le_refl _) hb.lt) (by simp) rfl (by simpa using hb) (HREP.out.upd hu (by simp)) HWL.out).mono ?_
      rintro e w2 ⟨rfl, o2, b2, h1, h2, h3⟩
      have H1 := Lib.hid h1.less
      have H2 := Lib.hid ((Kp.of_nil hu).trans h2.drop)
      have H3 := Lib.hid (HW.out.snoc h64 h3)
      clear h1 h2 h3
      go_wp2_with fail
      go_roundg (l.length - (i + 1))
      case measure => have := HG.out; omega
      case rel => exact ⟨i + 1, o2, b2, by go_num, rfl, by omega, H1.out, HK.out.trans H2.out, by rw [take_snoc Hx.out]; exact H3.out⟩
    · obtain rfl : i = l.length := by omega
      go_wp2_with fail
      go_end0
      refine ⟨rfl, o', b', HF.out, HK.out, LCk.fin ?_⟩
      have := HW.out
      rwa [List.take_length] at this
end Go.Proofs.Ythecincpejpmpaa
/- codec's form.flag and form.code, writing and reading. -/
namespace Go.Proofs.Ythecincpejpmpaa
open Go.RowKit Go.Lb Go.Rc

set_option maxRecDepth 20000 in
set_option maxHeartbeats 1000000 in
theorem flag_writes : Writes 65 .flag := by
  intro B X f p q tp pre cs post v o b w h hX hq hp hr hl
  obtain ⟨t, rfl, rfl⟩ := hr
  subst hq
  simp only [Sch.cmax] at hl
  obtain ⟨n, hn⟩ : ∃ n : Int, n = if t then 1 else 0 := ⟨_, rfl⟩
  have hN := h.new ((Upd.refl [] w).alloc (.cells #[.int .i64 n] 3)) (x := w.heap.size) (Nat.le_refl _) (by simp)
  have HN := Lib.hid hN
  have HPb := Lib.hid (hp.alloc (.cells #[.int .i64 n] 3))
  have Hfresh := Lib.hid h.fresh
  have k0 := hp.cell (o := pre.length) mid_at
  have hB := h.base
  have hplt := hp.lt
  have HX := Lib.hid hX
  clear h hN hp hX
  cases t
  all_goals
    simp only [if_true, Bool.false_eq_true, if_false] at hn
    subst hn
    go_enter Try.func65, Try.ntmps65
    go_wp2_with fail
    refine (num_w B (w.heap.size :: X) f _ _ _ o b _ HN.out ((Blk.new w 3 [.int .i64 _]).cell rfl) hl).mono ?_
    rintro e w1 ⟨rfl, o', b', h1, h2, h3⟩
    have hbn := h2.blk (Blk.new w 3 [.int .i64 _]) (.inr (by simp))
    have c0 := hbn.cell (o := 0) rfl
    have hbp := h2.blk HPb.out (.inr (by simp [HX.out]))
    have p0 := hbp.cell (o := pre.length) mid_at
    have pz := hbp.frozen pre.length
    have plt := hbp.lt
    obtain ⟨m2, m3, _, m5⟩ := fw_mark h1
    have HM := Lib.hid (out_mark (i := 2) (fun _ _ _ => rfl) h1.less b')
    have hK : Kp B X w w1 := (Kp.of_nil ((Upd.refl [] w).alloc _)).trans h2.drop
    have HK := Lib.hid hK
    have H3 := Lib.hid h3
    have hpf : p ≠ f := by
      rintro rfl
      obtain ⟨hX1, v1, hh, hs⟩ := h1
      exact (hs p (by simp)).2.1 (by simp [HX.out])
    have hpf' : f ≠ p := Ne.symm hpf
    have HS := Lib.hid (setCell_same (hbp.other (a := ⟨f, 2, none⟩) hpf (.bool b')) (o := pre.length) mid_at)
    first
      | have HF := Lib.hid (show WrPost .flag B X f (.flag true) o b w (.returned (.tuple #[])) (w1.setCell ⟨f, 2, none⟩ (.bool b')) from ⟨rfl, o', b', HM.out.1, HK.out.trans HM.out.2, ⟨by rw [H3.out.bad]; simp [Sch.good, maxN], H3.out.out, H3.out.len⟩⟩)
      | have HF := Lib.hid (show WrPost .flag B X f (.flag false) o b w (.returned (.tuple #[])) (w1.setCell ⟨f, 2, none⟩ (.bool b')) from ⟨rfl, o', b', HM.out.1, HK.out.trans HM.out.2, ⟨by rw [H3.out.bad]; simp [Sch.good, maxN], H3.out.out, H3.out.len⟩⟩)
    clear h1 h2 h3 hbn hK hbp
    cases b'
    all_goals
      go_wp2_with fail
      go_end0
      first | (rw [HS.out]; exact HF.out) | exact HF.out

/-- The get of a flag, by the number's. -/
theorem flag_get {l : List Nat} : Sch.flag.get l = match nget l with
    | none => none
    | some (n, r) => if n = 0 then some (.flag false, r) else if n = 1 then some (.flag true, r) else none := rfl
theorem flag_rd {l l' : List Nat} {b b' : Bool} {n : Int} (h : ROk nget l b n l' b') : Sch.flag.Rd l b (.flag (n == 1)) l' (b' || decide (n < 0) || decide (1 < n)) := by
  constructor
  · intro e
    simp only [Bool.or_eq_false_iff, decide_eq_false_iff_not] at e
    obtain ⟨⟨e1, e2⟩, e3⟩ := e
    obtain ⟨g1, g2⟩ := h.good e1
    refine ⟨g1, ?_⟩
    rw [flag_get, g2]
    have : n = 0 ∨ n = 1 := by omega
    rcases this with rfl | rfl <;> simp
  · intro e
    cases b' with
    | true => exact (h.bad rfl).imp id fun k => by rw [flag_get, k]
    | false =>
      right
      obtain ⟨g1, g2⟩ := h.good rfl
      simp only [Bool.or_eq_true, decide_eq_true_eq, Bool.false_eq_true, false_or] at e
      rw [flag_get, g2]
      dsimp only
      rw [if_neg (by omega), if_neg (by omega)]

set_option maxRecDepth 20000 in
set_option maxHeartbeats 1000000 in
theorem flag_reads : Reads 65 .flag := by
  intro B f p q tp pre post l b w h hB hpf hq hp
  subst hq
  obtain ⟨_, _, _, hf, hBf⟩ := fr_mark h
  have HN := Lib.hid (h.upd ((Upd.refl [] w).alloc (.cells #[.int .i64 0] 3)) (by simp))
  have HPb := Lib.hid (hp.alloc (.cells #[.int .i64 0] 3))
  have k0 := hp.cell (o := pre.length) mid_at
  have hplt := hp.lt
  clear h hp
  go_enter Try.func65, Try.ntmps65
  go_wp2_with fail
  refine (num_r' B f w.heap.size 0 3 (.int .i64 0) [] [] l b _ HN.out (by omega) (by omega) rfl (Blk.new w _ _)).mono ?_
  rintro e w1 ⟨rfl, n, l', b', h1, h2, h3, h4⟩
  have c0 := h3.cell (o := 0) rfl
  have hbp := h2.blk HPb.out (by simp; omega)
  have p0 := hbp.cell (o := pre.length) mid_at
  have pz := hbp.frozen pre.length
  have plt := hbp.lt
  obtain ⟨m2, m3, _, m5, _⟩ := fr_mark h1
  have hpf' : f ≠ p := Ne.symm hpf
  have HF : Hid (∀ r : Bool, r = (b' || decide (n < 0) || decide (1 < n)) → RdPost .flag B f p tp pre post l b w (.returned (.tuple #[])) ((w1.setCell ⟨f, 2, none⟩ (.bool r)).setCell ⟨p, pre.length, none⟩ (.bool (n == 1)))) := by
    refine Lib.hid fun r hr => ?_
    obtain ⟨g1, g2⟩ := fr_set h1 r
    have uS : Upd [p] (w1.setCell ⟨f, 2, none⟩ (.bool r)) ((w1.setCell ⟨f, 2, none⟩ (.bool r)).setCell ⟨p, pre.length, none⟩ (.bool (n == 1))) := (Upd.refl _ _).setCell (by simp) _
    refine ⟨rfl, .flag (n == 1), [.bool (n == 1)], l', r, g1.upd uS (fun k hk => ?_), ?_, ?_, Sch.Rep.flag_mk _, by rw [hr]; exact flag_rd h4⟩
    · simp at hk; subst hk; exact ⟨hpf, hB⟩
    · have hu : Upd [f, p] w w1 := ((Upd.refl [f, p] w).alloc _).trans h2 (by intro x hx; simp at hx; rcases hx with rfl | rfl; simp; right; exact Nat.le_refl _)
      exact (hu.trans g2 (by simp)).trans uS (by simp)
    · have := (g2.blk hbp (by simpa using hpf)).set pre.length (.bool (n == 1))
      simpa [Sch.zc] using this
  clear h1 h2 h3 h4 hbp
  cases b' with
  | true =>
    have HG := Lib.hid (HF.out true (by simp))
    clear HF
    go_wp2_with fail
    go_end0
    exact HG.out
  | false =>
    by_cases hn : n < 0
    · have t1 : decide (n < 0) = true := by simpa using hn
      have HG := Lib.hid (HF.out true (by simp [t1]))
      clear HF hn
      go_wp2_with fail
      go_end0
      exact HG.out
    · have t1 : decide (n < 0) = false := by simpa using hn
      by_cases hn2 : 1 < n
      · have t2 : decide (1 < n) = true := by simpa using hn2
        have HG := Lib.hid (HF.out true (by simp [t2]))
        clear HF hn hn2
        go_wp2_with fail
        go_end0
        exact HG.out
      · have t2 : decide (1 < n) = false := by simpa using hn2
        have HG := Lib.hid (HF.out false (by simp [t1, t2]))
        clear HF hn hn2
        go_wp2_with fail
        go_end0
        exact HG.out
end Go.Proofs.Ythecincpejpmpaa
/- codec's form.job, writing. -/
namespace Go.Proofs.Ythecincpejpmpaa
open Go.RowKit Go.Lb Go.Rc

set_option maxRecDepth 20000 in
set_option maxHeartbeats 2000000 in
theorem job_writes : Writes 51 sJob := by
  intro B X f p q tp pre cs post v o b w h hX hq hp hr hl
  have k0 : (tup [.num, .num, .num, .num, .list sGroup, .num, .flag]).Rep w (· < B) cs v := hr
  obtain ⟨_, _, v0, y0, _, rfl, ⟨n0, _, rfl⟩, k1⟩ := Sch.Rep.tup_cons k0
  obtain ⟨_, _, v1, y1, _, rfl, ⟨n1, _, rfl⟩, k2⟩ := Sch.Rep.tup_cons k1
  obtain ⟨_, _, v2, y2, _, rfl, ⟨n2, _, rfl⟩, k3⟩ := Sch.Rep.tup_cons k2
  obtain ⟨_, _, v3, y3, _, rfl, ⟨n3, _, rfl⟩, k4⟩ := Sch.Rep.tup_cons k3
  obtain ⟨_, _, v4, y4, _, rfl, _, k5⟩ := Sch.Rep.tup_cons k4
  obtain ⟨_, _, v5, y5, _, rfl, ⟨n5, _, rfl⟩, k6⟩ := Sch.Rep.tup_cons k5
  obtain ⟨_, _, v6, y6, _, rfl, _, k7⟩ := Sch.Rep.tup_cons k6
  obtain ⟨_, rfl⟩ := Sch.Rep.tup_nil k7
  subst hq
  have H0 := Lib.hid (WrSt.start (rest := ([(.num, .num n0), (.num, .num n1), (.num, .num n2), (.num, .num n3), (.list sGroup, v4), (.num, .num n5), (.flag, v6)] : List (Sch × Val))) h hX hp hr (by have := tup_cmax ([(.num, .num n0), (.num, .num n1), (.num, .num n2), (.num, .num n3), (.list sGroup, v4), (.num, .num n5), (.flag, v6)] : List (Sch × Val)); rw [← this]; exact hl))
  clear h hX hp hr hl k0 k1 k2 k3 k4 k5 k6 k7
  go_enter Try.func51, Try.ntmps51
  go_wp2_with fail
  refine wp_region_lex (fun _ => True) 99 [(0, true), (1, true), (2, true), (3, true), (4, true), (5, true), (6, true), (7, true), (8, true), (9, true), (10, true), (11, true), (12, true), (13, false), (14, false)] (by kernel_rfl) (by kernel_rfl) (by kernel_rfl) (by kernel_rfl) (fun _ _ d _ _ h => by cases d <;> exact h) ?_
  simp only [lexOps, List.map_cons, List.map_nil, List.getD_cons_zero, List.getD_cons_succ]
  iterate 13 (refine lex_read rfl trivial (v := ?_) (fun w' _ => ?_) ?_; rotate_left; (focus (go_simp; try with_reducible rfl)); simp only [Act.put, List.setIfInBounds_toArray, List.set_cons_zero, List.set_cons_succ])
  refine lex_do rfl (fun K hK => ?_)
  go_simp
  refine hK _ _ (fun _ => trivial) ?_
  clear hK K
  refine lex_do rfl (fun K hK => ?_)
  go_simp
  refine (CWr.goNums (ns := [n0, n1, n2, n3]) (rest := [(.list sGroup, v4), (.num, .num n5), (.flag, v6)]) (k := 4) H0.out rfl ((Upd.refl _ _).alloc _).drew (Nat.le_refl _) (Blk.drew (Blk.new _ _ [_, _, _, _])) rfl).mono ?_
  rintro e w1 ⟨rfl, o1, b1, h⟩
  have H1 := Lib.hid h
  refine hK _ _ (fun _ => trivial) ?_
  clear hK K h
  refine lex_nil ?_
  go_wp2_with fail
  refine (CWr.goList listGroup_writes H1.out rfl).mono ?_
  rintro e w2 ⟨rfl, o2, b2, h⟩
  have H2 := Lib.hid h
  clear h
  go_wp2_with fail
  refine (CWr.go num_writes H2.out rfl).mono ?_
  rintro e w3 ⟨rfl, o3, b3, h⟩
  have H3 := Lib.hid h
  clear h
  go_wp2_with fail
  refine (CWr.go flag_writes H3.out rfl).mono ?_
  rintro e w4 ⟨rfl, o4, b4, h⟩
  have H4 := Lib.hid h
  clear h
  go_wp2_with fail
  go_end0
  exact CWr.fin H4.out rfl rfl
end Go.Proofs.Ythecincpejpmpaa
/- codec's form.node, writing. -/
namespace Go.Proofs.Ythecincpejpmpaa
open Go.RowKit Go.Lb Go.Rc

set_option maxRecDepth 20000 in
set_option maxHeartbeats 2000000 in
theorem node_writes : Writes 52 sNode := by
  intro B X f p q tp pre cs post v o b w h hX hq hp hr hl
  have k0 : (tup [.num, sRes, .flag, .flag, .num, .num, .num]).Rep w (· < B) cs v := hr
  obtain ⟨_, _, v0, y0, _, rfl, ⟨n0, _, rfl⟩, k1⟩ := Sch.Rep.tup_cons k0
  obtain ⟨_, _, v1, y1, _, rfl, _, k2⟩ := Sch.Rep.tup_cons k1
  obtain ⟨_, _, v2, y2, _, rfl, _, k3⟩ := Sch.Rep.tup_cons k2
  obtain ⟨_, _, v3, y3, _, rfl, _, k4⟩ := Sch.Rep.tup_cons k3
  obtain ⟨_, _, v4, y4, _, rfl, ⟨n4, _, rfl⟩, k5⟩ := Sch.Rep.tup_cons k4
  obtain ⟨_, _, v5, y5, _, rfl, ⟨n5, _, rfl⟩, k6⟩ := Sch.Rep.tup_cons k5
  obtain ⟨_, _, v6, y6, _, rfl, ⟨n6, _, rfl⟩, k7⟩ := Sch.Rep.tup_cons k6
  obtain ⟨_, rfl⟩ := Sch.Rep.tup_nil k7
  subst hq
  have H0 := Lib.hid (WrSt.start (rest := ([(.num, .num n0), (sRes, v1), (.flag, v2), (.flag, v3), (.num, .num n4), (.num, .num n5), (.num, .num n6)] : List (Sch × Val))) h hX hp hr (by have := tup_cmax ([(.num, .num n0), (sRes, v1), (.flag, v2), (.flag, v3), (.num, .num n4), (.num, .num n5), (.num, .num n6)] : List (Sch × Val)); rw [← this]; exact hl))
  clear h hX hp hr hl k0 k1 k2 k3 k4 k5 k6 k7
  go_enter Try.func52, Try.ntmps52
  go_wp2_with fail
  refine (CWr.go num_writes H0.out rfl).mono ?_
  rintro e w1 ⟨rfl, o1, b1, h⟩
  have H1 := Lib.hid h
  clear h
  go_wp2_with fail
  refine (CWr.go res_writes H1.out rfl).mono ?_
  rintro e w2 ⟨rfl, o2, b2, h⟩
  have H2 := Lib.hid h
  clear h
  go_wp2_with fail
  refine (CWr.go flag_writes H2.out rfl).mono ?_
  rintro e w3 ⟨rfl, o3, b3, h⟩
  have H3 := Lib.hid h
  clear h
  go_wp2_with fail
  refine (CWr.go flag_writes H3.out rfl).mono ?_
  rintro e w4 ⟨rfl, o4, b4, h⟩
  have H4 := Lib.hid h
  clear h
  go_wp2_with fail
  refine wp_region_lex (fun _ => True) 99 [(0, true), (1, true), (2, true), (3, true), (4, true), (5, true), (6, true), (7, true), (8, true), (9, true), (10, false), (11, false)] (by kernel_rfl) (by kernel_rfl) (by kernel_rfl) (by kernel_rfl) (fun _ _ d _ _ h => by cases d <;> exact h) ?_
  simp only [lexOps, List.map_cons, List.map_nil, List.getD_cons_zero, List.getD_cons_succ]
  iterate 10 (refine lex_read rfl trivial (v := ?_) (fun w' _ => ?_) ?_; rotate_left; (focus (go_simp; try with_reducible rfl)); simp only [Act.put, List.setIfInBounds_toArray, List.set_cons_zero, List.set_cons_succ])
  refine lex_do rfl (fun K hK => ?_)
  go_simp
  refine hK _ _ (fun _ => trivial) ?_
  clear hK K
  refine lex_do rfl (fun K hK => ?_)
  go_simp
  refine (CWr.goNums (ns := [n4, n5, n6]) (rest := []) (k := 3) H4.out rfl ((Upd.refl _ _).alloc _).drew (Nat.le_refl _) (Blk.drew (Blk.new _ _ [_, _, _])) rfl).mono ?_
  rintro e w5 ⟨rfl, o5, b5, h⟩
  have H5 := Lib.hid h
  refine hK _ _ (fun _ => trivial) ?_
  clear hK K h
  refine lex_nil ?_
  go_wp2_with fail
  go_end0
  exact CWr.fin H5.out rfl rfl
end Go.Proofs.Ythecincpejpmpaa
/- codec's form.report, writing. -/
namespace Go.Proofs.Ythecincpejpmpaa
open Go.RowKit Go.Lb Go.Rc

set_option maxRecDepth 20000 in
set_option maxHeartbeats 2000000 in
theorem report_writes : Writes 54 sReport := by
  intro B X f p q tp pre cs post v o b w h hX hq hp hr hl
  have k0 : (tup [.num, .num]).Rep w (· < B) cs v := hr
  obtain ⟨_, _, v0, y0, _, rfl, ⟨n0, _, rfl⟩, k1⟩ := Sch.Rep.tup_cons k0
  obtain ⟨_, _, v1, y1, _, rfl, ⟨n1, _, rfl⟩, k2⟩ := Sch.Rep.tup_cons k1
  obtain ⟨_, rfl⟩ := Sch.Rep.tup_nil k2
  subst hq
  have H0 := Lib.hid (WrSt.start (rest := ([(.num, .num n0), (.num, .num n1)] : List (Sch × Val))) h hX hp hr (by have := tup_cmax ([(.num, .num n0), (.num, .num n1)] : List (Sch × Val)); rw [← this]; exact hl))
  clear h hX hp hr hl k0 k1 k2
  go_enter Try.func54, Try.ntmps54
  refine wp_region_lex (fun _ => True) 99 [(0, true), (1, true), (2, true), (3, true), (4, true), (5, true), (6, true), (7, false), (8, false)] (by kernel_rfl) (by kernel_rfl) (by kernel_rfl) (by kernel_rfl) (fun _ _ d _ _ h => by cases d <;> exact h) ?_
  simp only [lexOps, List.map_cons, List.map_nil, List.getD_cons_zero, List.getD_cons_succ]
  iterate 7 (refine lex_read rfl trivial (v := ?_) (fun w' _ => ?_) ?_; rotate_left; (focus (go_simp; try with_reducible rfl)); simp only [Act.put, List.setIfInBounds_toArray, List.set_cons_zero, List.set_cons_succ])
  refine lex_do rfl (fun K hK => ?_)
  go_simp
  refine hK _ _ (fun _ => trivial) ?_
  clear hK K
  refine lex_do rfl (fun K hK => ?_)
  go_simp
  refine (CWr.goNums (ns := [n0, n1]) (rest := []) (k := 2) H0.out rfl ((Upd.refl _ _).alloc _).drew (Nat.le_refl _) (Blk.drew (Blk.new _ _ [_, _])) rfl).mono ?_
  rintro e w1 ⟨rfl, o1, b1, h⟩
  have H1 := Lib.hid h
  refine hK _ _ (fun _ => trivial) ?_
  clear hK K h
  refine lex_nil ?_
  go_wp2_with fail
  go_end0
  exact CWr.fin H1.out rfl rfl
end Go.Proofs.Ythecincpejpmpaa
/- codec's list[Report], writing. -/
namespace Go.Proofs.Ythecincpejpmpaa
open Go.RowKit Go.Lb Go.Rc

set_option maxRecDepth 20000 in
set_option maxHeartbeats 2000000 in
theorem listReport_writes : LWrites 53 54 sReport := by
  intro B X f p q tp pre cs post v o b w h hX hq hp hr hl
  obtain ⟨a, c, l, rfl, rfl, hall⟩ := hr
  have HA : Hid (Elems w (· < B) sReport 2 a l) := Lib.hid hall
  subst hq
  have H := Lib.hid h
  have HL := Lib.hid hl
  have HX := Lib.hid hX
  have HP := Lib.hid hp
  have hl1 : o.length + 6 ≤ 225000000000000 := by simp only [Sch.cmax] at hl; omega
  have c0 := hp.cell (o := pre.length) mid_at
  have hB := h.base
  clear h hX hall hl hp
  go_enter Try.func53, Try.ntmps53
  go_wp2_with fail
  refine (many_w B X f l.length 64 o b _ H.out hl1 (by decide)).mono ?_
  rintro e w1 ⟨r, o1, b1, rfl, h1, h2, h3⟩
  obtain ⟨m2, m3, m4, m5⟩ := fw_mark h1
  have p0 := (h2.blk HP.out (.inr HX.out)).cell (o := pre.length) mid_at
  have H1 := Lib.hid h1
  have H2 := Lib.hid h2
  have H3 : Hid (LCk sReport l.length [] o b o1 b1) := Lib.hid (LCk.start h3)
  clear h1 h2 h3
  go_wp2_with fail
  go_loopg [7, 8, 25] l.length (fun g u v t wr => ∃ (i : Nat) (o' : List Nat) (b' : Bool), t = .int .i64 i ∧ l.length - i = g ∧ i ≤ l.length ∧ Fw B X wr f o' b' ∧ Kp B X w wr ∧ LCk sReport l.length (l.take i) o b o' b')
  case atStart => exact ⟨0, o1, b1, rfl, rfl, by omega, H1.out, H2.out, H3.out⟩
  case round =>
    obtain ⟨i, o', b', rfl, hg, hi, hF, hK, hW⟩ := hrel
    have HG := Lib.hid hg
    have HF := Lib.hid hF
    have HK := Lib.hid hK
    have HW := Lib.hid hW
    obtain ⟨n2, n3, n4, n5⟩ := fw_mark hF
    have r0 := (hK.blk HP.out (.inr HX.out)).cell (o := pre.length) mid_at
    clear hg hF hK hW m2 m3 m4 m5 p0
    by_cases hlt : i < l.length
    · have t1 : decide (i < l.length) = true := by simpa using hlt
      cases b' with
      | true =>
        have HE := Lib.hid HW.out.early
        go_wp2_with fail
        go_end0
        exact ⟨rfl, o', true, HF.out, HK.out, HE.out⟩
      | false =>
      obtain ⟨x, hx⟩ : ∃ x, l[i]? = some x := ⟨_, List.getElem?_eq_getElem hlt⟩
      obtain ⟨b0, o0, us, rfl, hb0, hbl, hrg, hrep⟩ := HA.out i x hx
      have hrep := hrep.keep (ok' := (· < B)) (fun k hk hl => ⟨hk, HK.out.block k hl (.inl hk)⟩) HK.out.size
      have hrg : wr.rangeAt b0 (o0 + i * 2) us := rangeAt_keep hrg (HK.out.block b0 hbl (.inl hb0))
      have h64 : l.length ≤ 64 := HW.out.short
      have hwl := HW.out.room h64 hx HL.out
      have HWL := Lib.hid hwl
      have Hx := Lib.hid hx
      have hus : us.length = 2 := hrep.len
      have HONE : Hid (∀ u ∈ us, u.oneCell' = true) := Lib.hid hrep.one
      clear hx hwl
      have HREP := Lib.hid hrep
      have HRG := Lib.hid hrg
      clear hrep hrg
      go_wp2_with (first | (refine wpList_load_mid rfl 123 (.tmp 36) rfl b0 (o0 + i * 2) rfl us _ HRG.out Try.underlying123 rfl (by rw [hus]; exact Try.size123) ?_) | (refine wpList_alloc_blk rfl 123 rfl sReport.zc (zero123 _) ?_; intro wA hbA huA) | (refine wpList_store_blk (o := ⟨none, .store 123 (.tmp 8) (.tmp 37), _, _, _, _⟩) rfl 123 (.tmp 8) (.tmp 37) rfl wr.heap.size us rfl rfl hbA (by rw [hus]; exact Try.size123) (by rw [hus]; rfl) HONE.out ?_; intro wB hb huB))
      have hu : Upd [] wr wB := huA.trans huB (by simp)
      clear huA hbA huB
      refine (report_writes B (wr.heap.size :: X) f wr.heap.size 0 123 [] us [] x o' false wB (HF.out.new hu (Nat.le_refl _) hb.lt) (by simp) rfl (by simpa using hb) (HREP.out.upd hu (by simp)) HWL.out).mono ?_
      rintro e w2 ⟨rfl, o2, b2, h1, h2, h3⟩
      have H1 := Lib.hid h1.less
      have H2 := Lib.hid ((Kp.of_nil hu).trans h2.drop)
      have H3 := Lib.hid (HW.out.snoc h64 h3)
      clear h1 h2 h3
      go_wp2_with fail
      go_roundg (l.length - (i + 1))
      case measure => have := HG.out; omega
      case rel => exact ⟨i + 1, o2, b2, by go_num, rfl, by omega, H1.out, HK.out.trans H2.out, by rw [take_snoc Hx.out]; exact H3.out⟩
    · obtain rfl : i = l.length := by omega
      go_wp2_with fail
      go_end0
      refine ⟨rfl, o', b', HF.out, HK.out, LCk.fin ?_⟩
      have := HW.out
      rwa [List.take_length] at this
end Go.Proofs.Ythecincpejpmpaa
/- codec's list[int], writing. -/
namespace Go.Proofs.Ythecincpejpmpaa
open Go.RowKit Go.Lb Go.Rc

set_option maxRecDepth 20000 in
set_option maxHeartbeats 2000000 in
theorem listint_writes : LWrites 85 80 .num := by
  intro B X f p q tp pre cs post v o b w h hX hq hp hr hl
  obtain ⟨a, c, l, rfl, rfl, hall⟩ := hr
  have HA : Hid (Elems w (· < B) .num 1 a l) := Lib.hid hall
  subst hq
  have H := Lib.hid h
  have HL := Lib.hid hl
  have HX := Lib.hid hX
  have HP := Lib.hid hp
  have hl1 : o.length + 6 ≤ 225000000000000 := by simp only [Sch.cmax] at hl; omega
  have c0 := hp.cell (o := pre.length) mid_at
  have hB := h.base
  clear h hX hall hl hp
  go_enter Try.func85, Try.ntmps85
  go_wp2_with fail
  refine (many_w B X f l.length 64 o b _ H.out hl1 (by decide)).mono ?_
  rintro e w1 ⟨r, o1, b1, rfl, h1, h2, h3⟩
  obtain ⟨m2, m3, m4, m5⟩ := fw_mark h1
  have p0 := (h2.blk HP.out (.inr HX.out)).cell (o := pre.length) mid_at
  have H1 := Lib.hid h1
  have H2 := Lib.hid h2
  have H3 : Hid (LCk .num l.length [] o b o1 b1) := Lib.hid (LCk.start h3)
  clear h1 h2 h3
  go_wp2_with fail
  go_loopg [7, 8, 25] l.length (fun g u v t wr => ∃ (i : Nat) (o' : List Nat) (b' : Bool), t = .int .i64 i ∧ l.length - i = g ∧ i ≤ l.length ∧ Fw B X wr f o' b' ∧ Kp B X w wr ∧ LCk .num l.length (l.take i) o b o' b')
  case atStart => exact ⟨0, o1, b1, rfl, rfl, by omega, H1.out, H2.out, H3.out⟩
  case round =>
    obtain ⟨i, o', b', rfl, hg, hi, hF, hK, hW⟩ := hrel
    have HG := Lib.hid hg
    have HF := Lib.hid hF
    have HK := Lib.hid hK
    have HW := Lib.hid hW
    obtain ⟨n2, n3, n4, n5⟩ := fw_mark hF
    have r0 := (hK.blk HP.out (.inr HX.out)).cell (o := pre.length) mid_at
    clear hg hF hK hW m2 m3 m4 m5 p0
    by_cases hlt : i < l.length
    · have t1 : decide (i < l.length) = true := by simpa using hlt
      cases b' with
      | true =>
        have HE := Lib.hid HW.out.early
        go_wp2_with fail
        go_end0
        exact ⟨rfl, o', true, HF.out, HK.out, HE.out⟩
      | false =>
      obtain ⟨x, hx⟩ : ∃ x, l[i]? = some x := ⟨_, List.getElem?_eq_getElem hlt⟩
      obtain ⟨b0, o0, us, rfl, hb0, hbl, hrg, hrep⟩ := HA.out i x hx
      have hrep := hrep.keep (ok' := (· < B)) (fun k hk hl => ⟨hk, HK.out.block k hl (.inl hk)⟩) HK.out.size
      have hrg : wr.rangeAt b0 (o0 + i * 1) us := rangeAt_keep hrg (HK.out.block b0 hbl (.inl hb0))
      have h64 : l.length ≤ 64 := HW.out.short
      have hwl := HW.out.room h64 hx HL.out
      have HWL := Lib.hid hwl
      have Hx := Lib.hid hx
      have hus : us.length = 1 := hrep.len
      have HONE : Hid (∀ u ∈ us, u.oneCell' = true) := Lib.hid hrep.one
      clear hx hwl
      obtain ⟨nn, rfl, rfl⟩ := hrep
      have e0 := hrg 0 _ rfl
      rw [Nat.mul_one, Nat.add_zero] at e0
      have hrep : Sch.num.Rep wr (· < B) [.int .i64 nn] (.num nn) := Sch.Rep.num_mk nn
      have HREP := Lib.hid hrep
      have HRG := Lib.hid hrg
      clear hrep hrg
      go_wp2_with fail
      generalize hwB : World.alloc _ _ = wB
      have hb : Blk wB wr.heap.size 3 [.int .i64 nn] := by subst hwB; exact Blk.new _ _ _
      have hu : Upd [] wr wB := by subst hwB; exact (Upd.refl _ _).alloc _
      refine (num_writes B (wr.heap.size :: X) f wr.heap.size 0 3 [] [.int .i64 nn] [] (.num nn) o' false wB (HF.out.new hu (Nat.le_refl _) hb.lt) (by simp) rfl (by simpa using hb) (HREP.out.upd hu (by simp)) HWL.out).mono ?_
      rintro e w2 ⟨rfl, o2, b2, h1, h2, h3⟩
      have H1 := Lib.hid h1.less
      have H2 := Lib.hid ((Kp.of_nil hu).trans h2.drop)
      have H3 := Lib.hid (HW.out.snoc h64 h3)
      clear h1 h2 h3
      go_wp2_with fail
      go_roundg (l.length - (i + 1))
      case measure => have := HG.out; omega
      case rel => exact ⟨i + 1, o2, b2, by go_num, rfl, by omega, H1.out, HK.out.trans H2.out, by rw [take_snoc Hx.out]; exact H3.out⟩
    · obtain rfl : i = l.length := by omega
      go_wp2_with fail
      go_end0
      refine ⟨rfl, o', b', HF.out, HK.out, LCk.fin ?_⟩
      have := HW.out
      rwa [List.take_length] at this
end Go.Proofs.Ythecincpejpmpaa
/- codec's form.alloc, writing. -/
namespace Go.Proofs.Ythecincpejpmpaa
open Go.RowKit Go.Lb Go.Rc

set_option maxRecDepth 20000 in
set_option maxHeartbeats 2000000 in
theorem alloc_writes : Writes 73 sAlloc := by
  intro B X f p q tp pre cs post v o b w h hX hq hp hr hl
  have k0 : (tup [.num, .num, .num, .num, .num, .num, .num, sRes, .flag, .num]).Rep w (· < B) cs v := hr
  obtain ⟨_, _, v0, y0, _, rfl, ⟨n0, _, rfl⟩, k1⟩ := Sch.Rep.tup_cons k0
  obtain ⟨_, _, v1, y1, _, rfl, ⟨n1, _, rfl⟩, k2⟩ := Sch.Rep.tup_cons k1
  obtain ⟨_, _, v2, y2, _, rfl, ⟨n2, _, rfl⟩, k3⟩ := Sch.Rep.tup_cons k2
  obtain ⟨_, _, v3, y3, _, rfl, ⟨n3, _, rfl⟩, k4⟩ := Sch.Rep.tup_cons k3
  obtain ⟨_, _, v4, y4, _, rfl, ⟨n4, _, rfl⟩, k5⟩ := Sch.Rep.tup_cons k4
  obtain ⟨_, _, v5, y5, _, rfl, ⟨n5, _, rfl⟩, k6⟩ := Sch.Rep.tup_cons k5
  obtain ⟨_, _, v6, y6, _, rfl, ⟨n6, _, rfl⟩, k7⟩ := Sch.Rep.tup_cons k6
  obtain ⟨_, _, v7, y7, _, rfl, _, k8⟩ := Sch.Rep.tup_cons k7
  obtain ⟨_, _, v8, y8, _, rfl, _, k9⟩ := Sch.Rep.tup_cons k8
  obtain ⟨_, _, v9, y9, _, rfl, ⟨n9, _, rfl⟩, k10⟩ := Sch.Rep.tup_cons k9
  obtain ⟨_, rfl⟩ := Sch.Rep.tup_nil k10
  subst hq
  have H0 := Lib.hid (WrSt.start (rest := ([(.num, .num n0), (.num, .num n1), (.num, .num n2), (.num, .num n3), (.num, .num n4), (.num, .num n5), (.num, .num n6), (sRes, v7), (.flag, v8), (.num, .num n9)] : List (Sch × Val))) h hX hp hr (by have := tup_cmax ([(.num, .num n0), (.num, .num n1), (.num, .num n2), (.num, .num n3), (.num, .num n4), (.num, .num n5), (.num, .num n6), (sRes, v7), (.flag, v8), (.num, .num n9)] : List (Sch × Val)); rw [← this]; exact hl))
  clear h hX hp hr hl k0 k1 k2 k3 k4 k5 k6 k7 k8 k9 k10
  go_enter Try.func73, Try.ntmps73
  go_wp2_with fail
  refine wp_region_lex (fun _ => True) 99 [(0, true), (1, true), (2, true), (3, true), (4, true), (5, true), (6, true), (7, true), (8, true), (9, true), (10, true), (11, true), (12, true), (13, true), (14, true), (15, true), (16, true), (17, true), (18, true), (19, true), (20, true), (21, true), (22, false), (23, false)] (by kernel_rfl) (by kernel_rfl) (by kernel_rfl) (by kernel_rfl) (fun _ _ d _ _ h => by cases d <;> exact h) ?_
  simp only [lexOps, List.map_cons, List.map_nil, List.getD_cons_zero, List.getD_cons_succ]
  iterate 22 (refine lex_read rfl trivial (v := ?_) (fun w' _ => ?_) ?_; rotate_left; (focus (go_simp; try with_reducible rfl)); simp only [Act.put, List.setIfInBounds_toArray, List.set_cons_zero, List.set_cons_succ])
  refine lex_do rfl (fun K hK => ?_)
  go_simp
  refine hK _ _ (fun _ => trivial) ?_
  clear hK K
  refine lex_do rfl (fun K hK => ?_)
  go_simp
  refine (CWr.goNums (ns := [n0, n1, n2, n3, n4, n5, n6]) (rest := [(sRes, v7), (.flag, v8), (.num, .num n9)]) (k := 7) H0.out rfl ((Upd.refl _ _).alloc _).drew (Nat.le_refl _) (Blk.drew (Blk.new _ _ [_, _, _, _, _, _, _])) rfl).mono ?_
  rintro e w1 ⟨rfl, o1, b1, h⟩
  have H1 := Lib.hid h
  refine hK _ _ (fun _ => trivial) ?_
  clear hK K h
  refine lex_nil ?_
  go_wp2_with fail
  refine (CWr.go res_writes H1.out rfl).mono ?_
  rintro e w2 ⟨rfl, o2, b2, h⟩
  have H2 := Lib.hid h
  clear h
  go_wp2_with fail
  refine (CWr.go flag_writes H2.out rfl).mono ?_
  rintro e w3 ⟨rfl, o3, b3, h⟩
  have H3 := Lib.hid h
  clear h
  go_wp2_with fail
  refine (CWr.go num_writes H3.out rfl).mono ?_
  rintro e w4 ⟨rfl, o4, b4, h⟩
  have H4 := Lib.hid h
  clear h
  go_wp2_with fail
  go_end0
  exact CWr.fin H4.out rfl rfl
end Go.Proofs.Ythecincpejpmpaa
/- codec's list[Alloc], writing. -/
namespace Go.Proofs.Ythecincpejpmpaa
open Go.RowKit Go.Lb Go.Rc

set_option maxRecDepth 20000 in
set_option maxHeartbeats 2000000 in
theorem listAlloc_writes : LWrites 72 73 sAlloc := by
  intro B X f p q tp pre cs post v o b w h hX hq hp hr hl
  obtain ⟨a, c, l, rfl, rfl, hall⟩ := hr
  have HA : Hid (Elems w (· < B) sAlloc 11 a l) := Lib.hid hall
  subst hq
  have H := Lib.hid h
  have HL := Lib.hid hl
  have HX := Lib.hid hX
  have HP := Lib.hid hp
  have hl1 : o.length + 6 ≤ 225000000000000 := by simp only [Sch.cmax] at hl; omega
  have c0 := hp.cell (o := pre.length) mid_at
  have hB := h.base
  clear h hX hall hl hp
  go_enter Try.func72, Try.ntmps72
  go_wp2_with fail
  refine (many_w B X f l.length 64 o b _ H.out hl1 (by decide)).mono ?_
  rintro e w1 ⟨r, o1, b1, rfl, h1, h2, h3⟩
  obtain ⟨m2, m3, m4, m5⟩ := fw_mark h1
  have p0 := (h2.blk HP.out (.inr HX.out)).cell (o := pre.length) mid_at
  have H1 := Lib.hid h1
  have H2 := Lib.hid h2
  have H3 : Hid (LCk sAlloc l.length [] o b o1 b1) := Lib.hid (LCk.start h3)
  clear h1 h2 h3
  go_wp2_with fail
  go_loopg [7, 8, 25] l.length (fun g u v t wr => ∃ (i : Nat) (o' : List Nat) (b' : Bool), t = .int .i64 i ∧ l.length - i = g ∧ i ≤ l.length ∧ Fw B X wr f o' b' ∧ Kp B X w wr ∧ LCk sAlloc l.length (l.take i) o b o' b')
  case atStart => exact ⟨0, o1, b1, rfl, rfl, by omega, H1.out, H2.out, H3.out⟩
  case round =>
    obtain ⟨i, o', b', rfl, hg, hi, hF, hK, hW⟩ := hrel
    have HG := Lib.hid hg
    have HF := Lib.hid hF
    have HK := Lib.hid hK
    have HW := Lib.hid hW
    obtain ⟨n2, n3, n4, n5⟩ := fw_mark hF
    have r0 := (hK.blk HP.out (.inr HX.out)).cell (o := pre.length) mid_at
    clear hg hF hK hW m2 m3 m4 m5 p0
    by_cases hlt : i < l.length
    · have t1 : decide (i < l.length) = true := by simpa using hlt
      cases b' with
      | true =>
        have HE := Lib.hid HW.out.early
        go_wp2_with fail
        go_end0
        exact ⟨rfl, o', true, HF.out, HK.out, HE.out⟩
      | false =>
      obtain ⟨x, hx⟩ : ∃ x, l[i]? = some x := ⟨_, List.getElem?_eq_getElem hlt⟩
      obtain ⟨b0, o0, us, rfl, hb0, hbl, hrg, hrep⟩ := HA.out i x hx
      have hrep := hrep.keep (ok' := (· < B)) (fun k hk hl => ⟨hk, HK.out.block k hl (.inl hk)⟩) HK.out.size
      have hrg : wr.rangeAt b0 (o0 + i * 11) us := rangeAt_keep hrg (HK.out.block b0 hbl (.inl hb0))
      have h64 : l.length ≤ 64 := HW.out.short
      have hwl := HW.out.room h64 hx HL.out
      have HWL := Lib.hid hwl
      have Hx := Lib.hid hx
      have hus : us.length = 11 := hrep.len
      have HONE : Hid (∀ u ∈ us, u.oneCell' = true) := Lib.hid hrep.one
      clear hx hwl
      have HREP := Lib.hid hrep
      have HRG := Lib.hid hrg
      clear hrep hrg
      go_wp2_with (first | (refine wpList_load_mid rfl 156 (.tmp 36) rfl b0 (o0 + i * 11) rfl us _ HRG.out Try.underlying156 rfl (by rw [hus]; exact Try.size156) ?_) | (refine wpList_alloc_blk rfl 156 rfl sAlloc.zc (zero156 _) ?_; intro wA hbA huA) | (refine wpList_store_blk (o := ⟨none, .store 156 (.tmp 8) (.tmp 37), _, _, _, _⟩) rfl 156 (.tmp 8) (.tmp 37) rfl wr.heap.size us rfl rfl hbA (by rw [hus]; exact Try.size156) (by rw [hus]; rfl) HONE.out ?_; intro wB hb huB))
      have hu : Upd [] wr wB := huA.trans huB (by simp)
      clear huA hbA huB
      refine (alloc_writes B (wr.heap.size :: X) f wr.heap.size 0 156 [] us [] x o' false wB (HF.out.new hu (Nat.le_refl _) hb.lt) (by simp) rfl (by simpa using hb) (HREP.out.upd hu (by simp)) HWL.out).mono ?_
      rintro e w2 ⟨rfl, o2, b2, h1, h2, h3⟩
      have H1 := Lib.hid h1.less
      have H2 := Lib.hid ((Kp.of_nil hu).trans h2.drop)
      have H3 := Lib.hid (HW.out.snoc h64 h3)
      clear h1 h2 h3
      go_wp2_with fail
      go_roundg (l.length - (i + 1))
      case measure => have := HG.out; omega
      case rel => exact ⟨i + 1, o2, b2, by go_num, rfl, by omega, H1.out, HK.out.trans H2.out, by rw [take_snoc Hx.out]; exact H3.out⟩
    · obtain rfl : i = l.length := by omega
      go_wp2_with fail
      go_end0
      refine ⟨rfl, o', b', HF.out, HK.out, LCk.fin ?_⟩
      have := HW.out
      rwa [List.take_length] at this
end Go.Proofs.Ythecincpejpmpaa
/- codec's form.plan, writing. -/
namespace Go.Proofs.Ythecincpejpmpaa
open Go.RowKit Go.Lb Go.Rc

set_option maxRecDepth 20000 in
set_option maxHeartbeats 2000000 in
theorem plan_writes : Writes 55 sPlan := by
  intro B X f p q tp pre cs post v o b w h hX hq hp hr hl
  have k0 : (tup [.num, .num, .num, .list .num, .list sAlloc, .flag]).Rep w (· < B) cs v := hr
  obtain ⟨_, _, v0, y0, _, rfl, ⟨n0, _, rfl⟩, k1⟩ := Sch.Rep.tup_cons k0
  obtain ⟨_, _, v1, y1, _, rfl, ⟨n1, _, rfl⟩, k2⟩ := Sch.Rep.tup_cons k1
  obtain ⟨_, _, v2, y2, _, rfl, ⟨n2, _, rfl⟩, k3⟩ := Sch.Rep.tup_cons k2
  obtain ⟨_, _, v3, y3, _, rfl, _, k4⟩ := Sch.Rep.tup_cons k3
  obtain ⟨_, _, v4, y4, _, rfl, _, k5⟩ := Sch.Rep.tup_cons k4
  obtain ⟨_, _, v5, y5, _, rfl, _, k6⟩ := Sch.Rep.tup_cons k5
  obtain ⟨_, rfl⟩ := Sch.Rep.tup_nil k6
  subst hq
  have H0 := Lib.hid (WrSt.start (rest := ([(.num, .num n0), (.num, .num n1), (.num, .num n2), (.list .num, v3), (.list sAlloc, v4), (.flag, v5)] : List (Sch × Val))) h hX hp hr (by have := tup_cmax ([(.num, .num n0), (.num, .num n1), (.num, .num n2), (.list .num, v3), (.list sAlloc, v4), (.flag, v5)] : List (Sch × Val)); rw [← this]; exact hl))
  clear h hX hp hr hl k0 k1 k2 k3 k4 k5 k6
  go_enter Try.func55, Try.ntmps55
  go_wp2_with fail
  refine wp_region_lex (fun _ => True) 99 [(0, true), (1, true), (2, true), (3, true), (4, true), (5, true), (6, true), (7, true), (8, true), (9, true), (10, false), (11, false)] (by kernel_rfl) (by kernel_rfl) (by kernel_rfl) (by kernel_rfl) (fun _ _ d _ _ h => by cases d <;> exact h) ?_
  simp only [lexOps, List.map_cons, List.map_nil, List.getD_cons_zero, List.getD_cons_succ]
  iterate 10 (refine lex_read rfl trivial (v := ?_) (fun w' _ => ?_) ?_; rotate_left; (focus (go_simp; try with_reducible rfl)); simp only [Act.put, List.setIfInBounds_toArray, List.set_cons_zero, List.set_cons_succ])
  refine lex_do rfl (fun K hK => ?_)
  go_simp
  refine hK _ _ (fun _ => trivial) ?_
  clear hK K
  refine lex_do rfl (fun K hK => ?_)
  go_simp
  refine (CWr.goNums (ns := [n0, n1, n2]) (rest := [(.list .num, v3), (.list sAlloc, v4), (.flag, v5)]) (k := 3) H0.out rfl ((Upd.refl _ _).alloc _).drew (Nat.le_refl _) (Blk.drew (Blk.new _ _ [_, _, _])) rfl).mono ?_
  rintro e w1 ⟨rfl, o1, b1, h⟩
  have H1 := Lib.hid h
  refine hK _ _ (fun _ => trivial) ?_
  clear hK K h
  refine lex_nil ?_
  go_wp2_with fail
  refine (CWr.goList listint_writes H1.out rfl).mono ?_
  rintro e w2 ⟨rfl, o2, b2, h⟩
  have H2 := Lib.hid h
  clear h
  go_wp2_with fail
  refine (CWr.goList listAlloc_writes H2.out rfl).mono ?_
  rintro e w3 ⟨rfl, o3, b3, h⟩
  have H3 := Lib.hid h
  clear h
  go_wp2_with fail
  refine (CWr.go flag_writes H3.out rfl).mono ?_
  rintro e w4 ⟨rfl, o4, b4, h⟩
  have H4 := Lib.hid h
  clear h
  go_wp2_with fail
  go_end0
  exact CWr.fin H4.out rfl rfl
end Go.Proofs.Ythecincpejpmpaa
/- codec's form.conf, writing. -/
namespace Go.Proofs.Ythecincpejpmpaa
open Go.RowKit Go.Lb Go.Rc

set_option maxRecDepth 20000 in
set_option maxHeartbeats 2000000 in
theorem conf_writes : Writes 56 sConf := by
  intro B X f p q tp pre cs post v o b w h hX hq hp hr hl
  have k0 : (tup [.list .num, .list .num]).Rep w (· < B) cs v := hr
  obtain ⟨_, _, v0, y0, _, rfl, _, k1⟩ := Sch.Rep.tup_cons k0
  obtain ⟨_, _, v1, y1, _, rfl, _, k2⟩ := Sch.Rep.tup_cons k1
  obtain ⟨_, rfl⟩ := Sch.Rep.tup_nil k2
  subst hq
  have H0 := Lib.hid (WrSt.start (rest := ([(.list .num, v0), (.list .num, v1)] : List (Sch × Val))) h hX hp hr (by have := tup_cmax ([(.list .num, v0), (.list .num, v1)] : List (Sch × Val)); rw [← this]; exact hl))
  clear h hX hp hr hl k0 k1 k2
  go_enter Try.func56, Try.ntmps56
  go_wp2_with fail
  refine (CWr.goList listint_writes H0.out rfl).mono ?_
  rintro e w1 ⟨rfl, o1, b1, h⟩
  have H1 := Lib.hid h
  clear h
  go_wp2_with fail
  refine (CWr.goList listint_writes H1.out rfl).mono ?_
  rintro e w2 ⟨rfl, o2, b2, h⟩
  have H2 := Lib.hid h
  clear h
  go_wp2_with fail
  go_end0
  exact CWr.fin H2.out rfl rfl
end Go.Proofs.Ythecincpejpmpaa
/- codec's form.cmd, writing. -/
namespace Go.Proofs.Ythecincpejpmpaa
open Go.RowKit Go.Lb Go.Rc

set_option maxRecDepth 20000 in
set_option maxHeartbeats 2000000 in
theorem cmd_writes : Writes 36 sCmd := by
  intro B X f p q tp pre cs post v o b w h hX hq hp hr hl
  have k0 : (tup [.num, .num, .num, sJob, sNode, .list sReport, sPlan, sConf]).Rep w (· < B) cs v := hr
  obtain ⟨_, _, v0, y0, _, rfl, ⟨n0, _, rfl⟩, k1⟩ := Sch.Rep.tup_cons k0
  obtain ⟨_, _, v1, y1, _, rfl, ⟨n1, _, rfl⟩, k2⟩ := Sch.Rep.tup_cons k1
  obtain ⟨_, _, v2, y2, _, rfl, ⟨n2, _, rfl⟩, k3⟩ := Sch.Rep.tup_cons k2
  obtain ⟨_, _, v3, y3, _, rfl, _, k4⟩ := Sch.Rep.tup_cons k3
  obtain ⟨_, _, v4, y4, _, rfl, _, k5⟩ := Sch.Rep.tup_cons k4
  obtain ⟨_, _, v5, y5, _, rfl, _, k6⟩ := Sch.Rep.tup_cons k5
  obtain ⟨_, _, v6, y6, _, rfl, _, k7⟩ := Sch.Rep.tup_cons k6
  obtain ⟨_, _, v7, y7, _, rfl, _, k8⟩ := Sch.Rep.tup_cons k7
  obtain ⟨_, rfl⟩ := Sch.Rep.tup_nil k8
  subst hq
  have H0 := Lib.hid (WrSt.start (rest := ([(.num, .num n0), (.num, .num n1), (.num, .num n2), (sJob, v3), (sNode, v4), (.list sReport, v5), (sPlan, v6), (sConf, v7)] : List (Sch × Val))) h hX hp hr (by have := tup_cmax ([(.num, .num n0), (.num, .num n1), (.num, .num n2), (sJob, v3), (sNode, v4), (.list sReport, v5), (sPlan, v6), (sConf, v7)] : List (Sch × Val)); rw [← this]; exact hl))
  clear h hX hp hr hl k0 k1 k2 k3 k4 k5 k6 k7 k8
  go_enter Try.func36, Try.ntmps36
  go_wp2_with fail
  refine wp_region_lex (fun _ => True) 99 [(0, true), (1, true), (2, true), (3, true), (4, true), (5, true), (6, true), (7, true), (8, true), (9, true), (10, false), (11, false)] (by kernel_rfl) (by kernel_rfl) (by kernel_rfl) (by kernel_rfl) (fun _ _ d _ _ h => by cases d <;> exact h) ?_
  simp only [lexOps, List.map_cons, List.map_nil, List.getD_cons_zero, List.getD_cons_succ]
  iterate 10 (refine lex_read rfl trivial (v := ?_) (fun w' _ => ?_) ?_; rotate_left; (focus (go_simp; try with_reducible rfl)); simp only [Act.put, List.setIfInBounds_toArray, List.set_cons_zero, List.set_cons_succ])
  refine lex_do rfl (fun K hK => ?_)
  go_simp
  refine hK _ _ (fun _ => trivial) ?_
  clear hK K
  refine lex_do rfl (fun K hK => ?_)
  go_simp
  refine (CWr.goNums (ns := [n0, n1, n2]) (rest := [(sJob, v3), (sNode, v4), (.list sReport, v5), (sPlan, v6), (sConf, v7)]) (k := 3) H0.out rfl ((Upd.refl _ _).alloc _).drew (Nat.le_refl _) (Blk.drew (Blk.new _ _ [_, _, _])) rfl).mono ?_
  rintro e w1 ⟨rfl, o1, b1, h⟩
  have H1 := Lib.hid h
  refine hK _ _ (fun _ => trivial) ?_
  clear hK K h
  refine lex_nil ?_
  go_wp2_with fail
  refine (CWr.go job_writes H1.out rfl).mono ?_
  rintro e w2 ⟨rfl, o2, b2, h⟩
  have H2 := Lib.hid h
  clear h
  go_wp2_with fail
  refine (CWr.go node_writes H2.out rfl).mono ?_
  rintro e w3 ⟨rfl, o3, b3, h⟩
  have H3 := Lib.hid h
  clear h
  go_wp2_with fail
  refine (CWr.goList listReport_writes H3.out rfl).mono ?_
  rintro e w4 ⟨rfl, o4, b4, h⟩
  have H4 := Lib.hid h
  clear h
  go_wp2_with fail
  refine (CWr.go plan_writes H4.out rfl).mono ?_
  rintro e w5 ⟨rfl, o5, b5, h⟩
  have H5 := Lib.hid h
  clear h
  go_wp2_with fail
  refine (CWr.go conf_writes H5.out rfl).mono ?_
  rintro e w6 ⟨rfl, o6, b6, h⟩
  have H6 := Lib.hid h
  clear h
  go_wp2_with fail
  go_end0
  exact CWr.fin H6.out rfl rfl
end Go.Proofs.Ythecincpejpmpaa
/- codec's put[Cmd] and PutCmd. -/
namespace Go.Proofs.Ythecincpejpmpaa
open Go.RowKit Go.Lb Go.Rc

set_option maxRecDepth 20000 in
set_option maxHeartbeats 2000000 in
theorem putCmd_any (cs : List Value) (v : Val) (w : World) (hr : Sch.Rep w (· < w.heap.size) sCmd cs v) (hl : sCmd.cmax v ≤ 225000000000000) :
    Calls Try.prog 35 #[.agg cs.toArray, .func (.func 36) #[] #[]] w (PutIs sCmd v w) := by
  have hlen : cs.length = 27 := hr.len
  have HR := Lib.hid hr
  have HL := Lib.hid hl
  clear hr hl
  go_enter Try.func35, Try.ntmps35
  go_wp2_with fail
  have uW : Upd [] w ((w.alloc (.cells cs.toArray 48)).alloc (.cells #[.slice none 0 0, .bool false, .bool false] 113)) := ((Upd.refl _ _).alloc _).alloc _
  refine (cmd_writes w.heap.size [w.heap.size] (w.heap.size + 1) w.heap.size 0 48 [] cs [] v [] false _ (fresh_out (mk := cW) rfl) (by simp) rfl (by simpa using (Blk.new w 48 cs).alloc _) (HR.out.upd uW (by simp)) (by simpa using HL.out)).mono ?_
  rintro e w1 ⟨rfl, o, b, h1, h2, h3⟩
  obtain ⟨m2, m3, m4, m5⟩ := fw_mark h1
  cases b with
  | true =>
    have HF := Lib.hid (putIs_bad h2 uW h3)
    clear h1 h2 h3 uW
    go_wp2_with fail
    go_ret2
    exact HF.out
  | false =>
    obtain ⟨a, c, e0, hF⟩ := putIs_good h1 h2 uW h3
    have e1 : w1.cell? ⟨w.heap.size + 1, 0, none⟩ = some (.slice a (sCmd.put v).length c) := e0
    have HF := Lib.hid hF
    clear h1 h2 h3 uW e0 hF
    go_wp2_with fail
    go_ret2
    exact HF.out

set_option maxRecDepth 20000 in
set_option maxHeartbeats 2000000 in
theorem putCmd_puts : PutsC 17 sCmd := by
  intro cs v w hr hl
  have hlen : cs.length = 27 := hr.len
  have uW : Upd [] w (w.alloc (.cells cs.toArray 48)) := (Upd.refl _ _).alloc _
  have HR := Lib.hid hr
  have HL := Lib.hid hl
  have hb := Blk.new w 48 cs
  have HB := Lib.hid hb
  clear hr hl hb
  go_enter Try.func17, Try.ntmps17
  go_wp2_with (refine wpList_load_blk rfl 48 (.tmp 1) rfl w.heap.size rfl HB.out Try.underlying48 rfl (by rw [hlen]; exact Try.size48) ?_)
  refine (putCmd_any cs v _ ((HR.out.upd uW (by simp)).mono (fun b hb hl => hl)) HL.out).mono ?_
  rintro e w1 ⟨u1, ⟨hg, a, c, rfl, hown⟩ | ⟨hg, rfl⟩⟩
  · have HF : Hid (PutIs sCmd v w (.returned (.tuple #[.slice a (sCmd.put v).length c, .int .i64 0])) w1) := Lib.hid ⟨uW.trans u1 (by simp), .inl ⟨hg, a, c, rfl, own_rebase hown (fun k hk => by have := own_lo hown hk; have := uW.size; omega)⟩⟩
    clear u1 hg hown uW
    go_wp2_with fail
    go_ret2
    exact HF.out
  · have HF : Hid (PutIs sCmd v w (.returned (.tuple #[.slice none 0 0, .int .i64 1])) w1) := Lib.hid ⟨uW.trans u1 (by simp), .inr ⟨hg, rfl⟩⟩
    clear u1 hg uW
    go_wp2_with fail
    go_ret2
    exact HF.out
end Go.Proofs.Ythecincpejpmpaa
/- codec's form.res, reading. -/
namespace Go.Proofs.Ythecincpejpmpaa
open Go.RowKit Go.Lb Go.Rc

set_option maxRecDepth 20000 in
set_option maxHeartbeats 2000000 in
theorem res_reads : Reads 83 sRes := by
  intro B f p q tp pre post l b w h hB hpf hq hp
  subst hq
  have H0 := Lib.hid (RdSt.start (rest := [.num, .num]) h hB hpf hp (fr_mark h).2.2.2.1)
  clear h hp
  go_enter Try.func83, Try.ntmps83
  refine wp_region_lex (fun _ => True) 99 [(0, true), (1, true), (2, true), (3, true), (4, true), (5, true), (6, true), (7, false), (8, false)] (by kernel_rfl) (by kernel_rfl) (by kernel_rfl) (by kernel_rfl) (fun _ _ d _ _ h => by cases d <;> exact h) ?_
  simp only [lexOps, List.map_cons, List.map_nil, List.getD_cons_zero, List.getD_cons_succ]
  iterate 7 (refine lex_read rfl trivial (v := ?_) (fun w' _ => ?_) ?_; rotate_left; (focus (go_simp; try with_reducible rfl)); simp only [Act.put, List.setIfInBounds_toArray, List.set_cons_zero, List.set_cons_succ])
  refine lex_do rfl (fun K hK => ?_)
  go_simp
  refine hK _ _ (fun _ => trivial) ?_
  clear hK K
  refine lex_do rfl (fun K hK => ?_)
  go_simp
  refine (CRd.goNums (rest := []) (k := 2) H0.out ((Upd.refl _ _).alloc _).drew (Nat.le_refl _) (Blk.drew (Blk.new _ _ [_, _])) (by simp only [fsize_append, fsize_nums, fsize, List.nil_append] <;> rfl) (by decide)).mono ?_
  rintro e w1 ⟨rfl, ns1, l1, b1, hn, h⟩
  have H1 := Lib.hid h
  have HN1 := Lib.hid hn
  clear hn
  refine hK _ _ (fun _ => trivial) ?_
  clear hK K h
  refine lex_nil ?_
  go_wp2_with fail
  go_end0
  exact CRd.fin H1.out (by simp only [List.map_append, nums_fst, HN1.out, List.append_assoc, List.map_cons, List.map_nil, List.nil_append]; rfl)
end Go.Proofs.Ythecincpejpmpaa
/- codec's form.group, reading. -/
namespace Go.Proofs.Ythecincpejpmpaa
open Go.RowKit Go.Lb Go.Rc

set_option maxRecDepth 20000 in
set_option maxHeartbeats 2000000 in
theorem group_reads : Reads 82 sGroup := by
  intro B f p q tp pre post l b w h hB hpf hq hp
  subst hq
  have H0 := Lib.hid (RdSt.start (rest := [.num, sRes]) h hB hpf hp (fr_mark h).2.2.2.1)
  clear h hp
  go_enter Try.func82, Try.ntmps82
  go_wp2_with fail
  refine (CRd.go num_reads H0.out (by simp only [fsize_append, fsize_nums, fsize, List.nil_append] <;> rfl)).mono ?_
  rintro e w1 ⟨rfl, v1, l1, b1, h⟩
  have H1 := Lib.hid h
  clear h
  go_wp2_with fail
  refine (CRd.go res_reads H1.out (by simp only [fsize_append, fsize_nums, fsize, List.nil_append] <;> rfl)).mono ?_
  rintro e w2 ⟨rfl, v2, l2, b2, h⟩
  have H2 := Lib.hid h
  clear h
  go_wp2_with fail
  go_end0
  exact CRd.fin H2.out (by simp only [List.map_append, nums_fst, List.append_assoc, List.map_cons, List.map_nil, List.nil_append]; rfl)
end Go.Proofs.Ythecincpejpmpaa
/- codec's list[Group], reading. -/
namespace Go.Proofs.Ythecincpejpmpaa
open Go.RowKit Go.Lb Go.Rc

set_option maxRecDepth 20000 in
set_option maxHeartbeats 2000000 in
theorem listGroup_reads : LReads 81 82 sGroup := by
  intro B f p q tp pre post l b w h hB hpf hq hp
  obtain ⟨iT, hiT, hz0, hz1, hz2⟩ := info178
  subst hq
  have c0 := hp.cell (o := pre.length) mid_at
  obtain ⟨_, _, _, hf, hBf⟩ := fr_mark h
  have hplt := hp.lt
  have H := Lib.hid h
  have HP := Lib.hid hp
  clear h hp
  go_enter Try.func81, Try.ntmps81
  go_wp2_with fail
  refine (many_r B f 64 _ l b _ H.out).mono ?_
  rintro e w1 ⟨k, l1, b1, rfl, hk, h1, h2, h3⟩
  obtain ⟨m2, m3, m4, m5, _⟩ := fr_mark h1
  have HB1 := Lib.hid (h2.blk HP.out (by simpa using hpf))
  have HS : Hid (LRdSt sGroup 113 cR [f, p] B f 178 3 w w1 k l b 0 l1 b1 (.slice none 0 0) [] []) := Lib.hid (LRdSt.start h1 (h2.mono (by simp)) (by simp; omega) h3)
  clear h1 h2 h3 H
  go_wp2_with fail
  go_loopg [9, 42] k (fun g u t wr => ∃ (i : Nat) (l' : List Nat) (b' : Bool) (v : Value) (xss : List (List Value)) (xs : List Val), t = .int .i64 i ∧ k - i = g ∧ i ≤ k ∧ Blk wr p tp (pre ++ [v] ++ post) ∧ LRdSt sGroup 113 cR [f, p] B f 178 3 w wr k l b i l' b' v xss xs)
  case atStart => exact ⟨0, l1, b1, _, [], [], rfl, rfl, by omega, HB1.out, HS.out⟩
  case round =>
    obtain ⟨i, l', b', v, xss, xs, rfl, hg, hi, hbk, hS⟩ := hrel
    have HG := Lib.hid hg
    have HBK := Lib.hid hbk
    have HST := Lib.hid hS
    obtain ⟨n2, n3, n4, n5, _⟩ := fr_mark hS.fr
    have hsz := hS.upd.size
    clear hg hbk hS m2 m3 m4 m5
    by_cases hlt : i < k
    · have t1 : decide (i < k) = true := by simpa using hlt
      cases b' with
      | true =>
        have HE := Lib.hid (HST.out.rd (.inl rfl))
        go_wp2_with fail
        go_end0
        exact ⟨rfl, .list xs, [v], l', true, HST.out.fr, HST.out.upd, HBK.out, HST.out.isRep, HE.out⟩
      | false =>
      go_wp2_with (refine wpList_alloc_blk rfl 178 rfl sGroup.zc (zero178 _) ?_; intro wB hb hu)
      have hN := HST.out.upd' hu
      refine (group_reads B f wr.heap.size 0 178 [] [] l' false wB hN.fr (by omega) (by omega) rfl (by simpa [Sch.zc] using hb)).mono ?_
      rintro e w2 ⟨rfl, x, us, l2, b2, h1, h2, h3, h4, h5⟩
      have hus : us.length = 3 := h4.len
      have hb2 : Blk w2 wr.heap.size 178 us := by simpa using h3
      have hU : Upd [f, p] wr w2 := (hu.mono (by simp)).trans h2 (by
        intro y hy
        simp only [List.mem_cons, List.not_mem_nil, or_false] at hy
        rcases hy with rfl | rfl
        · simp
        · exact .inr (Nat.le_refl _))
      have h4' : Sch.Rep w2 (Nw wr.heap.size w2) sGroup us x := h4.mono (fun b hb _ => hb.go hu.size rfl)
      have hbp : Blk w2 p tp (pre ++ [v] ++ post) := by
        refine h2.blk (hu.blk HBK.out (by simp)) ?_
        simp; omega
      have hrow2 := (hN.row)
      have hrw : w2.ownsRow w.heap.size 178 3 v i xss.flatten := h2.row (hu.row HST.out.row (by simp)) (by
        intro y hy
        have := own_lo HST.out.row hy
        simp; omega)
      have hsz2 := hU.size
      have hl2 := hb2.lt
      obtain ⟨a, c, rfl⟩ := own_shape' hrw
      have HO := Lib.hid h4.one
      have HR : Hid (∀ w', Upd (Value.slice a i c).ownBlock.toList w2 w' → w'.cell? ⟨p, pre.length, none⟩ = some (.slice a i c) ∧ Blk w' wr.heap.size 178 us) := Lib.hid (by
        intro w' u
        refine ⟨(u.blk hbp ?_).cell mid_at, u.blk hb2 ?_⟩
        · intro hm
          have := own_lo HST.out.row (g := p) (by simpa using hm)
          omega
        · intro hm
          have := own_lo HST.out.row (g := wr.heap.size) (by simpa using hm)
          omega)
      have HST2 := HST
      have HU := Lib.hid hU
      have H4 := Lib.hid h4'
      have H5 := Lib.hid h5
      have H1 := Lib.hid h1
      have HRW := Lib.hid hrw
      have HBP := Lib.hid hbp
      have HUS := Lib.hid hus
      clear h1 h2 h3 h4 h5 hN hb hu hbp hrow2 hrw hU h4' hus
      go_wp2_with fail
      refine wp_region_lex (fun w' => Upd (Value.slice a i c).ownBlock.toList w2 w') 8 [(0, true), (1, true), (2, true), (3, true), (4, true), (5, false), (6, false), (7, false), (8, false)] (by kernel_rfl) (by kernel_rfl) (by kernel_rfl) (by kernel_rfl) (fun _ _ d _ _ h => by cases d <;> exact h) ?_
      simp only [lexOps, List.map_cons, List.map_nil, List.getD_cons_zero, List.getD_cons_succ]
      have hS0 : Upd (Value.slice a i c).ownBlock.toList w2 w2.drew := (Upd.refl _ _).drew
      iterate 4 (refine lex_read rfl (by exact hS0) (v := ?_) (fun w' hw => ?_) ?_; rotate_left; (focus (obtain ⟨k1, k2⟩ := HR.out w' hw; clear k2; go_simp; try with_reducible rfl)); simp only [Act.put, List.setIfInBounds_toArray, List.set_cons_zero, List.set_cons_succ])
      refine lex_read rfl (by exact hS0) (fun w' hw => exec_load (by rfl) (by rfl) (run_loadAt_mid w' wr.heap.size 0 178 us _ (HR.out w' hw).2.range Try.underlying178 rfl (by rw [HUS.out]; exact Try.size178))) ?_
      try simp only [Act.put, List.setIfInBounds_toArray, List.set_cons_zero, List.set_cons_succ]
      refine lex_run rfl (exec_buildSlice (by rfl) (by simp [Act.eval]) (run_buildSlice1 _ 33 178 iT _ us 3 Try.underlying33 hiT hz0 hz1 HUS.out (by decide) (by decide))) (fun _ => hS0.alloc _) ?_
      try simp only [Act.put, List.setIfInBounds_toArray, List.set_cons_zero, List.set_cons_succ]
      have h64 : k ≤ 64 := hk
      have hB2 : Blk (w2.drew.alloc (.cells us.toArray 178)) w2.heap.size 178 us := Blk.new w2.drew _ _
      refine lex_do rfl (fun K hK => ?_)
      refine wp_append_mine (.tmp 53) (.tmp 55) 33 rfl w.heap.size 178 iT _ 3 _ Try.underlying33 hiT hz0 hz1 hz2 rfl (by decide) (.slice a i c) i xss.flatten rfl (World.ownsRow.alloc HRW.out _) ⟨w2.heap.size, 0, none⟩ 1 1 us rfl (by rw [HUS.out]) hB2.news (HO.out) (by unfold maxLen; omega) (by omega) (by have := HST.out.upd.size; simp; omega) ?_
      intro v' w3 hown hg hv
      have uA : Upd [f, p] wr (w2.drew.alloc (.cells us.toArray 178)) := (HU.out.drew).alloc _
      have hF : Fr B w3 f l2 b2 := by
        obtain ⟨a', c', hI⟩ := H1.out
        have hI2 : In 113 cR B (w2.drew.alloc (.cells us.toArray 178)) f l2 b2 a' c' := hI.upd (F := []) ((Upd.refl [] w2).drew.alloc _) (by simp)
        refine ⟨a', c', hI2.upd (F := (Value.slice a i c).ownBlock.toList) ((Upd.refl _ _).grown hg (fun k hk => .inl (by simp [hk]))) (fun k hk => ?_)⟩
        have := own_lo HST.out.row (g := k) (by simpa using hk)
        omega
      have hbp3 : Blk w3 p tp (pre ++ [.slice a i c] ++ post) := by
        have hb4 : Blk (w2.drew.alloc (.cells us.toArray 178)) p tp (pre ++ [.slice a i c] ++ post) := (HBP.out.drew).alloc _
        refine (hg.block p hb4.lt (fun e => ?_)).trans hb4
        have := own_lo HST.out.row (g := p) e.symm
        omega
      have q1 := hbp3.cell (o := pre.length) mid_at
      have q2 := hbp3.frozen pre.length
      have q3 := hbp3.lt
      have uS : Upd [p] w3 (w3.setCell ⟨p, pre.length, none⟩ v') := (Upd.refl _ _).setCell (by simp) _
      have HX : Hid (Blk (w3.setCell ⟨p, pre.length, none⟩ v') p tp (pre ++ [v'] ++ post) ∧ LRdSt sGroup 113 cR [f, p] B f 178 3 w (w3.setCell ⟨p, pre.length, none⟩ v') k l b (i + 1) l2 b2 v' (xss ++ [us]) (xs ++ [x])) := by
        refine Lib.hid ⟨?_, LRdSt.next HST.out hlt uA (H4.out.updN ((Upd.refl [] w2).drew.alloc _) (by simp)) HUS.out H5.out hg hown ?_ (uS.mono (by simp)) (hF.upd uS (by simp; omega))⟩
        · have := hbp3.set pre.length v'
          rwa [mid_set] at this
        · rcases hv with h | h
          · exact .inl h
          · exact .inr h
      have hS3 : Upd (Value.slice a i c).ownBlock.toList w2 w3 := (hS0.alloc _).grown hg (fun k hk => .inl (by simp [hk]))
      refine hK _ _ (fun _ => hS3) ?_
      obtain ⟨a', c', rfl⟩ := own_shape' hown
      clear hK K hown hg hv uA hF hbp3 uS hB2 hS0
      try simp only [Act.put, List.setIfInBounds_toArray, List.set_cons_zero, List.set_cons_succ]
      refine lex_do rfl (fun K hK => ?_)
      go_simp
      refine hK _ _ (fun _ => hS3) ?_
      clear hK K hS3
      try simp only [Act.put, List.setIfInBounds_toArray, List.set_cons_zero, List.set_cons_succ]
      refine lex_do rfl (fun K hK => ?_)
      go_simp
      refine hK _ _ (fun h => absurd rfl h) ?_
      clear hK K
      try simp only [Act.put, List.setIfInBounds_toArray, List.set_cons_zero, List.set_cons_succ]
      refine lex_nil ?_
      go_wp2_with fail
      go_roundg (k - (i + 1))
      case measure => have := HG.out; omega
      case rel => exact ⟨i + 1, l2, b2, _, _, _, by go_num, rfl, by omega, HX.out.1, HX.out.2⟩
    · obtain rfl : i = k := by omega
      have HE := Lib.hid (HST.out.rd (.inr rfl))
      go_wp2_with fail
      go_end0
      exact ⟨rfl, .list xs, [v], l', b', HST.out.fr, HST.out.upd, HBK.out, HST.out.isRep, HE.out⟩
end Go.Proofs.Ythecincpejpmpaa
/- codec's form.job, reading. -/
namespace Go.Proofs.Ythecincpejpmpaa
open Go.RowKit Go.Lb Go.Rc

set_option maxRecDepth 20000 in
set_option maxHeartbeats 2000000 in
theorem job_reads : Reads 51 sJob := by
  intro B f p q tp pre post l b w h hB hpf hq hp
  subst hq
  have H0 := Lib.hid (RdSt.start (rest := [.num, .num, .num, .num, .list sGroup, .num, .flag]) h hB hpf hp (fr_mark h).2.2.2.1)
  clear h hp
  go_enter Try.func51, Try.ntmps51
  go_wp2_with fail
  refine wp_region_lex (fun _ => True) 99 [(0, true), (1, true), (2, true), (3, true), (4, true), (5, true), (6, true), (7, true), (8, true), (9, true), (10, true), (11, true), (12, true), (13, false), (14, false)] (by kernel_rfl) (by kernel_rfl) (by kernel_rfl) (by kernel_rfl) (fun _ _ d _ _ h => by cases d <;> exact h) ?_
  simp only [lexOps, List.map_cons, List.map_nil, List.getD_cons_zero, List.getD_cons_succ]
  iterate 13 (refine lex_read rfl trivial (v := ?_) (fun w' _ => ?_) ?_; rotate_left; (focus (go_simp; try with_reducible rfl)); simp only [Act.put, List.setIfInBounds_toArray, List.set_cons_zero, List.set_cons_succ])
  refine lex_do rfl (fun K hK => ?_)
  go_simp
  refine hK _ _ (fun _ => trivial) ?_
  clear hK K
  refine lex_do rfl (fun K hK => ?_)
  go_simp
  refine (CRd.goNums (rest := [.list sGroup, .num, .flag]) (k := 4) H0.out ((Upd.refl _ _).alloc _).drew (Nat.le_refl _) (Blk.drew (Blk.new _ _ [_, _, _, _])) (by simp only [fsize_append, fsize_nums, fsize, List.nil_append] <;> rfl) (by decide)).mono ?_
  rintro e w1 ⟨rfl, ns1, l1, b1, hn, h⟩
  have H1 := Lib.hid h
  have HN1 := Lib.hid hn
  clear hn
  refine hK _ _ (fun _ => trivial) ?_
  clear hK K h
  refine lex_nil ?_
  go_wp2_with fail
  refine (CRd.goList listGroup_reads H1.out (by simp only [fsize_append, fsize_nums, fsize, HN1.out, List.nil_append] <;> rfl)).mono ?_
  rintro e w2 ⟨rfl, v2, l2, b2, h⟩
  have H2 := Lib.hid h
  clear h
  go_wp2_with fail
  refine (CRd.go num_reads H2.out (by simp only [fsize_append, fsize_nums, fsize, HN1.out, List.nil_append] <;> rfl)).mono ?_
  rintro e w3 ⟨rfl, v3, l3, b3, h⟩
  have H3 := Lib.hid h
  clear h
  go_wp2_with fail
  refine (CRd.go flag_reads H3.out (by simp only [fsize_append, fsize_nums, fsize, HN1.out, List.nil_append] <;> rfl)).mono ?_
  rintro e w4 ⟨rfl, v4, l4, b4, h⟩
  have H4 := Lib.hid h
  clear h
  go_wp2_with fail
  go_end0
  exact CRd.fin H4.out (by simp only [List.map_append, nums_fst, HN1.out, List.append_assoc, List.map_cons, List.map_nil, List.nil_append]; rfl)
end Go.Proofs.Ythecincpejpmpaa
/- codec's form.node, reading. -/
namespace Go.Proofs.Ythecincpejpmpaa
open Go.RowKit Go.Lb Go.Rc

set_option maxRecDepth 20000 in
set_option maxHeartbeats 2000000 in
theorem node_reads : Reads 52 sNode := by
  intro B f p q tp pre post l b w h hB hpf hq hp
  subst hq
  have H0 := Lib.hid (RdSt.start (rest := [.num, sRes, .flag, .flag, .num, .num, .num]) h hB hpf hp (fr_mark h).2.2.2.1)
  clear h hp
  go_enter Try.func52, Try.ntmps52
  go_wp2_with fail
  refine (CRd.go num_reads H0.out (by simp only [fsize_append, fsize_nums, fsize, List.nil_append] <;> rfl)).mono ?_
  rintro e w1 ⟨rfl, v1, l1, b1, h⟩
  have H1 := Lib.hid h
  clear h
  go_wp2_with fail
  refine (CRd.go res_reads H1.out (by simp only [fsize_append, fsize_nums, fsize, List.nil_append] <;> rfl)).mono ?_
  rintro e w2 ⟨rfl, v2, l2, b2, h⟩
  have H2 := Lib.hid h
  clear h
  go_wp2_with fail
  refine (CRd.go flag_reads H2.out (by simp only [fsize_append, fsize_nums, fsize, List.nil_append] <;> rfl)).mono ?_
  rintro e w3 ⟨rfl, v3, l3, b3, h⟩
  have H3 := Lib.hid h
  clear h
  go_wp2_with fail
  refine (CRd.go flag_reads H3.out (by simp only [fsize_append, fsize_nums, fsize, List.nil_append] <;> rfl)).mono ?_
  rintro e w4 ⟨rfl, v4, l4, b4, h⟩
  have H4 := Lib.hid h
  clear h
  go_wp2_with fail
  refine wp_region_lex (fun _ => True) 99 [(0, true), (1, true), (2, true), (3, true), (4, true), (5, true), (6, true), (7, true), (8, true), (9, true), (10, false), (11, false)] (by kernel_rfl) (by kernel_rfl) (by kernel_rfl) (by kernel_rfl) (fun _ _ d _ _ h => by cases d <;> exact h) ?_
  simp only [lexOps, List.map_cons, List.map_nil, List.getD_cons_zero, List.getD_cons_succ]
  iterate 10 (refine lex_read rfl trivial (v := ?_) (fun w' _ => ?_) ?_; rotate_left; (focus (go_simp; try with_reducible rfl)); simp only [Act.put, List.setIfInBounds_toArray, List.set_cons_zero, List.set_cons_succ])
  refine lex_do rfl (fun K hK => ?_)
  go_simp
  refine hK _ _ (fun _ => trivial) ?_
  clear hK K
  refine lex_do rfl (fun K hK => ?_)
  go_simp
  refine (CRd.goNums (rest := []) (k := 3) H4.out ((Upd.refl _ _).alloc _).drew (Nat.le_refl _) (Blk.drew (Blk.new _ _ [_, _, _])) (by simp only [fsize_append, fsize_nums, fsize, List.nil_append] <;> rfl) (by decide)).mono ?_
  rintro e w5 ⟨rfl, ns5, l5, b5, hn, h⟩
  have H5 := Lib.hid h
  have HN5 := Lib.hid hn
  clear hn
  refine hK _ _ (fun _ => trivial) ?_
  clear hK K h
  refine lex_nil ?_
  go_wp2_with fail
  go_end0
  exact CRd.fin H5.out (by simp only [List.map_append, nums_fst, HN5.out, List.append_assoc, List.map_cons, List.map_nil, List.nil_append]; rfl)
end Go.Proofs.Ythecincpejpmpaa
/- codec's form.report, reading. -/
namespace Go.Proofs.Ythecincpejpmpaa
open Go.RowKit Go.Lb Go.Rc

set_option maxRecDepth 20000 in
set_option maxHeartbeats 2000000 in
theorem report_reads : Reads 54 sReport := by
  intro B f p q tp pre post l b w h hB hpf hq hp
  subst hq
  have H0 := Lib.hid (RdSt.start (rest := [.num, .num]) h hB hpf hp (fr_mark h).2.2.2.1)
  clear h hp
  go_enter Try.func54, Try.ntmps54
  refine wp_region_lex (fun _ => True) 99 [(0, true), (1, true), (2, true), (3, true), (4, true), (5, true), (6, true), (7, false), (8, false)] (by kernel_rfl) (by kernel_rfl) (by kernel_rfl) (by kernel_rfl) (fun _ _ d _ _ h => by cases d <;> exact h) ?_
  simp only [lexOps, List.map_cons, List.map_nil, List.getD_cons_zero, List.getD_cons_succ]
  iterate 7 (refine lex_read rfl trivial (v := ?_) (fun w' _ => ?_) ?_; rotate_left; (focus (go_simp; try with_reducible rfl)); simp only [Act.put, List.setIfInBounds_toArray, List.set_cons_zero, List.set_cons_succ])
  refine lex_do rfl (fun K hK => ?_)
  go_simp
  refine hK _ _ (fun _ => trivial) ?_
  clear hK K
  refine lex_do rfl (fun K hK => ?_)
  go_simp
  refine (CRd.goNums (rest := []) (k := 2) H0.out ((Upd.refl _ _).alloc _).drew (Nat.le_refl _) (Blk.drew (Blk.new _ _ [_, _])) (by simp only [fsize_append, fsize_nums, fsize, List.nil_append] <;> rfl) (by decide)).mono ?_
  rintro e w1 ⟨rfl, ns1, l1, b1, hn, h⟩
  have H1 := Lib.hid h
  have HN1 := Lib.hid hn
  clear hn
  refine hK _ _ (fun _ => trivial) ?_
  clear hK K h
  refine lex_nil ?_
  go_wp2_with fail
  go_end0
  exact CRd.fin H1.out (by simp only [List.map_append, nums_fst, HN1.out, List.append_assoc, List.map_cons, List.map_nil, List.nil_append]; rfl)
end Go.Proofs.Ythecincpejpmpaa
/- codec's list[Report], reading. -/
namespace Go.Proofs.Ythecincpejpmpaa
open Go.RowKit Go.Lb Go.Rc

set_option maxRecDepth 20000 in
set_option maxHeartbeats 2000000 in
theorem listReport_reads : LReads 53 54 sReport := by
  intro B f p q tp pre post l b w h hB hpf hq hp
  obtain ⟨iT, hiT, hz0, hz1, hz2⟩ := info123
  subst hq
  have c0 := hp.cell (o := pre.length) mid_at
  obtain ⟨_, _, _, hf, hBf⟩ := fr_mark h
  have hplt := hp.lt
  have H := Lib.hid h
  have HP := Lib.hid hp
  clear h hp
  go_enter Try.func53, Try.ntmps53
  go_wp2_with fail
  refine (many_r B f 64 _ l b _ H.out).mono ?_
  rintro e w1 ⟨k, l1, b1, rfl, hk, h1, h2, h3⟩
  obtain ⟨m2, m3, m4, m5, _⟩ := fr_mark h1
  have HB1 := Lib.hid (h2.blk HP.out (by simpa using hpf))
  have HS : Hid (LRdSt sReport 113 cR [f, p] B f 123 2 w w1 k l b 0 l1 b1 (.slice none 0 0) [] []) := Lib.hid (LRdSt.start h1 (h2.mono (by simp)) (by simp; omega) h3)
  clear h1 h2 h3 H
  go_wp2_with fail
  go_loopg [9, 42] k (fun g u t wr => ∃ (i : Nat) (l' : List Nat) (b' : Bool) (v : Value) (xss : List (List Value)) (xs : List Val), t = .int .i64 i ∧ k - i = g ∧ i ≤ k ∧ Blk wr p tp (pre ++ [v] ++ post) ∧ LRdSt sReport 113 cR [f, p] B f 123 2 w wr k l b i l' b' v xss xs)
  case atStart => exact ⟨0, l1, b1, _, [], [], rfl, rfl, by omega, HB1.out, HS.out⟩
  case round =>
    obtain ⟨i, l', b', v, xss, xs, rfl, hg, hi, hbk, hS⟩ := hrel
    have HG := Lib.hid hg
    have HBK := Lib.hid hbk
    have HST := Lib.hid hS
    obtain ⟨n2, n3, n4, n5, _⟩ := fr_mark hS.fr
    have hsz := hS.upd.size
    clear hg hbk hS m2 m3 m4 m5
    by_cases hlt : i < k
    · have t1 : decide (i < k) = true := by simpa using hlt
      cases b' with
      | true =>
        have HE := Lib.hid (HST.out.rd (.inl rfl))
        go_wp2_with fail
        go_end0
        exact ⟨rfl, .list xs, [v], l', true, HST.out.fr, HST.out.upd, HBK.out, HST.out.isRep, HE.out⟩
      | false =>
      go_wp2_with (refine wpList_alloc_blk rfl 123 rfl sReport.zc (zero123 _) ?_; intro wB hb hu)
      have hN := HST.out.upd' hu
      refine (report_reads B f wr.heap.size 0 123 [] [] l' false wB hN.fr (by omega) (by omega) rfl (by simpa [Sch.zc] using hb)).mono ?_
      rintro e w2 ⟨rfl, x, us, l2, b2, h1, h2, h3, h4, h5⟩
      have hus : us.length = 2 := h4.len
      have hb2 : Blk w2 wr.heap.size 123 us := by simpa using h3
      have hU : Upd [f, p] wr w2 := (hu.mono (by simp)).trans h2 (by
        intro y hy
        simp only [List.mem_cons, List.not_mem_nil, or_false] at hy
        rcases hy with rfl | rfl
        · simp
        · exact .inr (Nat.le_refl _))
      have h4' : Sch.Rep w2 (Nw wr.heap.size w2) sReport us x := h4.mono (fun b hb _ => hb.go hu.size rfl)
      have hbp : Blk w2 p tp (pre ++ [v] ++ post) := by
        refine h2.blk (hu.blk HBK.out (by simp)) ?_
        simp; omega
      have hrow2 := (hN.row)
      have hrw : w2.ownsRow w.heap.size 123 2 v i xss.flatten := h2.row (hu.row HST.out.row (by simp)) (by
        intro y hy
        have := own_lo HST.out.row hy
        simp; omega)
      have hsz2 := hU.size
      have hl2 := hb2.lt
      obtain ⟨a, c, rfl⟩ := own_shape' hrw
      have HO := Lib.hid h4.one
      have HR : Hid (∀ w', Upd (Value.slice a i c).ownBlock.toList w2 w' → w'.cell? ⟨p, pre.length, none⟩ = some (.slice a i c) ∧ Blk w' wr.heap.size 123 us) := Lib.hid (by
        intro w' u
        refine ⟨(u.blk hbp ?_).cell mid_at, u.blk hb2 ?_⟩
        · intro hm
          have := own_lo HST.out.row (g := p) (by simpa using hm)
          omega
        · intro hm
          have := own_lo HST.out.row (g := wr.heap.size) (by simpa using hm)
          omega)
      have HST2 := HST
      have HU := Lib.hid hU
      have H4 := Lib.hid h4'
      have H5 := Lib.hid h5
      have H1 := Lib.hid h1
      have HRW := Lib.hid hrw
      have HBP := Lib.hid hbp
      have HUS := Lib.hid hus
      clear h1 h2 h3 h4 h5 hN hb hu hbp hrow2 hrw hU h4' hus
      go_wp2_with fail
      refine wp_region_lex (fun w' => Upd (Value.slice a i c).ownBlock.toList w2 w') 8 [(0, true), (1, true), (2, true), (3, true), (4, true), (5, false), (6, false), (7, false), (8, false)] (by kernel_rfl) (by kernel_rfl) (by kernel_rfl) (by kernel_rfl) (fun _ _ d _ _ h => by cases d <;> exact h) ?_
      simp only [lexOps, List.map_cons, List.map_nil, List.getD_cons_zero, List.getD_cons_succ]
      have hS0 : Upd (Value.slice a i c).ownBlock.toList w2 w2.drew := (Upd.refl _ _).drew
      iterate 4 (refine lex_read rfl (by exact hS0) (v := ?_) (fun w' hw => ?_) ?_; rotate_left; (focus (obtain ⟨k1, k2⟩ := HR.out w' hw; clear k2; go_simp; try with_reducible rfl)); simp only [Act.put, List.setIfInBounds_toArray, List.set_cons_zero, List.set_cons_succ])
      refine lex_read rfl (by exact hS0) (fun w' hw => exec_load (by rfl) (by rfl) (run_loadAt_mid w' wr.heap.size 0 123 us _ (HR.out w' hw).2.range Try.underlying123 rfl (by rw [HUS.out]; exact Try.size123))) ?_
      try simp only [Act.put, List.setIfInBounds_toArray, List.set_cons_zero, List.set_cons_succ]
      refine lex_run rfl (exec_buildSlice (by rfl) (by simp [Act.eval]) (run_buildSlice1 _ 40 123 iT _ us 2 Try.underlying40 hiT hz0 hz1 HUS.out (by decide) (by decide))) (fun _ => hS0.alloc _) ?_
      try simp only [Act.put, List.setIfInBounds_toArray, List.set_cons_zero, List.set_cons_succ]
      have h64 : k ≤ 64 := hk
      have hB2 : Blk (w2.drew.alloc (.cells us.toArray 123)) w2.heap.size 123 us := Blk.new w2.drew _ _
      refine lex_do rfl (fun K hK => ?_)
      refine wp_append_mine (.tmp 53) (.tmp 55) 40 rfl w.heap.size 123 iT _ 2 _ Try.underlying40 hiT hz0 hz1 hz2 rfl (by decide) (.slice a i c) i xss.flatten rfl (World.ownsRow.alloc HRW.out _) ⟨w2.heap.size, 0, none⟩ 1 1 us rfl (by rw [HUS.out]) hB2.news (HO.out) (by unfold maxLen; omega) (by omega) (by have := HST.out.upd.size; simp; omega) ?_
      intro v' w3 hown hg hv
      have uA : Upd [f, p] wr (w2.drew.alloc (.cells us.toArray 123)) := (HU.out.drew).alloc _
      have hF : Fr B w3 f l2 b2 := by
        obtain ⟨a', c', hI⟩ := H1.out
        have hI2 : In 113 cR B (w2.drew.alloc (.cells us.toArray 123)) f l2 b2 a' c' := hI.upd (F := []) ((Upd.refl [] w2).drew.alloc _) (by simp)
        refine ⟨a', c', hI2.upd (F := (Value.slice a i c).ownBlock.toList) ((Upd.refl _ _).grown hg (fun k hk => .inl (by simp [hk]))) (fun k hk => ?_)⟩
        have := own_lo HST.out.row (g := k) (by simpa using hk)
        omega
      have hbp3 : Blk w3 p tp (pre ++ [.slice a i c] ++ post) := by
        have hb4 : Blk (w2.drew.alloc (.cells us.toArray 123)) p tp (pre ++ [.slice a i c] ++ post) := (HBP.out.drew).alloc _
        refine (hg.block p hb4.lt (fun e => ?_)).trans hb4
        have := own_lo HST.out.row (g := p) e.symm
        omega
      have q1 := hbp3.cell (o := pre.length) mid_at
      have q2 := hbp3.frozen pre.length
      have q3 := hbp3.lt
      have uS : Upd [p] w3 (w3.setCell ⟨p, pre.length, none⟩ v') := (Upd.refl _ _).setCell (by simp) _
      have HX : Hid (Blk (w3.setCell ⟨p, pre.length, none⟩ v') p tp (pre ++ [v'] ++ post) ∧ LRdSt sReport 113 cR [f, p] B f 123 2 w (w3.setCell ⟨p, pre.length, none⟩ v') k l b (i + 1) l2 b2 v' (xss ++ [us]) (xs ++ [x])) := by
        refine Lib.hid ⟨?_, LRdSt.next HST.out hlt uA (H4.out.updN ((Upd.refl [] w2).drew.alloc _) (by simp)) HUS.out H5.out hg hown ?_ (uS.mono (by simp)) (hF.upd uS (by simp; omega))⟩
        · have := hbp3.set pre.length v'
          rwa [mid_set] at this
        · rcases hv with h | h
          · exact .inl h
          · exact .inr h
      have hS3 : Upd (Value.slice a i c).ownBlock.toList w2 w3 := (hS0.alloc _).grown hg (fun k hk => .inl (by simp [hk]))
      refine hK _ _ (fun _ => hS3) ?_
      obtain ⟨a', c', rfl⟩ := own_shape' hown
      clear hK K hown hg hv uA hF hbp3 uS hB2 hS0
      try simp only [Act.put, List.setIfInBounds_toArray, List.set_cons_zero, List.set_cons_succ]
      refine lex_do rfl (fun K hK => ?_)
      go_simp
      refine hK _ _ (fun _ => hS3) ?_
      clear hK K hS3
      try simp only [Act.put, List.setIfInBounds_toArray, List.set_cons_zero, List.set_cons_succ]
      refine lex_do rfl (fun K hK => ?_)
      go_simp
      refine hK _ _ (fun h => absurd rfl h) ?_
      clear hK K
      try simp only [Act.put, List.setIfInBounds_toArray, List.set_cons_zero, List.set_cons_succ]
      refine lex_nil ?_
      go_wp2_with fail
      go_roundg (k - (i + 1))
      case measure => have := HG.out; omega
      case rel => exact ⟨i + 1, l2, b2, _, _, _, by go_num, rfl, by omega, HX.out.1, HX.out.2⟩
    · obtain rfl : i = k := by omega
      have HE := Lib.hid (HST.out.rd (.inr rfl))
      go_wp2_with fail
      go_end0
      exact ⟨rfl, .list xs, [v], l', b', HST.out.fr, HST.out.upd, HBK.out, HST.out.isRep, HE.out⟩
end Go.Proofs.Ythecincpejpmpaa
/- codec's list[int], reading. -/
namespace Go.Proofs.Ythecincpejpmpaa
open Go.RowKit Go.Lb Go.Rc

set_option maxRecDepth 20000 in
set_option maxHeartbeats 2000000 in
theorem listint_reads : LReads 85 80 .num := by
  intro B f p q tp pre post l b w h hB hpf hq hp
  obtain ⟨iT, hiT, hz0, hz1, hz2⟩ := info3
  subst hq
  have c0 := hp.cell (o := pre.length) mid_at
  obtain ⟨_, _, _, hf, hBf⟩ := fr_mark h
  have hplt := hp.lt
  have H := Lib.hid h
  have HP := Lib.hid hp
  clear h hp
  go_enter Try.func85, Try.ntmps85
  go_wp2_with fail
  refine (many_r B f 64 _ l b _ H.out).mono ?_
  rintro e w1 ⟨k, l1, b1, rfl, hk, h1, h2, h3⟩
  obtain ⟨m2, m3, m4, m5, _⟩ := fr_mark h1
  have HB1 := Lib.hid (h2.blk HP.out (by simpa using hpf))
  have HS : Hid (LRdSt .num 113 cR [f, p] B f 3 1 w w1 k l b 0 l1 b1 (.slice none 0 0) [] []) := Lib.hid (LRdSt.start h1 (h2.mono (by simp)) (by simp; omega) h3)
  clear h1 h2 h3 H
  go_wp2_with fail
  go_loopg [9, 42] k (fun g u t wr => ∃ (i : Nat) (l' : List Nat) (b' : Bool) (v : Value) (xss : List (List Value)) (xs : List Val), t = .int .i64 i ∧ k - i = g ∧ i ≤ k ∧ Blk wr p tp (pre ++ [v] ++ post) ∧ LRdSt .num 113 cR [f, p] B f 3 1 w wr k l b i l' b' v xss xs)
  case atStart => exact ⟨0, l1, b1, _, [], [], rfl, rfl, by omega, HB1.out, HS.out⟩
  case round =>
    obtain ⟨i, l', b', v, xss, xs, rfl, hg, hi, hbk, hS⟩ := hrel
    have HG := Lib.hid hg
    have HBK := Lib.hid hbk
    have HST := Lib.hid hS
    obtain ⟨n2, n3, n4, n5, _⟩ := fr_mark hS.fr
    have hsz := hS.upd.size
    clear hg hbk hS m2 m3 m4 m5
    by_cases hlt : i < k
    · have t1 : decide (i < k) = true := by simpa using hlt
      cases b' with
      | true =>
        have HE := Lib.hid (HST.out.rd (.inl rfl))
        go_wp2_with fail
        go_end0
        exact ⟨rfl, .list xs, [v], l', true, HST.out.fr, HST.out.upd, HBK.out, HST.out.isRep, HE.out⟩
      | false =>
      go_wp2_with fail
      generalize hwB : World.alloc _ _ = wB
      have hb : Blk wB wr.heap.size 3 [.int .i64 0] := by subst hwB; exact Blk.new _ _ _
      have hu : Upd [] wr wB := by subst hwB; exact (Upd.refl _ _).alloc _
      have hN := HST.out.upd' hu
      refine (num_reads B f wr.heap.size 0 3 [] [] l' false wB hN.fr (by omega) (by omega) rfl (by simpa [Sch.zc] using hb)).mono ?_
      rintro e w2 ⟨rfl, x, us, l2, b2, h1, h2, h3, h4, h5⟩
      have hus : us.length = 1 := h4.len
      have hb2 : Blk w2 wr.heap.size 3 us := by simpa using h3
      have hU : Upd [f, p] wr w2 := (hu.mono (by simp)).trans h2 (by
        intro y hy
        simp only [List.mem_cons, List.not_mem_nil, or_false] at hy
        rcases hy with rfl | rfl
        · simp
        · exact .inr (Nat.le_refl _))
      have h4' : Sch.Rep w2 (Nw wr.heap.size w2) .num us x := h4.mono (fun b hb _ => hb.go hu.size rfl)
      have hbp : Blk w2 p tp (pre ++ [v] ++ post) := by
        refine h2.blk (hu.blk HBK.out (by simp)) ?_
        simp; omega
      have hrow2 := (hN.row)
      have hrw : w2.ownsRow w.heap.size 3 1 v i xss.flatten := h2.row (hu.row HST.out.row (by simp)) (by
        intro y hy
        have := own_lo HST.out.row hy
        simp; omega)
      have hsz2 := hU.size
      have hl2 := hb2.lt
      obtain ⟨a, c, rfl⟩ := own_shape' hrw
      have h4c := h4
      obtain ⟨nn, rfl, rfl⟩ := h4c
      have HR : Hid (∀ w', Upd (Value.slice a i c).ownBlock.toList w2 w' → w'.cell? ⟨p, pre.length, none⟩ = some (.slice a i c) ∧ Blk w' wr.heap.size 3 [.int .i64 nn]) := Lib.hid (by
        intro w' u
        refine ⟨(u.blk hbp ?_).cell mid_at, u.blk hb2 ?_⟩
        · intro hm
          have := own_lo HST.out.row (g := p) (by simpa using hm)
          omega
        · intro hm
          have := own_lo HST.out.row (g := wr.heap.size) (by simpa using hm)
          omega)
      have HST2 := HST
      have HU := Lib.hid hU
      have H4 := Lib.hid h4'
      have H5 := Lib.hid h5
      have H1 := Lib.hid h1
      have HRW := Lib.hid hrw
      have HBP := Lib.hid hbp
      have HUS := Lib.hid hus
      clear h1 h2 h3 h4 h5 hN hb hu hbp hrow2 hrw hU h4' hus
      go_wp2_with fail
      refine wp_region_lex (fun w' => Upd (Value.slice a i c).ownBlock.toList w2 w') 8 [(0, true), (1, true), (2, true), (3, true), (4, true), (5, false), (6, false), (7, false), (8, false)] (by kernel_rfl) (by kernel_rfl) (by kernel_rfl) (by kernel_rfl) (fun _ _ d _ _ h => by cases d <;> exact h) ?_
      simp only [lexOps, List.map_cons, List.map_nil, List.getD_cons_zero, List.getD_cons_succ]
      have hS0 : Upd (Value.slice a i c).ownBlock.toList w2 w2.drew := (Upd.refl _ _).drew
      iterate 4 (refine lex_read rfl (by exact hS0) (v := ?_) (fun w' hw => ?_) ?_; rotate_left; (focus (obtain ⟨k1, k2⟩ := HR.out w' hw; clear k2; go_simp; try with_reducible rfl)); simp only [Act.put, List.setIfInBounds_toArray, List.set_cons_zero, List.set_cons_succ])
      refine lex_read rfl (by exact hS0) (v := .int .i64 nn) (fun w' hw => ?_) ?_
      · have k2 := (HR.out w' hw).2.cell (o := 0) rfl
        go_simp
      try simp only [Act.put, List.setIfInBounds_toArray, List.set_cons_zero, List.set_cons_succ]
      refine lex_run (w' := w2.drew.alloc (.cells #[.int .i64 nn] 3)) rfl (v := .slice (some ⟨w2.heap.size, 0, none⟩) 1 1) (by go_simp) (fun _ => hS0.alloc _) ?_
      try simp only [Act.put, List.setIfInBounds_toArray, List.set_cons_zero, List.set_cons_succ]
      have h64 : k ≤ 64 := hk
      have hB2 : Blk (w2.drew.alloc (.cells #[.int .i64 nn] 3)) w2.heap.size 3 [.int .i64 nn] := Blk.new w2.drew _ _
      refine lex_do rfl (fun K hK => ?_)
      refine wp_append_mine (.tmp 53) (.tmp 55) 41 rfl w.heap.size 3 iT _ 1 _ Try.underlying41 hiT hz0 hz1 hz2 rfl (by decide) (.slice a i c) i xss.flatten rfl (World.ownsRow.alloc HRW.out _) ⟨w2.heap.size, 0, none⟩ 1 1 [.int .i64 nn] rfl (by rw [HUS.out]) hB2.news (by intro u hu; simp at hu; subst hu; rfl) (by unfold maxLen; omega) (by omega) (by have := HST.out.upd.size; simp; omega) ?_
      intro v' w3 hown hg hv
      have uA : Upd [f, p] wr (w2.drew.alloc (.cells #[.int .i64 nn] 3)) := (HU.out.drew).alloc _
      have hF : Fr B w3 f l2 b2 := by
        obtain ⟨a', c', hI⟩ := H1.out
        have hI2 : In 113 cR B (w2.drew.alloc (.cells #[.int .i64 nn] 3)) f l2 b2 a' c' := hI.upd (F := []) ((Upd.refl [] w2).drew.alloc _) (by simp)
        refine ⟨a', c', hI2.upd (F := (Value.slice a i c).ownBlock.toList) ((Upd.refl _ _).grown hg (fun k hk => .inl (by simp [hk]))) (fun k hk => ?_)⟩
        have := own_lo HST.out.row (g := k) (by simpa using hk)
        omega
      have hbp3 : Blk w3 p tp (pre ++ [.slice a i c] ++ post) := by
        have hb4 : Blk (w2.drew.alloc (.cells #[.int .i64 nn] 3)) p tp (pre ++ [.slice a i c] ++ post) := (HBP.out.drew).alloc _
        refine (hg.block p hb4.lt (fun e => ?_)).trans hb4
        have := own_lo HST.out.row (g := p) e.symm
        omega
      have q1 := hbp3.cell (o := pre.length) mid_at
      have q2 := hbp3.frozen pre.length
      have q3 := hbp3.lt
      have uS : Upd [p] w3 (w3.setCell ⟨p, pre.length, none⟩ v') := (Upd.refl _ _).setCell (by simp) _
      have HX : Hid (Blk (w3.setCell ⟨p, pre.length, none⟩ v') p tp (pre ++ [v'] ++ post) ∧ LRdSt .num 113 cR [f, p] B f 3 1 w (w3.setCell ⟨p, pre.length, none⟩ v') k l b (i + 1) l2 b2 v' (xss ++ [[.int .i64 nn]]) (xs ++ [.num nn])) := by
        refine Lib.hid ⟨?_, LRdSt.next HST.out hlt uA (H4.out.updN ((Upd.refl [] w2).drew.alloc _) (by simp)) HUS.out H5.out hg hown ?_ (uS.mono (by simp)) (hF.upd uS (by simp; omega))⟩
        · have := hbp3.set pre.length v'
          rwa [mid_set] at this
        · rcases hv with h | h
          · exact .inl h
          · exact .inr h
      have hS3 : Upd (Value.slice a i c).ownBlock.toList w2 w3 := (hS0.alloc _).grown hg (fun k hk => .inl (by simp [hk]))
      refine hK _ _ (fun _ => hS3) ?_
      obtain ⟨a', c', rfl⟩ := own_shape' hown
      clear hK K hown hg hv uA hF hbp3 uS hB2 hS0
      try simp only [Act.put, List.setIfInBounds_toArray, List.set_cons_zero, List.set_cons_succ]
      refine lex_do rfl (fun K hK => ?_)
      go_simp
      refine hK _ _ (fun _ => hS3) ?_
      clear hK K hS3
      try simp only [Act.put, List.setIfInBounds_toArray, List.set_cons_zero, List.set_cons_succ]
      refine lex_do rfl (fun K hK => ?_)
      go_simp
      refine hK _ _ (fun h => absurd rfl h) ?_
      clear hK K
      try simp only [Act.put, List.setIfInBounds_toArray, List.set_cons_zero, List.set_cons_succ]
      refine lex_nil ?_
      go_wp2_with fail
      go_roundg (k - (i + 1))
      case measure => have := HG.out; omega
      case rel => exact ⟨i + 1, l2, b2, _, _, _, by go_num, rfl, by omega, HX.out.1, HX.out.2⟩
    · obtain rfl : i = k := by omega
      have HE := Lib.hid (HST.out.rd (.inr rfl))
      go_wp2_with fail
      go_end0
      exact ⟨rfl, .list xs, [v], l', b', HST.out.fr, HST.out.upd, HBK.out, HST.out.isRep, HE.out⟩
end Go.Proofs.Ythecincpejpmpaa
