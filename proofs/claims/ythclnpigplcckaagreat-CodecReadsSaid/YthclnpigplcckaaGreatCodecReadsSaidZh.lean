/- A part of the proof of CodecReadsSaid: the texts that it leans on, one behind the other. No condition but those that each theorem states. -/
import Derived.Test.YthclnpigplcckaaGreatCodecReadsSaidZg
set_option linter.unusedVariables false
set_option linter.unusedSimpArgs false
/- codec's list[Eval], reading. -/
namespace Go.Proofs.YthclnpigplcckaaGreat
open Go.RowKit Go.Lb Go.Rc

set_option maxRecDepth 20000 in
set_option maxHeartbeats 2000000 in
theorem listEval_reads : LReads 81 82 sEval := by
  intro B f p q tp pre post l b w h hB hpf hq hp
  obtain ⟨iT, hiT, hz0, hz1, hz2⟩ := info167
  subst hq
  have c0 := hp.cell (o := pre.length) mid_at
  obtain ⟨_, _, _, hf, hBf⟩ := fr_mark h
  have hplt := hp.lt
  have H := Lib.hid h
  have HP := Lib.hid hp
  clear h hp
  go_enter Tryz.func81, Tryz.ntmps81
  go_wp2_with fail
  refine (many_r B f 64 _ l b _ H.out).mono ?_
  rintro e w1 ⟨k, l1, b1, rfl, hk, h1, h2, h3⟩
  obtain ⟨m2, m3, m4, m5, _⟩ := fr_mark h1
  have HB1 := Lib.hid (h2.blk HP.out (by simpa using hpf))
  have HS : Hid (LRdSt sEval 108 cR [f, p] B f 167 4 w w1 k l b 0 l1 b1 (.slice none 0 0) [] []) := Lib.hid (LRdSt.start h1 (h2.mono (by simp)) (by simp; omega) h3)
  clear h1 h2 h3 H
  go_wp2_with fail
  go_loopg [9, 42] k (fun g u t wr => ∃ (i : Nat) (l' : List Nat) (b' : Bool) (v : Value) (xss : List (List Value)) (xs : List Val), t = .int .i64 i ∧ k - i = g ∧ i ≤ k ∧ Blk wr p tp (pre ++ [v] ++ post) ∧ LRdSt sEval 108 cR [f, p] B f 167 4 w wr k l b i l' b' v xss xs)
  case atStart => exact ⟨0, l1, b1, _, [], [], rfl, rfl, by omega, HB1.out, HS.out⟩
  case round =>
    obtain ⟨i, l', b', v, xss, xs, rfl, hg, hi, hbk, hS⟩ := hrel
    have HG := Lib.hid hg
    have HBK := Lib.hid hbk
    have HST := Lib.hid hS
    obtain ⟨n2, n3, n4, n5, _⟩ := fr_mark hS.fr
    have hsz := hS.upd.size
    clear hg hbk hS m2 m3 m4 m5
    by_cases hlt : i < k
    · have t1 : decide (i < k) = true := by simpa using hlt
      cases b' with
      | true =>
        have HE := Lib.hid (HST.out.rd (.inl rfl))
        go_wp2_with fail
        go_end0
        exact ⟨rfl, .list xs, [v], l', true, HST.out.fr, HST.out.upd, HBK.out, HST.out.isRep, HE.out⟩
      | false =>
      go_wp2_with (refine wpList_alloc_blk rfl 167 rfl sEval.zc (zero167 _) ?_; intro wB hb hu)
      have hN := HST.out.upd' hu
      refine (eval_reads B f wr.heap.size 0 167 [] [] l' false wB hN.fr (by omega) (by omega) rfl (by simpa [Sch.zc] using hb)).mono ?_
      rintro e w2 ⟨rfl, x, us, l2, b2, h1, h2, h3, h4, h5⟩
      have hus : us.length = 4 := h4.len
      have hb2 : Blk w2 wr.heap.size 167 us := by simpa using h3
      have hU : Upd [f, p] wr w2 := (hu.mono (by simp)).trans h2 (by
        intro y hy
        simp only [List.mem_cons, List.not_mem_nil, or_false] at hy
        rcases hy with rfl | rfl
        · simp
        · exact .inr (Nat.le_refl _))
      have h4' : Sch.Rep w2 (Nw wr.heap.size w2) sEval us x := h4.mono (fun b hb _ => hb.go hu.size rfl)
      have hbp : Blk w2 p tp (pre ++ [v] ++ post) := by
        refine h2.blk (hu.blk HBK.out (by simp)) ?_
        simp; omega
      have hrow2 := (hN.row)
      have hrw : w2.ownsRow w.heap.size 167 4 v i xss.flatten := h2.row (hu.row HST.out.row (by simp)) (by
        intro y hy
        have := own_lo HST.out.row hy
        simp; omega)
      have hsz2 := hU.size
      have hl2 := hb2.lt
      obtain ⟨a, c, rfl⟩ := own_shape' hrw
      have HO := Lib.hid h4.one
      have HR : Hid (∀ w', Upd (Value.slice a i c).ownBlock.toList w2 w' → w'.cell? ⟨p, pre.length, none⟩ = some (.slice a i c) ∧ Blk w' wr.heap.size 167 us) := Lib.hid (by
        intro w' u
        refine ⟨(u.blk hbp ?_).cell mid_at, u.blk hb2 ?_⟩
        · intro hm
          have := own_lo HST.out.row (g := p) (by simpa using hm)
          omega
        · intro hm
          have := own_lo HST.out.row (g := wr.heap.size) (by simpa using hm)
          omega)
      have HST2 := HST
      have HU := Lib.hid hU
      have H4 := Lib.hid h4'
      have H5 := Lib.hid h5
      have H1 := Lib.hid h1
      have HRW := Lib.hid hrw
      have HBP := Lib.hid hbp
      have HUS := Lib.hid hus
      clear h1 h2 h3 h4 h5 hN hb hu hbp hrow2 hrw hU h4' hus
      go_wp2_with fail
      refine wp_region_lex (fun w' => Upd (Value.slice a i c).ownBlock.toList w2 w') 8 [(0, true), (1, true), (2, true), (3, true), (4, true), (5, false), (6, false), (7, false), (8, false)] (by kernel_rfl) (by kernel_rfl) (by kernel_rfl) (by kernel_rfl) (fun _ _ d _ _ h => by cases d <;> exact h) ?_
      simp only [lexOps, List.map_cons, List.map_nil, List.getD_cons_zero, List.getD_cons_succ]
      have hS0 : Upd (Value.slice a i c).ownBlock.toList w2 w2.drew := (Upd.refl _ _).drew
      iterate 4 (refine lex_read rfl (by exact hS0) (v := ?_) (fun w' hw => ?_) ?_; rotate_left; (focus (obtain ⟨k1, k2⟩ := HR.out w' hw; clear k2; go_simp; try with_reducible rfl)); simp only [Act.put, List.setIfInBounds_toArray, List.set_cons_zero, List.set_cons_succ])
      refine lex_read rfl (by exact hS0) (fun w' hw => exec_load (by rfl) (by rfl) (run_loadAt_mid w' wr.heap.size 0 167 us _ (HR.out w' hw).2.range Tryz.underlying167 rfl (by rw [HUS.out]; exact Tryz.size167))) ?_
      try simp only [Act.put, List.setIfInBounds_toArray, List.set_cons_zero, List.set_cons_succ]
      refine lex_run rfl (exec_buildSlice (by rfl) (by simp [Act.eval]) (run_buildSlice1 _ 66 167 iT _ us 4 Tryz.underlying66 hiT hz0 hz1 HUS.out (by decide) (by decide))) (fun _ => hS0.alloc _) ?_
      try simp only [Act.put, List.setIfInBounds_toArray, List.set_cons_zero, List.set_cons_succ]
      have h64 : k ≤ 64 := hk
      have hB2 : Blk (w2.drew.alloc (.cells us.toArray 167)) w2.heap.size 167 us := Blk.new w2.drew _ _
      refine lex_do rfl (fun K hK => ?_)
      refine wp_append_mine (.tmp 53) (.tmp 55) 66 rfl w.heap.size 167 iT _ 4 _ Tryz.underlying66 hiT hz0 hz1 hz2 rfl (by decide) (.slice a i c) i xss.flatten rfl (World.ownsRow.alloc HRW.out _) ⟨w2.heap.size, 0, none⟩ 1 1 us rfl (by rw [HUS.out]) hB2.news (HO.out) (by unfold maxLen; omega) (by omega) (by have := HST.out.upd.size; simp; omega) ?_
      intro v' w3 hown hg hv
      have uA : Upd [f, p] wr (w2.drew.alloc (.cells us.toArray 167)) := (HU.out.drew).alloc _
      have hF : Fr B w3 f l2 b2 := by
        obtain ⟨a', c', hI⟩ := H1.out
        have hI2 : In 108 cR B (w2.drew.alloc (.cells us.toArray 167)) f l2 b2 a' c' := hI.upd (F := []) ((Upd.refl [] w2).drew.alloc _) (by simp)
        refine ⟨a', c', hI2.upd (F := (Value.slice a i c).ownBlock.toList) ((Upd.refl _ _).grown hg (fun k hk => .inl (by simp [hk]))) (fun k hk => ?_)⟩
        have := own_lo HST.out.row (g := k) (by simpa using hk)
        omega
      have hbp3 : Blk w3 p tp (pre ++ [.slice a i c] ++ post) := by
        have hb4 : Blk (w2.drew.alloc (.cells us.toArray 167)) p tp (pre ++ [.slice a i c] ++ post) := (HBP.out.drew).alloc _
        refine (hg.block p hb4.lt (fun e => ?_)).trans hb4
        have := own_lo HST.out.row (g := p) e.symm
        omega
      have q1 := hbp3.cell (o := pre.length) mid_at
      have q2 := hbp3.frozen pre.length
      have q3 := hbp3.lt
      have uS : Upd [p] w3 (w3.setCell ⟨p, pre.length, none⟩ v') := (Upd.refl _ _).setCell (by simp) _
      have HX : Hid (Blk (w3.setCell ⟨p, pre.length, none⟩ v') p tp (pre ++ [v'] ++ post) ∧ LRdSt sEval 108 cR [f, p] B f 167 4 w (w3.setCell ⟨p, pre.length, none⟩ v') k l b (i + 1) l2 b2 v' (xss ++ [us]) (xs ++ [x])) := by
        refine Lib.hid ⟨?_, LRdSt.next HST.out hlt uA (H4.out.updN ((Upd.refl [] w2).drew.alloc _) (by simp)) HUS.out H5.out hg hown ?_ (uS.mono (by simp)) (hF.upd uS (by simp; omega))⟩
        · have := hbp3.set pre.length v'
          rwa [mid_set] at this
        · rcases hv with h | h
          · exact .inl h
          · exact .inr h
      have hS3 : Upd (Value.slice a i c).ownBlock.toList w2 w3 := (hS0.alloc _).grown hg (fun k hk => .inl (by simp [hk]))
      refine hK _ _ (fun _ => hS3) ?_
      obtain ⟨a', c', rfl⟩ := own_shape' hown
      clear hK K hown hg hv uA hF hbp3 uS hB2 hS0
      try simp only [Act.put, List.setIfInBounds_toArray, List.set_cons_zero, List.set_cons_succ]
      refine lex_do rfl (fun K hK => ?_)
      go_simp
      refine hK _ _ (fun _ => hS3) ?_
      clear hK K hS3
      try simp only [Act.put, List.setIfInBounds_toArray, List.set_cons_zero, List.set_cons_succ]
      refine lex_do rfl (fun K hK => ?_)
      go_simp
      refine hK _ _ (fun h => absurd rfl h) ?_
      clear hK K
      try simp only [Act.put, List.setIfInBounds_toArray, List.set_cons_zero, List.set_cons_succ]
      refine lex_nil ?_
      go_wp2_with fail
      go_roundg (k - (i + 1))
      case measure => have := HG.out; omega
      case rel => exact ⟨i + 1, l2, b2, _, _, _, by go_num, rfl, by omega, HX.out.1, HX.out.2⟩
    · obtain rfl : i = k := by omega
      have HE := Lib.hid (HST.out.rd (.inr rfl))
      go_wp2_with fail
      go_end0
      exact ⟨rfl, .list xs, [v], l', b', HST.out.fr, HST.out.upd, HBK.out, HST.out.isRep, HE.out⟩
end Go.Proofs.YthclnpigplcckaaGreat
/- codec's form.deploy, reading. -/
namespace Go.Proofs.YthclnpigplcckaaGreat
open Go.RowKit Go.Lb Go.Rc

set_option maxRecDepth 20000 in
set_option maxHeartbeats 2000000 in
theorem deploy_reads : Reads 84 sDeploy := by
  intro B f p q tp pre post l b w h hB hpf hq hp
  subst hq
  have H0 := Lib.hid (RdSt.start (rest := [.num, .num, .num, .num]) h hB hpf hp (fr_mark h).2.2.2.1)
  clear h hp
  go_enter Tryz.func84, Tryz.ntmps84
  refine wp_region_lex (fun _ => True) 99 [(0, true), (1, true), (2, true), (3, true), (4, true), (5, true), (6, true), (7, true), (8, true), (9, true), (10, true), (11, true), (12, true), (13, false), (14, false)] (by kernel_rfl) (by kernel_rfl) (by kernel_rfl) (by kernel_rfl) (fun _ _ d _ _ h => by cases d <;> exact h) ?_
  simp only [lexOps, List.map_cons, List.map_nil, List.getD_cons_zero, List.getD_cons_succ]
  iterate 13 (refine lex_read rfl trivial (v := ?_) (fun w' _ => ?_) ?_; rotate_left; (focus (go_simp; try with_reducible rfl)); simp only [Act.put, List.setIfInBounds_toArray, List.set_cons_zero, List.set_cons_succ])
  refine lex_do rfl (fun K hK => ?_)
  go_simp
  refine hK _ _ (fun _ => trivial) ?_
  clear hK K
  refine lex_do rfl (fun K hK => ?_)
  go_simp
  refine (CRd.goNums (rest := []) (k := 4) H0.out ((Upd.refl _ _).alloc _).drew (Nat.le_refl _) (Blk.drew (Blk.new _ _ [_, _, _, _])) (by simp only [fsize_append, fsize_nums, fsize, List.nil_append] <;> rfl) (by decide)).mono ?_
  rintro e w1 ⟨rfl, ns1, l1, b1, hn, h⟩
  have H1 := Lib.hid h
  have HN1 := Lib.hid hn
  clear hn
  refine hK _ _ (fun _ => trivial) ?_
  clear hK K h
  refine lex_nil ?_
  go_wp2_with fail
  go_end0
  exact CRd.fin H1.out (by simp only [List.map_append, nums_fst, HN1.out, List.append_assoc, List.map_cons, List.map_nil, List.nil_append]; rfl)
end Go.Proofs.YthclnpigplcckaaGreat
/- codec's list[Deploy], reading. -/
namespace Go.Proofs.YthclnpigplcckaaGreat
open Go.RowKit Go.Lb Go.Rc

set_option maxRecDepth 20000 in
set_option maxHeartbeats 2000000 in
theorem listDeploy_reads : LReads 83 84 sDeploy := by
  intro B f p q tp pre post l b w h hB hpf hq hp
  obtain ⟨iT, hiT, hz0, hz1, hz2⟩ := info172
  subst hq
  have c0 := hp.cell (o := pre.length) mid_at
  obtain ⟨_, _, _, hf, hBf⟩ := fr_mark h
  have hplt := hp.lt
  have H := Lib.hid h
  have HP := Lib.hid hp
  clear h hp
  go_enter Tryz.func83, Tryz.ntmps83
  go_wp2_with fail
  refine (many_r B f 64 _ l b _ H.out).mono ?_
  rintro e w1 ⟨k, l1, b1, rfl, hk, h1, h2, h3⟩
  obtain ⟨m2, m3, m4, m5, _⟩ := fr_mark h1
  have HB1 := Lib.hid (h2.blk HP.out (by simpa using hpf))
  have HS : Hid (LRdSt sDeploy 108 cR [f, p] B f 172 4 w w1 k l b 0 l1 b1 (.slice none 0 0) [] []) := Lib.hid (LRdSt.start h1 (h2.mono (by simp)) (by simp; omega) h3)
  clear h1 h2 h3 H
  go_wp2_with fail
  go_loopg [9, 42] k (fun g u t wr => ∃ (i : Nat) (l' : List Nat) (b' : Bool) (v : Value) (xss : List (List Value)) (xs : List Val), t = .int .i64 i ∧ k - i = g ∧ i ≤ k ∧ Blk wr p tp (pre ++ [v] ++ post) ∧ LRdSt sDeploy 108 cR [f, p] B f 172 4 w wr k l b i l' b' v xss xs)
  case atStart => exact ⟨0, l1, b1, _, [], [], rfl, rfl, by omega, HB1.out, HS.out⟩
  case round =>
    obtain ⟨i, l', b', v, xss, xs, rfl, hg, hi, hbk, hS⟩ := hrel
    have HG := Lib.hid hg
    have HBK := Lib.hid hbk
    have HST := Lib.hid hS
    obtain ⟨n2, n3, n4, n5, _⟩ := fr_mark hS.fr
    have hsz := hS.upd.size
    clear hg hbk hS m2 m3 m4 m5
    by_cases hlt : i < k
    · have t1 : decide (i < k) = true := by simpa using hlt
      cases b' with
      | true =>
        have HE := Lib.hid (HST.out.rd (.inl rfl))
        go_wp2_with fail
        go_end0
        exact ⟨rfl, .list xs, [v], l', true, HST.out.fr, HST.out.upd, HBK.out, HST.out.isRep, HE.out⟩
      | false =>
      go_wp2_with (refine wpList_alloc_blk rfl 172 rfl sDeploy.zc (zero172 _) ?_; intro wB hb hu)
      have hN := HST.out.upd' hu
      refine (deploy_reads B f wr.heap.size 0 172 [] [] l' false wB hN.fr (by omega) (by omega) rfl (by simpa [Sch.zc] using hb)).mono ?_
      rintro e w2 ⟨rfl, x, us, l2, b2, h1, h2, h3, h4, h5⟩
      have hus : us.length = 4 := h4.len
      have hb2 : Blk w2 wr.heap.size 172 us := by simpa using h3
      have hU : Upd [f, p] wr w2 := (hu.mono (by simp)).trans h2 (by
        intro y hy
        simp only [List.mem_cons, List.not_mem_nil, or_false] at hy
        rcases hy with rfl | rfl
        · simp
        · exact .inr (Nat.le_refl _))
      have h4' : Sch.Rep w2 (Nw wr.heap.size w2) sDeploy us x := h4.mono (fun b hb _ => hb.go hu.size rfl)
      have hbp : Blk w2 p tp (pre ++ [v] ++ post) := by
        refine h2.blk (hu.blk HBK.out (by simp)) ?_
        simp; omega
      have hrow2 := (hN.row)
      have hrw : w2.ownsRow w.heap.size 172 4 v i xss.flatten := h2.row (hu.row HST.out.row (by simp)) (by
        intro y hy
        have := own_lo HST.out.row hy
        simp; omega)
      have hsz2 := hU.size
      have hl2 := hb2.lt
      obtain ⟨a, c, rfl⟩ := own_shape' hrw
      have HO := Lib.hid h4.one
      have HR : Hid (∀ w', Upd (Value.slice a i c).ownBlock.toList w2 w' → w'.cell? ⟨p, pre.length, none⟩ = some (.slice a i c) ∧ Blk w' wr.heap.size 172 us) := Lib.hid (by
        intro w' u
        refine ⟨(u.blk hbp ?_).cell mid_at, u.blk hb2 ?_⟩
        · intro hm
          have := own_lo HST.out.row (g := p) (by simpa using hm)
          omega
        · intro hm
          have := own_lo HST.out.row (g := wr.heap.size) (by simpa using hm)
          omega)
      have HST2 := HST
      have HU := Lib.hid hU
      have H4 := Lib.hid h4'
      have H5 := Lib.hid h5
      have H1 := Lib.hid h1
      have HRW := Lib.hid hrw
      have HBP := Lib.hid hbp
      have HUS := Lib.hid hus
      clear h1 h2 h3 h4 h5 hN hb hu hbp hrow2 hrw hU h4' hus
      go_wp2_with fail
      refine wp_region_lex (fun w' => Upd (Value.slice a i c).ownBlock.toList w2 w') 8 [(0, true), (1, true), (2, true), (3, true), (4, true), (5, false), (6, false), (7, false), (8, false)] (by kernel_rfl) (by kernel_rfl) (by kernel_rfl) (by kernel_rfl) (fun _ _ d _ _ h => by cases d <;> exact h) ?_
      simp only [lexOps, List.map_cons, List.map_nil, List.getD_cons_zero, List.getD_cons_succ]
      have hS0 : Upd (Value.slice a i c).ownBlock.toList w2 w2.drew := (Upd.refl _ _).drew
      iterate 4 (refine lex_read rfl (by exact hS0) (v := ?_) (fun w' hw => ?_) ?_; rotate_left; (focus (obtain ⟨k1, k2⟩ := HR.out w' hw; clear k2; go_simp; try with_reducible rfl)); simp only [Act.put, List.setIfInBounds_toArray, List.set_cons_zero, List.set_cons_succ])
      refine lex_read rfl (by exact hS0) (fun w' hw => exec_load (by rfl) (by rfl) (run_loadAt_mid w' wr.heap.size 0 172 us _ (HR.out w' hw).2.range Tryz.underlying172 rfl (by rw [HUS.out]; exact Tryz.size172))) ?_
      try simp only [Act.put, List.setIfInBounds_toArray, List.set_cons_zero, List.set_cons_succ]
      refine lex_run rfl (exec_buildSlice (by rfl) (by simp [Act.eval]) (run_buildSlice1 _ 67 172 iT _ us 4 Tryz.underlying67 hiT hz0 hz1 HUS.out (by decide) (by decide))) (fun _ => hS0.alloc _) ?_
      try simp only [Act.put, List.setIfInBounds_toArray, List.set_cons_zero, List.set_cons_succ]
      have h64 : k ≤ 64 := hk
      have hB2 : Blk (w2.drew.alloc (.cells us.toArray 172)) w2.heap.size 172 us := Blk.new w2.drew _ _
      refine lex_do rfl (fun K hK => ?_)
      refine wp_append_mine (.tmp 53) (.tmp 55) 67 rfl w.heap.size 172 iT _ 4 _ Tryz.underlying67 hiT hz0 hz1 hz2 rfl (by decide) (.slice a i c) i xss.flatten rfl (World.ownsRow.alloc HRW.out _) ⟨w2.heap.size, 0, none⟩ 1 1 us rfl (by rw [HUS.out]) hB2.news (HO.out) (by unfold maxLen; omega) (by omega) (by have := HST.out.upd.size; simp; omega) ?_
      intro v' w3 hown hg hv
      have uA : Upd [f, p] wr (w2.drew.alloc (.cells us.toArray 172)) := (HU.out.drew).alloc _
      have hF : Fr B w3 f l2 b2 := by
        obtain ⟨a', c', hI⟩ := H1.out
        have hI2 : In 108 cR B (w2.drew.alloc (.cells us.toArray 172)) f l2 b2 a' c' := hI.upd (F := []) ((Upd.refl [] w2).drew.alloc _) (by simp)
        refine ⟨a', c', hI2.upd (F := (Value.slice a i c).ownBlock.toList) ((Upd.refl _ _).grown hg (fun k hk => .inl (by simp [hk]))) (fun k hk => ?_)⟩
        have := own_lo HST.out.row (g := k) (by simpa using hk)
        omega
      have hbp3 : Blk w3 p tp (pre ++ [.slice a i c] ++ post) := by
        have hb4 : Blk (w2.drew.alloc (.cells us.toArray 172)) p tp (pre ++ [.slice a i c] ++ post) := (HBP.out.drew).alloc _
        refine (hg.block p hb4.lt (fun e => ?_)).trans hb4
        have := own_lo HST.out.row (g := p) e.symm
        omega
      have q1 := hbp3.cell (o := pre.length) mid_at
      have q2 := hbp3.frozen pre.length
      have q3 := hbp3.lt
      have uS : Upd [p] w3 (w3.setCell ⟨p, pre.length, none⟩ v') := (Upd.refl _ _).setCell (by simp) _
      have HX : Hid (Blk (w3.setCell ⟨p, pre.length, none⟩ v') p tp (pre ++ [v'] ++ post) ∧ LRdSt sDeploy 108 cR [f, p] B f 172 4 w (w3.setCell ⟨p, pre.length, none⟩ v') k l b (i + 1) l2 b2 v' (xss ++ [us]) (xs ++ [x])) := by
        refine Lib.hid ⟨?_, LRdSt.next HST.out hlt uA (H4.out.updN ((Upd.refl [] w2).drew.alloc _) (by simp)) HUS.out H5.out hg hown ?_ (uS.mono (by simp)) (hF.upd uS (by simp; omega))⟩
        · have := hbp3.set pre.length v'
          rwa [mid_set] at this
        · rcases hv with h | h
          · exact .inl h
          · exact .inr h
      have hS3 : Upd (Value.slice a i c).ownBlock.toList w2 w3 := (hS0.alloc _).grown hg (fun k hk => .inl (by simp [hk]))
      refine hK _ _ (fun _ => hS3) ?_
      obtain ⟨a', c', rfl⟩ := own_shape' hown
      clear hK K hown hg hv uA hF hbp3 uS hB2 hS0
      try simp only [Act.put, List.setIfInBounds_toArray, List.set_cons_zero, List.set_cons_succ]
      refine lex_do rfl (fun K hK => ?_)
      go_simp
      refine hK _ _ (fun _ => hS3) ?_
      clear hK K hS3
      try simp only [Act.put, List.setIfInBounds_toArray, List.set_cons_zero, List.set_cons_succ]
      refine lex_do rfl (fun K hK => ?_)
      go_simp
      refine hK _ _ (fun h => absurd rfl h) ?_
      clear hK K
      try simp only [Act.put, List.setIfInBounds_toArray, List.set_cons_zero, List.set_cons_succ]
      refine lex_nil ?_
      go_wp2_with fail
      go_roundg (k - (i + 1))
      case measure => have := HG.out; omega
      case rel => exact ⟨i + 1, l2, b2, _, _, _, by go_num, rfl, by omega, HX.out.1, HX.out.2⟩
    · obtain rfl : i = k := by omega
      have HE := Lib.hid (HST.out.rd (.inr rfl))
      go_wp2_with fail
      go_end0
      exact ⟨rfl, .list xs, [v], l', b', HST.out.fr, HST.out.upd, HBK.out, HST.out.isRep, HE.out⟩
end Go.Proofs.YthclnpigplcckaaGreat
/- codec's form.seen, reading. -/
namespace Go.Proofs.YthclnpigplcckaaGreat
open Go.RowKit Go.Lb Go.Rc

set_option maxRecDepth 20000 in
set_option maxHeartbeats 2000000 in
theorem seen_reads : Reads 86 sSeen := by
  intro B f p q tp pre post l b w h hB hpf hq hp
  subst hq
  have H0 := Lib.hid (RdSt.start (rest := [.num, .num, sResult]) h hB hpf hp (fr_mark h).2.2.2.1)
  clear h hp
  go_enter Tryz.func86, Tryz.ntmps86
  go_wp2_with fail
  refine wp_region_lex (fun _ => True) 99 [(0, true), (1, true), (2, true), (3, true), (4, true), (5, true), (6, true), (7, false), (8, false)] (by kernel_rfl) (by kernel_rfl) (by kernel_rfl) (by kernel_rfl) (fun _ _ d _ _ h => by cases d <;> exact h) ?_
  simp only [lexOps, List.map_cons, List.map_nil, List.getD_cons_zero, List.getD_cons_succ]
  iterate 7 (refine lex_read rfl trivial (v := ?_) (fun w' _ => ?_) ?_; rotate_left; (focus (go_simp; try with_reducible rfl)); simp only [Act.put, List.setIfInBounds_toArray, List.set_cons_zero, List.set_cons_succ])
  refine lex_do rfl (fun K hK => ?_)
  go_simp
  refine hK _ _ (fun _ => trivial) ?_
  clear hK K
  refine lex_do rfl (fun K hK => ?_)
  go_simp
  refine (CRd.goNums (rest := [sResult]) (k := 2) H0.out ((Upd.refl _ _).alloc _).drew (Nat.le_refl _) (Blk.drew (Blk.new _ _ [_, _])) (by simp only [fsize_append, fsize_nums, fsize, List.nil_append] <;> rfl) (by decide)).mono ?_
  rintro e w1 ⟨rfl, ns1, l1, b1, hn, h⟩
  have H1 := Lib.hid h
  have HN1 := Lib.hid hn
  clear hn
  refine hK _ _ (fun _ => trivial) ?_
  clear hK K h
  refine lex_nil ?_
  go_wp2_with fail
  refine (CRd.go result_reads H1.out (by simp only [fsize_append, fsize_nums, fsize, HN1.out, List.nil_append] <;> rfl)).mono ?_
  rintro e w2 ⟨rfl, v2, l2, b2, h⟩
  have H2 := Lib.hid h
  clear h
  go_wp2_with fail
  go_end0
  exact CRd.fin H2.out (by simp only [List.map_append, nums_fst, HN1.out, List.append_assoc, List.map_cons, List.map_nil, List.nil_append]; rfl)
end Go.Proofs.YthclnpigplcckaaGreat
/- codec's list[Seen], reading. -/
namespace Go.Proofs.YthclnpigplcckaaGreat
open Go.RowKit Go.Lb Go.Rc

set_option maxRecDepth 20000 in
set_option maxHeartbeats 2000000 in
theorem listSeen_reads : LReads 85 86 sSeen := by
  intro B f p q tp pre post l b w h hB hpf hq hp
  obtain ⟨iT, hiT, hz0, hz1, hz2⟩ := info177
  subst hq
  have c0 := hp.cell (o := pre.length) mid_at
  obtain ⟨_, _, _, hf, hBf⟩ := fr_mark h
  have hplt := hp.lt
  have H := Lib.hid h
  have HP := Lib.hid hp
  clear h hp
  go_enter Tryz.func85, Tryz.ntmps85
  go_wp2_with fail
  refine (many_r B f 64 _ l b _ H.out).mono ?_
  rintro e w1 ⟨k, l1, b1, rfl, hk, h1, h2, h3⟩
  obtain ⟨m2, m3, m4, m5, _⟩ := fr_mark h1
  have HB1 := Lib.hid (h2.blk HP.out (by simpa using hpf))
  have HS : Hid (LRdSt sSeen 108 cR [f, p] B f 177 5 w w1 k l b 0 l1 b1 (.slice none 0 0) [] []) := Lib.hid (LRdSt.start h1 (h2.mono (by simp)) (by simp; omega) h3)
  clear h1 h2 h3 H
  go_wp2_with fail
  go_loopg [9, 42] k (fun g u t wr => ∃ (i : Nat) (l' : List Nat) (b' : Bool) (v : Value) (xss : List (List Value)) (xs : List Val), t = .int .i64 i ∧ k - i = g ∧ i ≤ k ∧ Blk wr p tp (pre ++ [v] ++ post) ∧ LRdSt sSeen 108 cR [f, p] B f 177 5 w wr k l b i l' b' v xss xs)
  case atStart => exact ⟨0, l1, b1, _, [], [], rfl, rfl, by omega, HB1.out, HS.out⟩
  case round =>
    obtain ⟨i, l', b', v, xss, xs, rfl, hg, hi, hbk, hS⟩ := hrel
    have HG := Lib.hid hg
    have HBK := Lib.hid hbk
    have HST := Lib.hid hS
    obtain ⟨n2, n3, n4, n5, _⟩ := fr_mark hS.fr
    have hsz := hS.upd.size
    clear hg hbk hS m2 m3 m4 m5
    by_cases hlt : i < k
    · have t1 : decide (i < k) = true := by simpa using hlt
      cases b' with
      | true =>
        have HE := Lib.hid (HST.out.rd (.inl rfl))
        go_wp2_with fail
        go_end0
        exact ⟨rfl, .list xs, [v], l', true, HST.out.fr, HST.out.upd, HBK.out, HST.out.isRep, HE.out⟩
      | false =>
      go_wp2_with (refine wpList_alloc_blk rfl 177 rfl sSeen.zc (zero177 _) ?_; intro wB hb hu)
      have hN := HST.out.upd' hu
      refine (seen_reads B f wr.heap.size 0 177 [] [] l' false wB hN.fr (by omega) (by omega) rfl (by simpa [Sch.zc] using hb)).mono ?_
      rintro e w2 ⟨rfl, x, us, l2, b2, h1, h2, h3, h4, h5⟩
      have hus : us.length = 5 := h4.len
      have hb2 : Blk w2 wr.heap.size 177 us := by simpa using h3
      have hU : Upd [f, p] wr w2 := (hu.mono (by simp)).trans h2 (by
        intro y hy
        simp only [List.mem_cons, List.not_mem_nil, or_false] at hy
        rcases hy with rfl | rfl
        · simp
        · exact .inr (Nat.le_refl _))
      have h4' : Sch.Rep w2 (Nw wr.heap.size w2) sSeen us x := h4.mono (fun b hb _ => hb.go hu.size rfl)
      have hbp : Blk w2 p tp (pre ++ [v] ++ post) := by
        refine h2.blk (hu.blk HBK.out (by simp)) ?_
        simp; omega
      have hrow2 := (hN.row)
      have hrw : w2.ownsRow w.heap.size 177 5 v i xss.flatten := h2.row (hu.row HST.out.row (by simp)) (by
        intro y hy
        have := own_lo HST.out.row hy
        simp; omega)
      have hsz2 := hU.size
      have hl2 := hb2.lt
      obtain ⟨a, c, rfl⟩ := own_shape' hrw
      have HO := Lib.hid h4.one
      have HR : Hid (∀ w', Upd (Value.slice a i c).ownBlock.toList w2 w' → w'.cell? ⟨p, pre.length, none⟩ = some (.slice a i c) ∧ Blk w' wr.heap.size 177 us) := Lib.hid (by
        intro w' u
        refine ⟨(u.blk hbp ?_).cell mid_at, u.blk hb2 ?_⟩
        · intro hm
          have := own_lo HST.out.row (g := p) (by simpa using hm)
          omega
        · intro hm
          have := own_lo HST.out.row (g := wr.heap.size) (by simpa using hm)
          omega)
      have HST2 := HST
      have HU := Lib.hid hU
      have H4 := Lib.hid h4'
      have H5 := Lib.hid h5
      have H1 := Lib.hid h1
      have HRW := Lib.hid hrw
      have HBP := Lib.hid hbp
      have HUS := Lib.hid hus
      clear h1 h2 h3 h4 h5 hN hb hu hbp hrow2 hrw hU h4' hus
      go_wp2_with fail
      refine wp_region_lex (fun w' => Upd (Value.slice a i c).ownBlock.toList w2 w') 8 [(0, true), (1, true), (2, true), (3, true), (4, true), (5, false), (6, false), (7, false), (8, false)] (by kernel_rfl) (by kernel_rfl) (by kernel_rfl) (by kernel_rfl) (fun _ _ d _ _ h => by cases d <;> exact h) ?_
      simp only [lexOps, List.map_cons, List.map_nil, List.getD_cons_zero, List.getD_cons_succ]
      have hS0 : Upd (Value.slice a i c).ownBlock.toList w2 w2.drew := (Upd.refl _ _).drew
      iterate 4 (refine lex_read rfl (by exact hS0) (v := ?_) (fun w' hw => ?_) ?_; rotate_left; (focus (obtain ⟨k1, k2⟩ := HR.out w' hw; clear k2; go_simp; try with_reducible rfl)); simp only [Act.put, List.setIfInBounds_toArray, List.set_cons_zero, List.set_cons_succ])
      refine lex_read rfl (by exact hS0) (fun w' hw => exec_load (by rfl) (by rfl) (run_loadAt_mid w' wr.heap.size 0 177 us _ (HR.out w' hw).2.range Tryz.underlying177 rfl (by rw [HUS.out]; exact Tryz.size177))) ?_
      try simp only [Act.put, List.setIfInBounds_toArray, List.set_cons_zero, List.set_cons_succ]
      refine lex_run rfl (exec_buildSlice (by rfl) (by simp [Act.eval]) (run_buildSlice1 _ 68 177 iT _ us 5 Tryz.underlying68 hiT hz0 hz1 HUS.out (by decide) (by decide))) (fun _ => hS0.alloc _) ?_
      try simp only [Act.put, List.setIfInBounds_toArray, List.set_cons_zero, List.set_cons_succ]
      have h64 : k ≤ 64 := hk
      have hB2 : Blk (w2.drew.alloc (.cells us.toArray 177)) w2.heap.size 177 us := Blk.new w2.drew _ _
      refine lex_do rfl (fun K hK => ?_)
      refine wp_append_mine (.tmp 53) (.tmp 55) 68 rfl w.heap.size 177 iT _ 5 _ Tryz.underlying68 hiT hz0 hz1 hz2 rfl (by decide) (.slice a i c) i xss.flatten rfl (World.ownsRow.alloc HRW.out _) ⟨w2.heap.size, 0, none⟩ 1 1 us rfl (by rw [HUS.out]) hB2.news (HO.out) (by unfold maxLen; omega) (by omega) (by have := HST.out.upd.size; simp; omega) ?_
      intro v' w3 hown hg hv
      have uA : Upd [f, p] wr (w2.drew.alloc (.cells us.toArray 177)) := (HU.out.drew).alloc _
      have hF : Fr B w3 f l2 b2 := by
        obtain ⟨a', c', hI⟩ := H1.out
        have hI2 : In 108 cR B (w2.drew.alloc (.cells us.toArray 177)) f l2 b2 a' c' := hI.upd (F := []) ((Upd.refl [] w2).drew.alloc _) (by simp)
        refine ⟨a', c', hI2.upd (F := (Value.slice a i c).ownBlock.toList) ((Upd.refl _ _).grown hg (fun k hk => .inl (by simp [hk]))) (fun k hk => ?_)⟩
        have := own_lo HST.out.row (g := k) (by simpa using hk)
        omega
      have hbp3 : Blk w3 p tp (pre ++ [.slice a i c] ++ post) := by
        have hb4 : Blk (w2.drew.alloc (.cells us.toArray 177)) p tp (pre ++ [.slice a i c] ++ post) := (HBP.out.drew).alloc _
        refine (hg.block p hb4.lt (fun e => ?_)).trans hb4
        have := own_lo HST.out.row (g := p) e.symm
        omega
      have q1 := hbp3.cell (o := pre.length) mid_at
      have q2 := hbp3.frozen pre.length
      have q3 := hbp3.lt
      have uS : Upd [p] w3 (w3.setCell ⟨p, pre.length, none⟩ v') := (Upd.refl _ _).setCell (by simp) _
      have HX : Hid (Blk (w3.setCell ⟨p, pre.length, none⟩ v') p tp (pre ++ [v'] ++ post) ∧ LRdSt sSeen 108 cR [f, p] B f 177 5 w (w3.setCell ⟨p, pre.length, none⟩ v') k l b (i + 1) l2 b2 v' (xss ++ [us]) (xs ++ [x])) := by
        refine Lib.hid ⟨?_, LRdSt.next HST.out hlt uA (H4.out.updN ((Upd.refl [] w2).drew.alloc _) (by simp)) HUS.out H5.out hg hown ?_ (uS.mono (by simp)) (hF.upd uS (by simp; omega))⟩
        · have := hbp3.set pre.length v'
          rwa [mid_set] at this
        · rcases hv with h | h
          · exact .inl h
          · exact .inr h
      have hS3 : Upd (Value.slice a i c).ownBlock.toList w2 w3 := (hS0.alloc _).grown hg (fun k hk => .inl (by simp [hk]))
      refine hK _ _ (fun _ => hS3) ?_
      obtain ⟨a', c', rfl⟩ := own_shape' hown
      clear hK K hown hg hv uA hF hbp3 uS hB2 hS0
      try simp only [Act.put, List.setIfInBounds_toArray, List.set_cons_zero, List.set_cons_succ]
      refine lex_do rfl (fun K hK => ?_)
      go_simp
      refine hK _ _ (fun _ => hS3) ?_
      clear hK K hS3
      try simp only [Act.put, List.setIfInBounds_toArray, List.set_cons_zero, List.set_cons_succ]
      refine lex_do rfl (fun K hK => ?_)
      go_simp
      refine hK _ _ (fun h => absurd rfl h) ?_
      clear hK K
      try simp only [Act.put, List.setIfInBounds_toArray, List.set_cons_zero, List.set_cons_succ]
      refine lex_nil ?_
      go_wp2_with fail
      go_roundg (k - (i + 1))
      case measure => have := HG.out; omega
      case rel => exact ⟨i + 1, l2, b2, _, _, _, by go_num, rfl, by omega, HX.out.1, HX.out.2⟩
    · obtain rfl : i = k := by omega
      have HE := Lib.hid (HST.out.rd (.inr rfl))
      go_wp2_with fail
      go_end0
      exact ⟨rfl, .list xs, [v], l', b', HST.out.fr, HST.out.upd, HBK.out, HST.out.isRep, HE.out⟩
end Go.Proofs.YthclnpigplcckaaGreat
/- codec's form.store, reading. -/
namespace Go.Proofs.YthclnpigplcckaaGreat
open Go.RowKit Go.Lb Go.Rc

set_option maxRecDepth 20000 in
set_option maxHeartbeats 2000000 in
theorem store_reads : Reads 45 sStore := by
  intro B f p q tp pre post l b w h hB hpf hq hp
  subst hq
  have H0 := Lib.hid (RdSt.start (rest := [.num, .num, .list sJob, .list sJob, .list sNode, .list sAlloc, .list sEval, .list sDeploy, .list sSeen]) h hB hpf hp (fr_mark h).2.2.2.1)
  clear h hp
  go_enter Tryz.func45, Tryz.ntmps45
  go_wp2_with fail
  refine wp_region_lex (fun _ => True) 99 [(0, true), (1, true), (2, true), (3, true), (4, true), (5, true), (6, true), (7, false), (8, false)] (by kernel_rfl) (by kernel_rfl) (by kernel_rfl) (by kernel_rfl) (fun _ _ d _ _ h => by cases d <;> exact h) ?_
  simp only [lexOps, List.map_cons, List.map_nil, List.getD_cons_zero, List.getD_cons_succ]
  iterate 7 (refine lex_read rfl trivial (v := ?_) (fun w' _ => ?_) ?_; rotate_left; (focus (go_simp; try with_reducible rfl)); simp only [Act.put, List.setIfInBounds_toArray, List.set_cons_zero, List.set_cons_succ])
  refine lex_do rfl (fun K hK => ?_)
  go_simp
  refine hK _ _ (fun _ => trivial) ?_
  clear hK K
  refine lex_do rfl (fun K hK => ?_)
  go_simp
  refine (CRd.goNums (rest := [.list sJob, .list sJob, .list sNode, .list sAlloc, .list sEval, .list sDeploy, .list sSeen]) (k := 2) H0.out ((Upd.refl _ _).alloc _).drew (Nat.le_refl _) (Blk.drew (Blk.new _ _ [_, _])) (by simp only [fsize_append, fsize_nums, fsize, List.nil_append] <;> rfl) (by decide)).mono ?_
  rintro e w1 ⟨rfl, ns1, l1, b1, hn, h⟩
  have H1 := Lib.hid h
  have HN1 := Lib.hid hn
  clear hn
  refine hK _ _ (fun _ => trivial) ?_
  clear hK K h
  refine lex_nil ?_
  go_wp2_with fail
  refine (CRd.goList listJob_reads H1.out (by simp only [fsize_append, fsize_nums, fsize, HN1.out, List.nil_append] <;> rfl)).mono ?_
  rintro e w2 ⟨rfl, v2, l2, b2, h⟩
  have H2 := Lib.hid h
  clear h
  go_wp2_with fail
  refine (CRd.goList listJob_reads H2.out (by simp only [fsize_append, fsize_nums, fsize, HN1.out, List.nil_append] <;> rfl)).mono ?_
  rintro e w3 ⟨rfl, v3, l3, b3, h⟩
  have H3 := Lib.hid h
  clear h
  go_wp2_with fail
  refine (CRd.goList listNode_reads H3.out (by simp only [fsize_append, fsize_nums, fsize, HN1.out, List.nil_append] <;> rfl)).mono ?_
  rintro e w4 ⟨rfl, v4, l4, b4, h⟩
  have H4 := Lib.hid h
  clear h
  go_wp2_with fail
  refine (CRd.goList listAlloc_reads H4.out (by simp only [fsize_append, fsize_nums, fsize, HN1.out, List.nil_append] <;> rfl)).mono ?_
  rintro e w5 ⟨rfl, v5, l5, b5, h⟩
  have H5 := Lib.hid h
  clear h
  go_wp2_with fail
  refine (CRd.goList listEval_reads H5.out (by simp only [fsize_append, fsize_nums, fsize, HN1.out, List.nil_append] <;> rfl)).mono ?_
  rintro e w6 ⟨rfl, v6, l6, b6, h⟩
  have H6 := Lib.hid h
  clear h
  go_wp2_with fail
  refine (CRd.goList listDeploy_reads H6.out (by simp only [fsize_append, fsize_nums, fsize, HN1.out, List.nil_append] <;> rfl)).mono ?_
  rintro e w7 ⟨rfl, v7, l7, b7, h⟩
  have H7 := Lib.hid h
  clear h
  go_wp2_with fail
  refine (CRd.goList listSeen_reads H7.out (by simp only [fsize_append, fsize_nums, fsize, HN1.out, List.nil_append] <;> rfl)).mono ?_
  rintro e w8 ⟨rfl, v8, l8, b8, h⟩
  have H8 := Lib.hid h
  clear h
  go_wp2_with fail
  go_end0
  exact CRd.fin H8.out (by simp only [List.map_append, nums_fst, HN1.out, List.append_assoc, List.map_cons, List.map_nil, List.nil_append]; rfl)
end Go.Proofs.YthclnpigplcckaaGreat
/- codec's get[Store] and GetStore. -/
namespace Go.Proofs.YthclnpigplcckaaGreat
open Go.RowKit Go.Lb Go.Rc

set_option maxRecDepth 20000 in
set_option maxHeartbeats 2000000 in
theorem getStore_any (a : Option Addr) (c : Nat) (l : List Nat) (w : World) (hb : Bytes w (· < w.heap.size) a l) (hc : l.length ≤ c ∧ c ≤ maxLen) :
    Calls Tryz.prog 44 #[.slice a l.length c, .func (.func 45) #[] #[]] w (GetIs sStore l w) := by
  have HB := Lib.hid hb
  have HC := Lib.hid hc
  clear hb hc
  go_enter Tryz.func44, Tryz.ntmps44
  go_wp2_with (refine wpList_alloc_blk rfl 70 rfl sStore.zc (zero70 _) ?_; intro wA hA uA)
  rename_i wB hB uB wC hC uC K1 a1 K2 a2
  have uW : Upd [] w (wA.alloc (.cells #[.slice a l.length c, .bool true, .bool false] 108)) := ((uB.trans uC (by simp)).trans uA (by simp)).alloc _
  have s1 := uB.size
  have s2 := uC.size
  have s3 := uA.size
  have l1 := hB.lt
  have l2 := hC.lt
  have l3 := hA.lt
  have hT := (uA.blk (uC.blk hB (by simp)) (by simp)).alloc (.cells #[.slice a l.length c, .bool true, .bool false] 108)
  have hX := (uA.blk hC (by simp)).alloc (.cells #[.slice a l.length c, .bool true, .bool false] 108)
  have hN := hA.alloc (.cells #[.slice a l.length c, .bool true, .bool false] 108)
  refine (store_reads w.heap.size wA.heap.size wB.heap.size 0 70 [] [] l false _ ⟨a, c, Blk.new wA 108 [.slice a l.length c, .bool true, .bool false], HB.out.upd uW (by simp), HC.out, by omega⟩ (by omega) (by omega) rfl (by simpa using hX)).mono ?_
  rintro e w1 ⟨rfl, v, cs, l', b', h1, h2, h3, h4, h5⟩
  have hlen : cs.length = 9 := h4.len
  have h3' : Blk w1 wB.heap.size 70 cs := by simpa using h3
  have hT1 : Blk w1 w.heap.size 70 sStore.zc := h2.blk hT (by simp; omega)
  have hN1 : Blk w1 wC.heap.size 70 sStore.zc := h2.blk hN (by simp; omega)
  have HU : Hid (Upd [] w w1) := Lib.hid (uW.trans h2 (by simp; omega))
  have HT := Lib.hid hT1
  have HN := Lib.hid hN1
  have HX := Lib.hid h3'
  have HRep := Lib.hid (h4.mono (ok' := fun k => w.heap.size < k ∧ Soft w1 k) (fun b hb _ => ⟨by have := hb.1; simp at this; omega, hb.2⟩))
  have HR := Lib.hid h5
  obtain ⟨m2, _, _, _, _⟩ := fr_mark h1
  obtain ⟨a', c', hI⟩ := h1
  have f0 := hI.blk.cell (o := 0) rfl
  clear h2 h3 h4 h5 h3' hT1 hN1 hT hX hN hI uA uB uC hA hB hC uW
  by_cases hg : b' = false ∧ l' = []
  · obtain ⟨rfl, rfl⟩ := hg
    have f0' : w1.cell? ⟨wA.heap.size, 0, none⟩ = some (.slice a' 0 c') := f0
    clear f0
    go_wp2_with (first | (refine wpList_load_blk rfl 70 (.tmp 6) rfl wB.heap.size rfl HX.out Tryz.underlying70 rfl (by rw [hlen]; exact Tryz.size70) ?_) | (refine wpList_store_blk (o := ⟨none, .store 70 (.tmp 4) (.tmp 28), _, _, _, _⟩) rfl 70 (.tmp 4) (.tmp 28) rfl w.heap.size cs rfl rfl HT.out (by rw [hlen]; exact Tryz.size70) (by rw [hlen]; rfl) HRep.out.one ?_; intro w3 hb3 hu3))
    have hl := run_loadVar_blk (P := Tryz.prog) hb3 70 _ Tryz.underlying70 rfl (by rw [hlen]; exact Tryz.size70)
    refine bodyPost_ret (v := .tuple #[.agg cs.toArray, .bool true]) ?_ rfl ⟨HU.out.trans hu3 (by simp), cs, v, true, rfl, HRep.out.keep (fun k hk hl => ⟨⟨Nat.le_of_lt hk.1, hk.2.keep (hu3.block k hl (by simp; omega))⟩, hu3.block k hl (by simp; omega)⟩) hu3.size, fun _ => (HR.out.good rfl).2, fun h => (by cases h)⟩
    · rw [results_cell_tmp Tryz.results44]; simp [asAddr, hl]
  · have t1 : b' = true ∨ (b' = false ∧ decide (0 < l'.length) = true) := by
      cases b' with
      | true => exact .inl rfl
      | false =>
        right
        refine ⟨rfl, ?_⟩
        rw [decide_eq_true_eq, List.length_pos_iff]
        exact fun h => hg ⟨rfl, h⟩
    have HG : Hid (∀ v', sStore.get l ≠ some (v', [])) := Lib.hid (fun v' hv => by
      cases b' with
      | true =>
        rcases HR.out.bad rfl with h | h
        · cases h
        · rw [hv] at h; cases h
      | false =>
        have := (HR.out.good rfl).2
        rw [hv] at this
        simp only [Option.some.injEq, Prod.mk.injEq] at this
        exact hg ⟨rfl, this.2.symm⟩)
    clear hg
    rcases t1 with rfl | ⟨rfl, t1⟩
    all_goals
      go_wp2_with (first | (refine wpList_load_blk rfl 70 (.tmp 7) rfl wC.heap.size rfl HN.out Tryz.underlying70 rfl (by exact Tryz.size70) ?_) | (refine wpList_store_blk (o := ⟨none, .store 70 (.tmp 4) (.tmp 27), _, _, _, _⟩) rfl 70 (.tmp 4) (.tmp 27) rfl w.heap.size sStore.zc rfl rfl HT.out (by exact Tryz.size70) (by rfl) (Sch.zc_one sStore) ?_; intro w3 hb3 hu3))
      have hl := run_loadVar_blk (P := Tryz.prog) hb3 70 _ Tryz.underlying70 rfl (by exact Tryz.size70)
      refine bodyPost_ret (v := .tuple #[.agg sStore.zc.toArray, .bool false]) ?_ rfl ⟨HU.out.trans hu3 (by simp), sStore.zc, sStore.zero, false, rfl, Sch.Rep.zero _ _ _, fun h => (by cases h), fun _ => ⟨HG.out, rfl⟩⟩
      rw [results_cell_tmp Tryz.results44]; simp [asAddr, hl]

set_option maxRecDepth 20000 in
set_option maxHeartbeats 2000000 in
theorem getStore_gets : Gets 18 sStore := by
  intro a c l w hb hc
  have HB := Lib.hid hb
  have HC := Lib.hid hc
  clear hb hc
  go_enter Tryz.func18, Tryz.ntmps18
  go_wp2_with (refine wpList_alloc_blk rfl 70 rfl sStore.zc (zero70 _) ?_; intro wA hA uA)
  have s1 := uA.size
  have l1 := hA.lt
  refine (getStore_any a c l wA ((HB.out.upd uA (by simp)).mono' s1) HC.out).mono ?_
  rintro e w1 ⟨u1, cs, v, r, rfl, hr, h1, h2⟩
  have hlen : cs.length = 9 := hr.len
  have HT := Lib.hid (u1.blk hA (by simp))
  have HU : Hid (Upd [] w w1) := Lib.hid (uA.trans u1 (by simp))
  have HRep := Lib.hid (hr.mono (ok' := fun k => w.heap.size < k ∧ Soft w1 k) (fun b hb _ => ⟨by have := hb.1; omega, hb.2⟩))
  have H1 := Lib.hid h1
  have H2 := Lib.hid h2
  clear hr h1 h2 u1 uA hA
  go_wp2_with (refine wpList_store_blk (o := ⟨none, .store 70 (.tmp 2) (.tmp 6), _, _, _, _⟩) rfl 70 (.tmp 2) (.tmp 6) rfl w.heap.size cs rfl rfl HT.out (by rw [hlen]; exact Tryz.size70) (by rw [hlen]; rfl) HRep.out.one ?_; intro w3 hb3 hu3)
  have hl := run_loadVar_blk (P := Tryz.prog) hb3 70 _ Tryz.underlying70 rfl (by rw [hlen]; exact Tryz.size70)
  refine bodyPost_ret (v := .tuple #[.agg cs.toArray, .bool r]) ?_ rfl ⟨HU.out.trans hu3 (by simp), cs, v, r, rfl, HRep.out.keep (fun k hk hl => ⟨⟨Nat.le_of_lt hk.1, hk.2.keep (hu3.block k hl (by simp; omega))⟩, hu3.block k hl (by simp; omega)⟩) hu3.size, H1.out, H2.out⟩
  rw [results_cell_tmp Tryz.results18]; simp [asAddr, hl]
end Go.Proofs.YthclnpigplcckaaGreat
/- The reference's jobs, reading. -/
namespace Go.Proofs.YthclnpigplcckaaGreat
open Go.RowKit Go.Lb Go.Rc

set_option maxRecDepth 20000 in
set_option maxHeartbeats 4000000 in
theorem ijobs_reads : IReads 87 (.list sJob) := fun B f l b w h => by
  obtain ⟨iT, hiT, hz0, hz1, hz2⟩ := info25
  obtain ⟨_, _, hf, hBf⟩ := ir_mark h
  have H := Lib.hid h
  clear h
  go_enter Tryz.func87, Tryz.ntmps87
  go_wp2_with fail
  refine (icount_post B f l b _ H.out).mono ?_
  rintro e w1 ⟨k, l1, b1, rfl, hk, h1, h2, h3⟩
  have HS : Hid (LRdSt sJob 81 oW [f] B f 25 7 w w1 k l b 0 l1 b1 (.slice none 0 0) [] []) := Lib.hid (LRdSt.start h1 h2 (by simp; omega) h3)
  clear h1 h2 h3 H
  go_wp2_with fail
  go_loopg [4, 5] k (fun g v t wr => ∃ (i : Nat) (l' : List Nat) (b' : Bool) (xss : List (List Value)) (xs : List Val), t = .int .i64 i ∧ k - i = g ∧ i ≤ k ∧ LRdSt sJob 81 oW [f] B f 25 7 w wr k l b i l' b' v xss xs ∧ ∀ y ∈ xs, Sch.wmax sJob y ≤ Sch.most sJob)
  case atStart => exact ⟨0, l1, b1, [], [], rfl, rfl, by omega, HS.out, by simp⟩
  case round =>
    obtain ⟨i, l', b', xss, xs, rfl, hg, hi, hS, hmx⟩ := hrel
    have HG := Lib.hid hg
    have HST := Lib.hid hS
    have HMX := Lib.hid hmx
    have hsz := hS.upd.size
    have hrow := hS.row
    obtain ⟨a, c, rfl⟩ := own_shape' hrow
    clear hg hS hmx hrow
    by_cases hlt : i < k
    · have t1 : decide (i < k) = true := by simpa using hlt
      go_wp2_with fail
      refine (ijob_reads B f l' b' wr HST.out.fr).mono ?_
      rintro e w2 ⟨x, us, l2, b2, rfl, h1, h2, h4, h5, h6⟩
      have hus : us.length = 7 := h4.len
      rw [show argOf sJob us = .agg us.toArray from rfl]
      have hrw : w2.ownsRow w.heap.size 25 7 (.slice a i c) i xss.flatten := h2.row HST.out.row (by
        intro y hy
        have := own_lo HST.out.row hy
        simp; omega)
      have hfn : f ∉ (Value.slice a i c).ownBlock.toList := fun hm => by
        have := own_lo HST.out.row (g := f) (by simpa using hm)
        omega
      have s2 := h2.size
      have H1 := Lib.hid h1
      have H2 := Lib.hid h2
      have H4 := Lib.hid h4
      have H5 := Lib.hid h5
      have H6 := Lib.hid h6
      have HRW := Lib.hid hrw
      have HUS := Lib.hid hus
      have HFN := Lib.hid hfn
      have HONE := Lib.hid h4.one
      have h64 : k ≤ 64 := hk
      clear h1 h2 h4 h5 h6 hrw hus hfn
      go_wp2_with (first | (refine wpList_run (o := ⟨some 16, .buildSlice 64 1 #[(0, .tmp 15)], _, _, _, _⟩) rfl (exec_buildSlice (by rfl) (by simp [Act.eval]) (run_buildSlice1 _ 64 25 iT _ us 7 Tryz.underlying64 hiT hz0 hz1 HUS.out (by decide) (by decide))) ?_) | (at_builtin; refine wpList_append_mine rfl (.tmp 13) (.tmp 16) 64 rfl w.heap.size 25 iT _ 7 _ Tryz.underlying64 hiT hz0 hz1 hz2 rfl (by decide) (.slice a i c) i xss.flatten rfl (World.ownsRow.alloc HRW.out _) ⟨w2.heap.size, 0, none⟩ 1 1 us rfl (by rw [HUS.out]) (Blk.news (Blk.new _ 25 us)) HONE.out (by unfold maxLen; omega) (by omega) (by simp; omega) ?_; intro v' w3 hown hgr hv; have uA : Upd [f] wr (w2.alloc (.cells us.toArray 25)) := H2.out.alloc _; have hI : Ir B w3 f l2 b2 := ((H1.out).upd (F := []) ((Upd.refl [] w2).alloc _) (by simp)).upd (F := (Value.slice a i c).ownBlock.toList) ((Upd.refl _ _).grown hgr (fun k hk => .inl (by simp [hk]))) (fun k hk => ⟨fun e => HFN.out (e ▸ hk), by have := own_lo HST.out.row (g := k) (by simpa using hk); omega⟩); have HX : Hid (LRdSt sJob 81 oW [f] B f 25 7 w w3 k l b (i + 1) l2 b2 v' (xss ++ [us]) (xs ++ [x])) := Lib.hid (LRdSt.next HST.out hlt uA (H4.out.updN ((Upd.refl [] w2).alloc _) (by simp)) HUS.out H5.out hgr hown (by rcases hv with h | h; exact .inl h; exact .inr h) (Upd.refl _ _) hI); obtain ⟨a3, c3, rfl⟩ := own_shape' hown; clear hown hgr hv uA hI))
      go_roundg (k - (i + 1))
      case measure => have := HG.out; omega
      case rel => exact ⟨i + 1, l2, b2, _, _, by go_num, rfl, by omega, HX.out, fun y hy => by
        rcases List.mem_append.1 hy with hy | hy
        · exact HMX.out y hy
        · simp at hy; subst hy; exact H6.out⟩
    · obtain rfl : i = k := by omega
      have t1 : decide (i < i) = false := by simp
      have HE := Lib.hid (HST.out.rd (.inr rfl))
      go_wp2_with fail
      refine bodyPost_ret (results_tmp rfl _ _ _) rfl ?_
      refine ⟨.list xs, [.slice a i c], l', b', rfl, HST.out.fr, HST.out.upd, HST.out.isRep, HE.out, ?_⟩
      have h1 := sum_le_mul (l := xs.map (Sch.wmax sJob)) (m := Sch.most sJob) (fun y hy => by
        obtain ⟨z, hz, rfl⟩ := List.mem_map.1 hy
        exact HMX.out z hz)
      rw [List.length_map, HST.out.cnt.2] at h1
      have h2 : i * Sch.most sJob ≤ 64 * Sch.most sJob := Nat.mul_le_mul_right _ hk
      simp only [Sch.wmax, Sch.most] at h1 h2 ⊢
      omega
end Go.Proofs.YthclnpigplcckaaGreat
/- The reference's store, read. -/
namespace Go.Proofs.YthclnpigplcckaaGreat
open Go.RowKit Go.Lb Go.Rc

set_option maxRecDepth 20000 in
set_option maxHeartbeats 4000000 in
theorem istore_reads : IReads 46 sStore := fun B f l b w h => by
  obtain ⟨_, _, hf, hBf⟩ := ir_mark h
  have H := Lib.hid h
  clear h
  go_enter Tryz.func46, Tryz.ntmps46
  go_wp2_with (refine wpList_alloc_blk rfl 70 rfl sStore.zc (zero70 _) ?_; intro w0 hA uA; have HA := Lib.hid hA; have UA := Lib.hid uA; clear hA uA)
  have s0 := HA.out.lt
  have H0 := Lib.hid (IRdG.start ((H.out).upd UA.out (by simp)) (Nat.lt_of_lt_of_le hf UA.out.size) hBf)
  refine (IRd.goNum H0.out).mono ?_
  rintro e w1 ⟨n1, l1, b1, rfl, u, h⟩
  have H1 := Lib.hid h
  clear u h
  go_wp2_with fail
  refine (IRd.goNum H1.out).mono ?_
  rintro e w2 ⟨n2, l2, b2, rfl, u, h⟩
  have H2 := Lib.hid h
  clear u h
  go_wp2_with fail
  refine (IRd.goList ijobs_reads H2.out).mono ?_
  rintro e w3 ⟨a3, m3, c3, v3, l3, b3, rfl, u, h⟩
  have H3 := Lib.hid h
  clear u h
  go_wp2_with fail
  refine (IRd.goList ijobs_reads H3.out).mono ?_
  rintro e w4 ⟨a4, m4, c4, v4, l4, b4, rfl, u, h⟩
  have H4 := Lib.hid h
  clear u h
  obtain ⟨cs4, hcs4⟩ : ∃ z : List Value, z = (((([] ++ [.int .i64 n1]) ++ [.int .i64 n2]) ++ [.slice a3 m3 c3]) ++ [.slice a4 m4 c4]) := ⟨_, rfl⟩
  have cs4l : cs4.length = 4 := by rw [hcs4]; simp
  have HBU : Hid (Tryz.prog.built 70 [(0, .int .i64 n1), (1, .int .i64 n2), (2, .slice a3 m3 c3), (3, .slice a4 m4 c4)] = some (cs4 ++ (tup [.list sNode, .list sAlloc, .list sEval, .list sDeploy, .list sSeen]).zc).toArray) := Lib.hid (by
    have e := built_seq (P := Tryz.prog) (t := 70) [1, 1, 1, 1, 1, 1, 1, 1, 1] sStore.zc (by kernel_rfl) (by kernel_rfl) (by rfl) [.int .i64 n1, .int .i64 n2, .slice a3 m3 c3, .slice a4 m4 c4] [[.int .i64 n1], [.int .i64 n2], [.slice a3 m3 c3], [.slice a4 m4 c4]] rfl (by simp [])
    rw [show List.flatten [[.int .i64 n1], [.int .i64 n2], [.slice a3 m3 c3], [.slice a4 m4 c4]] = cs4 from by rw [hcs4]; simp, show (sStore.zc).drop cs4.length = (tup [.list sNode, .list sAlloc, .list sEval, .list sDeploy, .list sSeen]).zc from by rw [cs4l]; rfl] at e
    simp only [List.zipIdx_cons, List.zipIdx_nil, List.map_cons, List.map_nil, Nat.reduceAdd] at e
    exact e)
  have HI := H4.out
  rw [← hcs4] at HI
  have H4 := Lib.hid HI
  have HCS := Lib.hid hcs4
  clear HI hcs4
  have HA4 := Lib.hid (H4.out.upd.blk HA.out (by have := hf; simp; omega))
  have hone := Lib.hid H4.out.one
  go_wp2_with (first | (refine wpList_alloc_blk rfl 70 rfl sStore.zc (zero70 _) ?_; intro wP hP uP; have HP := Lib.hid hP; have UP := Lib.hid uP; clear hP uP) | (refine wpList_store_blk rfl 70 (.tmp 3) (.tmp 17) rfl w4.heap.size (cs4 ++ (tup [.list sNode, .list sAlloc, .list sEval, .list sDeploy, .list sSeen]).zc) rfl rfl HP.out (by rw [List.length_append, cs4l]; exact Tryz.size70) (by rw [List.length_append, cs4l]; rfl) (by intro u hu; rcases List.mem_append.1 hu with hu | hu; exact hone.out u hu; exact Sch.zc_one _ u hu) ?_; intro wQ hQ uQ; have HQ := Lib.hid hQ; have UQ := Lib.hid uQ; clear hQ uQ) | (refine wpList_buildTo rfl 70 #[(0, .tmp 10), (1, .tmp 12), (2, .tmp 14), (3, .tmp 16)] rfl (some 17) rfl (cs4 ++ (tup [.list sNode, .list sAlloc, .list sEval, .list sDeploy, .list sSeen]).zc).toArray (by have h := HBU.out; simp [Act.eval]; with_reducible exact h) ?_))
  obtain ⟨p, hp⟩ : ∃ p, p = w4.heap.size := ⟨_, rfl⟩
  have hpp : w0.heap.size ≤ p := by rw [hp]; exact H4.out.upd.size
  have hI := ((H4.out.apart UP.out (Nat.le_refl _) HP.out.lt).on UQ.out (by simp))
  have hB := HQ.out
  have hA := (UQ.out.blk (UP.out.blk HA4.out (by simp)) (by have := H4.out.upd.size; simp; omega))
  rw [← hp] at hI hB ⊢
  have H4 := Lib.hid hI
  have HB4 := Lib.hid hB
  have HA4 := Lib.hid hA
  clear hI hB hA hp
  have hpl := (H4.out.low.2.2 p (by simp)).2
  have hfw := H4.out.low.1
  refine (icount_post B f _ _ _ H4.out.fr).mono ?_
  rintro e wjr5 ⟨kr5, ljr5, bjr5, rfl, hkr5, h1, h2, h3⟩
  have HBj : Hid (Blk wjr5 p 70 (cs4 ++ [.slice none 0 0] ++ (tup [.list sAlloc, .list sEval, .list sDeploy, .list sSeen]).zc)) := Lib.hid (by have := IRd.blkf H4.out h2 HB4.out; simpa only [tup, Sch.zc, List.append_assoc, List.cons_append, List.nil_append] using this)
  have hfr5 := Nat.lt_of_lt_of_le hfw H4.out.upd.size
  have hpr5 := (H4.out.low.2.2 p (by simp)).2
  obtain ⟨iTr5, hiTr5, hz0r5, hz1r5, hz2r5⟩ := info29
  have HSr5 : Hid (LRdSt sNode 81 oW [f, p] B f 29 8 wQ wjr5 kr5 l4 b4 0 ljr5 bjr5 (.slice none 0 0) [] []) := Lib.hid (LRdSt.start h1 (h2.mono (by simp)) (by simp; omega) h3)
  clear h1 h2 h3
  go_wp2_with fail
  go_loopg [5] kr5 (fun g t wr => ∃ (i : Nat) (l' : List Nat) (b' : Bool) (v : Value) (xss : List (List Value)) (xs : List Val), t = .int .i64 i ∧ kr5 - i = g ∧ i ≤ kr5 ∧ Blk wr p 70 (cs4 ++ [v] ++ (tup [.list sAlloc, .list sEval, .list sDeploy, .list sSeen]).zc) ∧ LRdSt sNode 81 oW [f, p] B f 29 8 wQ wr kr5 l4 b4 i l' b' v xss xs ∧ ∀ y ∈ xs, Sch.wmax sNode y ≤ Sch.most sNode)
  case atStart => exact ⟨0, ljr5, bjr5, _, [], [], rfl, rfl, by omega, HBj.out, HSr5.out, by simp⟩
  case round =>
    obtain ⟨i, l', b', v, xss, xs, rfl, hg, hi, hbk, hS, hmx⟩ := hrel
    have hsz := hS.upd.size
    have hrow := hS.row
    obtain ⟨a, c, rfl⟩ := own_shape' hrow
    have c0 : wr.cell? ⟨p, 4, none⟩ = some (.slice a i c) := by have := hbk.cell (o := cs4.length) mid_at; rwa [cs4l] at this
    have HG := Lib.hid hg
    have HBK := Lib.hid hbk
    have HST := Lib.hid hS
    have HMX := Lib.hid hmx
    have hpn : p ∉ (Value.slice a i c).ownBlock.toList := fun hm => by have := own_lo HST.out.row (g := p) (by simpa using hm); omega
    have hfn : f ∉ (Value.slice a i c).ownBlock.toList := fun hm => by have := own_lo HST.out.row (g := f) (by simpa using hm); omega
    have HPN := Lib.hid hpn
    have HFN := Lib.hid hfn
    clear hg hbk hS hmx hrow hpn hfn
    by_cases hlt : i < kr5
    · have t1 : decide (i < kr5) = true := by simpa using hlt
      have HR : Hid (∀ w', Upd (f :: (Value.slice a i c).ownBlock.toList) wr w' → w'.cell? ⟨p, 4, none⟩ = some (.slice a i c)) := Lib.hid (fun w' u => (u.cell (a := ⟨p, 4, none⟩) (by show p < wr.heap.size; omega) (by simp only [List.mem_cons, not_or]; exact ⟨by omega, HPN.out⟩)).trans c0)
      go_wp2_with fail
      refine wp_region_lex (fun w' => Upd (f :: (Value.slice a i c).ownBlock.toList) wr w') 7 [(0, true), (1, true), (2, true), (3, false), (4, false), (5, false), (6, false), (7, false)] (by kernel_rfl) (by kernel_rfl) (by kernel_rfl) (by kernel_rfl) (fun _ _ d _ _ h => by cases d <;> exact h) ?_
      simp only [lexOps, List.map_cons, List.map_nil, List.getD_cons_zero, List.getD_cons_succ]
      have hU0 : Upd [] wr wr.drew := (Upd.refl _ _).drew
      have hS0 : Upd (f :: (Value.slice a i c).ownBlock.toList) wr wr.drew := (Upd.refl _ _).drew
      iterate 3 (refine lex_read rfl (by exact hS0) (v := ?_) (fun w' hw => ?_) ?_; rotate_left; (focus (have k1 := HR.out w' hw; go_simp; try with_reducible rfl)); simp only [Act.put, List.setIfInBounds_toArray, List.set_cons_zero, List.set_cons_succ])
      have HE0 := Lib.hid ((IRdG.start HST.out.fr (by show f < wr.heap.size; omega) hBf).same hU0)
      have hmon : ∀ {w' : World}, Upd [f] wr w' → Upd (f :: (Value.slice a i c).ownBlock.toList) wr w' := fun u => u.mono (fun x hx => .inl (by simp at hx; simp [hx]))
      refine lex_do rfl (fun K hK => ?_)
      go_simp
      refine (inode_reads B f l' b' _ HE0.out.fr).mono ?_
      rintro e wE1 ⟨x, us, lE1, bE1, rfl, h1, h2, h4, h5, h6⟩
      rw [show argOf sNode us = .agg us.toArray from rfl]
      have hus : us.length = 8 := h4.len
      have h2 := (hU0.mono (by simp)).trans h2 (fun y hy => .inl hy)
      refine hK _ _ (fun _ => hmon h2) ?_
      clear hK K
      try simp only [Act.put, List.setIfInBounds_toArray, List.set_cons_zero, List.set_cons_succ]
      have hone := h4.one
      have hbp : Blk wE1 p 70 (cs4 ++ [.slice a i c] ++ (tup [.list sAlloc, .list sEval, .list sDeploy, .list sSeen]).zc) := h2.blk HBK.out (by simp; omega)
      have hrw : wE1.ownsRow wQ.heap.size 29 8 (.slice a i c) i xss.flatten := h2.row HST.out.row (by intro y hy; have := own_lo HST.out.row hy; simp; omega)
      have s2 := h2.size
      have HUSx := Lib.hid hus
      have HONEx := Lib.hid hone
      have HBPx := Lib.hid hbp
      have HRWx := Lib.hid hrw
      have H1x := Lib.hid h1
      have H2x := Lib.hid h2
      have H4x := Lib.hid h4
      have H5x := Lib.hid h5
      have H6x := Lib.hid h6
      clear hus hone hbp hrw h1 h2 h4 h5 h6
      refine lex_run rfl (exec_buildSlice (by rfl) (by simp [Act.eval]) (run_buildSlice1 _ 65 29 iTr5 _ us 8 Tryz.underlying65 hiTr5 hz0r5 hz1r5 HUSx.out (by decide) (by decide))) (fun _ => hmon (H2x.out.alloc _)) ?_
      try simp only [Act.put, List.setIfInBounds_toArray, List.set_cons_zero, List.set_cons_succ]
      have h64 : kr5 ≤ 64 := hkr5
      refine lex_do rfl (fun K hK => ?_)
      refine wp_append_mine (.tmp 26) (.tmp 29) 65 rfl wQ.heap.size 29 iTr5 _ 8 _ Tryz.underlying65 hiTr5 hz0r5 hz1r5 hz2r5 rfl (by decide) (.slice a i c) i xss.flatten rfl (World.ownsRow.alloc HRWx.out _) ⟨wE1.heap.size, 0, none⟩ 1 1 us rfl (by rw [HUSx.out]) (Blk.news (Blk.new _ 29 us)) HONEx.out (by unfold maxLen; omega) (by omega) (by simp; omega) ?_
      intro v' w3 hown hgr hv
      have uA : Upd [f, p] wr (wE1.alloc (.cells us.toArray 29)) := (H2x.out.alloc _).mono (by simp)
      have hI : Ir B w3 f lE1 bE1 := (H1x.out.upd (F := []) ((Upd.refl [] wE1).alloc _) (by simp)).upd (F := (Value.slice a i c).ownBlock.toList) ((Upd.refl _ _).grown hgr (fun k hk => .inl (by simp [hk]))) (fun k hk => ⟨fun e => HFN.out (e ▸ hk), by have := own_lo HST.out.row (g := k) (by simpa using hk); omega⟩)
      have hbp3 : Blk w3 p 70 (cs4 ++ [.slice a i c] ++ (tup [.list sAlloc, .list sEval, .list sDeploy, .list sSeen]).zc) := by
        have hb4 : Blk (wE1.alloc (.cells us.toArray 29)) p 70 (cs4 ++ [.slice a i c] ++ (tup [.list sAlloc, .list sEval, .list sDeploy, .list sSeen]).zc) := HBPx.out.alloc _
        refine (hgr.block p hb4.lt (fun e => HPN.out (by simp [← e]))).trans hb4
      have q1 : w3.cell? ⟨p, 4, none⟩ = some (.slice a i c) := by have := hbp3.cell (o := cs4.length) mid_at; rwa [cs4l] at this
      have q2 := hbp3.frozen 4
      have q3 := hbp3.lt
      have uS : Upd [p] w3 (w3.setCell ⟨p, 4, none⟩ v') := (Upd.refl _ _).setCell (by simp) _
      have HX : Hid (Blk (w3.setCell ⟨p, 4, none⟩ v') p 70 (cs4 ++ [v'] ++ (tup [.list sAlloc, .list sEval, .list sDeploy, .list sSeen]).zc) ∧ LRdSt sNode 81 oW [f, p] B f 29 8 wQ (w3.setCell ⟨p, 4, none⟩ v') kr5 l4 b4 (i + 1) lE1 bE1 v' (xss ++ [us]) (xs ++ [x])) := by
        refine Lib.hid ⟨?_, LRdSt.next HST.out hlt uA (H4x.out.updN ((Upd.refl [] wE1).alloc _) (by simp)) HUSx.out H5x.out hgr hown (by rcases hv with h | h; exact .inl h; exact .inr h) (uS.mono (by simp)) (hI.upd uS (by simp; omega))⟩
        have := hbp3.set cs4.length v'
        rw [mid_set, cs4l] at this
        exact this
      have hS3 : Upd (f :: (Value.slice a i c).ownBlock.toList) wr w3 := (hmon (H2x.out.alloc _)).grown hgr (fun k hk => .inl (by simp [hk]))
      obtain ⟨a3, c3, rfl⟩ := own_shape' hown
      refine hK _ _ (fun _ => hS3) ?_
      clear hK K hown hgr hv uA hI hbp3 uS hmon
      try simp only [Act.put, List.setIfInBounds_toArray, List.set_cons_zero, List.set_cons_succ]
      refine lex_do rfl (fun K hK => ?_)
      go_simp
      refine hK _ _ (fun _ => hS3) ?_
      clear hK K
      try simp only [Act.put, List.setIfInBounds_toArray, List.set_cons_zero, List.set_cons_succ]
      refine lex_do rfl (fun K hK => ?_)
      go_simp
      refine hK _ _ (fun h => absurd rfl h) ?_
      clear hK K hS3
      refine lex_nil ?_
      go_wp2_with fail
      go_roundg (kr5 - (i + 1))
      case measure => have := HG.out; omega
      case rel => exact ⟨i + 1, lE1, bE1, _, _, _, by go_num, rfl, by omega, HX.out.1, HX.out.2, fun y hy => by
        rcases List.mem_append.1 hy with hy | hy
        · exact HMX.out y hy
        · simp at hy; subst hy; exact H6x.out⟩
    · obtain rfl : i = kr5 := by omega
      have t1 : decide (i < i) = false := by simp
      have hmost : Sch.wmax (.list sNode) (.list xs) ≤ Sch.most (.list sNode) := by
        have h1 := sum_le_mul (l := xs.map (Sch.wmax sNode)) (m := Sch.most sNode) (fun y hy => by
          obtain ⟨z, hz, rfl⟩ := List.mem_map.1 hy
          exact HMX.out z hz)
        rw [List.length_map, HST.out.cnt.2] at h1
        have h2 : i * Sch.most sNode ≤ 64 * Sch.most sNode := Nat.mul_le_mul_right _ hkr5
        simp only [Sch.wmax, Sch.most] at h1 h2 ⊢
        omega
      have hN := H4.out.next (F := [p]) (s := .list sNode) (v := .list xs) (c := [.slice a i c]) HST.out.fr HST.out.upd (by simp) HST.out.isRep (HST.out.rd (.inr rfl)) hmost
      have hA := HST.out.upd.blk HA4.out (by simp; omega)
      have hB := HBK.out
      obtain ⟨csr5, hcc⟩ : ∃ z, z = cs4 ++ [Value.slice a i c] := ⟨_, rfl⟩
      have csr5l : csr5.length = 5 := by rw [hcc, List.length_append, cs4l]; rfl
      rw [← hcc] at hN hB
      obtain ⟨wsr5, hz⟩ : ∃ z, z = wr := ⟨_, rfl⟩
      subst hz
      obtain ⟨lsr5, hz⟩ : ∃ z, z = l' := ⟨_, rfl⟩
      subst hz
      obtain ⟨bsr5, hz⟩ : ∃ z, z = b' := ⟨_, rfl⟩
      subst hz
      have Hr5 := Lib.hid hN
      have HBr5 := Lib.hid hB
      have HAr5 := Lib.hid hA
      clear hN hB hA hcc hmost
      go_wp2_with fail
      refine (IRd.goList iallocs_reads Hr5.out).mono ?_
      rintro e wr6 ⟨ar6, mr6, cr6, vr6, lr6, br6, rfl, u, h⟩
      have hb := IRd.blkf Hr5.out u HBr5.out
      have ha := u.blk HAr5.out (by have := hf; simp; omega)
      have k1 : wr6.cell? ⟨p, 5, none⟩ = some (.slice none 0 0) := hb.cell (by rw [List.getElem?_append_right (by omega), show 5 - csr5.length = 0 by omega]; rfl)
      have k2 := hb.frozen 5
      have k3 := hb.lt
      have q := IRd.store1 (s := .list sAlloc) (o := 5) h hb rfl csr5l.symm
      have ha2 : Blk (wr6.setCell ⟨p, 5, none⟩ (.slice ar6 mr6 cr6)) w.heap.size 70 sStore.zc := ha.other (a := ⟨p, 5, none⟩) (by show w.heap.size ≠ p; omega) _
      obtain ⟨csr6, hcc⟩ : ∃ z, z = csr5 ++ [.slice ar6 mr6 cr6] := ⟨_, rfl⟩
      rw [← hcc] at q
      have csr6l : csr6.length = 6 := by rw [hcc, List.length_append, csr5l]; rfl
      have Hr6 := Lib.hid q.1
      have HBr6 := Lib.hid q.2
      have HAr6 := Lib.hid ha2
      clear q ha ha2 hb hcc u h
      go_wp2_with fail
      refine (icount_post B f _ _ _ Hr6.out.fr).mono ?_
      rintro e wjr7 ⟨kr7, ljr7, bjr7, rfl, hkr7, h1, h2, h3⟩
      have HBj : Hid (Blk wjr7 p 70 (csr6 ++ [.slice none 0 0] ++ (tup [.list sDeploy, .list sSeen]).zc)) := Lib.hid (by have := IRd.blkf Hr6.out h2 HBr6.out; simpa only [tup, Sch.zc, List.append_assoc, List.cons_append, List.nil_append] using this)
      have hfr7 := Nat.lt_of_lt_of_le hfw Hr6.out.upd.size
      have hpr7 := (Hr6.out.low.2.2 p (by simp)).2
      obtain ⟨iTr7, hiTr7, hz0r7, hz1r7, hz2r7⟩ := info167
      have HSr7 : Hid (LRdSt sEval 81 oW [f, p] B f 167 4 (wr6.setCell ⟨p, 5, none⟩ (.slice ar6 mr6 cr6)) wjr7 kr7 lr6 br6 0 ljr7 bjr7 (.slice none 0 0) [] []) := Lib.hid (LRdSt.start h1 (h2.mono (by simp)) (by simp; omega) h3)
      clear h1 h2 h3
      go_wp2_with fail
      go_loopg [6] kr7 (fun g t wr => ∃ (i : Nat) (l' : List Nat) (b' : Bool) (v : Value) (xss : List (List Value)) (xs : List Val), t = .int .i64 i ∧ kr7 - i = g ∧ i ≤ kr7 ∧ Blk wr p 70 (csr6 ++ [v] ++ (tup [.list sDeploy, .list sSeen]).zc) ∧ LRdSt sEval 81 oW [f, p] B f 167 4 (wr6.setCell ⟨p, 5, none⟩ (.slice ar6 mr6 cr6)) wr kr7 lr6 br6 i l' b' v xss xs ∧ ∀ y ∈ xs, Sch.wmax sEval y ≤ Sch.most sEval)
      case atStart => exact ⟨0, ljr7, bjr7, _, [], [], rfl, rfl, by omega, HBj.out, HSr7.out, by simp⟩
      case round =>
        obtain ⟨i, l', b', v, xss, xs, rfl, hg, hi, hbk, hS, hmx⟩ := hrel
        have hsz := hS.upd.size
        have hszb := hsz
        try simp at hszb
        have hrow := hS.row
        obtain ⟨a, c, rfl⟩ := own_shape' hrow
        have c0 : wr.cell? ⟨p, 6, none⟩ = some (.slice a i c) := by have := hbk.cell (o := csr6.length) mid_at; rwa [csr6l] at this
        have HG := Lib.hid hg
        have HBK := Lib.hid hbk
        have HST := Lib.hid hS
        have HMX := Lib.hid hmx
        have hpn : p ∉ (Value.slice a i c).ownBlock.toList := fun hm => by have := own_lo HST.out.row (g := p) (by simpa using hm); omega
        have hfn : f ∉ (Value.slice a i c).ownBlock.toList := fun hm => by have := own_lo HST.out.row (g := f) (by simpa using hm); omega
        have HPN := Lib.hid hpn
        have HFN := Lib.hid hfn
        clear hg hbk hS hmx hrow hpn hfn
        by_cases hlt : i < kr7
        · have t1 : decide (i < kr7) = true := by simpa using hlt
          have HR : Hid (∀ w', Upd (f :: (Value.slice a i c).ownBlock.toList) wr w' → w'.cell? ⟨p, 6, none⟩ = some (.slice a i c)) := Lib.hid (fun w' u => (u.cell (a := ⟨p, 6, none⟩) (by show p < wr.heap.size; omega) (by simp only [List.mem_cons, not_or]; exact ⟨by omega, HPN.out⟩)).trans c0)
          go_wp2_with fail
          refine wp_region_lex (fun w' => Upd (f :: (Value.slice a i c).ownBlock.toList) wr w') 14 [(0, true), (1, true), (2, true), (4, true), (6, true), (8, true), (3, false), (5, false), (7, false), (9, false), (10, false), (11, false), (12, false), (13, false), (14, false)] (by kernel_rfl) (by kernel_rfl) (by kernel_rfl) (by kernel_rfl) (fun _ _ d _ _ h => by cases d <;> exact h) ?_
          simp only [lexOps, List.map_cons, List.map_nil, List.getD_cons_zero, List.getD_cons_succ]
          have hU0 : Upd [] wr wr.drew := (Upd.refl _ _).drew
          have hS0 : Upd (f :: (Value.slice a i c).ownBlock.toList) wr wr.drew := (Upd.refl _ _).drew
          iterate 6 (refine lex_read rfl (by exact hS0) (v := ?_) (fun w' hw => ?_) ?_; rotate_left; (focus (have k1 := HR.out w' hw; go_simp; try with_reducible rfl)); simp only [Act.put, List.setIfInBounds_toArray, List.set_cons_zero, List.set_cons_succ])
          have HE0 := Lib.hid ((IRdG.start HST.out.fr (by show f < wr.heap.size; omega) hBf).same hU0)
          have hmon : ∀ {w' : World}, Upd [f] wr w' → Upd (f :: (Value.slice a i c).ownBlock.toList) wr w' := fun u => u.mono (fun x hx => .inl (by simp at hx; simp [hx]))
          refine lex_do rfl (fun K hK => ?_)
          go_simp
          refine (IRd.goNum HE0.out).mono ?_
          rintro e wE1 ⟨nE1, lE1, bE1, rfl, u, h⟩
          have HE1 := Lib.hid h
          refine hK _ _ (fun _ => hmon h.upd) ?_
          clear hK K u h
          try simp only [Act.put, List.setIfInBounds_toArray, List.set_cons_zero, List.set_cons_succ]
          refine lex_do rfl (fun K hK => ?_)
          go_simp
          refine (IRd.goNum HE1.out).mono ?_
          rintro e wE2 ⟨nE2, lE2, bE2, rfl, u, h⟩
          have HE2 := Lib.hid h
          refine hK _ _ (fun _ => hmon h.upd) ?_
          clear hK K u h
          try simp only [Act.put, List.setIfInBounds_toArray, List.set_cons_zero, List.set_cons_succ]
          refine lex_do rfl (fun K hK => ?_)
          go_simp
          refine (IRd.goNum HE2.out).mono ?_
          rintro e wE3 ⟨nE3, lE3, bE3, rfl, u, h⟩
          have HE3 := Lib.hid h
          refine hK _ _ (fun _ => hmon h.upd) ?_
          clear hK K u h
          try simp only [Act.put, List.setIfInBounds_toArray, List.set_cons_zero, List.set_cons_succ]
          refine lex_do rfl (fun K hK => ?_)
          go_simp
          refine (IRd.goNum HE3.out).mono ?_
          rintro e wE4 ⟨nE4, lE4, bE4, rfl, u, h⟩
          have HE4 := Lib.hid h
          refine hK _ _ (fun _ => hmon h.upd) ?_
          clear hK K u h
          try simp only [Act.put, List.setIfInBounds_toArray, List.set_cons_zero, List.set_cons_succ]
          obtain ⟨us, hus0⟩ : ∃ z : List Value, z = (((([] ++ [.int .i64 nE1]) ++ [.int .i64 nE2]) ++ [.int .i64 nE3]) ++ [.int .i64 nE4]) := ⟨_, rfl⟩
          have hus : us.length = 4 := by rw [hus0]; simp
          have HBE : Hid (Tryz.prog.built 167 [(0, .int .i64 nE1), (1, .int .i64 nE2), (2, .int .i64 nE3), (3, .int .i64 nE4)] = some (us ++ (tup []).zc).toArray) := Lib.hid (by
            have e := built_seq (P := Tryz.prog) (t := 167) [1, 1, 1, 1] sEval.zc (by kernel_rfl) (by kernel_rfl) (by rfl) [.int .i64 nE1, .int .i64 nE2, .int .i64 nE3, .int .i64 nE4] [[.int .i64 nE1], [.int .i64 nE2], [.int .i64 nE3], [.int .i64 nE4]] rfl (by simp [])
            rw [show List.flatten [[.int .i64 nE1], [.int .i64 nE2], [.int .i64 nE3], [.int .i64 nE4]] = us from by rw [hus0]; simp, show (sEval.zc).drop us.length = (tup []).zc from by rw [hus]; rfl] at e
            simp only [List.zipIdx_cons, List.zipIdx_nil, List.map_cons, List.map_nil, Nat.reduceAdd] at e
            exact e)
          have HEz := HE4.out
          rw [← hus0] at HEz
          clear hus0
          obtain ⟨x, hx⟩ : ∃ x, x = vtup [.num nE1, .num nE2, .num nE3, .num nE4] := ⟨_, rfl⟩
          have h1 := HEz.fr
          have h2 := HEz.upd
          have h4 : Sch.Rep wE4 (Nw wr.heap.size wE4) sEval us x := by rw [hx]; exact Sch.Rep.mono HEz.rep (fun k hk _ => hk.1)
          have h5 : Sch.Rd sEval l' b' x lE4 bE4 := by rw [hx]; exact RSeq.tup HEz.seq
          have h6 : Sch.wmax sEval x ≤ Sch.most sEval := by rw [hx]; exact tup_most _ HEz.max
          clear HEz hx
          refine lex_run rfl (exec_build (vs := #[(0, .int .i64 nE1), (1, .int .i64 nE2), (2, .int .i64 nE3), (3, .int .i64 nE4)]) (by rfl) (by simp only [List.map_toArray, List.map_cons, List.map_nil]; rfl) (run_build _ _ _ _ HBE.out)) (fun _ => hmon h2) ?_
          rw [show (tup []).zc = [] from rfl, List.append_nil]
          try simp only [Act.put, List.setIfInBounds_toArray, List.set_cons_zero, List.set_cons_succ]
          have hone := h4.one
          have hbp : Blk wE4 p 70 (csr6 ++ [.slice a i c] ++ (tup [.list sDeploy, .list sSeen]).zc) := h2.blk HBK.out (by simp; omega)
          have hrw : wE4.ownsRow (wr6.setCell ⟨p, 5, none⟩ (.slice ar6 mr6 cr6)).heap.size 167 4 (.slice a i c) i xss.flatten := h2.row HST.out.row (by intro y hy; have := own_lo HST.out.row hy; simp; omega)
          have s2 := h2.size
          have HUSx := Lib.hid hus
          have HONEx := Lib.hid hone
          have HBPx := Lib.hid hbp
          have HRWx := Lib.hid hrw
          have H1x := Lib.hid h1
          have H2x := Lib.hid h2
          have H4x := Lib.hid h4
          have H5x := Lib.hid h5
          have H6x := Lib.hid h6
          clear hus hone hbp hrw h1 h2 h4 h5 h6
          refine lex_run rfl (exec_buildSlice (by rfl) (by simp [Act.eval]) (run_buildSlice1 _ 66 167 iTr7 _ us 4 Tryz.underlying66 hiTr7 hz0r7 hz1r7 HUSx.out (by decide) (by decide))) (fun _ => hmon (H2x.out.alloc _)) ?_
          try simp only [Act.put, List.setIfInBounds_toArray, List.set_cons_zero, List.set_cons_succ]
          have h64 : kr7 ≤ 64 := hkr7
          refine lex_do rfl (fun K hK => ?_)
          refine wp_append_mine (.tmp 43) (.tmp 53) 66 rfl (wr6.setCell ⟨p, 5, none⟩ (.slice ar6 mr6 cr6)).heap.size 167 iTr7 _ 4 _ Tryz.underlying66 hiTr7 hz0r7 hz1r7 hz2r7 rfl (by decide) (.slice a i c) i xss.flatten rfl (World.ownsRow.alloc HRWx.out _) ⟨wE4.heap.size, 0, none⟩ 1 1 us rfl (by rw [HUSx.out]) (Blk.news (Blk.new _ 167 us)) HONEx.out (by unfold maxLen; omega) (by omega) (by simp; omega) ?_
          intro v' w3 hown hgr hv
          have uA : Upd [f, p] wr (wE4.alloc (.cells us.toArray 167)) := (H2x.out.alloc _).mono (by simp)
          have hI : Ir B w3 f lE4 bE4 := (H1x.out.upd (F := []) ((Upd.refl [] wE4).alloc _) (by simp)).upd (F := (Value.slice a i c).ownBlock.toList) ((Upd.refl _ _).grown hgr (fun k hk => .inl (by simp [hk]))) (fun k hk => ⟨fun e => HFN.out (e ▸ hk), by have := own_lo HST.out.row (g := k) (by simpa using hk); omega⟩)
          have hbp3 : Blk w3 p 70 (csr6 ++ [.slice a i c] ++ (tup [.list sDeploy, .list sSeen]).zc) := by
            have hb4 : Blk (wE4.alloc (.cells us.toArray 167)) p 70 (csr6 ++ [.slice a i c] ++ (tup [.list sDeploy, .list sSeen]).zc) := HBPx.out.alloc _
            refine (hgr.block p hb4.lt (fun e => HPN.out (by simp [← e]))).trans hb4
          have q1 : w3.cell? ⟨p, 6, none⟩ = some (.slice a i c) := by have := hbp3.cell (o := csr6.length) mid_at; rwa [csr6l] at this
          have q2 := hbp3.frozen 6
          have q3 := hbp3.lt
          have uS : Upd [p] w3 (w3.setCell ⟨p, 6, none⟩ v') := (Upd.refl _ _).setCell (by simp) _
          have HX : Hid (Blk (w3.setCell ⟨p, 6, none⟩ v') p 70 (csr6 ++ [v'] ++ (tup [.list sDeploy, .list sSeen]).zc) ∧ LRdSt sEval 81 oW [f, p] B f 167 4 (wr6.setCell ⟨p, 5, none⟩ (.slice ar6 mr6 cr6)) (w3.setCell ⟨p, 6, none⟩ v') kr7 lr6 br6 (i + 1) lE4 bE4 v' (xss ++ [us]) (xs ++ [x])) := by
            refine Lib.hid ⟨?_, LRdSt.next HST.out hlt uA (H4x.out.updN ((Upd.refl [] wE4).alloc _) (by simp)) HUSx.out H5x.out hgr hown (by rcases hv with h | h; exact .inl h; exact .inr h) (uS.mono (by simp)) (hI.upd uS (by simp; omega))⟩
            have := hbp3.set csr6.length v'
            rw [mid_set, csr6l] at this
            exact this
          have hS3 : Upd (f :: (Value.slice a i c).ownBlock.toList) wr w3 := (hmon (H2x.out.alloc _)).grown hgr (fun k hk => .inl (by simp [hk]))
          obtain ⟨a3, c3, rfl⟩ := own_shape' hown
          refine hK _ _ (fun _ => hS3) ?_
          clear hK K hown hgr hv uA hI hbp3 uS hmon
          try simp only [Act.put, List.setIfInBounds_toArray, List.set_cons_zero, List.set_cons_succ]
          refine lex_do rfl (fun K hK => ?_)
          go_simp
          refine hK _ _ (fun _ => hS3) ?_
          clear hK K
          try simp only [Act.put, List.setIfInBounds_toArray, List.set_cons_zero, List.set_cons_succ]
          refine lex_do rfl (fun K hK => ?_)
          go_simp
          refine hK _ _ (fun h => absurd rfl h) ?_
          clear hK K hS3
          refine lex_nil ?_
          go_wp2_with fail
          go_roundg (kr7 - (i + 1))
          case measure => have := HG.out; omega
          case rel => exact ⟨i + 1, lE4, bE4, _, _, _, by go_num, rfl, by omega, HX.out.1, HX.out.2, fun y hy => by
            rcases List.mem_append.1 hy with hy | hy
            · exact HMX.out y hy
            · simp at hy; subst hy; exact H6x.out⟩
        · obtain rfl : i = kr7 := by omega
          have t1 : decide (i < i) = false := by simp
          have hmost : Sch.wmax (.list sEval) (.list xs) ≤ Sch.most (.list sEval) := by
            have h1 := sum_le_mul (l := xs.map (Sch.wmax sEval)) (m := Sch.most sEval) (fun y hy => by
              obtain ⟨z, hz, rfl⟩ := List.mem_map.1 hy
              exact HMX.out z hz)
            rw [List.length_map, HST.out.cnt.2] at h1
            have h2 : i * Sch.most sEval ≤ 64 * Sch.most sEval := Nat.mul_le_mul_right _ hkr7
            simp only [Sch.wmax, Sch.most] at h1 h2 ⊢
            omega
          have hN := Hr6.out.next (F := [p]) (s := .list sEval) (v := .list xs) (c := [.slice a i c]) HST.out.fr HST.out.upd (by simp) HST.out.isRep (HST.out.rd (.inr rfl)) hmost
          have hA := HST.out.upd.blk HAr6.out (by simp; omega)
          have hB := HBK.out
          obtain ⟨csr7, hcc⟩ : ∃ z, z = csr6 ++ [Value.slice a i c] := ⟨_, rfl⟩
          have csr7l : csr7.length = 7 := by rw [hcc, List.length_append, csr6l]; rfl
          rw [← hcc] at hN hB
          obtain ⟨wsr7, hz⟩ : ∃ z, z = wr := ⟨_, rfl⟩
          subst hz
          obtain ⟨lsr7, hz⟩ : ∃ z, z = l' := ⟨_, rfl⟩
          subst hz
          obtain ⟨bsr7, hz⟩ : ∃ z, z = b' := ⟨_, rfl⟩
          subst hz
          have Hr7 := Lib.hid hN
          have HBr7 := Lib.hid hB
          have HAr7 := Lib.hid hA
          clear hN hB hA hcc hmost
          go_wp2_with fail
          refine (icount_post B f _ _ _ Hr7.out.fr).mono ?_
          rintro e wjr8 ⟨kr8, ljr8, bjr8, rfl, hkr8, h1, h2, h3⟩
          have HBj : Hid (Blk wjr8 p 70 (csr7 ++ [.slice none 0 0] ++ (tup [.list sSeen]).zc)) := Lib.hid (by have := IRd.blkf Hr7.out h2 HBr7.out; simpa only [tup, Sch.zc, List.append_assoc, List.cons_append, List.nil_append] using this)
          have hfr8 := Nat.lt_of_lt_of_le hfw Hr7.out.upd.size
          have hpr8 := (Hr7.out.low.2.2 p (by simp)).2
          obtain ⟨iTr8, hiTr8, hz0r8, hz1r8, hz2r8⟩ := info172
          have HSr8 : Hid (LRdSt sDeploy 81 oW [f, p] B f 172 4 wsr7 wjr8 kr8 lsr7 bsr7 0 ljr8 bjr8 (.slice none 0 0) [] []) := Lib.hid (LRdSt.start h1 (h2.mono (by simp)) (by simp; omega) h3)
          clear h1 h2 h3
          go_wp2_with fail
          go_loopg [7] kr8 (fun g t wr => ∃ (i : Nat) (l' : List Nat) (b' : Bool) (v : Value) (xss : List (List Value)) (xs : List Val), t = .int .i64 i ∧ kr8 - i = g ∧ i ≤ kr8 ∧ Blk wr p 70 (csr7 ++ [v] ++ (tup [.list sSeen]).zc) ∧ LRdSt sDeploy 81 oW [f, p] B f 172 4 wsr7 wr kr8 lsr7 bsr7 i l' b' v xss xs ∧ ∀ y ∈ xs, Sch.wmax sDeploy y ≤ Sch.most sDeploy)
          case atStart => exact ⟨0, ljr8, bjr8, _, [], [], rfl, rfl, by omega, HBj.out, HSr8.out, by simp⟩
          case round =>
            obtain ⟨i, l', b', v, xss, xs, rfl, hg, hi, hbk, hS, hmx⟩ := hrel
            have hsz := hS.upd.size
            have hrow := hS.row
            obtain ⟨a, c, rfl⟩ := own_shape' hrow
            have c0 : wr.cell? ⟨p, 7, none⟩ = some (.slice a i c) := by have := hbk.cell (o := csr7.length) mid_at; rwa [csr7l] at this
            have HG := Lib.hid hg
            have HBK := Lib.hid hbk
            have HST := Lib.hid hS
            have HMX := Lib.hid hmx
            have hpn : p ∉ (Value.slice a i c).ownBlock.toList := fun hm => by have := own_lo HST.out.row (g := p) (by simpa using hm); omega
            have hfn : f ∉ (Value.slice a i c).ownBlock.toList := fun hm => by have := own_lo HST.out.row (g := f) (by simpa using hm); omega
            have HPN := Lib.hid hpn
            have HFN := Lib.hid hfn
            clear hg hbk hS hmx hrow hpn hfn
            by_cases hlt : i < kr8
            · have t1 : decide (i < kr8) = true := by simpa using hlt
              have HR : Hid (∀ w', Upd (f :: (Value.slice a i c).ownBlock.toList) wr w' → w'.cell? ⟨p, 7, none⟩ = some (.slice a i c)) := Lib.hid (fun w' u => (u.cell (a := ⟨p, 7, none⟩) (by show p < wr.heap.size; omega) (by simp only [List.mem_cons, not_or]; exact ⟨by omega, HPN.out⟩)).trans c0)
              go_wp2_with fail
              refine wp_region_lex (fun w' => Upd (f :: (Value.slice a i c).ownBlock.toList) wr w') 14 [(0, true), (1, true), (2, true), (4, true), (6, true), (8, true), (3, false), (5, false), (7, false), (9, false), (10, false), (11, false), (12, false), (13, false), (14, false)] (by kernel_rfl) (by kernel_rfl) (by kernel_rfl) (by kernel_rfl) (fun _ _ d _ _ h => by cases d <;> exact h) ?_
              simp only [lexOps, List.map_cons, List.map_nil, List.getD_cons_zero, List.getD_cons_succ]
              have hU0 : Upd [] wr wr.drew := (Upd.refl _ _).drew
              have hS0 : Upd (f :: (Value.slice a i c).ownBlock.toList) wr wr.drew := (Upd.refl _ _).drew
              iterate 6 (refine lex_read rfl (by exact hS0) (v := ?_) (fun w' hw => ?_) ?_; rotate_left; (focus (have k1 := HR.out w' hw; go_simp; try with_reducible rfl)); simp only [Act.put, List.setIfInBounds_toArray, List.set_cons_zero, List.set_cons_succ])
              have HE0 := Lib.hid ((IRdG.start HST.out.fr (by show f < wr.heap.size; omega) hBf).same hU0)
              have hmon : ∀ {w' : World}, Upd [f] wr w' → Upd (f :: (Value.slice a i c).ownBlock.toList) wr w' := fun u => u.mono (fun x hx => .inl (by simp at hx; simp [hx]))
              refine lex_do rfl (fun K hK => ?_)
              go_simp
              refine (IRd.goNum HE0.out).mono ?_
              rintro e wE1 ⟨nE1, lE1, bE1, rfl, u, h⟩
              have HE1 := Lib.hid h
              refine hK _ _ (fun _ => hmon h.upd) ?_
              clear hK K u h
              try simp only [Act.put, List.setIfInBounds_toArray, List.set_cons_zero, List.set_cons_succ]
              refine lex_do rfl (fun K hK => ?_)
              go_simp
              refine (IRd.goNum HE1.out).mono ?_
              rintro e wE2 ⟨nE2, lE2, bE2, rfl, u, h⟩
              have HE2 := Lib.hid h
              refine hK _ _ (fun _ => hmon h.upd) ?_
              clear hK K u h
              try simp only [Act.put, List.setIfInBounds_toArray, List.set_cons_zero, List.set_cons_succ]
              refine lex_do rfl (fun K hK => ?_)
              go_simp
              refine (IRd.goNum HE2.out).mono ?_
              rintro e wE3 ⟨nE3, lE3, bE3, rfl, u, h⟩
              have HE3 := Lib.hid h
              refine hK _ _ (fun _ => hmon h.upd) ?_
              clear hK K u h
              try simp only [Act.put, List.setIfInBounds_toArray, List.set_cons_zero, List.set_cons_succ]
              refine lex_do rfl (fun K hK => ?_)
              go_simp
              refine (IRd.goNum HE3.out).mono ?_
              rintro e wE4 ⟨nE4, lE4, bE4, rfl, u, h⟩
              have HE4 := Lib.hid h
              refine hK _ _ (fun _ => hmon h.upd) ?_
              clear hK K u h
              try simp only [Act.put, List.setIfInBounds_toArray, List.set_cons_zero, List.set_cons_succ]
              obtain ⟨us, hus0⟩ : ∃ z : List Value, z = (((([] ++ [.int .i64 nE1]) ++ [.int .i64 nE2]) ++ [.int .i64 nE3]) ++ [.int .i64 nE4]) := ⟨_, rfl⟩
              have hus : us.length = 4 := by rw [hus0]; simp
              have HBE : Hid (Tryz.prog.built 172 [(0, .int .i64 nE1), (1, .int .i64 nE2), (2, .int .i64 nE3), (3, .int .i64 nE4)] = some (us ++ (tup []).zc).toArray) := Lib.hid (by
                have e := built_seq (P := Tryz.prog) (t := 172) [1, 1, 1, 1] sDeploy.zc (by kernel_rfl) (by kernel_rfl) (by rfl) [.int .i64 nE1, .int .i64 nE2, .int .i64 nE3, .int .i64 nE4] [[.int .i64 nE1], [.int .i64 nE2], [.int .i64 nE3], [.int .i64 nE4]] rfl (by simp [])
                rw [show List.flatten [[.int .i64 nE1], [.int .i64 nE2], [.int .i64 nE3], [.int .i64 nE4]] = us from by rw [hus0]; simp, show (sDeploy.zc).drop us.length = (tup []).zc from by rw [hus]; rfl] at e
                simp only [List.zipIdx_cons, List.zipIdx_nil, List.map_cons, List.map_nil, Nat.reduceAdd] at e
                exact e)
              have HEz := HE4.out
              rw [← hus0] at HEz
              clear hus0
              obtain ⟨x, hx⟩ : ∃ x, x = vtup [.num nE1, .num nE2, .num nE3, .num nE4] := ⟨_, rfl⟩
              have h1 := HEz.fr
              have h2 := HEz.upd
              have h4 : Sch.Rep wE4 (Nw wr.heap.size wE4) sDeploy us x := by rw [hx]; exact Sch.Rep.mono HEz.rep (fun k hk _ => hk.1)
              have h5 : Sch.Rd sDeploy l' b' x lE4 bE4 := by rw [hx]; exact RSeq.tup HEz.seq
              have h6 : Sch.wmax sDeploy x ≤ Sch.most sDeploy := by rw [hx]; exact tup_most _ HEz.max
              clear HEz hx
              refine lex_run rfl (exec_build (vs := #[(0, .int .i64 nE1), (1, .int .i64 nE2), (2, .int .i64 nE3), (3, .int .i64 nE4)]) (by rfl) (by simp only [List.map_toArray, List.map_cons, List.map_nil]; rfl) (run_build _ _ _ _ HBE.out)) (fun _ => hmon h2) ?_
              rw [show (tup []).zc = [] from rfl, List.append_nil]
              try simp only [Act.put, List.setIfInBounds_toArray, List.set_cons_zero, List.set_cons_succ]
              have hone := h4.one
              have hbp : Blk wE4 p 70 (csr7 ++ [.slice a i c] ++ (tup [.list sSeen]).zc) := h2.blk HBK.out (by simp; omega)
              have hrw : wE4.ownsRow wsr7.heap.size 172 4 (.slice a i c) i xss.flatten := h2.row HST.out.row (by intro y hy; have := own_lo HST.out.row hy; simp; omega)
              have s2 := h2.size
              have HUSx := Lib.hid hus
              have HONEx := Lib.hid hone
              have HBPx := Lib.hid hbp
              have HRWx := Lib.hid hrw
              have H1x := Lib.hid h1
              have H2x := Lib.hid h2
              have H4x := Lib.hid h4
              have H5x := Lib.hid h5
              have H6x := Lib.hid h6
              clear hus hone hbp hrw h1 h2 h4 h5 h6
              refine lex_run rfl (exec_buildSlice (by rfl) (by simp [Act.eval]) (run_buildSlice1 _ 67 172 iTr8 _ us 4 Tryz.underlying67 hiTr8 hz0r8 hz1r8 HUSx.out (by decide) (by decide))) (fun _ => hmon (H2x.out.alloc _)) ?_
              try simp only [Act.put, List.setIfInBounds_toArray, List.set_cons_zero, List.set_cons_succ]
              have h64 : kr8 ≤ 64 := hkr8
              refine lex_do rfl (fun K hK => ?_)
              refine wp_append_mine (.tmp 64) (.tmp 74) 67 rfl wsr7.heap.size 172 iTr8 _ 4 _ Tryz.underlying67 hiTr8 hz0r8 hz1r8 hz2r8 rfl (by decide) (.slice a i c) i xss.flatten rfl (World.ownsRow.alloc HRWx.out _) ⟨wE4.heap.size, 0, none⟩ 1 1 us rfl (by rw [HUSx.out]) (Blk.news (Blk.new _ 172 us)) HONEx.out (by unfold maxLen; omega) (by omega) (by simp; omega) ?_
              intro v' w3 hown hgr hv
              have uA : Upd [f, p] wr (wE4.alloc (.cells us.toArray 172)) := (H2x.out.alloc _).mono (by simp)
              have hI : Ir B w3 f lE4 bE4 := (H1x.out.upd (F := []) ((Upd.refl [] wE4).alloc _) (by simp)).upd (F := (Value.slice a i c).ownBlock.toList) ((Upd.refl _ _).grown hgr (fun k hk => .inl (by simp [hk]))) (fun k hk => ⟨fun e => HFN.out (e ▸ hk), by have := own_lo HST.out.row (g := k) (by simpa using hk); omega⟩)
              have hbp3 : Blk w3 p 70 (csr7 ++ [.slice a i c] ++ (tup [.list sSeen]).zc) := by
                have hb4 : Blk (wE4.alloc (.cells us.toArray 172)) p 70 (csr7 ++ [.slice a i c] ++ (tup [.list sSeen]).zc) := HBPx.out.alloc _
                refine (hgr.block p hb4.lt (fun e => HPN.out (by simp [← e]))).trans hb4
              have q1 : w3.cell? ⟨p, 7, none⟩ = some (.slice a i c) := by have := hbp3.cell (o := csr7.length) mid_at; rwa [csr7l] at this
              have q2 := hbp3.frozen 7
              have q3 := hbp3.lt
              have uS : Upd [p] w3 (w3.setCell ⟨p, 7, none⟩ v') := (Upd.refl _ _).setCell (by simp) _
              have HX : Hid (Blk (w3.setCell ⟨p, 7, none⟩ v') p 70 (csr7 ++ [v'] ++ (tup [.list sSeen]).zc) ∧ LRdSt sDeploy 81 oW [f, p] B f 172 4 wsr7 (w3.setCell ⟨p, 7, none⟩ v') kr8 lsr7 bsr7 (i + 1) lE4 bE4 v' (xss ++ [us]) (xs ++ [x])) := by
                refine Lib.hid ⟨?_, LRdSt.next HST.out hlt uA (H4x.out.updN ((Upd.refl [] wE4).alloc _) (by simp)) HUSx.out H5x.out hgr hown (by rcases hv with h | h; exact .inl h; exact .inr h) (uS.mono (by simp)) (hI.upd uS (by simp; omega))⟩
                have := hbp3.set csr7.length v'
                rw [mid_set, csr7l] at this
                exact this
              have hS3 : Upd (f :: (Value.slice a i c).ownBlock.toList) wr w3 := (hmon (H2x.out.alloc _)).grown hgr (fun k hk => .inl (by simp [hk]))
              obtain ⟨a3, c3, rfl⟩ := own_shape' hown
              refine hK _ _ (fun _ => hS3) ?_
              clear hK K hown hgr hv uA hI hbp3 uS hmon
              try simp only [Act.put, List.setIfInBounds_toArray, List.set_cons_zero, List.set_cons_succ]
              refine lex_do rfl (fun K hK => ?_)
              go_simp
              refine hK _ _ (fun _ => hS3) ?_
              clear hK K
              try simp only [Act.put, List.setIfInBounds_toArray, List.set_cons_zero, List.set_cons_succ]
              refine lex_do rfl (fun K hK => ?_)
              go_simp
              refine hK _ _ (fun h => absurd rfl h) ?_
              clear hK K hS3
              refine lex_nil ?_
              go_wp2_with fail
              go_roundg (kr8 - (i + 1))
              case measure => have := HG.out; omega
              case rel => exact ⟨i + 1, lE4, bE4, _, _, _, by go_num, rfl, by omega, HX.out.1, HX.out.2, fun y hy => by
                rcases List.mem_append.1 hy with hy | hy
                · exact HMX.out y hy
                · simp at hy; subst hy; exact H6x.out⟩
            · obtain rfl : i = kr8 := by omega
              have t1 : decide (i < i) = false := by simp
              have hmost : Sch.wmax (.list sDeploy) (.list xs) ≤ Sch.most (.list sDeploy) := by
                have h1 := sum_le_mul (l := xs.map (Sch.wmax sDeploy)) (m := Sch.most sDeploy) (fun y hy => by
                  obtain ⟨z, hz, rfl⟩ := List.mem_map.1 hy
                  exact HMX.out z hz)
                rw [List.length_map, HST.out.cnt.2] at h1
                have h2 : i * Sch.most sDeploy ≤ 64 * Sch.most sDeploy := Nat.mul_le_mul_right _ hkr8
                simp only [Sch.wmax, Sch.most] at h1 h2 ⊢
                omega
              have hN := Hr7.out.next (F := [p]) (s := .list sDeploy) (v := .list xs) (c := [.slice a i c]) HST.out.fr HST.out.upd (by simp) HST.out.isRep (HST.out.rd (.inr rfl)) hmost
              have hA := HST.out.upd.blk HAr7.out (by simp; omega)
              have hB := HBK.out
              obtain ⟨csr8, hcc⟩ : ∃ z, z = csr7 ++ [Value.slice a i c] := ⟨_, rfl⟩
              have csr8l : csr8.length = 8 := by rw [hcc, List.length_append, csr7l]; rfl
              rw [← hcc] at hN hB
              obtain ⟨wsr8, hz⟩ : ∃ z, z = wr := ⟨_, rfl⟩
              subst hz
              obtain ⟨lsr8, hz⟩ : ∃ z, z = l' := ⟨_, rfl⟩
              subst hz
              obtain ⟨bsr8, hz⟩ : ∃ z, z = b' := ⟨_, rfl⟩
              subst hz
              have Hr8 := Lib.hid hN
              have HBr8 := Lib.hid hB
              have HAr8 := Lib.hid hA
              clear hN hB hA hcc hmost
              go_wp2_with fail
              refine (icount_post B f _ _ _ Hr8.out.fr).mono ?_
              rintro e wjr9 ⟨kr9, ljr9, bjr9, rfl, hkr9, h1, h2, h3⟩
              have HBj : Hid (Blk wjr9 p 70 (csr8 ++ [.slice none 0 0] ++ (tup []).zc)) := Lib.hid (by have := IRd.blkf Hr8.out h2 HBr8.out; simpa only [tup, Sch.zc, List.append_assoc, List.cons_append, List.nil_append] using this)
              have hfr9 := Nat.lt_of_lt_of_le hfw Hr8.out.upd.size
              have hpr9 := (Hr8.out.low.2.2 p (by simp)).2
              obtain ⟨iTr9, hiTr9, hz0r9, hz1r9, hz2r9⟩ := info177
              have HSr9 : Hid (LRdSt sSeen 81 oW [f, p] B f 177 5 wsr8 wjr9 kr9 lsr8 bsr8 0 ljr9 bjr9 (.slice none 0 0) [] []) := Lib.hid (LRdSt.start h1 (h2.mono (by simp)) (by simp; omega) h3)
              clear h1 h2 h3
              go_wp2_with fail
              go_loopg [8] kr9 (fun g t wr => ∃ (i : Nat) (l' : List Nat) (b' : Bool) (v : Value) (xss : List (List Value)) (xs : List Val), t = .int .i64 i ∧ kr9 - i = g ∧ i ≤ kr9 ∧ Blk wr p 70 (csr8 ++ [v] ++ (tup []).zc) ∧ LRdSt sSeen 81 oW [f, p] B f 177 5 wsr8 wr kr9 lsr8 bsr8 i l' b' v xss xs ∧ ∀ y ∈ xs, Sch.wmax sSeen y ≤ Sch.most sSeen)
              case atStart => exact ⟨0, ljr9, bjr9, _, [], [], rfl, rfl, by omega, HBj.out, HSr9.out, by simp⟩
              case round =>
                obtain ⟨i, l', b', v, xss, xs, rfl, hg, hi, hbk, hS, hmx⟩ := hrel
                have hsz := hS.upd.size
                have hrow := hS.row
                obtain ⟨a, c, rfl⟩ := own_shape' hrow
                have c0 : wr.cell? ⟨p, 8, none⟩ = some (.slice a i c) := by have := hbk.cell (o := csr8.length) mid_at; rwa [csr8l] at this
                have HG := Lib.hid hg
                have HBK := Lib.hid hbk
                have HST := Lib.hid hS
                have HMX := Lib.hid hmx
                have hpn : p ∉ (Value.slice a i c).ownBlock.toList := fun hm => by have := own_lo HST.out.row (g := p) (by simpa using hm); omega
                have hfn : f ∉ (Value.slice a i c).ownBlock.toList := fun hm => by have := own_lo HST.out.row (g := f) (by simpa using hm); omega
                have HPN := Lib.hid hpn
                have HFN := Lib.hid hfn
                clear hg hbk hS hmx hrow hpn hfn
                by_cases hlt : i < kr9
                · have t1 : decide (i < kr9) = true := by simpa using hlt
                  have HR : Hid (∀ w', Upd (f :: (Value.slice a i c).ownBlock.toList) wr w' → w'.cell? ⟨p, 8, none⟩ = some (.slice a i c)) := Lib.hid (fun w' u => (u.cell (a := ⟨p, 8, none⟩) (by show p < wr.heap.size; omega) (by simp only [List.mem_cons, not_or]; exact ⟨by omega, HPN.out⟩)).trans c0)
                  go_wp2_with fail
                  refine wp_region_lex (fun w' => Upd (f :: (Value.slice a i c).ownBlock.toList) wr w') 12 [(0, true), (1, true), (2, true), (4, true), (6, true), (3, false), (5, false), (7, false), (8, false), (9, false), (10, false), (11, false), (12, false)] (by kernel_rfl) (by kernel_rfl) (by kernel_rfl) (by kernel_rfl) (fun _ _ d _ _ h => by cases d <;> exact h) ?_
                  simp only [lexOps, List.map_cons, List.map_nil, List.getD_cons_zero, List.getD_cons_succ]
                  have hU0 : Upd [] wr wr.drew := (Upd.refl _ _).drew
                  have hS0 : Upd (f :: (Value.slice a i c).ownBlock.toList) wr wr.drew := (Upd.refl _ _).drew
                  iterate 5 (refine lex_read rfl (by exact hS0) (v := ?_) (fun w' hw => ?_) ?_; rotate_left; (focus (have k1 := HR.out w' hw; go_simp; try with_reducible rfl)); simp only [Act.put, List.setIfInBounds_toArray, List.set_cons_zero, List.set_cons_succ])
                  have HE0 := Lib.hid ((IRdG.start HST.out.fr (by show f < wr.heap.size; omega) hBf).same hU0)
                  have hmon : ∀ {w' : World}, Upd [f] wr w' → Upd (f :: (Value.slice a i c).ownBlock.toList) wr w' := fun u => u.mono (fun x hx => .inl (by simp at hx; simp [hx]))
                  refine lex_do rfl (fun K hK => ?_)
                  go_simp
                  refine (IRd.goNum HE0.out).mono ?_
                  rintro e wE1 ⟨nE1, lE1, bE1, rfl, u, h⟩
                  have HE1 := Lib.hid h
                  refine hK _ _ (fun _ => hmon h.upd) ?_
                  clear hK K u h
                  try simp only [Act.put, List.setIfInBounds_toArray, List.set_cons_zero, List.set_cons_succ]
                  refine lex_do rfl (fun K hK => ?_)
                  go_simp
                  refine (IRd.goNum HE1.out).mono ?_
                  rintro e wE2 ⟨nE2, lE2, bE2, rfl, u, h⟩
                  have HE2 := Lib.hid h
                  refine hK _ _ (fun _ => hmon h.upd) ?_
                  clear hK K u h
                  try simp only [Act.put, List.setIfInBounds_toArray, List.set_cons_zero, List.set_cons_succ]
                  refine lex_do rfl (fun K hK => ?_)
                  go_simp
                  refine (IRd.go iresult_reads HE2.out).mono ?_
                  rintro e wE3 ⟨vE3, cE3, lE3, bE3, rfl, hl, u, h⟩
                  have hlE3 : cE3.length = 3 := hl
                  clear hl
                  rw [show argOf sResult cE3 = .agg cE3.toArray from rfl]
                  have HE3 := Lib.hid h
                  refine hK _ _ (fun _ => hmon h.upd) ?_
                  clear hK K u h
                  try simp only [Act.put, List.setIfInBounds_toArray, List.set_cons_zero, List.set_cons_succ]
                  obtain ⟨us, hus0⟩ : ∃ z : List Value, z = ((([] ++ [.int .i64 nE1]) ++ [.int .i64 nE2]) ++ cE3) := ⟨_, rfl⟩
                  have hus : us.length = 5 := by rw [hus0]; simp [hlE3]
                  have HBE : Hid (Tryz.prog.built 177 [(0, .int .i64 nE1), (1, .int .i64 nE2), (2, .agg cE3.toArray)] = some (us ++ (tup []).zc).toArray) := Lib.hid (by
                    have e := built_seq (P := Tryz.prog) (t := 177) [1, 1, 3] sSeen.zc (by kernel_rfl) (by kernel_rfl) (by rfl) [.int .i64 nE1, .int .i64 nE2, .agg cE3.toArray] [[.int .i64 nE1], [.int .i64 nE2], cE3] rfl (by simp [hlE3])
                    rw [show List.flatten [[.int .i64 nE1], [.int .i64 nE2], cE3] = us from by rw [hus0]; simp, show (sSeen.zc).drop us.length = (tup []).zc from by rw [hus]; rfl] at e
                    simp only [List.zipIdx_cons, List.zipIdx_nil, List.map_cons, List.map_nil, Nat.reduceAdd] at e
                    exact e)
                  have HEz := HE3.out
                  rw [← hus0] at HEz
                  clear hus0
                  obtain ⟨x, hx⟩ : ∃ x, x = vtup [.num nE1, .num nE2, vE3] := ⟨_, rfl⟩
                  have h1 := HEz.fr
                  have h2 := HEz.upd
                  have h4 : Sch.Rep wE3 (Nw wr.heap.size wE3) sSeen us x := by rw [hx]; exact Sch.Rep.mono HEz.rep (fun k hk _ => hk.1)
                  have h5 : Sch.Rd sSeen l' b' x lE3 bE3 := by rw [hx]; exact RSeq.tup HEz.seq
                  have h6 : Sch.wmax sSeen x ≤ Sch.most sSeen := by rw [hx]; exact tup_most _ HEz.max
                  clear HEz hx
                  refine lex_run rfl (exec_build (vs := #[(0, .int .i64 nE1), (1, .int .i64 nE2), (2, .agg cE3.toArray)]) (by rfl) (by simp only [List.map_toArray, List.map_cons, List.map_nil]; rfl) (run_build _ _ _ _ HBE.out)) (fun _ => hmon h2) ?_
                  rw [show (tup []).zc = [] from rfl, List.append_nil]
                  try simp only [Act.put, List.setIfInBounds_toArray, List.set_cons_zero, List.set_cons_succ]
                  have hone := h4.one
                  have hbp : Blk wE3 p 70 (csr8 ++ [.slice a i c] ++ (tup []).zc) := h2.blk HBK.out (by simp; omega)
                  have hrw : wE3.ownsRow wsr8.heap.size 177 5 (.slice a i c) i xss.flatten := h2.row HST.out.row (by intro y hy; have := own_lo HST.out.row hy; simp; omega)
                  have s2 := h2.size
                  have HUSx := Lib.hid hus
                  have HONEx := Lib.hid hone
                  have HBPx := Lib.hid hbp
                  have HRWx := Lib.hid hrw
                  have H1x := Lib.hid h1
                  have H2x := Lib.hid h2
                  have H4x := Lib.hid h4
                  have H5x := Lib.hid h5
                  have H6x := Lib.hid h6
                  clear hus hone hbp hrw h1 h2 h4 h5 h6
                  refine lex_run rfl (exec_buildSlice (by rfl) (by simp [Act.eval]) (run_buildSlice1 _ 68 177 iTr9 _ us 5 Tryz.underlying68 hiTr9 hz0r9 hz1r9 HUSx.out (by decide) (by decide))) (fun _ => hmon (H2x.out.alloc _)) ?_
                  try simp only [Act.put, List.setIfInBounds_toArray, List.set_cons_zero, List.set_cons_succ]
                  have h64 : kr9 ≤ 64 := hkr9
                  refine lex_do rfl (fun K hK => ?_)
                  refine wp_append_mine (.tmp 85) (.tmp 93) 68 rfl wsr8.heap.size 177 iTr9 _ 5 _ Tryz.underlying68 hiTr9 hz0r9 hz1r9 hz2r9 rfl (by decide) (.slice a i c) i xss.flatten rfl (World.ownsRow.alloc HRWx.out _) ⟨wE3.heap.size, 0, none⟩ 1 1 us rfl (by rw [HUSx.out]) (Blk.news (Blk.new _ 177 us)) HONEx.out (by unfold maxLen; omega) (by omega) (by simp; omega) ?_
                  intro v' w3 hown hgr hv
                  have uA : Upd [f, p] wr (wE3.alloc (.cells us.toArray 177)) := (H2x.out.alloc _).mono (by simp)
                  have hI : Ir B w3 f lE3 bE3 := (H1x.out.upd (F := []) ((Upd.refl [] wE3).alloc _) (by simp)).upd (F := (Value.slice a i c).ownBlock.toList) ((Upd.refl _ _).grown hgr (fun k hk => .inl (by simp [hk]))) (fun k hk => ⟨fun e => HFN.out (e ▸ hk), by have := own_lo HST.out.row (g := k) (by simpa using hk); omega⟩)
                  have hbp3 : Blk w3 p 70 (csr8 ++ [.slice a i c] ++ (tup []).zc) := by
                    have hb4 : Blk (wE3.alloc (.cells us.toArray 177)) p 70 (csr8 ++ [.slice a i c] ++ (tup []).zc) := HBPx.out.alloc _
                    refine (hgr.block p hb4.lt (fun e => HPN.out (by simp [← e]))).trans hb4
                  have q1 : w3.cell? ⟨p, 8, none⟩ = some (.slice a i c) := by have := hbp3.cell (o := csr8.length) mid_at; rwa [csr8l] at this
                  have q2 := hbp3.frozen 8
                  have q3 := hbp3.lt
                  have uS : Upd [p] w3 (w3.setCell ⟨p, 8, none⟩ v') := (Upd.refl _ _).setCell (by simp) _
                  have HX : Hid (Blk (w3.setCell ⟨p, 8, none⟩ v') p 70 (csr8 ++ [v'] ++ (tup []).zc) ∧ LRdSt sSeen 81 oW [f, p] B f 177 5 wsr8 (w3.setCell ⟨p, 8, none⟩ v') kr9 lsr8 bsr8 (i + 1) lE3 bE3 v' (xss ++ [us]) (xs ++ [x])) := by
                    refine Lib.hid ⟨?_, LRdSt.next HST.out hlt uA (H4x.out.updN ((Upd.refl [] wE3).alloc _) (by simp)) HUSx.out H5x.out hgr hown (by rcases hv with h | h; exact .inl h; exact .inr h) (uS.mono (by simp)) (hI.upd uS (by simp; omega))⟩
                    have := hbp3.set csr8.length v'
                    rw [mid_set, csr8l] at this
                    exact this
                  have hS3 : Upd (f :: (Value.slice a i c).ownBlock.toList) wr w3 := (hmon (H2x.out.alloc _)).grown hgr (fun k hk => .inl (by simp [hk]))
                  obtain ⟨a3, c3, rfl⟩ := own_shape' hown
                  refine hK _ _ (fun _ => hS3) ?_
                  clear hK K hown hgr hv uA hI hbp3 uS hmon
                  try simp only [Act.put, List.setIfInBounds_toArray, List.set_cons_zero, List.set_cons_succ]
                  refine lex_do rfl (fun K hK => ?_)
                  go_simp
                  refine hK _ _ (fun _ => hS3) ?_
                  clear hK K
                  try simp only [Act.put, List.setIfInBounds_toArray, List.set_cons_zero, List.set_cons_succ]
                  refine lex_do rfl (fun K hK => ?_)
                  go_simp
                  refine hK _ _ (fun h => absurd rfl h) ?_
                  clear hK K hS3
                  refine lex_nil ?_
                  go_wp2_with fail
                  go_roundg (kr9 - (i + 1))
                  case measure => have := HG.out; omega
                  case rel => exact ⟨i + 1, lE3, bE3, _, _, _, by go_num, rfl, by omega, HX.out.1, HX.out.2, fun y hy => by
                    rcases List.mem_append.1 hy with hy | hy
                    · exact HMX.out y hy
                    · simp at hy; subst hy; exact H6x.out⟩
                · obtain rfl : i = kr9 := by omega
                  have t1 : decide (i < i) = false := by simp
                  have hmost : Sch.wmax (.list sSeen) (.list xs) ≤ Sch.most (.list sSeen) := by
                    have h1 := sum_le_mul (l := xs.map (Sch.wmax sSeen)) (m := Sch.most sSeen) (fun y hy => by
                      obtain ⟨z, hz, rfl⟩ := List.mem_map.1 hy
                      exact HMX.out z hz)
                    rw [List.length_map, HST.out.cnt.2] at h1
                    have h2 : i * Sch.most sSeen ≤ 64 * Sch.most sSeen := Nat.mul_le_mul_right _ hkr9
                    simp only [Sch.wmax, Sch.most] at h1 h2 ⊢
                    omega
                  have hN := Hr8.out.next (F := [p]) (s := .list sSeen) (v := .list xs) (c := [.slice a i c]) HST.out.fr HST.out.upd (by simp) HST.out.isRep (HST.out.rd (.inr rfl)) hmost
                  have hA := HST.out.upd.blk HAr8.out (by simp; omega)
                  have hB := HBK.out
                  obtain ⟨csr9, hcc⟩ : ∃ z, z = csr8 ++ [Value.slice a i c] := ⟨_, rfl⟩
                  have csr9l : csr9.length = 9 := by rw [hcc, List.length_append, csr8l]; rfl
                  rw [← hcc] at hN hB
                  obtain ⟨wsr9, hz⟩ : ∃ z, z = wr := ⟨_, rfl⟩
                  subst hz
                  obtain ⟨lsr9, hz⟩ : ∃ z, z = l' := ⟨_, rfl⟩
                  subst hz
                  obtain ⟨bsr9, hz⟩ : ∃ z, z = b' := ⟨_, rfl⟩
                  subst hz
                  have Hr9 := Lib.hid hN
                  have HBr9 := Lib.hid hB
                  have HAr9 := Lib.hid hA
                  clear hN hB hA hcc hmost
                  go_wp2_with (first | (refine wpList_load_blk rfl 70 (.tmp 3) rfl p rfl HBr9.out Tryz.underlying70 rfl (by simp only [show (tup []).zc = [] from rfl, List.append_nil, csr9l]; exact Tryz.size70) ?_) | (refine wpList_store_blk rfl 70 (.tmp 2) (.tmp 96) rfl w.heap.size (csr9 ++ (tup []).zc) rfl rfl HAr9.out (by simp only [show (tup []).zc = [] from rfl, List.append_nil, csr9l]; exact Tryz.size70) (by simp only [show (tup []).zc = [] from rfl, List.append_nil, csr9l]; rfl) (by rw [show (tup []).zc = [] from rfl, List.append_nil]; exact Hr9.out.one) ?_; intro wz hz uz))
                  rw [show (tup []).zc = [] from rfl, List.append_nil] at hz
                  have hld := run_loadVar_blk (P := Tryz.prog) hz 70 _ Tryz.underlying70 rfl (by simp only [csr9l]; exact Tryz.size70)
                  refine bodyPost_ret (v := .agg (csr9).toArray) ?_ rfl (IRd.fin' Hr9.out UA.out uz s0 (by omega) (by omega) (Nat.le_refl _) (by simp only [List.map_append, List.map_cons, List.map_nil, List.nil_append, List.append_assoc, List.cons_append]; rfl) (by intro h; cases h) hf)
                  simp [results, Tryz.results46, asAddr, Act.put, hld]
end Go.Proofs.YthclnpigplcckaaGreat
/- The reference's jobs, writing. -/
namespace Go.Proofs.YthclnpigplcckaaGreat
open Go.RowKit Go.Lb Go.Rc

set_option maxRecDepth 20000 in
set_option maxHeartbeats 2000000 in
theorem ojobs_writes : OWrites 111 (.list sJob) := fun B X f cs v o b w h hr hl => by
  obtain ⟨a, c, l, rfl, rfl, hall⟩ := hr
  have HA : Hid (Elems w (· < B) sJob 7 a l) := Lib.hid hall
  have H := Lib.hid h
  have HL := Lib.hid hl
  have hll : l.length ≤ 1099511627776 := elems_len hall hl rfl
  have hl1 : o.length + 6 ≤ 1099511627776 := by simp only [Sch.wmax] at hl; omega
  have hB := h.base
  clear h hall hl
  show Calls Tryz.prog _ #[_, .slice a l.length c] _ _
  go_enter Tryz.func111, Tryz.ntmps111
  go_wp2_with fail
  refine (ocount_w B X f l.length o b _ H.out hl1).mono ?_
  rintro e w1 ⟨rfl, o1, b1, h1, h2, h3⟩
  have H1 := Lib.hid h1
  have H2 := Lib.hid h2
  have H3 : Hid (LWk sJob l.length [] o b o1 b1) := Lib.hid (LWk.start h3)
  clear h1 h2 h3
  go_wp2_with fail
  go_loopg [4] l.length (fun g t wr => ∃ (i : Nat) (o' : List Nat) (b' : Bool), t = .int .i64 i ∧ l.length - i = g ∧ i ≤ l.length ∧ Ow B X wr f o' b' ∧ Kp B X w wr ∧ LWk sJob l.length (l.take i) o b o' b')
  case atStart => exact ⟨0, o1, b1, rfl, rfl, by omega, H1.out, H2.out, H3.out⟩
  case round =>
    obtain ⟨i, o', b', rfl, hg, hi, hF, hK, hW⟩ := hrel
    have HG := Lib.hid hg
    have HF := Lib.hid hF
    have HK := Lib.hid hK
    have HW := Lib.hid hW
    clear hg hF hK hW
    by_cases hlt : i < l.length
    · have t1 : decide (i < l.length) = true := by simpa using hlt
      obtain ⟨x, hx⟩ : ∃ x, l[i]? = some x := ⟨_, List.getElem?_eq_getElem hlt⟩
      obtain ⟨b0, o0, us, rfl, hb0, hbl, hrg, hrep⟩ := HA.out i x hx
      have hrep := hrep.keep (ok' := (· < B)) (fun k hk hl => ⟨hk, HK.out.block k hl (.inl hk)⟩) HK.out.size
      have hrg : wr.rangeAt b0 (o0 + i * 7) us := rangeAt_keep hrg (HK.out.block b0 hbl (.inl hb0))
      have HWL := Lib.hid (HW.out.room hx HL.out)
      have Hx := Lib.hid hx
      clear hx
      have HRG := Lib.hid hrg
      have HREP := Lib.hid hrep
      have hus : us.length = 7 := hrep.len
      clear hrg hrep
      go_wp2_with (refine wpList_load_mid rfl 25 _ rfl b0 (o0 + i * 7) rfl us _ HRG.out Tryz.underlying25 rfl (by rw [hus]; exact Tryz.size25) ?_)
      refine (ojob_writes B X f us x o' b' _ HF.out HREP.out HWL.out).mono ?_
      rintro e w2 ⟨rfl, o2, b2, h1, h2, h3⟩
      have H1 := Lib.hid h1
      have H2 := Lib.hid h2
      have H3 := Lib.hid (HW.out.snoc h3)
      clear h1 h2 h3
      go_wp2_with fail
      go_roundg (l.length - (i + 1))
      case measure => have := HG.out; omega
      case rel => exact ⟨i + 1, o2, b2, by go_num, rfl, by omega, H1.out, HK.out.trans H2.out, by rw [take_snoc Hx.out]; exact H3.out⟩
    · obtain rfl : i = l.length := by omega
      have t1 : decide (l.length < l.length) = false := by simp
      go_wp2_with fail
      go_end0
      refine ⟨rfl, o', b', HF.out, HK.out, LWk.fin ?_⟩
      have := HW.out
      rwa [List.take_length] at this
end Go.Proofs.YthclnpigplcckaaGreat
