/- A part that several proofs lean on: texts one behind the other. No condition but those that each theorem states. -/
import Derived.Test.YthecincpejpmpaaZfe
set_option linter.unusedVariables false
set_option linter.unusedSimpArgs false
/- codec's list[Eval], reading. -/
namespace Go.Proofs.Ythecincpejpmpaa
open Go.RowKit Go.Lb Go.Rc

set_option maxRecDepth 20000 in
set_option maxHeartbeats 2000000 in
theorem listEval_reads : LReads 74 75 sEval := by
  intro B f p q tp pre post l b w h hB hpf hq hp
  obtain ⟨iT, hiT, hz0, hz1, hz2⟩ := info161
  subst hq
  have c0 := hp.cell (o := pre.length) mid_at
  obtain ⟨_, _, _, hf, hBf⟩ := fr_mark h
  have hplt := hp.lt
  have H := Lib.hid h
  have HP := Lib.hid hp
  clear h hp
  go_enter Try.func74, Try.ntmps74
  go_wp2_with fail
  refine (many_r B f 64 _ l b _ H.out).mono ?_
  rintro e w1 ⟨k, l1, b1, rfl, hk, h1, h2, h3⟩
  obtain ⟨m2, m3, m4, m5, _⟩ := fr_mark h1
  have HB1 := Lib.hid (h2.blk HP.out (by simpa using hpf))
  have HS : Hid (LRdSt sEval 113 cR [f, p] B f 161 4 w w1 k l b 0 l1 b1 (.slice none 0 0) [] []) := Lib.hid (LRdSt.start h1 (h2.mono (by simp)) (by simp; omega) h3)
  clear h1 h2 h3 H
  go_wp2_with fail
  go_loopg [9, 42] k (fun g u t wr => ∃ (i : Nat) (l' : List Nat) (b' : Bool) (v : Value) (xss : List (List Value)) (xs : List Val), t = .int .i64 i ∧ k - i = g ∧ i ≤ k ∧ Blk wr p tp (pre ++ [v] ++ post) ∧ LRdSt sEval 113 cR [f, p] B f 161 4 w wr k l b i l' b' v xss xs)
  case atStart => exact ⟨0, l1, b1, _, [], [], rfl, rfl, by omega, HB1.out, HS.out⟩
  case round =>
    obtain ⟨i, l', b', v, xss, xs, rfl, hg, hi, hbk, hS⟩ := hrel
    have HG := Lib.hid hg
    have HBK := Lib.hid hbk
    have HST := Lib.hid hS
    obtain ⟨n2, n3, n4, n5, _⟩ := fr_mark hS.fr
    have hsz := hS.upd.size
    clear hg hbk hS m2 m3 m4 m5
    by_cases hlt : i < k
    · have t1 : decide (i < k) = true := by simpa using hlt
      cases b' with
      | true =>
        have HE := Lib.hid (HST.out.rd (.inl rfl))
        go_wp2_with fail
        go_end0
        exact ⟨rfl, .list xs, [v], l', true, HST.out.fr, HST.out.upd, HBK.out, HST.out.isRep, HE.out⟩
      | false =>
      go_wp2_with (refine wpList_alloc_blk rfl 161 rfl sEval.zc (zero161 _) ?_; intro wB hb hu)
      have hN := HST.out.upd' hu
      refine (eval_reads B f wr.heap.size 0 161 [] [] l' false wB hN.fr (by omega) (by omega) rfl (by simpa [Sch.zc] using hb)).mono ?_
      rintro e w2 ⟨rfl, x, us, l2, b2, h1, h2, h3, h4, h5⟩
      have hus : us.length = 4 := h4.len
      have hb2 : Blk w2 wr.heap.size 161 us := by simpa using h3
      have hU : Upd [f, p] wr w2 := (hu.mono (by simp)).trans h2 (by
        intro y hy
        simp only [List.mem_cons, List.not_mem_nil, or_false] at hy
        rcases hy with rfl | rfl
        · simp
        · exact .inr (Nat.le_refl _))
      have h4' : Sch.Rep w2 (Nw wr.heap.size w2) sEval us x := h4.mono (fun b hb _ => hb.go hu.size rfl)
      have hbp : Blk w2 p tp (pre ++ [v] ++ post) := by
        refine h2.blk (hu.blk HBK.out (by simp)) ?_
        simp; omega
      have hrow2 := (hN.row)
      have hrw : w2.ownsRow w.heap.size 161 4 v i xss.flatten := h2.row (hu.row HST.out.row (by simp)) (by
        intro y hy
        have := own_lo HST.out.row hy
        simp; omega)
      have hsz2 := hU.size
      have hl2 := hb2.lt
      obtain ⟨a, c, rfl⟩ := own_shape' hrw
      have HO := Lib.hid h4.one
      have HR : Hid (∀ w', Upd (Value.slice a i c).ownBlock.toList w2 w' → w'.cell? ⟨p, pre.length, none⟩ = some (.slice a i c) ∧ Blk w' wr.heap.size 161 us) := Lib.hid (by
        intro w' u
        refine ⟨(u.blk hbp ?_).cell mid_at, u.blk hb2 ?_⟩
        · intro hm
          have := own_lo HST.out.row (g := p) (by simpa using hm)
          omega
        · intro hm
          have := own_lo HST.out.row (g := wr.heap.size) (by simpa using hm)
          omega)
      have HST2 := HST
      have HU := Lib.hid hU
      have H4 := Lib.hid h4'
      have H5 := Lib.hid h5
      have H1 := Lib.hid h1
      have HRW := Lib.hid hrw
      have HBP := Lib.hid hbp
      have HUS := Lib.hid hus
      clear h1 h2 h3 h4 h5 hN hb hu hbp hrow2 hrw hU h4' hus
      go_wp2_with fail
      refine wp_region_lex (fun w' => Upd (Value.slice a i c).ownBlock.toList w2 w') 8 [(0, true), (1, true), (2, true), (3, true), (4, true), (5, false), (6, false), (7, false), (8, false)] (by kernel_rfl) (by kernel_rfl) (by kernel_rfl) (by kernel_rfl) (fun _ _ d _ _ h => by cases d <;> exact h) ?_
      simp only [lexOps, List.map_cons, List.map_nil, List.getD_cons_zero, List.getD_cons_succ]
      have hS0 : Upd (Value.slice a i c).ownBlock.toList w2 w2.drew := (Upd.refl _ _).drew
      iterate 4 (refine lex_read rfl (by exact hS0) (v := ?_) (fun w' hw => ?_) ?_; rotate_left; (focus (obtain ⟨k1, k2⟩ := HR.out w' hw; clear k2; go_simp; try with_reducible rfl)); simp only [Act.put, List.setIfInBounds_toArray, List.set_cons_zero, List.set_cons_succ])
      refine lex_read rfl (by exact hS0) (fun w' hw => exec_load (by rfl) (by rfl) (run_loadAt_mid w' wr.heap.size 0 161 us _ (HR.out w' hw).2.range Try.underlying161 rfl (by rw [HUS.out]; exact Try.size161))) ?_
      try simp only [Act.put, List.setIfInBounds_toArray, List.set_cons_zero, List.set_cons_succ]
      refine lex_run rfl (exec_buildSlice (by rfl) (by simp [Act.eval]) (run_buildSlice1 _ 71 161 iT _ us 4 Try.underlying71 hiT hz0 hz1 HUS.out (by decide) (by decide))) (fun _ => hS0.alloc _) ?_
      try simp only [Act.put, List.setIfInBounds_toArray, List.set_cons_zero, List.set_cons_succ]
      have h64 : k ≤ 64 := hk
      have hB2 : Blk (w2.drew.alloc (.cells us.toArray 161)) w2.heap.size 161 us := Blk.new w2.drew _ _
      refine lex_do rfl (fun K hK => ?_)
      refine wp_append_mine (.tmp 53) (.tmp 55) 71 rfl w.heap.size 161 iT _ 4 _ Try.underlying71 hiT hz0 hz1 hz2 rfl (by decide) (.slice a i c) i xss.flatten rfl (World.ownsRow.alloc HRW.out _) ⟨w2.heap.size, 0, none⟩ 1 1 us rfl (by rw [HUS.out]) hB2.news (HO.out) (by unfold maxLen; omega) (by omega) (by have := HST.out.upd.size; simp; omega) ?_
      intro v' w3 hown hg hv
      have uA : Upd [f, p] wr (w2.drew.alloc (.cells us.toArray 161)) := (HU.out.drew).alloc _
      have hF : Fr B w3 f l2 b2 := by
        obtain ⟨a', c', hI⟩ := H1.out
        have hI2 : In 113 cR B (w2.drew.alloc (.cells us.toArray 161)) f l2 b2 a' c' := hI.upd (F := []) ((Upd.refl [] w2).drew.alloc _) (by simp)
        refine ⟨a', c', hI2.upd (F := (Value.slice a i c).ownBlock.toList) ((Upd.refl _ _).grown hg (fun k hk => .inl (by simp [hk]))) (fun k hk => ?_)⟩
        have := own_lo HST.out.row (g := k) (by simpa using hk)
        omega
      have hbp3 : Blk w3 p tp (pre ++ [.slice a i c] ++ post) := by
        have hb4 : Blk (w2.drew.alloc (.cells us.toArray 161)) p tp (pre ++ [.slice a i c] ++ post) := (HBP.out.drew).alloc _
        refine (hg.block p hb4.lt (fun e => ?_)).trans hb4
        have := own_lo HST.out.row (g := p) e.symm
        omega
      have q1 := hbp3.cell (o := pre.length) mid_at
      have q2 := hbp3.frozen pre.length
      have q3 := hbp3.lt
      have uS : Upd [p] w3 (w3.setCell ⟨p, pre.length, none⟩ v') := (Upd.refl _ _).setCell (by simp) _
      have HX : Hid (Blk (w3.setCell ⟨p, pre.length, none⟩ v') p tp (pre ++ [v'] ++ post) ∧ LRdSt sEval 113 cR [f, p] B f 161 4 w (w3.setCell ⟨p, pre.length, none⟩ v') k l b (i + 1) l2 b2 v' (xss ++ [us]) (xs ++ [x])) := by
        refine Lib.hid ⟨?_, LRdSt.next HST.out hlt uA (H4.out.updN ((Upd.refl [] w2).drew.alloc _) (by simp)) HUS.out H5.out hg hown ?_ (uS.mono (by simp)) (hF.upd uS (by simp; omega))⟩
        · have := hbp3.set pre.length v'
          rwa [mid_set] at this
        · rcases hv with h | h
          · exact .inl h
          · exact .inr h
      have hS3 : Upd (Value.slice a i c).ownBlock.toList w2 w3 := (hS0.alloc _).grown hg (fun k hk => .inl (by simp [hk]))
      refine hK _ _ (fun _ => hS3) ?_
      obtain ⟨a', c', rfl⟩ := own_shape' hown
      clear hK K hown hg hv uA hF hbp3 uS hB2 hS0
      try simp only [Act.put, List.setIfInBounds_toArray, List.set_cons_zero, List.set_cons_succ]
      refine lex_do rfl (fun K hK => ?_)
      go_simp
      refine hK _ _ (fun _ => hS3) ?_
      clear hK K hS3
      try simp only [Act.put, List.setIfInBounds_toArray, List.set_cons_zero, List.set_cons_succ]
      refine lex_do rfl (fun K hK => ?_)
      go_simp
      refine hK _ _ (fun h => absurd rfl h) ?_
      clear hK K
      try simp only [Act.put, List.setIfInBounds_toArray, List.set_cons_zero, List.set_cons_succ]
      refine lex_nil ?_
      go_wp2_with fail
      go_roundg (k - (i + 1))
      case measure => have := HG.out; omega
      case rel => exact ⟨i + 1, l2, b2, _, _, _, by go_num, rfl, by omega, HX.out.1, HX.out.2⟩
    · obtain rfl : i = k := by omega
      have HE := Lib.hid (HST.out.rd (.inr rfl))
      go_wp2_with fail
      go_end0
      exact ⟨rfl, .list xs, [v], l', b', HST.out.fr, HST.out.upd, HBK.out, HST.out.isRep, HE.out⟩
end Go.Proofs.Ythecincpejpmpaa
/- codec's form.deploy, reading. -/
namespace Go.Proofs.Ythecincpejpmpaa
open Go.RowKit Go.Lb Go.Rc

set_option maxRecDepth 20000 in
set_option maxHeartbeats 2000000 in
theorem deploy_reads : Reads 77 sDeploy := by
  intro B f p q tp pre post l b w h hB hpf hq hp
  subst hq
  have H0 := Lib.hid (RdSt.start (rest := [.num, .num, .num, .num]) h hB hpf hp (fr_mark h).2.2.2.1)
  clear h hp
  go_enter Try.func77, Try.ntmps77
  refine wp_region_lex (fun _ => True) 99 [(0, true), (1, true), (2, true), (3, true), (4, true), (5, true), (6, true), (7, true), (8, true), (9, true), (10, true), (11, true), (12, true), (13, false), (14, false)] (by kernel_rfl) (by kernel_rfl) (by kernel_rfl) (by kernel_rfl) (fun _ _ d _ _ h => by cases d <;> exact h) ?_
  simp only [lexOps, List.map_cons, List.map_nil, List.getD_cons_zero, List.getD_cons_succ]
  iterate 13 (refine lex_read rfl trivial (v := ?_) (fun w' _ => ?_) ?_; rotate_left; (focus (go_simp; try with_reducible rfl)); simp only [Act.put, List.setIfInBounds_toArray, List.set_cons_zero, List.set_cons_succ])
  refine lex_do rfl (fun K hK => ?_)
  go_simp
  refine hK _ _ (fun _ => trivial) ?_
  clear hK K
  refine lex_do rfl (fun K hK => ?_)
  go_simp
  refine (CRd.goNums (rest := []) (k := 4) H0.out ((Upd.refl _ _).alloc _).drew (Nat.le_refl _) (Blk.drew (Blk.new _ _ [_, _, _, _])) (by simp only [fsize_append, fsize_nums, fsize, List.nil_append] <;> rfl) (by decide)).mono ?_
  rintro e w1 ⟨rfl, ns1, l1, b1, hn, h⟩
  have H1 := Lib.hid h
  have HN1 := Lib.hid hn
  clear hn
  refine hK _ _ (fun _ => trivial) ?_
  clear hK K h
  refine lex_nil ?_
  go_wp2_with fail
  go_end0
  exact CRd.fin H1.out (by simp only [List.map_append, nums_fst, HN1.out, List.append_assoc, List.map_cons, List.map_nil, List.nil_append]; rfl)
end Go.Proofs.Ythecincpejpmpaa
/- codec's list[Deploy], reading. -/
namespace Go.Proofs.Ythecincpejpmpaa
open Go.RowKit Go.Lb Go.Rc

set_option maxRecDepth 20000 in
set_option maxHeartbeats 2000000 in
theorem listDeploy_reads : LReads 76 77 sDeploy := by
  intro B f p q tp pre post l b w h hB hpf hq hp
  obtain ⟨iT, hiT, hz0, hz1, hz2⟩ := info166
  subst hq
  have c0 := hp.cell (o := pre.length) mid_at
  obtain ⟨_, _, _, hf, hBf⟩ := fr_mark h
  have hplt := hp.lt
  have H := Lib.hid h
  have HP := Lib.hid hp
  clear h hp
  go_enter Try.func76, Try.ntmps76
  go_wp2_with fail
  refine (many_r B f 64 _ l b _ H.out).mono ?_
  rintro e w1 ⟨k, l1, b1, rfl, hk, h1, h2, h3⟩
  obtain ⟨m2, m3, m4, m5, _⟩ := fr_mark h1
  have HB1 := Lib.hid (h2.blk HP.out (by simpa using hpf))
  have HS : Hid (LRdSt sDeploy 113 cR [f, p] B f 166 4 w w1 k l b 0 l1 b1 (.slice none 0 0) [] []) := Lib.hid (LRdSt.start h1 (h2.mono (by simp)) (by simp; omega) h3)
  clear h1 h2 h3 H
  go_wp2_with fail
  go_loopg [9, 42] k (fun g u t wr => ∃ (i : Nat) (l' : List Nat) (b' : Bool) (v : Value) (xss : List (List Value)) (xs : List Val), t = .int .i64 i ∧ k - i = g ∧ i ≤ k ∧ Blk wr p tp (pre ++ [v] ++ post) ∧ LRdSt sDeploy 113 cR [f, p] B f 166 4 w wr k l b i l' b' v xss xs)
  case atStart => exact ⟨0, l1, b1, _, [], [], rfl, rfl, by omega, HB1.out, HS.out⟩
  case round =>
    obtain ⟨i, l', b', v, xss, xs, rfl, hg, hi, hbk, hS⟩ := hrel
    have HG := Lib.hid hg
    have HBK := Lib.hid hbk
    have HST := Lib.hid hS
    obtain ⟨n2, n3, n4, n5, _⟩ := fr_mark hS.fr
    have hsz := hS.upd.size
    clear hg hbk hS m2 m3 m4 m5
    by_cases hlt : i < k
    · have t1 : decide (i < k) = true := by simpa using hlt
      cases b' with
      | true =>
        have HE := Lib.hid (HST.out.rd (.inl rfl))
        go_wp2_with fail
        go_end0
        exact ⟨rfl, .list xs, [v], l', true, HST.out.fr, HST.out.upd, HBK.out, HST.out.isRep, HE.out⟩
      | false =>
      go_wp2_with (refine wpList_alloc_blk rfl 166 rfl sDeploy.zc (zero166 _) ?_; intro wB hb hu)
      have hN := HST.out.upd' hu
      refine (deploy_reads B f wr.heap.size 0 166 [] [] l' false wB hN.fr (by omega) (by omega) rfl (by simpa [Sch.zc] using hb)).mono ?_
      rintro e w2 ⟨rfl, x, us, l2, b2, h1, h2, h3, h4, h5⟩
      have hus : us.length = 4 := h4.len
      have hb2 : Blk w2 wr.heap.size 166 us := by simpa using h3
      have hU : Upd [f, p] wr w2 := (hu.mono (by simp)).trans h2 (by
        intro y hy
        simp only [List.mem_cons, List.not_mem_nil, or_false] at hy
        rcases hy with rfl | rfl
        · simp
        · exact .inr (Nat.le_refl _))
      have h4' : Sch.Rep w2 (Nw wr.heap.size w2) sDeploy us x := h4.mono (fun b hb _ => hb.go hu.size rfl)
      have hbp : Blk w2 p tp (pre ++ [v] ++ post) := by
        refine h2.blk (hu.blk HBK.out (by simp)) ?_
        simp; omega
      have hrow2 := (hN.row)
      have hrw : w2.ownsRow w.heap.size 166 4 v i xss.flatten := h2.row (hu.row HST.out.row (by simp)) (by
        intro y hy
        have := own_lo HST.out.row hy
        simp; omega)
      have hsz2 := hU.size
      have hl2 := hb2.lt
      obtain ⟨a, c, rfl⟩ := own_shape' hrw
      have HO := Lib.hid h4.one
      have HR : Hid (∀ w', Upd (Value.slice a i c).ownBlock.toList w2 w' → w'.cell? ⟨p, pre.length, none⟩ = some (.slice a i c) ∧ Blk w' wr.heap.size 166 us) := Lib.hid (by
        intro w' u
        refine ⟨(u.blk hbp ?_).cell mid_at, u.blk hb2 ?_⟩
        · intro hm
          have := own_lo HST.out.row (g := p) (by simpa using hm)
          omega
        · intro hm
          have := own_lo HST.out.row (g := wr.heap.size) (by simpa using hm)
          omega)
      have HST2 := HST
      have HU := Lib.hid hU
      have H4 := Lib.hid h4'
      have H5 := Lib.hid h5
      have H1 := Lib.hid h1
      have HRW := Lib.hid hrw
      have HBP := Lib.hid hbp
      have HUS := Lib.hid hus
      clear h1 h2 h3 h4 h5 hN hb hu hbp hrow2 hrw hU h4' hus
      go_wp2_with fail
      refine wp_region_lex (fun w' => Upd (Value.slice a i c).ownBlock.toList w2 w') 8 [(0, true), (1, true), (2, true), (3, true), (4, true), (5, false), (6, false), (7, false), (8, false)] (by kernel_rfl) (by kernel_rfl) (by kernel_rfl) (by kernel_rfl) (fun _ _ d _ _ h => by cases d <;> exact h) ?_
      simp only [lexOps, List.map_cons, List.map_nil, List.getD_cons_zero, List.getD_cons_succ]
      have hS0 : Upd (Value.slice a i c).ownBlock.toList w2 w2.drew := (Upd.refl _ _).drew
      iterate 4 (refine lex_read rfl (by exact hS0) (v := ?_) (fun w' hw => ?_) ?_; rotate_left; (focus (obtain ⟨k1, k2⟩ := HR.out w' hw; clear k2; go_simp; try with_reducible rfl)); simp only [Act.put, List.setIfInBounds_toArray, List.set_cons_zero, List.set_cons_succ])
      refine lex_read rfl (by exact hS0) (fun w' hw => exec_load (by rfl) (by rfl) (run_loadAt_mid w' wr.heap.size 0 166 us _ (HR.out w' hw).2.range Try.underlying166 rfl (by rw [HUS.out]; exact Try.size166))) ?_
      try simp only [Act.put, List.setIfInBounds_toArray, List.set_cons_zero, List.set_cons_succ]
      refine lex_run rfl (exec_buildSlice (by rfl) (by simp [Act.eval]) (run_buildSlice1 _ 72 166 iT _ us 4 Try.underlying72 hiT hz0 hz1 HUS.out (by decide) (by decide))) (fun _ => hS0.alloc _) ?_
      try simp only [Act.put, List.setIfInBounds_toArray, List.set_cons_zero, List.set_cons_succ]
      have h64 : k ≤ 64 := hk
      have hB2 : Blk (w2.drew.alloc (.cells us.toArray 166)) w2.heap.size 166 us := Blk.new w2.drew _ _
      refine lex_do rfl (fun K hK => ?_)
      refine wp_append_mine (.tmp 53) (.tmp 55) 72 rfl w.heap.size 166 iT _ 4 _ Try.underlying72 hiT hz0 hz1 hz2 rfl (by decide) (.slice a i c) i xss.flatten rfl (World.ownsRow.alloc HRW.out _) ⟨w2.heap.size, 0, none⟩ 1 1 us rfl (by rw [HUS.out]) hB2.news (HO.out) (by unfold maxLen; omega) (by omega) (by have := HST.out.upd.size; simp; omega) ?_
      intro v' w3 hown hg hv
      have uA : Upd [f, p] wr (w2.drew.alloc (.cells us.toArray 166)) := (HU.out.drew).alloc _
      have hF : Fr B w3 f l2 b2 := by
        obtain ⟨a', c', hI⟩ := H1.out
        have hI2 : In 113 cR B (w2.drew.alloc (.cells us.toArray 166)) f l2 b2 a' c' := hI.upd (F := []) ((Upd.refl [] w2).drew.alloc _) (by simp)
        refine ⟨a', c', hI2.upd (F := (Value.slice a i c).ownBlock.toList) ((Upd.refl _ _).grown hg (fun k hk => .inl (by simp [hk]))) (fun k hk => ?_)⟩
        have := own_lo HST.out.row (g := k) (by simpa using hk)
        omega
      have hbp3 : Blk w3 p tp (pre ++ [.slice a i c] ++ post) := by
        have hb4 : Blk (w2.drew.alloc (.cells us.toArray 166)) p tp (pre ++ [.slice a i c] ++ post) := (HBP.out.drew).alloc _
        refine (hg.block p hb4.lt (fun e => ?_)).trans hb4
        have := own_lo HST.out.row (g := p) e.symm
        omega
      have q1 := hbp3.cell (o := pre.length) mid_at
      have q2 := hbp3.frozen pre.length
      have q3 := hbp3.lt
      have uS : Upd [p] w3 (w3.setCell ⟨p, pre.length, none⟩ v') := (Upd.refl _ _).setCell (by simp) _
      have HX : Hid (Blk (w3.setCell ⟨p, pre.length, none⟩ v') p tp (pre ++ [v'] ++ post) ∧ LRdSt sDeploy 113 cR [f, p] B f 166 4 w (w3.setCell ⟨p, pre.length, none⟩ v') k l b (i + 1) l2 b2 v' (xss ++ [us]) (xs ++ [x])) := by
        refine Lib.hid ⟨?_, LRdSt.next HST.out hlt uA (H4.out.updN ((Upd.refl [] w2).drew.alloc _) (by simp)) HUS.out H5.out hg hown ?_ (uS.mono (by simp)) (hF.upd uS (by simp; omega))⟩
        · have := hbp3.set pre.length v'
          rwa [mid_set] at this
        · rcases hv with h | h
          · exact .inl h
          · exact .inr h
      have hS3 : Upd (Value.slice a i c).ownBlock.toList w2 w3 := (hS0.alloc _).grown hg (fun k hk => .inl (by simp [hk]))
      refine hK _ _ (fun _ => hS3) ?_
      obtain ⟨a', c', rfl⟩ := own_shape' hown
      clear hK K hown hg hv uA hF hbp3 uS hB2 hS0
      try simp only [Act.put, List.setIfInBounds_toArray, List.set_cons_zero, List.set_cons_succ]
      refine lex_do rfl (fun K hK => ?_)
      go_simp
      refine hK _ _ (fun _ => hS3) ?_
      clear hK K hS3
      try simp only [Act.put, List.setIfInBounds_toArray, List.set_cons_zero, List.set_cons_succ]
      refine lex_do rfl (fun K hK => ?_)
      go_simp
      refine hK _ _ (fun h => absurd rfl h) ?_
      clear hK K
      try simp only [Act.put, List.setIfInBounds_toArray, List.set_cons_zero, List.set_cons_succ]
      refine lex_nil ?_
      go_wp2_with fail
      go_roundg (k - (i + 1))
      case measure => have := HG.out; omega
      case rel => exact ⟨i + 1, l2, b2, _, _, _, by go_num, rfl, by omega, HX.out.1, HX.out.2⟩
    · obtain rfl : i = k := by omega
      have HE := Lib.hid (HST.out.rd (.inr rfl))
      go_wp2_with fail
      go_end0
      exact ⟨rfl, .list xs, [v], l', b', HST.out.fr, HST.out.upd, HBK.out, HST.out.isRep, HE.out⟩
end Go.Proofs.Ythecincpejpmpaa
/- codec's form.seen, reading. -/
namespace Go.Proofs.Ythecincpejpmpaa
open Go.RowKit Go.Lb Go.Rc

set_option maxRecDepth 20000 in
set_option maxHeartbeats 2000000 in
theorem seen_reads : Reads 79 sSeen := by
  intro B f p q tp pre post l b w h hB hpf hq hp
  subst hq
  have H0 := Lib.hid (RdSt.start (rest := [.num, .num, sResult]) h hB hpf hp (fr_mark h).2.2.2.1)
  clear h hp
  go_enter Try.func79, Try.ntmps79
  go_wp2_with fail
  refine wp_region_lex (fun _ => True) 99 [(0, true), (1, true), (2, true), (3, true), (4, true), (5, true), (6, true), (7, false), (8, false)] (by kernel_rfl) (by kernel_rfl) (by kernel_rfl) (by kernel_rfl) (fun _ _ d _ _ h => by cases d <;> exact h) ?_
  simp only [lexOps, List.map_cons, List.map_nil, List.getD_cons_zero, List.getD_cons_succ]
  iterate 7 (refine lex_read rfl trivial (v := ?_) (fun w' _ => ?_) ?_; rotate_left; (focus (go_simp; try with_reducible rfl)); simp only [Act.put, List.setIfInBounds_toArray, List.set_cons_zero, List.set_cons_succ])
  refine lex_do rfl (fun K hK => ?_)
  go_simp
  refine hK _ _ (fun _ => trivial) ?_
  clear hK K
  refine lex_do rfl (fun K hK => ?_)
  go_simp
  refine (CRd.goNums (rest := [sResult]) (k := 2) H0.out ((Upd.refl _ _).alloc _).drew (Nat.le_refl _) (Blk.drew (Blk.new _ _ [_, _])) (by simp only [fsize_append, fsize_nums, fsize, List.nil_append] <;> rfl) (by decide)).mono ?_
  rintro e w1 ⟨rfl, ns1, l1, b1, hn, h⟩
  have H1 := Lib.hid h
  have HN1 := Lib.hid hn
  clear hn
  refine hK _ _ (fun _ => trivial) ?_
  clear hK K h
  refine lex_nil ?_
  go_wp2_with fail
  refine (CRd.go result_reads H1.out (by simp only [fsize_append, fsize_nums, fsize, HN1.out, List.nil_append] <;> rfl)).mono ?_
  rintro e w2 ⟨rfl, v2, l2, b2, h⟩
  have H2 := Lib.hid h
  clear h
  go_wp2_with fail
  go_end0
  exact CRd.fin H2.out (by simp only [List.map_append, nums_fst, HN1.out, List.append_assoc, List.map_cons, List.map_nil, List.nil_append]; rfl)
end Go.Proofs.Ythecincpejpmpaa
/- codec's list[Seen], reading. -/
namespace Go.Proofs.Ythecincpejpmpaa
open Go.RowKit Go.Lb Go.Rc

set_option maxRecDepth 20000 in
set_option maxHeartbeats 2000000 in
theorem listSeen_reads : LReads 78 79 sSeen := by
  intro B f p q tp pre post l b w h hB hpf hq hp
  obtain ⟨iT, hiT, hz0, hz1, hz2⟩ := info171
  subst hq
  have c0 := hp.cell (o := pre.length) mid_at
  obtain ⟨_, _, _, hf, hBf⟩ := fr_mark h
  have hplt := hp.lt
  have H := Lib.hid h
  have HP := Lib.hid hp
  clear h hp
  go_enter Try.func78, Try.ntmps78
  go_wp2_with fail
  refine (many_r B f 64 _ l b _ H.out).mono ?_
  rintro e w1 ⟨k, l1, b1, rfl, hk, h1, h2, h3⟩
  obtain ⟨m2, m3, m4, m5, _⟩ := fr_mark h1
  have HB1 := Lib.hid (h2.blk HP.out (by simpa using hpf))
  have HS : Hid (LRdSt sSeen 113 cR [f, p] B f 171 5 w w1 k l b 0 l1 b1 (.slice none 0 0) [] []) := Lib.hid (LRdSt.start h1 (h2.mono (by simp)) (by simp; omega) h3)
  clear h1 h2 h3 H
  go_wp2_with fail
  go_loopg [9, 42] k (fun g u t wr => ∃ (i : Nat) (l' : List Nat) (b' : Bool) (v : Value) (xss : List (List Value)) (xs : List Val), t = .int .i64 i ∧ k - i = g ∧ i ≤ k ∧ Blk wr p tp (pre ++ [v] ++ post) ∧ LRdSt sSeen 113 cR [f, p] B f 171 5 w wr k l b i l' b' v xss xs)
  case atStart => exact ⟨0, l1, b1, _, [], [], rfl, rfl, by omega, HB1.out, HS.out⟩
  case round =>
    obtain ⟨i, l', b', v, xss, xs, rfl, hg, hi, hbk, hS⟩ := hrel
    have HG := Lib.hid hg
    have HBK := Lib.hid hbk
    have HST := Lib.hid hS
    obtain ⟨n2, n3, n4, n5, _⟩ := fr_mark hS.fr
    have hsz := hS.upd.size
    clear hg hbk hS m2 m3 m4 m5
    by_cases hlt : i < k
    · have t1 : decide (i < k) = true := by simpa using hlt
      cases b' with
      | true =>
        have HE := Lib.hid (HST.out.rd (.inl rfl))
        go_wp2_with fail
        go_end0
        exact ⟨rfl, .list xs, [v], l', true, HST.out.fr, HST.out.upd, HBK.out, HST.out.isRep, HE.out⟩
      | false =>
      go_wp2_with (refine wpList_alloc_blk rfl 171 rfl sSeen.zc (zero171 _) ?_; intro wB hb hu)
      have hN := HST.out.upd' hu
      refine (seen_reads B f wr.heap.size 0 171 [] [] l' false wB hN.fr (by omega) (by omega) rfl (by simpa [Sch.zc] using hb)).mono ?_
      rintro e w2 ⟨rfl, x, us, l2, b2, h1, h2, h3, h4, h5⟩
      have hus : us.length = 5 := h4.len
      have hb2 : Blk w2 wr.heap.size 171 us := by simpa using h3
      have hU : Upd [f, p] wr w2 := (hu.mono (by simp)).trans h2 (by
        intro y hy
        simp only [List.mem_cons, List.not_mem_nil, or_false] at hy
        rcases hy with rfl | rfl
        · simp
        · exact .inr (Nat.le_refl _))
      have h4' : Sch.Rep w2 (Nw wr.heap.size w2) sSeen us x := h4.mono (fun b hb _ => hb.go hu.size rfl)
      have hbp : Blk w2 p tp (pre ++ [v] ++ post) := by
        refine h2.blk (hu.blk HBK.out (by simp)) ?_
        simp; omega
      have hrow2 := (hN.row)
      have hrw : w2.ownsRow w.heap.size 171 5 v i xss.flatten := h2.row (hu.row HST.out.row (by simp)) (by
        intro y hy
        have := own_lo HST.out.row hy
        simp; omega)
      have hsz2 := hU.size
      have hl2 := hb2.lt
      obtain ⟨a, c, rfl⟩ := own_shape' hrw
      have HO := Lib.hid h4.one
      have HR : Hid (∀ w', Upd (Value.slice a i c).ownBlock.toList w2 w' → w'.cell? ⟨p, pre.length, none⟩ = some (.slice a i c) ∧ Blk w' wr.heap.size 171 us) := Lib.hid (by
        intro w' u
        refine ⟨(u.blk hbp ?_).cell mid_at, u.blk hb2 ?_⟩
        · intro hm
          have := own_lo HST.out.row (g := p) (by simpa using hm)
          omega
        · intro hm
          have := own_lo HST.out.row (g := wr.heap.size) (by simpa using hm)
          omega)
      have HST2 := HST
      have HU := Lib.hid hU
      have H4 := Lib.hid h4'
      have H5 := Lib.hid h5
      have H1 := Lib.hid h1
      have HRW := Lib.hid hrw
      have HBP := Lib.hid hbp
      have HUS := Lib.hid hus
      clear h1 h2 h3 h4 h5 hN hb hu hbp hrow2 hrw hU h4' hus
      go_wp2_with fail
      refine wp_region_lex (fun w' => Upd (Value.slice a i c).ownBlock.toList w2 w') 8 [(0, true), (1, true), (2, true), (3, true), (4, true), (5, false), (6, false), (7, false), (8, false)] (by kernel_rfl) (by kernel_rfl) (by kernel_rfl) (by kernel_rfl) (fun _ _ d _ _ h => by cases d <;> exact h) ?_
      simp only [lexOps, List.map_cons, List.map_nil, List.getD_cons_zero, List.getD_cons_succ]
      have hS0 : Upd (Value.slice a i c).ownBlock.toList w2 w2.drew := (Upd.refl _ _).drew
      iterate 4 (refine lex_read rfl (by exact hS0) (v := ?_) (fun w' hw => ?_) ?_; rotate_left; (focus (obtain ⟨k1, k2⟩ := HR.out w' hw; clear k2; go_simp; try with_reducible rfl)); simp only [Act.put, List.setIfInBounds_toArray, List.set_cons_zero, List.set_cons_succ])
      refine lex_read rfl (by exact hS0) (fun w' hw => exec_load (by rfl) (by rfl) (run_loadAt_mid w' wr.heap.size 0 171 us _ (HR.out w' hw).2.range Try.underlying171 rfl (by rw [HUS.out]; exact Try.size171))) ?_
      try simp only [Act.put, List.setIfInBounds_toArray, List.set_cons_zero, List.set_cons_succ]
      refine lex_run rfl (exec_buildSlice (by rfl) (by simp [Act.eval]) (run_buildSlice1 _ 73 171 iT _ us 5 Try.underlying73 hiT hz0 hz1 HUS.out (by decide) (by decide))) (fun _ => hS0.alloc _) ?_
      try simp only [Act.put, List.setIfInBounds_toArray, List.set_cons_zero, List.set_cons_succ]
      have h64 : k ≤ 64 := hk
      have hB2 : Blk (w2.drew.alloc (.cells us.toArray 171)) w2.heap.size 171 us := Blk.new w2.drew _ _
      refine lex_do rfl (fun K hK => ?_)
      refine wp_append_mine (.tmp 53) (.tmp 55) 73 rfl w.heap.size 171 iT _ 5 _ Try.underlying73 hiT hz0 hz1 hz2 rfl (by decide) (.slice a i c) i xss.flatten rfl (World.ownsRow.alloc HRW.out _) ⟨w2.heap.size, 0, none⟩ 1 1 us rfl (by rw [HUS.out]) hB2.news (HO.out) (by unfold maxLen; omega) (by omega) (by have := HST.out.upd.size; simp; omega) ?_
      intro v' w3 hown hg hv
      have uA : Upd [f, p] wr (w2.drew.alloc (.cells us.toArray 171)) := (HU.out.drew).alloc _
      have hF : Fr B w3 f l2 b2 := by
        obtain ⟨a', c', hI⟩ := H1.out
        have hI2 : In 113 cR B (w2.drew.alloc (.cells us.toArray 171)) f l2 b2 a' c' := hI.upd (F := []) ((Upd.refl [] w2).drew.alloc _) (by simp)
        refine ⟨a', c', hI2.upd (F := (Value.slice a i c).ownBlock.toList) ((Upd.refl _ _).grown hg (fun k hk => .inl (by simp [hk]))) (fun k hk => ?_)⟩
        have := own_lo HST.out.row (g := k) (by simpa using hk)
        omega
      have hbp3 : Blk w3 p tp (pre ++ [.slice a i c] ++ post) := by
        have hb4 : Blk (w2.drew.alloc (.cells us.toArray 171)) p tp (pre ++ [.slice a i c] ++ post) := (HBP.out.drew).alloc _
        refine (hg.block p hb4.lt (fun e => ?_)).trans hb4
        have := own_lo HST.out.row (g := p) e.symm
        omega
      have q1 := hbp3.cell (o := pre.length) mid_at
      have q2 := hbp3.frozen pre.length
      have q3 := hbp3.lt
      have uS : Upd [p] w3 (w3.setCell ⟨p, pre.length, none⟩ v') := (Upd.refl _ _).setCell (by simp) _
      have HX : Hid (Blk (w3.setCell ⟨p, pre.length, none⟩ v') p tp (pre ++ [v'] ++ post) ∧ LRdSt sSeen 113 cR [f, p] B f 171 5 w (w3.setCell ⟨p, pre.length, none⟩ v') k l b (i + 1) l2 b2 v' (xss ++ [us]) (xs ++ [x])) := by
        refine Lib.hid ⟨?_, LRdSt.next HST.out hlt uA (H4.out.updN ((Upd.refl [] w2).drew.alloc _) (by simp)) HUS.out H5.out hg hown ?_ (uS.mono (by simp)) (hF.upd uS (by simp; omega))⟩
        · have := hbp3.set pre.length v'
          rwa [mid_set] at this
        · rcases hv with h | h
          · exact .inl h
          · exact .inr h
      have hS3 : Upd (Value.slice a i c).ownBlock.toList w2 w3 := (hS0.alloc _).grown hg (fun k hk => .inl (by simp [hk]))
      refine hK _ _ (fun _ => hS3) ?_
      obtain ⟨a', c', rfl⟩ := own_shape' hown
      clear hK K hown hg hv uA hF hbp3 uS hB2 hS0
      try simp only [Act.put, List.setIfInBounds_toArray, List.set_cons_zero, List.set_cons_succ]
      refine lex_do rfl (fun K hK => ?_)
      go_simp
      refine hK _ _ (fun _ => hS3) ?_
      clear hK K hS3
      try simp only [Act.put, List.setIfInBounds_toArray, List.set_cons_zero, List.set_cons_succ]
      refine lex_do rfl (fun K hK => ?_)
      go_simp
      refine hK _ _ (fun h => absurd rfl h) ?_
      clear hK K
      try simp only [Act.put, List.setIfInBounds_toArray, List.set_cons_zero, List.set_cons_succ]
      refine lex_nil ?_
      go_wp2_with fail
      go_roundg (k - (i + 1))
      case measure => have := HG.out; omega
      case rel => exact ⟨i + 1, l2, b2, _, _, _, by go_num, rfl, by omega, HX.out.1, HX.out.2⟩
    · obtain rfl : i = k := by omega
      have HE := Lib.hid (HST.out.rd (.inr rfl))
      go_wp2_with fail
      go_end0
      exact ⟨rfl, .list xs, [v], l', b', HST.out.fr, HST.out.upd, HBK.out, HST.out.isRep, HE.out⟩
end Go.Proofs.Ythecincpejpmpaa
/- codec's form.store, reading. -/
namespace Go.Proofs.Ythecincpejpmpaa
open Go.RowKit Go.Lb Go.Rc

set_option maxRecDepth 20000 in
set_option maxHeartbeats 2000000 in
theorem store_reads : Reads 48 sStore := by
  intro B f p q tp pre post l b w h hB hpf hq hp
  subst hq
  have H0 := Lib.hid (RdSt.start (rest := [.num, .num, .list sJob, .list sJob, .list sNode, .list sAlloc, .list sEval, .list sDeploy, .list sSeen]) h hB hpf hp (fr_mark h).2.2.2.1)
  clear h hp
  go_enter Try.func48, Try.ntmps48
  go_wp2_with fail
  refine wp_region_lex (fun _ => True) 99 [(0, true), (1, true), (2, true), (3, true), (4, true), (5, true), (6, true), (7, false), (8, false)] (by kernel_rfl) (by kernel_rfl) (by kernel_rfl) (by kernel_rfl) (fun _ _ d _ _ h => by cases d <;> exact h) ?_
  simp only [lexOps, List.map_cons, List.map_nil, List.getD_cons_zero, List.getD_cons_succ]
  iterate 7 (refine lex_read rfl trivial (v := ?_) (fun w' _ => ?_) ?_; rotate_left; (focus (go_simp; try with_reducible rfl)); simp only [Act.put, List.setIfInBounds_toArray, List.set_cons_zero, List.set_cons_succ])
  refine lex_do rfl (fun K hK => ?_)
  go_simp
  refine hK _ _ (fun _ => trivial) ?_
  clear hK K
  refine lex_do rfl (fun K hK => ?_)
  go_simp
  refine (CRd.goNums (rest := [.list sJob, .list sJob, .list sNode, .list sAlloc, .list sEval, .list sDeploy, .list sSeen]) (k := 2) H0.out ((Upd.refl _ _).alloc _).drew (Nat.le_refl _) (Blk.drew (Blk.new _ _ [_, _])) (by simp only [fsize_append, fsize_nums, fsize, List.nil_append] <;> rfl) (by decide)).mono ?_
  rintro e w1 ⟨rfl, ns1, l1, b1, hn, h⟩
  have H1 := Lib.hid h
  have HN1 := Lib.hid hn
  clear hn
  refine hK _ _ (fun _ => trivial) ?_
  clear hK K h
  refine lex_nil ?_
  go_wp2_with fail
  refine (CRd.goList listJob_reads H1.out (by simp only [fsize_append, fsize_nums, fsize, HN1.out, List.nil_append] <;> rfl)).mono ?_
  rintro e w2 ⟨rfl, v2, l2, b2, h⟩
  have H2 := Lib.hid h
  clear h
  go_wp2_with fail
  refine (CRd.goList listJob_reads H2.out (by simp only [fsize_append, fsize_nums, fsize, HN1.out, List.nil_append] <;> rfl)).mono ?_
  rintro e w3 ⟨rfl, v3, l3, b3, h⟩
  have H3 := Lib.hid h
  clear h
  go_wp2_with fail
  refine (CRd.goList listNode_reads H3.out (by simp only [fsize_append, fsize_nums, fsize, HN1.out, List.nil_append] <;> rfl)).mono ?_
  rintro e w4 ⟨rfl, v4, l4, b4, h⟩
  have H4 := Lib.hid h
  clear h
  go_wp2_with fail
  refine (CRd.goList listAlloc_reads H4.out (by simp only [fsize_append, fsize_nums, fsize, HN1.out, List.nil_append] <;> rfl)).mono ?_
  rintro e w5 ⟨rfl, v5, l5, b5, h⟩
  have H5 := Lib.hid h
  clear h
  go_wp2_with fail
  refine (CRd.goList listEval_reads H5.out (by simp only [fsize_append, fsize_nums, fsize, HN1.out, List.nil_append] <;> rfl)).mono ?_
  rintro e w6 ⟨rfl, v6, l6, b6, h⟩
  have H6 := Lib.hid h
  clear h
  go_wp2_with fail
  refine (CRd.goList listDeploy_reads H6.out (by simp only [fsize_append, fsize_nums, fsize, HN1.out, List.nil_append] <;> rfl)).mono ?_
  rintro e w7 ⟨rfl, v7, l7, b7, h⟩
  have H7 := Lib.hid h
  clear h
  go_wp2_with fail
  refine (CRd.goList listSeen_reads H7.out (by simp only [fsize_append, fsize_nums, fsize, HN1.out, List.nil_append] <;> rfl)).mono ?_
  rintro e w8 ⟨rfl, v8, l8, b8, h⟩
  have H8 := Lib.hid h
  clear h
  go_wp2_with fail
  go_end0
  exact CRd.fin H8.out (by simp only [List.map_append, nums_fst, HN1.out, List.append_assoc, List.map_cons, List.map_nil, List.nil_append]; rfl)
end Go.Proofs.Ythecincpejpmpaa
/- codec's get[Store] and GetStore. -/
namespace Go.Proofs.Ythecincpejpmpaa
open Go.RowKit Go.Lb Go.Rc

set_option maxRecDepth 20000 in
set_option maxHeartbeats 2000000 in
theorem getStore_any (a : Option Addr) (c : Nat) (l : List Nat) (w : World) (hb : Bytes w (· < w.heap.size) a l) (hc : l.length ≤ c ∧ c ≤ maxLen) :
    Calls Try.prog 47 #[.slice a l.length c, .func (.func 48) #[] #[]] w (GetIs sStore l w) := by
  have HB := Lib.hid hb
  have HC := Lib.hid hc
  clear hb hc
  go_enter Try.func47, Try.ntmps47
  go_wp2_with (refine wpList_alloc_blk rfl 75 rfl sStore.zc (zero75 _) ?_; intro wA hA uA)
  rename_i wB hB uB wC hC uC K1 a1 K2 a2
  have uW : Upd [] w (wA.alloc (.cells #[.slice a l.length c, .bool true, .bool false] 113)) := ((uB.trans uC (by simp)).trans uA (by simp)).alloc _
  have s1 := uB.size
  have s2 := uC.size
  have s3 := uA.size
  have l1 := hB.lt
  have l2 := hC.lt
  have l3 := hA.lt
  have hT := (uA.blk (uC.blk hB (by simp)) (by simp)).alloc (.cells #[.slice a l.length c, .bool true, .bool false] 113)
  have hX := (uA.blk hC (by simp)).alloc (.cells #[.slice a l.length c, .bool true, .bool false] 113)
  have hN := hA.alloc (.cells #[.slice a l.length c, .bool true, .bool false] 113)
  refine (store_reads w.heap.size wA.heap.size wB.heap.size 0 75 [] [] l false _ ⟨a, c, Blk.new wA 113 [.slice a l.length c, .bool true, .bool false], HB.out.upd uW (by simp), HC.out, by omega⟩ (by omega) (by omega) rfl (by simpa using hX)).mono ?_
  rintro e w1 ⟨rfl, v, cs, l', b', h1, h2, h3, h4, h5⟩
  have hlen : cs.length = 9 := h4.len
  have h3' : Blk w1 wB.heap.size 75 cs := by simpa using h3
  have hT1 : Blk w1 w.heap.size 75 sStore.zc := h2.blk hT (by simp; omega)
  have hN1 : Blk w1 wC.heap.size 75 sStore.zc := h2.blk hN (by simp; omega)
  have HU : Hid (Upd [] w w1) := Lib.hid (uW.trans h2 (by simp; omega))
  have HT := Lib.hid hT1
  have HN := Lib.hid hN1
  have HX := Lib.hid h3'
  have HRep := Lib.hid (h4.mono (ok' := fun k => w.heap.size < k ∧ Soft w1 k) (fun b hb _ => ⟨by have := hb.1; simp at this; omega, hb.2⟩))
  have HR := Lib.hid h5
  obtain ⟨m2, _, _, _, _⟩ := fr_mark h1
  obtain ⟨a', c', hI⟩ := h1
  have f0 := hI.blk.cell (o := 0) rfl
  clear h2 h3 h4 h5 h3' hT1 hN1 hT hX hN hI uA uB uC hA hB hC uW
  by_cases hg : b' = false ∧ l' = []
  · obtain ⟨rfl, rfl⟩ := hg
    have f0' : w1.cell? ⟨wA.heap.size, 0, none⟩ = some (.slice a' 0 c') := f0
    clear f0
    go_wp2_with (first | (refine wpList_load_blk rfl 75 (.tmp 6) rfl wB.heap.size rfl HX.out Try.underlying75 rfl (by rw [hlen]; exact Try.size75) ?_) | (refine wpList_store_blk (o := ⟨none, .store 75 (.tmp 4) (.tmp 28), _, _, _, _⟩) rfl 75 (.tmp 4) (.tmp 28) rfl w.heap.size cs rfl rfl HT.out (by rw [hlen]; exact Try.size75) (by rw [hlen]; rfl) HRep.out.one ?_; intro w3 hb3 hu3))
    have hl := run_loadVar_blk (P := Try.prog) hb3 75 _ Try.underlying75 rfl (by rw [hlen]; exact Try.size75)
    refine bodyPost_ret (v := .tuple #[.agg cs.toArray, .bool true]) ?_ rfl ⟨HU.out.trans hu3 (by simp), cs, v, true, rfl, HRep.out.keep (fun k hk hl => ⟨⟨Nat.le_of_lt hk.1, hk.2.keep (hu3.block k hl (by simp; omega))⟩, hu3.block k hl (by simp; omega)⟩) hu3.size, fun _ => (HR.out.good rfl).2, fun h => (by cases h)⟩
    · rw [results_cell_tmp Try.results47]; simp [asAddr, hl]
  · have t1 : b' = true ∨ (b' = false ∧ decide (0 < l'.length) = true) := by
      cases b' with
      | true => exact .inl rfl
      | false =>
        right
        refine ⟨rfl, ?_⟩
        rw [decide_eq_true_eq, List.length_pos_iff]
        exact fun h => hg ⟨rfl, h⟩
    have HG : Hid (∀ v', sStore.get l ≠ some (v', [])) := Lib.hid (fun v' hv => by
      cases b' with
      | true =>
        rcases HR.out.bad rfl with h | h
        · cases h
        · rw [hv] at h; cases h
      | false =>
        have := (HR.out.good rfl).2
        rw [hv] at this
        simp only [Option.some.injEq, Prod.mk.injEq] at this
        exact hg ⟨rfl, this.2.symm⟩)
    clear hg
    rcases t1 with rfl | ⟨rfl, t1⟩
    all_goals
      go_wp2_with (first | (refine wpList_load_blk rfl 75 (.tmp 7) rfl wC.heap.size rfl HN.out Try.underlying75 rfl (by exact Try.size75) ?_) | (refine wpList_store_blk (o := ⟨none, .store 75 (.tmp 4) (.tmp 27), _, _, _, _⟩) rfl 75 (.tmp 4) (.tmp 27) rfl w.heap.size sStore.zc rfl rfl HT.out (by exact Try.size75) (by rfl) (Sch.zc_one sStore) ?_; intro w3 hb3 hu3))
      have hl := run_loadVar_blk (P := Try.prog) hb3 75 _ Try.underlying75 rfl (by exact Try.size75)
      refine bodyPost_ret (v := .tuple #[.agg sStore.zc.toArray, .bool false]) ?_ rfl ⟨HU.out.trans hu3 (by simp), sStore.zc, sStore.zero, false, rfl, Sch.Rep.zero _ _ _, fun h => (by cases h), fun _ => ⟨HG.out, rfl⟩⟩
      rw [results_cell_tmp Try.results47]; simp [asAddr, hl]

set_option maxRecDepth 20000 in
set_option maxHeartbeats 2000000 in
theorem getStore_gets : Gets 27 sStore := by
  intro a c l w hb hc
  have HB := Lib.hid hb
  have HC := Lib.hid hc
  clear hb hc
  go_enter Try.func27, Try.ntmps27
  go_wp2_with (refine wpList_alloc_blk rfl 75 rfl sStore.zc (zero75 _) ?_; intro wA hA uA)
  have s1 := uA.size
  have l1 := hA.lt
  refine (getStore_any a c l wA ((HB.out.upd uA (by simp)).mono' s1) HC.out).mono ?_
  rintro e w1 ⟨u1, cs, v, r, rfl, hr, h1, h2⟩
  have hlen : cs.length = 9 := hr.len
  have HT := Lib.hid (u1.blk hA (by simp))
  have HU : Hid (Upd [] w w1) := Lib.hid (uA.trans u1 (by simp))
  have HRep := Lib.hid (hr.mono (ok' := fun k => w.heap.size < k ∧ Soft w1 k) (fun b hb _ => ⟨by have := hb.1; omega, hb.2⟩))
  have H1 := Lib.hid h1
  have H2 := Lib.hid h2
  clear hr h1 h2 u1 uA hA
  go_wp2_with (refine wpList_store_blk (o := ⟨none, .store 75 (.tmp 2) (.tmp 6), _, _, _, _⟩) rfl 75 (.tmp 2) (.tmp 6) rfl w.heap.size cs rfl rfl HT.out (by rw [hlen]; exact Try.size75) (by rw [hlen]; rfl) HRep.out.one ?_; intro w3 hb3 hu3)
  have hl := run_loadVar_blk (P := Try.prog) hb3 75 _ Try.underlying75 rfl (by rw [hlen]; exact Try.size75)
  refine bodyPost_ret (v := .tuple #[.agg cs.toArray, .bool r]) ?_ rfl ⟨HU.out.trans hu3 (by simp), cs, v, r, rfl, HRep.out.keep (fun k hk hl => ⟨⟨Nat.le_of_lt hk.1, hk.2.keep (hu3.block k hl (by simp; omega))⟩, hu3.block k hl (by simp; omega)⟩) hu3.size, H1.out, H2.out⟩
  rw [results_cell_tmp Try.results27]; simp [asAddr, hl]
end Go.Proofs.Ythecincpejpmpaa
/- The reference's Out.Num, Count, Flag. -/
namespace Go.Proofs.Ythecincpejpmpaa
open Go.RowKit Go.Lb Go.Rc

theorem ow_mark {B f : Nat} {X : List Nat} {o : List Nat} {b : Bool} {w : World} (h : Ow B X w f o b) : w.cell? ⟨f, 1, none⟩ = some (.bool b) ∧ w.frozen? ⟨f, 1, none⟩ = false ∧ f < w.heap.size := by
  obtain ⟨_, v, h, _⟩ := h
  exact ⟨h.blk.cell rfl, h.blk.frozen 1, h.blk.lt⟩
/-- How a thing of a shape is handed over. -/
def argOf : Sch → List Value → Value
  | .pair _ _, cs => .agg cs.toArray
  | _, cs => cs.headD undef
/-- What a thing's writing by the reference does. -/
def OPost (s : Sch) (B : Nat) (X : List Nat) (f : Nat) (v : Val) (o : List Nat) (b : Bool) (w : World) (e : Ending) (w' : World) : Prop :=
  e = .returned (.tuple #[]) ∧ ∃ o' b', Ow B X w' f o' b' ∧ Kp B X w w' ∧ s.Wr v o b o' b'
/-- Function K of the reference writes things of shape s. -/
def OWrites (K : Nat) (s : Sch) : Prop := ∀ (B : Nat) (X : List Nat) (f : Nat) (cs : List Value) (v : Val) (o : List Nat) (b : Bool) (w : World), Ow B X w f o b → s.Rep w (· < B) cs v → o.length + s.wmax v ≤ 1099511627776 →
  Calls Try.prog K #[.pointer (some ⟨f, 0, none⟩), argOf s cs] w (OPost s B X f v o b w)

set_option maxRecDepth 20000 in
set_option maxHeartbeats 1000000 in
theorem onum_wb (B : Nat) (X : List Nat) (f : Nat) (n : Int) (o : List Nat) (b : Bool) (w : World) (h : Ow B X w f o b) (hn : ¬ (-maxN ≤ n ∧ n ≤ maxN)) :
    Calls Try.prog 57 #[.pointer (some ⟨f, 0, none⟩), .int .i64 n] w fun e w' => e = .returned (.tuple #[]) ∧ Ow B X w' f o true ∧ Kp B X w w' := by
  have HM := Lib.hid (out_mark (i := 1) (fun _ _ _ => rfl) h true)
  obtain ⟨hX, v, h, hs⟩ := h
  have c1 := h.blk.cell (o := 1) rfl
  have hfz := h.blk.frozen 1
  have hlt := h.blk.lt
  unfold maxN at hn
  clear h hs hX
  by_cases h1 : n < -1099511627776
  · have d1 : decide (n < -1099511627776) = true := by simpa using h1
    clear hn h1
    go_enter Try.func57, Try.ntmps57
    go_wp2_with fail
    refine bodyPost_ret (results_none rfl _ _ _) rfl ?_
    exact ⟨rfl, HM.out⟩
  · have d1 : decide (n < -1099511627776) = false := by simpa using h1
    have d2 : decide (1099511627776 < n) = true := by simp; omega
    clear hn h1
    go_enter Try.func57, Try.ntmps57
    go_wp2_with fail
    refine bodyPost_ret (results_none rfl _ _ _) rfl ?_
    exact ⟨rfl, HM.out⟩

theorem ozig_neg {n : Int} (h0 : n < 0) : -2 * n - 1 = (zig n : Int) := by
  unfold zig
  rw [if_neg (by omega)]; omega
theorem ozig_pos {n : Int} (h0 : ¬ n < 0) : 2 * n = (zig n : Int) := by
  unfold zig
  rw [if_pos (by omega)]; omega

set_option maxRecDepth 20000 in
set_option maxHeartbeats 1000000 in
theorem onum_wg (B : Nat) (X : List Nat) (f : Nat) (n : Int) (o : List Nat) (b : Bool) (w : World) (h : Ow B X w f o b) (hn : -maxN ≤ n ∧ n ≤ maxN) (hl : o.length + 6 ≤ 1099511627776) :
    Calls Try.prog 57 #[.pointer (some ⟨f, 0, none⟩), .int .i64 n] w fun e w' => e = .returned (.tuple #[]) ∧ Ow B X w' f (o ++ nput n) b ∧ Kp B X w w' := by
  obtain ⟨i5, hi5, hz0, hz1, hz2⟩ := infoU8
  have H := Lib.hid h
  obtain ⟨hX, v, h, hs⟩ := h
  have c0 := h.blk.cell (o := 0) rfl
  have c1 := h.blk.cell (o := 1) rfl
  have hfz := h.blk.frozen 0
  have hlt := h.blk.lt
  have hzl := zig_le hn
  have Hlen := Lib.hid (show (nput n).length ≤ 6 from nput_len hn)
  have HN := Lib.hid hn
  unfold maxN at hn
  clear h hs hX
  have d1 : decide (n < -1099511627776) = false := by simp; omega
  have d2 : decide (1099511627776 < n) = false := by simp; omega
  by_cases h0 : n < 0
  all_goals
    first | (have d3 : decide (n < 0) = true := by simpa using h0) | (have d3 : decide (n < 0) = false := by simpa using h0)
    first | (have hz := ozig_neg h0) | (have hz := ozig_pos h0)
    go_enter Try.func57, Try.ntmps57
    go_wp2_with fail
    clear hz
    go_loopg [4] (zig n) (fun g s wr => ∃ (u : Nat) (o' : List Nat), s = .int .i64 u ∧ u ≤ 2199023255552 ∧ u = g ∧ o' ++ vput u = o ++ nput n ∧ Ow B X wr f o' b ∧ Kp B X w wr)
    case atStart => exact ⟨zig n, o, rfl, hzl, rfl, rfl, H.out, Kp.refl _ _ _⟩
    case round =>
      obtain ⟨u, o', rfl, hu, rfl, ho, hF, hK⟩ := hrel
      have HK := Lib.hid hK
      obtain ⟨hX, v, h, hs⟩ := hF
      have hlo : o'.length + (vput u).length = o.length + (nput n).length := by rw [← List.length_append, ho, List.length_append]
      have hlo2 : o'.length ≤ o.length + 6 := by have := Hlen.out; omega
      have k0 := h.blk.cell (o := 0) rfl
      have kfz := h.blk.frozen 0
      have klt := h.blk.lt
      have Hr := Lib.hid h.row
      obtain ⟨va, vc, rfl⟩ := own_shape h.row
      have HH := Lib.hid h
      have HS := Lib.hid hs
      have HX := Lib.hid hX
      by_cases hlt128 : u < 128
      · have ht : decide ((128 : Int) ≤ (u : Int)) = false := by simp; omega
        have hvp : vput u = [u] := by unfold vput; rw [if_pos hlt128]
        rw [hvp] at ho
        have HO := Lib.hid ho
        clear ho hK h hs hX hvp hlo
        go_wp2_with (at_builtin; refine wpList_append_mine rfl (.tmp 42) (.tmp 45) 22 rfl 0 5 i5 (.int .u8 0) 1 1 Try.underlying22 hi5 hz0 hz1 hz2 rfl (by decide) (.slice va o'.length vc) o'.length (o'.map bv) rfl (World.ownsRow.alloc Hr.out _) ⟨wr.heap.size, 0, none⟩ 1 1 [bv u] rfl rfl (Blk.news (Blk.new _ 5 [bv u])) (by simp [bv, Value.oneCell']) (by unfold maxLen; omega) (by omega) (by simp) ?_; intro v' w11 ho hg hgb; obtain ⟨va', vc', rfl⟩ := own_shape ho; have Hn := Lib.hid (out_step (mk := oW) (B := B) (X := X) (news := [u]) (fun _ _ _ => rfl) (fun _ _ => rfl) HH.out HS.out HX.out ((Upd.refl _ _).alloc _) (by simp; omega) ho hg hgb); have e0 := Hn.out.2.1; have e1 := Hn.out.2.2.1; have e2 := Hn.out.2.2.2; clear ho hg hgb)
        go_end0
        exact ⟨rfl, by rw [← HO.out]; exact Hn.out.1.1, HK.out.trans Hn.out.1.2⟩
      · have ht : decide ((128 : Int) ≤ (u : Int)) = true := by simp; omega
        have hvp : vput u = (128 + u % 128) :: vput (u / 128) := by conv => { lhs; unfold vput }; rw [if_neg hlt128]
        rw [hvp] at ho
        have HO := Lib.hid ho
        obtain ⟨m, hm⟩ : ∃ m, m = 128 + u % 128 := ⟨_, rfl⟩
        have hor : (128 : Int) + (u : Int) % 128 = (m : Int) := by omega
        rw [← hm] at HO
        have hm2 : m < 256 := by omega
        clear hm
        clear ho hK h hs hX hvp hlo
        go_wp2_with (at_builtin; refine wpList_append_mine rfl (.tmp 27) (.tmp 32) 22 rfl 0 5 i5 (.int .u8 0) 1 1 Try.underlying22 hi5 hz0 hz1 hz2 rfl (by decide) (.slice va o'.length vc) o'.length (o'.map bv) rfl (World.ownsRow.alloc Hr.out _) ⟨wr.heap.size, 0, none⟩ 1 1 [bv m] rfl rfl (Blk.news (Blk.new _ 5 [bv m])) (by simp [bv, Value.oneCell']) (by unfold maxLen; omega) (by omega) (by simp) ?_; intro v' w11 ho hg hgb; obtain ⟨va', vc', rfl⟩ := own_shape ho; have Hn := Lib.hid (out_step (mk := oW) (B := B) (X := X) (news := [m]) (fun _ _ _ => rfl) (fun _ _ => rfl) HH.out HS.out HX.out ((Upd.refl _ _).alloc _) (by simp; omega) ho hg hgb); have e0 := Hn.out.2.1; have e1 := Hn.out.2.2.1; have e2 := Hn.out.2.2.2; clear ho hg hgb)
        go_roundg (u / 128)
        case measure => omega
        case rel => exact ⟨u / 128, o' ++ [m], by rw [Int.natCast_ediv]; rfl, by omega, rfl, by rw [← HO.out]; simp, Hn.out.1.1, HK.out.trans Hn.out.1.2⟩

theorem onum_w (B : Nat) (X : List Nat) (f : Nat) (n : Int) (o : List Nat) (b : Bool) (w : World) (h : Ow B X w f o b) (hl : o.length + 6 ≤ 1099511627776) :
    Calls Try.prog 57 #[.pointer (some ⟨f, 0, none⟩), .int .i64 n] w fun e w' => e = .returned (.tuple #[]) ∧ ∃ o' b', Ow B X w' f o' b' ∧ Kp B X w w' ∧ Sch.num.Wr (.num n) o b o' b' := by
  by_cases hn : -maxN ≤ n ∧ n ≤ maxN
  · refine (onum_wg B X f n o b w h hn hl).mono fun e w' ⟨he, h1, h2⟩ => ⟨he, _, _, h1, h2, ⟨by simp [Sch.good, hn], fun _ => rfl, ?_⟩⟩
    have := nput_len hn
    simp only [Sch.wmax, List.length_append]; omega
  · refine (onum_wb B X f n o b w h hn).mono fun e w' ⟨he, h1, h2⟩ => ⟨he, _, _, h1, h2, ⟨by simp [Sch.good, hn], (fun h => by cases h), by omega⟩⟩
theorem onum_writes : OWrites 57 .num := fun B X f cs v o b w h hr hl => by
  obtain ⟨n, rfl, rfl⟩ := hr
  exact onum_w B X f n o b w h (by simpa [Sch.wmax] using hl)

set_option maxRecDepth 20000 in
set_option maxHeartbeats 1000000 in
theorem oflag_writes : OWrites 87 .flag := fun B X f cs v o b w h hr hl => by
  obtain ⟨t, rfl, rfl⟩ := hr
  simp only [Sch.wmax] at hl
  have H := Lib.hid h
  clear h
  show Calls Try.prog _ #[_, .bool t] _ _
  cases t
  all_goals
    go_enter Try.func87, Try.ntmps87
    go_wp2_with fail
    refine (onum_w B X f _ o b _ H.out hl).mono ?_
    rintro e w1 ⟨rfl, o', b', h1, h2, h3⟩
    have H1 := Lib.hid h1
    have H2 := Lib.hid h2
    have H3 := Lib.hid h3
    clear h1 h2 h3
    go_wp2_with fail
    go_end0
    exact ⟨rfl, o', b', H1.out, H2.out, ⟨by rw [H3.out.bad]; simp [Sch.good, maxN], H3.out.out, H3.out.len⟩⟩

set_option maxRecDepth 20000 in
set_option maxHeartbeats 1000000 in
/-- How many a list has. -/
theorem ocount_w (B : Nat) (X : List Nat) (f k : Nat) (o : List Nat) (b : Bool) (w : World) (h : Ow B X w f o b) (hl : o.length + 6 ≤ 1099511627776) :
    Calls Try.prog 60 #[.pointer (some ⟨f, 0, none⟩), .int .i64 (k : Int)] w fun e w' => e = .returned (.tuple #[]) ∧ ∃ o' b', Ow B X w' f o' b' ∧ Kp B X w w' ∧ WOk (k ≤ 64) (nput k) 6 o b o' b' := by
  obtain ⟨m1, m2, m3⟩ := ow_mark h
  obtain ⟨b1, hb1⟩ : ∃ b1 : Bool, b1 = (b || decide (64 < k)) := ⟨_, rfl⟩
  have HM := Lib.hid (out_mark (i := 1) (fun _ _ _ => rfl) h b1)
  clear h
  have fin : ∀ (o' : List Nat) (b' : Bool), Sch.num.Wr (.num (k : Int)) o b1 o' b' → WOk (k ≤ 64) (nput k) 6 o b o' b' := fun o' b' h => by
    refine ⟨?_, h.out, h.len⟩
    rw [h.bad, hb1]
    simp only [Bool.or_eq_false_iff, decide_eq_false_iff_not, Sch.good, maxN, Nat.not_lt, and_assoc]
    exact ⟨fun h => ⟨h.1, h.2.1⟩, fun h => ⟨h.1, h.2, by omega, by omega⟩⟩
  have HFIN := Lib.hid fin
  clear fin
  cases b
  · by_cases hk : 64 < k
    · have t1 : decide ((64 : Int) < (k : Int)) = true := by simp; omega
      obtain rfl : b1 = true := by simp [hb1, hk]
      clear hb1 hk
      go_enter Try.func60, Try.ntmps60
      go_wp2_with fail
      refine (onum_w B X f _ o true _ HM.out.1 hl).mono ?_
      rintro e w1 ⟨rfl, o', b', h1, h2, h3⟩
      have H1 := Lib.hid h1
      have H2 := Lib.hid (HM.out.2.trans h2)
      have H3 := Lib.hid h3
      clear h1 h2 h3
      go_wp2_with fail
      go_end0
      exact ⟨rfl, o', b', H1.out, H2.out, HFIN.out _ _ H3.out⟩
    · have t1 : decide ((64 : Int) < (k : Int)) = false := by simp; omega
      obtain rfl : b1 = false := by simp [hb1]; omega
      clear hb1 hk
      go_enter Try.func60, Try.ntmps60
      go_wp2_with fail
      refine (onum_w B X f _ o false _ HM.out.1 hl).mono ?_
      rintro e w1 ⟨rfl, o', b', h1, h2, h3⟩
      have H1 := Lib.hid h1
      have H2 := Lib.hid (HM.out.2.trans h2)
      have H3 := Lib.hid h3
      clear h1 h2 h3
      go_wp2_with fail
      go_end0
      exact ⟨rfl, o', b', H1.out, H2.out, HFIN.out _ _ H3.out⟩
  · obtain rfl : b1 = true := by simp [hb1]
    clear hb1
    go_enter Try.func60, Try.ntmps60
    go_wp2_with fail
    refine (onum_w B X f _ o true _ HM.out.1 hl).mono ?_
    rintro e w1 ⟨rfl, o', b', h1, h2, h3⟩
    have H1 := Lib.hid h1
    have H2 := Lib.hid (HM.out.2.trans h2)
    have H3 := Lib.hid h3
    clear h1 h2 h3
    go_wp2_with fail
    go_end0
    exact ⟨rfl, o', b', H1.out, H2.out, HFIN.out _ _ H3.out⟩
end Go.Proofs.Ythecincpejpmpaa
/- The reference's Out.Told. -/
namespace Go.Proofs.Ythecincpejpmpaa
open Go.RowKit Go.Lb Go.Rc
section
variable {B f : Nat} {X : List Nat} {o : List Nat} {w : World} {v : Value}
theorem told_bad (h : Ow B X w f o true) : Calls Try.prog 38 #[.pointer (some ⟨f, 0, none⟩)] w fun e w' => e = .returned (.tuple #[.slice none 0 0, .int .i64 1]) ∧ w' = w := by
  obtain ⟨m1, m2, m3⟩ := ow_mark h
  clear h
  go_enter Try.func38, Try.ntmps38
  go_wp2_with fail
  go_ret2
  exact ⟨rfl, rfl⟩
theorem told_good (h : Ow B X w f o false) (hv : w.cell? ⟨f, 0, none⟩ = some v) : Calls Try.prog 38 #[.pointer (some ⟨f, 0, none⟩)] w fun e w' => e = .returned (.tuple #[v, .int .i64 0]) ∧ w' = w := by
  obtain ⟨m1, m2, m3⟩ := ow_mark h
  clear h
  go_enter Try.func38, Try.ntmps38
  go_wp2_with fail
  go_ret2
  exact ⟨rfl, rfl⟩
end
end Go.Proofs.Ythecincpejpmpaa
/- A record's fields, written by the reference one behind the other: where the writing stands; numbers written out of a new row. -/
namespace Go.Rc
open Go Go.RowKit Go.Lb
theorem rangeAt_split {w : World} {p q : Nat} {c r : List Value} (h : w.rangeAt p q (c ++ r)) : w.rangeAt p q c ∧ w.rangeAt p (q + c.length) r := by
  refine ⟨fun j v hj => h j v ?_, fun j v hj => ?_⟩
  · rw [List.getElem?_append_left (List.getElem?_eq_some_iff.1 hj).1]; exact hj
  · have := h (c.length + j) v (by rw [List.getElem?_append_right (by omega), Nat.add_sub_cancel_left]; exact hj)
    rwa [← Nat.add_assoc] at this
/-- Where a writing stands: done is written, rest stands in block p behind. -/
structure WrG (T U : TypeId) (mk : Value → Bool → List Value) (B : Nat) (X : List Nat) (f p q0 : Nat) (w wc : World) (o : List Nat) (b : Bool) (oc : List Nat) (bc : Bool) (done rest : List (Sch × Val)) : Prop where
  fw : St T U mk B X wc f oc bc
  kp : Kp B X w wc
  seq : WSeq done o b oc bc
  mem : p < B ∨ p ∈ X
  lt : p < w.heap.size
  src : ∃ cr, wc.rangeAt p (q0 + fsize done) cr ∧ RepSeq wc (· < B) rest cr
  len : oc.length + wsum rest ≤ 1099511627776
section
variable {T U : TypeId} {mk : Value → Bool → List Value} {B f p q0 q : Nat} {X : List Nat} {w wc w' : World} {o oc o' : List Nat} {b bc b' : Bool} {done rest m : List (Sch × Val)} {s : Sch} {v : Val}
theorem WrG.start {cs : List Value} (h : St T U mk B X w f o b) (hp : p < B ∨ p ∈ X) (hlt : p < w.heap.size) (hb : w.rangeAt p q0 cs) (hr : RepSeq w (· < B) rest cs) (hl : o.length + wsum rest ≤ 1099511627776) : WrG T U mk B X f p q0 w w o b o b [] rest :=
  ⟨h, Kp.refl _ _ _, ⟨rfl, rfl⟩, hp, hlt, ⟨cs, hb, hr⟩, hl⟩
theorem WrG.upd (h : WrG T U mk B X f p q0 w wc o b oc bc done rest) (u : Upd [] wc w') : WrG T U mk B X f p q0 w w' o b oc bc done rest := by
  obtain ⟨cr, h1, h2⟩ := h.src
  exact ⟨h.fw.same u, h.kp.trans (Kp.of_nil u), h.seq, h.mem, h.lt, ⟨cr, rangeAt_keep h1 (u.block p (Nat.lt_of_lt_of_le h.lt h.kp.size) (by simp)), h2.upd u (by simp)⟩, h.len⟩
/-- What comes next is written. -/
theorem WrG.next (h : WrG T U mk B X f p q0 w wc o b oc bc done (m ++ rest)) (h1 : St T U mk B X w' f o' b') (h2 : Kp B X wc w') (h3 : WSeq m oc bc o' b') : WrG T U mk B X f p q0 w w' o b o' b' (done ++ m) rest := by
  obtain ⟨cr, k1, k3⟩ := h.src
  have hm : ∃ c r, cr = c ++ r ∧ c.length = fsize m ∧ RepSeq wc (· < B) rest r := by
    clear k1 h h3
    induction m generalizing cr with
    | nil => exact ⟨[], cr, rfl, rfl, k3⟩
    | cons x m ih =>
      obtain ⟨c, r, rfl, j1, j2⟩ := RepSeq.open (s := x.1) (v := x.2) k3
      obtain ⟨c', r', rfl, j3, j4⟩ := ih r j2
      exact ⟨c ++ c', r', by simp, by simp [j1.len, j3, fsize], j4⟩
  obtain ⟨c, r, rfl, j1, j2⟩ := hm
  refine ⟨h1, h.kp.trans h2, h.seq.append h3, h.mem, h.lt, ⟨r, ?_, j2.keep (fun k hk hl => ⟨hk, h2.block k hl (.inl hk)⟩) h2.size⟩, ?_⟩
  · have := (rangeAt_split k1).2
    rw [j1] at this
    rw [fsize_append, ← Nat.add_assoc]
    exact rangeAt_keep this (h2.block p (Nat.lt_of_lt_of_le h.lt h.kp.size) h.mem)
  · have := h3.len
    have := h.len
    rw [wsum_append] at this
    omega
/-- What comes next, in memory. -/
theorem WrG.range (h : WrG T U mk B X f p q0 w wc o b oc bc done ((s, v) :: rest)) (hq : q = q0 + fsize done) : ∃ c, s.Rep wc (· < B) c v ∧ wc.rangeAt p q c := by
  subst hq
  obtain ⟨cr, k1, k3⟩ := h.src
  obtain ⟨c, r, rfl, j1, j2⟩ := k3.open
  exact ⟨c, j1, (rangeAt_split k1).1⟩
theorem WrG.numAt {n : Int} (h : WrG T U mk B X f p q0 w wc o b oc bc done ((.num, .num n) :: rest)) (hq : q = q0 + fsize done) : wc.cell? ⟨p, q, none⟩ = some (.int .i64 n) := by
  obtain ⟨c, ⟨k, rfl, hk⟩, hc⟩ := h.range hq
  cases hk
  exact hc 0 _ rfl
theorem WrG.flagAt {t : Bool} (h : WrG T U mk B X f p q0 w wc o b oc bc done ((.flag, .flag t) :: rest)) (hq : q = q0 + fsize done) : wc.cell? ⟨p, q, none⟩ = some (.bool t) := by
  obtain ⟨c, ⟨k, rfl, hk⟩, hc⟩ := h.range hq
  cases hk
  exact hc 0 _ rfl
theorem WrG.listAt {l : List Val} (h : WrG T U mk B X f p q0 w wc o b oc bc done ((.list s, .list l) :: rest)) (hq : q = q0 + fsize done) : ∃ a c, wc.cell? ⟨p, q, none⟩ = some (.slice a l.length c) ∧ (Sch.list s).Rep wc (· < B) [.slice a l.length c] (.list l) := by
  obtain ⟨c, hr, hc⟩ := h.range hq
  have hr' := hr
  obtain ⟨a, k, l', rfl, hl, _⟩ := hr
  cases hl
  exact ⟨a, k, hc 0 _ rfl, hr'⟩
theorem WrG.rawAt {l : List Nat} (h : WrG T U mk B X f p q0 w wc o b oc bc done ((.raw, .raw l) :: rest)) (hq : q = q0 + fsize done) : ∃ a c, wc.cell? ⟨p, q, none⟩ = some (.slice a l.length c) ∧ Sch.raw.Rep wc (· < B) [.slice a l.length c] (.raw l) := by
  obtain ⟨c, hr, hc⟩ := h.range hq
  have hr' := hr
  obtain ⟨a, k, l', rfl, hl, _⟩ := hr
  cases hl
  exact ⟨a, k, hc 0 _ rfl, hr'⟩
/-- The next numbers, in memory. -/
theorem WrG.numsAt {ns : List Int} (h : WrG T U mk B X f p q0 w wc o b oc bc done (nums ns ++ rest)) (hq : q = q0 + fsize done) : wc.rangeAt p q (ns.map fun n => Value.int .i64 n) := by
  subst hq
  obtain ⟨cr, k1, k3⟩ := h.src
  obtain ⟨r, rfl, _⟩ := k3.opn
  exact (rangeAt_split k1).1
theorem list_elems {w : World} {ok : Nat → Prop} {s : Sch} {a : Option Addr} {n c : Nat} {l : List Val} (h : (Sch.list s).Rep w ok [.slice a n c] (.list l)) : n = l.length ∧ Elems w ok s s.size a l := by
  obtain ⟨a', c', l', h1, h2, h3⟩ := h
  cases h2
  cases h1
  exact ⟨rfl, h3⟩
end
/-- Something of the record is written, whatever it is. -/
def Sch.wpos : Sch → Bool
  | .nil => false
  | .pair a b => a.wpos || b.wpos
  | _ => true
theorem Sch.Rep.wpos {w : World} {ok : Nat → Prop} : ∀ {s : Sch} {cs : List Value} {v : Val}, s.wpos = true → s.Rep w ok cs v → 1 ≤ s.wmax v
  | .nil, _, _, h, _ => by cases h
  | .num, _, _, _, h => by obtain ⟨n, _, rfl⟩ := h; simp [Sch.wmax]
  | .flag, _, _, _, h => by obtain ⟨n, _, rfl⟩ := h; simp [Sch.wmax]
  | .raw, _, _, _, h => by obtain ⟨_, _, l, _, rfl, _⟩ := h; simp only [Sch.wmax]; omega
  | .list s, _, _, _, h => by obtain ⟨_, _, l, _, rfl, _⟩ := h; simp only [Sch.wmax]; omega
  | .pair a b, _, _, h, hr => by
    obtain ⟨c1, c2, x, y, _, rfl, h1, h2⟩ := hr
    simp only [Sch.wpos, Bool.or_eq_true] at h
    simp only [Sch.wmax]
    rcases h with h | h
    · have := Sch.Rep.wpos h h1; omega
    · have := Sch.Rep.wpos h h2; omega
theorem sum_pos_len : ∀ (l : List Nat), (∀ x ∈ l, 1 ≤ x) → l.length ≤ l.sum
  | [], _ => by simp
  | x :: l, h => by
    have h1 := sum_pos_len l (fun y hy => h y (by simp [hy]))
    have h2 := h x (by simp)
    simp only [List.length_cons, List.sum_cons]; omega
theorem elems_len {w : World} {ok : Nat → Prop} {s : Sch} {k M m : Nat} {a : Option Addr} {l : List Val} (h : Elems w ok s k a l) (hl : m + (Sch.list s).wmax (.list l) ≤ M) (hs : s.wpos = true) : l.length ≤ M := by
  have h1 := sum_pos_len (l.map s.wmax) (fun x hx => by
    obtain ⟨y, hy, rfl⟩ := List.mem_map.1 hx
    obtain ⟨i, hi⟩ := List.mem_iff_getElem?.1 hy
    obtain ⟨_, _, _, _, _, _, _, hr⟩ := h i y hi
    exact hr.wpos hs)
  rw [List.length_map] at h1
  simp only [Sch.wmax] at hl
  omega
end Go.Rc
namespace Go.Proofs.Ythecincpejpmpaa
open Go.RowKit Go.Lb Go.Rc
abbrev OWg (B : Nat) (X : List Nat) (f p q0 : Nat) (w wc : World) (o : List Nat) (b : Bool) (oc : List Nat) (bc : Bool) (done rest : List (Sch × Val)) : Prop := WrG 96 5 oW B X f p q0 w wc o b oc bc done rest
section
variable {tp : TypeId} {B f p q0 q : Nat} {X : List Nat} {w wc wd : World} {o oc : List Nat} {b bc : Bool} {done rest : List (Sch × Val)} {s : Sch} {v : Val}
/-- The record was handed over: it lies in a new block. -/
theorem OWg.start {cs : List Value} (h : Ow B X w f o b) (hr : RepSeq w (· < B) rest cs) (hl : o.length + wsum rest ≤ 1099511627776) (hb : Blk wd w.heap.size tp cs) (u : Upd [] w wd) : OWg B (w.heap.size :: X) f w.heap.size 0 wd wd o b o b [] rest :=
  WrG.start (h.new u (Nat.le_refl _) hb.lt) (.inr (by simp)) hb.lt hb.range (hr.upd u (by simp)) hl
theorem OWg.go {K : Nat} {c : List Value} (C : OWrites K s) (h : OWg B X f p q0 w wc o b oc bc done ((s, v) :: rest)) (hc : s.Rep wc (· < B) c v) :
    Calls Try.prog K #[.pointer (some ⟨f, 0, none⟩), argOf s c] wc fun e w' => e = .returned (.tuple #[]) ∧ ∃ o' b', OWg B X f p q0 w w' o b o' b' (done ++ [(s, v)]) rest := by
  have hl := h.len
  rw [wsum_cons] at hl
  refine (C B X f c v oc bc wc h.fw hc (by dsimp only at hl; omega)).mono fun e w' ⟨he, o', b', h1, h2, h3⟩ => ?_
  exact ⟨he, o', b', WrG.next (m := [(s, v)]) h h1 h2 (WSeq.one h3)⟩
theorem OWg.goNum {n : Int} (h : OWg B X f p q0 w wc o b oc bc done ((.num, .num n) :: rest)) :
    Calls Try.prog 57 #[.pointer (some ⟨f, 0, none⟩), .int .i64 n] wc fun e w' => e = .returned (.tuple #[]) ∧ ∃ o' b', OWg B X f p q0 w w' o b o' b' (done ++ [(.num, .num n)]) rest :=
  OWg.go (c := [.int .i64 n]) onum_writes h (Sch.Rep.num_mk n)
theorem OWg.goFlag {t : Bool} (h : OWg B X f p q0 w wc o b oc bc done ((.flag, .flag t) :: rest)) :
    Calls Try.prog 87 #[.pointer (some ⟨f, 0, none⟩), .bool t] wc fun e w' => e = .returned (.tuple #[]) ∧ ∃ o' b', OWg B X f p q0 w w' o b o' b' (done ++ [(.flag, .flag t)]) rest :=
  OWg.go (c := [.bool t]) oflag_writes h ⟨t, rfl, rfl⟩
/-- How many the next list has is written; the list's things come then. -/
theorem OWg.goCount {l : List Val} (h : OWg B X f p q0 w wc o b oc bc done ((.list s, .list l) :: rest)) :
    Calls Try.prog 60 #[.pointer (some ⟨f, 0, none⟩), .int .i64 (l.length : Int)] wc fun e w' => e = .returned (.tuple #[]) ∧ ∃ o' b', Ow B X w' f o' b' ∧ Kp B X wc w' ∧ LWk s l.length [] oc bc o' b' := by
  have hl := h.len
  rw [wsum_cons] at hl
  refine (ocount_w B X f l.length oc bc wc h.fw (by simp only [Sch.wmax] at hl; omega)).mono fun e w' ⟨he, o', b', h1, h2, h3⟩ => ⟨he, o', b', h1, h2, LWk.start h3⟩
theorem OWg.fin (h : OWg B (p :: X) f p 0 wd wc o b oc bc done []) (u : Upd [] w wd) (hs : s = tup (done.map (·.1))) (hv : v = vtup (done.map (·.2))) : OPost s B X f v o b w (.returned (.tuple #[])) wc := by
  subst hs hv
  exact ⟨rfl, oc, bc, h.fw.less, (Kp.of_nil u).trans h.kp.drop, WSeq.tup h.seq⟩
end

def ONumsW (B : Nat) (X : List Nat) (f : Nat) (ns : List Int) (o : List Nat) (b : Bool) (w : World) (e : Ending) (w' : World) : Prop :=
  e = .returned (.tuple #[]) ∧ ∃ o' b', Ow B X w' f o' b' ∧ Kp B X w w' ∧ WSeq (nums ns) o b o' b'

set_option maxRecDepth 20000 in
set_option maxHeartbeats 1000000 in
theorem onums16_w (B : Nat) (X : List Nat) (f ab k : Nat) (ns : List Int) (o : List Nat) (b : Bool) (w : World) (h : Ow B X w f o b) (hk : ns.length = k) (ha : ab ∈ X)
    (hpt : w.rangeAt ab 0 (ns.map iv)) (hl : o.length + 6 * k ≤ 1099511627776) :
    Calls Try.prog 90 #[.pointer (some ⟨f, 0, none⟩), .slice (some ⟨ab, 0, none⟩) k k] w (ONumsW B X f ns o b w) := by
  subst hk
  have H := Lib.hid h
  have HA := Lib.hid ha
  have HPT := Lib.hid hpt
  have hal := h.1 ab ha
  clear h ha hpt
  go_enter Try.func90, Try.ntmps90
  go_wp2_with fail
  go_loopg [4] ns.length (fun g t wr => ∃ (i : Nat) (o' : List Nat) (b' : Bool), t = .int .i64 i ∧ ns.length - i = g ∧ i ≤ ns.length ∧ Ow B X wr f o' b' ∧ Kp B X w wr ∧ WSeq (nums (ns.take i)) o b o' b')
  case atStart => exact ⟨0, o, b, rfl, rfl, by omega, H.out, Kp.refl _ _ _, rfl, rfl⟩
  case round =>
    obtain ⟨i, o', b', rfl, hg, hi, hF, hK, hW⟩ := hrel
    have HG := Lib.hid hg
    have HF := Lib.hid hF
    have HK := Lib.hid hK
    have HW := Lib.hid hW
    clear hg hF hK hW
    by_cases hlt : i < ns.length
    · have t1 : decide (i < ns.length) = true := by simpa using hlt
      obtain ⟨n, hn⟩ : ∃ n, ns[i]? = some n := ⟨_, List.getElem?_eq_getElem hlt⟩
      have HN := Lib.hid hn
      have c0 := HPT.out i (.int .i64 n) (by rw [List.getElem?_map, hn]; rfl)
      rw [Nat.zero_add] at c0
      have c1 : wr.cell? ⟨ab, i, none⟩ = some (.int .i64 n) := (HK.out.cell (o := i) hal (.inr HA.out)).trans c0
      have hwl := HW.out.len
      rw [wsum_nums, List.length_take] at hwl
      have hol : o'.length + 6 ≤ 1099511627776 := by omega
      clear hn c0 hwl
      go_wp2_with fail
      refine (onum_w B X f n o' b' _ HF.out hol).mono ?_
      rintro e w1 ⟨rfl, o2, b2, h1, h2, h3⟩
      have H1 := Lib.hid h1
      have H2 := Lib.hid h2
      have H3 := Lib.hid h3
      clear h1 h2 h3
      go_wp2_with fail
      go_roundg (ns.length - (i + 1))
      case measure => have := HG.out; omega
      case rel => exact ⟨i + 1, o2, b2, by go_num, rfl, by omega, H1.out, HK.out.trans H2.out, by rw [take_snoc HN.out, nums, List.map_append]; exact HW.out.snoc H3.out⟩
    · obtain rfl : i = ns.length := by omega
      go_wp2_with fail
      go_end0
      refine ⟨rfl, o', b', HF.out, HK.out, ?_⟩
      have := HW.out
      rwa [List.take_length] at this
section
variable {tp : TypeId} {B f p q0 q : Nat} {X : List Nat} {w wc wd : World} {o oc : List Nat} {b bc : Bool} {done rest : List (Sch × Val)} {s : Sch} {v : Val}
/-- The next numbers are written, out of a new row. -/
theorem OWg.goNums {ns : List Int} {ab k : Nat} {t : TypeId} {vs : List Value} (h : OWg B X f p q0 w wc o b oc bc done (nums ns ++ rest)) (hk : ns.length = k) (u : Upd [] wc wd) (ha : wc.heap.size ≤ ab) (hv : Blk wd ab t vs) (hvs : vs = ns.map iv) :
    Calls Try.prog 90 #[.pointer (some ⟨f, 0, none⟩), .slice (some ⟨ab, 0, none⟩) k k] wd fun e w' => e = .returned (.tuple #[]) ∧ ∃ o' b', OWg B X f p q0 w w' o b o' b' (done ++ nums ns) rest := by
  have h' := h.upd u
  have hl := h.len
  rw [wsum_append, wsum_nums] at hl
  subst hvs
  refine (onums16_w B (ab :: X) f ab k ns oc bc wd (h.fw.new u ha hv.lt) hk (by simp) hv.range (by omega)).mono ?_
  rintro e w' ⟨he, o', b', h1, h2, h3⟩
  exact ⟨he, o', b', h'.next h1.less h2.drop h3⟩
end
end Go.Proofs.Ythecincpejpmpaa
/- The reference's Out.Bytes. -/
namespace Go.Proofs.Ythecincpejpmpaa
open Go.RowKit Go.Lb Go.Rc

set_option maxRecDepth 20000 in
set_option maxHeartbeats 2000000 in
theorem obytes_writes : OWrites 92 .raw := fun B X f cs v o b w h hr hl => by
  obtain ⟨i5, hi5, hz0, hz1, hz2⟩ := infoU8
  obtain ⟨a, c, l, rfl, rfl, hby⟩ := hr
  have hl2 : o.length + (6 + l.length) ≤ 1099511627776 := hl
  obtain ⟨m1, m2, m3⟩ := ow_mark h
  obtain ⟨tt, htt⟩ : ∃ tt, decide ((65536 : Int) < (l.length : Int)) = tt := ⟨_, rfl⟩
  obtain ⟨b1, hb1⟩ : ∃ b1 : Bool, b1 = (b || tt) := ⟨_, rfl⟩
  have HM := Lib.hid (out_mark (i := 1) (fun _ _ _ => rfl) h b1)
  have HBY := Lib.hid hby
  have hB := h.base
  have fin : ∀ (o' : List Nat) (b' : Bool), Sch.num.Wr (.num (l.length : Int)) o b1 o' b' → Sch.raw.Wr (.raw l) o b (o' ++ l) b' := fun o' b' h => by
    refine ⟨?_, ?_, ?_⟩
    · rw [h.bad, hb1, ← htt]
      simp only [Bool.or_eq_false_iff, decide_eq_false_iff_not, Sch.good, maxN, and_assoc]
      constructor
      · rintro ⟨h1, h2, _⟩
        exact ⟨h1, by omega, fun x hx => by
          obtain ⟨i, hi⟩ := List.mem_iff_getElem?.1 hx
          exact (hby i x hi).1⟩
      · rintro ⟨h1, h2, _⟩
        exact ⟨h1, by omega, by omega, by omega⟩
    · intro e
      rw [h.out e, List.append_assoc]; rfl
    · have := h.len
      simp only [List.length_append, Sch.wmax] at this ⊢
      omega
  have HFIN := Lib.hid fin
  clear fin h hby hl
  show Calls Try.prog _ #[_, .slice a l.length c] _ _
  cases b
  all_goals
    simp only [Bool.false_or, Bool.true_or] at hb1
    subst hb1
    go_enter Try.func92, Try.ntmps92
    go_wp2_with fail
    refine (onum_w B X f _ o _ _ HM.out.1 (by omega)).mono ?_
    rintro e w1 ⟨rfl, o1, b1, h1, h2, h3⟩
    have ho1 := h3.len
    simp only [Sch.wmax] at ho1
    have H2 := Lib.hid (HM.out.2.trans h2)
    have HB1 : Hid (Bytes w1 (· < B) a l) := Lib.hid (HBY.out.keep (fun k hk hl => ⟨hk, (HM.out.2.trans h2).block k hl (.inl hk)⟩) (HM.out.2.trans h2).size)
    have H3 := Lib.hid (HFIN.out _ _ h3)
    obtain ⟨hX1, vb, hO, hs⟩ := h1
    obtain ⟨ga, gc, rfl⟩ := own_shape hO.row
    have e3 := hO.blk.cell (o := 0) rfl
    obtain ⟨v', w3, hrun, hown, hg, hv⟩ := append_bytes (P := Try.prog) (ty := 22) (c := c) Try.underlying22 hi5 hz0 hz1 hz2 rfl hO.row HB1.out (by omega) (Nat.zero_le _)
    have HF := Lib.hid (out_step (mk := oW) (B := B) (X := X) (news := l) (fun _ _ _ => rfl) (fun _ _ => rfl) hO hs hX1 (Upd.refl [] w1) (fun x hx => by
      obtain ⟨i, hi⟩ := List.mem_iff_getElem?.1 hx
      exact (HB1.out i x hi).1) hown hg hv)
    obtain ⟨va', vc', rfl⟩ := own_shape hown
    have e0 := HF.out.2.1
    have e1 := HF.out.2.2.1
    have e2 := HF.out.2.2.2
    have HRUN := Lib.hid hrun
    clear h2 h3 hO hs hX1 hrun hown hg hv
    go_wp2_with (at_builtin; refine wpList_run rfl (exec_append (by rfl) (by rfl) (by rfl) HRUN.out) ?_)
    go_end0
    exact ⟨rfl, o1 ++ l, b1, HF.out.1.1, H2.out.trans HF.out.1.2, H3.out⟩
end Go.Proofs.Ythecincpejpmpaa
/- The reference's res, written. -/
namespace Go.Proofs.Ythecincpejpmpaa
open Go.RowKit Go.Lb Go.Rc

set_option maxRecDepth 20000 in
set_option maxHeartbeats 4000000 in
theorem ores_writes : OWrites 86 sRes := fun B X f cs v o b w h hr hl => by
  have hlen : cs.length = 2 := hr.len
  have k0 : (tup [.num, .num]).Rep w (· < B) cs v := hr
  obtain ⟨_, _, v0, y1, -, rfl, ⟨n0, -, rfl⟩, k1⟩ := Sch.Rep.tup_cons k0
  obtain ⟨_, _, v1, y2, -, rfl, ⟨n1, -, rfl⟩, k2⟩ := Sch.Rep.tup_cons k1
  obtain ⟨-, rfl⟩ := Sch.Rep.tup_nil k2
  clear k1 k2
  have H0 := Lib.hid (OWg.start (tp := 37) (rest := [(.num, .num n0), (.num, .num n1)]) h hr (by have := tup_wmax [(.num, .num n0), (.num, .num n1)]; rw [← this]; exact hl) (Blk.new w 37 cs) ((Upd.refl _ _).alloc _))
  have hB := h.base
  clear h hr hl k0
  show Calls Try.prog _ #[_, .agg cs.toArray] _ _
  go_enter Try.func86, Try.ntmps86
  have e0 := WrG.numAt (q := 0) H0.out rfl
  go_wp2_with fail
  refine (OWg.goNum H0.out).mono ?_
  rintro e w1 ⟨rfl, o1, b1, h⟩
  have H1 := Lib.hid h
  clear h e0
  have e1 := WrG.numAt (q := 1) H1.out rfl
  go_wp2_with fail
  refine (OWg.goNum H1.out).mono ?_
  rintro e w2 ⟨rfl, o2, b2, h⟩
  have H2 := Lib.hid h
  clear h e1
  go_wp2_with fail
  go_end0
  exact OWg.fin H2.out ((Upd.refl _ _).alloc _) rfl rfl
end Go.Proofs.Ythecincpejpmpaa
/- The reference's job, written. -/
namespace Go.Proofs.Ythecincpejpmpaa
open Go.RowKit Go.Lb Go.Rc

set_option maxRecDepth 20000 in
set_option maxHeartbeats 4000000 in
theorem ojob_writes : OWrites 58 sJob := fun B X f cs v o b w h hr hl => by
  have hlen : cs.length = 7 := hr.len
  have k0 : (tup [.num, .num, .num, .num, .list sGroup, .num, .flag]).Rep w (· < B) cs v := hr
  obtain ⟨_, _, v0, y1, -, rfl, ⟨n0, -, rfl⟩, k1⟩ := Sch.Rep.tup_cons k0
  obtain ⟨_, _, v1, y2, -, rfl, ⟨n1, -, rfl⟩, k2⟩ := Sch.Rep.tup_cons k1
  obtain ⟨_, _, v2, y3, -, rfl, ⟨n2, -, rfl⟩, k3⟩ := Sch.Rep.tup_cons k2
  obtain ⟨_, _, v3, y4, -, rfl, ⟨n3, -, rfl⟩, k4⟩ := Sch.Rep.tup_cons k3
  obtain ⟨_, _, v4, y5, -, rfl, ⟨-, -, l4, -, rfl, -⟩, k5⟩ := Sch.Rep.tup_cons k4
  obtain ⟨_, _, v5, y6, -, rfl, ⟨n5, -, rfl⟩, k6⟩ := Sch.Rep.tup_cons k5
  obtain ⟨_, _, v6, y7, -, rfl, ⟨t6, -, rfl⟩, k7⟩ := Sch.Rep.tup_cons k6
  obtain ⟨-, rfl⟩ := Sch.Rep.tup_nil k7
  clear k1 k2 k3 k4 k5 k6 k7
  have H0 := Lib.hid (OWg.start (tp := 35) (rest := [(.num, .num n0), (.num, .num n1), (.num, .num n2), (.num, .num n3), (.list sGroup, .list l4), (.num, .num n5), (.flag, .flag t6)]) h hr (by have := tup_wmax [(.num, .num n0), (.num, .num n1), (.num, .num n2), (.num, .num n3), (.list sGroup, .list l4), (.num, .num n5), (.flag, .flag t6)]; rw [← this]; exact hl) (Blk.new w 35 cs) ((Upd.refl _ _).alloc _))
  have hB := h.base
  clear h hr hl k0
  show Calls Try.prog _ #[_, .agg cs.toArray] _ _
  go_enter Try.func58, Try.ntmps58
  have e0 := WrG.numAt (q := 0) H0.out rfl
  go_wp2_with fail
  refine (OWg.goNum H0.out).mono ?_
  rintro e w1 ⟨rfl, o1, b1, h⟩
  have H1 := Lib.hid h
  clear h e0
  have e1 := WrG.numAt (q := 1) H1.out rfl
  go_wp2_with fail
  refine (OWg.goNum H1.out).mono ?_
  rintro e w2 ⟨rfl, o2, b2, h⟩
  have H2 := Lib.hid h
  clear h e1
  have e2 := WrG.numAt (q := 2) H2.out rfl
  go_wp2_with fail
  refine (OWg.goNum H2.out).mono ?_
  rintro e w3 ⟨rfl, o3, b3, h⟩
  have H3 := Lib.hid h
  clear h e2
  have e3 := WrG.numAt (q := 3) H3.out rfl
  go_wp2_with fail
  refine (OWg.goNum H3.out).mono ?_
  rintro e w4 ⟨rfl, o4, b4, h⟩
  have H4 := Lib.hid h
  clear h e3
  obtain ⟨a4, c4, e4, r4⟩ := WrG.listAt (q := 4) H4.out rfl
  have HA4 : Hid (Elems w4 (· < B) sGroup 3 a4 l4) := Lib.hid (list_elems r4).2
  have hwl4 := H4.out.len
  rw [wsum_cons] at hwl4
  have HL4 : Hid (o4.length + (Sch.list sGroup).wmax (.list l4) ≤ 1099511627776) := Lib.hid (by dsimp only at hwl4; omega)
  have hps4 := H4.out.fw.1 w.heap.size (by simp)
  have hll4 : l4.length ≤ 1099511627776 := elems_len HA4.out HL4.out rfl
  clear r4 hwl4
  go_wp2_with fail
  refine (OWg.goCount H4.out).mono ?_
  rintro e w4x ⟨rfl, o4x, b4x, h1, h2, h3⟩
  have p4 := (h2.cell (o := 4) hps4 (.inr (by simp))).trans e4
  have H1x := Lib.hid h1
  have H2x := Lib.hid h2
  have H3x := Lib.hid h3
  clear h1 h2 h3
  go_wp2_with fail
  go_loopg [4] l4.length (fun g t wr => ∃ (i : Nat) (o' : List Nat) (b' : Bool), t = .int .i64 i ∧ l4.length - i = g ∧ i ≤ l4.length ∧ Ow B (w.heap.size :: X) wr f o' b' ∧ Kp B (w.heap.size :: X) w4 wr ∧ LWk sGroup l4.length (l4.take i) o4 b4 o' b')
  case atStart => exact ⟨0, o4x, b4x, rfl, rfl, by omega, H1x.out, H2x.out, H3x.out⟩
  case round =>
    obtain ⟨i, o', b', rfl, hg, hi, hF, hK, hW⟩ := hrel
    have HG := Lib.hid hg
    have HF := Lib.hid hF
    have HK := Lib.hid hK
    have HW := Lib.hid hW
    have r0 := (hK.cell (o := 4) hps4 (.inr (by simp))).trans e4
    clear hg hF hK hW p4
    by_cases hlt : i < l4.length
    · have t1 : decide (i < l4.length) = true := by simpa using hlt
      obtain ⟨x, hx⟩ : ∃ x, l4[i]? = some x := ⟨_, List.getElem?_eq_getElem hlt⟩
      obtain ⟨b0, o0, us, rfl, hb0, hbl, hrg, hrep⟩ := HA4.out i x hx
      have hrep := hrep.keep (ok' := (· < B)) (fun k hk hl => ⟨hk, HK.out.block k hl (.inl hk)⟩) HK.out.size
      have hrg : wr.rangeAt b0 (o0 + i * 3) us := rangeAt_keep hrg (HK.out.block b0 hbl (.inl hb0))
      have hblr : b0 < wr.heap.size := Nat.lt_of_lt_of_le hbl HK.out.size
      have HWL := Lib.hid (HW.out.room hx HL4.out)
      have Hx := Lib.hid hx
      clear hx
      have hrepc := hrep
      obtain ⟨_, _, zv0, zy1, -, rfl, ⟨zn0, -, rfl⟩, zk1⟩ := Sch.Rep.tup_cons hrepc
      obtain ⟨_, _, zv1, zy2, -, rfl, -, zk2⟩ := Sch.Rep.tup_cons zk1
      obtain ⟨-, rfl⟩ := Sch.Rep.tup_nil zk2
      clear zk1 zk2
      have hlw := HWL.out
      have G0 : Hid (OWg B (w.heap.size :: X) f b0 (o0 + i * 3) wr wr o' b' o' b' [] [(.num, .num zn0), (sRes, zv1)]) := Lib.hid (WrG.start HF.out (.inl hb0) hblr hrg hrep (by have := tup_wmax [(.num, .num zn0), (sRes, zv1)]; rw [← this]; exact hlw))
      clear hrg hrep hlw
      have u0 := WrG.numAt (q := o0 + i * 3) G0.out rfl
      go_wp2_with fail
      refine (OWg.goNum G0.out).mono ?_
      rintro e y1 ⟨rfl, o1', b1', h⟩
      have G1 := Lib.hid h
      clear h u0
      have r1 := (G1.out.kp.cell (o := 4) (b := w.heap.size) (by have := HK.out.size; omega) (.inr (by simp))).trans r0
      obtain ⟨c1z, r1z, g1z⟩ := WrG.range (q := o0 + i * 3 + 1) G1.out rfl
      have hl1z : c1z.length = 2 := r1z.len
      have RG := Lib.hid g1z
      have RR := Lib.hid r1z
      clear g1z r1z
      go_wp2_with (refine wpList_load_mid rfl 37 _ rfl b0 (o0 + i * 3 + 1) rfl c1z _ RG.out Try.underlying37 rfl (by rw [hl1z]; exact Try.size37) ?_)
      refine (OWg.go ores_writes G1.out RR.out).mono ?_
      rintro e y2 ⟨rfl, o2', b2', h⟩
      have G2 := Lib.hid h
      clear h
      clear r1
      have H1 := Lib.hid G2.out.fw
      have H2 := Lib.hid G2.out.kp
      have H3 := Lib.hid (HW.out.snoc (s := sGroup) (WSeq.tup G2.out.seq))
      go_wp2_with fail
      go_roundg (l4.length - (i + 1))
      case measure => have := HG.out; omega
      case rel => exact ⟨i + 1, o2', b2', by go_num, rfl, by omega, H1.out, HK.out.trans H2.out, by rw [take_snoc Hx.out]; exact H3.out⟩
    · obtain rfl : i = l4.length := by omega
      have t1 : decide (l4.length < l4.length) = false := by simp
      have hfin := HW.out
      rw [List.take_length] at hfin
      have H5 := Lib.hid (WrG.next (m := [(.list sGroup, .list l4)]) H4.out HF.out HK.out (WSeq.one (LWk.fin hfin)))
      clear hfin e4
      clear HF HW HG hlt hi
      obtain ⟨ws5, hz⟩ : ∃ z, z = wr := ⟨_, rfl⟩
      subst hz
      obtain ⟨os5, hz⟩ : ∃ z, z = o' := ⟨_, rfl⟩
      subst hz
      obtain ⟨bs5, hz⟩ : ∃ z, z = b' := ⟨_, rfl⟩
      subst hz
      clear HK
      have e5 := WrG.numAt (q := 5) H5.out rfl
      go_wp2_with fail
      refine (OWg.goNum H5.out).mono ?_
      rintro e w6 ⟨rfl, o6, b6, h⟩
      have H6 := Lib.hid h
      clear h e5
      have e6 := WrG.flagAt (q := 6) H6.out rfl
      go_wp2_with fail
      refine (OWg.goFlag H6.out).mono ?_
      rintro e w7 ⟨rfl, o7, b7, h⟩
      have H7 := Lib.hid h
      clear h e6
      go_wp2_with fail
      go_end0
      exact OWg.fin H7.out ((Upd.refl _ _).alloc _) rfl rfl
end Go.Proofs.Ythecincpejpmpaa
/- The reference's node, written. -/
namespace Go.Proofs.Ythecincpejpmpaa
open Go.RowKit Go.Lb Go.Rc

set_option maxRecDepth 20000 in
set_option maxHeartbeats 4000000 in
theorem onode_writes : OWrites 59 sNode := fun B X f cs v o b w h hr hl => by
  have hlen : cs.length = 8 := hr.len
  have k0 : (tup [.num, sRes, .flag, .flag, .num, .num, .num]).Rep w (· < B) cs v := hr
  obtain ⟨_, _, v0, y1, -, rfl, ⟨n0, -, rfl⟩, k1⟩ := Sch.Rep.tup_cons k0
  obtain ⟨_, _, v1, y2, -, rfl, -, k2⟩ := Sch.Rep.tup_cons k1
  obtain ⟨_, _, v2, y3, -, rfl, ⟨t2, -, rfl⟩, k3⟩ := Sch.Rep.tup_cons k2
  obtain ⟨_, _, v3, y4, -, rfl, ⟨t3, -, rfl⟩, k4⟩ := Sch.Rep.tup_cons k3
  obtain ⟨_, _, v4, y5, -, rfl, ⟨n4, -, rfl⟩, k5⟩ := Sch.Rep.tup_cons k4
  obtain ⟨_, _, v5, y6, -, rfl, ⟨n5, -, rfl⟩, k6⟩ := Sch.Rep.tup_cons k5
  obtain ⟨_, _, v6, y7, -, rfl, ⟨n6, -, rfl⟩, k7⟩ := Sch.Rep.tup_cons k6
  obtain ⟨-, rfl⟩ := Sch.Rep.tup_nil k7
  clear k1 k2 k3 k4 k5 k6 k7
  have H0 := Lib.hid (OWg.start (tp := 39) (rest := [(.num, .num n0), (sRes, v1), (.flag, .flag t2), (.flag, .flag t3), (.num, .num n4), (.num, .num n5), (.num, .num n6)]) h hr (by have := tup_wmax [(.num, .num n0), (sRes, v1), (.flag, .flag t2), (.flag, .flag t3), (.num, .num n4), (.num, .num n5), (.num, .num n6)]; rw [← this]; exact hl) (Blk.new w 39 cs) ((Upd.refl _ _).alloc _))
  have hB := h.base
  clear h hr hl k0
  show Calls Try.prog _ #[_, .agg cs.toArray] _ _
  go_enter Try.func59, Try.ntmps59
  have e0 := WrG.numAt (q := 0) H0.out rfl
  go_wp2_with fail
  refine (OWg.goNum H0.out).mono ?_
  rintro e w1 ⟨rfl, o1, b1, h⟩
  have H1 := Lib.hid h
  clear h e0
  obtain ⟨c1, r1, g1⟩ := WrG.range (q := 1) H1.out rfl
  have hl1 : c1.length = 2 := r1.len
  have G1 := Lib.hid g1
  have R1 := Lib.hid r1
  clear g1 r1
  go_wp2_with (refine wpList_load_mid rfl 37 _ rfl w.heap.size 1 rfl c1 _ G1.out Try.underlying37 rfl (by rw [hl1]; exact Try.size37) ?_)
  refine (OWg.go ores_writes H1.out R1.out).mono ?_
  rintro e w2 ⟨rfl, o2, b2, h⟩
  have H2 := Lib.hid h
  clear h
  have e2 := WrG.flagAt (q := 3) H2.out rfl
  go_wp2_with fail
  refine (OWg.goFlag H2.out).mono ?_
  rintro e w3 ⟨rfl, o3, b3, h⟩
  have H3 := Lib.hid h
  clear h e2
  have e3 := WrG.flagAt (q := 4) H3.out rfl
  go_wp2_with fail
  refine (OWg.goFlag H3.out).mono ?_
  rintro e w4 ⟨rfl, o4, b4, h⟩
  have H4 := Lib.hid h
  clear h e3
  have e4 := WrG.numAt (q := 5) H4.out rfl
  go_wp2_with fail
  refine (OWg.goNum H4.out).mono ?_
  rintro e w5 ⟨rfl, o5, b5, h⟩
  have H5 := Lib.hid h
  clear h e4
  have e5 := WrG.numAt (q := 6) H5.out rfl
  go_wp2_with fail
  refine (OWg.goNum H5.out).mono ?_
  rintro e w6 ⟨rfl, o6, b6, h⟩
  have H6 := Lib.hid h
  clear h e5
  have e6 := WrG.numAt (q := 7) H6.out rfl
  go_wp2_with fail
  refine (OWg.goNum H6.out).mono ?_
  rintro e w7 ⟨rfl, o7, b7, h⟩
  have H7 := Lib.hid h
  clear h e6
  go_wp2_with fail
  go_end0
  exact OWg.fin H7.out ((Upd.refl _ _).alloc _) rfl rfl
end Go.Proofs.Ythecincpejpmpaa
/- The reference's Nums, writing. -/
namespace Go.Proofs.Ythecincpejpmpaa
open Go.RowKit Go.Lb Go.Rc

set_option maxRecDepth 20000 in
set_option maxHeartbeats 2000000 in
theorem onums_writes : OWrites 88 (.list .num) := fun B X f cs v o b w h hr hl => by
  obtain ⟨a, c, l, rfl, rfl, hall⟩ := hr
  have HA : Hid (Elems w (· < B) .num 1 a l) := Lib.hid hall
  have H := Lib.hid h
  have HL := Lib.hid hl
  have hll : l.length ≤ 1099511627776 := elems_len hall hl rfl
  have hl1 : o.length + 6 ≤ 1099511627776 := by simp only [Sch.wmax] at hl; omega
  have hB := h.base
  clear h hall hl
  show Calls Try.prog _ #[_, .slice a l.length c] _ _
  go_enter Try.func88, Try.ntmps88
  go_wp2_with fail
  refine (ocount_w B X f l.length o b _ H.out hl1).mono ?_
  rintro e w1 ⟨rfl, o1, b1, h1, h2, h3⟩
  have H1 := Lib.hid h1
  have H2 := Lib.hid h2
  have H3 : Hid (LWk .num l.length [] o b o1 b1) := Lib.hid (LWk.start h3)
  clear h1 h2 h3
  go_wp2_with fail
  go_loopg [4] l.length (fun g t wr => ∃ (i : Nat) (o' : List Nat) (b' : Bool), t = .int .i64 i ∧ l.length - i = g ∧ i ≤ l.length ∧ Ow B X wr f o' b' ∧ Kp B X w wr ∧ LWk .num l.length (l.take i) o b o' b')
  case atStart => exact ⟨0, o1, b1, rfl, rfl, by omega, H1.out, H2.out, H3.out⟩
  case round =>
    obtain ⟨i, o', b', rfl, hg, hi, hF, hK, hW⟩ := hrel
    have HG := Lib.hid hg
    have HF := Lib.hid hF
    have HK := Lib.hid hK
    have HW := Lib.hid hW
    clear hg hF hK hW
    by_cases hlt : i < l.length
    · have t1 : decide (i < l.length) = true := by simpa using hlt
      obtain ⟨x, hx⟩ : ∃ x, l[i]? = some x := ⟨_, List.getElem?_eq_getElem hlt⟩
      obtain ⟨b0, o0, us, rfl, hb0, hbl, hrg, hrep⟩ := HA.out i x hx
      have hrep := hrep.keep (ok' := (· < B)) (fun k hk hl => ⟨hk, HK.out.block k hl (.inl hk)⟩) HK.out.size
      have hrg : wr.rangeAt b0 (o0 + i * 1) us := rangeAt_keep hrg (HK.out.block b0 hbl (.inl hb0))
      have HWL := Lib.hid (HW.out.room hx HL.out)
      have Hx := Lib.hid hx
      clear hx
      obtain ⟨nn, rfl, rfl⟩ := hrep
      have e0 := hrg 0 _ rfl
      rw [Nat.mul_one, Nat.add_zero] at e0
      clear hrg
      go_wp2_with fail
      refine (onum_writes B X f [.int .i64 nn] (.num nn) o' b' _ HF.out (Sch.Rep.num_mk nn) HWL.out).mono ?_
      rintro e w2 ⟨rfl, o2, b2, h1, h2, h3⟩
      have H1 := Lib.hid h1
      have H2 := Lib.hid h2
      have H3 := Lib.hid (HW.out.snoc h3)
      clear h1 h2 h3
      go_wp2_with fail
      go_roundg (l.length - (i + 1))
      case measure => have := HG.out; omega
      case rel => exact ⟨i + 1, o2, b2, by go_num, rfl, by omega, H1.out, HK.out.trans H2.out, by rw [take_snoc Hx.out]; exact H3.out⟩
    · obtain rfl : i = l.length := by omega
      have t1 : decide (l.length < l.length) = false := by simp
      go_wp2_with fail
      go_end0
      refine ⟨rfl, o', b', HF.out, HK.out, LWk.fin ?_⟩
      have := HW.out
      rwa [List.take_length] at this
end Go.Proofs.Ythecincpejpmpaa
/- The reference's alloc, written. -/
namespace Go.Proofs.Ythecincpejpmpaa
open Go.RowKit Go.Lb Go.Rc

set_option maxRecDepth 20000 in
set_option maxHeartbeats 4000000 in
theorem oalloc_writes : OWrites 96 sAlloc := fun B X f cs v o b w h hr hl => by
  have hlen : cs.length = 11 := hr.len
  have k0 : (tup [.num, .num, .num, .num, .num, .num, .num, sRes, .flag, .num]).Rep w (· < B) cs v := hr
  obtain ⟨_, _, v0, y1, -, rfl, ⟨n0, -, rfl⟩, k1⟩ := Sch.Rep.tup_cons k0
  obtain ⟨_, _, v1, y2, -, rfl, ⟨n1, -, rfl⟩, k2⟩ := Sch.Rep.tup_cons k1
  obtain ⟨_, _, v2, y3, -, rfl, ⟨n2, -, rfl⟩, k3⟩ := Sch.Rep.tup_cons k2
  obtain ⟨_, _, v3, y4, -, rfl, ⟨n3, -, rfl⟩, k4⟩ := Sch.Rep.tup_cons k3
  obtain ⟨_, _, v4, y5, -, rfl, ⟨n4, -, rfl⟩, k5⟩ := Sch.Rep.tup_cons k4
  obtain ⟨_, _, v5, y6, -, rfl, ⟨n5, -, rfl⟩, k6⟩ := Sch.Rep.tup_cons k5
  obtain ⟨_, _, v6, y7, -, rfl, ⟨n6, -, rfl⟩, k7⟩ := Sch.Rep.tup_cons k6
  obtain ⟨_, _, v7, y8, -, rfl, -, k8⟩ := Sch.Rep.tup_cons k7
  obtain ⟨_, _, v8, y9, -, rfl, ⟨t8, -, rfl⟩, k9⟩ := Sch.Rep.tup_cons k8
  obtain ⟨_, _, v9, y10, -, rfl, ⟨n9, -, rfl⟩, k10⟩ := Sch.Rep.tup_cons k9
  obtain ⟨-, rfl⟩ := Sch.Rep.tup_nil k10
  clear k1 k2 k3 k4 k5 k6 k7 k8 k9 k10
  have H0 := Lib.hid (OWg.start (tp := 156) (rest := [(.num, .num n0), (.num, .num n1), (.num, .num n2), (.num, .num n3), (.num, .num n4), (.num, .num n5), (.num, .num n6), (sRes, v7), (.flag, .flag t8), (.num, .num n9)]) h hr (by have := tup_wmax [(.num, .num n0), (.num, .num n1), (.num, .num n2), (.num, .num n3), (.num, .num n4), (.num, .num n5), (.num, .num n6), (sRes, v7), (.flag, .flag t8), (.num, .num n9)]; rw [← this]; exact hl) (Blk.new w 156 cs) ((Upd.refl _ _).alloc _))
  have hB := h.base
  clear h hr hl k0
  show Calls Try.prog _ #[_, .agg cs.toArray] _ _
  go_enter Try.func96, Try.ntmps96
  have e0 := WrG.numAt (q := 0) H0.out rfl
  go_wp2_with fail
  refine (OWg.goNum H0.out).mono ?_
  rintro e w1 ⟨rfl, o1, b1, h⟩
  have H1 := Lib.hid h
  clear h e0
  have e1 := WrG.numAt (q := 1) H1.out rfl
  go_wp2_with fail
  refine (OWg.goNum H1.out).mono ?_
  rintro e w2 ⟨rfl, o2, b2, h⟩
  have H2 := Lib.hid h
  clear h e1
  have e2 := WrG.numAt (q := 2) H2.out rfl
  go_wp2_with fail
  refine (OWg.goNum H2.out).mono ?_
  rintro e w3 ⟨rfl, o3, b3, h⟩
  have H3 := Lib.hid h
  clear h e2
  have e3 := WrG.numAt (q := 3) H3.out rfl
  go_wp2_with fail
  refine (OWg.goNum H3.out).mono ?_
  rintro e w4 ⟨rfl, o4, b4, h⟩
  have H4 := Lib.hid h
  clear h e3
  have e4 := WrG.numAt (q := 4) H4.out rfl
  go_wp2_with fail
  refine (OWg.goNum H4.out).mono ?_
  rintro e w5 ⟨rfl, o5, b5, h⟩
  have H5 := Lib.hid h
  clear h e4
  have e5 := WrG.numAt (q := 5) H5.out rfl
  go_wp2_with fail
  refine (OWg.goNum H5.out).mono ?_
  rintro e w6 ⟨rfl, o6, b6, h⟩
  have H6 := Lib.hid h
  clear h e5
  have e6 := WrG.numAt (q := 6) H6.out rfl
  go_wp2_with fail
  refine (OWg.goNum H6.out).mono ?_
  rintro e w7 ⟨rfl, o7, b7, h⟩
  have H7 := Lib.hid h
  clear h e6
  obtain ⟨c7, r7, g7⟩ := WrG.range (q := 7) H7.out rfl
  have hl7 : c7.length = 2 := r7.len
  have G7 := Lib.hid g7
  have R7 := Lib.hid r7
  clear g7 r7
  go_wp2_with (refine wpList_load_mid rfl 37 _ rfl w.heap.size 7 rfl c7 _ G7.out Try.underlying37 rfl (by rw [hl7]; exact Try.size37) ?_)
  refine (OWg.go ores_writes H7.out R7.out).mono ?_
  rintro e w8 ⟨rfl, o8, b8, h⟩
  have H8 := Lib.hid h
  clear h
  have e8 := WrG.flagAt (q := 9) H8.out rfl
  go_wp2_with fail
  refine (OWg.goFlag H8.out).mono ?_
  rintro e w9 ⟨rfl, o9, b9, h⟩
  have H9 := Lib.hid h
  clear h e8
  have e9 := WrG.numAt (q := 10) H9.out rfl
  go_wp2_with fail
  refine (OWg.goNum H9.out).mono ?_
  rintro e w10 ⟨rfl, o10, b10, h⟩
  have H10 := Lib.hid h
  clear h e9
  go_wp2_with fail
  go_end0
  exact OWg.fin H10.out ((Upd.refl _ _).alloc _) rfl rfl
end Go.Proofs.Ythecincpejpmpaa
/- The reference's allocs, writing. -/
namespace Go.Proofs.Ythecincpejpmpaa
open Go.RowKit Go.Lb Go.Rc

set_option maxRecDepth 20000 in
set_option maxHeartbeats 2000000 in
theorem oallocs_writes : OWrites 89 (.list sAlloc) := fun B X f cs v o b w h hr hl => by
  obtain ⟨a, c, l, rfl, rfl, hall⟩ := hr
  have HA : Hid (Elems w (· < B) sAlloc 11 a l) := Lib.hid hall
  have H := Lib.hid h
  have HL := Lib.hid hl
  have hll : l.length ≤ 1099511627776 := elems_len hall hl rfl
  have hl1 : o.length + 6 ≤ 1099511627776 := by simp only [Sch.wmax] at hl; omega
  have hB := h.base
  clear h hall hl
  show Calls Try.prog _ #[_, .slice a l.length c] _ _
  go_enter Try.func89, Try.ntmps89
  go_wp2_with fail
  refine (ocount_w B X f l.length o b _ H.out hl1).mono ?_
  rintro e w1 ⟨rfl, o1, b1, h1, h2, h3⟩
  have H1 := Lib.hid h1
  have H2 := Lib.hid h2
  have H3 : Hid (LWk sAlloc l.length [] o b o1 b1) := Lib.hid (LWk.start h3)
  clear h1 h2 h3
  go_wp2_with fail
  go_loopg [4] l.length (fun g t wr => ∃ (i : Nat) (o' : List Nat) (b' : Bool), t = .int .i64 i ∧ l.length - i = g ∧ i ≤ l.length ∧ Ow B X wr f o' b' ∧ Kp B X w wr ∧ LWk sAlloc l.length (l.take i) o b o' b')
  case atStart => exact ⟨0, o1, b1, rfl, rfl, by omega, H1.out, H2.out, H3.out⟩
  case round =>
    obtain ⟨i, o', b', rfl, hg, hi, hF, hK, hW⟩ := hrel
    have HG := Lib.hid hg
    have HF := Lib.hid hF
    have HK := Lib.hid hK
    have HW := Lib.hid hW
    clear hg hF hK hW
    by_cases hlt : i < l.length
    · have t1 : decide (i < l.length) = true := by simpa using hlt
      obtain ⟨x, hx⟩ : ∃ x, l[i]? = some x := ⟨_, List.getElem?_eq_getElem hlt⟩
      obtain ⟨b0, o0, us, rfl, hb0, hbl, hrg, hrep⟩ := HA.out i x hx
      have hrep := hrep.keep (ok' := (· < B)) (fun k hk hl => ⟨hk, HK.out.block k hl (.inl hk)⟩) HK.out.size
      have hrg : wr.rangeAt b0 (o0 + i * 11) us := rangeAt_keep hrg (HK.out.block b0 hbl (.inl hb0))
      have HWL := Lib.hid (HW.out.room hx HL.out)
      have Hx := Lib.hid hx
      clear hx
      have HRG := Lib.hid hrg
      have HREP := Lib.hid hrep
      have hus : us.length = 11 := hrep.len
      clear hrg hrep
      go_wp2_with (refine wpList_load_mid rfl 156 _ rfl b0 (o0 + i * 11) rfl us _ HRG.out Try.underlying156 rfl (by rw [hus]; exact Try.size156) ?_)
      refine (oalloc_writes B X f us x o' b' _ HF.out HREP.out HWL.out).mono ?_
      rintro e w2 ⟨rfl, o2, b2, h1, h2, h3⟩
      have H1 := Lib.hid h1
      have H2 := Lib.hid h2
      have H3 := Lib.hid (HW.out.snoc h3)
      clear h1 h2 h3
      go_wp2_with fail
      go_roundg (l.length - (i + 1))
      case measure => have := HG.out; omega
      case rel => exact ⟨i + 1, o2, b2, by go_num, rfl, by omega, H1.out, HK.out.trans H2.out, by rw [take_snoc Hx.out]; exact H3.out⟩
    · obtain rfl : i = l.length := by omega
      have t1 : decide (l.length < l.length) = false := by simp
      go_wp2_with fail
      go_end0
      refine ⟨rfl, o', b', HF.out, HK.out, LWk.fin ?_⟩
      have := HW.out
      rwa [List.take_length] at this
end Go.Proofs.Ythecincpejpmpaa
/- The reference's plan, written. -/
namespace Go.Proofs.Ythecincpejpmpaa
open Go.RowKit Go.Lb Go.Rc

set_option maxRecDepth 20000 in
set_option maxHeartbeats 4000000 in
theorem oplan_writes : OWrites 61 sPlan := fun B X f cs v o b w h hr hl => by
  have hlen : cs.length = 6 := hr.len
  have k0 : (tup [.num, .num, .num, .list .num, .list sAlloc, .flag]).Rep w (· < B) cs v := hr
  obtain ⟨_, _, v0, y1, -, rfl, ⟨n0, -, rfl⟩, k1⟩ := Sch.Rep.tup_cons k0
  obtain ⟨_, _, v1, y2, -, rfl, ⟨n1, -, rfl⟩, k2⟩ := Sch.Rep.tup_cons k1
  obtain ⟨_, _, v2, y3, -, rfl, ⟨n2, -, rfl⟩, k3⟩ := Sch.Rep.tup_cons k2
  obtain ⟨_, _, v3, y4, -, rfl, ⟨-, -, l3, -, rfl, -⟩, k4⟩ := Sch.Rep.tup_cons k3
  obtain ⟨_, _, v4, y5, -, rfl, ⟨-, -, l4, -, rfl, -⟩, k5⟩ := Sch.Rep.tup_cons k4
  obtain ⟨_, _, v5, y6, -, rfl, ⟨t5, -, rfl⟩, k6⟩ := Sch.Rep.tup_cons k5
  obtain ⟨-, rfl⟩ := Sch.Rep.tup_nil k6
  clear k1 k2 k3 k4 k5 k6
  have H0 := Lib.hid (OWg.start (tp := 44) (rest := [(.num, .num n0), (.num, .num n1), (.num, .num n2), (.list .num, .list l3), (.list sAlloc, .list l4), (.flag, .flag t5)]) h hr (by have := tup_wmax [(.num, .num n0), (.num, .num n1), (.num, .num n2), (.list .num, .list l3), (.list sAlloc, .list l4), (.flag, .flag t5)]; rw [← this]; exact hl) (Blk.new w 44 cs) ((Upd.refl _ _).alloc _))
  have hB := h.base
  clear h hr hl k0
  show Calls Try.prog _ #[_, .agg cs.toArray] _ _
  go_enter Try.func61, Try.ntmps61
  have e0 := WrG.numAt (q := 0) H0.out rfl
  go_wp2_with fail
  refine (OWg.goNum H0.out).mono ?_
  rintro e w1 ⟨rfl, o1, b1, h⟩
  have H1 := Lib.hid h
  clear h e0
  have e1 := WrG.numAt (q := 1) H1.out rfl
  go_wp2_with fail
  refine (OWg.goNum H1.out).mono ?_
  rintro e w2 ⟨rfl, o2, b2, h⟩
  have H2 := Lib.hid h
  clear h e1
  have e2 := WrG.numAt (q := 2) H2.out rfl
  go_wp2_with fail
  refine (OWg.goNum H2.out).mono ?_
  rintro e w3 ⟨rfl, o3, b3, h⟩
  have H3 := Lib.hid h
  clear h e2
  obtain ⟨a3, c3, e3, r3⟩ := WrG.listAt (q := 3) H3.out rfl
  have R3 := Lib.hid r3
  clear r3
  go_wp2_with fail
  refine (OWg.go (c := [.slice a3 l3.length c3]) onums_writes H3.out R3.out).mono ?_
  rintro e w4 ⟨rfl, o4, b4, h⟩
  have H4 := Lib.hid h
  clear h e3
  obtain ⟨a4, c4, e4, r4⟩ := WrG.listAt (q := 4) H4.out rfl
  have R4 := Lib.hid r4
  clear r4
  go_wp2_with fail
  refine (OWg.go (c := [.slice a4 l4.length c4]) oallocs_writes H4.out R4.out).mono ?_
  rintro e w5 ⟨rfl, o5, b5, h⟩
  have H5 := Lib.hid h
  clear h e4
  have e5 := WrG.flagAt (q := 5) H5.out rfl
  go_wp2_with fail
  refine (OWg.goFlag H5.out).mono ?_
  rintro e w6 ⟨rfl, o6, b6, h⟩
  have H6 := Lib.hid h
  clear h e5
  go_wp2_with fail
  go_end0
  exact OWg.fin H6.out ((Upd.refl _ _).alloc _) rfl rfl
end Go.Proofs.Ythecincpejpmpaa
/- The reference's conf, written. -/
namespace Go.Proofs.Ythecincpejpmpaa
open Go.RowKit Go.Lb Go.Rc

set_option maxRecDepth 20000 in
set_option maxHeartbeats 4000000 in
theorem oconf_writes : OWrites 62 sConf := fun B X f cs v o b w h hr hl => by
  have hlen : cs.length = 2 := hr.len
  have k0 : (tup [.list .num, .list .num]).Rep w (· < B) cs v := hr
  obtain ⟨_, _, v0, y1, -, rfl, ⟨-, -, l0, -, rfl, -⟩, k1⟩ := Sch.Rep.tup_cons k0
  obtain ⟨_, _, v1, y2, -, rfl, ⟨-, -, l1, -, rfl, -⟩, k2⟩ := Sch.Rep.tup_cons k1
  obtain ⟨-, rfl⟩ := Sch.Rep.tup_nil k2
  clear k1 k2
  have H0 := Lib.hid (OWg.start (tp := 46) (rest := [(.list .num, .list l0), (.list .num, .list l1)]) h hr (by have := tup_wmax [(.list .num, .list l0), (.list .num, .list l1)]; rw [← this]; exact hl) (Blk.new w 46 cs) ((Upd.refl _ _).alloc _))
  have hB := h.base
  clear h hr hl k0
  show Calls Try.prog _ #[_, .agg cs.toArray] _ _
  go_enter Try.func62, Try.ntmps62
  obtain ⟨a0, c0, e0, r0⟩ := WrG.listAt (q := 0) H0.out rfl
  have R0 := Lib.hid r0
  clear r0
  go_wp2_with fail
  refine (OWg.go (c := [.slice a0 l0.length c0]) onums_writes H0.out R0.out).mono ?_
  rintro e w1 ⟨rfl, o1, b1, h⟩
  have H1 := Lib.hid h
  clear h e0
  obtain ⟨a1, c1, e1, r1⟩ := WrG.listAt (q := 1) H1.out rfl
  have R1 := Lib.hid r1
  clear r1
  go_wp2_with fail
  refine (OWg.go (c := [.slice a1 l1.length c1]) onums_writes H1.out R1.out).mono ?_
  rintro e w2 ⟨rfl, o2, b2, h⟩
  have H2 := Lib.hid h
  clear h e1
  go_wp2_with fail
  go_end0
  exact OWg.fin H2.out ((Upd.refl _ _).alloc _) rfl rfl
end Go.Proofs.Ythecincpejpmpaa
/- The reference's cmd, written. -/
namespace Go.Proofs.Ythecincpejpmpaa
open Go.RowKit Go.Lb Go.Rc

set_option maxRecDepth 20000 in
set_option maxHeartbeats 4000000 in
theorem ocmd_writes : OWrites 37 sCmd := fun B X f cs v o b w h hr hl => by
  have hlen : cs.length = 27 := hr.len
  have k0 : (tup [.num, .num, .num, sJob, sNode, .list sReport, sPlan, sConf]).Rep w (· < B) cs v := hr
  obtain ⟨_, _, v0, y1, -, rfl, ⟨n0, -, rfl⟩, k1⟩ := Sch.Rep.tup_cons k0
  obtain ⟨_, _, v1, y2, -, rfl, ⟨n1, -, rfl⟩, k2⟩ := Sch.Rep.tup_cons k1
  obtain ⟨_, _, v2, y3, -, rfl, ⟨n2, -, rfl⟩, k3⟩ := Sch.Rep.tup_cons k2
  obtain ⟨_, _, v3, y4, -, rfl, -, k4⟩ := Sch.Rep.tup_cons k3
  obtain ⟨_, _, v4, y5, -, rfl, -, k5⟩ := Sch.Rep.tup_cons k4
  obtain ⟨_, _, v5, y6, -, rfl, ⟨-, -, l5, -, rfl, -⟩, k6⟩ := Sch.Rep.tup_cons k5
  obtain ⟨_, _, v6, y7, -, rfl, -, k7⟩ := Sch.Rep.tup_cons k6
  obtain ⟨_, _, v7, y8, -, rfl, -, k8⟩ := Sch.Rep.tup_cons k7
  obtain ⟨-, rfl⟩ := Sch.Rep.tup_nil k8
  clear k1 k2 k3 k4 k5 k6 k7 k8
  have H0 := Lib.hid (OWg.start (tp := 48) (rest := [(.num, .num n0), (.num, .num n1), (.num, .num n2), (sJob, v3), (sNode, v4), (.list sReport, .list l5), (sPlan, v6), (sConf, v7)]) h hr (by have := tup_wmax [(.num, .num n0), (.num, .num n1), (.num, .num n2), (sJob, v3), (sNode, v4), (.list sReport, .list l5), (sPlan, v6), (sConf, v7)]; rw [← this]; exact hl) (Blk.new w 48 cs) ((Upd.refl _ _).alloc _))
  have hB := h.base
  clear h hr hl k0
  show Calls Try.prog _ #[_, .agg cs.toArray] _ _
  go_enter Try.func37, Try.ntmps37
  have e0 := WrG.numAt (q := 0) H0.out rfl
  go_wp2_with fail
  refine (OWg.goNum H0.out).mono ?_
  rintro e w1 ⟨rfl, o1, b1, h⟩
  have H1 := Lib.hid h
  clear h e0
  have e1 := WrG.numAt (q := 1) H1.out rfl
  go_wp2_with fail
  refine (OWg.goNum H1.out).mono ?_
  rintro e w2 ⟨rfl, o2, b2, h⟩
  have H2 := Lib.hid h
  clear h e1
  have e2 := WrG.numAt (q := 2) H2.out rfl
  go_wp2_with fail
  refine (OWg.goNum H2.out).mono ?_
  rintro e w3 ⟨rfl, o3, b3, h⟩
  have H3 := Lib.hid h
  clear h e2
  obtain ⟨c3, r3, g3⟩ := WrG.range (q := 3) H3.out rfl
  have hl3 : c3.length = 7 := r3.len
  have G3 := Lib.hid g3
  have R3 := Lib.hid r3
  clear g3 r3
  go_wp2_with (refine wpList_load_mid rfl 35 _ rfl w.heap.size 3 rfl c3 _ G3.out Try.underlying35 rfl (by rw [hl3]; exact Try.size35) ?_)
  refine (OWg.go ojob_writes H3.out R3.out).mono ?_
  rintro e w4 ⟨rfl, o4, b4, h⟩
  have H4 := Lib.hid h
  clear h
  obtain ⟨c4, r4, g4⟩ := WrG.range (q := 10) H4.out rfl
  have hl4 : c4.length = 8 := r4.len
  have G4 := Lib.hid g4
  have R4 := Lib.hid r4
  clear g4 r4
  go_wp2_with (refine wpList_load_mid rfl 39 _ rfl w.heap.size 10 rfl c4 _ G4.out Try.underlying39 rfl (by rw [hl4]; exact Try.size39) ?_)
  refine (OWg.go onode_writes H4.out R4.out).mono ?_
  rintro e w5 ⟨rfl, o5, b5, h⟩
  have H5 := Lib.hid h
  clear h
  obtain ⟨a5, c5, e5, r5⟩ := WrG.listAt (q := 18) H5.out rfl
  have HA5 : Hid (Elems w5 (· < B) sReport 2 a5 l5) := Lib.hid (list_elems r5).2
  have hwl5 := H5.out.len
  rw [wsum_cons] at hwl5
  have HL5 : Hid (o5.length + (Sch.list sReport).wmax (.list l5) ≤ 1099511627776) := Lib.hid (by dsimp only at hwl5; omega)
  have hps5 := H5.out.fw.1 w.heap.size (by simp)
  have hll5 : l5.length ≤ 1099511627776 := elems_len HA5.out HL5.out rfl
  clear r5 hwl5
  go_wp2_with fail
  refine (OWg.goCount H5.out).mono ?_
  rintro e w5x ⟨rfl, o5x, b5x, h1, h2, h3⟩
  have p5 := (h2.cell (o := 18) hps5 (.inr (by simp))).trans e5
  have H1x := Lib.hid h1
  have H2x := Lib.hid h2
  have H3x := Lib.hid h3
  clear h1 h2 h3
  go_wp2_with fail
  go_loopg [4] l5.length (fun g t wr => ∃ (i : Nat) (o' : List Nat) (b' : Bool), t = .int .i64 i ∧ l5.length - i = g ∧ i ≤ l5.length ∧ Ow B (w.heap.size :: X) wr f o' b' ∧ Kp B (w.heap.size :: X) w5 wr ∧ LWk sReport l5.length (l5.take i) o5 b5 o' b')
  case atStart => exact ⟨0, o5x, b5x, rfl, rfl, by omega, H1x.out, H2x.out, H3x.out⟩
  case round =>
    obtain ⟨i, o', b', rfl, hg, hi, hF, hK, hW⟩ := hrel
    have HG := Lib.hid hg
    have HF := Lib.hid hF
    have HK := Lib.hid hK
    have HW := Lib.hid hW
    have r0 := (hK.cell (o := 18) hps5 (.inr (by simp))).trans e5
    clear hg hF hK hW p5
    by_cases hlt : i < l5.length
    · have t1 : decide (i < l5.length) = true := by simpa using hlt
      obtain ⟨x, hx⟩ : ∃ x, l5[i]? = some x := ⟨_, List.getElem?_eq_getElem hlt⟩
      obtain ⟨b0, o0, us, rfl, hb0, hbl, hrg, hrep⟩ := HA5.out i x hx
      have hrep := hrep.keep (ok' := (· < B)) (fun k hk hl => ⟨hk, HK.out.block k hl (.inl hk)⟩) HK.out.size
      have hrg : wr.rangeAt b0 (o0 + i * 2) us := rangeAt_keep hrg (HK.out.block b0 hbl (.inl hb0))
      have hblr : b0 < wr.heap.size := Nat.lt_of_lt_of_le hbl HK.out.size
      have HWL := Lib.hid (HW.out.room hx HL5.out)
      have Hx := Lib.hid hx
      clear hx
      have hrepc := hrep
      obtain ⟨_, _, zv0, zy1, -, rfl, ⟨zn0, -, rfl⟩, zk1⟩ := Sch.Rep.tup_cons hrepc
      obtain ⟨_, _, zv1, zy2, -, rfl, ⟨zn1, -, rfl⟩, zk2⟩ := Sch.Rep.tup_cons zk1
      obtain ⟨-, rfl⟩ := Sch.Rep.tup_nil zk2
      clear zk1 zk2
      have hlw := HWL.out
      have G0 : Hid (OWg B (w.heap.size :: X) f b0 (o0 + i * 2) wr wr o' b' o' b' [] [(.num, .num zn0), (.num, .num zn1)]) := Lib.hid (WrG.start HF.out (.inl hb0) hblr hrg hrep (by have := tup_wmax [(.num, .num zn0), (.num, .num zn1)]; rw [← this]; exact hlw))
      clear hrg hrep hlw
      have u0 := WrG.numAt (q := o0 + i * 2) G0.out rfl
      go_wp2_with fail
      refine (OWg.goNum G0.out).mono ?_
      rintro e y1 ⟨rfl, o1', b1', h⟩
      have G1 := Lib.hid h
      clear h u0
      have r1 := (G1.out.kp.cell (o := 18) (b := w.heap.size) (by have := HK.out.size; omega) (.inr (by simp))).trans r0
      have u1 := WrG.numAt (q := o0 + i * 2 + 1) G1.out rfl
      go_wp2_with fail
      refine (OWg.goNum G1.out).mono ?_
      rintro e y2 ⟨rfl, o2', b2', h⟩
      have G2 := Lib.hid h
      clear h u1
      clear r1
      have H1 := Lib.hid G2.out.fw
      have H2 := Lib.hid G2.out.kp
      have H3 := Lib.hid (HW.out.snoc (s := sReport) (WSeq.tup G2.out.seq))
      go_wp2_with fail
      go_roundg (l5.length - (i + 1))
      case measure => have := HG.out; omega
      case rel => exact ⟨i + 1, o2', b2', by go_num, rfl, by omega, H1.out, HK.out.trans H2.out, by rw [take_snoc Hx.out]; exact H3.out⟩
    · obtain rfl : i = l5.length := by omega
      have t1 : decide (l5.length < l5.length) = false := by simp
      have hfin := HW.out
      rw [List.take_length] at hfin
      have H6 := Lib.hid (WrG.next (m := [(.list sReport, .list l5)]) H5.out HF.out HK.out (WSeq.one (LWk.fin hfin)))
      clear hfin e5
      clear HF HW HG hlt hi
      obtain ⟨ws6, hz⟩ : ∃ z, z = wr := ⟨_, rfl⟩
      subst hz
      obtain ⟨os6, hz⟩ : ∃ z, z = o' := ⟨_, rfl⟩
      subst hz
      obtain ⟨bs6, hz⟩ : ∃ z, z = b' := ⟨_, rfl⟩
      subst hz
      clear HK
      obtain ⟨c6, r6, g6⟩ := WrG.range (q := 19) H6.out rfl
      have hl6 : c6.length = 6 := r6.len
      have G6 := Lib.hid g6
      have R6 := Lib.hid r6
      clear g6 r6
      go_wp2_with (refine wpList_load_mid rfl 44 _ rfl w.heap.size 19 rfl c6 _ G6.out Try.underlying44 rfl (by rw [hl6]; exact Try.size44) ?_)
      refine (OWg.go oplan_writes H6.out R6.out).mono ?_
      rintro e w7 ⟨rfl, o7, b7, h⟩
      have H7 := Lib.hid h
      clear h
      obtain ⟨c7, r7, g7⟩ := WrG.range (q := 25) H7.out rfl
      have hl7 : c7.length = 2 := r7.len
      have G7 := Lib.hid g7
      have R7 := Lib.hid r7
      clear g7 r7
      go_wp2_with (refine wpList_load_mid rfl 46 _ rfl w.heap.size 25 rfl c7 _ G7.out Try.underlying46 rfl (by rw [hl7]; exact Try.size46) ?_)
      refine (OWg.go oconf_writes H7.out R7.out).mono ?_
      rintro e w8 ⟨rfl, o8, b8, h⟩
      have H8 := Lib.hid h
      clear h
      go_wp2_with fail
      go_end0
      exact OWg.fin H8.out ((Upd.refl _ _).alloc _) rfl rfl
end Go.Proofs.Ythecincpejpmpaa
/- The reference's PutCmd. -/
namespace Go.Proofs.Ythecincpejpmpaa
open Go.RowKit Go.Lb Go.Rc

set_option maxRecDepth 20000 in
set_option maxHeartbeats 2000000 in
theorem rputCmd_puts : Puts 18 sCmd := by
  intro cs v w hr hl
  have hlen : cs.length = 27 := hr.len
  have uW : Upd [] w ((w.alloc (.cells cs.toArray 48)).alloc (.cells #[.slice none 0 0, .bool false] 96)) := ((Upd.refl _ _).alloc _).alloc _
  have HR := Lib.hid hr
  have HL := Lib.hid hl
  have HB := Lib.hid ((Blk.new w 48 cs).alloc (.cells #[.slice none 0 0, .bool false] 96))
  have hb0 := Try.prog.built 96 []
  have HBU : Hid (Try.prog.built 96 [] = some #[.slice none 0 0, .bool false]) := Lib.hid (by kernel_rfl)
  clear hr hl hb0
  go_enter Try.func18, Try.ntmps18
  go_wp2_with (first | (refine wpList_buildTo (o := ⟨some 5, .build 96 #[], _, _, _, _⟩) rfl 96 #[] rfl (some 5) rfl #[.slice none 0 0, .bool false] (by simpa using HBU.out) ?_) | (refine wpList_load_blk rfl 48 (.tmp 1) rfl w.heap.size rfl HB.out Try.underlying48 rfl (by rw [hlen]; exact Try.size48) ?_))
  refine (ocmd_writes w.heap.size [w.heap.size] (w.heap.size + 1) cs v [] false _ (fresh_out (mk := oW) rfl) (HR.out.upd uW (by simp)) (by simpa using HL.out)).mono ?_
  rintro e w1 ⟨rfl, o, b, h1, h2, h3⟩
  cases b with
  | true =>
    have HF := Lib.hid (putIs_bad h2 uW h3)
    have H1 := Lib.hid h1
    clear h1 h2 h3 uW
    go_wp2_with fail
    refine (told_bad H1.out).mono ?_
    rintro e w2 ⟨rfl, rfl⟩
    go_wp2_with fail
    go_ret2
    exact HF.out
  | false =>
    obtain ⟨a, c, e0, hF⟩ := putIs_good h1 h2 uW h3
    have e1 : w1.cell? ⟨w.heap.size + 1, 0, none⟩ = some (.slice a (sCmd.put v).length c) := e0
    have HF := Lib.hid hF
    have H1 := Lib.hid h1
    have E1 := Lib.hid e1
    clear h1 h2 h3 uW e0 hF e1
    go_wp2_with fail
    refine (told_good H1.out E1.out).mono ?_
    rintro e w2 ⟨rfl, rfl⟩
    go_wp2_with fail
    go_ret2
    exact HF.out
end Go.Proofs.Ythecincpejpmpaa
