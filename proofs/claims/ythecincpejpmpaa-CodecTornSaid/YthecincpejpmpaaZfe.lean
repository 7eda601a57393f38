/- A part that several proofs lean on: texts one behind the other. No condition but those that each theorem states. -/
import Derived.Test.YthecincpejpmpaaZfd
import Derived.Lib.SlBytesConst
import Derived.Test.YthecincpejpmpaaRows
import Derived.DataShut
import Derived.ProofKit
import Derived.OpenShut
import Derived.ShutString
import Derived.ChangeOld
import Derived.JoinedCond
import Derived.Deep.Slices
import Derived.ChangeSame
import Derived.SizedLaws
set_option linter.unusedVariables false
set_option linter.unusedSimpArgs false
/- codec's form.alloc, reading. -/
namespace Go.Proofs.Ythecincpejpmpaa
open Go.RowKit Go.Lb Go.Rc

set_option maxRecDepth 20000 in
set_option maxHeartbeats 2000000 in
theorem alloc_reads : Reads 73 sAlloc := by
  intro B f p q tp pre post l b w h hB hpf hq hp
  subst hq
  have H0 := Lib.hid (RdSt.start (rest := [.num, .num, .num, .num, .num, .num, .num, sRes, .flag, .num]) h hB hpf hp (fr_mark h).2.2.2.1)
  clear h hp
  go_enter Try.func73, Try.ntmps73
  go_wp2_with fail
  refine wp_region_lex (fun _ => True) 99 [(0, true), (1, true), (2, true), (3, true), (4, true), (5, true), (6, true), (7, true), (8, true), (9, true), (10, true), (11, true), (12, true), (13, true), (14, true), (15, true), (16, true), (17, true), (18, true), (19, true), (20, true), (21, true), (22, false), (23, false)] (by kernel_rfl) (by kernel_rfl) (by kernel_rfl) (by kernel_rfl) (fun _ _ d _ _ h => by cases d <;> exact h) ?_
  simp only [lexOps, List.map_cons, List.map_nil, List.getD_cons_zero, List.getD_cons_succ]
  iterate 22 (refine lex_read rfl trivial (v := ?_) (fun w' _ => ?_) ?_; rotate_left; (focus (go_simp; try with_reducible rfl)); simp only [Act.put, List.setIfInBounds_toArray, List.set_cons_zero, List.set_cons_succ])
  refine lex_do rfl (fun K hK => ?_)
  go_simp
  refine hK _ _ (fun _ => trivial) ?_
  clear hK K
  refine lex_do rfl (fun K hK => ?_)
  go_simp
  refine (CRd.goNums (rest := [sRes, .flag, .num]) (k := 7) H0.out ((Upd.refl _ _).alloc _).drew (Nat.le_refl _) (Blk.drew (Blk.new _ _ [_, _, _, _, _, _, _])) (by simp only [fsize_append, fsize_nums, fsize, List.nil_append] <;> rfl) (by decide)).mono ?_
  rintro e w1 ⟨rfl, ns1, l1, b1, hn, h⟩
  have H1 := Lib.hid h
  have HN1 := Lib.hid hn
  clear hn
  refine hK _ _ (fun _ => trivial) ?_
  clear hK K h
  refine lex_nil ?_
  go_wp2_with fail
  refine (CRd.go res_reads H1.out (by simp only [fsize_append, fsize_nums, fsize, HN1.out, List.nil_append] <;> rfl)).mono ?_
  rintro e w2 ⟨rfl, v2, l2, b2, h⟩
  have H2 := Lib.hid h
  clear h
  go_wp2_with fail
  refine (CRd.go flag_reads H2.out (by simp only [fsize_append, fsize_nums, fsize, HN1.out, List.nil_append] <;> rfl)).mono ?_
  rintro e w3 ⟨rfl, v3, l3, b3, h⟩
  have H3 := Lib.hid h
  clear h
  go_wp2_with fail
  refine (CRd.go num_reads H3.out (by simp only [fsize_append, fsize_nums, fsize, HN1.out, List.nil_append] <;> rfl)).mono ?_
  rintro e w4 ⟨rfl, v4, l4, b4, h⟩
  have H4 := Lib.hid h
  clear h
  go_wp2_with fail
  go_end0
  exact CRd.fin H4.out (by simp only [List.map_append, nums_fst, HN1.out, List.append_assoc, List.map_cons, List.map_nil, List.nil_append]; rfl)
end Go.Proofs.Ythecincpejpmpaa
/- codec's list[Alloc], reading. -/
namespace Go.Proofs.Ythecincpejpmpaa
open Go.RowKit Go.Lb Go.Rc

set_option maxRecDepth 20000 in
set_option maxHeartbeats 2000000 in
theorem listAlloc_reads : LReads 72 73 sAlloc := by
  intro B f p q tp pre post l b w h hB hpf hq hp
  obtain ⟨iT, hiT, hz0, hz1, hz2⟩ := info156
  subst hq
  have c0 := hp.cell (o := pre.length) mid_at
  obtain ⟨_, _, _, hf, hBf⟩ := fr_mark h
  have hplt := hp.lt
  have H := Lib.hid h
  have HP := Lib.hid hp
  clear h hp
  go_enter Try.func72, Try.ntmps72
  go_wp2_with fail
  refine (many_r B f 64 _ l b _ H.out).mono ?_
  rintro e w1 ⟨k, l1, b1, rfl, hk, h1, h2, h3⟩
  obtain ⟨m2, m3, m4, m5, _⟩ := fr_mark h1
  have HB1 := Lib.hid (h2.blk HP.out (by simpa using hpf))
  have HS : Hid (LRdSt sAlloc 113 cR [f, p] B f 156 11 w w1 k l b 0 l1 b1 (.slice none 0 0) [] []) := Lib.hid (LRdSt.start h1 (h2.mono (by simp)) (by simp; omega) h3)
  clear h1 h2 h3 H
  go_wp2_with fail
  go_loopg [9, 42] k (fun g u t wr => ∃ (i : Nat) (l' : List Nat) (b' : Bool) (v : Value) (xss : List (List Value)) (xs : List Val), t = .int .i64 i ∧ k - i = g ∧ i ≤ k ∧ Blk wr p tp (pre ++ [v] ++ post) ∧ LRdSt sAlloc 113 cR [f, p] B f 156 11 w wr k l b i l' b' v xss xs)
  case atStart => exact ⟨0, l1, b1, _, [], [], rfl, rfl, by omega, HB1.out, HS.out⟩
  case round =>
    obtain ⟨i, l', b', v, xss, xs, rfl, hg, hi, hbk, hS⟩ := hrel
    have HG := Lib.hid hg
    have HBK := Lib.hid hbk
    have HST := Lib.hid hS
    obtain ⟨n2, n3, n4, n5, _⟩ := fr_mark hS.fr
    have hsz := hS.upd.size
    clear hg hbk hS m2 m3 m4 m5
    by_cases hlt : i < k
    · have t1 : decide (i < k) = true := by simpa using hlt
      cases b' with
      | true =>
        have HE := Lib.hid (HST.out.rd (.inl rfl))
        go_wp2_with fail
        go_end0
        exact ⟨rfl, .list xs, [v], l', true, HST.out.fr, HST.out.upd, HBK.out, HST.out.isRep, HE.out⟩
      | false =>
      go_wp2_with (refine wpList_alloc_blk rfl 156 rfl sAlloc.zc (zero156 _) ?_; intro wB hb hu)
      have hN := HST.out.upd' hu
      refine (alloc_reads B f wr.heap.size 0 156 [] [] l' false wB hN.fr (by omega) (by omega) rfl (by simpa [Sch.zc] using hb)).mono ?_
      rintro e w2 ⟨rfl, x, us, l2, b2, h1, h2, h3, h4, h5⟩
      have hus : us.length = 11 := h4.len
      have hb2 : Blk w2 wr.heap.size 156 us := by simpa using h3
      have hU : Upd [f, p] wr w2 := (hu.mono (by simp)).trans h2 (by
        intro y hy
        simp only [List.mem_cons, List.not_mem_nil, or_false] at hy
        rcases hy with rfl | rfl
        · simp
        · exact .inr (Nat.le_refl _))
      have h4' : Sch.Rep w2 (Nw wr.heap.size w2) sAlloc us x := h4.mono (fun b hb _ => hb.go hu.size rfl)
      have hbp : Blk w2 p tp (pre ++ [v] ++ post) := by
        refine h2.blk (hu.blk HBK.out (by simp)) ?_
        simp; omega
      have hrow2 := (hN.row)
      have hrw : w2.ownsRow w.heap.size 156 11 v i xss.flatten := h2.row (hu.row HST.out.row (by simp)) (by
        intro y hy
        have := own_lo HST.out.row hy
        simp; omega)
      have hsz2 := hU.size
      have hl2 := hb2.lt
      obtain ⟨a, c, rfl⟩ := own_shape' hrw
      have HO := Lib.hid h4.one
      have HR : Hid (∀ w', Upd (Value.slice a i c).ownBlock.toList w2 w' → w'.cell? ⟨p, pre.length, none⟩ = some (.slice a i c) ∧ Blk w' wr.heap.size 156 us) := Lib.hid (by
        intro w' u
        refine ⟨(u.blk hbp ?_).cell mid_at, u.blk hb2 ?_⟩
        · intro hm
          have := own_lo HST.out.row (g := p) (by simpa using hm)
          omega
        · intro hm
          have := own_lo HST.out.row (g := wr.heap.size) (by simpa using hm)
          omega)
      have HST2 := HST
      have HU := Lib.hid hU
      have H4 := Lib.hid h4'
      have H5 := Lib.hid h5
      have H1 := Lib.hid h1
      have HRW := Lib.hid hrw
      have HBP := Lib.hid hbp
      have HUS := Lib.hid hus
      clear h1 h2 h3 h4 h5 hN hb hu hbp hrow2 hrw hU h4' hus
      go_wp2_with fail
      refine wp_region_lex (fun w' => Upd (Value.slice a i c).ownBlock.toList w2 w') 8 [(0, true), (1, true), (2, true), (3, true), (4, true), (5, false), (6, false), (7, false), (8, false)] (by kernel_rfl) (by kernel_rfl) (by kernel_rfl) (by kernel_rfl) (fun _ _ d _ _ h => by cases d <;> exact h) ?_
      simp only [lexOps, List.map_cons, List.map_nil, List.getD_cons_zero, List.getD_cons_succ]
      have hS0 : Upd (Value.slice a i c).ownBlock.toList w2 w2.drew := (Upd.refl _ _).drew
      iterate 4 (refine lex_read rfl (by exact hS0) (v := ?_) (fun w' hw => ?_) ?_; rotate_left; (focus (obtain ⟨k1, k2⟩ := HR.out w' hw; clear k2; go_simp; try with_reducible rfl)); simp only [Act.put, List.setIfInBounds_toArray, List.set_cons_zero, List.set_cons_succ])
      refine lex_read rfl (by exact hS0) (fun w' hw => exec_load (by rfl) (by rfl) (run_loadAt_mid w' wr.heap.size 0 156 us _ (HR.out w' hw).2.range Try.underlying156 rfl (by rw [HUS.out]; exact Try.size156))) ?_
      try simp only [Act.put, List.setIfInBounds_toArray, List.set_cons_zero, List.set_cons_succ]
      refine lex_run rfl (exec_buildSlice (by rfl) (by simp [Act.eval]) (run_buildSlice1 _ 42 156 iT _ us 11 Try.underlying42 hiT hz0 hz1 HUS.out (by decide) (by decide))) (fun _ => hS0.alloc _) ?_
      try simp only [Act.put, List.setIfInBounds_toArray, List.set_cons_zero, List.set_cons_succ]
      have h64 : k ≤ 64 := hk
      have hB2 : Blk (w2.drew.alloc (.cells us.toArray 156)) w2.heap.size 156 us := Blk.new w2.drew _ _
      refine lex_do rfl (fun K hK => ?_)
      refine wp_append_mine (.tmp 53) (.tmp 55) 42 rfl w.heap.size 156 iT _ 11 _ Try.underlying42 hiT hz0 hz1 hz2 rfl (by decide) (.slice a i c) i xss.flatten rfl (World.ownsRow.alloc HRW.out _) ⟨w2.heap.size, 0, none⟩ 1 1 us rfl (by rw [HUS.out]) hB2.news (HO.out) (by unfold maxLen; omega) (by omega) (by have := HST.out.upd.size; simp; omega) ?_
      intro v' w3 hown hg hv
      have uA : Upd [f, p] wr (w2.drew.alloc (.cells us.toArray 156)) := (HU.out.drew).alloc _
      have hF : Fr B w3 f l2 b2 := by
        obtain ⟨a', c', hI⟩ := H1.out
        have hI2 : In 113 cR B (w2.drew.alloc (.cells us.toArray 156)) f l2 b2 a' c' := hI.upd (F := []) ((Upd.refl [] w2).drew.alloc _) (by simp)
        refine ⟨a', c', hI2.upd (F := (Value.slice a i c).ownBlock.toList) ((Upd.refl _ _).grown hg (fun k hk => .inl (by simp [hk]))) (fun k hk => ?_)⟩
        have := own_lo HST.out.row (g := k) (by simpa using hk)
        omega
      have hbp3 : Blk w3 p tp (pre ++ [.slice a i c] ++ post) := by
        have hb4 : Blk (w2.drew.alloc (.cells us.toArray 156)) p tp (pre ++ [.slice a i c] ++ post) := (HBP.out.drew).alloc _
        refine (hg.block p hb4.lt (fun e => ?_)).trans hb4
        have := own_lo HST.out.row (g := p) e.symm
        omega
      have q1 := hbp3.cell (o := pre.length) mid_at
      have q2 := hbp3.frozen pre.length
      have q3 := hbp3.lt
      have uS : Upd [p] w3 (w3.setCell ⟨p, pre.length, none⟩ v') := (Upd.refl _ _).setCell (by simp) _
      have HX : Hid (Blk (w3.setCell ⟨p, pre.length, none⟩ v') p tp (pre ++ [v'] ++ post) ∧ LRdSt sAlloc 113 cR [f, p] B f 156 11 w (w3.setCell ⟨p, pre.length, none⟩ v') k l b (i + 1) l2 b2 v' (xss ++ [us]) (xs ++ [x])) := by
        refine Lib.hid ⟨?_, LRdSt.next HST.out hlt uA (H4.out.updN ((Upd.refl [] w2).drew.alloc _) (by simp)) HUS.out H5.out hg hown ?_ (uS.mono (by simp)) (hF.upd uS (by simp; omega))⟩
        · have := hbp3.set pre.length v'
          rwa [mid_set] at this
        · rcases hv with h | h
          · exact .inl h
          · exact .inr h
      have hS3 : Upd (Value.slice a i c).ownBlock.toList w2 w3 := (hS0.alloc _).grown hg (fun k hk => .inl (by simp [hk]))
      refine hK _ _ (fun _ => hS3) ?_
      obtain ⟨a', c', rfl⟩ := own_shape' hown
      clear hK K hown hg hv uA hF hbp3 uS hB2 hS0
      try simp only [Act.put, List.setIfInBounds_toArray, List.set_cons_zero, List.set_cons_succ]
      refine lex_do rfl (fun K hK => ?_)
      go_simp
      refine hK _ _ (fun _ => hS3) ?_
      clear hK K hS3
      try simp only [Act.put, List.setIfInBounds_toArray, List.set_cons_zero, List.set_cons_succ]
      refine lex_do rfl (fun K hK => ?_)
      go_simp
      refine hK _ _ (fun h => absurd rfl h) ?_
      clear hK K
      try simp only [Act.put, List.setIfInBounds_toArray, List.set_cons_zero, List.set_cons_succ]
      refine lex_nil ?_
      go_wp2_with fail
      go_roundg (k - (i + 1))
      case measure => have := HG.out; omega
      case rel => exact ⟨i + 1, l2, b2, _, _, _, by go_num, rfl, by omega, HX.out.1, HX.out.2⟩
    · obtain rfl : i = k := by omega
      have HE := Lib.hid (HST.out.rd (.inr rfl))
      go_wp2_with fail
      go_end0
      exact ⟨rfl, .list xs, [v], l', b', HST.out.fr, HST.out.upd, HBK.out, HST.out.isRep, HE.out⟩
end Go.Proofs.Ythecincpejpmpaa
/- codec's form.plan, reading. -/
namespace Go.Proofs.Ythecincpejpmpaa
open Go.RowKit Go.Lb Go.Rc

set_option maxRecDepth 20000 in
set_option maxHeartbeats 2000000 in
theorem plan_reads : Reads 55 sPlan := by
  intro B f p q tp pre post l b w h hB hpf hq hp
  subst hq
  have H0 := Lib.hid (RdSt.start (rest := [.num, .num, .num, .list .num, .list sAlloc, .flag]) h hB hpf hp (fr_mark h).2.2.2.1)
  clear h hp
  go_enter Try.func55, Try.ntmps55
  go_wp2_with fail
  refine wp_region_lex (fun _ => True) 99 [(0, true), (1, true), (2, true), (3, true), (4, true), (5, true), (6, true), (7, true), (8, true), (9, true), (10, false), (11, false)] (by kernel_rfl) (by kernel_rfl) (by kernel_rfl) (by kernel_rfl) (fun _ _ d _ _ h => by cases d <;> exact h) ?_
  simp only [lexOps, List.map_cons, List.map_nil, List.getD_cons_zero, List.getD_cons_succ]
  iterate 10 (refine lex_read rfl trivial (v := ?_) (fun w' _ => ?_) ?_; rotate_left; (focus (go_simp; try with_reducible rfl)); simp only [Act.put, List.setIfInBounds_toArray, List.set_cons_zero, List.set_cons_succ])
  refine lex_do rfl (fun K hK => ?_)
  go_simp
  refine hK _ _ (fun _ => trivial) ?_
  clear hK K
  refine lex_do rfl (fun K hK => ?_)
  go_simp
  refine (CRd.goNums (rest := [.list .num, .list sAlloc, .flag]) (k := 3) H0.out ((Upd.refl _ _).alloc _).drew (Nat.le_refl _) (Blk.drew (Blk.new _ _ [_, _, _])) (by simp only [fsize_append, fsize_nums, fsize, List.nil_append] <;> rfl) (by decide)).mono ?_
  rintro e w1 ⟨rfl, ns1, l1, b1, hn, h⟩
  have H1 := Lib.hid h
  have HN1 := Lib.hid hn
  clear hn
  refine hK _ _ (fun _ => trivial) ?_
  clear hK K h
  refine lex_nil ?_
  go_wp2_with fail
  refine (CRd.goList listint_reads H1.out (by simp only [fsize_append, fsize_nums, fsize, HN1.out, List.nil_append] <;> rfl)).mono ?_
  rintro e w2 ⟨rfl, v2, l2, b2, h⟩
  have H2 := Lib.hid h
  clear h
  go_wp2_with fail
  refine (CRd.goList listAlloc_reads H2.out (by simp only [fsize_append, fsize_nums, fsize, HN1.out, List.nil_append] <;> rfl)).mono ?_
  rintro e w3 ⟨rfl, v3, l3, b3, h⟩
  have H3 := Lib.hid h
  clear h
  go_wp2_with fail
  refine (CRd.go flag_reads H3.out (by simp only [fsize_append, fsize_nums, fsize, HN1.out, List.nil_append] <;> rfl)).mono ?_
  rintro e w4 ⟨rfl, v4, l4, b4, h⟩
  have H4 := Lib.hid h
  clear h
  go_wp2_with fail
  go_end0
  exact CRd.fin H4.out (by simp only [List.map_append, nums_fst, HN1.out, List.append_assoc, List.map_cons, List.map_nil, List.nil_append]; rfl)
end Go.Proofs.Ythecincpejpmpaa
/- codec's form.conf, reading. -/
namespace Go.Proofs.Ythecincpejpmpaa
open Go.RowKit Go.Lb Go.Rc

set_option maxRecDepth 20000 in
set_option maxHeartbeats 2000000 in
theorem conf_reads : Reads 56 sConf := by
  intro B f p q tp pre post l b w h hB hpf hq hp
  subst hq
  have H0 := Lib.hid (RdSt.start (rest := [.list .num, .list .num]) h hB hpf hp (fr_mark h).2.2.2.1)
  clear h hp
  go_enter Try.func56, Try.ntmps56
  go_wp2_with fail
  refine (CRd.goList listint_reads H0.out (by simp only [fsize_append, fsize_nums, fsize, List.nil_append] <;> rfl)).mono ?_
  rintro e w1 ⟨rfl, v1, l1, b1, h⟩
  have H1 := Lib.hid h
  clear h
  go_wp2_with fail
  refine (CRd.goList listint_reads H1.out (by simp only [fsize_append, fsize_nums, fsize, List.nil_append] <;> rfl)).mono ?_
  rintro e w2 ⟨rfl, v2, l2, b2, h⟩
  have H2 := Lib.hid h
  clear h
  go_wp2_with fail
  go_end0
  exact CRd.fin H2.out (by simp only [List.map_append, nums_fst, List.append_assoc, List.map_cons, List.map_nil, List.nil_append]; rfl)
end Go.Proofs.Ythecincpejpmpaa
/- codec's form.cmd, reading. -/
namespace Go.Proofs.Ythecincpejpmpaa
open Go.RowKit Go.Lb Go.Rc

set_option maxRecDepth 20000 in
set_option maxHeartbeats 2000000 in
theorem cmd_reads : Reads 36 sCmd := by
  intro B f p q tp pre post l b w h hB hpf hq hp
  subst hq
  have H0 := Lib.hid (RdSt.start (rest := [.num, .num, .num, sJob, sNode, .list sReport, sPlan, sConf]) h hB hpf hp (fr_mark h).2.2.2.1)
  clear h hp
  go_enter Try.func36, Try.ntmps36
  go_wp2_with fail
  refine wp_region_lex (fun _ => True) 99 [(0, true), (1, true), (2, true), (3, true), (4, true), (5, true), (6, true), (7, true), (8, true), (9, true), (10, false), (11, false)] (by kernel_rfl) (by kernel_rfl) (by kernel_rfl) (by kernel_rfl) (fun _ _ d _ _ h => by cases d <;> exact h) ?_
  simp only [lexOps, List.map_cons, List.map_nil, List.getD_cons_zero, List.getD_cons_succ]
  iterate 10 (refine lex_read rfl trivial (v := ?_) (fun w' _ => ?_) ?_; rotate_left; (focus (go_simp; try with_reducible rfl)); simp only [Act.put, List.setIfInBounds_toArray, List.set_cons_zero, List.set_cons_succ])
  refine lex_do rfl (fun K hK => ?_)
  go_simp
  refine hK _ _ (fun _ => trivial) ?_
  clear hK K
  refine lex_do rfl (fun K hK => ?_)
  go_simp
  refine (CRd.goNums (rest := [sJob, sNode, .list sReport, sPlan, sConf]) (k := 3) H0.out ((Upd.refl _ _).alloc _).drew (Nat.le_refl _) (Blk.drew (Blk.new _ _ [_, _, _])) (by simp only [fsize_append, fsize_nums, fsize, List.nil_append] <;> rfl) (by decide)).mono ?_
  rintro e w1 ⟨rfl, ns1, l1, b1, hn, h⟩
  have H1 := Lib.hid h
  have HN1 := Lib.hid hn
  clear hn
  refine hK _ _ (fun _ => trivial) ?_
  clear hK K h
  refine lex_nil ?_
  go_wp2_with fail
  refine (CRd.go job_reads H1.out (by simp only [fsize_append, fsize_nums, fsize, HN1.out, List.nil_append] <;> rfl)).mono ?_
  rintro e w2 ⟨rfl, v2, l2, b2, h⟩
  have H2 := Lib.hid h
  clear h
  go_wp2_with fail
  refine (CRd.go node_reads H2.out (by simp only [fsize_append, fsize_nums, fsize, HN1.out, List.nil_append] <;> rfl)).mono ?_
  rintro e w3 ⟨rfl, v3, l3, b3, h⟩
  have H3 := Lib.hid h
  clear h
  go_wp2_with fail
  refine (CRd.goList listReport_reads H3.out (by simp only [fsize_append, fsize_nums, fsize, HN1.out, List.nil_append] <;> rfl)).mono ?_
  rintro e w4 ⟨rfl, v4, l4, b4, h⟩
  have H4 := Lib.hid h
  clear h
  go_wp2_with fail
  refine (CRd.go plan_reads H4.out (by simp only [fsize_append, fsize_nums, fsize, HN1.out, List.nil_append] <;> rfl)).mono ?_
  rintro e w5 ⟨rfl, v5, l5, b5, h⟩
  have H5 := Lib.hid h
  clear h
  go_wp2_with fail
  refine (CRd.go conf_reads H5.out (by simp only [fsize_append, fsize_nums, fsize, HN1.out, List.nil_append] <;> rfl)).mono ?_
  rintro e w6 ⟨rfl, v6, l6, b6, h⟩
  have H6 := Lib.hid h
  clear h
  go_wp2_with fail
  go_end0
  exact CRd.fin H6.out (by simp only [List.map_append, nums_fst, HN1.out, List.append_assoc, List.map_cons, List.map_nil, List.nil_append]; rfl)
end Go.Proofs.Ythecincpejpmpaa
/- codec's get[Cmd] and GetCmd. -/
namespace Go.Proofs.Ythecincpejpmpaa
open Go.RowKit Go.Lb Go.Rc

set_option maxRecDepth 20000 in
set_option maxHeartbeats 2000000 in
theorem getCmd_any (a : Option Addr) (c : Nat) (l : List Nat) (w : World) (hb : Bytes w (· < w.heap.size) a l) (hc : l.length ≤ c ∧ c ≤ maxLen) :
    Calls Try.prog 49 #[.slice a l.length c, .func (.func 36) #[] #[]] w (GetIs sCmd l w) := by
  have HB := Lib.hid hb
  have HC := Lib.hid hc
  clear hb hc
  go_enter Try.func49, Try.ntmps49
  go_wp2_with (refine wpList_alloc_blk rfl 48 rfl sCmd.zc (zero48 _) ?_; intro wA hA uA)
  rename_i wB hB uB wC hC uC K1 a1 K2 a2
  have uW : Upd [] w (wA.alloc (.cells #[.slice a l.length c, .bool true, .bool false] 113)) := ((uB.trans uC (by simp)).trans uA (by simp)).alloc _
  have s1 := uB.size
  have s2 := uC.size
  have s3 := uA.size
  have l1 := hB.lt
  have l2 := hC.lt
  have l3 := hA.lt
  have hT := (uA.blk (uC.blk hB (by simp)) (by simp)).alloc (.cells #[.slice a l.length c, .bool true, .bool false] 113)
  have hX := (uA.blk hC (by simp)).alloc (.cells #[.slice a l.length c, .bool true, .bool false] 113)
  have hN := hA.alloc (.cells #[.slice a l.length c, .bool true, .bool false] 113)
  refine (cmd_reads w.heap.size wA.heap.size wB.heap.size 0 48 [] [] l false _ ⟨a, c, Blk.new wA 113 [.slice a l.length c, .bool true, .bool false], HB.out.upd uW (by simp), HC.out, by omega⟩ (by omega) (by omega) rfl (by simpa using hX)).mono ?_
  rintro e w1 ⟨rfl, v, cs, l', b', h1, h2, h3, h4, h5⟩
  have hlen : cs.length = 27 := h4.len
  have h3' : Blk w1 wB.heap.size 48 cs := by simpa using h3
  have hT1 : Blk w1 w.heap.size 48 sCmd.zc := h2.blk hT (by simp; omega)
  have hN1 : Blk w1 wC.heap.size 48 sCmd.zc := h2.blk hN (by simp; omega)
  have HU : Hid (Upd [] w w1) := Lib.hid (uW.trans h2 (by simp; omega))
  have HT := Lib.hid hT1
  have HN := Lib.hid hN1
  have HX := Lib.hid h3'
  have HRep := Lib.hid (h4.mono (ok' := fun k => w.heap.size < k ∧ Soft w1 k) (fun b hb _ => ⟨by have := hb.1; simp at this; omega, hb.2⟩))
  have HR := Lib.hid h5
  obtain ⟨m2, _, _, _, _⟩ := fr_mark h1
  obtain ⟨a', c', hI⟩ := h1
  have f0 := hI.blk.cell (o := 0) rfl
  clear h2 h3 h4 h5 h3' hT1 hN1 hT hX hN hI uA uB uC hA hB hC uW
  by_cases hg : b' = false ∧ l' = []
  · obtain ⟨rfl, rfl⟩ := hg
    have f0' : w1.cell? ⟨wA.heap.size, 0, none⟩ = some (.slice a' 0 c') := f0
    clear f0
    go_wp2_with (first | (refine wpList_load_blk rfl 48 (.tmp 6) rfl wB.heap.size rfl HX.out Try.underlying48 rfl (by rw [hlen]; exact Try.size48) ?_) | (refine wpList_store_blk (o := ⟨none, .store 48 (.tmp 4) (.tmp 28), _, _, _, _⟩) rfl 48 (.tmp 4) (.tmp 28) rfl w.heap.size cs rfl rfl HT.out (by rw [hlen]; exact Try.size48) (by rw [hlen]; rfl) HRep.out.one ?_; intro w3 hb3 hu3))
    have hl := run_loadVar_blk (P := Try.prog) hb3 48 _ Try.underlying48 rfl (by rw [hlen]; exact Try.size48)
    refine bodyPost_ret (v := .tuple #[.agg cs.toArray, .bool true]) ?_ rfl ⟨HU.out.trans hu3 (by simp), cs, v, true, rfl, HRep.out.keep (fun k hk hl => ⟨⟨Nat.le_of_lt hk.1, hk.2.keep (hu3.block k hl (by simp; omega))⟩, hu3.block k hl (by simp; omega)⟩) hu3.size, fun _ => (HR.out.good rfl).2, fun h => (by cases h)⟩
    · rw [results_cell_tmp Try.results49]; simp [asAddr, hl]
  · have t1 : b' = true ∨ (b' = false ∧ decide (0 < l'.length) = true) := by
      cases b' with
      | true => exact .inl rfl
      | false =>
        right
        refine ⟨rfl, ?_⟩
        rw [decide_eq_true_eq, List.length_pos_iff]
        exact fun h => hg ⟨rfl, h⟩
    have HG : Hid (∀ v', sCmd.get l ≠ some (v', [])) := Lib.hid (fun v' hv => by
      cases b' with
      | true =>
        rcases HR.out.bad rfl with h | h
        · cases h
        · rw [hv] at h; cases h
      | false =>
        have := (HR.out.good rfl).2
        rw [hv] at this
        simp only [Option.some.injEq, Prod.mk.injEq] at this
        exact hg ⟨rfl, this.2.symm⟩)
    clear hg
    rcases t1 with rfl | ⟨rfl, t1⟩
    all_goals
      go_wp2_with (first | (refine wpList_load_blk rfl 48 (.tmp 7) rfl wC.heap.size rfl HN.out Try.underlying48 rfl (by exact Try.size48) ?_) | (refine wpList_store_blk (o := ⟨none, .store 48 (.tmp 4) (.tmp 27), _, _, _, _⟩) rfl 48 (.tmp 4) (.tmp 27) rfl w.heap.size sCmd.zc rfl rfl HT.out (by exact Try.size48) (by rfl) (Sch.zc_one sCmd) ?_; intro w3 hb3 hu3))
      have hl := run_loadVar_blk (P := Try.prog) hb3 48 _ Try.underlying48 rfl (by exact Try.size48)
      refine bodyPost_ret (v := .tuple #[.agg sCmd.zc.toArray, .bool false]) ?_ rfl ⟨HU.out.trans hu3 (by simp), sCmd.zc, sCmd.zero, false, rfl, Sch.Rep.zero _ _ _, fun h => (by cases h), fun _ => ⟨HG.out, rfl⟩⟩
      rw [results_cell_tmp Try.results49]; simp [asAddr, hl]

set_option maxRecDepth 20000 in
set_option maxHeartbeats 2000000 in
theorem getCmd_gets : Gets 28 sCmd := by
  intro a c l w hb hc
  have HB := Lib.hid hb
  have HC := Lib.hid hc
  clear hb hc
  go_enter Try.func28, Try.ntmps28
  go_wp2_with (refine wpList_alloc_blk rfl 48 rfl sCmd.zc (zero48 _) ?_; intro wA hA uA)
  have s1 := uA.size
  have l1 := hA.lt
  refine (getCmd_any a c l wA ((HB.out.upd uA (by simp)).mono' s1) HC.out).mono ?_
  rintro e w1 ⟨u1, cs, v, r, rfl, hr, h1, h2⟩
  have hlen : cs.length = 27 := hr.len
  have HT := Lib.hid (u1.blk hA (by simp))
  have HU : Hid (Upd [] w w1) := Lib.hid (uA.trans u1 (by simp))
  have HRep := Lib.hid (hr.mono (ok' := fun k => w.heap.size < k ∧ Soft w1 k) (fun b hb _ => ⟨by have := hb.1; omega, hb.2⟩))
  have H1 := Lib.hid h1
  have H2 := Lib.hid h2
  clear hr h1 h2 u1 uA hA
  go_wp2_with (refine wpList_store_blk (o := ⟨none, .store 48 (.tmp 2) (.tmp 6), _, _, _, _⟩) rfl 48 (.tmp 2) (.tmp 6) rfl w.heap.size cs rfl rfl HT.out (by rw [hlen]; exact Try.size48) (by rw [hlen]; rfl) HRep.out.one ?_; intro w3 hb3 hu3)
  have hl := run_loadVar_blk (P := Try.prog) hb3 48 _ Try.underlying48 rfl (by rw [hlen]; exact Try.size48)
  refine bodyPost_ret (v := .tuple #[.agg cs.toArray, .bool r]) ?_ rfl ⟨HU.out.trans hu3 (by simp), cs, v, r, rfl, HRep.out.keep (fun k hk hl => ⟨⟨Nat.le_of_lt hk.1, hk.2.keep (hu3.block k hl (by simp; omega))⟩, hu3.block k hl (by simp; omega)⟩) hu3.size, H1.out, H2.out⟩
  rw [results_cell_tmp Try.results28]; simp [asAddr, hl]
end Go.Proofs.Ythecincpejpmpaa
/- law01's known. -/
namespace Go.Rc
theorem put_zero_len : ∀ s : Sch, (s.put s.zero).length = s.size
  | .nil => rfl
  | .num => by simp [Sch.put, Sch.zero, Sch.size, nput, zig, vput]
  | .flag => by simp [Sch.put, Sch.zero, Sch.size, nput, zig, vput]
  | .raw => by simp [Sch.put, Sch.zero, Sch.size, nput, zig, vput]
  | .list _ => by simp [Sch.put, Sch.zero, Sch.size, nput, zig, vput]
  | .pair a b => by simp [Sch.put, Sch.zero, Sch.size, put_zero_len a, put_zero_len b]
theorem put_byte : ∀ (s : Sch) (v : Val), s.good v → ∀ b ∈ s.put v, b < 256
  | .nil, v, h => by cases v <;> simp [Sch.put]
  | .num, v, h => by
    cases v with
    | num n => exact vput_byte _
    | _ => exact absurd h (by simp [Sch.good])
  | .flag, v, h => by
    cases v with
    | flag b => exact vput_byte _
    | _ => exact absurd h (by simp [Sch.good])
  | .raw, v, h => by
    cases v with
    | raw l =>
      intro b hb
      rcases List.mem_append.1 hb with hb | hb
      · exact vput_byte _ b hb
      · exact h.2 b hb
    | _ => exact absurd h (by simp [Sch.good])
  | .list s, v, h => by
    cases v with
    | list l =>
      intro b hb
      rcases List.mem_append.1 hb with hb | hb
      · exact vput_byte _ b hb
      · obtain ⟨x, hx, hb⟩ := List.mem_flatMap.1 hb
        exact put_byte s x (h.2 x hx) b hb
    | _ => exact absurd h (by simp [Sch.good])
  | .pair a b, v, h => by
    cases v with
    | pair x y =>
      intro c hc
      rcases List.mem_append.1 hc with hc | hc
      · exact put_byte a x h.1 c hc
      · exact put_byte b y h.2 c hc
    | _ => exact absurd h (by simp [Sch.good])
end Go.Rc
namespace Go.Proofs.Ythecincpejpmpaa
open Go.RowKit Go.Lb Go.Rc Go.Crc

set_option maxRecDepth 20000 in
set_option maxHeartbeats 4000000 in
theorem known_true (w : World) : Calls Try.prog 14 #[] w fun e w' => e = .returned (.bool true) ∧ Upd [] w w' := by
  have kc := fun (w : World) (C : Array Value) (n c : Nat) => Lib.run_convert_bytes_const (P := Try.prog) w 22 5 C n c Try.underlying22 Try.underlying5
  have HB : Hid (Bytes (w.alloc (.cells #[.int .u8 97] 5 (1, 2))) (· < w.heap.size + 1) (some ⟨w.heap.size, 0, none⟩) [97]) := Lib.hid (fun i x hx => by
    have hi := (List.getElem?_eq_some_iff.1 hx).1
    simp only [List.length_cons, List.length_nil] at hi
    obtain rfl : i = 0 := by omega
    simp at hx
    subst hx
    exact ⟨by omega, _, _, rfl, by simp, by simp, by rw [World.cell?_alloc_mark]; rfl⟩)
  have uA : Upd [] w (w.alloc (.cells #[.int .u8 97] 5 (1, 2))) := (Upd.refl _ _).alloc _
  obtain ⟨fr, hfr⟩ : ∃ fr, fr = frame 1 2 [97] := ⟨_, rfl⟩
  have hf16 : fr.length = 16 := by rw [hfr, frame_len]; rfl
  have HF3 : Hid (fr[3]? = some 1) := Lib.hid (by rw [hfr]; simp [frame, frm, be])
  have HF10 : Hid (fr[10]? = some 2) := Lib.hid (by rw [hfr]; simp [frame, frm, be])
  have fits : Fits 1 2 [97] := ⟨by decide, by decide, by decide, by decide⟩
  have HFB : Hid (∀ x ∈ fr, x < 256) := Lib.hid (by rw [hfr]; exact frame_byte fits)
  have HFIND : Hid (find fr = .whole 1 2 [97]) := Lib.hid (by
    have := find_frame fits []
    rw [List.append_nil] at this
    rw [hfr]; exact this)
  have HFR := Lib.hid hfr
  have HF16 := Lib.hid hf16
  have HBU : Hid (Try.prog.built 48 [] = some sCmd.zc.toArray) := Lib.hid (by kernel_rfl)
  clear hfr fits hf16
  go_enter Try.func14, Try.ntmps14
  go_wp2_with fail
  refine (frame_any _ 1 2 _ 1 [97] _ HB.out).mono ?_
  rintro e w1 ⟨u1, ⟨_, v1, rfl, r1⟩ | ⟨hno, _⟩⟩
  rotate_left
  · exact absurd ⟨by omega, by omega, by omega, by omega, by simp⟩ hno
  have e1 : frame (1 : Int).toNat (2 : Int).toNat [97] = fr := HFR.out.symm
  rw [e1] at r1
  have R1 := Lib.hid r1
  have U1 := Lib.hid (uA.trans u1 (by simp))
  obtain ⟨a1, c1, rfl⟩ := r1.shape
  have hcap := r1.cap
  clear r1 u1 uA e1 kc
  go_wp2_with fail
  refine (unframe_any _ a1 c1 fr w1 (R1.out.bytes HFB.out rfl) hcap.1 (by have := HF16.out; omega)).mono ?_
  rintro e w2 ⟨u2, hun⟩
  rw [HFIND.out] at hun
  obtain ⟨v2, rfl, r2⟩ := hun
  have U2 := Lib.hid (U1.out.trans u2 (by simp))
  have R12 : Hid (Bytes w2 (fun _ => True) a1 fr) := Lib.hid (((R1.out.bytes HFB.out rfl).keep (ok' := fun _ => True) (fun b _ hb => ⟨trivial, rfl⟩) (Nat.le_refl _)).upd u2 (by simp))
  have R2 : Hid (∃ a2 c2, v2 = .slice a2 1 c2 ∧ Bytes w2 (fun _ => True) a2 [97]) := Lib.hid (by
    obtain ⟨a2, c2, rfl⟩ := r2.shape
    exact ⟨a2, c2, rfl, (r2.bytes (by simp) rfl).keep (fun b _ hb => ⟨trivial, rfl⟩) (Nat.le_refl _)⟩)
  clear u2 r2 hcap
  obtain ⟨a2, c2, rfl, b2⟩ := R2.out
  have B2 := Lib.hid b2
  clear R2 b2
  go_wp2_with (refine wpList_buildTo (o := ⟨some 27, .build 48 #[], _, _, _, _⟩) rfl 48 #[] rfl (some 27) rfl sCmd.zc.toArray (by simpa using HBU.out) ?_)
  refine (putCmd_puts sCmd.zc sCmd.zero w2 (Sch.Rep.zero _ _ _) (Nat.le_trans (Sch.cmax_le _ _ (Sch.good_zero _)) (of_decide_eq_true (by kernel_rfl)))).mono ?_
  rintro e w3 ⟨u3, ⟨_, a3, c3, rfl, r3⟩ | ⟨hno, _⟩⟩
  rotate_left
  · exact absurd (Sch.good_zero _) hno
  obtain ⟨pz, hpz⟩ : ∃ pz, pz = sCmd.put sCmd.zero := ⟨_, rfl⟩
  rw [← hpz] at r3
  rw [← hpz]
  have HPL : Hid (pz.length = 27) := Lib.hid (by rw [hpz, put_zero_len]; rfl)
  have HGET : Hid (sCmd.get pz = some (sCmd.zero, [])) := Lib.hid (by
    have := Sch.get_put sCmd sCmd.zero [] (Sch.good_zero _)
    rw [hpz]; rwa [List.append_nil] at this)
  have HPB : Hid (∀ x ∈ pz, x < 256) := Lib.hid (by rw [hpz]; exact put_byte _ _ (Sch.good_zero _))
  have U3 := Lib.hid (U2.out.trans u3 (by simp))
  have U23 := Lib.hid u3
  have R3 : Hid (Row w2.heap.size w3 (.slice a3 pz.length c3) pz) := Lib.hid r3
  clear u3 r3 hpz
  have hcap := R3.out.cap
  go_wp2_with fail
  refine (getCmd_gets a3 c3 pz w3 ((R3.out.bytes HPB.out rfl).keep (fun b _ hb => ⟨hb, rfl⟩) (Nat.le_refl _)) hcap).mono ?_
  rintro e w4 ⟨u4, cs, v, r, rfl, hr, h1, h2⟩
  obtain rfl : r = true := by
    cases r with
    | true => rfl
    | false => exact absurd HGET.out ((h2 rfl).1 _)
  have HCS := Lib.hid (show cs.length = 27 from hr.len)
  have HONE := Lib.hid hr.one
  have U4 := Lib.hid u4
  clear h1 h2 hr u4 hcap
  go_wp2_with (first | (refine wpList_alloc_blk rfl 48 rfl sCmd.zc (zero48 _) ?_; intro wA hA uA; have HA := Lib.hid hA; have UA := Lib.hid uA; clear hA uA) | (refine wpList_store_blk (o := ⟨none, .store 48 (.tmp 10) (.tmp 34), _, _, _, _⟩) rfl 48 (.tmp 10) (.tmp 34) rfl w4.heap.size cs rfl rfl HA.out (by rw [HCS.out]; exact Try.size48) (by rw [HCS.out]; rfl) HONE.out ?_; intro w5 h5 u5; have U5 : Hid (Upd [] w4 w5) := Lib.hid (UA.out.trans u5 (by simp)); obtain ⟨b1, o1, rfl, _, hb1, hr1⟩ := bytes_range R12.out (fun e => by have hf16 := HF16.out; rw [e] at hf16; cases hf16); obtain ⟨b2, o2, rfl, _, hb2, hr2⟩ := bytes_range B2.out (by simp); have hU25 := (U23.out.trans U4.out (by simp)).trans U5.out (by simp); have q1 := rangeAt_keep hr1 (hU25.block b1 hb1 (by simp)); have q2 := rangeAt_keep hr2 (hU25.block b2 hb2 (by simp)); have z3 : w5.cell? ⟨b1, o1 + 3, none⟩ = some (.int .u8 1) := q1 3 _ (by rw [List.getElem?_map, HF3.out]; rfl); have z10 : w5.cell? ⟨b1, o1 + 10, none⟩ = some (.int .u8 2) := q1 10 _ (by rw [List.getElem?_map, HF10.out]; rfl); have z0 : w5.cell? ⟨b2, o2, none⟩ = some (.int .u8 97) := q2 0 _ rfl; have hcv := run_convert_bytes_back (P := Try.prog) w5 22 9 5 ⟨b2, o2, none⟩ c2 [97] Try.underlying22 Try.underlying5 Try.underlying9 (fun j hj => by simp at hj; subst hj; simpa [Addr.add] using z0); (try simp only [List.length_cons, List.length_nil, Nat.zero_add] at hcv); have g3 : (3 : Int) < (fr.length : Int) := (by have := HF16.out; omega); have g10 : (10 : Int) < (fr.length : Int) := (by have := HF16.out; omega); have l16 : ((fr.length : Int) == 16) = true := (by rw [beq_iff_eq]; have := HF16.out; omega); have l27 : ((pz.length : Int) == 27) = true := (by rw [beq_iff_eq]; have := HPL.out; omega); clear h5 u5 hr1 hr2 hU25 q1 q2))
  go_ret
  exact ⟨rfl, (U3.out.trans U4.out (by simp)).trans U5.out (by simp)⟩
end Go.Proofs.Ythecincpejpmpaa
/- What the frames of the statements share: the bound read off; bytes and records that came in, opened. -/
namespace Go.Proofs.Ythecincpejpmpaa
open Go.ChangeShapes Go.WideShapes Go.ChangeAt Go.RowKit Go.Lb Go.Rc

instance : Inhabited Val := ⟨.unit⟩
theorem Try.own : ownKnob Try.prog.godebug = none := by kernel_rfl
theorem Try.laidOut : laidOutB Try.prog = true := by kernel_rfl

theorem bulk_one {H : Type} (x : DataW H) : 1 ≤ Rows.uptoBulk x := by
  cases x with
  | lit l => cases l <;> simp [Rows.uptoBulk]
  | _ => simp [Rows.uptoBulk]
theorem bulk_len {H : Type} (l : List (DataW H)) : l.length ≤ Rows.uptoBulkAll l := by
  induction l with
  | nil => simp [Rows.uptoBulkAll]
  | cons x r ih => have h1 := bulk_one x; simp only [Rows.uptoBulkAll, List.length_cons]; omega
theorem bulk_mem {H : Type} {l : List (DataW H)} {x : DataW H} (h : x ∈ l) : Rows.uptoBulk x ≤ Rows.uptoBulkAll l := by
  induction l with
  | nil => simp at h
  | cons y r ih =>
    simp only [Rows.uptoBulkAll]
    rcases List.mem_cons.1 h with rfl | h
    · omega
    · have := ih h; omega
theorem bulk_sum {H : Type} (l : List (DataW H)) : (l.map Rows.uptoBulk).sum = Rows.uptoBulkAll l := by
  induction l with
  | nil => rfl
  | cons y r ih => simp only [List.map_cons, List.sum_cons, Rows.uptoBulkAll, ih]
theorem bulk_of {H : Type} {l : List (DataW H)} (hk : Rows.uptoSmall H l = true) : Rows.uptoBulkAll l ≤ 1048576 := of_decide_eq_true hk
theorem pick_all {α : Type} [Inhabited α] {p : Nat → α → Prop} : ∀ n, (∀ i, i < n → ∃ v, p i v) → ∃ f : Nat → α, ∀ i, i < n → p i (f i)
  | 0, _ => ⟨fun _ => default, fun i h => by omega⟩
  | n + 1, h => by
    obtain ⟨f, hf⟩ := pick_all n (fun i hi => h i (by omega))
    obtain ⟨v, hv⟩ := h n (by omega)
    refine ⟨fun i => if i = n then v else f i, fun i hi => ?_⟩
    by_cases e : i = n
    · subst e; simpa using hv
    · simp only [if_neg e]; exact hf i (by omega)
theorem sum_le {f g : Nat → Nat} : ∀ n, (∀ i, i < n → f i ≤ g i) → ((List.range n).map f).sum ≤ ((List.range n).map g).sum
  | 0, _ => by simp
  | n + 1, h => by
    have h1 := sum_le n (fun i hi => h i (by omega))
    have h2 := h n (by omega)
    simp only [List.range_succ, List.map_append, List.sum_append, List.map_cons, List.map_nil, List.sum_cons, List.sum_nil]
    omega
theorem sum_mul6 (f : Nat → Nat) : ∀ n, ((List.range n).map fun i => 6 * f i).sum = 6 * ((List.range n).map f).sum
  | 0 => by simp
  | n + 1 => by
    have := sum_mul6 f n
    simp only [List.range_succ, List.map_append, List.sum_append, List.map_cons, List.map_nil, List.sum_cons, List.sum_nil, this]
    omega

section
variable {H : Type} {enc : TypeId × Value → H} {W : World} {n : Nat} {cs : List Value} {x : DataW H × List MemPlace} {P : Program}
/-- A slice that came in, opened at every place: all in one block. -/
theorem open_rows {t e : TypeId} {k : Nat} (ht : P.underlying t = some (.slice e)) (hk : P.cellsOf e = k) (h0 : 0 < k) {a : Option Addr} {len cap : Nat} {Q : List Value → DataW H → Prop}
    (hQ : ∀ n' cs x, n' < n → DataW.trod enc P W 0 (fun _ => true) true n' e cs = some x → Q cs x.1)
    (h : DataW.trod enc P W 0 (fun _ => true) true n t [.slice a len cap] = some x) :
    len ≤ cap ∧ cap ≤ maxLen ∧ len + 1 ≤ Rows.uptoBulk x.1 ∧ ∃ D : Nat → DataW H, ((List.range len).map fun i => Rows.uptoBulk (D i)).sum + 1 ≤ Rows.uptoBulk x.1 ∧ ∀ i, i < len → ∃ b o cs, a = some ⟨b, o, none⟩ ∧ b < W.heap.size ∧ W.rangeAt b (o + i * k) cs ∧ cs.length = k ∧ Q cs (D i) := by
  obtain ⟨n0, rfl⟩ : ∃ n0, n = n0 + 1 := by
    cases n with
    | zero => simp [DataW.trod] at h
    | succ n0 => exact ⟨n0, rfl⟩
  rcases DataW.trod_slice ht h with ⟨hcs, hx⟩ | ⟨y, l, c, elems, rest, m, hm0, hcs, hx, _, hl, hm, hlen, hel, _⟩
  · simp at hcs
    obtain ⟨rfl, rfl, rfl⟩ := hcs
    have := bulk_one x.1
    exact ⟨by omega, by omega, by omega, fun _ => .nil, by simpa using this, fun i hi => by omega⟩
  · obtain rfl : n0 = m := by omega
    simp at hcs
    obtain ⟨rfl, rfl, rfl⟩ := hcs
    have hD : ((List.range elems.length).map fun i => Rows.uptoBulk ((elems.map (·.1)).getD i .nil)).sum = Rows.uptoBulkAll (elems.map (·.1)) := by
      rw [← bulk_sum]
      congr 1
      refine List.ext_getElem (by simp) fun i h1 h2 => ?_
      simp at h1
      simp [h1]
    rw [hlen] at hD
    have h3 := bulk_len (elems.map (·.1))
    rw [List.length_map, hlen] at h3
    refine ⟨hl, hm, by rw [hx]; simp only [Rows.uptoBulk]; omega, fun i => (elems.map (·.1)).getD i .nil, by rw [hD, hx]; simp only [Rows.uptoBulk]; omega, fun i hi => ?_⟩
    have key : ∀ i, i < len → ∃ cs' z, W.cells? 0 (y.add (i * P.cellsOf e)) (P.cellsOf e) = some cs' ∧ DataW.trod enc P W 0 (fun _ => true) true n0 e cs' = some z ∧ elems[i]? = some z := fun i hi => by
      have h4 := hel i hi
      rw [List.getElem?_eq_getElem (by omega)] at h4
      obtain ⟨cs', h1, h2⟩ := Option.bind_eq_some_iff.1 h4
      exact ⟨cs', _, h1, h2, List.getElem?_eq_getElem (by omega)⟩
    obtain ⟨cs', z, h1, h2, h5⟩ := key i hi
    rw [hk] at h1
    obtain ⟨_, hlc, hc⟩ := World.cells?_some h1
    obtain ⟨b, off, spot⟩ := y
    have c0 := hc 0 (by omega)
    rw [List.getElem?_eq_getElem (by omega)] at c0
    have hspot : spot = none := by
      obtain ⟨cs0, _, h10, _⟩ := key 0 (by omega)
      rw [hk] at h10
      obtain ⟨_, hl0, hc0⟩ := World.cells?_some h10
      have z0 := hc0 0 (by omega)
      rw [List.getElem?_eq_getElem (by omega)] at z0
      simpa [Addr.add] using World.cell?_spot z0
    subst hspot
    simp only [Addr.add_lit, Nat.add_zero] at c0
    refine ⟨b, off, cs', rfl, block_lt_of_cell c0, fun j v hj => ?_, hlc, ?_⟩
    · have hjl := (List.getElem?_eq_some_iff.1 hj).1
      have := hc j (by omega)
      rw [hj] at this
      simpa [Addr.add_lit] using this
    · have h6 : (elems.map (·.1)).getD i .nil = z.1 := by simp [List.getD, h5]
      show Q cs' ((elems.map (·.1)).getD i .nil)
      rw [h6]
      exact hQ _ _ _ (by omega) h2

theorem open_u8 {t : TypeId} (ht : P.underlying t = some (.int .u8)) (h : DataW.trod enc P W 0 (fun _ => true) true n t cs = some x) : ∃ m : Nat, cs = [bv m] ∧ m < 256 := by
  obtain ⟨k, e, _, hw⟩ := DataW.trod_int ht h
  rw [Lit.wf_int_iff] at hw
  have h1 : (0 : Int) ≤ k := hw.1
  have h2 : k ≤ 255 := hw.2
  refine ⟨k.toNat, ?_, by omega⟩
  rw [e]
  simp [bv, Int.toNat_of_nonneg h1]
/-- Bytes that came in. -/
theorem open_bytes {t e : TypeId} (ht : P.underlying t = some (.slice e)) (he : P.underlying e = some (.int .u8)) (hk : P.cellsOf e = 1) {a : Option Addr} {len cap : Nat}
    (h : DataW.trod enc P W 0 (fun _ => true) true n t [.slice a len cap] = some x) : ∃ l : List Nat, l.length = len ∧ len ≤ cap ∧ cap ≤ maxLen ∧ len + 1 ≤ Rows.uptoBulk x.1 ∧ Bytes W (· < W.heap.size) a l := by
  obtain ⟨q1, q2, q3, D, q4, q5⟩ := open_rows (Q := fun cs _ => ∃ m : Nat, cs = [bv m] ∧ m < 256) ht hk (by omega) (fun n cs x _ hx => open_u8 he hx) h
  obtain ⟨f, hf⟩ := pick_all (α := Nat) (p := fun i m => m < 256 ∧ ∃ b o, a = some ⟨b, o, none⟩ ∧ b < W.heap.size ∧ W.rangeAt b (o + i) [bv m]) len (fun i hi => by
    obtain ⟨b, o, cs, h1, h2, h3, _, m, rfl, h4⟩ := q5 i hi
    exact ⟨m, h4, b, o, h1, h2, by simpa using h3⟩)
  refine ⟨(List.range len).map f, by simp, q1, q2, q3, fun i y hy => ?_⟩
  have hi := (List.getElem?_eq_some_iff.1 hy).1
  simp only [List.length_map, List.length_range] at hi
  rw [List.getElem?_map, List.getElem?_range hi] at hy
  obtain rfl : f i = y := by simpa using hy
  obtain ⟨k1, b, o, k2, k3, k4⟩ := hf i hi
  exact ⟨k1, b, o, k2, k3, k3, by simpa using k4 0 _ rfl⟩

/-- The shape of a type's values. -/
def foldO (f : TypeId → Option Sch) : List TypeId → Option (List Sch)
  | [] => some []
  | t :: r => match f t with
    | none => none
    | some s => match foldO f r with
      | none => none
      | some l => some (s :: l)
def offs (P : Program) : Nat → List Field → Bool
  | _, [] => true
  | o, f :: r => (f.offset == o) && offs P (o + P.cellsOf f.type) r
def schOf (P : Program) : Nat → TypeId → Option Sch
  | 0, _ => none
  | n + 1, t => match P.underlying t with
    | some (.int .i64) => some .num
    | some .bool => some .flag
    | some (.slice e) => match P.underlying e with
      | some (.int .u8) => if P.cellsOf e = 1 then some .raw else none
      | _ => match schOf P n e with
        | none => none
        | some s => if P.cellsOf e = s.size ∧ 0 < s.size then some (.list s) else none
    | some (.struct fs) => if offs P 0 fs.toList = true ∧ P.cellsOf t = (fs.toList.map fun g => P.cellsOf g.type).sum then (foldO (schOf P n) (fs.toList.map (·.type))).map tup else none
    | _ => none

/-- Fields one behind the other, opened. -/
theorem open_fields {k : Nat} {f : TypeId → Option Sch} (hf : ∀ t s cs x, f t = some s → DataW.trod enc P W 0 (fun _ => true) true k t cs = some x → ∃ v, s.Rep W (· < W.heap.size) cs v ∧ s.wmax v ≤ 6 * Rows.uptoBulk x.1) :
    ∀ (fs : List Field) (o : Nat) (cs : List Value) (xs : List (DataW H × List MemPlace)) (ss : List Sch), offs P o fs = true → foldO f (fs.map (·.type)) = some ss → xs.length = fs.length →
      (∀ (i : Nat) (g : Field), fs[i]? = some g → DataW.trod enc P W 0 (fun _ => true) true k g.type ((cs.drop g.offset).take (P.cellsOf g.type)) = xs[i]?) →
      cs.length = o + (fs.map fun g => P.cellsOf g.type).sum →
      ∃ v, (tup ss).Rep W (· < W.heap.size) (cs.drop o) v ∧ (tup ss).wmax v ≤ 6 * Rows.uptoBulkAll (xs.map (·.1))
  | [], o, cs, xs, ss, _, h2, h3, _, h5 => by
    simp only [List.map_nil, foldO, Option.some.injEq] at h2
    subst h2
    simp only [List.map_nil, List.sum_nil, Nat.add_zero] at h5
    refine ⟨.unit, ⟨by rw [List.drop_eq_nil_of_le (by omega)], rfl⟩, by simp [tup, Sch.wmax]⟩
  | g :: r, o, cs, xs, ss, h1, h2, h3, h4, h5 => by
    simp only [offs, Bool.and_eq_true, beq_iff_eq] at h1
    obtain ⟨h1, h1'⟩ := h1
    simp only [List.map_cons, foldO] at h2
    cases hs : f g.type with
    | none => simp [hs] at h2
    | some s =>
      cases hl : foldO f (r.map (·.type)) with
      | none => simp [hs, hl] at h2
      | some l =>
        obtain rfl : s :: l = ss := by simpa [hs, hl] using h2
        match xs, h3 with
        | x :: xr, h3 =>
          have h40 := h4 0 g rfl
          simp only [List.getElem?_cons_zero, h1] at h40
          obtain ⟨v, k1, k2⟩ := hf _ _ _ _ hs h40
          simp only [List.map_cons, List.sum_cons] at h5
          obtain ⟨v', m1, m2⟩ := open_fields hf r (o + P.cellsOf g.type) cs xr l h1' hl (by simpa using h3) (fun i g' hg' => by simpa using h4 (i + 1) g' (by simpa using hg')) (by omega)
          refine ⟨.pair v v', ⟨_, _, _, _, ?_, rfl, k1, m1⟩, ?_⟩
          · rw [← List.drop_drop, List.take_append_drop]
          · simp only [List.map_cons, Rows.uptoBulkAll]
            show s.wmax v + (tup l).wmax v' ≤ _
            omega

theorem open_sch : ∀ (m : Nat) (t : TypeId) (s : Sch) (n : Nat) (cs : List Value) (x : DataW H × List MemPlace), schOf P m t = some s →
    DataW.trod enc P W 0 (fun _ => true) true n t cs = some x → ∃ v, s.Rep W (· < W.heap.size) cs v ∧ s.wmax v ≤ 6 * Rows.uptoBulk x.1
  | 0, _, _, _, _, _, h, _ => by simp [schOf] at h
  | m + 1, t, s, n, cs, x, h, hx => by
    have b1 := bulk_one x.1
    unfold schOf at h
    split at h
    · rename_i hu
      obtain rfl : Sch.num = s := by simpa using h
      obtain ⟨k, rfl, _, _⟩ := DataW.trod_int hu hx
      exact ⟨_, ⟨k, rfl, rfl⟩, by simp only [Sch.wmax]; omega⟩
    · rename_i hu
      obtain rfl : Sch.flag = s := by simpa using h
      obtain ⟨k, rfl, _⟩ := DataW.trod_bool hu hx
      exact ⟨_, ⟨k, rfl, rfl⟩, by simp only [Sch.wmax]; omega⟩
    · rename_i e hu
      obtain ⟨a, len, cap, rfl⟩ : ∃ a len cap, cs = [.slice a len cap] := by
        rcases DataW.trod_slice hu hx with ⟨e, _⟩ | ⟨a, len, cap, _, _, _, _, e, _⟩
        · exact ⟨none, 0, 0, e⟩
        · exact ⟨some a, len, cap, e⟩
      split at h
      · rename_i he
        split at h
        · rename_i h1
          obtain rfl : Sch.raw = s := by simpa using h
          obtain ⟨l, rfl, _, _, q4, q5⟩ := open_bytes hu he h1 hx
          exact ⟨_, ⟨a, cap, l, rfl, rfl, q5⟩, by simp only [Sch.wmax]; omega⟩
        · cases h
      · split at h
        · cases h
        · rename_i s' hs'
          split at h
          · rename_i h1
            obtain rfl : Sch.list s' = s := by simpa using h
            obtain ⟨_, _, q3, D, q4, q5⟩ := open_rows (Q := fun cs x => ∃ v, s'.Rep W (· < W.heap.size) cs v ∧ s'.wmax v ≤ 6 * Rows.uptoBulk x) hu h1.1 h1.2 (fun n cs x _ hx => open_sch m e s' n cs x hs' hx) hx
            obtain ⟨f, hf⟩ := pick_all (α := Val) (p := fun i v => ∃ b o us, a = some ⟨b, o, none⟩ ∧ b < W.heap.size ∧ W.rangeAt b (o + i * s'.size) us ∧ s'.Rep W (· < W.heap.size) us v ∧ s'.wmax v ≤ 6 * Rows.uptoBulk (D i)) len (fun i hi => by
              obtain ⟨b, o, cs, h1, h2, h3, _, v, h4, h5⟩ := q5 i hi
              exact ⟨v, b, o, cs, h1, h2, h3, h4, h5⟩)
            refine ⟨.list ((List.range len).map f), ⟨a, cap, _, by simp, rfl, fun i y hy => ?_⟩, ?_⟩
            · have hi := (List.getElem?_eq_some_iff.1 hy).1
              simp only [List.length_map, List.length_range] at hi
              rw [List.getElem?_map, List.getElem?_range hi] at hy
              obtain rfl : f i = y := by simpa using hy
              obtain ⟨b, o, us, k1, k2, k3, k4, _⟩ := hf i hi
              exact ⟨b, o, us, k1, k2, k2, k3, k4⟩
            · have h6 := sum_le (f := fun i => s'.wmax (f i)) (g := fun i => 6 * Rows.uptoBulk (D i)) len (fun i hi => by
                obtain ⟨b, o, us, k1, k2, k3, k4, k5⟩ := hf i hi
                exact k5)
              rw [sum_mul6] at h6
              simp only [Sch.wmax, List.map_map]
              have : (List.map (s'.wmax ∘ f) (List.range len)).sum = ((List.range len).map fun i => s'.wmax (f i)).sum := rfl
              omega
          · cases h
    · rename_i fs hu
      split at h
      · rename_i ho
        obtain ⟨ss, hss, rfl⟩ := Option.map_eq_some_iff.1 h
        obtain ⟨xs, k, _, rfl, hl, hlen, hf⟩ := DataW.trod_struct hu hx
        obtain ⟨v, k1, k2⟩ := open_fields (fun t s cs x h1 h2 => open_sch m t s k cs x h1 h2) fs.toList 0 cs xs ss ho.1 hss (by simpa using hlen) (fun i g hg => hf i g (by simpa using hg)) (by rw [hl, ho.2]; omega)
        exact ⟨v, by simpa using k1, by simp only [Rows.uptoBulk]; omega⟩
      · cases h
    · cases h
/-- Bytes that were handed in. -/
theorem arg_bytes {t e : TypeId} (ht : P.underlying t = some (.slice e)) (he : P.underlying e = some (.int .u8)) (hk : P.cellsOf e = 1) {a : Option Addr} {len cap : Nat} {d : DataW H} {p : List MemPlace}
    (h : DataW.Trod enc P W 0 (fun _ => true) true t (.slice a len cap) d p) : ∃ l : List Nat, l.length = len ∧ len ≤ cap ∧ cap ≤ maxLen ∧ len + 1 ≤ Rows.uptoBulk d ∧ Bytes W (· < W.heap.size) a l := by
  obtain ⟨m, hm⟩ := h
  exact open_bytes ht he hk hm
theorem list_of {s : Sch} {ok : Nat → Prop} {a : Option Addr} {len cap : Nat} {v : Val} (h : (Sch.list s).Rep W ok [.slice a len cap] v) : ∃ l : List Val, len = l.length ∧ v = .list l := by
  obtain ⟨a', c', l, h1, h2, _⟩ := h
  simp only [List.cons.injEq, Value.slice.injEq, and_true] at h1
  exact ⟨l, h1.2.1, h2⟩
/-- A list that was handed in. -/
theorem arg_list {t : TypeId} {m : Nat} {s : Sch} (hs : schOf P m t = some s) {a : Option Addr} {len cap : Nat} {d : DataW H} {p : List MemPlace} (h : DataW.Trod enc P W 0 (fun _ => true) true t (.slice a len cap) d p) :
    ∃ v, s.Rep W (· < W.heap.size) [.slice a len cap] v ∧ s.wmax v ≤ 6 * Rows.uptoBulk d := by
  obtain ⟨k, hk⟩ := h
  exact open_sch m t s k _ _ hs hk
/-- A record that was handed in. -/
theorem arg_sch {t : TypeId} {m : Nat} {s : Sch} (hs : schOf P m t = some s) {cs : Array Value} {d : DataW H} {p : List MemPlace} (h : DataW.Trod enc P W 0 (fun _ => true) true t (.agg cs) d p) :
    ∃ v, s.Rep W (· < W.heap.size) cs.toList v ∧ s.wmax v ≤ 6 * Rows.uptoBulk d := by
  obtain ⟨k, hk⟩ := h
  exact open_sch m t s k _ _ hs hk
end
end Go.Proofs.Ythecincpejpmpaa
/- What the reach says of slices that came in. -/
namespace Go.Proofs.Ythecincpejpmpaa
open Go.ChangeShapes Go.WideShapes Go.ChangeAt Go.RowKit Go.Lb Go.Rc
section
variable {H : Type} {enc : TypeId × Value → H} {W : World}
/-- No row that is met is longer than the reach. -/
def Reached (d : DataW H) (t : TypeId) : Prop := ∀ n ∈ d.weights Try.prog t, n ≤ reachBytes
theorem reached_of {t : TypeId} {ts : List TypeId} {d : DataW H} {ds : List (DataW H)} (h : (DataW.weightsEach Try.prog (t :: ts) (d :: ds)).all (· ≤ reachBytes) = true) : Reached d t ∧ (DataW.weightsEach Try.prog ts ds).all (· ≤ reachBytes) = true := by
  simp only [DataW.weightsEach, List.all_append, Bool.and_eq_true] at h
  exact ⟨fun n hn => by simpa using List.all_eq_true.1 h.1 n hn, h.2⟩
theorem slice_r {t e : TypeId} {z : Nat} (ht : Try.prog.underlying t = some (.slice e)) (hz : Try.prog.bytesOf e = z) {d : DataW H} {p : List MemPlace} {a : Option Addr} {len cap : Nat} (h : DataW.Trod enc Try.prog W 0 (fun _ => true) true t (.slice a len cap) d p) (hr : Reached d t) : len * z ≤ reachBytes := by
  obtain ⟨fuel, hf⟩ := h
  rcases Deep.open_slice ht hf with ⟨hcs, _⟩ | ⟨x, l, c, m, n, D, Pl, hcs, _, hl, _, hm, hx, hall⟩
  · simp [Value.cells] at hcs
    rw [hcs.2.1]; simp
  · simp [Value.cells] at hcs
    obtain ⟨rfl, rfl, rfl⟩ := hcs
    simp at hm
    subst hm
    simp only [Prod.mk.injEq] at hx
    rw [hx.1] at hr
    have := hr _ (by simp only [DataW.weights, ht]; exact List.mem_cons_self ..)
    rw [hz] at this
    simp only [List.length_map, List.length_range] at this
    exact Nat.le_trans (Nat.mul_le_mul_right _ (Nat.le_add_right _ _)) this
end
end Go.Proofs.Ythecincpejpmpaa
/- What the program's first words say, once for all statements. -/
namespace Go.Proofs.Ythecincpejpmpaa
open Go.ChangeShapes Go.WideShapes Go.ChangeAt
theorem Try.words : (Try.prog.mayEnter, Try.prog.liftsFinal, Try.prog.make) = (true, false, some .cut) := by kernel_rfl
theorem Try.words1 : Try.prog.mayEnter = true := (Prod.mk.inj Try.words).1
theorem Try.words2 : Try.prog.liftsFinal = false := (Prod.mk.inj (Prod.mk.inj Try.words).2).1
theorem Try.words3 : Try.prog.make = some .cut := (Prod.mk.inj (Prod.mk.inj Try.words).2).2
end Go.Proofs.Ythecincpejpmpaa
/- What writing and reading whole records say, said in one way for those that may be written and those that may not; law01's both. -/
namespace Go.Rc
theorem sum_len : ∀ (l : List Val) (f : Val → List Nat) (g : Val → Nat), (∀ x ∈ l, (f x).length ≤ g x) → (l.flatMap f).length ≤ (l.map g).sum
  | [], f, g, _ => by simp
  | x :: l, f, g, h => by
    have h1 := sum_len l f g (fun y hy => h y (by simp [hy]))
    have h2 := h x (by simp)
    rw [List.flatMap_cons, List.length_append, List.map_cons, List.sum_cons]; omega
theorem Sch.put_len : ∀ (s : Sch) (v : Val), s.good v → (s.put v).length ≤ s.wmax v
  | .nil, v, _ => by cases v <;> simp [Sch.put]
  | .num, v, h => by
    cases v with
    | num n => exact nput_len h
    | _ => exact absurd h (by simp [Sch.good])
  | .flag, v, h => by
    cases v with
    | flag b => exact nput_len (by unfold maxN; split <;> omega)
    | _ => exact absurd h (by simp [Sch.good])
  | .raw, v, h => by
    cases v with
    | raw l =>
      have h1 : l.length ≤ 65536 := h.1
      have := nput_len (n := (l.length : Int)) (by unfold maxN; omega)
      simp only [Sch.put, Sch.wmax, List.length_append]; omega
    | _ => exact absurd h (by simp [Sch.good])
  | .list s, v, h => by
    cases v with
    | list l =>
      have h1 : l.length ≤ 64 := h.1
      have := nput_len (n := (l.length : Int)) (by unfold maxN; omega)
      have h3 := sum_len l s.put s.wmax (fun x hx => Sch.put_len s x (h.2 x hx))
      simp only [Sch.put, Sch.wmax, List.length_append]; omega
    | _ => exact absurd h (by simp [Sch.good])
  | .pair a b, v, h => by
    cases v with
    | pair x y =>
      have h1 := Sch.put_len a x h.1
      have h2 := Sch.put_len b y h.2
      simp only [Sch.put, Sch.wmax, List.length_append]; omega
    | _ => exact absurd h (by simp [Sch.good])
end Go.Rc
namespace Go.Proofs.Ythecincpejpmpaa
open Go.RowKit Go.Lb Go.Rc
/-- The bytes of a record: none, if it may not be written. -/
def bytesOf (g : Bool) (s : Sch) (v : Val) : List Nat := bif g then s.put v else []
/-- The error: OK, or ErrArg. -/
def errOf (g : Bool) : Int := bif g then 0 else 1
theorem good_dec (s : Sch) (v : Val) : ∃ g : Bool, g = true ↔ s.good v := by
  by_cases h : s.good v
  · exact ⟨true, by simp [h]⟩
  · exact ⟨false, by simp [h]⟩
theorem bytesOf_len {g : Bool} {s : Sch} {v : Val} {n : Nat} (hg : g = true ↔ s.good v) (hl : s.wmax v ≤ n) : (bytesOf g s v).length ≤ n := by
  cases g with
  | true => exact Nat.le_trans (Sch.put_len s v (hg.1 rfl)) hl
  | false => exact Nat.zero_le _
theorem bytesOf_most {g : Bool} {s : Sch} {v : Val} (hg : g = true ↔ s.good v) : (bytesOf g s v).length ≤ s.most := by
  cases g with
  | true => exact Nat.le_trans (Sch.put_len s v (hg.1 rfl)) (Sch.wmax_le s v (hg.1 rfl))
  | false => exact Nat.zero_le _
theorem own_bytes {w : World} {B n : Nat} {a : Option Addr} {c : Nat} {o : List Nat} (h : w.ownsRow B 5 1 (.slice a n c) o.length (o.map bv)) (ho : ∀ x ∈ o, x < 256) (hn : n = o.length) : Bytes w (B ≤ ·) a o ∧ n ≤ c ∧ c ≤ maxLen :=
  ⟨Row.bytes (show Row B w (.slice a n c) o from h) ho hn, Row.cap (show Row B w (.slice a n c) o from h)⟩
section
variable {K : Nat} {s : Sch} {cs : List Value} {v : Val} {w : World} {g : Bool} {p l : List Nat} {a : Option Addr} {c : Nat}
theorem puts_u (C : Puts K s) (hr : s.Rep w (· < w.heap.size) cs v) (hl : s.wmax v ≤ 1099511627776) (hg : g = true ↔ s.good v) (hp : p = bytesOf g s v) :
    Calls Try.prog K #[.agg cs.toArray] w fun e w' => ∃ a c, e = .returned (.tuple #[.slice a p.length c, .int .i64 (errOf g)]) ∧ Upd [] w w' ∧ Bytes w' (w.heap.size ≤ ·) a p ∧ p.length ≤ c ∧ c ≤ maxLen := by
  refine (C cs v w hr hl).mono ?_
  rintro e w' ⟨u, ⟨h1, a, c, rfl, h2⟩ | ⟨h1, rfl⟩⟩
  · obtain rfl : g = true := hg.2 h1
    obtain rfl : p = s.put v := hp
    obtain ⟨h3, h4, h5⟩ := own_bytes h2 (Sch.put_byte s v h1) rfl
    exact ⟨a, c, rfl, u, h3, h4, h5⟩
  · obtain rfl : g = false := by cases g with | false => rfl | true => exact absurd (hg.1 rfl) h1
    obtain rfl : p = [] := hp
    exact ⟨none, 0, rfl, u, Bytes.nil _ _ _, by simp, by simp [maxLen]⟩
theorem puts_c (C : PutsC K s) (hr : s.Rep w (· < w.heap.size) cs v) (hl : s.cmax v ≤ 225000000000000) (hg : g = true ↔ s.good v) (hp : p = bytesOf g s v) :
    Calls Try.prog K #[.agg cs.toArray] w fun e w' => ∃ a c, e = .returned (.tuple #[.slice a p.length c, .int .i64 (errOf g)]) ∧ Upd [] w w' ∧ Bytes w' (w.heap.size ≤ ·) a p ∧ p.length ≤ c ∧ c ≤ maxLen := by
  refine (C cs v w hr hl).mono ?_
  rintro e w' ⟨u, ⟨h1, a, c, rfl, h2⟩ | ⟨h1, rfl⟩⟩
  · obtain rfl : g = true := hg.2 h1
    obtain rfl : p = s.put v := hp
    obtain ⟨h3, h4, h5⟩ := own_bytes h2 (Sch.put_byte s v h1) rfl
    exact ⟨a, c, rfl, u, h3, h4, h5⟩
  · obtain rfl : g = false := by cases g with | false => rfl | true => exact absurd (hg.1 rfl) h1
    obtain rfl : p = [] := hp
    exact ⟨none, 0, rfl, u, Bytes.nil _ _ _, by simp, by simp [maxLen]⟩
theorem gets_u (C : Gets K s) (hb : Bytes w (· < w.heap.size) a l) (hc : l.length ≤ c ∧ c ≤ maxLen) (hg : g = true → s.get l = some (v, [])) (hn : g = false → ∀ v', s.get l ≠ some (v', [])) :
    Calls Try.prog K #[.slice a l.length c] w fun e w' => ∃ cs v', e = .returned (.tuple #[.agg cs.toArray, .bool g]) ∧ Upd [] w w' ∧ s.Rep w' (Nw w.heap.size w') cs v' ∧ (g = true → v' = v) ∧ s.good v' := by
  refine (C a c l w hb hc).mono ?_
  rintro e w' ⟨u, cs, v', r, rfl, h1, h2, h3⟩
  have hlt : ∀ b ∈ l, b < 256 := fun x hx => by
    obtain ⟨i, hi⟩ := List.mem_iff_getElem?.1 hx
    exact (hb i x hi).1
  obtain rfl : r = g := by
    cases r with
    | true => cases g with
      | true => rfl
      | false => exact absurd (h2 rfl) (hn rfl v')
    | false => cases g with
      | true => exact absurd (hg rfl) ((h3 rfl).1 v)
      | false => rfl
  refine ⟨cs, v', rfl, u, h1, fun e => ?_, ?_⟩
  · have := (hg e).symm.trans (h2 e)
    simp only [Option.some.injEq, Prod.mk.injEq] at this
    exact this.1.symm
  · cases r with
    | true => exact (Sch.get_one s l v' [] (h2 rfl) hlt).2
    | false => rw [(h3 rfl).2]; exact Sch.good_zero s
theorem get_bytesOf (hg : g = true ↔ s.good v) : g = true → s.get (bytesOf g s v) = some (v, []) := fun e => by
  subst e
  have := Sch.get_put s v [] (hg.1 rfl)
  rwa [List.append_nil] at this
theorem get_none (h0 : s.get [] = none) : g = false → ∀ v', s.get (bytesOf g s v) ≠ some (v', []) := fun e v' => by
  subst e
  show s.get [] ≠ _
  rw [h0]; simp
end
theorem bytes_all {w w' : World} {ok : Nat → Prop} {a : Option Addr} {l : List Nat} (h : Bytes w ok a l) (u : Upd [] w w') : Bytes w' (· < w'.heap.size) a l :=
  h.keep (fun k hk hl => ⟨Nat.lt_of_lt_of_le hl u.size, u.block k hl (by simp)⟩) u.size
theorem rep_all {w w' : World} {ok : Nat → Prop} {s : Sch} {cs : List Value} {v : Val} (h : s.Rep w ok cs v) (u : Upd [] w w') : s.Rep w' (· < w'.heap.size) cs v :=
  h.keep (fun k hk hl => ⟨Nat.lt_of_lt_of_le hl u.size, u.block k hl (by simp)⟩) u.size

end Go.Proofs.Ythecincpejpmpaa
/- codec's form.entry, reading. -/
namespace Go.Proofs.Ythecincpejpmpaa
open Go.RowKit Go.Lb Go.Rc

set_option maxRecDepth 20000 in
set_option maxHeartbeats 2000000 in
theorem entry_reads : Reads 67 sEntry := by
  intro B f p q tp pre post l b w h hB hpf hq hp
  subst hq
  have H0 := Lib.hid (RdSt.start (rest := [.num, .num, sCmd]) h hB hpf hp (fr_mark h).2.2.2.1)
  clear h hp
  go_enter Try.func67, Try.ntmps67
  go_wp2_with fail
  refine wp_region_lex (fun _ => True) 99 [(0, true), (1, true), (2, true), (3, true), (4, true), (5, true), (6, true), (7, false), (8, false)] (by kernel_rfl) (by kernel_rfl) (by kernel_rfl) (by kernel_rfl) (fun _ _ d _ _ h => by cases d <;> exact h) ?_
  simp only [lexOps, List.map_cons, List.map_nil, List.getD_cons_zero, List.getD_cons_succ]
  iterate 7 (refine lex_read rfl trivial (v := ?_) (fun w' _ => ?_) ?_; rotate_left; (focus (go_simp; try with_reducible rfl)); simp only [Act.put, List.setIfInBounds_toArray, List.set_cons_zero, List.set_cons_succ])
  refine lex_do rfl (fun K hK => ?_)
  go_simp
  refine hK _ _ (fun _ => trivial) ?_
  clear hK K
  refine lex_do rfl (fun K hK => ?_)
  go_simp
  refine (CRd.goNums (rest := [sCmd]) (k := 2) H0.out ((Upd.refl _ _).alloc _).drew (Nat.le_refl _) (Blk.drew (Blk.new _ _ [_, _])) (by simp only [fsize_append, fsize_nums, fsize, List.nil_append] <;> rfl) (by decide)).mono ?_
  rintro e w1 ⟨rfl, ns1, l1, b1, hn, h⟩
  have H1 := Lib.hid h
  have HN1 := Lib.hid hn
  clear hn
  refine hK _ _ (fun _ => trivial) ?_
  clear hK K h
  refine lex_nil ?_
  go_wp2_with fail
  refine (CRd.go cmd_reads H1.out (by simp only [fsize_append, fsize_nums, fsize, HN1.out, List.nil_append] <;> rfl)).mono ?_
  rintro e w2 ⟨rfl, v2, l2, b2, h⟩
  have H2 := Lib.hid h
  clear h
  go_wp2_with fail
  go_end0
  exact CRd.fin H2.out (by simp only [List.map_append, nums_fst, HN1.out, List.append_assoc, List.map_cons, List.map_nil, List.nil_append]; rfl)
end Go.Proofs.Ythecincpejpmpaa
/- codec's list[Entry], reading. -/
namespace Go.Proofs.Ythecincpejpmpaa
open Go.RowKit Go.Lb Go.Rc

set_option maxRecDepth 20000 in
set_option maxHeartbeats 2000000 in
theorem listEntry_reads : LReads 66 67 sEntry := by
  intro B f p q tp pre post l b w h hB hpf hq hp
  obtain ⟨iT, hiT, hz0, hz1, hz2⟩ := info142
  subst hq
  have c0 := hp.cell (o := pre.length) mid_at
  obtain ⟨_, _, _, hf, hBf⟩ := fr_mark h
  have hplt := hp.lt
  have H := Lib.hid h
  have HP := Lib.hid hp
  clear h hp
  go_enter Try.func66, Try.ntmps66
  go_wp2_with fail
  refine (many_r B f 64 _ l b _ H.out).mono ?_
  rintro e w1 ⟨k, l1, b1, rfl, hk, h1, h2, h3⟩
  obtain ⟨m2, m3, m4, m5, _⟩ := fr_mark h1
  have HB1 := Lib.hid (h2.blk HP.out (by simpa using hpf))
  have HS : Hid (LRdSt sEntry 113 cR [f, p] B f 142 29 w w1 k l b 0 l1 b1 (.slice none 0 0) [] []) := Lib.hid (LRdSt.start h1 (h2.mono (by simp)) (by simp; omega) h3)
  clear h1 h2 h3 H
  go_wp2_with fail
  go_loopg [9, 42] k (fun g u t wr => ∃ (i : Nat) (l' : List Nat) (b' : Bool) (v : Value) (xss : List (List Value)) (xs : List Val), t = .int .i64 i ∧ k - i = g ∧ i ≤ k ∧ Blk wr p tp (pre ++ [v] ++ post) ∧ LRdSt sEntry 113 cR [f, p] B f 142 29 w wr k l b i l' b' v xss xs)
  case atStart => exact ⟨0, l1, b1, _, [], [], rfl, rfl, by omega, HB1.out, HS.out⟩
  case round =>
    obtain ⟨i, l', b', v, xss, xs, rfl, hg, hi, hbk, hS⟩ := hrel
    have HG := Lib.hid hg
    have HBK := Lib.hid hbk
    have HST := Lib.hid hS
    obtain ⟨n2, n3, n4, n5, _⟩ := fr_mark hS.fr
    have hsz := hS.upd.size
    clear hg hbk hS m2 m3 m4 m5
    by_cases hlt : i < k
    · have t1 : decide (i < k) = true := by simpa using hlt
      cases b' with
      | true =>
        have HE := Lib.hid (HST.out.rd (.inl rfl))
        go_wp2_with fail
        go_end0
        exact ⟨rfl, .list xs, [v], l', true, HST.out.fr, HST.out.upd, HBK.out, HST.out.isRep, HE.out⟩
      | false =>
      go_wp2_with (refine wpList_alloc_blk rfl 142 rfl sEntry.zc (zero142 _) ?_; intro wB hb hu)
      have hN := HST.out.upd' hu
      refine (entry_reads B f wr.heap.size 0 142 [] [] l' false wB hN.fr (by omega) (by omega) rfl (by simpa [Sch.zc] using hb)).mono ?_
      rintro e w2 ⟨rfl, x, us, l2, b2, h1, h2, h3, h4, h5⟩
      have hus : us.length = 29 := h4.len
      have hb2 : Blk w2 wr.heap.size 142 us := by simpa using h3
      have hU : Upd [f, p] wr w2 := (hu.mono (by simp)).trans h2 (by
        intro y hy
        simp only [List.mem_cons, List.not_mem_nil, or_false] at hy
        rcases hy with rfl | rfl
        · simp
        · exact .inr (Nat.le_refl _))
      have h4' : Sch.Rep w2 (Nw wr.heap.size w2) sEntry us x := h4.mono (fun b hb _ => hb.go hu.size rfl)
      have hbp : Blk w2 p tp (pre ++ [v] ++ post) := by
        refine h2.blk (hu.blk HBK.out (by simp)) ?_
        simp; omega
      have hrow2 := (hN.row)
      have hrw : w2.ownsRow w.heap.size 142 29 v i xss.flatten := h2.row (hu.row HST.out.row (by simp)) (by
        intro y hy
        have := own_lo HST.out.row hy
        simp; omega)
      have hsz2 := hU.size
      have hl2 := hb2.lt
      obtain ⟨a, c, rfl⟩ := own_shape' hrw
      have HO := Lib.hid h4.one
      have HR : Hid (∀ w', Upd (Value.slice a i c).ownBlock.toList w2 w' → w'.cell? ⟨p, pre.length, none⟩ = some (.slice a i c) ∧ Blk w' wr.heap.size 142 us) := Lib.hid (by
        intro w' u
        refine ⟨(u.blk hbp ?_).cell mid_at, u.blk hb2 ?_⟩
        · intro hm
          have := own_lo HST.out.row (g := p) (by simpa using hm)
          omega
        · intro hm
          have := own_lo HST.out.row (g := wr.heap.size) (by simpa using hm)
          omega)
      have HST2 := HST
      have HU := Lib.hid hU
      have H4 := Lib.hid h4'
      have H5 := Lib.hid h5
      have H1 := Lib.hid h1
      have HRW := Lib.hid hrw
      have HBP := Lib.hid hbp
      have HUS := Lib.hid hus
      clear h1 h2 h3 h4 h5 hN hb hu hbp hrow2 hrw hU h4' hus
      go_wp2_with fail
      refine wp_region_lex (fun w' => Upd (Value.slice a i c).ownBlock.toList w2 w') 8 [(0, true), (1, true), (2, true), (3, true), (4, true), (5, false), (6, false), (7, false), (8, false)] (by kernel_rfl) (by kernel_rfl) (by kernel_rfl) (by kernel_rfl) (fun _ _ d _ _ h => by cases d <;> exact h) ?_
      simp only [lexOps, List.map_cons, List.map_nil, List.getD_cons_zero, List.getD_cons_succ]
      have hS0 : Upd (Value.slice a i c).ownBlock.toList w2 w2.drew := (Upd.refl _ _).drew
      iterate 4 (refine lex_read rfl (by exact hS0) (v := ?_) (fun w' hw => ?_) ?_; rotate_left; (focus (obtain ⟨k1, k2⟩ := HR.out w' hw; clear k2; go_simp; try with_reducible rfl)); simp only [Act.put, List.setIfInBounds_toArray, List.set_cons_zero, List.set_cons_succ])
      refine lex_read rfl (by exact hS0) (fun w' hw => exec_load (by rfl) (by rfl) (run_loadAt_mid w' wr.heap.size 0 142 us _ (HR.out w' hw).2.range Try.underlying142 rfl (by rw [HUS.out]; exact Try.size142))) ?_
      try simp only [Act.put, List.setIfInBounds_toArray, List.set_cons_zero, List.set_cons_succ]
      refine lex_run rfl (exec_buildSlice (by rfl) (by simp [Act.eval]) (run_buildSlice1 _ 54 142 iT _ us 29 Try.underlying54 hiT hz0 hz1 HUS.out (by decide) (by decide))) (fun _ => hS0.alloc _) ?_
      try simp only [Act.put, List.setIfInBounds_toArray, List.set_cons_zero, List.set_cons_succ]
      have h64 : k ≤ 64 := hk
      have hB2 : Blk (w2.drew.alloc (.cells us.toArray 142)) w2.heap.size 142 us := Blk.new w2.drew _ _
      refine lex_do rfl (fun K hK => ?_)
      refine wp_append_mine (.tmp 53) (.tmp 55) 54 rfl w.heap.size 142 iT _ 29 _ Try.underlying54 hiT hz0 hz1 hz2 rfl (by decide) (.slice a i c) i xss.flatten rfl (World.ownsRow.alloc HRW.out _) ⟨w2.heap.size, 0, none⟩ 1 1 us rfl (by rw [HUS.out]) hB2.news (HO.out) (by unfold maxLen; omega) (by omega) (by have := HST.out.upd.size; simp; omega) ?_
      intro v' w3 hown hg hv
      have uA : Upd [f, p] wr (w2.drew.alloc (.cells us.toArray 142)) := (HU.out.drew).alloc _
      have hF : Fr B w3 f l2 b2 := by
        obtain ⟨a', c', hI⟩ := H1.out
        have hI2 : In 113 cR B (w2.drew.alloc (.cells us.toArray 142)) f l2 b2 a' c' := hI.upd (F := []) ((Upd.refl [] w2).drew.alloc _) (by simp)
        refine ⟨a', c', hI2.upd (F := (Value.slice a i c).ownBlock.toList) ((Upd.refl _ _).grown hg (fun k hk => .inl (by simp [hk]))) (fun k hk => ?_)⟩
        have := own_lo HST.out.row (g := k) (by simpa using hk)
        omega
      have hbp3 : Blk w3 p tp (pre ++ [.slice a i c] ++ post) := by
        have hb4 : Blk (w2.drew.alloc (.cells us.toArray 142)) p tp (pre ++ [.slice a i c] ++ post) := (HBP.out.drew).alloc _
        refine (hg.block p hb4.lt (fun e => ?_)).trans hb4
        have := own_lo HST.out.row (g := p) e.symm
        omega
      have q1 := hbp3.cell (o := pre.length) mid_at
      have q2 := hbp3.frozen pre.length
      have q3 := hbp3.lt
      have uS : Upd [p] w3 (w3.setCell ⟨p, pre.length, none⟩ v') := (Upd.refl _ _).setCell (by simp) _
      have HX : Hid (Blk (w3.setCell ⟨p, pre.length, none⟩ v') p tp (pre ++ [v'] ++ post) ∧ LRdSt sEntry 113 cR [f, p] B f 142 29 w (w3.setCell ⟨p, pre.length, none⟩ v') k l b (i + 1) l2 b2 v' (xss ++ [us]) (xs ++ [x])) := by
        refine Lib.hid ⟨?_, LRdSt.next HST.out hlt uA (H4.out.updN ((Upd.refl [] w2).drew.alloc _) (by simp)) HUS.out H5.out hg hown ?_ (uS.mono (by simp)) (hF.upd uS (by simp; omega))⟩
        · have := hbp3.set pre.length v'
          rwa [mid_set] at this
        · rcases hv with h | h
          · exact .inl h
          · exact .inr h
      have hS3 : Upd (Value.slice a i c).ownBlock.toList w2 w3 := (hS0.alloc _).grown hg (fun k hk => .inl (by simp [hk]))
      refine hK _ _ (fun _ => hS3) ?_
      obtain ⟨a', c', rfl⟩ := own_shape' hown
      clear hK K hown hg hv uA hF hbp3 uS hB2 hS0
      try simp only [Act.put, List.setIfInBounds_toArray, List.set_cons_zero, List.set_cons_succ]
      refine lex_do rfl (fun K hK => ?_)
      go_simp
      refine hK _ _ (fun _ => hS3) ?_
      clear hK K hS3
      try simp only [Act.put, List.setIfInBounds_toArray, List.set_cons_zero, List.set_cons_succ]
      refine lex_do rfl (fun K hK => ?_)
      go_simp
      refine hK _ _ (fun h => absurd rfl h) ?_
      clear hK K
      try simp only [Act.put, List.setIfInBounds_toArray, List.set_cons_zero, List.set_cons_succ]
      refine lex_nil ?_
      go_wp2_with fail
      go_roundg (k - (i + 1))
      case measure => have := HG.out; omega
      case rel => exact ⟨i + 1, l2, b2, _, _, _, by go_num, rfl, by omega, HX.out.1, HX.out.2⟩
    · obtain rfl : i = k := by omega
      have HE := Lib.hid (HST.out.rd (.inr rfl))
      go_wp2_with fail
      go_end0
      exact ⟨rfl, .list xs, [v], l', b', HST.out.fr, HST.out.upd, HBK.out, HST.out.isRep, HE.out⟩
end Go.Proofs.Ythecincpejpmpaa
/- codec's form.code, writing and reading. -/
namespace Go.Proofs.Ythecincpejpmpaa
open Go.RowKit Go.Lb Go.Rc

set_option maxRecDepth 20000 in
set_option maxHeartbeats 1000000 in
theorem code_writes : Writes 94 .num := by
  intro B X f p q tp pre cs post v o b w h hX hq hp hr hl
  obtain ⟨n, rfl, rfl⟩ := hr
  subst hq
  simp only [Sch.cmax] at hl
  have hN := h.new ((Upd.refl [] w).alloc (.cells #[.int .i64 n] 3)) (x := w.heap.size) (Nat.le_refl _) (by simp)
  have HN := Lib.hid hN
  have HPb := Lib.hid (hp.alloc (.cells #[.int .i64 n] 3))
  have k0 := hp.cell (o := pre.length) mid_at
  have hB := h.base
  have hplt := hp.lt
  have HX := Lib.hid hX
  clear h hN hp hX
  go_enter Try.func94, Try.ntmps94
  go_wp2_with fail
  refine (num_w B (w.heap.size :: X) f _ _ _ o b _ HN.out ((Blk.new w 3 [.int .i64 _]).cell rfl) hl).mono ?_
  rintro e w1 ⟨rfl, o', b', h1, h2, h3⟩
  have hbn := h2.blk (Blk.new w 3 [.int .i64 _]) (.inr (by simp))
  have c0 := hbn.cell (o := 0) rfl
  have hbp := h2.blk HPb.out (.inr (by simp [HX.out]))
  have p0 := hbp.cell (o := pre.length) mid_at
  have pz := hbp.frozen pre.length
  have plt := hbp.lt
  have HS := Lib.hid (setCell_same hbp (o := pre.length) mid_at)
  have HF := Lib.hid (show WrPost .num B X f (.num n) o b w (.returned (.tuple #[])) w1 from ⟨rfl, o', b', h1.less, (Kp.of_nil ((Upd.refl [] w).alloc _)).trans h2.drop, h3⟩)
  clear h1 h2 h3 hbn hbp
  go_wp2_with fail
  go_end0
  first | (rw [HS.out]; exact HF.out) | exact HF.out

set_option maxRecDepth 20000 in
set_option maxHeartbeats 1000000 in
theorem code_reads : Reads 94 .num := by
  intro B f p q tp pre post l b w h hB hpf hq hp
  subst hq
  obtain ⟨_, _, _, hf, hBf⟩ := fr_mark h
  have HN := Lib.hid (h.upd ((Upd.refl [] w).alloc (.cells #[.int .i64 0] 3)) (by simp))
  have HPb := Lib.hid (hp.alloc (.cells #[.int .i64 0] 3))
  have k0 := hp.cell (o := pre.length) mid_at
  have hplt := hp.lt
  clear h hp
  go_enter Try.func94, Try.ntmps94
  go_wp2_with fail
  refine (num_r' B f w.heap.size 0 3 (.int .i64 0) [] [] l b _ HN.out (by omega) (by omega) rfl (Blk.new w _ _)).mono ?_
  rintro e w1 ⟨rfl, n, l', b', h1, h2, h3, h4⟩
  have c0 := h3.cell (o := 0) rfl
  have hbp := h2.blk HPb.out (by simp; omega)
  have p0 := hbp.cell (o := pre.length) mid_at
  have pz := hbp.frozen pre.length
  have plt := hbp.lt
  have HF : Hid (RdPost .num B f p tp pre post l b w (.returned (.tuple #[])) (w1.setCell ⟨p, pre.length, none⟩ (.int .i64 n))) := by
    refine Lib.hid ?_
    have uS : Upd [p] w1 (w1.setCell ⟨p, pre.length, none⟩ (.int .i64 n)) := (Upd.refl _ _).setCell (by simp) _
    refine ⟨rfl, .num n, [.int .i64 n], l', b', h1.upd uS (fun k hk => ?_), ?_, ?_, Sch.Rep.num_mk _, Sch.Rd.num h4⟩
    · simp at hk; subst hk; exact ⟨hpf, hB⟩
    · have hu : Upd [f, p] w w1 := ((Upd.refl [f, p] w).alloc _).trans h2 (by intro x hx; simp at hx; rcases hx with rfl | rfl; simp; right; exact Nat.le_refl _)
      exact hu.trans uS (by simp)
    · have := hbp.set pre.length (.int .i64 n)
      simpa [Sch.zc] using this
  clear h1 h2 h3 h4 hbp
  go_wp2_with fail
  go_end0
  exact HF.out
end Go.Proofs.Ythecincpejpmpaa
/- codec's form.result, reading. -/
namespace Go.Proofs.Ythecincpejpmpaa
open Go.RowKit Go.Lb Go.Rc

set_option maxRecDepth 20000 in
set_option maxHeartbeats 2000000 in
theorem result_reads : Reads 69 sResult := by
  intro B f p q tp pre post l b w h hB hpf hq hp
  subst hq
  have H0 := Lib.hid (RdSt.start (rest := [.num, .num, .list sAlloc]) h hB hpf hp (fr_mark h).2.2.2.1)
  clear h hp
  go_enter Try.func69, Try.ntmps69
  go_wp2_with fail
  refine (CRd.go code_reads H0.out (by simp only [fsize_append, fsize_nums, fsize, List.nil_append] <;> rfl)).mono ?_
  rintro e w1 ⟨rfl, v1, l1, b1, h⟩
  have H1 := Lib.hid h
  clear h
  go_wp2_with fail
  refine (CRd.go num_reads H1.out (by simp only [fsize_append, fsize_nums, fsize, List.nil_append] <;> rfl)).mono ?_
  rintro e w2 ⟨rfl, v2, l2, b2, h⟩
  have H2 := Lib.hid h
  clear h
  go_wp2_with fail
  refine (CRd.goList listAlloc_reads H2.out (by simp only [fsize_append, fsize_nums, fsize, List.nil_append] <;> rfl)).mono ?_
  rintro e w3 ⟨rfl, v3, l3, b3, h⟩
  have H3 := Lib.hid h
  clear h
  go_wp2_with fail
  go_end0
  exact CRd.fin H3.out (by simp only [List.map_append, nums_fst, List.append_assoc, List.map_cons, List.map_nil, List.nil_append]; rfl)
end Go.Proofs.Ythecincpejpmpaa
/- codec's form.msg, reading. -/
namespace Go.Proofs.Ythecincpejpmpaa
open Go.RowKit Go.Lb Go.Rc

set_option maxRecDepth 20000 in
set_option maxHeartbeats 2000000 in
theorem msg_reads : Reads 46 sMsg := by
  intro B f p q tp pre post l b w h hB hpf hq hp
  subst hq
  have H0 := Lib.hid (RdSt.start (rest := [.num, .num, .num, .num, .num, .num, .num, .flag, .num, .num, .num, .num, .list sEntry, sConf, .raw, sCmd, sResult]) h hB hpf hp (fr_mark h).2.2.2.1)
  clear h hp
  go_enter Try.func46, Try.ntmps46
  go_wp2_with fail
  refine wp_region_lex (fun _ => True) 99 [(0, true), (1, true), (2, true), (3, true), (4, true), (5, true), (6, true), (7, true), (8, true), (9, true), (10, true), (11, true), (12, true), (13, true), (14, true), (15, true), (16, true), (17, true), (18, true), (19, true), (20, true), (21, true), (22, false), (23, false)] (by kernel_rfl) (by kernel_rfl) (by kernel_rfl) (by kernel_rfl) (fun _ _ d _ _ h => by cases d <;> exact h) ?_
  simp only [lexOps, List.map_cons, List.map_nil, List.getD_cons_zero, List.getD_cons_succ]
  iterate 22 (refine lex_read rfl trivial (v := ?_) (fun w' _ => ?_) ?_; rotate_left; (focus (go_simp; try with_reducible rfl)); simp only [Act.put, List.setIfInBounds_toArray, List.set_cons_zero, List.set_cons_succ])
  refine lex_do rfl (fun K hK => ?_)
  go_simp
  refine hK _ _ (fun _ => trivial) ?_
  clear hK K
  refine lex_do rfl (fun K hK => ?_)
  go_simp
  refine (CRd.goNums (rest := [.flag, .num, .num, .num, .num, .list sEntry, sConf, .raw, sCmd, sResult]) (k := 7) H0.out ((Upd.refl _ _).alloc _).drew (Nat.le_refl _) (Blk.drew (Blk.new _ _ [_, _, _, _, _, _, _])) (by simp only [fsize_append, fsize_nums, fsize, List.nil_append] <;> rfl) (by decide)).mono ?_
  rintro e w1 ⟨rfl, ns1, l1, b1, hn, h⟩
  have H1 := Lib.hid h
  have HN1 := Lib.hid hn
  clear hn
  refine hK _ _ (fun _ => trivial) ?_
  clear hK K h
  refine lex_nil ?_
  go_wp2_with fail
  refine (CRd.go flag_reads H1.out (by simp only [fsize_append, fsize_nums, fsize, HN1.out, List.nil_append] <;> rfl)).mono ?_
  rintro e w2 ⟨rfl, v2, l2, b2, h⟩
  have H2 := Lib.hid h
  clear h
  go_wp2_with fail
  refine wp_region_lex (fun _ => True) 99 [(0, true), (1, true), (2, true), (3, true), (4, true), (5, true), (6, true), (7, true), (8, true), (9, true), (10, true), (11, true), (12, true), (13, false), (14, false)] (by kernel_rfl) (by kernel_rfl) (by kernel_rfl) (by kernel_rfl) (fun _ _ d _ _ h => by cases d <;> exact h) ?_
  simp only [lexOps, List.map_cons, List.map_nil, List.getD_cons_zero, List.getD_cons_succ]
  iterate 13 (refine lex_read rfl trivial (v := ?_) (fun w' _ => ?_) ?_; rotate_left; (focus (go_simp; try with_reducible rfl)); simp only [Act.put, List.setIfInBounds_toArray, List.set_cons_zero, List.set_cons_succ])
  refine lex_do rfl (fun K hK => ?_)
  go_simp
  refine hK _ _ (fun _ => trivial) ?_
  clear hK K
  refine lex_do rfl (fun K hK => ?_)
  go_simp
  refine (CRd.goNums (rest := [.list sEntry, sConf, .raw, sCmd, sResult]) (k := 4) H2.out ((Upd.refl _ _).alloc _).drew (Nat.le_refl _) (Blk.drew (Blk.new _ _ [_, _, _, _])) (by simp only [fsize_append, fsize_nums, fsize, HN1.out, List.nil_append] <;> rfl) (by decide)).mono ?_
  rintro e w3 ⟨rfl, ns3, l3, b3, hn, h⟩
  have H3 := Lib.hid h
  have HN3 := Lib.hid hn
  clear hn
  refine hK _ _ (fun _ => trivial) ?_
  clear hK K h
  refine lex_nil ?_
  go_wp2_with fail
  refine (CRd.goList listEntry_reads H3.out (by simp only [fsize_append, fsize_nums, fsize, HN1.out, HN3.out, List.nil_append] <;> rfl)).mono ?_
  rintro e w4 ⟨rfl, v4, l4, b4, h⟩
  have H4 := Lib.hid h
  clear h
  go_wp2_with fail
  refine (CRd.go conf_reads H4.out (by simp only [fsize_append, fsize_nums, fsize, HN1.out, HN3.out, List.nil_append] <;> rfl)).mono ?_
  rintro e w5 ⟨rfl, v5, l5, b5, h⟩
  have H5 := Lib.hid h
  clear h
  go_wp2_with fail
  refine (CRd.go raw_reads H5.out (by simp only [fsize_append, fsize_nums, fsize, HN1.out, HN3.out, List.nil_append] <;> rfl)).mono ?_
  rintro e w6 ⟨rfl, v6, l6, b6, h⟩
  have H6 := Lib.hid h
  clear h
  go_wp2_with fail
  refine (CRd.go cmd_reads H6.out (by simp only [fsize_append, fsize_nums, fsize, HN1.out, HN3.out, List.nil_append] <;> rfl)).mono ?_
  rintro e w7 ⟨rfl, v7, l7, b7, h⟩
  have H7 := Lib.hid h
  clear h
  go_wp2_with fail
  refine (CRd.go result_reads H7.out (by simp only [fsize_append, fsize_nums, fsize, HN1.out, HN3.out, List.nil_append] <;> rfl)).mono ?_
  rintro e w8 ⟨rfl, v8, l8, b8, h⟩
  have H8 := Lib.hid h
  clear h
  go_wp2_with fail
  go_end0
  exact CRd.fin H8.out (by simp only [List.map_append, nums_fst, HN1.out, HN3.out, List.append_assoc, List.map_cons, List.map_nil, List.nil_append]; rfl)
end Go.Proofs.Ythecincpejpmpaa
/- codec's get[Msg] and GetMsg. -/
namespace Go.Proofs.Ythecincpejpmpaa
open Go.RowKit Go.Lb Go.Rc

set_option maxRecDepth 20000 in
set_option maxHeartbeats 2000000 in
theorem getMsg_any (a : Option Addr) (c : Nat) (l : List Nat) (w : World) (hb : Bytes w (· < w.heap.size) a l) (hc : l.length ≤ c ∧ c ≤ maxLen) :
    Calls Try.prog 45 #[.slice a l.length c, .func (.func 46) #[] #[]] w (GetIs sMsg l w) := by
  have HB := Lib.hid hb
  have HC := Lib.hid hc
  clear hb hc
  go_enter Try.func45, Try.ntmps45
  go_wp2_with (refine wpList_alloc_blk rfl 58 rfl sMsg.zc (zero58 _) ?_; intro wA hA uA)
  rename_i wB hB uB wC hC uC K1 a1 K2 a2
  have uW : Upd [] w (wA.alloc (.cells #[.slice a l.length c, .bool true, .bool false] 113)) := ((uB.trans uC (by simp)).trans uA (by simp)).alloc _
  have s1 := uB.size
  have s2 := uC.size
  have s3 := uA.size
  have l1 := hB.lt
  have l2 := hC.lt
  have l3 := hA.lt
  have hT := (uA.blk (uC.blk hB (by simp)) (by simp)).alloc (.cells #[.slice a l.length c, .bool true, .bool false] 113)
  have hX := (uA.blk hC (by simp)).alloc (.cells #[.slice a l.length c, .bool true, .bool false] 113)
  have hN := hA.alloc (.cells #[.slice a l.length c, .bool true, .bool false] 113)
  refine (msg_reads w.heap.size wA.heap.size wB.heap.size 0 58 [] [] l false _ ⟨a, c, Blk.new wA 113 [.slice a l.length c, .bool true, .bool false], HB.out.upd uW (by simp), HC.out, by omega⟩ (by omega) (by omega) rfl (by simpa using hX)).mono ?_
  rintro e w1 ⟨rfl, v, cs, l', b', h1, h2, h3, h4, h5⟩
  have hlen : cs.length = 46 := h4.len
  have h3' : Blk w1 wB.heap.size 58 cs := by simpa using h3
  have hT1 : Blk w1 w.heap.size 58 sMsg.zc := h2.blk hT (by simp; omega)
  have hN1 : Blk w1 wC.heap.size 58 sMsg.zc := h2.blk hN (by simp; omega)
  have HU : Hid (Upd [] w w1) := Lib.hid (uW.trans h2 (by simp; omega))
  have HT := Lib.hid hT1
  have HN := Lib.hid hN1
  have HX := Lib.hid h3'
  have HRep := Lib.hid (h4.mono (ok' := fun k => w.heap.size < k ∧ Soft w1 k) (fun b hb _ => ⟨by have := hb.1; simp at this; omega, hb.2⟩))
  have HR := Lib.hid h5
  obtain ⟨m2, _, _, _, _⟩ := fr_mark h1
  obtain ⟨a', c', hI⟩ := h1
  have f0 := hI.blk.cell (o := 0) rfl
  clear h2 h3 h4 h5 h3' hT1 hN1 hT hX hN hI uA uB uC hA hB hC uW
  by_cases hg : b' = false ∧ l' = []
  · obtain ⟨rfl, rfl⟩ := hg
    have f0' : w1.cell? ⟨wA.heap.size, 0, none⟩ = some (.slice a' 0 c') := f0
    clear f0
    go_wp2_with (first | (refine wpList_load_blk rfl 58 (.tmp 6) rfl wB.heap.size rfl HX.out Try.underlying58 rfl (by rw [hlen]; exact Try.size58) ?_) | (refine wpList_store_blk (o := ⟨none, .store 58 (.tmp 4) (.tmp 28), _, _, _, _⟩) rfl 58 (.tmp 4) (.tmp 28) rfl w.heap.size cs rfl rfl HT.out (by rw [hlen]; exact Try.size58) (by rw [hlen]; rfl) HRep.out.one ?_; intro w3 hb3 hu3))
    have hl := run_loadVar_blk (P := Try.prog) hb3 58 _ Try.underlying58 rfl (by rw [hlen]; exact Try.size58)
    refine bodyPost_ret (v := .tuple #[.agg cs.toArray, .bool true]) ?_ rfl ⟨HU.out.trans hu3 (by simp), cs, v, true, rfl, HRep.out.keep (fun k hk hl => ⟨⟨Nat.le_of_lt hk.1, hk.2.keep (hu3.block k hl (by simp; omega))⟩, hu3.block k hl (by simp; omega)⟩) hu3.size, fun _ => (HR.out.good rfl).2, fun h => (by cases h)⟩
    · rw [results_cell_tmp Try.results45]; simp [asAddr, hl]
  · have t1 : b' = true ∨ (b' = false ∧ decide (0 < l'.length) = true) := by
      cases b' with
      | true => exact .inl rfl
      | false =>
        right
        refine ⟨rfl, ?_⟩
        rw [decide_eq_true_eq, List.length_pos_iff]
        exact fun h => hg ⟨rfl, h⟩
    have HG : Hid (∀ v', sMsg.get l ≠ some (v', [])) := Lib.hid (fun v' hv => by
      cases b' with
      | true =>
        rcases HR.out.bad rfl with h | h
        · cases h
        · rw [hv] at h; cases h
      | false =>
        have := (HR.out.good rfl).2
        rw [hv] at this
        simp only [Option.some.injEq, Prod.mk.injEq] at this
        exact hg ⟨rfl, this.2.symm⟩)
    clear hg
    rcases t1 with rfl | ⟨rfl, t1⟩
    all_goals
      go_wp2_with (first | (refine wpList_load_blk rfl 58 (.tmp 7) rfl wC.heap.size rfl HN.out Try.underlying58 rfl (by exact Try.size58) ?_) | (refine wpList_store_blk (o := ⟨none, .store 58 (.tmp 4) (.tmp 27), _, _, _, _⟩) rfl 58 (.tmp 4) (.tmp 27) rfl w.heap.size sMsg.zc rfl rfl HT.out (by exact Try.size58) (by rfl) (Sch.zc_one sMsg) ?_; intro w3 hb3 hu3))
      have hl := run_loadVar_blk (P := Try.prog) hb3 58 _ Try.underlying58 rfl (by exact Try.size58)
      refine bodyPost_ret (v := .tuple #[.agg sMsg.zc.toArray, .bool false]) ?_ rfl ⟨HU.out.trans hu3 (by simp), sMsg.zc, sMsg.zero, false, rfl, Sch.Rep.zero _ _ _, fun h => (by cases h), fun _ => ⟨HG.out, rfl⟩⟩
      rw [results_cell_tmp Try.results45]; simp [asAddr, hl]

set_option maxRecDepth 20000 in
set_option maxHeartbeats 2000000 in
theorem getMsg_gets : Gets 26 sMsg := by
  intro a c l w hb hc
  have HB := Lib.hid hb
  have HC := Lib.hid hc
  clear hb hc
  go_enter Try.func26, Try.ntmps26
  go_wp2_with (refine wpList_alloc_blk rfl 58 rfl sMsg.zc (zero58 _) ?_; intro wA hA uA)
  have s1 := uA.size
  have l1 := hA.lt
  refine (getMsg_any a c l wA ((HB.out.upd uA (by simp)).mono' s1) HC.out).mono ?_
  rintro e w1 ⟨u1, cs, v, r, rfl, hr, h1, h2⟩
  have hlen : cs.length = 46 := hr.len
  have HT := Lib.hid (u1.blk hA (by simp))
  have HU : Hid (Upd [] w w1) := Lib.hid (uA.trans u1 (by simp))
  have HRep := Lib.hid (hr.mono (ok' := fun k => w.heap.size < k ∧ Soft w1 k) (fun b hb _ => ⟨by have := hb.1; omega, hb.2⟩))
  have H1 := Lib.hid h1
  have H2 := Lib.hid h2
  clear hr h1 h2 u1 uA hA
  go_wp2_with (refine wpList_store_blk (o := ⟨none, .store 58 (.tmp 2) (.tmp 6), _, _, _, _⟩) rfl 58 (.tmp 2) (.tmp 6) rfl w.heap.size cs rfl rfl HT.out (by rw [hlen]; exact Try.size58) (by rw [hlen]; rfl) HRep.out.one ?_; intro w3 hb3 hu3)
  have hl := run_loadVar_blk (P := Try.prog) hb3 58 _ Try.underlying58 rfl (by rw [hlen]; exact Try.size58)
  refine bodyPost_ret (v := .tuple #[.agg cs.toArray, .bool r]) ?_ rfl ⟨HU.out.trans hu3 (by simp), cs, v, r, rfl, HRep.out.keep (fun k hk hl => ⟨⟨Nat.le_of_lt hk.1, hk.2.keep (hu3.block k hl (by simp; omega))⟩, hu3.block k hl (by simp; omega)⟩) hu3.size, H1.out, H2.out⟩
  rw [results_cell_tmp Try.results26]; simp [asAddr, hl]
end Go.Proofs.Ythecincpejpmpaa
/- codec's list[Job], reading. -/
namespace Go.Proofs.Ythecincpejpmpaa
open Go.RowKit Go.Lb Go.Rc

set_option maxRecDepth 20000 in
set_option maxHeartbeats 2000000 in
theorem listJob_reads : LReads 70 51 sJob := by
  intro B f p q tp pre post l b w h hB hpf hq hp
  obtain ⟨iT, hiT, hz0, hz1, hz2⟩ := info35
  subst hq
  have c0 := hp.cell (o := pre.length) mid_at
  obtain ⟨_, _, _, hf, hBf⟩ := fr_mark h
  have hplt := hp.lt
  have H := Lib.hid h
  have HP := Lib.hid hp
  clear h hp
  go_enter Try.func70, Try.ntmps70
  go_wp2_with fail
  refine (many_r B f 64 _ l b _ H.out).mono ?_
  rintro e w1 ⟨k, l1, b1, rfl, hk, h1, h2, h3⟩
  obtain ⟨m2, m3, m4, m5, _⟩ := fr_mark h1
  have HB1 := Lib.hid (h2.blk HP.out (by simpa using hpf))
  have HS : Hid (LRdSt sJob 113 cR [f, p] B f 35 7 w w1 k l b 0 l1 b1 (.slice none 0 0) [] []) := Lib.hid (LRdSt.start h1 (h2.mono (by simp)) (by simp; omega) h3)
  clear h1 h2 h3 H
  go_wp2_with fail
  go_loopg [9, 42] k (fun g u t wr => ∃ (i : Nat) (l' : List Nat) (b' : Bool) (v : Value) (xss : List (List Value)) (xs : List Val), t = .int .i64 i ∧ k - i = g ∧ i ≤ k ∧ Blk wr p tp (pre ++ [v] ++ post) ∧ LRdSt sJob 113 cR [f, p] B f 35 7 w wr k l b i l' b' v xss xs)
  case atStart => exact ⟨0, l1, b1, _, [], [], rfl, rfl, by omega, HB1.out, HS.out⟩
  case round =>
    obtain ⟨i, l', b', v, xss, xs, rfl, hg, hi, hbk, hS⟩ := hrel
    have HG := Lib.hid hg
    have HBK := Lib.hid hbk
    have HST := Lib.hid hS
    obtain ⟨n2, n3, n4, n5, _⟩ := fr_mark hS.fr
    have hsz := hS.upd.size
    clear hg hbk hS m2 m3 m4 m5
    by_cases hlt : i < k
    · have t1 : decide (i < k) = true := by simpa using hlt
      cases b' with
      | true =>
        have HE := Lib.hid (HST.out.rd (.inl rfl))
        go_wp2_with fail
        go_end0
        exact ⟨rfl, .list xs, [v], l', true, HST.out.fr, HST.out.upd, HBK.out, HST.out.isRep, HE.out⟩
      | false =>
      go_wp2_with (refine wpList_alloc_blk rfl 35 rfl sJob.zc (zero35 _) ?_; intro wB hb hu)
      have hN := HST.out.upd' hu
      refine (job_reads B f wr.heap.size 0 35 [] [] l' false wB hN.fr (by omega) (by omega) rfl (by simpa [Sch.zc] using hb)).mono ?_
      rintro e w2 ⟨rfl, x, us, l2, b2, h1, h2, h3, h4, h5⟩
      have hus : us.length = 7 := h4.len
      have hb2 : Blk w2 wr.heap.size 35 us := by simpa using h3
      have hU : Upd [f, p] wr w2 := (hu.mono (by simp)).trans h2 (by
        intro y hy
        simp only [List.mem_cons, List.not_mem_nil, or_false] at hy
        rcases hy with rfl | rfl
        · simp
        · exact .inr (Nat.le_refl _))
      have h4' : Sch.Rep w2 (Nw wr.heap.size w2) sJob us x := h4.mono (fun b hb _ => hb.go hu.size rfl)
      have hbp : Blk w2 p tp (pre ++ [v] ++ post) := by
        refine h2.blk (hu.blk HBK.out (by simp)) ?_
        simp; omega
      have hrow2 := (hN.row)
      have hrw : w2.ownsRow w.heap.size 35 7 v i xss.flatten := h2.row (hu.row HST.out.row (by simp)) (by
        intro y hy
        have := own_lo HST.out.row hy
        simp; omega)
      have hsz2 := hU.size
      have hl2 := hb2.lt
      obtain ⟨a, c, rfl⟩ := own_shape' hrw
      have HO := Lib.hid h4.one
      have HR : Hid (∀ w', Upd (Value.slice a i c).ownBlock.toList w2 w' → w'.cell? ⟨p, pre.length, none⟩ = some (.slice a i c) ∧ Blk w' wr.heap.size 35 us) := Lib.hid (by
        intro w' u
        refine ⟨(u.blk hbp ?_).cell mid_at, u.blk hb2 ?_⟩
        · intro hm
          have := own_lo HST.out.row (g := p) (by simpa using hm)
          omega
        · intro hm
          have := own_lo HST.out.row (g := wr.heap.size) (by simpa using hm)
          omega)
      have HST2 := HST
      have HU := Lib.hid hU
      have H4 := Lib.hid h4'
      have H5 := Lib.hid h5
      have H1 := Lib.hid h1
      have HRW := Lib.hid hrw
      have HBP := Lib.hid hbp
      have HUS := Lib.hid hus
      clear h1 h2 h3 h4 h5 hN hb hu hbp hrow2 hrw hU h4' hus
      go_wp2_with fail
      refine wp_region_lex (fun w' => Upd (Value.slice a i c).ownBlock.toList w2 w') 8 [(0, true), (1, true), (2, true), (3, true), (4, true), (5, false), (6, false), (7, false), (8, false)] (by kernel_rfl) (by kernel_rfl) (by kernel_rfl) (by kernel_rfl) (fun _ _ d _ _ h => by cases d <;> exact h) ?_
      simp only [lexOps, List.map_cons, List.map_nil, List.getD_cons_zero, List.getD_cons_succ]
      have hS0 : Upd (Value.slice a i c).ownBlock.toList w2 w2.drew := (Upd.refl _ _).drew
      iterate 4 (refine lex_read rfl (by exact hS0) (v := ?_) (fun w' hw => ?_) ?_; rotate_left; (focus (obtain ⟨k1, k2⟩ := HR.out w' hw; clear k2; go_simp; try with_reducible rfl)); simp only [Act.put, List.setIfInBounds_toArray, List.set_cons_zero, List.set_cons_succ])
      refine lex_read rfl (by exact hS0) (fun w' hw => exec_load (by rfl) (by rfl) (run_loadAt_mid w' wr.heap.size 0 35 us _ (HR.out w' hw).2.range Try.underlying35 rfl (by rw [HUS.out]; exact Try.size35))) ?_
      try simp only [Act.put, List.setIfInBounds_toArray, List.set_cons_zero, List.set_cons_succ]
      refine lex_run rfl (exec_buildSlice (by rfl) (by simp [Act.eval]) (run_buildSlice1 _ 69 35 iT _ us 7 Try.underlying69 hiT hz0 hz1 HUS.out (by decide) (by decide))) (fun _ => hS0.alloc _) ?_
      try simp only [Act.put, List.setIfInBounds_toArray, List.set_cons_zero, List.set_cons_succ]
      have h64 : k ≤ 64 := hk
      have hB2 : Blk (w2.drew.alloc (.cells us.toArray 35)) w2.heap.size 35 us := Blk.new w2.drew _ _
      refine lex_do rfl (fun K hK => ?_)
      refine wp_append_mine (.tmp 53) (.tmp 55) 69 rfl w.heap.size 35 iT _ 7 _ Try.underlying69 hiT hz0 hz1 hz2 rfl (by decide) (.slice a i c) i xss.flatten rfl (World.ownsRow.alloc HRW.out _) ⟨w2.heap.size, 0, none⟩ 1 1 us rfl (by rw [HUS.out]) hB2.news (HO.out) (by unfold maxLen; omega) (by omega) (by have := HST.out.upd.size; simp; omega) ?_
      intro v' w3 hown hg hv
      have uA : Upd [f, p] wr (w2.drew.alloc (.cells us.toArray 35)) := (HU.out.drew).alloc _
      have hF : Fr B w3 f l2 b2 := by
        obtain ⟨a', c', hI⟩ := H1.out
        have hI2 : In 113 cR B (w2.drew.alloc (.cells us.toArray 35)) f l2 b2 a' c' := hI.upd (F := []) ((Upd.refl [] w2).drew.alloc _) (by simp)
        refine ⟨a', c', hI2.upd (F := (Value.slice a i c).ownBlock.toList) ((Upd.refl _ _).grown hg (fun k hk => .inl (by simp [hk]))) (fun k hk => ?_)⟩
        have := own_lo HST.out.row (g := k) (by simpa using hk)
        omega
      have hbp3 : Blk w3 p tp (pre ++ [.slice a i c] ++ post) := by
        have hb4 : Blk (w2.drew.alloc (.cells us.toArray 35)) p tp (pre ++ [.slice a i c] ++ post) := (HBP.out.drew).alloc _
        refine (hg.block p hb4.lt (fun e => ?_)).trans hb4
        have := own_lo HST.out.row (g := p) e.symm
        omega
      have q1 := hbp3.cell (o := pre.length) mid_at
      have q2 := hbp3.frozen pre.length
      have q3 := hbp3.lt
      have uS : Upd [p] w3 (w3.setCell ⟨p, pre.length, none⟩ v') := (Upd.refl _ _).setCell (by simp) _
      have HX : Hid (Blk (w3.setCell ⟨p, pre.length, none⟩ v') p tp (pre ++ [v'] ++ post) ∧ LRdSt sJob 113 cR [f, p] B f 35 7 w (w3.setCell ⟨p, pre.length, none⟩ v') k l b (i + 1) l2 b2 v' (xss ++ [us]) (xs ++ [x])) := by
        refine Lib.hid ⟨?_, LRdSt.next HST.out hlt uA (H4.out.updN ((Upd.refl [] w2).drew.alloc _) (by simp)) HUS.out H5.out hg hown ?_ (uS.mono (by simp)) (hF.upd uS (by simp; omega))⟩
        · have := hbp3.set pre.length v'
          rwa [mid_set] at this
        · rcases hv with h | h
          · exact .inl h
          · exact .inr h
      have hS3 : Upd (Value.slice a i c).ownBlock.toList w2 w3 := (hS0.alloc _).grown hg (fun k hk => .inl (by simp [hk]))
      refine hK _ _ (fun _ => hS3) ?_
      obtain ⟨a', c', rfl⟩ := own_shape' hown
      clear hK K hown hg hv uA hF hbp3 uS hB2 hS0
      try simp only [Act.put, List.setIfInBounds_toArray, List.set_cons_zero, List.set_cons_succ]
      refine lex_do rfl (fun K hK => ?_)
      go_simp
      refine hK _ _ (fun _ => hS3) ?_
      clear hK K hS3
      try simp only [Act.put, List.setIfInBounds_toArray, List.set_cons_zero, List.set_cons_succ]
      refine lex_do rfl (fun K hK => ?_)
      go_simp
      refine hK _ _ (fun h => absurd rfl h) ?_
      clear hK K
      try simp only [Act.put, List.setIfInBounds_toArray, List.set_cons_zero, List.set_cons_succ]
      refine lex_nil ?_
      go_wp2_with fail
      go_roundg (k - (i + 1))
      case measure => have := HG.out; omega
      case rel => exact ⟨i + 1, l2, b2, _, _, _, by go_num, rfl, by omega, HX.out.1, HX.out.2⟩
    · obtain rfl : i = k := by omega
      have HE := Lib.hid (HST.out.rd (.inr rfl))
      go_wp2_with fail
      go_end0
      exact ⟨rfl, .list xs, [v], l', b', HST.out.fr, HST.out.upd, HBK.out, HST.out.isRep, HE.out⟩
end Go.Proofs.Ythecincpejpmpaa
/- codec's list[Node], reading. -/
namespace Go.Proofs.Ythecincpejpmpaa
open Go.RowKit Go.Lb Go.Rc

set_option maxRecDepth 20000 in
set_option maxHeartbeats 2000000 in
theorem listNode_reads : LReads 71 52 sNode := by
  intro B f p q tp pre post l b w h hB hpf hq hp
  obtain ⟨iT, hiT, hz0, hz1, hz2⟩ := info39
  subst hq
  have c0 := hp.cell (o := pre.length) mid_at
  obtain ⟨_, _, _, hf, hBf⟩ := fr_mark h
  have hplt := hp.lt
  have H := Lib.hid h
  have HP := Lib.hid hp
  clear h hp
  go_enter Try.func71, Try.ntmps71
  go_wp2_with fail
  refine (many_r B f 64 _ l b _ H.out).mono ?_
  rintro e w1 ⟨k, l1, b1, rfl, hk, h1, h2, h3⟩
  obtain ⟨m2, m3, m4, m5, _⟩ := fr_mark h1
  have HB1 := Lib.hid (h2.blk HP.out (by simpa using hpf))
  have HS : Hid (LRdSt sNode 113 cR [f, p] B f 39 8 w w1 k l b 0 l1 b1 (.slice none 0 0) [] []) := Lib.hid (LRdSt.start h1 (h2.mono (by simp)) (by simp; omega) h3)
  clear h1 h2 h3 H
  go_wp2_with fail
  go_loopg [9, 42] k (fun g u t wr => ∃ (i : Nat) (l' : List Nat) (b' : Bool) (v : Value) (xss : List (List Value)) (xs : List Val), t = .int .i64 i ∧ k - i = g ∧ i ≤ k ∧ Blk wr p tp (pre ++ [v] ++ post) ∧ LRdSt sNode 113 cR [f, p] B f 39 8 w wr k l b i l' b' v xss xs)
  case atStart => exact ⟨0, l1, b1, _, [], [], rfl, rfl, by omega, HB1.out, HS.out⟩
  case round =>
    obtain ⟨i, l', b', v, xss, xs, rfl, hg, hi, hbk, hS⟩ := hrel
    have HG := Lib.hid hg
    have HBK := Lib.hid hbk
    have HST := Lib.hid hS
    obtain ⟨n2, n3, n4, n5, _⟩ := fr_mark hS.fr
    have hsz := hS.upd.size
    clear hg hbk hS m2 m3 m4 m5
    by_cases hlt : i < k
    · have t1 : decide (i < k) = true := by simpa using hlt
      cases b' with
      | true =>
        have HE := Lib.hid (HST.out.rd (.inl rfl))
        go_wp2_with fail
        go_end0
        exact ⟨rfl, .list xs, [v], l', true, HST.out.fr, HST.out.upd, HBK.out, HST.out.isRep, HE.out⟩
      | false =>
      go_wp2_with (refine wpList_alloc_blk rfl 39 rfl sNode.zc (zero39 _) ?_; intro wB hb hu)
      have hN := HST.out.upd' hu
      refine (node_reads B f wr.heap.size 0 39 [] [] l' false wB hN.fr (by omega) (by omega) rfl (by simpa [Sch.zc] using hb)).mono ?_
      rintro e w2 ⟨rfl, x, us, l2, b2, h1, h2, h3, h4, h5⟩
      have hus : us.length = 8 := h4.len
      have hb2 : Blk w2 wr.heap.size 39 us := by simpa using h3
      have hU : Upd [f, p] wr w2 := (hu.mono (by simp)).trans h2 (by
        intro y hy
        simp only [List.mem_cons, List.not_mem_nil, or_false] at hy
        rcases hy with rfl | rfl
        · simp
        · exact .inr (Nat.le_refl _))
      have h4' : Sch.Rep w2 (Nw wr.heap.size w2) sNode us x := h4.mono (fun b hb _ => hb.go hu.size rfl)
      have hbp : Blk w2 p tp (pre ++ [v] ++ post) := by
        refine h2.blk (hu.blk HBK.out (by simp)) ?_
        simp; omega
      have hrow2 := (hN.row)
      have hrw : w2.ownsRow w.heap.size 39 8 v i xss.flatten := h2.row (hu.row HST.out.row (by simp)) (by
        intro y hy
        have := own_lo HST.out.row hy
        simp; omega)
      have hsz2 := hU.size
      have hl2 := hb2.lt
      obtain ⟨a, c, rfl⟩ := own_shape' hrw
      have HO := Lib.hid h4.one
      have HR : Hid (∀ w', Upd (Value.slice a i c).ownBlock.toList w2 w' → w'.cell? ⟨p, pre.length, none⟩ = some (.slice a i c) ∧ Blk w' wr.heap.size 39 us) := Lib.hid (by
        intro w' u
        refine ⟨(u.blk hbp ?_).cell mid_at, u.blk hb2 ?_⟩
        · intro hm
          have := own_lo HST.out.row (g := p) (by simpa using hm)
          omega
        · intro hm
          have := own_lo HST.out.row (g := wr.heap.size) (by simpa using hm)
          omega)
      have HST2 := HST
      have HU := Lib.hid hU
      have H4 := Lib.hid h4'
      have H5 := Lib.hid h5
      have H1 := Lib.hid h1
      have HRW := Lib.hid hrw
      have HBP := Lib.hid hbp
      have HUS := Lib.hid hus
      clear h1 h2 h3 h4 h5 hN hb hu hbp hrow2 hrw hU h4' hus
      go_wp2_with fail
      refine wp_region_lex (fun w' => Upd (Value.slice a i c).ownBlock.toList w2 w') 8 [(0, true), (1, true), (2, true), (3, true), (4, true), (5, false), (6, false), (7, false), (8, false)] (by kernel_rfl) (by kernel_rfl) (by kernel_rfl) (by kernel_rfl) (fun _ _ d _ _ h => by cases d <;> exact h) ?_
      simp only [lexOps, List.map_cons, List.map_nil, List.getD_cons_zero, List.getD_cons_succ]
      have hS0 : Upd (Value.slice a i c).ownBlock.toList w2 w2.drew := (Upd.refl _ _).drew
      iterate 4 (refine lex_read rfl (by exact hS0) (v := ?_) (fun w' hw => ?_) ?_; rotate_left; (focus (obtain ⟨k1, k2⟩ := HR.out w' hw; clear k2; go_simp; try with_reducible rfl)); simp only [Act.put, List.setIfInBounds_toArray, List.set_cons_zero, List.set_cons_succ])
      refine lex_read rfl (by exact hS0) (fun w' hw => exec_load (by rfl) (by rfl) (run_loadAt_mid w' wr.heap.size 0 39 us _ (HR.out w' hw).2.range Try.underlying39 rfl (by rw [HUS.out]; exact Try.size39))) ?_
      try simp only [Act.put, List.setIfInBounds_toArray, List.set_cons_zero, List.set_cons_succ]
      refine lex_run rfl (exec_buildSlice (by rfl) (by simp [Act.eval]) (run_buildSlice1 _ 70 39 iT _ us 8 Try.underlying70 hiT hz0 hz1 HUS.out (by decide) (by decide))) (fun _ => hS0.alloc _) ?_
      try simp only [Act.put, List.setIfInBounds_toArray, List.set_cons_zero, List.set_cons_succ]
      have h64 : k ≤ 64 := hk
      have hB2 : Blk (w2.drew.alloc (.cells us.toArray 39)) w2.heap.size 39 us := Blk.new w2.drew _ _
      refine lex_do rfl (fun K hK => ?_)
      refine wp_append_mine (.tmp 53) (.tmp 55) 70 rfl w.heap.size 39 iT _ 8 _ Try.underlying70 hiT hz0 hz1 hz2 rfl (by decide) (.slice a i c) i xss.flatten rfl (World.ownsRow.alloc HRW.out _) ⟨w2.heap.size, 0, none⟩ 1 1 us rfl (by rw [HUS.out]) hB2.news (HO.out) (by unfold maxLen; omega) (by omega) (by have := HST.out.upd.size; simp; omega) ?_
      intro v' w3 hown hg hv
      have uA : Upd [f, p] wr (w2.drew.alloc (.cells us.toArray 39)) := (HU.out.drew).alloc _
      have hF : Fr B w3 f l2 b2 := by
        obtain ⟨a', c', hI⟩ := H1.out
        have hI2 : In 113 cR B (w2.drew.alloc (.cells us.toArray 39)) f l2 b2 a' c' := hI.upd (F := []) ((Upd.refl [] w2).drew.alloc _) (by simp)
        refine ⟨a', c', hI2.upd (F := (Value.slice a i c).ownBlock.toList) ((Upd.refl _ _).grown hg (fun k hk => .inl (by simp [hk]))) (fun k hk => ?_)⟩
        have := own_lo HST.out.row (g := k) (by simpa using hk)
        omega
      have hbp3 : Blk w3 p tp (pre ++ [.slice a i c] ++ post) := by
        have hb4 : Blk (w2.drew.alloc (.cells us.toArray 39)) p tp (pre ++ [.slice a i c] ++ post) := (HBP.out.drew).alloc _
        refine (hg.block p hb4.lt (fun e => ?_)).trans hb4
        have := own_lo HST.out.row (g := p) e.symm
        omega
      have q1 := hbp3.cell (o := pre.length) mid_at
      have q2 := hbp3.frozen pre.length
      have q3 := hbp3.lt
      have uS : Upd [p] w3 (w3.setCell ⟨p, pre.length, none⟩ v') := (Upd.refl _ _).setCell (by simp) _
      have HX : Hid (Blk (w3.setCell ⟨p, pre.length, none⟩ v') p tp (pre ++ [v'] ++ post) ∧ LRdSt sNode 113 cR [f, p] B f 39 8 w (w3.setCell ⟨p, pre.length, none⟩ v') k l b (i + 1) l2 b2 v' (xss ++ [us]) (xs ++ [x])) := by
        refine Lib.hid ⟨?_, LRdSt.next HST.out hlt uA (H4.out.updN ((Upd.refl [] w2).drew.alloc _) (by simp)) HUS.out H5.out hg hown ?_ (uS.mono (by simp)) (hF.upd uS (by simp; omega))⟩
        · have := hbp3.set pre.length v'
          rwa [mid_set] at this
        · rcases hv with h | h
          · exact .inl h
          · exact .inr h
      have hS3 : Upd (Value.slice a i c).ownBlock.toList w2 w3 := (hS0.alloc _).grown hg (fun k hk => .inl (by simp [hk]))
      refine hK _ _ (fun _ => hS3) ?_
      obtain ⟨a', c', rfl⟩ := own_shape' hown
      clear hK K hown hg hv uA hF hbp3 uS hB2 hS0
      try simp only [Act.put, List.setIfInBounds_toArray, List.set_cons_zero, List.set_cons_succ]
      refine lex_do rfl (fun K hK => ?_)
      go_simp
      refine hK _ _ (fun _ => hS3) ?_
      clear hK K hS3
      try simp only [Act.put, List.setIfInBounds_toArray, List.set_cons_zero, List.set_cons_succ]
      refine lex_do rfl (fun K hK => ?_)
      go_simp
      refine hK _ _ (fun h => absurd rfl h) ?_
      clear hK K
      try simp only [Act.put, List.setIfInBounds_toArray, List.set_cons_zero, List.set_cons_succ]
      refine lex_nil ?_
      go_wp2_with fail
      go_roundg (k - (i + 1))
      case measure => have := HG.out; omega
      case rel => exact ⟨i + 1, l2, b2, _, _, _, by go_num, rfl, by omega, HX.out.1, HX.out.2⟩
    · obtain rfl : i = k := by omega
      have HE := Lib.hid (HST.out.rd (.inr rfl))
      go_wp2_with fail
      go_end0
      exact ⟨rfl, .list xs, [v], l', b', HST.out.fr, HST.out.upd, HBK.out, HST.out.isRep, HE.out⟩
end Go.Proofs.Ythecincpejpmpaa
/- codec's form.eval, reading. -/
namespace Go.Proofs.Ythecincpejpmpaa
open Go.RowKit Go.Lb Go.Rc

set_option maxRecDepth 20000 in
set_option maxHeartbeats 2000000 in
theorem eval_reads : Reads 75 sEval := by
  intro B f p q tp pre post l b w h hB hpf hq hp
  subst hq
  have H0 := Lib.hid (RdSt.start (rest := [.num, .num, .num, .num]) h hB hpf hp (fr_mark h).2.2.2.1)
  clear h hp
  go_enter Try.func75, Try.ntmps75
  refine wp_region_lex (fun _ => True) 99 [(0, true), (1, true), (2, true), (3, true), (4, true), (5, true), (6, true), (7, true), (8, true), (9, true), (10, true), (11, true), (12, true), (13, false), (14, false)] (by kernel_rfl) (by kernel_rfl) (by kernel_rfl) (by kernel_rfl) (fun _ _ d _ _ h => by cases d <;> exact h) ?_
  simp only [lexOps, List.map_cons, List.map_nil, List.getD_cons_zero, List.getD_cons_succ]
  iterate 13 (refine lex_read rfl trivial (v := ?_) (fun w' _ => ?_) ?_; rotate_left; (focus (go_simp; try with_reducible rfl)); simp only [Act.put, List.setIfInBounds_toArray, List.set_cons_zero, List.set_cons_succ])
  refine lex_do rfl (fun K hK => ?_)
  go_simp
  refine hK _ _ (fun _ => trivial) ?_
  clear hK K
  refine lex_do rfl (fun K hK => ?_)
  go_simp
  refine (CRd.goNums (rest := []) (k := 4) H0.out ((Upd.refl _ _).alloc _).drew (Nat.le_refl _) (Blk.drew (Blk.new _ _ [_, _, _, _])) (by simp only [fsize_append, fsize_nums, fsize, List.nil_append] <;> rfl) (by decide)).mono ?_
  rintro e w1 ⟨rfl, ns1, l1, b1, hn, h⟩
  have H1 := Lib.hid h
  have HN1 := Lib.hid hn
  clear hn
  refine hK _ _ (fun _ => trivial) ?_
  clear hK K h
  refine lex_nil ?_
  go_wp2_with fail
  go_end0
  exact CRd.fin H1.out (by simp only [List.map_append, nums_fst, HN1.out, List.append_assoc, List.map_cons, List.map_nil, List.nil_append]; rfl)
end Go.Proofs.Ythecincpejpmpaa
