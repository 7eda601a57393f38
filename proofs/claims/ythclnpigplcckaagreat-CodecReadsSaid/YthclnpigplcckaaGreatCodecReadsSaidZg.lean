/- A part of the proof of CodecReadsSaid: the texts that it leans on, one behind the other. No condition but those that each theorem states. -/
import Derived.Test.YthclnpigplcckaaGreatCodecReadsSaidZf
set_option linter.unusedVariables false
set_option linter.unusedSimpArgs false
/- The reference's msg, read. -/
namespace Go.Proofs.YthclnpigplcckaaGreat
open Go.RowKit Go.Lb Go.Rc

set_option maxRecDepth 20000 in
set_option maxHeartbeats 4000000 in
theorem imsg_reads : IReads 36 sMsg := fun B f l b w h => by
  obtain ⟨_, _, hf, hBf⟩ := ir_mark h
  have H := Lib.hid h
  clear h
  go_enter Tryz.func36, Tryz.ntmps36
  go_wp2_with (refine wpList_alloc_blk rfl 55 rfl sMsg.zc (zero55 _) ?_; intro w0 hA uA; have HA := Lib.hid hA; have UA := Lib.hid uA; clear hA uA)
  have s0 := HA.out.lt
  have H0 := Lib.hid (IRdG.start ((H.out).upd UA.out (by simp)) (Nat.lt_of_lt_of_le hf UA.out.size) hBf)
  refine (IRd.goNum H0.out).mono ?_
  rintro e w1 ⟨n1, l1, b1, rfl, u, h⟩
  have H1 := Lib.hid h
  clear u h
  go_wp2_with fail
  refine (IRd.goNum H1.out).mono ?_
  rintro e w2 ⟨n2, l2, b2, rfl, u, h⟩
  have H2 := Lib.hid h
  clear u h
  go_wp2_with fail
  refine (IRd.goNum H2.out).mono ?_
  rintro e w3 ⟨n3, l3, b3, rfl, u, h⟩
  have H3 := Lib.hid h
  clear u h
  go_wp2_with fail
  refine (IRd.goNum H3.out).mono ?_
  rintro e w4 ⟨n4, l4, b4, rfl, u, h⟩
  have H4 := Lib.hid h
  clear u h
  go_wp2_with fail
  refine (IRd.goNum H4.out).mono ?_
  rintro e w5 ⟨n5, l5, b5, rfl, u, h⟩
  have H5 := Lib.hid h
  clear u h
  go_wp2_with fail
  refine (IRd.goNum H5.out).mono ?_
  rintro e w6 ⟨n6, l6, b6, rfl, u, h⟩
  have H6 := Lib.hid h
  clear u h
  go_wp2_with fail
  refine (IRd.goNum H6.out).mono ?_
  rintro e w7 ⟨n7, l7, b7, rfl, u, h⟩
  have H7 := Lib.hid h
  clear u h
  go_wp2_with fail
  refine (IRd.goFlag H7.out).mono ?_
  rintro e w8 ⟨n8, l8, b8, rfl, u, h⟩
  have H8 := Lib.hid h
  clear u h
  go_wp2_with fail
  refine (IRd.goNum H8.out).mono ?_
  rintro e w9 ⟨n9, l9, b9, rfl, u, h⟩
  have H9 := Lib.hid h
  clear u h
  go_wp2_with fail
  refine (IRd.goNum H9.out).mono ?_
  rintro e w10 ⟨n10, l10, b10, rfl, u, h⟩
  have H10 := Lib.hid h
  clear u h
  go_wp2_with fail
  refine (IRd.goNum H10.out).mono ?_
  rintro e w11 ⟨n11, l11, b11, rfl, u, h⟩
  have H11 := Lib.hid h
  clear u h
  go_wp2_with fail
  refine (IRd.goNum H11.out).mono ?_
  rintro e w12 ⟨n12, l12, b12, rfl, u, h⟩
  have H12 := Lib.hid h
  clear u h
  obtain ⟨cs12, hcs12⟩ : ∃ z : List Value, z = (((((((((((([] ++ [.int .i64 n1]) ++ [.int .i64 n2]) ++ [.int .i64 n3]) ++ [.int .i64 n4]) ++ [.int .i64 n5]) ++ [.int .i64 n6]) ++ [.int .i64 n7]) ++ [.bool n8]) ++ [.int .i64 n9]) ++ [.int .i64 n10]) ++ [.int .i64 n11]) ++ [.int .i64 n12]) := ⟨_, rfl⟩
  have cs12l : cs12.length = 12 := by rw [hcs12]; simp
  have HBU : Hid (Tryz.prog.built 55 [(0, .int .i64 n1), (1, .int .i64 n2), (2, .int .i64 n3), (3, .int .i64 n4), (4, .int .i64 n5), (5, .int .i64 n6), (6, .int .i64 n7), (7, .bool n8), (8, .int .i64 n9), (9, .int .i64 n10), (10, .int .i64 n11), (11, .int .i64 n12)] = some (cs12 ++ (tup [.list sEntry, sConf, .raw, sCmd, sResult]).zc).toArray) := Lib.hid (by
    have e := built_seq (P := Tryz.prog) (t := 55) [1, 1, 1, 1, 1, 1, 1, 1, 1, 1, 1, 1, 1, 2, 1, 27, 3] sMsg.zc (by kernel_rfl) (by kernel_rfl) (by rfl) [.int .i64 n1, .int .i64 n2, .int .i64 n3, .int .i64 n4, .int .i64 n5, .int .i64 n6, .int .i64 n7, .bool n8, .int .i64 n9, .int .i64 n10, .int .i64 n11, .int .i64 n12] [[.int .i64 n1], [.int .i64 n2], [.int .i64 n3], [.int .i64 n4], [.int .i64 n5], [.int .i64 n6], [.int .i64 n7], [.bool n8], [.int .i64 n9], [.int .i64 n10], [.int .i64 n11], [.int .i64 n12]] rfl (by simp [])
    rw [show List.flatten [[.int .i64 n1], [.int .i64 n2], [.int .i64 n3], [.int .i64 n4], [.int .i64 n5], [.int .i64 n6], [.int .i64 n7], [.bool n8], [.int .i64 n9], [.int .i64 n10], [.int .i64 n11], [.int .i64 n12]] = cs12 from by rw [hcs12]; simp, show (sMsg.zc).drop cs12.length = (tup [.list sEntry, sConf, .raw, sCmd, sResult]).zc from by rw [cs12l]; rfl] at e
    simp only [List.zipIdx_cons, List.zipIdx_nil, List.map_cons, List.map_nil, Nat.reduceAdd] at e
    exact e)
  have HI := H12.out
  rw [← hcs12] at HI
  have H12 := Lib.hid HI
  have HCS := Lib.hid hcs12
  clear HI hcs12
  have HA12 := Lib.hid (H12.out.upd.blk HA.out (by have := hf; simp; omega))
  have hone := Lib.hid H12.out.one
  go_wp2_with (first | (refine wpList_alloc_blk rfl 55 rfl sMsg.zc (zero55 _) ?_; intro wP hP uP; have HP := Lib.hid hP; have UP := Lib.hid uP; clear hP uP) | (refine wpList_store_blk rfl 55 (.tmp 3) (.tmp 30) rfl w12.heap.size (cs12 ++ (tup [.list sEntry, sConf, .raw, sCmd, sResult]).zc) rfl rfl HP.out (by rw [List.length_append, cs12l]; exact Tryz.size55) (by rw [List.length_append, cs12l]; rfl) (by intro u hu; rcases List.mem_append.1 hu with hu | hu; exact hone.out u hu; exact Sch.zc_one _ u hu) ?_; intro wQ hQ uQ; have HQ := Lib.hid hQ; have UQ := Lib.hid uQ; clear hQ uQ) | (refine wpList_buildTo rfl 55 #[(0, .tmp 7), (1, .tmp 9), (2, .tmp 11), (3, .tmp 13), (4, .tmp 15), (5, .tmp 17), (6, .tmp 19), (7, .tmp 21), (8, .tmp 23), (9, .tmp 25), (10, .tmp 27), (11, .tmp 29)] rfl (some 30) rfl (cs12 ++ (tup [.list sEntry, sConf, .raw, sCmd, sResult]).zc).toArray (by have h := HBU.out; simp [Act.eval]; with_reducible exact h) ?_))
  obtain ⟨p, hp⟩ : ∃ p, p = w12.heap.size := ⟨_, rfl⟩
  have hpp : w0.heap.size ≤ p := by rw [hp]; exact H12.out.upd.size
  have hI := ((H12.out.apart UP.out (Nat.le_refl _) HP.out.lt).on UQ.out (by simp))
  have hB := HQ.out
  have hA := (UQ.out.blk (UP.out.blk HA12.out (by simp)) (by have := H12.out.upd.size; simp; omega))
  rw [← hp] at hI hB ⊢
  have H12 := Lib.hid hI
  have HB12 := Lib.hid hB
  have HA12 := Lib.hid hA
  clear hI hB hA hp
  have hpl := (H12.out.low.2.2 p (by simp)).2
  have hfw := H12.out.low.1
  refine (icount_post B f _ _ _ H12.out.fr).mono ?_
  rintro e wjr13 ⟨kr13, ljr13, bjr13, rfl, hkr13, h1, h2, h3⟩
  have HBj : Hid (Blk wjr13 p 55 (cs12 ++ [.slice none 0 0] ++ (tup [sConf, .raw, sCmd, sResult]).zc)) := Lib.hid (by have := IRd.blkf H12.out h2 HB12.out; simpa only [tup, Sch.zc, List.append_assoc, List.cons_append, List.nil_append] using this)
  have hfr13 := Nat.lt_of_lt_of_le hfw H12.out.upd.size
  have hpr13 := (H12.out.low.2.2 p (by simp)).2
  obtain ⟨iTr13, hiTr13, hz0r13, hz1r13, hz2r13⟩ := info47
  have HSr13 : Hid (LRdSt sEntry 81 oW [f, p] B f 47 29 wQ wjr13 kr13 l12 b12 0 ljr13 bjr13 (.slice none 0 0) [] []) := Lib.hid (LRdSt.start h1 (h2.mono (by simp)) (by simp; omega) h3)
  clear h1 h2 h3
  go_wp2_with fail
  go_loopg [5] kr13 (fun g t wr => ∃ (i : Nat) (l' : List Nat) (b' : Bool) (v : Value) (xss : List (List Value)) (xs : List Val), t = .int .i64 i ∧ kr13 - i = g ∧ i ≤ kr13 ∧ Blk wr p 55 (cs12 ++ [v] ++ (tup [sConf, .raw, sCmd, sResult]).zc) ∧ LRdSt sEntry 81 oW [f, p] B f 47 29 wQ wr kr13 l12 b12 i l' b' v xss xs ∧ ∀ y ∈ xs, Sch.wmax sEntry y ≤ Sch.most sEntry)
  case atStart => exact ⟨0, ljr13, bjr13, _, [], [], rfl, rfl, by omega, HBj.out, HSr13.out, by simp⟩
  case round =>
    obtain ⟨i, l', b', v, xss, xs, rfl, hg, hi, hbk, hS, hmx⟩ := hrel
    have hsz := hS.upd.size
    have hrow := hS.row
    obtain ⟨a, c, rfl⟩ := own_shape' hrow
    have c0 : wr.cell? ⟨p, 12, none⟩ = some (.slice a i c) := by have := hbk.cell (o := cs12.length) mid_at; rwa [cs12l] at this
    have HG := Lib.hid hg
    have HBK := Lib.hid hbk
    have HST := Lib.hid hS
    have HMX := Lib.hid hmx
    have hpn : p ∉ (Value.slice a i c).ownBlock.toList := fun hm => by have := own_lo HST.out.row (g := p) (by simpa using hm); omega
    have hfn : f ∉ (Value.slice a i c).ownBlock.toList := fun hm => by have := own_lo HST.out.row (g := f) (by simpa using hm); omega
    have HPN := Lib.hid hpn
    have HFN := Lib.hid hfn
    clear hg hbk hS hmx hrow hpn hfn
    by_cases hlt : i < kr13
    · have t1 : decide (i < kr13) = true := by simpa using hlt
      have HR : Hid (∀ w', Upd (f :: (Value.slice a i c).ownBlock.toList) wr w' → w'.cell? ⟨p, 12, none⟩ = some (.slice a i c)) := Lib.hid (fun w' u => (u.cell (a := ⟨p, 12, none⟩) (by show p < wr.heap.size; omega) (by simp only [List.mem_cons, not_or]; exact ⟨by omega, HPN.out⟩)).trans c0)
      go_wp2_with fail
      refine wp_region_lex (fun w' => Upd (f :: (Value.slice a i c).ownBlock.toList) wr w') 7 [(0, true), (1, true), (2, true), (3, false), (4, false), (5, false), (6, false), (7, false)] (by kernel_rfl) (by kernel_rfl) (by kernel_rfl) (by kernel_rfl) (fun _ _ d _ _ h => by cases d <;> exact h) ?_
      simp only [lexOps, List.map_cons, List.map_nil, List.getD_cons_zero, List.getD_cons_succ]
      have hU0 : Upd [] wr wr.drew := (Upd.refl _ _).drew
      have hS0 : Upd (f :: (Value.slice a i c).ownBlock.toList) wr wr.drew := (Upd.refl _ _).drew
      iterate 3 (refine lex_read rfl (by exact hS0) (v := ?_) (fun w' hw => ?_) ?_; rotate_left; (focus (have k1 := HR.out w' hw; go_simp; try with_reducible rfl)); simp only [Act.put, List.setIfInBounds_toArray, List.set_cons_zero, List.set_cons_succ])
      have HE0 := Lib.hid ((IRdG.start HST.out.fr (by show f < wr.heap.size; omega) hBf).same hU0)
      have hmon : ∀ {w' : World}, Upd [f] wr w' → Upd (f :: (Value.slice a i c).ownBlock.toList) wr w' := fun u => u.mono (fun x hx => .inl (by simp at hx; simp [hx]))
      refine lex_do rfl (fun K hK => ?_)
      go_simp
      refine (ientry_reads B f l' b' _ HE0.out.fr).mono ?_
      rintro e wE1 ⟨x, us, lE1, bE1, rfl, h1, h2, h4, h5, h6⟩
      rw [show argOf sEntry us = .agg us.toArray from rfl]
      have hus : us.length = 29 := h4.len
      have h2 := (hU0.mono (by simp)).trans h2 (fun y hy => .inl hy)
      refine hK _ _ (fun _ => hmon h2) ?_
      clear hK K
      try simp only [Act.put, List.setIfInBounds_toArray, List.set_cons_zero, List.set_cons_succ]
      have hone := h4.one
      have hbp : Blk wE1 p 55 (cs12 ++ [.slice a i c] ++ (tup [sConf, .raw, sCmd, sResult]).zc) := h2.blk HBK.out (by simp; omega)
      have hrw : wE1.ownsRow wQ.heap.size 47 29 (.slice a i c) i xss.flatten := h2.row HST.out.row (by intro y hy; have := own_lo HST.out.row hy; simp; omega)
      have s2 := h2.size
      have HUSx := Lib.hid hus
      have HONEx := Lib.hid hone
      have HBPx := Lib.hid hbp
      have HRWx := Lib.hid hrw
      have H1x := Lib.hid h1
      have H2x := Lib.hid h2
      have H4x := Lib.hid h4
      have H5x := Lib.hid h5
      have H6x := Lib.hid h6
      clear hus hone hbp hrw h1 h2 h4 h5 h6
      refine lex_run rfl (exec_buildSlice (by rfl) (by simp [Act.eval]) (run_buildSlice1 _ 51 47 iTr13 _ us 29 Tryz.underlying51 hiTr13 hz0r13 hz1r13 HUSx.out (by decide) (by decide))) (fun _ => hmon (H2x.out.alloc _)) ?_
      try simp only [Act.put, List.setIfInBounds_toArray, List.set_cons_zero, List.set_cons_succ]
      have h64 : kr13 ≤ 64 := hkr13
      refine lex_do rfl (fun K hK => ?_)
      refine wp_append_mine (.tmp 39) (.tmp 42) 51 rfl wQ.heap.size 47 iTr13 _ 29 _ Tryz.underlying51 hiTr13 hz0r13 hz1r13 hz2r13 rfl (by decide) (.slice a i c) i xss.flatten rfl (World.ownsRow.alloc HRWx.out _) ⟨wE1.heap.size, 0, none⟩ 1 1 us rfl (by rw [HUSx.out]) (Blk.news (Blk.new _ 47 us)) HONEx.out (by unfold maxLen; omega) (by omega) (by simp; omega) ?_
      intro v' w3 hown hgr hv
      have uA : Upd [f, p] wr (wE1.alloc (.cells us.toArray 47)) := (H2x.out.alloc _).mono (by simp)
      have hI : Ir B w3 f lE1 bE1 := (H1x.out.upd (F := []) ((Upd.refl [] wE1).alloc _) (by simp)).upd (F := (Value.slice a i c).ownBlock.toList) ((Upd.refl _ _).grown hgr (fun k hk => .inl (by simp [hk]))) (fun k hk => ⟨fun e => HFN.out (e ▸ hk), by have := own_lo HST.out.row (g := k) (by simpa using hk); omega⟩)
      have hbp3 : Blk w3 p 55 (cs12 ++ [.slice a i c] ++ (tup [sConf, .raw, sCmd, sResult]).zc) := by
        have hb4 : Blk (wE1.alloc (.cells us.toArray 47)) p 55 (cs12 ++ [.slice a i c] ++ (tup [sConf, .raw, sCmd, sResult]).zc) := HBPx.out.alloc _
        refine (hgr.block p hb4.lt (fun e => HPN.out (by simp [← e]))).trans hb4
      have q1 : w3.cell? ⟨p, 12, none⟩ = some (.slice a i c) := by have := hbp3.cell (o := cs12.length) mid_at; rwa [cs12l] at this
      have q2 := hbp3.frozen 12
      have q3 := hbp3.lt
      have uS : Upd [p] w3 (w3.setCell ⟨p, 12, none⟩ v') := (Upd.refl _ _).setCell (by simp) _
      have HX : Hid (Blk (w3.setCell ⟨p, 12, none⟩ v') p 55 (cs12 ++ [v'] ++ (tup [sConf, .raw, sCmd, sResult]).zc) ∧ LRdSt sEntry 81 oW [f, p] B f 47 29 wQ (w3.setCell ⟨p, 12, none⟩ v') kr13 l12 b12 (i + 1) lE1 bE1 v' (xss ++ [us]) (xs ++ [x])) := by
        refine Lib.hid ⟨?_, LRdSt.next HST.out hlt uA (H4x.out.updN ((Upd.refl [] wE1).alloc _) (by simp)) HUSx.out H5x.out hgr hown (by rcases hv with h | h; exact .inl h; exact .inr h) (uS.mono (by simp)) (hI.upd uS (by simp; omega))⟩
        have := hbp3.set cs12.length v'
        rw [mid_set, cs12l] at this
        exact this
      have hS3 : Upd (f :: (Value.slice a i c).ownBlock.toList) wr w3 := (hmon (H2x.out.alloc _)).grown hgr (fun k hk => .inl (by simp [hk]))
      obtain ⟨a3, c3, rfl⟩ := own_shape' hown
      refine hK _ _ (fun _ => hS3) ?_
      clear hK K hown hgr hv uA hI hbp3 uS hmon
      try simp only [Act.put, List.setIfInBounds_toArray, List.set_cons_zero, List.set_cons_succ]
      refine lex_do rfl (fun K hK => ?_)
      go_simp
      refine hK _ _ (fun _ => hS3) ?_
      clear hK K
      try simp only [Act.put, List.setIfInBounds_toArray, List.set_cons_zero, List.set_cons_succ]
      refine lex_do rfl (fun K hK => ?_)
      go_simp
      refine hK _ _ (fun h => absurd rfl h) ?_
      clear hK K hS3
      refine lex_nil ?_
      go_wp2_with fail
      go_roundg (kr13 - (i + 1))
      case measure => have := HG.out; omega
      case rel => exact ⟨i + 1, lE1, bE1, _, _, _, by go_num, rfl, by omega, HX.out.1, HX.out.2, fun y hy => by
        rcases List.mem_append.1 hy with hy | hy
        · exact HMX.out y hy
        · simp at hy; subst hy; exact H6x.out⟩
    · obtain rfl : i = kr13 := by omega
      have t1 : decide (i < i) = false := by simp
      have hmost : Sch.wmax (.list sEntry) (.list xs) ≤ Sch.most (.list sEntry) := by
        have h1 := sum_le_mul (l := xs.map (Sch.wmax sEntry)) (m := Sch.most sEntry) (fun y hy => by
          obtain ⟨z, hz, rfl⟩ := List.mem_map.1 hy
          exact HMX.out z hz)
        rw [List.length_map, HST.out.cnt.2] at h1
        have h2 : i * Sch.most sEntry ≤ 64 * Sch.most sEntry := Nat.mul_le_mul_right _ hkr13
        simp only [Sch.wmax, Sch.most] at h1 h2 ⊢
        omega
      have hN := H12.out.next (F := [p]) (s := .list sEntry) (v := .list xs) (c := [.slice a i c]) HST.out.fr HST.out.upd (by simp) HST.out.isRep (HST.out.rd (.inr rfl)) hmost
      have hA := HST.out.upd.blk HA12.out (by simp; omega)
      have hB := HBK.out
      obtain ⟨csr13, hcc⟩ : ∃ z, z = cs12 ++ [Value.slice a i c] := ⟨_, rfl⟩
      have csr13l : csr13.length = 13 := by rw [hcc, List.length_append, cs12l]; rfl
      rw [← hcc] at hN hB
      obtain ⟨wsr13, hz⟩ : ∃ z, z = wr := ⟨_, rfl⟩
      subst hz
      obtain ⟨lsr13, hz⟩ : ∃ z, z = l' := ⟨_, rfl⟩
      subst hz
      obtain ⟨bsr13, hz⟩ : ∃ z, z = b' := ⟨_, rfl⟩
      subst hz
      have Hr13 := Lib.hid hN
      have HBr13 := Lib.hid hB
      have HAr13 := Lib.hid hA
      clear hN hB hA hcc hmost
      go_wp2_with fail
      refine (IRd.go iconf_reads Hr13.out).mono ?_
      rintro e wr14 ⟨vr14, cr14, lr14, br14, rfl, hl, u, h⟩
      have hlr14 : cr14.length = 2 := hl
      clear hl
      rw [show argOf sConf cr14 = .agg cr14.toArray from rfl]
      have hb := IRd.blkf Hr13.out u HBr13.out
      have ha := u.blk HAr13.out (by have := hf; simp; omega)
      have hone := Lib.hid h.onec
      have HQb := Lib.hid hb
      have HQh := Lib.hid h
      have HQa := Lib.hid ha
      clear hb h ha u
      go_wp2_with (first | (refine wpList_store_cs rfl 36 _ _ rfl p 13 cr14 rfl rfl HQb.out (by rw [List.length_append, csr13l, hlr14]; decide) (by rw [hlr14]; exact Tryz.size36) hone.out ?_; intro wNr14 hN; have q := IRd.storeN (s := sConf) (o := 13) HQh.out HQb.out hlr14 csr13l.symm; rw [← hN] at q; have ha2 : Blk wNr14 w.heap.size 55 sMsg.zc := (by rw [hN]; exact (Upd.setCells (F := [p]) _ _ _ _ _ (Upd.refl _ _) (by simp)).blk HQa.out (by simp; omega)); have Hq := Lib.hid q; have Ha2 := Lib.hid ha2; clear q ha2 hN) | fail)
      have q := Hq.out
      obtain ⟨csr14, hcc⟩ : ∃ z, z = csr13 ++ cr14 := ⟨_, rfl⟩
      rw [← hcc] at q
      have csr14l : csr14.length = 15 := by rw [hcc, List.length_append, csr13l, hlr14]
      have Hr14 := Lib.hid q.1
      have HBr14 := Lib.hid q.2
      have HAr14 := Ha2
      clear q hcc Hq
      refine (IRd.goRaw ibytes_reads Hr14.out).mono ?_
      rintro e wr15 ⟨ar15, mr15, cr15, vr15, lr15, br15, rfl, u, h⟩
      have hb := IRd.blkf Hr14.out u HBr14.out
      have ha := u.blk HAr14.out (by have := hf; simp; omega)
      have k1 : wr15.cell? ⟨p, 15, none⟩ = some (.slice none 0 0) := hb.cell (by rw [List.getElem?_append_right (by omega), show 15 - csr14.length = 0 by omega]; rfl)
      have k2 := hb.frozen 15
      have k3 := hb.lt
      have q := IRd.store1 (s := .raw) (o := 15) h hb rfl csr14l.symm
      have ha2 : Blk (wr15.setCell ⟨p, 15, none⟩ (.slice ar15 mr15 cr15)) w.heap.size 55 sMsg.zc := ha.other (a := ⟨p, 15, none⟩) (by show w.heap.size ≠ p; omega) _
      obtain ⟨csr15, hcc⟩ : ∃ z, z = csr14 ++ [.slice ar15 mr15 cr15] := ⟨_, rfl⟩
      rw [← hcc] at q
      have csr15l : csr15.length = 16 := by rw [hcc, List.length_append, csr14l]; rfl
      have Hr15 := Lib.hid q.1
      have HBr15 := Lib.hid q.2
      have HAr15 := Lib.hid ha2
      clear q ha ha2 hb hcc u h
      go_wp2_with fail
      refine (IRd.go icmd_reads Hr15.out).mono ?_
      rintro e wr16 ⟨vr16, cr16, lr16, br16, rfl, hl, u, h⟩
      have hlr16 : cr16.length = 27 := hl
      clear hl
      rw [show argOf sCmd cr16 = .agg cr16.toArray from rfl]
      have hb := IRd.blkf Hr15.out u HBr15.out
      have ha := u.blk HAr15.out (by have := hf; simp; omega)
      have hone := Lib.hid h.onec
      have HQb := Lib.hid hb
      have HQh := Lib.hid h
      have HQa := Lib.hid ha
      clear hb h ha u
      go_wp2_with (first | (refine wpList_store_cs rfl 38 _ _ rfl p 16 cr16 rfl rfl HQb.out (by rw [List.length_append, csr15l, hlr16]; decide) (by rw [hlr16]; exact Tryz.size38) hone.out ?_; intro wNr16 hN; have q := IRd.storeN (s := sCmd) (o := 16) HQh.out HQb.out hlr16 csr15l.symm; rw [← hN] at q; have ha2 : Blk wNr16 w.heap.size 55 sMsg.zc := (by rw [hN]; exact (Upd.setCells (F := [p]) _ _ _ _ _ (Upd.refl _ _) (by simp)).blk HQa.out (by simp; omega)); have Hq := Lib.hid q; have Ha2 := Lib.hid ha2; clear q ha2 hN) | fail)
      have q := Hq.out
      obtain ⟨csr16, hcc⟩ : ∃ z, z = csr15 ++ cr16 := ⟨_, rfl⟩
      rw [← hcc] at q
      have csr16l : csr16.length = 43 := by rw [hcc, List.length_append, csr15l, hlr16]
      have Hr16 := Lib.hid q.1
      have HBr16 := Lib.hid q.2
      have HAr16 := Ha2
      clear q hcc Hq
      refine (IRd.go iresult_reads Hr16.out).mono ?_
      rintro e wr17 ⟨vr17, cr17, lr17, br17, rfl, hl, u, h⟩
      have hlr17 : cr17.length = 3 := hl
      clear hl
      rw [show argOf sResult cr17 = .agg cr17.toArray from rfl]
      have hb := IRd.blkf Hr16.out u HBr16.out
      have ha := u.blk HAr16.out (by have := hf; simp; omega)
      have hone := Lib.hid h.onec
      have HQb := Lib.hid hb
      have HQh := Lib.hid h
      have HQa := Lib.hid ha
      clear hb h ha u
      go_wp2_with (first | (refine wpList_store_cs rfl 53 _ _ rfl p 43 cr17 rfl rfl HQb.out (by rw [List.length_append, csr16l, hlr17]; decide) (by rw [hlr17]; exact Tryz.size53) hone.out ?_; intro wNr17 hN; have q := IRd.storeN (s := sResult) (o := 43) HQh.out HQb.out hlr17 csr16l.symm; rw [← hN] at q; have ha2 : Blk wNr17 w.heap.size 55 sMsg.zc := (by rw [hN]; exact (Upd.setCells (F := [p]) _ _ _ _ _ (Upd.refl _ _) (by simp)).blk HQa.out (by simp; omega)); have Hq := Lib.hid q; have Ha2 := Lib.hid ha2; clear q ha2 hN) | (refine wpList_load_blk rfl 55 (.tmp 3) rfl p rfl Hq.out.2 Tryz.underlying55 rfl (by simp only [show (tup []).zc = [] from rfl, List.append_nil, List.length_append, csr16l, hlr17]; exact Tryz.size55) ?_) | (refine wpList_store_blk rfl 55 (.tmp 2) (.tmp 57) rfl w.heap.size (csr16 ++ cr17 ++ (tup []).zc) rfl rfl Ha2.out (by simp only [show (tup []).zc = [] from rfl, List.append_nil, List.length_append, csr16l, hlr17]; exact Tryz.size55) (by simp only [show (tup []).zc = [] from rfl, List.append_nil, List.length_append, csr16l, hlr17]; rfl) (by rw [show (tup []).zc = [] from rfl, List.append_nil]; exact Hq.out.1.one) ?_; intro wz hz uz))
      rw [show (tup []).zc = [] from rfl, List.append_nil] at hz
      have hld := run_loadVar_blk (P := Tryz.prog) hz 55 _ Tryz.underlying55 rfl (by simp only [List.length_append, csr16l, hlr17]; exact Tryz.size55)
      refine bodyPost_ret (v := .agg ((csr16 ++ cr17)).toArray) ?_ rfl (IRd.fin' Hq.out.1 UA.out uz s0 (by omega) (by omega) (Nat.le_refl _) (by simp only [List.map_append, List.map_cons, List.map_nil, List.nil_append, List.append_assoc, List.cons_append]; rfl) (by intro h; cases h) hf)
      simp [results, Tryz.results36, asAddr, Act.put, hld]
end Go.Proofs.YthclnpigplcckaaGreat
/- The reference's result, written. -/
namespace Go.Proofs.YthclnpigplcckaaGreat
open Go.RowKit Go.Lb Go.Rc

set_option maxRecDepth 20000 in
set_option maxHeartbeats 4000000 in
theorem oresult_writes : OWrites 109 sResult := fun B X f cs v o b w h hr hl => by
  have hlen : cs.length = 3 := hr.len
  have k0 : (tup [.num, .num, .list sAlloc]).Rep w (· < B) cs v := hr
  obtain ⟨_, _, v0, y1, -, rfl, ⟨n0, -, rfl⟩, k1⟩ := Sch.Rep.tup_cons k0
  obtain ⟨_, _, v1, y2, -, rfl, ⟨n1, -, rfl⟩, k2⟩ := Sch.Rep.tup_cons k1
  obtain ⟨_, _, v2, y3, -, rfl, ⟨-, -, l2, -, rfl, -⟩, k3⟩ := Sch.Rep.tup_cons k2
  obtain ⟨-, rfl⟩ := Sch.Rep.tup_nil k3
  clear k1 k2 k3
  have H0 := Lib.hid (OWg.start (tp := 53) (rest := [(.num, .num n0), (.num, .num n1), (.list sAlloc, .list l2)]) h hr (by have := tup_wmax [(.num, .num n0), (.num, .num n1), (.list sAlloc, .list l2)]; rw [← this]; exact hl) (Blk.new w 53 cs) ((Upd.refl _ _).alloc _))
  have hB := h.base
  clear h hr hl k0
  show Calls Tryz.prog _ #[_, .agg cs.toArray] _ _
  go_enter Tryz.func109, Tryz.ntmps109
  have e0 := WrG.numAt (q := 0) H0.out rfl
  go_wp2_with fail
  refine (OWg.goNum H0.out).mono ?_
  rintro e w1 ⟨rfl, o1, b1, h⟩
  have H1 := Lib.hid h
  clear h e0
  have e1 := WrG.numAt (q := 1) H1.out rfl
  go_wp2_with fail
  refine (OWg.goNum H1.out).mono ?_
  rintro e w2 ⟨rfl, o2, b2, h⟩
  have H2 := Lib.hid h
  clear h e1
  obtain ⟨a2, c2, e2, r2⟩ := WrG.listAt (q := 2) H2.out rfl
  have R2 := Lib.hid r2
  clear r2
  go_wp2_with fail
  refine (OWg.go (c := [.slice a2 l2.length c2]) oallocs_writes H2.out R2.out).mono ?_
  rintro e w3 ⟨rfl, o3, b3, h⟩
  have H3 := Lib.hid h
  clear h e2
  go_wp2_with fail
  go_end0
  exact OWg.fin H3.out ((Upd.refl _ _).alloc _) rfl rfl
end Go.Proofs.YthclnpigplcckaaGreat
/- The reference's msg, written. -/
namespace Go.Proofs.YthclnpigplcckaaGreat
open Go.RowKit Go.Lb Go.Rc

set_option maxRecDepth 20000 in
set_option maxHeartbeats 4000000 in
theorem omsg_writes : OWrites 75 sMsg := fun B X f cs v o b w h hr hl => by
  have hlen : cs.length = 46 := hr.len
  have k0 : (tup [.num, .num, .num, .num, .num, .num, .num, .flag, .num, .num, .num, .num, .list sEntry, sConf, .raw, sCmd, sResult]).Rep w (· < B) cs v := hr
  obtain ⟨_, _, v0, y1, -, rfl, ⟨n0, -, rfl⟩, k1⟩ := Sch.Rep.tup_cons k0
  obtain ⟨_, _, v1, y2, -, rfl, ⟨n1, -, rfl⟩, k2⟩ := Sch.Rep.tup_cons k1
  obtain ⟨_, _, v2, y3, -, rfl, ⟨n2, -, rfl⟩, k3⟩ := Sch.Rep.tup_cons k2
  obtain ⟨_, _, v3, y4, -, rfl, ⟨n3, -, rfl⟩, k4⟩ := Sch.Rep.tup_cons k3
  obtain ⟨_, _, v4, y5, -, rfl, ⟨n4, -, rfl⟩, k5⟩ := Sch.Rep.tup_cons k4
  obtain ⟨_, _, v5, y6, -, rfl, ⟨n5, -, rfl⟩, k6⟩ := Sch.Rep.tup_cons k5
  obtain ⟨_, _, v6, y7, -, rfl, ⟨n6, -, rfl⟩, k7⟩ := Sch.Rep.tup_cons k6
  obtain ⟨_, _, v7, y8, -, rfl, ⟨t7, -, rfl⟩, k8⟩ := Sch.Rep.tup_cons k7
  obtain ⟨_, _, v8, y9, -, rfl, ⟨n8, -, rfl⟩, k9⟩ := Sch.Rep.tup_cons k8
  obtain ⟨_, _, v9, y10, -, rfl, ⟨n9, -, rfl⟩, k10⟩ := Sch.Rep.tup_cons k9
  obtain ⟨_, _, v10, y11, -, rfl, ⟨n10, -, rfl⟩, k11⟩ := Sch.Rep.tup_cons k10
  obtain ⟨_, _, v11, y12, -, rfl, ⟨n11, -, rfl⟩, k12⟩ := Sch.Rep.tup_cons k11
  obtain ⟨_, _, v12, y13, -, rfl, ⟨-, -, l12, -, rfl, -⟩, k13⟩ := Sch.Rep.tup_cons k12
  obtain ⟨_, _, v13, y14, -, rfl, -, k14⟩ := Sch.Rep.tup_cons k13
  obtain ⟨_, _, v14, y15, -, rfl, ⟨-, -, l14, -, rfl, -⟩, k15⟩ := Sch.Rep.tup_cons k14
  obtain ⟨_, _, v15, y16, -, rfl, -, k16⟩ := Sch.Rep.tup_cons k15
  obtain ⟨_, _, v16, y17, -, rfl, -, k17⟩ := Sch.Rep.tup_cons k16
  obtain ⟨-, rfl⟩ := Sch.Rep.tup_nil k17
  clear k1 k2 k3 k4 k5 k6 k7 k8 k9 k10 k11 k12 k13 k14 k15 k16 k17
  have H0 := Lib.hid (OWg.start (tp := 55) (rest := [(.num, .num n0), (.num, .num n1), (.num, .num n2), (.num, .num n3), (.num, .num n4), (.num, .num n5), (.num, .num n6), (.flag, .flag t7), (.num, .num n8), (.num, .num n9), (.num, .num n10), (.num, .num n11), (.list sEntry, .list l12), (sConf, v13), (.raw, .raw l14), (sCmd, v15), (sResult, v16)]) h hr (by have := tup_wmax [(.num, .num n0), (.num, .num n1), (.num, .num n2), (.num, .num n3), (.num, .num n4), (.num, .num n5), (.num, .num n6), (.flag, .flag t7), (.num, .num n8), (.num, .num n9), (.num, .num n10), (.num, .num n11), (.list sEntry, .list l12), (sConf, v13), (.raw, .raw l14), (sCmd, v15), (sResult, v16)]; rw [← this]; exact hl) (Blk.new w 55 cs) ((Upd.refl _ _).alloc _))
  have hB := h.base
  clear h hr hl k0
  show Calls Tryz.prog _ #[_, .agg cs.toArray] _ _
  go_enter Tryz.func75, Tryz.ntmps75
  have e0_0 := WrG.numsAt (ns := [n0, n1, n2, n3, n4, n5, n6]) (rest := [(.flag, .flag t7), (.num, .num n8), (.num, .num n9), (.num, .num n10), (.num, .num n11), (.list sEntry, .list l12), (sConf, v13), (.raw, .raw l14), (sCmd, v15), (sResult, v16)]) (q := 0) H0.out rfl 0 _ rfl
  have e0_1 := WrG.numsAt (ns := [n0, n1, n2, n3, n4, n5, n6]) (rest := [(.flag, .flag t7), (.num, .num n8), (.num, .num n9), (.num, .num n10), (.num, .num n11), (.list sEntry, .list l12), (sConf, v13), (.raw, .raw l14), (sCmd, v15), (sResult, v16)]) (q := 0) H0.out rfl 1 _ rfl
  have e0_2 := WrG.numsAt (ns := [n0, n1, n2, n3, n4, n5, n6]) (rest := [(.flag, .flag t7), (.num, .num n8), (.num, .num n9), (.num, .num n10), (.num, .num n11), (.list sEntry, .list l12), (sConf, v13), (.raw, .raw l14), (sCmd, v15), (sResult, v16)]) (q := 0) H0.out rfl 2 _ rfl
  have e0_3 := WrG.numsAt (ns := [n0, n1, n2, n3, n4, n5, n6]) (rest := [(.flag, .flag t7), (.num, .num n8), (.num, .num n9), (.num, .num n10), (.num, .num n11), (.list sEntry, .list l12), (sConf, v13), (.raw, .raw l14), (sCmd, v15), (sResult, v16)]) (q := 0) H0.out rfl 3 _ rfl
  have e0_4 := WrG.numsAt (ns := [n0, n1, n2, n3, n4, n5, n6]) (rest := [(.flag, .flag t7), (.num, .num n8), (.num, .num n9), (.num, .num n10), (.num, .num n11), (.list sEntry, .list l12), (sConf, v13), (.raw, .raw l14), (sCmd, v15), (sResult, v16)]) (q := 0) H0.out rfl 4 _ rfl
  have e0_5 := WrG.numsAt (ns := [n0, n1, n2, n3, n4, n5, n6]) (rest := [(.flag, .flag t7), (.num, .num n8), (.num, .num n9), (.num, .num n10), (.num, .num n11), (.list sEntry, .list l12), (sConf, v13), (.raw, .raw l14), (sCmd, v15), (sResult, v16)]) (q := 0) H0.out rfl 5 _ rfl
  have e0_6 := WrG.numsAt (ns := [n0, n1, n2, n3, n4, n5, n6]) (rest := [(.flag, .flag t7), (.num, .num n8), (.num, .num n9), (.num, .num n10), (.num, .num n11), (.list sEntry, .list l12), (sConf, v13), (.raw, .raw l14), (sCmd, v15), (sResult, v16)]) (q := 0) H0.out rfl 6 _ rfl
  simp only [Nat.reduceAdd] at e0_0 e0_1 e0_2 e0_3 e0_4 e0_5 e0_6
  go_wp2_with fail
  refine (OWg.goNums (ns := [n0, n1, n2, n3, n4, n5, n6]) (rest := [(.flag, .flag t7), (.num, .num n8), (.num, .num n9), (.num, .num n10), (.num, .num n11), (.list sEntry, .list l12), (sConf, v13), (.raw, .raw l14), (sCmd, v15), (sResult, v16)]) (k := 7) H0.out rfl ((Upd.refl _ _).alloc _) (by simp) (Blk.new2 w (.cells cs.toArray 55) 3 [_, _, _, _, _, _, _]) rfl).mono ?_
  rintro e w1 ⟨rfl, o1, b1, h⟩
  have H1 := Lib.hid h
  clear h e0_0 e0_1 e0_2 e0_3 e0_4 e0_5 e0_6
  have e1 := WrG.flagAt (q := 7) H1.out rfl
  go_wp2_with fail
  refine (OWg.goFlag H1.out).mono ?_
  rintro e w2 ⟨rfl, o2, b2, h⟩
  have H2 := Lib.hid h
  clear h e1
  have e2_0 := WrG.numsAt (ns := [n8, n9, n10, n11]) (rest := [(.list sEntry, .list l12), (sConf, v13), (.raw, .raw l14), (sCmd, v15), (sResult, v16)]) (q := 8) H2.out rfl 0 _ rfl
  have e2_1 := WrG.numsAt (ns := [n8, n9, n10, n11]) (rest := [(.list sEntry, .list l12), (sConf, v13), (.raw, .raw l14), (sCmd, v15), (sResult, v16)]) (q := 8) H2.out rfl 1 _ rfl
  have e2_2 := WrG.numsAt (ns := [n8, n9, n10, n11]) (rest := [(.list sEntry, .list l12), (sConf, v13), (.raw, .raw l14), (sCmd, v15), (sResult, v16)]) (q := 8) H2.out rfl 2 _ rfl
  have e2_3 := WrG.numsAt (ns := [n8, n9, n10, n11]) (rest := [(.list sEntry, .list l12), (sConf, v13), (.raw, .raw l14), (sCmd, v15), (sResult, v16)]) (q := 8) H2.out rfl 3 _ rfl
  simp only [Nat.reduceAdd] at e2_0 e2_1 e2_2 e2_3
  go_wp2_with fail
  refine (OWg.goNums (ns := [n8, n9, n10, n11]) (rest := [(.list sEntry, .list l12), (sConf, v13), (.raw, .raw l14), (sCmd, v15), (sResult, v16)]) (k := 4) H2.out rfl ((Upd.refl _ _).alloc _) (Nat.le_refl _) (Blk.new _ 3 [_, _, _, _]) rfl).mono ?_
  rintro e w3 ⟨rfl, o3, b3, h⟩
  have H3 := Lib.hid h
  clear h e2_0 e2_1 e2_2 e2_3
  obtain ⟨a3, c3, e3, r3⟩ := WrG.listAt (q := 12) H3.out rfl
  have HA3 : Hid (Elems w3 (· < B) sEntry 29 a3 l12) := Lib.hid (list_elems r3).2
  have hwl3 := H3.out.len
  rw [wsum_cons] at hwl3
  have HL3 : Hid (o3.length + (Sch.list sEntry).wmax (.list l12) ≤ 1099511627776) := Lib.hid (by dsimp only at hwl3; omega)
  have hps3 := H3.out.fw.1 w.heap.size (by simp)
  have hll3 : l12.length ≤ 1099511627776 := elems_len HA3.out HL3.out rfl
  clear r3 hwl3
  go_wp2_with fail
  refine (OWg.goCount H3.out).mono ?_
  rintro e w3x ⟨rfl, o3x, b3x, h1, h2, h3⟩
  have p3 := (h2.cell (o := 12) hps3 (.inr (by simp))).trans e3
  have H1x := Lib.hid h1
  have H2x := Lib.hid h2
  have H3x := Lib.hid h3
  clear h1 h2 h3
  go_wp2_with fail
  go_loopg [4] l12.length (fun g t wr => ∃ (i : Nat) (o' : List Nat) (b' : Bool), t = .int .i64 i ∧ l12.length - i = g ∧ i ≤ l12.length ∧ Ow B (w.heap.size :: X) wr f o' b' ∧ Kp B (w.heap.size :: X) w3 wr ∧ LWk sEntry l12.length (l12.take i) o3 b3 o' b')
  case atStart => exact ⟨0, o3x, b3x, rfl, rfl, by omega, H1x.out, H2x.out, H3x.out⟩
  case round =>
    obtain ⟨i, o', b', rfl, hg, hi, hF, hK, hW⟩ := hrel
    have HG := Lib.hid hg
    have HF := Lib.hid hF
    have HK := Lib.hid hK
    have HW := Lib.hid hW
    have r0 := (hK.cell (o := 12) hps3 (.inr (by simp))).trans e3
    clear hg hF hK hW p3
    by_cases hlt : i < l12.length
    · have t1 : decide (i < l12.length) = true := by simpa using hlt
      obtain ⟨x, hx⟩ : ∃ x, l12[i]? = some x := ⟨_, List.getElem?_eq_getElem hlt⟩
      obtain ⟨b0, o0, us, rfl, hb0, hbl, hrg, hrep⟩ := HA3.out i x hx
      have hrep := hrep.keep (ok' := (· < B)) (fun k hk hl => ⟨hk, HK.out.block k hl (.inl hk)⟩) HK.out.size
      have hrg : wr.rangeAt b0 (o0 + i * 29) us := rangeAt_keep hrg (HK.out.block b0 hbl (.inl hb0))
      have hblr : b0 < wr.heap.size := Nat.lt_of_lt_of_le hbl HK.out.size
      have HWL := Lib.hid (HW.out.room hx HL3.out)
      have Hx := Lib.hid hx
      clear hx
      have HRG := Lib.hid hrg
      have HREP := Lib.hid hrep
      have hus : us.length = 29 := hrep.len
      clear hrg hrep
      go_wp2_with (refine wpList_load_mid rfl 47 _ rfl b0 (o0 + i * 29) rfl us _ HRG.out Tryz.underlying47 rfl (by rw [hus]; exact Tryz.size47) ?_)
      refine (oentry_writes B (w.heap.size :: X) f us x o' b' _ HF.out HREP.out HWL.out).mono ?_
      rintro e w2 ⟨rfl, o2, b2, h1, h2, h3⟩
      have H1 := Lib.hid h1
      have H2 := Lib.hid h2
      have H3 := Lib.hid (HW.out.snoc h3)
      clear h1 h2 h3
      go_wp2_with fail
      go_roundg (l12.length - (i + 1))
      case measure => have := HG.out; omega
      case rel => exact ⟨i + 1, o2, b2, by go_num, rfl, by omega, H1.out, HK.out.trans H2.out, by rw [take_snoc Hx.out]; exact H3.out⟩
    · obtain rfl : i = l12.length := by omega
      have t1 : decide (l12.length < l12.length) = false := by simp
      have hfin := HW.out
      rw [List.take_length] at hfin
      have H4 := Lib.hid (WrG.next (m := [(.list sEntry, .list l12)]) H3.out HF.out HK.out (WSeq.one (LWk.fin hfin)))
      clear hfin e3
      clear HF HW HG hlt hi
      obtain ⟨ws4, hz⟩ : ∃ z, z = wr := ⟨_, rfl⟩
      subst hz
      obtain ⟨os4, hz⟩ : ∃ z, z = o' := ⟨_, rfl⟩
      subst hz
      obtain ⟨bs4, hz⟩ : ∃ z, z = b' := ⟨_, rfl⟩
      subst hz
      clear HK
      obtain ⟨c4, r4, g4⟩ := WrG.range (q := 13) H4.out rfl
      have hl4 : c4.length = 2 := r4.len
      have G4 := Lib.hid g4
      have R4 := Lib.hid r4
      clear g4 r4
      go_wp2_with (refine wpList_load_mid rfl 36 _ rfl w.heap.size 13 rfl c4 _ G4.out Tryz.underlying36 rfl (by rw [hl4]; exact Tryz.size36) ?_)
      refine (OWg.go oconf_writes H4.out R4.out).mono ?_
      rintro e w5 ⟨rfl, o5, b5, h⟩
      have H5 := Lib.hid h
      clear h
      obtain ⟨a5, c5, e5, r5⟩ := WrG.rawAt (q := 15) H5.out rfl
      have R5 := Lib.hid r5
      clear r5
      go_wp2_with fail
      refine (OWg.go (c := [.slice a5 l14.length c5]) obytes_writes H5.out R5.out).mono ?_
      rintro e w6 ⟨rfl, o6, b6, h⟩
      have H6 := Lib.hid h
      clear h e5
      obtain ⟨c6, r6, g6⟩ := WrG.range (q := 16) H6.out rfl
      have hl6 : c6.length = 27 := r6.len
      have G6 := Lib.hid g6
      have R6 := Lib.hid r6
      clear g6 r6
      go_wp2_with (refine wpList_load_mid rfl 38 _ rfl w.heap.size 16 rfl c6 _ G6.out Tryz.underlying38 rfl (by rw [hl6]; exact Tryz.size38) ?_)
      refine (OWg.go ocmd_writes H6.out R6.out).mono ?_
      rintro e w7 ⟨rfl, o7, b7, h⟩
      have H7 := Lib.hid h
      clear h
      obtain ⟨c7, r7, g7⟩ := WrG.range (q := 43) H7.out rfl
      have hl7 : c7.length = 3 := r7.len
      have G7 := Lib.hid g7
      have R7 := Lib.hid r7
      clear g7 r7
      go_wp2_with (refine wpList_load_mid rfl 53 _ rfl w.heap.size 43 rfl c7 _ G7.out Tryz.underlying53 rfl (by rw [hl7]; exact Tryz.size53) ?_)
      refine (OWg.go oresult_writes H7.out R7.out).mono ?_
      rintro e w8 ⟨rfl, o8, b8, h⟩
      have H8 := Lib.hid h
      clear h
      go_wp2_with fail
      go_end0
      exact OWg.fin H8.out ((Upd.refl _ _).alloc _) rfl rfl
end Go.Proofs.YthclnpigplcckaaGreat
/- The reference's PutMsg. -/
namespace Go.Proofs.YthclnpigplcckaaGreat
open Go.RowKit Go.Lb Go.Rc

set_option maxRecDepth 20000 in
set_option maxHeartbeats 2000000 in
theorem rputMsg_puts : Puts 37 sMsg := by
  intro cs v w hr hl
  have hlen : cs.length = 46 := hr.len
  have uW : Upd [] w ((w.alloc (.cells cs.toArray 55)).alloc (.cells #[.slice none 0 0, .bool false] 131)) := ((Upd.refl _ _).alloc _).alloc _
  have HR := Lib.hid hr
  have HL := Lib.hid hl
  have HB := Lib.hid ((Blk.new w 55 cs).alloc (.cells #[.slice none 0 0, .bool false] 131))
  have hb0 := Tryz.prog.built 131 []
  have HBU : Hid (Tryz.prog.built 131 [] = some #[.slice none 0 0, .bool false]) := Lib.hid (by kernel_rfl)
  clear hr hl hb0
  go_enter Tryz.func37, Tryz.ntmps37
  go_wp2_with (first | (refine wpList_buildTo (o := ⟨some 5, .build 131 #[], _, _, _, _⟩) rfl 131 #[] rfl (some 5) rfl #[.slice none 0 0, .bool false] (by simpa using HBU.out) ?_) | (refine wpList_load_blk rfl 55 (.tmp 1) rfl w.heap.size rfl HB.out Tryz.underlying55 rfl (by rw [hlen]; exact Tryz.size55) ?_))
  refine (omsg_writes w.heap.size [w.heap.size] (w.heap.size + 1) cs v [] false _ (fresh_out (mk := oW) rfl) (HR.out.upd uW (by simp)) (by simpa using HL.out)).mono ?_
  rintro e w1 ⟨rfl, o, b, h1, h2, h3⟩
  cases b with
  | true =>
    have HF := Lib.hid (putIs_bad h2 uW h3)
    have H1 := Lib.hid h1
    clear h1 h2 h3 uW
    go_wp2_with fail
    refine (told_bad H1.out).mono ?_
    rintro e w2 ⟨rfl, rfl⟩
    go_wp2_with fail
    go_ret2
    exact HF.out
  | false =>
    obtain ⟨a, c, e0, hF⟩ := putIs_good h1 h2 uW h3
    have e1 : w1.cell? ⟨w.heap.size + 1, 0, none⟩ = some (.slice a (sMsg.put v).length c) := e0
    have HF := Lib.hid hF
    have H1 := Lib.hid h1
    have E1 := Lib.hid e1
    clear h1 h2 h3 uW e0 hF e1
    go_wp2_with fail
    refine (told_good H1.out E1.out).mono ?_
    rintro e w2 ⟨rfl, rfl⟩
    go_wp2_with fail
    go_ret2
    exact HF.out
end Go.Proofs.YthclnpigplcckaaGreat
/- The reference's GetMsg. -/
namespace Go.Proofs.YthclnpigplcckaaGreat
open Go.RowKit Go.Lb Go.Rc

set_option maxRecDepth 20000 in
set_option maxHeartbeats 4000000 in
theorem rgetMsg_gets : Gets 13 sMsg := by
  intro a c l w hb hc
  have HB := Lib.hid hb
  have HC := Lib.hid hc
  have HL256 : Hid (∀ x ∈ l, x < 256) := Lib.hid (fun x hx => by
    obtain ⟨i, hi⟩ := List.mem_iff_getElem?.1 hx
    exact (hb i x hi).1)
  have HBU : Hid (Tryz.prog.built 81 [(0, .slice a l.length c)] = some #[.slice a l.length c, .bool false]) := Lib.hid (by
    have e := built_seq (P := Tryz.prog) (t := 81) [1, 1] [.slice none 0 0, .bool false] (by kernel_rfl) (by kernel_rfl) (by rfl) [.slice a l.length c] [[.slice a l.length c]] rfl (by simp)
    simpa using e)
  have HBZ : Hid (Tryz.prog.built 55 [] = some sMsg.zc.toArray) := Lib.hid (by kernel_rfl)
  clear hb hc
  go_enter Tryz.func13, Tryz.ntmps13
  go_wp2_with (first | (refine wpList_alloc_blk rfl 55 rfl sMsg.zc (zero55 _) ?_; intro w0 hA uA; have HA := Lib.hid hA; have UA := Lib.hid uA; clear hA uA) | (refine wpList_buildTo rfl 81 #[(0, .tmp 8)] rfl (some 9) rfl #[.slice a l.length c, .bool false] (by have h := HBU.out; simp [Act.eval]; with_reducible exact h) ?_))
  have s0 := HA.out.lt
  obtain ⟨wI, hwI⟩ : ∃ z, z = w0.alloc (.cells #[.slice a l.length c, .bool false] 81) := ⟨_, rfl⟩
  have hbI : Blk wI w0.heap.size 81 [.slice a l.length c, .bool false] := by rw [hwI]; exact Blk.new _ _ _
  have uI : Upd [] w0 wI := by rw [hwI]; exact (Upd.refl _ _).alloc _
  have hIr : Ir w0.heap.size wI w0.heap.size l false := ⟨a, c, hbI, ((HB.out.upd UA.out (by simp)).keep (ok' := (· < w0.heap.size)) (fun k hk hl => ⟨hl, rfl⟩) (Nat.le_refl _)).upd uI (by simp), HC.out, Nat.le_refl _⟩
  have HIr := Lib.hid hIr
  have UI := Lib.hid uI
  have sI := hbI.lt
  rw [← hwI]
  clear hwI hbI uI hIr
  refine (imsg_reads _ _ l false wI HIr.out).mono ?_
  rintro e w1 ⟨v, cs, l', b', rfl, h1, h2, h3, h4, h5⟩
  rw [show argOf sMsg cs = .agg cs.toArray from rfl]
  have hcl : cs.length = 46 := h3.len
  have HONE := Lib.hid h3.one
  have H1 := Lib.hid h1
  have U1 : Hid (Upd [] w0 w1) := Lib.hid (UI.out.trans h2 (by simp))
  have H3 : Hid (Sch.Rep w1 (fun k => w0.heap.size < k ∧ Soft w1 k) sMsg cs v) := Lib.hid (h3.mono (fun k hk _ => ⟨by have := hk.1; omega, hk.2⟩))
  have H4 := Lib.hid h4
  have H5 := Lib.hid h5
  have HA1 := Lib.hid (U1.out.blk HA.out (by simp))
  have hf1 := (ir_mark h1).2.2.1
  clear h1 h2 h3 h4 h5
  obtain ⟨g, hg⟩ := good_dec sMsg v
  obtain ⟨p, hp⟩ : ∃ p, p = bytesOf g sMsg v := ⟨_, rfl⟩
  have HG := Lib.hid hg
  have HP := Lib.hid hp
  clear hg hp
  go_wp2_with (first | (refine wpList_alloc_blk rfl 55 rfl sMsg.zc (zero55 _) ?_; intro wP hP uP; have HPb := Lib.hid hP; have UP := Lib.hid uP; clear hP uP) | (refine wpList_store_blk rfl 55 (.tmp 5) (.tmp 12) rfl w1.heap.size cs rfl rfl HPb.out (by rw [hcl]; exact Tryz.size55) (by rw [hcl]; rfl) HONE.out ?_; intro w2 hd ud; have HD := Lib.hid hd; have U2 : Hid (Upd [] w1 w2) := Lib.hid (UP.out.trans ud (by simp)); clear hd ud) | (refine wpList_load_blk rfl 55 (.tmp 5) rfl w1.heap.size rfl HD.out Tryz.underlying55 rfl (by rw [hcl]; exact Tryz.size55) ?_))
  refine (puts_u rputMsg_puts (rep_all H3.out U2.out) (Nat.le_trans H5.out (of_decide_eq_true (by kernel_rfl))) HG.out HP.out).mono ?_
  rintro e w3 ⟨a3, c3, rfl, u, b, hc⟩
  have U3 := Lib.hid (U2.out.trans u (by simp))
  have B3 := Lib.hid b
  have HD3 := Lib.hid (u.blk HD.out (by simp))
  clear u b hc
  go_wp2_with fail
  refine (idone_post _ _ l' b' w3 ((H1.out).upd U3.out (by simp))).mono ?_
  rintro e w4 ⟨rfl, u⟩
  have U4 := Lib.hid (U3.out.trans u (by simp))
  have B4 := Lib.hid (bytes_all B3.out u)
  have HD4 := Lib.hid (u.blk HD3.out (by simp))
  have HA4 := Lib.hid (U4.out.blk HA1.out (by simp))
  have U04 : Hid (Upd [] w0 w4) := Lib.hid (U1.out.trans U4.out (by simp))
  clear u
  obtain ⟨r, hr⟩ : ∃ r, (!b' && decide (l' = [])) = r := ⟨_, rfl⟩
  rw [hr]
  cases r with
  | true =>
    have hr2 : b' = false ∧ l' = [] := by simpa using hr
    obtain ⟨rfl, rfl⟩ := hr2
    have hget := (H4.out.good rfl).2
    obtain ⟨e1, e2⟩ := Sch.get_one sMsg l v [] hget HL256.out
    obtain rfl : g = true := HG.out.2 e2
    have HPL : Hid (p.length ≤ 1099511627776) := Lib.hid (by rw [HP.out]; exact bytesOf_len HG.out (Nat.le_trans H5.out (of_decide_eq_true (by kernel_rfl))))
    obtain rfl : p = l := by rw [HP.out, e1]; simp [bytesOf]
    have HGET := Lib.hid hget
    have et : errOf true = 0 := rfl
    rw [et]
    clear hr hget e1 e2 et
    go_wp2_with fail
    refine (same_any _ _ a3 a c3 c p p _ B4.out ((HB.out.upd UA.out (by simp)).upd U04.out (by simp)) HPL.out).mono ?_
    rintro e w5 ⟨rfl, u⟩
    have U5 := Lib.hid (U4.out.trans u (by simp))
    have HD5 := Lib.hid (u.blk HD4.out (by simp))
    have HA5 := Lib.hid (u.blk HA4.out (by simp))
    rw [show (p == p) = true by simp]
    clear u
    go_wp2_with (first | (refine wpList_load_blk rfl 55 (.tmp 5) rfl w1.heap.size rfl HD5.out Tryz.underlying55 rfl (by rw [hcl]; exact Tryz.size55) ?_) | (refine wpList_store_blk rfl 55 (.tmp 2) (.tmp 32) rfl w.heap.size cs rfl rfl HA5.out (by rw [hcl]; exact Tryz.size55) (by rw [hcl]; rfl) HONE.out ?_; intro wz hz uz))
    have hld := run_loadVar_blk (P := Tryz.prog) hz 55 _ Tryz.underlying55 rfl (by rw [hcl]; exact Tryz.size55)
    have UF : Upd [] w wz := ((UA.out.trans U1.out (by simp)).trans U5.out (by simp)).trans uz (by simp)
    refine bodyPost_ret (v := .tuple #[.agg cs.toArray, .bool true]) ?_ rfl ⟨UF, cs, v, true, rfl, (H3.out.keep (ok' := Nw w.heap.size wz) (fun k hk hl => have hk1 := hk.1; have e := (uz.block k (Nat.lt_of_lt_of_le hl U5.out.size) (by simp; omega)).trans (U5.out.block k hl (by simp)); ⟨⟨by omega, hk.2.keep e⟩, e⟩) (Nat.le_trans U5.out.size uz.size)), fun _ => HGET.out, fun h => by cases h⟩
    rw [results_cell_tmp Tryz.results13]; simp [asAddr, Act.put, hld]
  | false =>
    have hno : ∀ v', sMsg.get l ≠ some (v', []) := by
      intro v' hv
      cases b' with
      | true =>
        rcases H4.out.bad rfl with h | h
        · cases h
        · rw [hv] at h; cases h
      | false =>
        have := (H4.out.good rfl).2
        rw [hv] at this
        simp only [Option.some.injEq, Prod.mk.injEq] at this
        rw [← this.2] at hr
        simp at hr
    have HNO := Lib.hid hno
    clear hr hno
    go_wp2_with (first | (refine wpList_store_blk rfl 55 (.tmp 2) (.tmp 31) rfl w.heap.size sMsg.zc rfl rfl HA4.out (by exact Tryz.size55) rfl (Sch.zc_one _) ?_; intro wz hz uz) | (refine wpList_buildTo rfl 55 #[] rfl (some 31) rfl sMsg.zc.toArray (by have h := HBZ.out; simp; with_reducible exact h) ?_))
    have hld := run_loadVar_blk (P := Tryz.prog) hz 55 _ Tryz.underlying55 rfl (by exact Tryz.size55)
    have UF : Upd [] w wz := ((UA.out.trans U1.out (by simp)).trans U4.out (by simp)).trans uz (by simp)
    refine bodyPost_ret (v := .tuple #[.agg sMsg.zc.toArray, .bool false]) ?_ rfl ⟨UF, sMsg.zc, sMsg.zero, false, rfl, Sch.Rep.zero _ _ _, fun h => (by cases h), fun _ => ⟨HNO.out, rfl⟩⟩
    rw [results_cell_tmp Tryz.results13]; simp [asAddr, Act.put, hld]
end Go.Proofs.YthclnpigplcckaaGreat
/- codec's list[Entry], writing. -/
namespace Go.Proofs.YthclnpigplcckaaGreat
open Go.RowKit Go.Lb Go.Rc

set_option maxRecDepth 20000 in
set_option maxHeartbeats 2000000 in
theorem listEntry_writes : LWrites 69 30 sEntry := by
  intro B X f p q tp pre cs post v o b w h hX hq hp hr hl
  obtain ⟨a, c, l, rfl, rfl, hall⟩ := hr
  have HA : Hid (Elems w (· < B) sEntry 29 a l) := Lib.hid hall
  subst hq
  have H := Lib.hid h
  have HL := Lib.hid hl
  have HX := Lib.hid hX
  have HP := Lib.hid hp
  have hl1 : o.length + 6 ≤ 1099511627776 := by simp only [Sch.wmax] at hl; omega
  have c0 := hp.cell (o := pre.length) mid_at
  have hB := h.base
  clear h hX hall hl hp
  go_enter Tryz.func69, Tryz.ntmps69
  go_wp2_with fail
  refine (many_w B X f l.length 64 o b _ H.out hl1 (by decide)).mono ?_
  rintro e w1 ⟨r, o1, b1, rfl, h1, h2, h3⟩
  obtain ⟨m2, m3, m4, m5⟩ := fw_mark h1
  have p0 := (h2.blk HP.out (.inr HX.out)).cell (o := pre.length) mid_at
  have H1 := Lib.hid h1
  have H2 := Lib.hid h2
  have H3 : Hid (LWk sEntry l.length [] o b o1 b1) := Lib.hid (LWk.start h3)
  clear h1 h2 h3
  go_wp2_with fail
  go_loopg [7, 8, 25] l.length (fun g u v t wr => ∃ (i : Nat) (o' : List Nat) (b' : Bool), t = .int .i64 i ∧ l.length - i = g ∧ i ≤ l.length ∧ Fw B X wr f o' b' ∧ Kp B X w wr ∧ LWk sEntry l.length (l.take i) o b o' b')
  case atStart => exact ⟨0, o1, b1, rfl, rfl, by omega, H1.out, H2.out, H3.out⟩
  case round =>
    obtain ⟨i, o', b', rfl, hg, hi, hF, hK, hW⟩ := hrel
    have HG := Lib.hid hg
    have HF := Lib.hid hF
    have HK := Lib.hid hK
    have HW := Lib.hid hW
    obtain ⟨n2, n3, n4, n5⟩ := fw_mark hF
    have r0 := (hK.blk HP.out (.inr HX.out)).cell (o := pre.length) mid_at
    clear hg hF hK hW m2 m3 m4 m5 p0
    by_cases hlt : i < l.length
    · have t1 : decide (i < l.length) = true := by simpa using hlt
      cases b' with
      | true =>
        have HE := Lib.hid HW.out.early
        go_wp2_with fail
        go_end0
        exact ⟨rfl, o', true, HF.out, HK.out, HE.out⟩
      | false =>
      obtain ⟨x, hx⟩ : ∃ x, l[i]? = some x := ⟨_, List.getElem?_eq_getElem hlt⟩
      obtain ⟨b0, o0, us, rfl, hb0, hbl, hrg, hrep⟩ := HA.out i x hx
      have hrep := hrep.keep (ok' := (· < B)) (fun k hk hl => ⟨hk, HK.out.block k hl (.inl hk)⟩) HK.out.size
      have hrg : wr.rangeAt b0 (o0 + i * 29) us := rangeAt_keep hrg (HK.out.block b0 hbl (.inl hb0))
      have hwl := HW.out.room hx HL.out
      have HWL := Lib.hid hwl
      have h64 : l.length ≤ 64 := (HW.out.bad.1 rfl).2.1
      have Hx := Lib.hid hx
      have hus : us.length = 29 := hrep.len
      have HONE : Hid (∀ u ∈ us, u.oneCell' = true) := Lib.hid hrep.one
      clear hx hwl
      have HREP := Lib.hid hrep
      have HRG := Lib.hid hrg
      clear hrep hrg
      go_wp2_with (first | (refine wpList_load_mid rfl 47 (.tmp 36) rfl b0 (o0 + i * 29) rfl us _ HRG.out Tryz.underlying47 rfl (by rw [hus]; exact Tryz.size47) ?_) | (refine wpList_alloc_blk rfl 47 rfl sEntry.zc (zero47 _) ?_; intro wA hbA huA) | (refine wpList_store_blk (o := ⟨none, .store 47 (.tmp 8) (.tmp 37), _, _, _, _⟩) rfl 47 (.tmp 8) (.tmp 37) rfl wr.heap.size us rfl rfl hbA (by rw [hus]; exact Tryz.size47) (by rw [hus]; rfl) HONE.out ?_; intro wB hb huB))
      have hu : Upd [] wr wB := huA.trans huB (by simp)
      clear huA hbA huB
      refine (entry_writes B (wr.heap.size :: X) f wr.heap.size 0 47 [] us [] x o' false wB (HF.out.new hu (Nat.le_refl _) hb.lt) (by simp) rfl (by simpa using hb) (HREP.out.upd hu (by simp)) HWL.out).mono ?_
      rintro e w2 ⟨rfl, o2, b2, h1, h2, h3⟩
      have H1 := Lib.hid h1.less
      have H2 := Lib.hid ((Kp.of_nil hu).trans h2.drop)
      have H3 := Lib.hid (HW.out.snoc h3)
      clear h1 h2 h3
      go_wp2_with fail
      go_roundg (l.length - (i + 1))
      case measure => have := HG.out; omega
      case rel => exact ⟨i + 1, o2, b2, by go_num, rfl, by omega, H1.out, HK.out.trans H2.out, by rw [take_snoc Hx.out]; exact H3.out⟩
    · obtain rfl : i = l.length := by omega
      go_wp2_with fail
      go_end0
      refine ⟨rfl, o', b', HF.out, HK.out, LWk.fin ?_⟩
      have := HW.out
      rwa [List.take_length] at this
end Go.Proofs.YthclnpigplcckaaGreat
/- codec's form.result, writing. -/
namespace Go.Proofs.YthclnpigplcckaaGreat
open Go.RowKit Go.Lb Go.Rc

set_option maxRecDepth 20000 in
set_option maxHeartbeats 2000000 in
theorem result_writes : Writes 71 sResult := by
  intro B X f p q tp pre cs post v o b w h hX hq hp hr hl
  have k0 : (tup [.num, .num, .list sAlloc]).Rep w (· < B) cs v := hr
  obtain ⟨_, _, v0, y0, _, rfl, ⟨n0, _, rfl⟩, k1⟩ := Sch.Rep.tup_cons k0
  obtain ⟨_, _, v1, y1, _, rfl, ⟨n1, _, rfl⟩, k2⟩ := Sch.Rep.tup_cons k1
  obtain ⟨_, _, v2, y2, _, rfl, _, k3⟩ := Sch.Rep.tup_cons k2
  obtain ⟨_, rfl⟩ := Sch.Rep.tup_nil k3
  subst hq
  have H0 := Lib.hid (WrSt.start (rest := ([(.num, .num n0), (.num, .num n1), (.list sAlloc, v2)] : List (Sch × Val))) h hX hp hr (by have := tup_wmax ([(.num, .num n0), (.num, .num n1), (.list sAlloc, v2)] : List (Sch × Val)); rw [← this]; exact hl))
  clear h hX hp hr hl k0 k1 k2 k3
  go_enter Tryz.func71, Tryz.ntmps71
  go_wp2_with fail
  refine (CWr.go code_writes H0.out rfl).mono ?_
  rintro e w1 ⟨rfl, o1, b1, h⟩
  have H1 := Lib.hid h
  clear h
  go_wp2_with fail
  refine (CWr.go num_writes H1.out rfl).mono ?_
  rintro e w2 ⟨rfl, o2, b2, h⟩
  have H2 := Lib.hid h
  clear h
  go_wp2_with fail
  refine (CWr.goList listAlloc_writes H2.out rfl).mono ?_
  rintro e w3 ⟨rfl, o3, b3, h⟩
  have H3 := Lib.hid h
  clear h
  go_wp2_with fail
  go_end0
  exact CWr.fin H3.out rfl rfl
end Go.Proofs.YthclnpigplcckaaGreat
/- codec's form.msg, writing. -/
namespace Go.Proofs.YthclnpigplcckaaGreat
open Go.RowKit Go.Lb Go.Rc

set_option maxRecDepth 20000 in
set_option maxHeartbeats 2000000 in
theorem msg_writes : Writes 35 sMsg := by
  intro B X f p q tp pre cs post v o b w h hX hq hp hr hl
  have k0 : (tup [.num, .num, .num, .num, .num, .num, .num, .flag, .num, .num, .num, .num, .list sEntry, sConf, .raw, sCmd, sResult]).Rep w (· < B) cs v := hr
  obtain ⟨_, _, v0, y0, _, rfl, ⟨n0, _, rfl⟩, k1⟩ := Sch.Rep.tup_cons k0
  obtain ⟨_, _, v1, y1, _, rfl, ⟨n1, _, rfl⟩, k2⟩ := Sch.Rep.tup_cons k1
  obtain ⟨_, _, v2, y2, _, rfl, ⟨n2, _, rfl⟩, k3⟩ := Sch.Rep.tup_cons k2
  obtain ⟨_, _, v3, y3, _, rfl, ⟨n3, _, rfl⟩, k4⟩ := Sch.Rep.tup_cons k3
  obtain ⟨_, _, v4, y4, _, rfl, ⟨n4, _, rfl⟩, k5⟩ := Sch.Rep.tup_cons k4
  obtain ⟨_, _, v5, y5, _, rfl, ⟨n5, _, rfl⟩, k6⟩ := Sch.Rep.tup_cons k5
  obtain ⟨_, _, v6, y6, _, rfl, ⟨n6, _, rfl⟩, k7⟩ := Sch.Rep.tup_cons k6
  obtain ⟨_, _, v7, y7, _, rfl, _, k8⟩ := Sch.Rep.tup_cons k7
  obtain ⟨_, _, v8, y8, _, rfl, ⟨n8, _, rfl⟩, k9⟩ := Sch.Rep.tup_cons k8
  obtain ⟨_, _, v9, y9, _, rfl, ⟨n9, _, rfl⟩, k10⟩ := Sch.Rep.tup_cons k9
  obtain ⟨_, _, v10, y10, _, rfl, ⟨n10, _, rfl⟩, k11⟩ := Sch.Rep.tup_cons k10
  obtain ⟨_, _, v11, y11, _, rfl, ⟨n11, _, rfl⟩, k12⟩ := Sch.Rep.tup_cons k11
  obtain ⟨_, _, v12, y12, _, rfl, _, k13⟩ := Sch.Rep.tup_cons k12
  obtain ⟨_, _, v13, y13, _, rfl, _, k14⟩ := Sch.Rep.tup_cons k13
  obtain ⟨_, _, v14, y14, _, rfl, _, k15⟩ := Sch.Rep.tup_cons k14
  obtain ⟨_, _, v15, y15, _, rfl, _, k16⟩ := Sch.Rep.tup_cons k15
  obtain ⟨_, _, v16, y16, _, rfl, _, k17⟩ := Sch.Rep.tup_cons k16
  obtain ⟨_, rfl⟩ := Sch.Rep.tup_nil k17
  subst hq
  have H0 := Lib.hid (WrSt.start (rest := ([(.num, .num n0), (.num, .num n1), (.num, .num n2), (.num, .num n3), (.num, .num n4), (.num, .num n5), (.num, .num n6), (.flag, v7), (.num, .num n8), (.num, .num n9), (.num, .num n10), (.num, .num n11), (.list sEntry, v12), (sConf, v13), (.raw, v14), (sCmd, v15), (sResult, v16)] : List (Sch × Val))) h hX hp hr (by have := tup_wmax ([(.num, .num n0), (.num, .num n1), (.num, .num n2), (.num, .num n3), (.num, .num n4), (.num, .num n5), (.num, .num n6), (.flag, v7), (.num, .num n8), (.num, .num n9), (.num, .num n10), (.num, .num n11), (.list sEntry, v12), (sConf, v13), (.raw, v14), (sCmd, v15), (sResult, v16)] : List (Sch × Val)); rw [← this]; exact hl))
  clear h hX hp hr hl k0 k1 k2 k3 k4 k5 k6 k7 k8 k9 k10 k11 k12 k13 k14 k15 k16 k17
  go_enter Tryz.func35, Tryz.ntmps35
  go_wp2_with fail
  refine wp_region_lex (fun _ => True) 99 [(0, true), (1, true), (2, true), (3, true), (4, true), (5, true), (6, true), (7, true), (8, true), (9, true), (10, true), (11, true), (12, true), (13, true), (14, true), (15, true), (16, true), (17, true), (18, true), (19, true), (20, true), (21, true), (22, false), (23, false)] (by kernel_rfl) (by kernel_rfl) (by kernel_rfl) (by kernel_rfl) (fun _ _ d _ _ h => by cases d <;> exact h) ?_
  simp only [lexOps, List.map_cons, List.map_nil, List.getD_cons_zero, List.getD_cons_succ]
  iterate 22 (refine lex_read rfl trivial (v := ?_) (fun w' _ => ?_) ?_; rotate_left; (focus (go_simp; try with_reducible rfl)); simp only [Act.put, List.setIfInBounds_toArray, List.set_cons_zero, List.set_cons_succ])
  refine lex_do rfl (fun K hK => ?_)
  go_simp
  refine hK _ _ (fun _ => trivial) ?_
  clear hK K
  refine lex_do rfl (fun K hK => ?_)
  go_simp
  refine (CWr.goNums (ns := [n0, n1, n2, n3, n4, n5, n6]) (rest := [(.flag, v7), (.num, .num n8), (.num, .num n9), (.num, .num n10), (.num, .num n11), (.list sEntry, v12), (sConf, v13), (.raw, v14), (sCmd, v15), (sResult, v16)]) (k := 7) H0.out rfl ((Upd.refl _ _).alloc _).drew (Nat.le_refl _) (Blk.drew (Blk.new _ _ [_, _, _, _, _, _, _])) rfl).mono ?_
  rintro e w1 ⟨rfl, o1, b1, h⟩
  have H1 := Lib.hid h
  refine hK _ _ (fun _ => trivial) ?_
  clear hK K h
  refine lex_nil ?_
  go_wp2_with fail
  refine (CWr.go flag_writes H1.out rfl).mono ?_
  rintro e w2 ⟨rfl, o2, b2, h⟩
  have H2 := Lib.hid h
  clear h
  go_wp2_with fail
  refine wp_region_lex (fun _ => True) 99 [(0, true), (1, true), (2, true), (3, true), (4, true), (5, true), (6, true), (7, true), (8, true), (9, true), (10, true), (11, true), (12, true), (13, false), (14, false)] (by kernel_rfl) (by kernel_rfl) (by kernel_rfl) (by kernel_rfl) (fun _ _ d _ _ h => by cases d <;> exact h) ?_
  simp only [lexOps, List.map_cons, List.map_nil, List.getD_cons_zero, List.getD_cons_succ]
  iterate 13 (refine lex_read rfl trivial (v := ?_) (fun w' _ => ?_) ?_; rotate_left; (focus (go_simp; try with_reducible rfl)); simp only [Act.put, List.setIfInBounds_toArray, List.set_cons_zero, List.set_cons_succ])
  refine lex_do rfl (fun K hK => ?_)
  go_simp
  refine hK _ _ (fun _ => trivial) ?_
  clear hK K
  refine lex_do rfl (fun K hK => ?_)
  go_simp
  refine (CWr.goNums (ns := [n8, n9, n10, n11]) (rest := [(.list sEntry, v12), (sConf, v13), (.raw, v14), (sCmd, v15), (sResult, v16)]) (k := 4) H2.out rfl ((Upd.refl _ _).alloc _).drew (Nat.le_refl _) (Blk.drew (Blk.new _ _ [_, _, _, _])) rfl).mono ?_
  rintro e w3 ⟨rfl, o3, b3, h⟩
  have H3 := Lib.hid h
  refine hK _ _ (fun _ => trivial) ?_
  clear hK K h
  refine lex_nil ?_
  go_wp2_with fail
  refine (CWr.goList listEntry_writes H3.out rfl).mono ?_
  rintro e w4 ⟨rfl, o4, b4, h⟩
  have H4 := Lib.hid h
  clear h
  go_wp2_with fail
  refine (CWr.go conf_writes H4.out rfl).mono ?_
  rintro e w5 ⟨rfl, o5, b5, h⟩
  have H5 := Lib.hid h
  clear h
  go_wp2_with fail
  refine (CWr.go raw_writes H5.out rfl).mono ?_
  rintro e w6 ⟨rfl, o6, b6, h⟩
  have H6 := Lib.hid h
  clear h
  go_wp2_with fail
  refine (CWr.go cmd_writes H6.out rfl).mono ?_
  rintro e w7 ⟨rfl, o7, b7, h⟩
  have H7 := Lib.hid h
  clear h
  go_wp2_with fail
  refine (CWr.go result_writes H7.out rfl).mono ?_
  rintro e w8 ⟨rfl, o8, b8, h⟩
  have H8 := Lib.hid h
  clear h
  go_wp2_with fail
  go_end0
  exact CWr.fin H8.out rfl rfl
end Go.Proofs.YthclnpigplcckaaGreat
/- codec's put[Msg] and PutMsg. -/
namespace Go.Proofs.YthclnpigplcckaaGreat
open Go.RowKit Go.Lb Go.Rc

set_option maxRecDepth 20000 in
set_option maxHeartbeats 2000000 in
theorem putMsg_any (cs : List Value) (v : Val) (w : World) (hr : Sch.Rep w (· < w.heap.size) sMsg cs v) (hl : sMsg.wmax v ≤ 1099511627776) :
    Calls Tryz.prog 38 #[.agg cs.toArray, .func (.func 35) #[] #[]] w (PutIs sMsg v w) := by
  have hlen : cs.length = 46 := hr.len
  have HR := Lib.hid hr
  have HL := Lib.hid hl
  clear hr hl
  go_enter Tryz.func38, Tryz.ntmps38
  go_wp2_with fail
  have uW : Upd [] w ((w.alloc (.cells cs.toArray 55)).alloc (.cells #[.slice none 0 0, .bool false, .bool false] 108)) := ((Upd.refl _ _).alloc _).alloc _
  refine (msg_writes w.heap.size [w.heap.size] (w.heap.size + 1) w.heap.size 0 55 [] cs [] v [] false _ (fresh_out (mk := cW) rfl) (by simp) rfl (by simpa using (Blk.new w 55 cs).alloc _) (HR.out.upd uW (by simp)) (by simpa using HL.out)).mono ?_
  rintro e w1 ⟨rfl, o, b, h1, h2, h3⟩
  obtain ⟨m2, m3, m4, m5⟩ := fw_mark h1
  cases b with
  | true =>
    have HF := Lib.hid (putIs_bad h2 uW h3)
    clear h1 h2 h3 uW
    go_wp2_with fail
    go_ret2
    exact HF.out
  | false =>
    obtain ⟨a, c, e0, hF⟩ := putIs_good h1 h2 uW h3
    have e1 : w1.cell? ⟨w.heap.size + 1, 0, none⟩ = some (.slice a (sMsg.put v).length c) := e0
    have HF := Lib.hid hF
    clear h1 h2 h3 uW e0 hF
    go_wp2_with fail
    go_ret2
    exact HF.out

set_option maxRecDepth 20000 in
set_option maxHeartbeats 2000000 in
theorem putMsg_puts : Puts 14 sMsg := by
  intro cs v w hr hl
  have hlen : cs.length = 46 := hr.len
  have uW : Upd [] w (w.alloc (.cells cs.toArray 55)) := (Upd.refl _ _).alloc _
  have HR := Lib.hid hr
  have HL := Lib.hid hl
  have hb := Blk.new w 55 cs
  have HB := Lib.hid hb
  clear hr hl hb
  go_enter Tryz.func14, Tryz.ntmps14
  go_wp2_with (refine wpList_load_blk rfl 55 (.tmp 1) rfl w.heap.size rfl HB.out Tryz.underlying55 rfl (by rw [hlen]; exact Tryz.size55) ?_)
  refine (putMsg_any cs v _ ((HR.out.upd uW (by simp)).mono (fun b hb hl => hl)) HL.out).mono ?_
  rintro e w1 ⟨u1, ⟨hg, a, c, rfl, hown⟩ | ⟨hg, rfl⟩⟩
  · have HF : Hid (PutIs sMsg v w (.returned (.tuple #[.slice a (sMsg.put v).length c, .int .i64 0])) w1) := Lib.hid ⟨uW.trans u1 (by simp), .inl ⟨hg, a, c, rfl, own_rebase hown (fun k hk => by have := own_lo hown hk; have := uW.size; omega)⟩⟩
    clear u1 hg hown uW
    go_wp2_with fail
    go_ret2
    exact HF.out
  · have HF : Hid (PutIs sMsg v w (.returned (.tuple #[.slice none 0 0, .int .i64 1])) w1) := Lib.hid ⟨uW.trans u1 (by simp), .inr ⟨hg, rfl⟩⟩
    clear u1 hg uW
    go_wp2_with fail
    go_ret2
    exact HF.out
end Go.Proofs.YthclnpigplcckaaGreat
/- codec's form.snapshot, reading. -/
namespace Go.Proofs.YthclnpigplcckaaGreat
open Go.RowKit Go.Lb Go.Rc

set_option maxRecDepth 20000 in
set_option maxHeartbeats 2000000 in
theorem snapshot_reads : Reads 40 sSnapshot := by
  intro B f p q tp pre post l b w h hB hpf hq hp
  subst hq
  have H0 := Lib.hid (RdSt.start (rest := [.num, .num, sConf, .raw]) h hB hpf hp (fr_mark h).2.2.2.1)
  clear h hp
  go_enter Tryz.func40, Tryz.ntmps40
  go_wp2_with fail
  refine wp_region_lex (fun _ => True) 99 [(0, true), (1, true), (2, true), (3, true), (4, true), (5, true), (6, true), (7, false), (8, false)] (by kernel_rfl) (by kernel_rfl) (by kernel_rfl) (by kernel_rfl) (fun _ _ d _ _ h => by cases d <;> exact h) ?_
  simp only [lexOps, List.map_cons, List.map_nil, List.getD_cons_zero, List.getD_cons_succ]
  iterate 7 (refine lex_read rfl trivial (v := ?_) (fun w' _ => ?_) ?_; rotate_left; (focus (go_simp; try with_reducible rfl)); simp only [Act.put, List.setIfInBounds_toArray, List.set_cons_zero, List.set_cons_succ])
  refine lex_do rfl (fun K hK => ?_)
  go_simp
  refine hK _ _ (fun _ => trivial) ?_
  clear hK K
  refine lex_do rfl (fun K hK => ?_)
  go_simp
  refine (CRd.goNums (rest := [sConf, .raw]) (k := 2) H0.out ((Upd.refl _ _).alloc _).drew (Nat.le_refl _) (Blk.drew (Blk.new _ _ [_, _])) (by simp only [fsize_append, fsize_nums, fsize, List.nil_append] <;> rfl) (by decide)).mono ?_
  rintro e w1 ⟨rfl, ns1, l1, b1, hn, h⟩
  have H1 := Lib.hid h
  have HN1 := Lib.hid hn
  clear hn
  refine hK _ _ (fun _ => trivial) ?_
  clear hK K h
  refine lex_nil ?_
  go_wp2_with fail
  refine (CRd.go conf_reads H1.out (by simp only [fsize_append, fsize_nums, fsize, HN1.out, List.nil_append] <;> rfl)).mono ?_
  rintro e w2 ⟨rfl, v2, l2, b2, h⟩
  have H2 := Lib.hid h
  clear h
  go_wp2_with fail
  refine (CRd.go raw_reads H2.out (by simp only [fsize_append, fsize_nums, fsize, HN1.out, List.nil_append] <;> rfl)).mono ?_
  rintro e w3 ⟨rfl, v3, l3, b3, h⟩
  have H3 := Lib.hid h
  clear h
  go_wp2_with fail
  go_end0
  exact CRd.fin H3.out (by simp only [List.map_append, nums_fst, HN1.out, List.append_assoc, List.map_cons, List.map_nil, List.nil_append]; rfl)
end Go.Proofs.YthclnpigplcckaaGreat
/- codec's get[Snapshot] and GetSnapshot. -/
namespace Go.Proofs.YthclnpigplcckaaGreat
open Go.RowKit Go.Lb Go.Rc

set_option maxRecDepth 20000 in
set_option maxHeartbeats 2000000 in
theorem getSnapshot_any (a : Option Addr) (c : Nat) (l : List Nat) (w : World) (hb : Bytes w (· < w.heap.size) a l) (hc : l.length ≤ c ∧ c ≤ maxLen) :
    Calls Tryz.prog 39 #[.slice a l.length c, .func (.func 40) #[] #[]] w (GetIs sSnapshot l w) := by
  have HB := Lib.hid hb
  have HC := Lib.hid hc
  clear hb hc
  go_enter Tryz.func39, Tryz.ntmps39
  go_wp2_with (refine wpList_alloc_blk rfl 60 rfl sSnapshot.zc (zero60 _) ?_; intro wA hA uA)
  rename_i wB hB uB wC hC uC K1 a1 K2 a2
  have uW : Upd [] w (wA.alloc (.cells #[.slice a l.length c, .bool true, .bool false] 108)) := ((uB.trans uC (by simp)).trans uA (by simp)).alloc _
  have s1 := uB.size
  have s2 := uC.size
  have s3 := uA.size
  have l1 := hB.lt
  have l2 := hC.lt
  have l3 := hA.lt
  have hT := (uA.blk (uC.blk hB (by simp)) (by simp)).alloc (.cells #[.slice a l.length c, .bool true, .bool false] 108)
  have hX := (uA.blk hC (by simp)).alloc (.cells #[.slice a l.length c, .bool true, .bool false] 108)
  have hN := hA.alloc (.cells #[.slice a l.length c, .bool true, .bool false] 108)
  refine (snapshot_reads w.heap.size wA.heap.size wB.heap.size 0 60 [] [] l false _ ⟨a, c, Blk.new wA 108 [.slice a l.length c, .bool true, .bool false], HB.out.upd uW (by simp), HC.out, by omega⟩ (by omega) (by omega) rfl (by simpa using hX)).mono ?_
  rintro e w1 ⟨rfl, v, cs, l', b', h1, h2, h3, h4, h5⟩
  have hlen : cs.length = 5 := h4.len
  have h3' : Blk w1 wB.heap.size 60 cs := by simpa using h3
  have hT1 : Blk w1 w.heap.size 60 sSnapshot.zc := h2.blk hT (by simp; omega)
  have hN1 : Blk w1 wC.heap.size 60 sSnapshot.zc := h2.blk hN (by simp; omega)
  have HU : Hid (Upd [] w w1) := Lib.hid (uW.trans h2 (by simp; omega))
  have HT := Lib.hid hT1
  have HN := Lib.hid hN1
  have HX := Lib.hid h3'
  have HRep := Lib.hid (h4.mono (ok' := fun k => w.heap.size < k ∧ Soft w1 k) (fun b hb _ => ⟨by have := hb.1; simp at this; omega, hb.2⟩))
  have HR := Lib.hid h5
  obtain ⟨m2, _, _, _, _⟩ := fr_mark h1
  obtain ⟨a', c', hI⟩ := h1
  have f0 := hI.blk.cell (o := 0) rfl
  clear h2 h3 h4 h5 h3' hT1 hN1 hT hX hN hI uA uB uC hA hB hC uW
  by_cases hg : b' = false ∧ l' = []
  · obtain ⟨rfl, rfl⟩ := hg
    have f0' : w1.cell? ⟨wA.heap.size, 0, none⟩ = some (.slice a' 0 c') := f0
    clear f0
    go_wp2_with (first | (refine wpList_load_blk rfl 60 (.tmp 6) rfl wB.heap.size rfl HX.out Tryz.underlying60 rfl (by rw [hlen]; exact Tryz.size60) ?_) | (refine wpList_store_blk (o := ⟨none, .store 60 (.tmp 4) (.tmp 28), _, _, _, _⟩) rfl 60 (.tmp 4) (.tmp 28) rfl w.heap.size cs rfl rfl HT.out (by rw [hlen]; exact Tryz.size60) (by rw [hlen]; rfl) HRep.out.one ?_; intro w3 hb3 hu3))
    have hl := run_loadVar_blk (P := Tryz.prog) hb3 60 _ Tryz.underlying60 rfl (by rw [hlen]; exact Tryz.size60)
    refine bodyPost_ret (v := .tuple #[.agg cs.toArray, .bool true]) ?_ rfl ⟨HU.out.trans hu3 (by simp), cs, v, true, rfl, HRep.out.keep (fun k hk hl => ⟨⟨Nat.le_of_lt hk.1, hk.2.keep (hu3.block k hl (by simp; omega))⟩, hu3.block k hl (by simp; omega)⟩) hu3.size, fun _ => (HR.out.good rfl).2, fun h => (by cases h)⟩
    · rw [results_cell_tmp Tryz.results39]; simp [asAddr, hl]
  · have t1 : b' = true ∨ (b' = false ∧ decide (0 < l'.length) = true) := by
      cases b' with
      | true => exact .inl rfl
      | false =>
        right
        refine ⟨rfl, ?_⟩
        rw [decide_eq_true_eq, List.length_pos_iff]
        exact fun h => hg ⟨rfl, h⟩
    have HG : Hid (∀ v', sSnapshot.get l ≠ some (v', [])) := Lib.hid (fun v' hv => by
      cases b' with
      | true =>
        rcases HR.out.bad rfl with h | h
        · cases h
        · rw [hv] at h; cases h
      | false =>
        have := (HR.out.good rfl).2
        rw [hv] at this
        simp only [Option.some.injEq, Prod.mk.injEq] at this
        exact hg ⟨rfl, this.2.symm⟩)
    clear hg
    rcases t1 with rfl | ⟨rfl, t1⟩
    all_goals
      go_wp2_with (first | (refine wpList_load_blk rfl 60 (.tmp 7) rfl wC.heap.size rfl HN.out Tryz.underlying60 rfl (by exact Tryz.size60) ?_) | (refine wpList_store_blk (o := ⟨none, .store 60 (.tmp 4) (.tmp 27), _, _, _, _⟩) rfl 60 (.tmp 4) (.tmp 27) rfl w.heap.size sSnapshot.zc rfl rfl HT.out (by exact Tryz.size60) (by rfl) (Sch.zc_one sSnapshot) ?_; intro w3 hb3 hu3))
      have hl := run_loadVar_blk (P := Tryz.prog) hb3 60 _ Tryz.underlying60 rfl (by exact Tryz.size60)
      refine bodyPost_ret (v := .tuple #[.agg sSnapshot.zc.toArray, .bool false]) ?_ rfl ⟨HU.out.trans hu3 (by simp), sSnapshot.zc, sSnapshot.zero, false, rfl, Sch.Rep.zero _ _ _, fun h => (by cases h), fun _ => ⟨HG.out, rfl⟩⟩
      rw [results_cell_tmp Tryz.results39]; simp [asAddr, hl]

set_option maxRecDepth 20000 in
set_option maxHeartbeats 2000000 in
theorem getSnapshot_gets : Gets 15 sSnapshot := by
  intro a c l w hb hc
  have HB := Lib.hid hb
  have HC := Lib.hid hc
  clear hb hc
  go_enter Tryz.func15, Tryz.ntmps15
  go_wp2_with (refine wpList_alloc_blk rfl 60 rfl sSnapshot.zc (zero60 _) ?_; intro wA hA uA)
  have s1 := uA.size
  have l1 := hA.lt
  refine (getSnapshot_any a c l wA ((HB.out.upd uA (by simp)).mono' s1) HC.out).mono ?_
  rintro e w1 ⟨u1, cs, v, r, rfl, hr, h1, h2⟩
  have hlen : cs.length = 5 := hr.len
  have HT := Lib.hid (u1.blk hA (by simp))
  have HU : Hid (Upd [] w w1) := Lib.hid (uA.trans u1 (by simp))
  have HRep := Lib.hid (hr.mono (ok' := fun k => w.heap.size < k ∧ Soft w1 k) (fun b hb _ => ⟨by have := hb.1; omega, hb.2⟩))
  have H1 := Lib.hid h1
  have H2 := Lib.hid h2
  clear hr h1 h2 u1 uA hA
  go_wp2_with (refine wpList_store_blk (o := ⟨none, .store 60 (.tmp 2) (.tmp 6), _, _, _, _⟩) rfl 60 (.tmp 2) (.tmp 6) rfl w.heap.size cs rfl rfl HT.out (by rw [hlen]; exact Tryz.size60) (by rw [hlen]; rfl) HRep.out.one ?_; intro w3 hb3 hu3)
  have hl := run_loadVar_blk (P := Tryz.prog) hb3 60 _ Tryz.underlying60 rfl (by rw [hlen]; exact Tryz.size60)
  refine bodyPost_ret (v := .tuple #[.agg cs.toArray, .bool r]) ?_ rfl ⟨HU.out.trans hu3 (by simp), cs, v, r, rfl, HRep.out.keep (fun k hk hl => ⟨⟨Nat.le_of_lt hk.1, hk.2.keep (hu3.block k hl (by simp; omega))⟩, hu3.block k hl (by simp; omega)⟩) hu3.size, H1.out, H2.out⟩
  rw [results_cell_tmp Tryz.results15]; simp [asAddr, hl]
end Go.Proofs.YthclnpigplcckaaGreat
/- The reference's snapshot, read. -/
namespace Go.Proofs.YthclnpigplcckaaGreat
open Go.RowKit Go.Lb Go.Rc

set_option maxRecDepth 20000 in
set_option maxHeartbeats 4000000 in
theorem isnapshot_reads : IReads 41 sSnapshot := fun B f l b w h => by
  obtain ⟨_, _, hf, hBf⟩ := ir_mark h
  have H := Lib.hid h
  clear h
  go_enter Tryz.func41, Tryz.ntmps41
  go_wp2_with (refine wpList_alloc_blk rfl 60 rfl sSnapshot.zc (zero60 _) ?_; intro w0 hA uA; have HA := Lib.hid hA; have UA := Lib.hid uA; clear hA uA)
  have s0 := HA.out.lt
  have H0 := Lib.hid (IRdG.start ((H.out).upd UA.out (by simp)) (Nat.lt_of_lt_of_le hf UA.out.size) hBf)
  refine (IRd.goNum H0.out).mono ?_
  rintro e w1 ⟨n1, l1, b1, rfl, u, h⟩
  have H1 := Lib.hid h
  clear u h
  go_wp2_with fail
  refine (IRd.goNum H1.out).mono ?_
  rintro e w2 ⟨n2, l2, b2, rfl, u, h⟩
  have H2 := Lib.hid h
  clear u h
  go_wp2_with fail
  refine (IRd.go iconf_reads H2.out).mono ?_
  rintro e w3 ⟨v3, c3, l3, b3, rfl, hl, u, h⟩
  have hl3 : c3.length = 2 := hl
  clear hl
  rw [show argOf sConf c3 = .agg c3.toArray from rfl]
  have H3 := Lib.hid h
  clear u h
  go_wp2_with fail
  refine (IRd.goRaw ibytes_reads H3.out).mono ?_
  rintro e w4 ⟨a4, m4, c4, v4, l4, b4, rfl, u, h⟩
  have H4 := Lib.hid h
  clear u h
  obtain ⟨cs4, hcs4⟩ : ∃ z : List Value, z = (((([] ++ [.int .i64 n1]) ++ [.int .i64 n2]) ++ c3) ++ [.slice a4 m4 c4]) := ⟨_, rfl⟩
  have cs4l : cs4.length = 5 := by rw [hcs4]; simp [hl3]
  have HBU : Hid (Tryz.prog.built 60 [(0, .int .i64 n1), (1, .int .i64 n2), (2, .agg c3.toArray), (3, .slice a4 m4 c4)] = some (cs4 ++ (tup []).zc).toArray) := Lib.hid (by
    have e := built_seq (P := Tryz.prog) (t := 60) [1, 1, 2, 1] sSnapshot.zc (by kernel_rfl) (by kernel_rfl) (by rfl) [.int .i64 n1, .int .i64 n2, .agg c3.toArray, .slice a4 m4 c4] [[.int .i64 n1], [.int .i64 n2], c3, [.slice a4 m4 c4]] rfl (by simp [hl3])
    rw [show List.flatten [[.int .i64 n1], [.int .i64 n2], c3, [.slice a4 m4 c4]] = cs4 from by rw [hcs4]; simp, show (sSnapshot.zc).drop cs4.length = (tup []).zc from by rw [cs4l]; rfl] at e
    simp only [List.zipIdx_cons, List.zipIdx_nil, List.map_cons, List.map_nil, Nat.reduceAdd] at e
    exact e)
  have HI := H4.out
  rw [← hcs4] at HI
  have H4 := Lib.hid HI
  have HCS := Lib.hid hcs4
  clear HI hcs4
  have HA4 := Lib.hid (H4.out.upd.blk HA.out (by have := hf; simp; omega))
  have hone := Lib.hid H4.out.one
  go_wp2_with (first | (refine wpList_store_blk rfl 60 (.tmp 2) (.tmp 11) rfl w.heap.size (cs4 ++ (tup []).zc) rfl rfl HA4.out (by rw [show (tup []).zc = [] from rfl, List.append_nil, cs4l]; exact Tryz.size60) (by rw [show (tup []).zc = [] from rfl, List.append_nil, cs4l]; rfl) (by rw [show (tup []).zc = [] from rfl, List.append_nil]; exact hone.out) ?_; intro wz hz uz) | (refine wpList_buildTo rfl 60 #[(0, .tmp 4), (1, .tmp 6), (2, .tmp 8), (3, .tmp 10)] rfl (some 11) rfl (cs4 ++ (tup []).zc).toArray (by have h := HBU.out; simp [Act.eval]; with_reducible exact h) ?_))
  rw [show (tup []).zc = [] from rfl, List.append_nil] at hz
  have hld := run_loadVar_blk (P := Tryz.prog) hz 60 _ Tryz.underlying60 rfl (by rw [cs4l]; exact Tryz.size60)
  refine bodyPost_ret (v := .agg cs4.toArray) ?_ rfl (IRd.fin' H4.out UA.out uz s0 (by omega) (by omega) (Nat.le_refl _) (by simp only [List.map_append, List.map_cons, List.map_nil, List.nil_append, List.append_assoc, List.cons_append]; rfl) (by intro h; cases h) hf)
  simp [results, Tryz.results41, asAddr, Act.put, hld]
end Go.Proofs.YthclnpigplcckaaGreat
/- The reference's snapshot, written. -/
namespace Go.Proofs.YthclnpigplcckaaGreat
open Go.RowKit Go.Lb Go.Rc

set_option maxRecDepth 20000 in
set_option maxHeartbeats 4000000 in
theorem osnapshot_writes : OWrites 76 sSnapshot := fun B X f cs v o b w h hr hl => by
  have hlen : cs.length = 5 := hr.len
  have k0 : (tup [.num, .num, sConf, .raw]).Rep w (· < B) cs v := hr
  obtain ⟨_, _, v0, y1, -, rfl, ⟨n0, -, rfl⟩, k1⟩ := Sch.Rep.tup_cons k0
  obtain ⟨_, _, v1, y2, -, rfl, ⟨n1, -, rfl⟩, k2⟩ := Sch.Rep.tup_cons k1
  obtain ⟨_, _, v2, y3, -, rfl, -, k3⟩ := Sch.Rep.tup_cons k2
  obtain ⟨_, _, v3, y4, -, rfl, ⟨-, -, l3, -, rfl, -⟩, k4⟩ := Sch.Rep.tup_cons k3
  obtain ⟨-, rfl⟩ := Sch.Rep.tup_nil k4
  clear k1 k2 k3 k4
  have H0 := Lib.hid (OWg.start (tp := 60) (rest := [(.num, .num n0), (.num, .num n1), (sConf, v2), (.raw, .raw l3)]) h hr (by have := tup_wmax [(.num, .num n0), (.num, .num n1), (sConf, v2), (.raw, .raw l3)]; rw [← this]; exact hl) (Blk.new w 60 cs) ((Upd.refl _ _).alloc _))
  have hB := h.base
  clear h hr hl k0
  show Calls Tryz.prog _ #[_, .agg cs.toArray] _ _
  go_enter Tryz.func76, Tryz.ntmps76
  have e0 := WrG.numAt (q := 0) H0.out rfl
  go_wp2_with fail
  refine (OWg.goNum H0.out).mono ?_
  rintro e w1 ⟨rfl, o1, b1, h⟩
  have H1 := Lib.hid h
  clear h e0
  have e1 := WrG.numAt (q := 1) H1.out rfl
  go_wp2_with fail
  refine (OWg.goNum H1.out).mono ?_
  rintro e w2 ⟨rfl, o2, b2, h⟩
  have H2 := Lib.hid h
  clear h e1
  obtain ⟨c2, r2, g2⟩ := WrG.range (q := 2) H2.out rfl
  have hl2 : c2.length = 2 := r2.len
  have G2 := Lib.hid g2
  have R2 := Lib.hid r2
  clear g2 r2
  go_wp2_with (refine wpList_load_mid rfl 36 _ rfl w.heap.size 2 rfl c2 _ G2.out Tryz.underlying36 rfl (by rw [hl2]; exact Tryz.size36) ?_)
  refine (OWg.go oconf_writes H2.out R2.out).mono ?_
  rintro e w3 ⟨rfl, o3, b3, h⟩
  have H3 := Lib.hid h
  clear h
  obtain ⟨a3, c3, e3, r3⟩ := WrG.rawAt (q := 4) H3.out rfl
  have R3 := Lib.hid r3
  clear r3
  go_wp2_with fail
  refine (OWg.go (c := [.slice a3 l3.length c3]) obytes_writes H3.out R3.out).mono ?_
  rintro e w4 ⟨rfl, o4, b4, h⟩
  have H4 := Lib.hid h
  clear h e3
  go_wp2_with fail
  go_end0
  exact OWg.fin H4.out ((Upd.refl _ _).alloc _) rfl rfl
end Go.Proofs.YthclnpigplcckaaGreat
/- The reference's PutSnapshot. -/
namespace Go.Proofs.YthclnpigplcckaaGreat
open Go.RowKit Go.Lb Go.Rc

set_option maxRecDepth 20000 in
set_option maxHeartbeats 2000000 in
theorem rputSnapshot_puts : Puts 42 sSnapshot := by
  intro cs v w hr hl
  have hlen : cs.length = 5 := hr.len
  have uW : Upd [] w ((w.alloc (.cells cs.toArray 60)).alloc (.cells #[.slice none 0 0, .bool false] 131)) := ((Upd.refl _ _).alloc _).alloc _
  have HR := Lib.hid hr
  have HL := Lib.hid hl
  have HB := Lib.hid ((Blk.new w 60 cs).alloc (.cells #[.slice none 0 0, .bool false] 131))
  have hb0 := Tryz.prog.built 131 []
  have HBU : Hid (Tryz.prog.built 131 [] = some #[.slice none 0 0, .bool false]) := Lib.hid (by kernel_rfl)
  clear hr hl hb0
  go_enter Tryz.func42, Tryz.ntmps42
  go_wp2_with (first | (refine wpList_buildTo (o := ⟨some 5, .build 131 #[], _, _, _, _⟩) rfl 131 #[] rfl (some 5) rfl #[.slice none 0 0, .bool false] (by simpa using HBU.out) ?_) | (refine wpList_load_blk rfl 60 (.tmp 1) rfl w.heap.size rfl HB.out Tryz.underlying60 rfl (by rw [hlen]; exact Tryz.size60) ?_))
  refine (osnapshot_writes w.heap.size [w.heap.size] (w.heap.size + 1) cs v [] false _ (fresh_out (mk := oW) rfl) (HR.out.upd uW (by simp)) (by simpa using HL.out)).mono ?_
  rintro e w1 ⟨rfl, o, b, h1, h2, h3⟩
  cases b with
  | true =>
    have HF := Lib.hid (putIs_bad h2 uW h3)
    have H1 := Lib.hid h1
    clear h1 h2 h3 uW
    go_wp2_with fail
    refine (told_bad H1.out).mono ?_
    rintro e w2 ⟨rfl, rfl⟩
    go_wp2_with fail
    go_ret2
    exact HF.out
  | false =>
    obtain ⟨a, c, e0, hF⟩ := putIs_good h1 h2 uW h3
    have e1 : w1.cell? ⟨w.heap.size + 1, 0, none⟩ = some (.slice a (sSnapshot.put v).length c) := e0
    have HF := Lib.hid hF
    have H1 := Lib.hid h1
    have E1 := Lib.hid e1
    clear h1 h2 h3 uW e0 hF e1
    go_wp2_with fail
    refine (told_good H1.out E1.out).mono ?_
    rintro e w2 ⟨rfl, rfl⟩
    go_wp2_with fail
    go_ret2
    exact HF.out
end Go.Proofs.YthclnpigplcckaaGreat
/- The reference's GetSnapshot. -/
namespace Go.Proofs.YthclnpigplcckaaGreat
open Go.RowKit Go.Lb Go.Rc

set_option maxRecDepth 20000 in
set_option maxHeartbeats 4000000 in
theorem rgetSnapshot_gets : Gets 16 sSnapshot := by
  intro a c l w hb hc
  have HB := Lib.hid hb
  have HC := Lib.hid hc
  have HL256 : Hid (∀ x ∈ l, x < 256) := Lib.hid (fun x hx => by
    obtain ⟨i, hi⟩ := List.mem_iff_getElem?.1 hx
    exact (hb i x hi).1)
  have HBU : Hid (Tryz.prog.built 81 [(0, .slice a l.length c)] = some #[.slice a l.length c, .bool false]) := Lib.hid (by
    have e := built_seq (P := Tryz.prog) (t := 81) [1, 1] [.slice none 0 0, .bool false] (by kernel_rfl) (by kernel_rfl) (by rfl) [.slice a l.length c] [[.slice a l.length c]] rfl (by simp)
    simpa using e)
  have HBZ : Hid (Tryz.prog.built 60 [] = some sSnapshot.zc.toArray) := Lib.hid (by kernel_rfl)
  clear hb hc
  go_enter Tryz.func16, Tryz.ntmps16
  go_wp2_with (first | (refine wpList_alloc_blk rfl 60 rfl sSnapshot.zc (zero60 _) ?_; intro w0 hA uA; have HA := Lib.hid hA; have UA := Lib.hid uA; clear hA uA) | (refine wpList_buildTo rfl 81 #[(0, .tmp 8)] rfl (some 9) rfl #[.slice a l.length c, .bool false] (by have h := HBU.out; simp [Act.eval]; with_reducible exact h) ?_))
  have s0 := HA.out.lt
  obtain ⟨wI, hwI⟩ : ∃ z, z = w0.alloc (.cells #[.slice a l.length c, .bool false] 81) := ⟨_, rfl⟩
  have hbI : Blk wI w0.heap.size 81 [.slice a l.length c, .bool false] := by rw [hwI]; exact Blk.new _ _ _
  have uI : Upd [] w0 wI := by rw [hwI]; exact (Upd.refl _ _).alloc _
  have hIr : Ir w0.heap.size wI w0.heap.size l false := ⟨a, c, hbI, ((HB.out.upd UA.out (by simp)).keep (ok' := (· < w0.heap.size)) (fun k hk hl => ⟨hl, rfl⟩) (Nat.le_refl _)).upd uI (by simp), HC.out, Nat.le_refl _⟩
  have HIr := Lib.hid hIr
  have UI := Lib.hid uI
  have sI := hbI.lt
  rw [← hwI]
  clear hwI hbI uI hIr
  refine (isnapshot_reads _ _ l false wI HIr.out).mono ?_
  rintro e w1 ⟨v, cs, l', b', rfl, h1, h2, h3, h4, h5⟩
  rw [show argOf sSnapshot cs = .agg cs.toArray from rfl]
  have hcl : cs.length = 5 := h3.len
  have HONE := Lib.hid h3.one
  have H1 := Lib.hid h1
  have U1 : Hid (Upd [] w0 w1) := Lib.hid (UI.out.trans h2 (by simp))
  have H3 : Hid (Sch.Rep w1 (fun k => w0.heap.size < k ∧ Soft w1 k) sSnapshot cs v) := Lib.hid (h3.mono (fun k hk _ => ⟨by have := hk.1; omega, hk.2⟩))
  have H4 := Lib.hid h4
  have H5 := Lib.hid h5
  have HA1 := Lib.hid (U1.out.blk HA.out (by simp))
  have hf1 := (ir_mark h1).2.2.1
  clear h1 h2 h3 h4 h5
  obtain ⟨g, hg⟩ := good_dec sSnapshot v
  obtain ⟨p, hp⟩ : ∃ p, p = bytesOf g sSnapshot v := ⟨_, rfl⟩
  have HG := Lib.hid hg
  have HP := Lib.hid hp
  clear hg hp
  go_wp2_with (first | (refine wpList_alloc_blk rfl 60 rfl sSnapshot.zc (zero60 _) ?_; intro wP hP uP; have HPb := Lib.hid hP; have UP := Lib.hid uP; clear hP uP) | (refine wpList_store_blk rfl 60 (.tmp 5) (.tmp 12) rfl w1.heap.size cs rfl rfl HPb.out (by rw [hcl]; exact Tryz.size60) (by rw [hcl]; rfl) HONE.out ?_; intro w2 hd ud; have HD := Lib.hid hd; have U2 : Hid (Upd [] w1 w2) := Lib.hid (UP.out.trans ud (by simp)); clear hd ud) | (refine wpList_load_blk rfl 60 (.tmp 5) rfl w1.heap.size rfl HD.out Tryz.underlying60 rfl (by rw [hcl]; exact Tryz.size60) ?_))
  refine (puts_u rputSnapshot_puts (rep_all H3.out U2.out) (Nat.le_trans H5.out (of_decide_eq_true (by kernel_rfl))) HG.out HP.out).mono ?_
  rintro e w3 ⟨a3, c3, rfl, u, b, hc⟩
  have U3 := Lib.hid (U2.out.trans u (by simp))
  have B3 := Lib.hid b
  have HD3 := Lib.hid (u.blk HD.out (by simp))
  clear u b hc
  go_wp2_with fail
  refine (idone_post _ _ l' b' w3 ((H1.out).upd U3.out (by simp))).mono ?_
  rintro e w4 ⟨rfl, u⟩
  have U4 := Lib.hid (U3.out.trans u (by simp))
  have B4 := Lib.hid (bytes_all B3.out u)
  have HD4 := Lib.hid (u.blk HD3.out (by simp))
  have HA4 := Lib.hid (U4.out.blk HA1.out (by simp))
  have U04 : Hid (Upd [] w0 w4) := Lib.hid (U1.out.trans U4.out (by simp))
  clear u
  obtain ⟨r, hr⟩ : ∃ r, (!b' && decide (l' = [])) = r := ⟨_, rfl⟩
  rw [hr]
  cases r with
  | true =>
    have hr2 : b' = false ∧ l' = [] := by simpa using hr
    obtain ⟨rfl, rfl⟩ := hr2
    have hget := (H4.out.good rfl).2
    obtain ⟨e1, e2⟩ := Sch.get_one sSnapshot l v [] hget HL256.out
    obtain rfl : g = true := HG.out.2 e2
    have HPL : Hid (p.length ≤ 1099511627776) := Lib.hid (by rw [HP.out]; exact bytesOf_len HG.out (Nat.le_trans H5.out (of_decide_eq_true (by kernel_rfl))))
    obtain rfl : p = l := by rw [HP.out, e1]; simp [bytesOf]
    have HGET := Lib.hid hget
    have et : errOf true = 0 := rfl
    rw [et]
    clear hr hget e1 e2 et
    go_wp2_with fail
    refine (same_any _ _ a3 a c3 c p p _ B4.out ((HB.out.upd UA.out (by simp)).upd U04.out (by simp)) HPL.out).mono ?_
    rintro e w5 ⟨rfl, u⟩
    have U5 := Lib.hid (U4.out.trans u (by simp))
    have HD5 := Lib.hid (u.blk HD4.out (by simp))
    have HA5 := Lib.hid (u.blk HA4.out (by simp))
    rw [show (p == p) = true by simp]
    clear u
    go_wp2_with (first | (refine wpList_load_blk rfl 60 (.tmp 5) rfl w1.heap.size rfl HD5.out Tryz.underlying60 rfl (by rw [hcl]; exact Tryz.size60) ?_) | (refine wpList_store_blk rfl 60 (.tmp 2) (.tmp 32) rfl w.heap.size cs rfl rfl HA5.out (by rw [hcl]; exact Tryz.size60) (by rw [hcl]; rfl) HONE.out ?_; intro wz hz uz))
    have hld := run_loadVar_blk (P := Tryz.prog) hz 60 _ Tryz.underlying60 rfl (by rw [hcl]; exact Tryz.size60)
    have UF : Upd [] w wz := ((UA.out.trans U1.out (by simp)).trans U5.out (by simp)).trans uz (by simp)
    refine bodyPost_ret (v := .tuple #[.agg cs.toArray, .bool true]) ?_ rfl ⟨UF, cs, v, true, rfl, (H3.out.keep (ok' := Nw w.heap.size wz) (fun k hk hl => have hk1 := hk.1; have e := (uz.block k (Nat.lt_of_lt_of_le hl U5.out.size) (by simp; omega)).trans (U5.out.block k hl (by simp)); ⟨⟨by omega, hk.2.keep e⟩, e⟩) (Nat.le_trans U5.out.size uz.size)), fun _ => HGET.out, fun h => by cases h⟩
    rw [results_cell_tmp Tryz.results16]; simp [asAddr, Act.put, hld]
  | false =>
    have hno : ∀ v', sSnapshot.get l ≠ some (v', []) := by
      intro v' hv
      cases b' with
      | true =>
        rcases H4.out.bad rfl with h | h
        · cases h
        · rw [hv] at h; cases h
      | false =>
        have := (H4.out.good rfl).2
        rw [hv] at this
        simp only [Option.some.injEq, Prod.mk.injEq] at this
        rw [← this.2] at hr
        simp at hr
    have HNO := Lib.hid hno
    clear hr hno
    go_wp2_with (first | (refine wpList_store_blk rfl 60 (.tmp 2) (.tmp 31) rfl w.heap.size sSnapshot.zc rfl rfl HA4.out (by exact Tryz.size60) rfl (Sch.zc_one _) ?_; intro wz hz uz) | (refine wpList_buildTo rfl 60 #[] rfl (some 31) rfl sSnapshot.zc.toArray (by have h := HBZ.out; simp; with_reducible exact h) ?_))
    have hld := run_loadVar_blk (P := Tryz.prog) hz 60 _ Tryz.underlying60 rfl (by exact Tryz.size60)
    have UF : Upd [] w wz := ((UA.out.trans U1.out (by simp)).trans U4.out (by simp)).trans uz (by simp)
    refine bodyPost_ret (v := .tuple #[.agg sSnapshot.zc.toArray, .bool false]) ?_ rfl ⟨UF, sSnapshot.zc, sSnapshot.zero, false, rfl, Sch.Rep.zero _ _ _, fun h => (by cases h), fun _ => ⟨HNO.out, rfl⟩⟩
    rw [results_cell_tmp Tryz.results16]; simp [asAddr, Act.put, hld]
end Go.Proofs.YthclnpigplcckaaGreat
/- codec's form.snapshot, writing. -/
namespace Go.Proofs.YthclnpigplcckaaGreat
open Go.RowKit Go.Lb Go.Rc

set_option maxRecDepth 20000 in
set_option maxHeartbeats 2000000 in
theorem snapshot_writes : Writes 40 sSnapshot := by
  intro B X f p q tp pre cs post v o b w h hX hq hp hr hl
  have k0 : (tup [.num, .num, sConf, .raw]).Rep w (· < B) cs v := hr
  obtain ⟨_, _, v0, y0, _, rfl, ⟨n0, _, rfl⟩, k1⟩ := Sch.Rep.tup_cons k0
  obtain ⟨_, _, v1, y1, _, rfl, ⟨n1, _, rfl⟩, k2⟩ := Sch.Rep.tup_cons k1
  obtain ⟨_, _, v2, y2, _, rfl, _, k3⟩ := Sch.Rep.tup_cons k2
  obtain ⟨_, _, v3, y3, _, rfl, _, k4⟩ := Sch.Rep.tup_cons k3
  obtain ⟨_, rfl⟩ := Sch.Rep.tup_nil k4
  subst hq
  have H0 := Lib.hid (WrSt.start (rest := ([(.num, .num n0), (.num, .num n1), (sConf, v2), (.raw, v3)] : List (Sch × Val))) h hX hp hr (by have := tup_wmax ([(.num, .num n0), (.num, .num n1), (sConf, v2), (.raw, v3)] : List (Sch × Val)); rw [← this]; exact hl))
  clear h hX hp hr hl k0 k1 k2 k3 k4
  go_enter Tryz.func40, Tryz.ntmps40
  go_wp2_with fail
  refine wp_region_lex (fun _ => True) 99 [(0, true), (1, true), (2, true), (3, true), (4, true), (5, true), (6, true), (7, false), (8, false)] (by kernel_rfl) (by kernel_rfl) (by kernel_rfl) (by kernel_rfl) (fun _ _ d _ _ h => by cases d <;> exact h) ?_
  simp only [lexOps, List.map_cons, List.map_nil, List.getD_cons_zero, List.getD_cons_succ]
  iterate 7 (refine lex_read rfl trivial (v := ?_) (fun w' _ => ?_) ?_; rotate_left; (focus (go_simp; try with_reducible rfl)); simp only [Act.put, List.setIfInBounds_toArray, List.set_cons_zero, List.set_cons_succ])
  refine lex_do rfl (fun K hK => ?_)
  go_simp
  refine hK _ _ (fun _ => trivial) ?_
  clear hK K
  refine lex_do rfl (fun K hK => ?_)
  go_simp
  refine (CWr.goNums (ns := [n0, n1]) (rest := [(sConf, v2), (.raw, v3)]) (k := 2) H0.out rfl ((Upd.refl _ _).alloc _).drew (Nat.le_refl _) (Blk.drew (Blk.new _ _ [_, _])) rfl).mono ?_
  rintro e w1 ⟨rfl, o1, b1, h⟩
  have H1 := Lib.hid h
  refine hK _ _ (fun _ => trivial) ?_
  clear hK K h
  refine lex_nil ?_
  go_wp2_with fail
  refine (CWr.go conf_writes H1.out rfl).mono ?_
  rintro e w2 ⟨rfl, o2, b2, h⟩
  have H2 := Lib.hid h
  clear h
  go_wp2_with fail
  refine (CWr.go raw_writes H2.out rfl).mono ?_
  rintro e w3 ⟨rfl, o3, b3, h⟩
  have H3 := Lib.hid h
  clear h
  go_wp2_with fail
  go_end0
  exact CWr.fin H3.out rfl rfl
end Go.Proofs.YthclnpigplcckaaGreat
/- codec's put[Snapshot] and PutSnapshot. -/
namespace Go.Proofs.YthclnpigplcckaaGreat
open Go.RowKit Go.Lb Go.Rc

set_option maxRecDepth 20000 in
set_option maxHeartbeats 2000000 in
theorem putSnapshot_any (cs : List Value) (v : Val) (w : World) (hr : Sch.Rep w (· < w.heap.size) sSnapshot cs v) (hl : sSnapshot.wmax v ≤ 1099511627776) :
    Calls Tryz.prog 43 #[.agg cs.toArray, .func (.func 40) #[] #[]] w (PutIs sSnapshot v w) := by
  have hlen : cs.length = 5 := hr.len
  have HR := Lib.hid hr
  have HL := Lib.hid hl
  clear hr hl
  go_enter Tryz.func43, Tryz.ntmps43
  go_wp2_with fail
  have uW : Upd [] w ((w.alloc (.cells cs.toArray 60)).alloc (.cells #[.slice none 0 0, .bool false, .bool false] 108)) := ((Upd.refl _ _).alloc _).alloc _
  refine (snapshot_writes w.heap.size [w.heap.size] (w.heap.size + 1) w.heap.size 0 60 [] cs [] v [] false _ (fresh_out (mk := cW) rfl) (by simp) rfl (by simpa using (Blk.new w 60 cs).alloc _) (HR.out.upd uW (by simp)) (by simpa using HL.out)).mono ?_
  rintro e w1 ⟨rfl, o, b, h1, h2, h3⟩
  obtain ⟨m2, m3, m4, m5⟩ := fw_mark h1
  cases b with
  | true =>
    have HF := Lib.hid (putIs_bad h2 uW h3)
    clear h1 h2 h3 uW
    go_wp2_with fail
    go_ret2
    exact HF.out
  | false =>
    obtain ⟨a, c, e0, hF⟩ := putIs_good h1 h2 uW h3
    have e1 : w1.cell? ⟨w.heap.size + 1, 0, none⟩ = some (.slice a (sSnapshot.put v).length c) := e0
    have HF := Lib.hid hF
    clear h1 h2 h3 uW e0 hF
    go_wp2_with fail
    go_ret2
    exact HF.out

set_option maxRecDepth 20000 in
set_option maxHeartbeats 2000000 in
theorem putSnapshot_puts : Puts 17 sSnapshot := by
  intro cs v w hr hl
  have hlen : cs.length = 5 := hr.len
  have uW : Upd [] w (w.alloc (.cells cs.toArray 60)) := (Upd.refl _ _).alloc _
  have HR := Lib.hid hr
  have HL := Lib.hid hl
  have hb := Blk.new w 60 cs
  have HB := Lib.hid hb
  clear hr hl hb
  go_enter Tryz.func17, Tryz.ntmps17
  go_wp2_with (refine wpList_load_blk rfl 60 (.tmp 1) rfl w.heap.size rfl HB.out Tryz.underlying60 rfl (by rw [hlen]; exact Tryz.size60) ?_)
  refine (putSnapshot_any cs v _ ((HR.out.upd uW (by simp)).mono (fun b hb hl => hl)) HL.out).mono ?_
  rintro e w1 ⟨u1, ⟨hg, a, c, rfl, hown⟩ | ⟨hg, rfl⟩⟩
  · have HF : Hid (PutIs sSnapshot v w (.returned (.tuple #[.slice a (sSnapshot.put v).length c, .int .i64 0])) w1) := Lib.hid ⟨uW.trans u1 (by simp), .inl ⟨hg, a, c, rfl, own_rebase hown (fun k hk => by have := own_lo hown hk; have := uW.size; omega)⟩⟩
    clear u1 hg hown uW
    go_wp2_with fail
    go_ret2
    exact HF.out
  · have HF : Hid (PutIs sSnapshot v w (.returned (.tuple #[.slice none 0 0, .int .i64 1])) w1) := Lib.hid ⟨uW.trans u1 (by simp), .inr ⟨hg, rfl⟩⟩
    clear u1 hg uW
    go_wp2_with fail
    go_ret2
    exact HF.out
end Go.Proofs.YthclnpigplcckaaGreat
/- codec's list[Job], reading. -/
namespace Go.Proofs.YthclnpigplcckaaGreat
open Go.RowKit Go.Lb Go.Rc

set_option maxRecDepth 20000 in
set_option maxHeartbeats 2000000 in
theorem listJob_reads : LReads 77 50 sJob := by
  intro B f p q tp pre post l b w h hB hpf hq hp
  obtain ⟨iT, hiT, hz0, hz1, hz2⟩ := info25
  subst hq
  have c0 := hp.cell (o := pre.length) mid_at
  obtain ⟨_, _, _, hf, hBf⟩ := fr_mark h
  have hplt := hp.lt
  have H := Lib.hid h
  have HP := Lib.hid hp
  clear h hp
  go_enter Tryz.func77, Tryz.ntmps77
  go_wp2_with fail
  refine (many_r B f 64 _ l b _ H.out).mono ?_
  rintro e w1 ⟨k, l1, b1, rfl, hk, h1, h2, h3⟩
  obtain ⟨m2, m3, m4, m5, _⟩ := fr_mark h1
  have HB1 := Lib.hid (h2.blk HP.out (by simpa using hpf))
  have HS : Hid (LRdSt sJob 108 cR [f, p] B f 25 7 w w1 k l b 0 l1 b1 (.slice none 0 0) [] []) := Lib.hid (LRdSt.start h1 (h2.mono (by simp)) (by simp; omega) h3)
  clear h1 h2 h3 H
  go_wp2_with fail
  go_loopg [9, 42] k (fun g u t wr => ∃ (i : Nat) (l' : List Nat) (b' : Bool) (v : Value) (xss : List (List Value)) (xs : List Val), t = .int .i64 i ∧ k - i = g ∧ i ≤ k ∧ Blk wr p tp (pre ++ [v] ++ post) ∧ LRdSt sJob 108 cR [f, p] B f 25 7 w wr k l b i l' b' v xss xs)
  case atStart => exact ⟨0, l1, b1, _, [], [], rfl, rfl, by omega, HB1.out, HS.out⟩
  case round =>
    obtain ⟨i, l', b', v, xss, xs, rfl, hg, hi, hbk, hS⟩ := hrel
    have HG := Lib.hid hg
    have HBK := Lib.hid hbk
    have HST := Lib.hid hS
    obtain ⟨n2, n3, n4, n5, _⟩ := fr_mark hS.fr
    have hsz := hS.upd.size
    clear hg hbk hS m2 m3 m4 m5
    by_cases hlt : i < k
    · have t1 : decide (i < k) = true := by simpa using hlt
      cases b' with
      | true =>
        have HE := Lib.hid (HST.out.rd (.inl rfl))
        go_wp2_with fail
        go_end0
        exact ⟨rfl, .list xs, [v], l', true, HST.out.fr, HST.out.upd, HBK.out, HST.out.isRep, HE.out⟩
      | false =>
      go_wp2_with (refine wpList_alloc_blk rfl 25 rfl sJob.zc (zero25 _) ?_; intro wB hb hu)
      have hN := HST.out.upd' hu
      refine (job_reads B f wr.heap.size 0 25 [] [] l' false wB hN.fr (by omega) (by omega) rfl (by simpa [Sch.zc] using hb)).mono ?_
      rintro e w2 ⟨rfl, x, us, l2, b2, h1, h2, h3, h4, h5⟩
      have hus : us.length = 7 := h4.len
      have hb2 : Blk w2 wr.heap.size 25 us := by simpa using h3
      have hU : Upd [f, p] wr w2 := (hu.mono (by simp)).trans h2 (by
        intro y hy
        simp only [List.mem_cons, List.not_mem_nil, or_false] at hy
        rcases hy with rfl | rfl
        · simp
        · exact .inr (Nat.le_refl _))
      have h4' : Sch.Rep w2 (Nw wr.heap.size w2) sJob us x := h4.mono (fun b hb _ => hb.go hu.size rfl)
      have hbp : Blk w2 p tp (pre ++ [v] ++ post) := by
        refine h2.blk (hu.blk HBK.out (by simp)) ?_
        simp; omega
      have hrow2 := (hN.row)
      have hrw : w2.ownsRow w.heap.size 25 7 v i xss.flatten := h2.row (hu.row HST.out.row (by simp)) (by
        intro y hy
        have := own_lo HST.out.row hy
        simp; omega)
      have hsz2 := hU.size
      have hl2 := hb2.lt
      obtain ⟨a, c, rfl⟩ := own_shape' hrw
      have HO := Lib.hid h4.one
      have HR : Hid (∀ w', Upd (Value.slice a i c).ownBlock.toList w2 w' → w'.cell? ⟨p, pre.length, none⟩ = some (.slice a i c) ∧ Blk w' wr.heap.size 25 us) := Lib.hid (by
        intro w' u
        refine ⟨(u.blk hbp ?_).cell mid_at, u.blk hb2 ?_⟩
        · intro hm
          have := own_lo HST.out.row (g := p) (by simpa using hm)
          omega
        · intro hm
          have := own_lo HST.out.row (g := wr.heap.size) (by simpa using hm)
          omega)
      have HST2 := HST
      have HU := Lib.hid hU
      have H4 := Lib.hid h4'
      have H5 := Lib.hid h5
      have H1 := Lib.hid h1
      have HRW := Lib.hid hrw
      have HBP := Lib.hid hbp
      have HUS := Lib.hid hus
      clear h1 h2 h3 h4 h5 hN hb hu hbp hrow2 hrw hU h4' hus
      go_wp2_with fail
      refine wp_region_lex (fun w' => Upd (Value.slice a i c).ownBlock.toList w2 w') 8 [(0, true), (1, true), (2, true), (3, true), (4, true), (5, false), (6, false), (7, false), (8, false)] (by kernel_rfl) (by kernel_rfl) (by kernel_rfl) (by kernel_rfl) (fun _ _ d _ _ h => by cases d <;> exact h) ?_
      simp only [lexOps, List.map_cons, List.map_nil, List.getD_cons_zero, List.getD_cons_succ]
      have hS0 : Upd (Value.slice a i c).ownBlock.toList w2 w2.drew := (Upd.refl _ _).drew
      iterate 4 (refine lex_read rfl (by exact hS0) (v := ?_) (fun w' hw => ?_) ?_; rotate_left; (focus (obtain ⟨k1, k2⟩ := HR.out w' hw; clear k2; go_simp; try with_reducible rfl)); simp only [Act.put, List.setIfInBounds_toArray, List.set_cons_zero, List.set_cons_succ])
      refine lex_read rfl (by exact hS0) (fun w' hw => exec_load (by rfl) (by rfl) (run_loadAt_mid w' wr.heap.size 0 25 us _ (HR.out w' hw).2.range Tryz.underlying25 rfl (by rw [HUS.out]; exact Tryz.size25))) ?_
      try simp only [Act.put, List.setIfInBounds_toArray, List.set_cons_zero, List.set_cons_succ]
      refine lex_run rfl (exec_buildSlice (by rfl) (by simp [Act.eval]) (run_buildSlice1 _ 64 25 iT _ us 7 Tryz.underlying64 hiT hz0 hz1 HUS.out (by decide) (by decide))) (fun _ => hS0.alloc _) ?_
      try simp only [Act.put, List.setIfInBounds_toArray, List.set_cons_zero, List.set_cons_succ]
      have h64 : k ≤ 64 := hk
      have hB2 : Blk (w2.drew.alloc (.cells us.toArray 25)) w2.heap.size 25 us := Blk.new w2.drew _ _
      refine lex_do rfl (fun K hK => ?_)
      refine wp_append_mine (.tmp 53) (.tmp 55) 64 rfl w.heap.size 25 iT _ 7 _ Tryz.underlying64 hiT hz0 hz1 hz2 rfl (by decide) (.slice a i c) i xss.flatten rfl (World.ownsRow.alloc HRW.out _) ⟨w2.heap.size, 0, none⟩ 1 1 us rfl (by rw [HUS.out]) hB2.news (HO.out) (by unfold maxLen; omega) (by omega) (by have := HST.out.upd.size; simp; omega) ?_
      intro v' w3 hown hg hv
      have uA : Upd [f, p] wr (w2.drew.alloc (.cells us.toArray 25)) := (HU.out.drew).alloc _
      have hF : Fr B w3 f l2 b2 := by
        obtain ⟨a', c', hI⟩ := H1.out
        have hI2 : In 108 cR B (w2.drew.alloc (.cells us.toArray 25)) f l2 b2 a' c' := hI.upd (F := []) ((Upd.refl [] w2).drew.alloc _) (by simp)
        refine ⟨a', c', hI2.upd (F := (Value.slice a i c).ownBlock.toList) ((Upd.refl _ _).grown hg (fun k hk => .inl (by simp [hk]))) (fun k hk => ?_)⟩
        have := own_lo HST.out.row (g := k) (by simpa using hk)
        omega
      have hbp3 : Blk w3 p tp (pre ++ [.slice a i c] ++ post) := by
        have hb4 : Blk (w2.drew.alloc (.cells us.toArray 25)) p tp (pre ++ [.slice a i c] ++ post) := (HBP.out.drew).alloc _
        refine (hg.block p hb4.lt (fun e => ?_)).trans hb4
        have := own_lo HST.out.row (g := p) e.symm
        omega
      have q1 := hbp3.cell (o := pre.length) mid_at
      have q2 := hbp3.frozen pre.length
      have q3 := hbp3.lt
      have uS : Upd [p] w3 (w3.setCell ⟨p, pre.length, none⟩ v') := (Upd.refl _ _).setCell (by simp) _
      have HX : Hid (Blk (w3.setCell ⟨p, pre.length, none⟩ v') p tp (pre ++ [v'] ++ post) ∧ LRdSt sJob 108 cR [f, p] B f 25 7 w (w3.setCell ⟨p, pre.length, none⟩ v') k l b (i + 1) l2 b2 v' (xss ++ [us]) (xs ++ [x])) := by
        refine Lib.hid ⟨?_, LRdSt.next HST.out hlt uA (H4.out.updN ((Upd.refl [] w2).drew.alloc _) (by simp)) HUS.out H5.out hg hown ?_ (uS.mono (by simp)) (hF.upd uS (by simp; omega))⟩
        · have := hbp3.set pre.length v'
          rwa [mid_set] at this
        · rcases hv with h | h
          · exact .inl h
          · exact .inr h
      have hS3 : Upd (Value.slice a i c).ownBlock.toList w2 w3 := (hS0.alloc _).grown hg (fun k hk => .inl (by simp [hk]))
      refine hK _ _ (fun _ => hS3) ?_
      obtain ⟨a', c', rfl⟩ := own_shape' hown
      clear hK K hown hg hv uA hF hbp3 uS hB2 hS0
      try simp only [Act.put, List.setIfInBounds_toArray, List.set_cons_zero, List.set_cons_succ]
      refine lex_do rfl (fun K hK => ?_)
      go_simp
      refine hK _ _ (fun _ => hS3) ?_
      clear hK K hS3
      try simp only [Act.put, List.setIfInBounds_toArray, List.set_cons_zero, List.set_cons_succ]
      refine lex_do rfl (fun K hK => ?_)
      go_simp
      refine hK _ _ (fun h => absurd rfl h) ?_
      clear hK K
      try simp only [Act.put, List.setIfInBounds_toArray, List.set_cons_zero, List.set_cons_succ]
      refine lex_nil ?_
      go_wp2_with fail
      go_roundg (k - (i + 1))
      case measure => have := HG.out; omega
      case rel => exact ⟨i + 1, l2, b2, _, _, _, by go_num, rfl, by omega, HX.out.1, HX.out.2⟩
    · obtain rfl : i = k := by omega
      have HE := Lib.hid (HST.out.rd (.inr rfl))
      go_wp2_with fail
      go_end0
      exact ⟨rfl, .list xs, [v], l', b', HST.out.fr, HST.out.upd, HBK.out, HST.out.isRep, HE.out⟩
end Go.Proofs.YthclnpigplcckaaGreat
/- codec's list[Node], reading. -/
namespace Go.Proofs.YthclnpigplcckaaGreat
open Go.RowKit Go.Lb Go.Rc

set_option maxRecDepth 20000 in
set_option maxHeartbeats 2000000 in
theorem listNode_reads : LReads 78 51 sNode := by
  intro B f p q tp pre post l b w h hB hpf hq hp
  obtain ⟨iT, hiT, hz0, hz1, hz2⟩ := info29
  subst hq
  have c0 := hp.cell (o := pre.length) mid_at
  obtain ⟨_, _, _, hf, hBf⟩ := fr_mark h
  have hplt := hp.lt
  have H := Lib.hid h
  have HP := Lib.hid hp
  clear h hp
  go_enter Tryz.func78, Tryz.ntmps78
  go_wp2_with fail
  refine (many_r B f 64 _ l b _ H.out).mono ?_
  rintro e w1 ⟨k, l1, b1, rfl, hk, h1, h2, h3⟩
  obtain ⟨m2, m3, m4, m5, _⟩ := fr_mark h1
  have HB1 := Lib.hid (h2.blk HP.out (by simpa using hpf))
  have HS : Hid (LRdSt sNode 108 cR [f, p] B f 29 8 w w1 k l b 0 l1 b1 (.slice none 0 0) [] []) := Lib.hid (LRdSt.start h1 (h2.mono (by simp)) (by simp; omega) h3)
  clear h1 h2 h3 H
  go_wp2_with fail
  go_loopg [9, 42] k (fun g u t wr => ∃ (i : Nat) (l' : List Nat) (b' : Bool) (v : Value) (xss : List (List Value)) (xs : List Val), t = .int .i64 i ∧ k - i = g ∧ i ≤ k ∧ Blk wr p tp (pre ++ [v] ++ post) ∧ LRdSt sNode 108 cR [f, p] B f 29 8 w wr k l b i l' b' v xss xs)
  case atStart => exact ⟨0, l1, b1, _, [], [], rfl, rfl, by omega, HB1.out, HS.out⟩
  case round =>
    obtain ⟨i, l', b', v, xss, xs, rfl, hg, hi, hbk, hS⟩ := hrel
    have HG := Lib.hid hg
    have HBK := Lib.hid hbk
    have HST := Lib.hid hS
    obtain ⟨n2, n3, n4, n5, _⟩ := fr_mark hS.fr
    have hsz := hS.upd.size
    clear hg hbk hS m2 m3 m4 m5
    by_cases hlt : i < k
    · have t1 : decide (i < k) = true := by simpa using hlt
      cases b' with
      | true =>
        have HE := Lib.hid (HST.out.rd (.inl rfl))
        go_wp2_with fail
        go_end0
        exact ⟨rfl, .list xs, [v], l', true, HST.out.fr, HST.out.upd, HBK.out, HST.out.isRep, HE.out⟩
      | false =>
      go_wp2_with (refine wpList_alloc_blk rfl 29 rfl sNode.zc (zero29 _) ?_; intro wB hb hu)
      have hN := HST.out.upd' hu
      refine (node_reads B f wr.heap.size 0 29 [] [] l' false wB hN.fr (by omega) (by omega) rfl (by simpa [Sch.zc] using hb)).mono ?_
      rintro e w2 ⟨rfl, x, us, l2, b2, h1, h2, h3, h4, h5⟩
      have hus : us.length = 8 := h4.len
      have hb2 : Blk w2 wr.heap.size 29 us := by simpa using h3
      have hU : Upd [f, p] wr w2 := (hu.mono (by simp)).trans h2 (by
        intro y hy
        simp only [List.mem_cons, List.not_mem_nil, or_false] at hy
        rcases hy with rfl | rfl
        · simp
        · exact .inr (Nat.le_refl _))
      have h4' : Sch.Rep w2 (Nw wr.heap.size w2) sNode us x := h4.mono (fun b hb _ => hb.go hu.size rfl)
      have hbp : Blk w2 p tp (pre ++ [v] ++ post) := by
        refine h2.blk (hu.blk HBK.out (by simp)) ?_
        simp; omega
      have hrow2 := (hN.row)
      have hrw : w2.ownsRow w.heap.size 29 8 v i xss.flatten := h2.row (hu.row HST.out.row (by simp)) (by
        intro y hy
        have := own_lo HST.out.row hy
        simp; omega)
      have hsz2 := hU.size
      have hl2 := hb2.lt
      obtain ⟨a, c, rfl⟩ := own_shape' hrw
      have HO := Lib.hid h4.one
      have HR : Hid (∀ w', Upd (Value.slice a i c).ownBlock.toList w2 w' → w'.cell? ⟨p, pre.length, none⟩ = some (.slice a i c) ∧ Blk w' wr.heap.size 29 us) := Lib.hid (by
        intro w' u
        refine ⟨(u.blk hbp ?_).cell mid_at, u.blk hb2 ?_⟩
        · intro hm
          have := own_lo HST.out.row (g := p) (by simpa using hm)
          omega
        · intro hm
          have := own_lo HST.out.row (g := wr.heap.size) (by simpa using hm)
          omega)
      have HST2 := HST
      have HU := Lib.hid hU
      have H4 := Lib.hid h4'
      have H5 := Lib.hid h5
      have H1 := Lib.hid h1
      have HRW := Lib.hid hrw
      have HBP := Lib.hid hbp
      have HUS := Lib.hid hus
      clear h1 h2 h3 h4 h5 hN hb hu hbp hrow2 hrw hU h4' hus
      go_wp2_with fail
      refine wp_region_lex (fun w' => Upd (Value.slice a i c).ownBlock.toList w2 w') 8 [(0, true), (1, true), (2, true), (3, true), (4, true), (5, false), (6, false), (7, false), (8, false)] (by kernel_rfl) (by kernel_rfl) (by kernel_rfl) (by kernel_rfl) (fun _ _ d _ _ h => by cases d <;> exact h) ?_
      simp only [lexOps, List.map_cons, List.map_nil, List.getD_cons_zero, List.getD_cons_succ]
      have hS0 : Upd (Value.slice a i c).ownBlock.toList w2 w2.drew := (Upd.refl _ _).drew
      iterate 4 (refine lex_read rfl (by exact hS0) (v := ?_) (fun w' hw => ?_) ?_; rotate_left; (focus (obtain ⟨k1, k2⟩ := HR.out w' hw; clear k2; go_simp; try with_reducible rfl)); simp only [Act.put, List.setIfInBounds_toArray, List.set_cons_zero, List.set_cons_succ])
      refine lex_read rfl (by exact hS0) (fun w' hw => exec_load (by rfl) (by rfl) (run_loadAt_mid w' wr.heap.size 0 29 us _ (HR.out w' hw).2.range Tryz.underlying29 rfl (by rw [HUS.out]; exact Tryz.size29))) ?_
      try simp only [Act.put, List.setIfInBounds_toArray, List.set_cons_zero, List.set_cons_succ]
      refine lex_run rfl (exec_buildSlice (by rfl) (by simp [Act.eval]) (run_buildSlice1 _ 65 29 iT _ us 8 Tryz.underlying65 hiT hz0 hz1 HUS.out (by decide) (by decide))) (fun _ => hS0.alloc _) ?_
      try simp only [Act.put, List.setIfInBounds_toArray, List.set_cons_zero, List.set_cons_succ]
      have h64 : k ≤ 64 := hk
      have hB2 : Blk (w2.drew.alloc (.cells us.toArray 29)) w2.heap.size 29 us := Blk.new w2.drew _ _
      refine lex_do rfl (fun K hK => ?_)
      refine wp_append_mine (.tmp 53) (.tmp 55) 65 rfl w.heap.size 29 iT _ 8 _ Tryz.underlying65 hiT hz0 hz1 hz2 rfl (by decide) (.slice a i c) i xss.flatten rfl (World.ownsRow.alloc HRW.out _) ⟨w2.heap.size, 0, none⟩ 1 1 us rfl (by rw [HUS.out]) hB2.news (HO.out) (by unfold maxLen; omega) (by omega) (by have := HST.out.upd.size; simp; omega) ?_
      intro v' w3 hown hg hv
      have uA : Upd [f, p] wr (w2.drew.alloc (.cells us.toArray 29)) := (HU.out.drew).alloc _
      have hF : Fr B w3 f l2 b2 := by
        obtain ⟨a', c', hI⟩ := H1.out
        have hI2 : In 108 cR B (w2.drew.alloc (.cells us.toArray 29)) f l2 b2 a' c' := hI.upd (F := []) ((Upd.refl [] w2).drew.alloc _) (by simp)
        refine ⟨a', c', hI2.upd (F := (Value.slice a i c).ownBlock.toList) ((Upd.refl _ _).grown hg (fun k hk => .inl (by simp [hk]))) (fun k hk => ?_)⟩
        have := own_lo HST.out.row (g := k) (by simpa using hk)
        omega
      have hbp3 : Blk w3 p tp (pre ++ [.slice a i c] ++ post) := by
        have hb4 : Blk (w2.drew.alloc (.cells us.toArray 29)) p tp (pre ++ [.slice a i c] ++ post) := (HBP.out.drew).alloc _
        refine (hg.block p hb4.lt (fun e => ?_)).trans hb4
        have := own_lo HST.out.row (g := p) e.symm
        omega
      have q1 := hbp3.cell (o := pre.length) mid_at
      have q2 := hbp3.frozen pre.length
      have q3 := hbp3.lt
      have uS : Upd [p] w3 (w3.setCell ⟨p, pre.length, none⟩ v') := (Upd.refl _ _).setCell (by simp) _
      have HX : Hid (Blk (w3.setCell ⟨p, pre.length, none⟩ v') p tp (pre ++ [v'] ++ post) ∧ LRdSt sNode 108 cR [f, p] B f 29 8 w (w3.setCell ⟨p, pre.length, none⟩ v') k l b (i + 1) l2 b2 v' (xss ++ [us]) (xs ++ [x])) := by
        refine Lib.hid ⟨?_, LRdSt.next HST.out hlt uA (H4.out.updN ((Upd.refl [] w2).drew.alloc _) (by simp)) HUS.out H5.out hg hown ?_ (uS.mono (by simp)) (hF.upd uS (by simp; omega))⟩
        · have := hbp3.set pre.length v'
          rwa [mid_set] at this
        · rcases hv with h | h
          · exact .inl h
          · exact .inr h
      have hS3 : Upd (Value.slice a i c).ownBlock.toList w2 w3 := (hS0.alloc _).grown hg (fun k hk => .inl (by simp [hk]))
      refine hK _ _ (fun _ => hS3) ?_
      obtain ⟨a', c', rfl⟩ := own_shape' hown
      clear hK K hown hg hv uA hF hbp3 uS hB2 hS0
      try simp only [Act.put, List.setIfInBounds_toArray, List.set_cons_zero, List.set_cons_succ]
      refine lex_do rfl (fun K hK => ?_)
      go_simp
      refine hK _ _ (fun _ => hS3) ?_
      clear hK K hS3
      try simp only [Act.put, List.setIfInBounds_toArray, List.set_cons_zero, List.set_cons_succ]
      refine lex_do rfl (fun K hK => ?_)
      go_simp
      refine hK _ _ (fun h => absurd rfl h) ?_
      clear hK K
      try simp only [Act.put, List.setIfInBounds_toArray, List.set_cons_zero, List.set_cons_succ]
      refine lex_nil ?_
      go_wp2_with fail
      go_roundg (k - (i + 1))
      case measure => have := HG.out; omega
      case rel => exact ⟨i + 1, l2, b2, _, _, _, by go_num, rfl, by omega, HX.out.1, HX.out.2⟩
    · obtain rfl : i = k := by omega
      have HE := Lib.hid (HST.out.rd (.inr rfl))
      go_wp2_with fail
      go_end0
      exact ⟨rfl, .list xs, [v], l', b', HST.out.fr, HST.out.upd, HBK.out, HST.out.isRep, HE.out⟩
end Go.Proofs.YthclnpigplcckaaGreat
/- codec's form.eval, reading. -/
namespace Go.Proofs.YthclnpigplcckaaGreat
open Go.RowKit Go.Lb Go.Rc

set_option maxRecDepth 20000 in
set_option maxHeartbeats 2000000 in
theorem eval_reads : Reads 82 sEval := by
  intro B f p q tp pre post l b w h hB hpf hq hp
  subst hq
  have H0 := Lib.hid (RdSt.start (rest := [.num, .num, .num, .num]) h hB hpf hp (fr_mark h).2.2.2.1)
  clear h hp
  go_enter Tryz.func82, Tryz.ntmps82
  refine wp_region_lex (fun _ => True) 99 [(0, true), (1, true), (2, true), (3, true), (4, true), (5, true), (6, true), (7, true), (8, true), (9, true), (10, true), (11, true), (12, true), (13, false), (14, false)] (by kernel_rfl) (by kernel_rfl) (by kernel_rfl) (by kernel_rfl) (fun _ _ d _ _ h => by cases d <;> exact h) ?_
  simp only [lexOps, List.map_cons, List.map_nil, List.getD_cons_zero, List.getD_cons_succ]
  iterate 13 (refine lex_read rfl trivial (v := ?_) (fun w' _ => ?_) ?_; rotate_left; (focus (go_simp; try with_reducible rfl)); simp only [Act.put, List.setIfInBounds_toArray, List.set_cons_zero, List.set_cons_succ])
  refine lex_do rfl (fun K hK => ?_)
  go_simp
  refine hK _ _ (fun _ => trivial) ?_
  clear hK K
  refine lex_do rfl (fun K hK => ?_)
  go_simp
  refine (CRd.goNums (rest := []) (k := 4) H0.out ((Upd.refl _ _).alloc _).drew (Nat.le_refl _) (Blk.drew (Blk.new _ _ [_, _, _, _])) (by simp only [fsize_append, fsize_nums, fsize, List.nil_append] <;> rfl) (by decide)).mono ?_
  rintro e w1 ⟨rfl, ns1, l1, b1, hn, h⟩
  have H1 := Lib.hid h
  have HN1 := Lib.hid hn
  clear hn
  refine hK _ _ (fun _ => trivial) ?_
  clear hK K h
  refine lex_nil ?_
  go_wp2_with fail
  go_end0
  exact CRd.fin H1.out (by simp only [List.map_append, nums_fst, HN1.out, List.append_assoc, List.map_cons, List.map_nil, List.nil_append]; rfl)
end Go.Proofs.YthclnpigplcckaaGreat
