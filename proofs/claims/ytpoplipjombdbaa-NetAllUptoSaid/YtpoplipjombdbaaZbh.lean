/- A part that several proofs lean on: texts one behind the other. No condition but those that each theorem states. -/
import Derived.Test.YtpoplipjombdbaaZbg
set_option linter.unusedVariables false
set_option linter.unusedSimpArgs false
/- The reference's entry, read. -/
namespace Go.Proofs.Ytpoplipjombdbaa
open Go.RowKit Go.Lb Go.Rc

set_option maxRecDepth 20000 in
set_option maxHeartbeats 4000000 in
theorem ientry_reads : IReads 81 sEntry := fun B f l b w h => by
  obtain ⟨_, _, hf, hBf⟩ := ir_mark h
  have H := Lib.hid h
  clear h
  go_enter Try.func81, Try.ntmps81
  go_wp2_with (refine wpList_alloc_blk rfl 82 rfl sEntry.zc (zero82 _) ?_; intro w0 hA uA; have HA := Lib.hid hA; have UA := Lib.hid uA; clear hA uA)
  have s0 := HA.out.lt
  have H0 := Lib.hid (IRdG.start ((H.out).upd UA.out (by simp)) (Nat.lt_of_lt_of_le hf UA.out.size) hBf)
  refine (IRd.goNum H0.out).mono ?_
  rintro e w1 ⟨n1, l1, b1, rfl, u, h⟩
  have H1 := Lib.hid h
  clear u h
  go_wp2_with fail
  refine (IRd.goNum H1.out).mono ?_
  rintro e w2 ⟨n2, l2, b2, rfl, u, h⟩
  have H2 := Lib.hid h
  clear u h
  go_wp2_with fail
  refine (IRd.go icmd_reads H2.out).mono ?_
  rintro e w3 ⟨v3, c3, l3, b3, rfl, hl, u, h⟩
  have hl3 : c3.length = 27 := hl
  clear hl
  rw [show argOf sCmd c3 = .agg c3.toArray from rfl]
  have H3 := Lib.hid h
  clear u h
  obtain ⟨cs3, hcs3⟩ : ∃ z : List Value, z = ((([] ++ [.int .i64 n1]) ++ [.int .i64 n2]) ++ c3) := ⟨_, rfl⟩
  have cs3l : cs3.length = 29 := by rw [hcs3]; simp [hl3]
  have HBU : Hid (Try.prog.built 82 [(0, .int .i64 n1), (1, .int .i64 n2), (2, .agg c3.toArray)] = some (cs3 ++ (tup []).zc).toArray) := Lib.hid (by
    have e := built_seq (P := Try.prog) (t := 82) [1, 1, 27] sEntry.zc (by kernel_rfl) (by kernel_rfl) (by rfl) [.int .i64 n1, .int .i64 n2, .agg c3.toArray] [[.int .i64 n1], [.int .i64 n2], c3] rfl (by simp [hl3])
    rw [show List.flatten [[.int .i64 n1], [.int .i64 n2], c3] = cs3 from by rw [hcs3]; simp, show (sEntry.zc).drop cs3.length = (tup []).zc from by rw [cs3l]; rfl] at e
    simp only [List.zipIdx_cons, List.zipIdx_nil, List.map_cons, List.map_nil, Nat.reduceAdd] at e
    exact e)
  have HI := H3.out
  rw [← hcs3] at HI
  have H3 := Lib.hid HI
  have HCS := Lib.hid hcs3
  clear HI hcs3
  have HA3 := Lib.hid (H3.out.upd.blk HA.out (by have := hf; simp; omega))
  have hone := Lib.hid H3.out.one
  go_wp2_with (first | (refine wpList_store_blk rfl 82 (.tmp 2) (.tmp 9) rfl w.heap.size (cs3 ++ (tup []).zc) rfl rfl HA3.out (by rw [show (tup []).zc = [] from rfl, List.append_nil, cs3l]; exact Try.size82) (by rw [show (tup []).zc = [] from rfl, List.append_nil, cs3l]; rfl) (by rw [show (tup []).zc = [] from rfl, List.append_nil]; exact hone.out) ?_; intro wz hz uz) | (refine wpList_buildTo rfl 82 #[(0, .tmp 4), (1, .tmp 6), (2, .tmp 8)] rfl (some 9) rfl (cs3 ++ (tup []).zc).toArray (by have h := HBU.out; simp [Act.eval]; with_reducible exact h) ?_))
  rw [show (tup []).zc = [] from rfl, List.append_nil] at hz
  have hld := run_loadVar_blk (P := Try.prog) hz 82 _ Try.underlying82 rfl (by rw [cs3l]; exact Try.size82)
  refine bodyPost_ret (v := .agg cs3.toArray) ?_ rfl (IRd.fin' H3.out UA.out uz s0 (by omega) (by omega) (Nat.le_refl _) (by simp only [List.map_append, List.map_cons, List.map_nil, List.nil_append, List.append_assoc, List.cons_append]; rfl) (by intro h; cases h) hf)
  simp [results, Try.results81, asAddr, Act.put, hld]
end Go.Proofs.Ytpoplipjombdbaa
/- The reference's In.Bytes. -/
namespace Go.Proofs.Ytpoplipjombdbaa
open Go.RowKit Go.Lb Go.Rc

set_option maxRecDepth 20000 in
set_option maxHeartbeats 4000000 in
theorem ibytes_reads : IReads 83 .raw := fun B f l b w h => by
  obtain ⟨i5, hi5, hz0, hz1, hz2⟩ := infoU8
  have HTT : Hid (Try.prog.underlying 22 = some (.slice (Try.prog.elem 22))) := Lib.hid <| by rw [Try.elem22]; exact Try.underlying22
  obtain ⟨_, _, hf, hBf⟩ := ir_mark h
  have H := Lib.hid h
  clear h
  go_enter Try.func83, Try.ntmps83
  go_wp2_with fail
  refine (inum_post B f l b _ H.out).mono ?_
  rintro e w1 ⟨n, l', b', rfl, h1, h2, h3⟩
  obtain ⟨m1, m2, m3, _⟩ := ir_mark h1
  obtain ⟨k1, k2⟩ := ir_set h1 true
  obtain ⟨a, c, hI⟩ := h1
  have c0 := hI.blk.cell (o := 0) rfl
  have z0 := hI.blk.frozen 0
  obtain ⟨hc1, hc2⟩ := hI.cap
  by_cases hn : 0 ≤ n ∧ n ≤ 65536 ∧ n.toNat ≤ l'.length
  · obtain ⟨k, rfl⟩ : ∃ k : Nat, n = k := ⟨n.toNat, (Int.toNat_of_nonneg hn.1).symm⟩
    simp only [Int.toNat_natCast] at hn
    have hk1 : k ≤ 65536 := by omega
    have hk2 : k ≤ l'.length := by omega
    have t1 : decide ((k : Int) < 0) = false := by simp
    have t2 : decide ((65536 : Int) < (k : Int)) = false := by simp; omega
    have t3 : decide ((l'.length : Int) < (k : Int)) = false := by simp; omega
    have hBt : Bytes w1 (· < B) (suba a 0 c) (l'.take k) := suba_to hI.byte k hc1
    have htl : (l'.take k).length = k := by rw [List.length_take]; omega
    obtain ⟨v2, w2, hrun, hown, hg, hv⟩ := append_bytes (P := Try.prog) (w := w1) (base := w.heap.size) (ty := 22) (c := c) (v := .slice none 0 0) (n := 0) (xs := []) Try.underlying22 hi5 hz0 hz1 hz2 rfl ⟨rfl, .inl ⟨rfl, rfl⟩⟩ hBt (by omega) h2.size
    rw [htl] at hrun
    have u2 : Upd [] w1 w2 := (Upd.refl _ _).grown hg (fun k hk => by simp [Value.ownBlock] at hk)
    have R2 : Hid (Row w.heap.size w2 v2 (l'.take k)) := Lib.hid (by simpa using Row.mk (o := []) (news := l'.take k) hown)
    have hI2 := hI.upd u2 (by simp)
    have d0 := hI2.blk.cell (o := 0) rfl
    have dz := hI2.blk.frozen 0
    have dl := hI2.blk.lt
    have hdl : (l'.drop k).length = l'.length - k := by simp
    obtain ⟨f3, u3⟩ := ir_cut (l2 := l'.drop k) (a' := suba a k c) (c' := c - k) hI2 (suba_from hI2.byte k hc1) (by rw [hdl]; exact ⟨by omega, by omega⟩)
    rw [hdl] at f3 u3
    have hget : ROk Sch.raw.get l b (.raw (l'.take k)) (l'.drop k) b' := by
      constructor
      · intro e
        obtain ⟨g1, g2⟩ := h3.good e
        refine ⟨g1, ?_⟩
        simp only [Sch.get, g2, Int.toNat_natCast]
        rw [if_pos (by omega)]
      · intro e
        exact (h3.bad e).imp id fun h => by simp only [Sch.get, h]
    have HRUN := Lib.hid hrun
    have F3 := Lib.hid f3
    have U3 : Hid (Upd [f] w (w2.setCell ⟨f, 0, none⟩ (.slice (suba a k c) (l'.length - k) (c - k)))) := Lib.hid ((h2.trans u2 (by simp)).trans u3 (by simp))
    have U23 := Lib.hid u3
    have HGET := Lib.hid hget
    have HBY : Hid (∀ x ∈ l'.take k, x < 256) := Lib.hid (fun x hx => by
      obtain ⟨i, hi⟩ := List.mem_iff_getElem?.1 hx
      exact (hBt i x hi).1)
    have hfw := h2.size
    obtain ⟨a2, c2, rfl⟩ := R2.out.shape
    rw [htl] at HRUN R2
    clear h2 h3 k1 k2 hI hI2 hBt hrun hown hg hv u2 f3 u3 hget hn hdl
    go_wp2_with (first | (refine wpList_run (o := ⟨some 31, .slice 22 (.tmp 29) none (some (.tmp 30)) none, _, _, _, _⟩) rfl (exec_sliceAt (by rfl) (by rfl) (by rfl) (by rfl) (sub_h HTT.out Try.elem22 hi5 hz1 (up := k) rfl (by omega))) ?_) | (refine wpList_run (o := ⟨some 39, .slice 22 (.tmp 37) (some (.tmp 38)) none none, _, _, _, _⟩) rfl (exec_sliceAt (by rfl) (by rfl) (by rfl) (by rfl) (sub_l HTT.out Try.elem22 hi5 hz1 (lo := k) rfl (by omega))) ?_) | (at_builtin; refine wpList_run rfl (exec_append (by rfl) (by rfl) (by rfl) HRUN.out) ?_))
    refine bodyPost_ret (results_tmp rfl _ _ _) rfl ?_
    refine ⟨.raw (l'.take k), [.slice a2 k c2], l'.drop k, b', rfl, F3.out, U3.out, ⟨a2, c2, l'.take k, by rw [htl], rfl, ?_⟩, HGET.out, by simp only [Sch.wmax, Sch.most, htl]; omega⟩
    exact (R2.out.bytesN HBY.out htl.symm).updN U23.out (fun x hx => by simp; omega)
  · have hbad : Sch.raw.get l = none ∨ b = true := by
      cases b' with
      | true => exact (h3.bad rfl).symm.imp (fun h => by simp only [Sch.get, h]) id
      | false => left; simp only [Sch.get, (h3.good rfl).2]; rw [if_neg (by omega)]
    have HF : Hid (IPost .raw B f l b w (.returned (.slice none 0 0)) (w1.setCell ⟨f, 1, none⟩ (.bool true))) := Lib.hid ⟨.raw [], [.slice none 0 0], l', true, rfl, k1, h2.trans k2 (by simp), ⟨none, 0, [], rfl, rfl, Bytes.nil _ _ _⟩, ⟨fun e => (by cases e), fun _ => hbad.symm⟩, by simp [Sch.wmax, Sch.most]⟩
    have tn : decide (n < 0) = true ∨ (decide (n < 0) = false ∧ decide (65536 < n) = true) ∨ (decide (n < 0) = false ∧ decide (65536 < n) = false ∧ decide ((l'.length : Int) < n) = true) := by
      by_cases h0 : n < 0
      · left; simpa using h0
      · right
        by_cases h1 : 65536 < n
        · left; exact ⟨by simpa using h0, by simpa using h1⟩
        · right; exact ⟨by simpa using h0, by simpa using h1, by simp; omega⟩
    clear h2 h3 k1 k2 hn hbad hI
    rcases tn with t1 | ⟨t1, t2⟩ | ⟨t1, t2, t3⟩
    all_goals
      go_wp2_with fail
      refine bodyPost_ret (results_tmp rfl _ _ _) rfl ?_
      exact HF.out
end Go.Proofs.Ytpoplipjombdbaa
/- The reference's result, read. -/
namespace Go.Proofs.Ytpoplipjombdbaa
open Go.RowKit Go.Lb Go.Rc

set_option maxRecDepth 20000 in
set_option maxHeartbeats 4000000 in
theorem iresult_reads : IReads 85 sResult := fun B f l b w h => by
  obtain ⟨_, _, hf, hBf⟩ := ir_mark h
  have H := Lib.hid h
  clear h
  go_enter Try.func85, Try.ntmps85
  go_wp2_with (refine wpList_alloc_blk rfl 59 rfl sResult.zc (zero59 _) ?_; intro w0 hA uA; have HA := Lib.hid hA; have UA := Lib.hid uA; clear hA uA)
  have s0 := HA.out.lt
  have H0 := Lib.hid (IRdG.start ((H.out).upd UA.out (by simp)) (Nat.lt_of_lt_of_le hf UA.out.size) hBf)
  refine (IRd.goNum H0.out).mono ?_
  rintro e w1 ⟨n1, l1, b1, rfl, u, h⟩
  have H1 := Lib.hid h
  clear u h
  go_wp2_with fail
  refine (IRd.goNum H1.out).mono ?_
  rintro e w2 ⟨n2, l2, b2, rfl, u, h⟩
  have H2 := Lib.hid h
  clear u h
  go_wp2_with fail
  refine (IRd.goList iallocs_reads H2.out).mono ?_
  rintro e w3 ⟨a3, m3, c3, v3, l3, b3, rfl, u, h⟩
  have H3 := Lib.hid h
  clear u h
  obtain ⟨cs3, hcs3⟩ : ∃ z : List Value, z = ((([] ++ [.int .i64 n1]) ++ [.int .i64 n2]) ++ [.slice a3 m3 c3]) := ⟨_, rfl⟩
  have cs3l : cs3.length = 3 := by rw [hcs3]; simp
  have HBU : Hid (Try.prog.built 59 [(0, .int .i64 n1), (1, .int .i64 n2), (2, .slice a3 m3 c3)] = some (cs3 ++ (tup []).zc).toArray) := Lib.hid (by
    have e := built_seq (P := Try.prog) (t := 59) [1, 1, 1] sResult.zc (by kernel_rfl) (by kernel_rfl) (by rfl) [.int .i64 n1, .int .i64 n2, .slice a3 m3 c3] [[.int .i64 n1], [.int .i64 n2], [.slice a3 m3 c3]] rfl (by simp [])
    rw [show List.flatten [[.int .i64 n1], [.int .i64 n2], [.slice a3 m3 c3]] = cs3 from by rw [hcs3]; simp, show (sResult.zc).drop cs3.length = (tup []).zc from by rw [cs3l]; rfl] at e
    simp only [List.zipIdx_cons, List.zipIdx_nil, List.map_cons, List.map_nil, Nat.reduceAdd] at e
    exact e)
  have HI := H3.out
  rw [← hcs3] at HI
  have H3 := Lib.hid HI
  have HCS := Lib.hid hcs3
  clear HI hcs3
  have HA3 := Lib.hid (H3.out.upd.blk HA.out (by have := hf; simp; omega))
  have hone := Lib.hid H3.out.one
  go_wp2_with (first | (refine wpList_store_blk rfl 59 (.tmp 2) (.tmp 9) rfl w.heap.size (cs3 ++ (tup []).zc) rfl rfl HA3.out (by rw [show (tup []).zc = [] from rfl, List.append_nil, cs3l]; exact Try.size59) (by rw [show (tup []).zc = [] from rfl, List.append_nil, cs3l]; rfl) (by rw [show (tup []).zc = [] from rfl, List.append_nil]; exact hone.out) ?_; intro wz hz uz) | (refine wpList_buildTo rfl 59 #[(0, .tmp 4), (1, .tmp 6), (2, .tmp 8)] rfl (some 9) rfl (cs3 ++ (tup []).zc).toArray (by have h := HBU.out; simp [Act.eval]; with_reducible exact h) ?_))
  rw [show (tup []).zc = [] from rfl, List.append_nil] at hz
  have hld := run_loadVar_blk (P := Try.prog) hz 59 _ Try.underlying59 rfl (by rw [cs3l]; exact Try.size59)
  refine bodyPost_ret (v := .agg cs3.toArray) ?_ rfl (IRd.fin' H3.out UA.out uz s0 (by omega) (by omega) (Nat.le_refl _) (by simp only [List.map_append, List.map_cons, List.map_nil, List.nil_append, List.append_assoc, List.cons_append]; rfl) (by intro h; cases h) hf)
  simp [results, Try.results85, asAddr, Act.put, hld]
end Go.Proofs.Ytpoplipjombdbaa
/- The reference's msg, read. -/
namespace Go.Proofs.Ytpoplipjombdbaa
open Go.RowKit Go.Lb Go.Rc

set_option maxRecDepth 20000 in
set_option maxHeartbeats 4000000 in
theorem imsg_reads : IReads 52 sMsg := fun B f l b w h => by
  obtain ⟨_, _, hf, hBf⟩ := ir_mark h
  have H := Lib.hid h
  clear h
  go_enter Try.func52, Try.ntmps52
  go_wp2_with (refine wpList_alloc_blk rfl 61 rfl sMsg.zc (zero61 _) ?_; intro w0 hA uA; have HA := Lib.hid hA; have UA := Lib.hid uA; clear hA uA)
  have s0 := HA.out.lt
  have H0 := Lib.hid (IRdG.start ((H.out).upd UA.out (by simp)) (Nat.lt_of_lt_of_le hf UA.out.size) hBf)
  refine (IRd.goNum H0.out).mono ?_
  rintro e w1 ⟨n1, l1, b1, rfl, u, h⟩
  have H1 := Lib.hid h
  clear u h
  go_wp2_with fail
  refine (IRd.goNum H1.out).mono ?_
  rintro e w2 ⟨n2, l2, b2, rfl, u, h⟩
  have H2 := Lib.hid h
  clear u h
  go_wp2_with fail
  refine (IRd.goNum H2.out).mono ?_
  rintro e w3 ⟨n3, l3, b3, rfl, u, h⟩
  have H3 := Lib.hid h
  clear u h
  go_wp2_with fail
  refine (IRd.goNum H3.out).mono ?_
  rintro e w4 ⟨n4, l4, b4, rfl, u, h⟩
  have H4 := Lib.hid h
  clear u h
  go_wp2_with fail
  refine (IRd.goNum H4.out).mono ?_
  rintro e w5 ⟨n5, l5, b5, rfl, u, h⟩
  have H5 := Lib.hid h
  clear u h
  go_wp2_with fail
  refine (IRd.goNum H5.out).mono ?_
  rintro e w6 ⟨n6, l6, b6, rfl, u, h⟩
  have H6 := Lib.hid h
  clear u h
  go_wp2_with fail
  refine (IRd.goNum H6.out).mono ?_
  rintro e w7 ⟨n7, l7, b7, rfl, u, h⟩
  have H7 := Lib.hid h
  clear u h
  go_wp2_with fail
  refine (IRd.goFlag H7.out).mono ?_
  rintro e w8 ⟨n8, l8, b8, rfl, u, h⟩
  have H8 := Lib.hid h
  clear u h
  go_wp2_with fail
  refine (IRd.goNum H8.out).mono ?_
  rintro e w9 ⟨n9, l9, b9, rfl, u, h⟩
  have H9 := Lib.hid h
  clear u h
  go_wp2_with fail
  refine (IRd.goNum H9.out).mono ?_
  rintro e w10 ⟨n10, l10, b10, rfl, u, h⟩
  have H10 := Lib.hid h
  clear u h
  go_wp2_with fail
  refine (IRd.goNum H10.out).mono ?_
  rintro e w11 ⟨n11, l11, b11, rfl, u, h⟩
  have H11 := Lib.hid h
  clear u h
  go_wp2_with fail
  refine (IRd.goNum H11.out).mono ?_
  rintro e w12 ⟨n12, l12, b12, rfl, u, h⟩
  have H12 := Lib.hid h
  clear u h
  obtain ⟨cs12, hcs12⟩ : ∃ z : List Value, z = (((((((((((([] ++ [.int .i64 n1]) ++ [.int .i64 n2]) ++ [.int .i64 n3]) ++ [.int .i64 n4]) ++ [.int .i64 n5]) ++ [.int .i64 n6]) ++ [.int .i64 n7]) ++ [.bool n8]) ++ [.int .i64 n9]) ++ [.int .i64 n10]) ++ [.int .i64 n11]) ++ [.int .i64 n12]) := ⟨_, rfl⟩
  have cs12l : cs12.length = 12 := by rw [hcs12]; simp
  have HBU : Hid (Try.prog.built 61 [(0, .int .i64 n1), (1, .int .i64 n2), (2, .int .i64 n3), (3, .int .i64 n4), (4, .int .i64 n5), (5, .int .i64 n6), (6, .int .i64 n7), (7, .bool n8), (8, .int .i64 n9), (9, .int .i64 n10), (10, .int .i64 n11), (11, .int .i64 n12)] = some (cs12 ++ (tup [.list sEntry, sConf, .raw, sCmd, sResult]).zc).toArray) := Lib.hid (by
    have e := built_seq (P := Try.prog) (t := 61) [1, 1, 1, 1, 1, 1, 1, 1, 1, 1, 1, 1, 1, 2, 1, 27, 3] sMsg.zc (by kernel_rfl) (by kernel_rfl) (by rfl) [.int .i64 n1, .int .i64 n2, .int .i64 n3, .int .i64 n4, .int .i64 n5, .int .i64 n6, .int .i64 n7, .bool n8, .int .i64 n9, .int .i64 n10, .int .i64 n11, .int .i64 n12] [[.int .i64 n1], [.int .i64 n2], [.int .i64 n3], [.int .i64 n4], [.int .i64 n5], [.int .i64 n6], [.int .i64 n7], [.bool n8], [.int .i64 n9], [.int .i64 n10], [.int .i64 n11], [.int .i64 n12]] rfl (by simp [])
    rw [show List.flatten [[.int .i64 n1], [.int .i64 n2], [.int .i64 n3], [.int .i64 n4], [.int .i64 n5], [.int .i64 n6], [.int .i64 n7], [.bool n8], [.int .i64 n9], [.int .i64 n10], [.int .i64 n11], [.int .i64 n12]] = cs12 from by rw [hcs12]; simp, show (sMsg.zc).drop cs12.length = (tup [.list sEntry, sConf, .raw, sCmd, sResult]).zc from by rw [cs12l]; rfl] at e
    simp only [List.zipIdx_cons, List.zipIdx_nil, List.map_cons, List.map_nil, Nat.reduceAdd] at e
    exact e)
  have HI := H12.out
  rw [← hcs12] at HI
  have H12 := Lib.hid HI
  have HCS := Lib.hid hcs12
  clear HI hcs12
  have HA12 := Lib.hid (H12.out.upd.blk HA.out (by have := hf; simp; omega))
  have hone := Lib.hid H12.out.one
  go_wp2_with (first | (refine wpList_alloc_blk rfl 61 rfl sMsg.zc (zero61 _) ?_; intro wP hP uP; have HP := Lib.hid hP; have UP := Lib.hid uP; clear hP uP) | (refine wpList_store_blk rfl 61 (.tmp 3) (.tmp 30) rfl w12.heap.size (cs12 ++ (tup [.list sEntry, sConf, .raw, sCmd, sResult]).zc) rfl rfl HP.out (by rw [List.length_append, cs12l]; exact Try.size61) (by rw [List.length_append, cs12l]; rfl) (by intro u hu; rcases List.mem_append.1 hu with hu | hu; exact hone.out u hu; exact Sch.zc_one _ u hu) ?_; intro wQ hQ uQ; have HQ := Lib.hid hQ; have UQ := Lib.hid uQ; clear hQ uQ) | (refine wpList_buildTo rfl 61 #[(0, .tmp 7), (1, .tmp 9), (2, .tmp 11), (3, .tmp 13), (4, .tmp 15), (5, .tmp 17), (6, .tmp 19), (7, .tmp 21), (8, .tmp 23), (9, .tmp 25), (10, .tmp 27), (11, .tmp 29)] rfl (some 30) rfl (cs12 ++ (tup [.list sEntry, sConf, .raw, sCmd, sResult]).zc).toArray (by have h := HBU.out; simp [Act.eval]; with_reducible exact h) ?_))
  obtain ⟨p, hp⟩ : ∃ p, p = w12.heap.size := ⟨_, rfl⟩
  have hpp : w0.heap.size ≤ p := by rw [hp]; exact H12.out.upd.size
  have hI := ((H12.out.apart UP.out (Nat.le_refl _) HP.out.lt).on UQ.out (by simp))
  have hB := HQ.out
  have hA := (UQ.out.blk (UP.out.blk HA12.out (by simp)) (by have := H12.out.upd.size; simp; omega))
  rw [← hp] at hI hB ⊢
  have H12 := Lib.hid hI
  have HB12 := Lib.hid hB
  have HA12 := Lib.hid hA
  clear hI hB hA hp
  have hpl := (H12.out.low.2.2 p (by simp)).2
  have hfw := H12.out.low.1
  refine (icount_post B f _ _ _ H12.out.fr).mono ?_
  rintro e wjr13 ⟨kr13, ljr13, bjr13, rfl, hkr13, h1, h2, h3⟩
  have HBj : Hid (Blk wjr13 p 61 (cs12 ++ [.slice none 0 0] ++ (tup [sConf, .raw, sCmd, sResult]).zc)) := Lib.hid (by have := IRd.blkf H12.out h2 HB12.out; simpa only [tup, Sch.zc, List.append_assoc, List.cons_append, List.nil_append] using this)
  have hfr13 := Nat.lt_of_lt_of_le hfw H12.out.upd.size
  have hpr13 := (H12.out.low.2.2 p (by simp)).2
  obtain ⟨iTr13, hiTr13, hz0r13, hz1r13, hz2r13⟩ := info82
  have HSr13 : Hid (LRdSt sEntry 116 oW [f, p] B f 82 29 wQ wjr13 kr13 l12 b12 0 ljr13 bjr13 (.slice none 0 0) [] []) := Lib.hid (LRdSt.start h1 (h2.mono (by simp)) (by simp; omega) h3)
  clear h1 h2 h3
  go_wp2_with fail
  go_loopg [5] kr13 (fun g t wr => ∃ (i : Nat) (l' : List Nat) (b' : Bool) (v : Value) (xss : List (List Value)) (xs : List Val), t = .int .i64 i ∧ kr13 - i = g ∧ i ≤ kr13 ∧ Blk wr p 61 (cs12 ++ [v] ++ (tup [sConf, .raw, sCmd, sResult]).zc) ∧ LRdSt sEntry 116 oW [f, p] B f 82 29 wQ wr kr13 l12 b12 i l' b' v xss xs ∧ ∀ y ∈ xs, Sch.wmax sEntry y ≤ Sch.most sEntry)
  case atStart => exact ⟨0, ljr13, bjr13, _, [], [], rfl, rfl, by omega, HBj.out, HSr13.out, by simp⟩
  case round =>
    obtain ⟨i, l', b', v, xss, xs, rfl, hg, hi, hbk, hS, hmx⟩ := hrel
    have hsz := hS.upd.size
    have hrow := hS.row
    obtain ⟨a, c, rfl⟩ := own_shape' hrow
    have c0 : wr.cell? ⟨p, 12, none⟩ = some (.slice a i c) := by have := hbk.cell (o := cs12.length) mid_at; rwa [cs12l] at this
    have HG := Lib.hid hg
    have HBK := Lib.hid hbk
    have HST := Lib.hid hS
    have HMX := Lib.hid hmx
    have hpn : p ∉ (Value.slice a i c).ownBlock.toList := fun hm => by have := own_lo HST.out.row (g := p) (by simpa using hm); omega
    have hfn : f ∉ (Value.slice a i c).ownBlock.toList := fun hm => by have := own_lo HST.out.row (g := f) (by simpa using hm); omega
    have HPN := Lib.hid hpn
    have HFN := Lib.hid hfn
    clear hg hbk hS hmx hrow hpn hfn
    by_cases hlt : i < kr13
    · have t1 : decide (i < kr13) = true := by simpa using hlt
      have HR : Hid (∀ w', Upd (f :: (Value.slice a i c).ownBlock.toList) wr w' → w'.cell? ⟨p, 12, none⟩ = some (.slice a i c)) := Lib.hid (fun w' u => (u.cell (a := ⟨p, 12, none⟩) (by show p < wr.heap.size; omega) (by simp only [List.mem_cons, not_or]; exact ⟨by omega, HPN.out⟩)).trans c0)
      go_wp2_with fail
      refine wp_region_lex (fun w' => Upd (f :: (Value.slice a i c).ownBlock.toList) wr w') 7 [(0, true), (1, true), (2, true), (3, false), (4, false), (5, false), (6, false), (7, false)] (by kernel_rfl) (by kernel_rfl) (by kernel_rfl) (by kernel_rfl) (fun _ _ d _ _ h => by cases d <;> exact h) ?_
      simp only [lexOps, List.map_cons, List.map_nil, List.getD_cons_zero, List.getD_cons_succ]
      have hU0 : Upd [] wr wr.drew := (Upd.refl _ _).drew
      have hS0 : Upd (f :: (Value.slice a i c).ownBlock.toList) wr wr.drew := (Upd.refl _ _).drew
      iterate 3 (refine lex_read rfl (by exact hS0) (v := ?_) (fun w' hw => ?_) ?_; rotate_left; (focus (have k1 := HR.out w' hw; go_simp; try with_reducible rfl)); simp only [Act.put, List.setIfInBounds_toArray, List.set_cons_zero, List.set_cons_succ])
      have HE0 := Lib.hid ((IRdG.start HST.out.fr (by show f < wr.heap.size; omega) hBf).same hU0)
      have hmon : ∀ {w' : World}, Upd [f] wr w' → Upd (f :: (Value.slice a i c).ownBlock.toList) wr w' := fun u => u.mono (fun x hx => .inl (by simp at hx; simp [hx]))
      refine lex_do rfl (fun K hK => ?_)
      go_simp
      refine (ientry_reads B f l' b' _ HE0.out.fr).mono ?_
      rintro e wE1 ⟨x, us, lE1, bE1, rfl, h1, h2, h4, h5, h6⟩
      rw [show argOf sEntry us = .agg us.toArray from rfl]
      have hus : us.length = 29 := h4.len
      have h2 := (hU0.mono (by simp)).trans h2 (fun y hy => .inl hy)
      refine hK _ _ (fun _ => hmon h2) ?_
      clear hK K
      try simp only [Act.put, List.setIfInBounds_toArray, List.set_cons_zero, List.set_cons_succ]
      have hone := h4.one
      have hbp : Blk wE1 p 61 (cs12 ++ [.slice a i c] ++ (tup [sConf, .raw, sCmd, sResult]).zc) := h2.blk HBK.out (by simp; omega)
      have hrw : wE1.ownsRow wQ.heap.size 82 29 (.slice a i c) i xss.flatten := h2.row HST.out.row (by intro y hy; have := own_lo HST.out.row hy; simp; omega)
      have s2 := h2.size
      have HUSx := Lib.hid hus
      have HONEx := Lib.hid hone
      have HBPx := Lib.hid hbp
      have HRWx := Lib.hid hrw
      have H1x := Lib.hid h1
      have H2x := Lib.hid h2
      have H4x := Lib.hid h4
      have H5x := Lib.hid h5
      have H6x := Lib.hid h6
      clear hus hone hbp hrw h1 h2 h4 h5 h6
      refine lex_run rfl (exec_buildSlice (by rfl) (by simp [Act.eval]) (run_buildSlice1 _ 57 82 iTr13 _ us 29 Try.underlying57 hiTr13 hz0r13 hz1r13 HUSx.out (by decide) (by decide))) (fun _ => hmon (H2x.out.alloc _)) ?_
      try simp only [Act.put, List.setIfInBounds_toArray, List.set_cons_zero, List.set_cons_succ]
      have h64 : kr13 ≤ 64 := hkr13
      refine lex_do rfl (fun K hK => ?_)
      refine wp_append_mine (.tmp 39) (.tmp 42) 57 rfl wQ.heap.size 82 iTr13 _ 29 _ Try.underlying57 hiTr13 hz0r13 hz1r13 hz2r13 rfl (by decide) (.slice a i c) i xss.flatten rfl (World.ownsRow.alloc HRWx.out _) ⟨wE1.heap.size, 0, none⟩ 1 1 us rfl (by rw [HUSx.out]) (Blk.news (Blk.new _ 82 us)) HONEx.out (by unfold maxLen; omega) (by omega) (by simp; omega) ?_
      intro v' w3 hown hgr hv
      have uA : Upd [f, p] wr (wE1.alloc (.cells us.toArray 82)) := (H2x.out.alloc _).mono (by simp)
      have hI : Ir B w3 f lE1 bE1 := (H1x.out.upd (F := []) ((Upd.refl [] wE1).alloc _) (by simp)).upd (F := (Value.slice a i c).ownBlock.toList) ((Upd.refl _ _).grown hgr (fun k hk => .inl (by simp [hk]))) (fun k hk => ⟨fun e => HFN.out (e ▸ hk), by have := own_lo HST.out.row (g := k) (by simpa using hk); omega⟩)
      have hbp3 : Blk w3 p 61 (cs12 ++ [.slice a i c] ++ (tup [sConf, .raw, sCmd, sResult]).zc) := by
        have hb4 : Blk (wE1.alloc (.cells us.toArray 82)) p 61 (cs12 ++ [.slice a i c] ++ (tup [sConf, .raw, sCmd, sResult]).zc) := HBPx.out.alloc _
        refine (hgr.block p hb4.lt (fun e => HPN.out (by simp [← e]))).trans hb4
      have q1 : w3.cell? ⟨p, 12, none⟩ = some (.slice a i c) := by have := hbp3.cell (o := cs12.length) mid_at; rwa [cs12l] at this
      have q2 := hbp3.frozen 12
      have q3 := hbp3.lt
      have uS : Upd [p] w3 (w3.setCell ⟨p, 12, none⟩ v') := (Upd.refl _ _).setCell (by simp) _
      have HX : Hid (Blk (w3.setCell ⟨p, 12, none⟩ v') p 61 (cs12 ++ [v'] ++ (tup [sConf, .raw, sCmd, sResult]).zc) ∧ LRdSt sEntry 116 oW [f, p] B f 82 29 wQ (w3.setCell ⟨p, 12, none⟩ v') kr13 l12 b12 (i + 1) lE1 bE1 v' (xss ++ [us]) (xs ++ [x])) := by
        refine Lib.hid ⟨?_, LRdSt.next HST.out hlt uA (H4x.out.updN ((Upd.refl [] wE1).alloc _) (by simp)) HUSx.out H5x.out hgr hown (by rcases hv with h | h; exact .inl h; exact .inr h) (uS.mono (by simp)) (hI.upd uS (by simp; omega))⟩
        have := hbp3.set cs12.length v'
        rw [mid_set, cs12l] at this
        exact this
      have hS3 : Upd (f :: (Value.slice a i c).ownBlock.toList) wr w3 := (hmon (H2x.out.alloc _)).grown hgr (fun k hk => .inl (by simp [hk]))
      obtain ⟨a3, c3, rfl⟩ := own_shape' hown
      refine hK _ _ (fun _ => hS3) ?_
      clear hK K hown hgr hv uA hI hbp3 uS hmon
      try simp only [Act.put, List.setIfInBounds_toArray, List.set_cons_zero, List.set_cons_succ]
      refine lex_do rfl (fun K hK => ?_)
      go_simp
      refine hK _ _ (fun _ => hS3) ?_
      clear hK K
      try simp only [Act.put, List.setIfInBounds_toArray, List.set_cons_zero, List.set_cons_succ]
      refine lex_do rfl (fun K hK => ?_)
      go_simp
      refine hK _ _ (fun h => absurd rfl h) ?_
      clear hK K hS3
      refine lex_nil ?_
      go_wp2_with fail
      go_roundg (kr13 - (i + 1))
      case measure => have := HG.out; omega
      case rel => exact ⟨i + 1, lE1, bE1, _, _, _, by go_num, rfl, by omega, HX.out.1, HX.out.2, fun y hy => by
        rcases List.mem_append.1 hy with hy | hy
        · exact HMX.out y hy
        · simp at hy; subst hy; exact H6x.out⟩
    · obtain rfl : i = kr13 := by omega
      have t1 : decide (i < i) = false := by simp
      have hmost : Sch.wmax (.list sEntry) (.list xs) ≤ Sch.most (.list sEntry) := by
        have h1 := sum_le_mul (l := xs.map (Sch.wmax sEntry)) (m := Sch.most sEntry) (fun y hy => by
          obtain ⟨z, hz, rfl⟩ := List.mem_map.1 hy
          exact HMX.out z hz)
        rw [List.length_map, HST.out.cnt.2] at h1
        have h2 : i * Sch.most sEntry ≤ 64 * Sch.most sEntry := Nat.mul_le_mul_right _ hkr13
        simp only [Sch.wmax, Sch.most] at h1 h2 ⊢
        omega
      have hN := H12.out.next (F := [p]) (s := .list sEntry) (v := .list xs) (c := [.slice a i c]) HST.out.fr HST.out.upd (by simp) HST.out.isRep (HST.out.rd (.inr rfl)) hmost
      have hA := HST.out.upd.blk HA12.out (by simp; omega)
      have hB := HBK.out
      obtain ⟨csr13, hcc⟩ : ∃ z, z = cs12 ++ [Value.slice a i c] := ⟨_, rfl⟩
      have csr13l : csr13.length = 13 := by rw [hcc, List.length_append, cs12l]; rfl
      rw [← hcc] at hN hB
      obtain ⟨wsr13, hz⟩ : ∃ z, z = wr := ⟨_, rfl⟩
      subst hz
      obtain ⟨lsr13, hz⟩ : ∃ z, z = l' := ⟨_, rfl⟩
      subst hz
      obtain ⟨bsr13, hz⟩ : ∃ z, z = b' := ⟨_, rfl⟩
      subst hz
      have Hr13 := Lib.hid hN
      have HBr13 := Lib.hid hB
      have HAr13 := Lib.hid hA
      clear hN hB hA hcc hmost
      go_wp2_with fail
      refine (IRd.go iconf_reads Hr13.out).mono ?_
      rintro e wr14 ⟨vr14, cr14, lr14, br14, rfl, hl, u, h⟩
      have hlr14 : cr14.length = 2 := hl
      clear hl
      rw [show argOf sConf cr14 = .agg cr14.toArray from rfl]
      have hb := IRd.blkf Hr13.out u HBr13.out
      have ha := u.blk HAr13.out (by have := hf; simp; omega)
      have hone := Lib.hid h.onec
      have HQb := Lib.hid hb
      have HQh := Lib.hid h
      have HQa := Lib.hid ha
      clear hb h ha u
      go_wp2_with (first | (refine wpList_store_cs rfl 47 _ _ rfl p 13 cr14 rfl rfl HQb.out (by rw [List.length_append, csr13l, hlr14]; decide) (by rw [hlr14]; exact Try.size47) hone.out ?_; intro wNr14 hN; have q := IRd.storeN (s := sConf) (o := 13) HQh.out HQb.out hlr14 csr13l.symm; rw [← hN] at q; have ha2 : Blk wNr14 w.heap.size 61 sMsg.zc := (by rw [hN]; exact (Upd.setCells (F := [p]) _ _ _ _ _ (Upd.refl _ _) (by simp)).blk HQa.out (by simp; omega)); have Hq := Lib.hid q; have Ha2 := Lib.hid ha2; clear q ha2 hN) | fail)
      have q := Hq.out
      obtain ⟨csr14, hcc⟩ : ∃ z, z = csr13 ++ cr14 := ⟨_, rfl⟩
      rw [← hcc] at q
      have csr14l : csr14.length = 15 := by rw [hcc, List.length_append, csr13l, hlr14]
      have Hr14 := Lib.hid q.1
      have HBr14 := Lib.hid q.2
      have HAr14 := Ha2
      clear q hcc Hq
      refine (IRd.goRaw ibytes_reads Hr14.out).mono ?_
      rintro e wr15 ⟨ar15, mr15, cr15, vr15, lr15, br15, rfl, u, h⟩
      have hb := IRd.blkf Hr14.out u HBr14.out
      have ha := u.blk HAr14.out (by have := hf; simp; omega)
      have k1 : wr15.cell? ⟨p, 15, none⟩ = some (.slice none 0 0) := hb.cell (by rw [List.getElem?_append_right (by omega), show 15 - csr14.length = 0 by omega]; rfl)
      have k2 := hb.frozen 15
      have k3 := hb.lt
      have q := IRd.store1 (s := .raw) (o := 15) h hb rfl csr14l.symm
      have ha2 : Blk (wr15.setCell ⟨p, 15, none⟩ (.slice ar15 mr15 cr15)) w.heap.size 61 sMsg.zc := ha.other (a := ⟨p, 15, none⟩) (by show w.heap.size ≠ p; omega) _
      obtain ⟨csr15, hcc⟩ : ∃ z, z = csr14 ++ [.slice ar15 mr15 cr15] := ⟨_, rfl⟩
      rw [← hcc] at q
      have csr15l : csr15.length = 16 := by rw [hcc, List.length_append, csr14l]; rfl
      have Hr15 := Lib.hid q.1
      have HBr15 := Lib.hid q.2
      have HAr15 := Lib.hid ha2
      clear q ha ha2 hb hcc u h
      go_wp2_with fail
      refine (IRd.go icmd_reads Hr15.out).mono ?_
      rintro e wr16 ⟨vr16, cr16, lr16, br16, rfl, hl, u, h⟩
      have hlr16 : cr16.length = 27 := hl
      clear hl
      rw [show argOf sCmd cr16 = .agg cr16.toArray from rfl]
      have hb := IRd.blkf Hr15.out u HBr15.out
      have ha := u.blk HAr15.out (by have := hf; simp; omega)
      have hone := Lib.hid h.onec
      have HQb := Lib.hid hb
      have HQh := Lib.hid h
      have HQa := Lib.hid ha
      clear hb h ha u
      go_wp2_with (first | (refine wpList_store_cs rfl 49 _ _ rfl p 16 cr16 rfl rfl HQb.out (by rw [List.length_append, csr15l, hlr16]; decide) (by rw [hlr16]; exact Try.size49) hone.out ?_; intro wNr16 hN; have q := IRd.storeN (s := sCmd) (o := 16) HQh.out HQb.out hlr16 csr15l.symm; rw [← hN] at q; have ha2 : Blk wNr16 w.heap.size 61 sMsg.zc := (by rw [hN]; exact (Upd.setCells (F := [p]) _ _ _ _ _ (Upd.refl _ _) (by simp)).blk HQa.out (by simp; omega)); have Hq := Lib.hid q; have Ha2 := Lib.hid ha2; clear q ha2 hN) | fail)
      have q := Hq.out
      obtain ⟨csr16, hcc⟩ : ∃ z, z = csr15 ++ cr16 := ⟨_, rfl⟩
      rw [← hcc] at q
      have csr16l : csr16.length = 43 := by rw [hcc, List.length_append, csr15l, hlr16]
      have Hr16 := Lib.hid q.1
      have HBr16 := Lib.hid q.2
      have HAr16 := Ha2
      clear q hcc Hq
      refine (IRd.go iresult_reads Hr16.out).mono ?_
      rintro e wr17 ⟨vr17, cr17, lr17, br17, rfl, hl, u, h⟩
      have hlr17 : cr17.length = 3 := hl
      clear hl
      rw [show argOf sResult cr17 = .agg cr17.toArray from rfl]
      have hb := IRd.blkf Hr16.out u HBr16.out
      have ha := u.blk HAr16.out (by have := hf; simp; omega)
      have hone := Lib.hid h.onec
      have HQb := Lib.hid hb
      have HQh := Lib.hid h
      have HQa := Lib.hid ha
      clear hb h ha u
      go_wp2_with (first | (refine wpList_store_cs rfl 59 _ _ rfl p 43 cr17 rfl rfl HQb.out (by rw [List.length_append, csr16l, hlr17]; decide) (by rw [hlr17]; exact Try.size59) hone.out ?_; intro wNr17 hN; have q := IRd.storeN (s := sResult) (o := 43) HQh.out HQb.out hlr17 csr16l.symm; rw [← hN] at q; have ha2 : Blk wNr17 w.heap.size 61 sMsg.zc := (by rw [hN]; exact (Upd.setCells (F := [p]) _ _ _ _ _ (Upd.refl _ _) (by simp)).blk HQa.out (by simp; omega)); have Hq := Lib.hid q; have Ha2 := Lib.hid ha2; clear q ha2 hN) | (refine wpList_load_blk rfl 61 (.tmp 3) rfl p rfl Hq.out.2 Try.underlying61 rfl (by simp only [show (tup []).zc = [] from rfl, List.append_nil, List.length_append, csr16l, hlr17]; exact Try.size61) ?_) | (refine wpList_store_blk rfl 61 (.tmp 2) (.tmp 57) rfl w.heap.size (csr16 ++ cr17 ++ (tup []).zc) rfl rfl Ha2.out (by simp only [show (tup []).zc = [] from rfl, List.append_nil, List.length_append, csr16l, hlr17]; exact Try.size61) (by simp only [show (tup []).zc = [] from rfl, List.append_nil, List.length_append, csr16l, hlr17]; rfl) (by rw [show (tup []).zc = [] from rfl, List.append_nil]; exact Hq.out.1.one) ?_; intro wz hz uz))
      rw [show (tup []).zc = [] from rfl, List.append_nil] at hz
      have hld := run_loadVar_blk (P := Try.prog) hz 61 _ Try.underlying61 rfl (by simp only [List.length_append, csr16l, hlr17]; exact Try.size61)
      refine bodyPost_ret (v := .agg ((csr16 ++ cr17)).toArray) ?_ rfl (IRd.fin' Hq.out.1 UA.out uz s0 (by omega) (by omega) (Nat.le_refl _) (by simp only [List.map_append, List.map_cons, List.map_nil, List.nil_append, List.append_assoc, List.cons_append]; rfl) (by intro h; cases h) hf)
      simp [results, Try.results52, asAddr, Act.put, hld]
end Go.Proofs.Ytpoplipjombdbaa
/- The reference's GetMsg. -/
namespace Go.Proofs.Ytpoplipjombdbaa
open Go.RowKit Go.Lb Go.Rc

set_option maxRecDepth 20000 in
set_option maxHeartbeats 4000000 in
theorem rgetMsg_gets : Gets 33 sMsg := by
  intro a c l w hb hc
  have HB := Lib.hid hb
  have HC := Lib.hid hc
  have HL256 : Hid (∀ x ∈ l, x < 256) := Lib.hid (fun x hx => by
    obtain ⟨i, hi⟩ := List.mem_iff_getElem?.1 hx
    exact (hb i x hi).1)
  have HBU : Hid (Try.prog.built 116 [(0, .slice a l.length c)] = some #[.slice a l.length c, .bool false]) := Lib.hid (by
    have e := built_seq (P := Try.prog) (t := 116) [1, 1] [.slice none 0 0, .bool false] (by kernel_rfl) (by kernel_rfl) (by rfl) [.slice a l.length c] [[.slice a l.length c]] rfl (by simp)
    simpa using e)
  have HBZ : Hid (Try.prog.built 61 [] = some sMsg.zc.toArray) := Lib.hid (by kernel_rfl)
  clear hb hc
  go_enter Try.func33, Try.ntmps33
  go_wp2_with (first | (refine wpList_alloc_blk rfl 61 rfl sMsg.zc (zero61 _) ?_; intro w0 hA uA; have HA := Lib.hid hA; have UA := Lib.hid uA; clear hA uA) | (refine wpList_buildTo rfl 116 #[(0, .tmp 8)] rfl (some 9) rfl #[.slice a l.length c, .bool false] (by have h := HBU.out; simp [Act.eval]; with_reducible exact h) ?_))
  have s0 := HA.out.lt
  obtain ⟨wI, hwI⟩ : ∃ z, z = w0.alloc (.cells #[.slice a l.length c, .bool false] 116) := ⟨_, rfl⟩
  have hbI : Blk wI w0.heap.size 116 [.slice a l.length c, .bool false] := by rw [hwI]; exact Blk.new _ _ _
  have uI : Upd [] w0 wI := by rw [hwI]; exact (Upd.refl _ _).alloc _
  have hIr : Ir w0.heap.size wI w0.heap.size l false := ⟨a, c, hbI, ((HB.out.upd UA.out (by simp)).keep (ok' := (· < w0.heap.size)) (fun k hk hl => ⟨hl, rfl⟩) (Nat.le_refl _)).upd uI (by simp), HC.out, Nat.le_refl _⟩
  have HIr := Lib.hid hIr
  have UI := Lib.hid uI
  have sI := hbI.lt
  rw [← hwI]
  clear hwI hbI uI hIr
  refine (imsg_reads _ _ l false wI HIr.out).mono ?_
  rintro e w1 ⟨v, cs, l', b', rfl, h1, h2, h3, h4, h5⟩
  rw [show argOf sMsg cs = .agg cs.toArray from rfl]
  have hcl : cs.length = 46 := h3.len
  have HONE := Lib.hid h3.one
  have H1 := Lib.hid h1
  have U1 : Hid (Upd [] w0 w1) := Lib.hid (UI.out.trans h2 (by simp))
  have H3 : Hid (Sch.Rep w1 (fun k => w0.heap.size < k ∧ Soft w1 k) sMsg cs v) := Lib.hid (h3.mono (fun k hk _ => ⟨by have := hk.1; omega, hk.2⟩))
  have H4 := Lib.hid h4
  have H5 := Lib.hid h5
  have HA1 := Lib.hid (U1.out.blk HA.out (by simp))
  have hf1 := (ir_mark h1).2.2.1
  clear h1 h2 h3 h4 h5
  obtain ⟨g, hg⟩ := good_dec sMsg v
  obtain ⟨p, hp⟩ : ∃ p, p = bytesOf g sMsg v := ⟨_, rfl⟩
  have HG := Lib.hid hg
  have HP := Lib.hid hp
  clear hg hp
  go_wp2_with (first | (refine wpList_alloc_blk rfl 61 rfl sMsg.zc (zero61 _) ?_; intro wP hP uP; have HPb := Lib.hid hP; have UP := Lib.hid uP; clear hP uP) | (refine wpList_store_blk rfl 61 (.tmp 5) (.tmp 12) rfl w1.heap.size cs rfl rfl HPb.out (by rw [hcl]; exact Try.size61) (by rw [hcl]; rfl) HONE.out ?_; intro w2 hd ud; have HD := Lib.hid hd; have U2 : Hid (Upd [] w1 w2) := Lib.hid (UP.out.trans ud (by simp)); clear hd ud) | (refine wpList_load_blk rfl 61 (.tmp 5) rfl w1.heap.size rfl HD.out Try.underlying61 rfl (by rw [hcl]; exact Try.size61) ?_))
  refine (puts_u rputMsg_puts (rep_all H3.out U2.out) (Nat.le_trans H5.out (of_decide_eq_true (by kernel_rfl))) HG.out HP.out).mono ?_
  rintro e w3 ⟨a3, c3, rfl, u, b, hc⟩
  have U3 := Lib.hid (U2.out.trans u (by simp))
  have B3 := Lib.hid b
  have HD3 := Lib.hid (u.blk HD.out (by simp))
  clear u b hc
  go_wp2_with fail
  refine (idone_post _ _ l' b' w3 ((H1.out).upd U3.out (by simp))).mono ?_
  rintro e w4 ⟨rfl, u⟩
  have U4 := Lib.hid (U3.out.trans u (by simp))
  have B4 := Lib.hid (bytes_all B3.out u)
  have HD4 := Lib.hid (u.blk HD3.out (by simp))
  have HA4 := Lib.hid (U4.out.blk HA1.out (by simp))
  have U04 : Hid (Upd [] w0 w4) := Lib.hid (U1.out.trans U4.out (by simp))
  clear u
  obtain ⟨r, hr⟩ : ∃ r, (!b' && decide (l' = [])) = r := ⟨_, rfl⟩
  rw [hr]
  cases r with
  | true =>
    have hr2 : b' = false ∧ l' = [] := by simpa using hr
    obtain ⟨rfl, rfl⟩ := hr2
    have hget := (H4.out.good rfl).2
    obtain ⟨e1, e2⟩ := Sch.get_one sMsg l v [] hget HL256.out
    obtain rfl : g = true := HG.out.2 e2
    have HPL : Hid (p.length ≤ 1099511627776) := Lib.hid (by rw [HP.out]; exact bytesOf_len HG.out (Nat.le_trans H5.out (of_decide_eq_true (by kernel_rfl))))
    obtain rfl : p = l := by rw [HP.out, e1]; simp [bytesOf]
    have HGET := Lib.hid hget
    have et : errOf true = 0 := rfl
    rw [et]
    clear hr hget e1 e2 et
    go_wp2_with fail
    refine (same_any _ _ a3 a c3 c p p _ B4.out ((HB.out.upd UA.out (by simp)).upd U04.out (by simp)) HPL.out).mono ?_
    rintro e w5 ⟨rfl, u⟩
    have U5 := Lib.hid (U4.out.trans u (by simp))
    have HD5 := Lib.hid (u.blk HD4.out (by simp))
    have HA5 := Lib.hid (u.blk HA4.out (by simp))
    rw [show (p == p) = true by simp]
    clear u
    go_wp2_with (first | (refine wpList_load_blk rfl 61 (.tmp 5) rfl w1.heap.size rfl HD5.out Try.underlying61 rfl (by rw [hcl]; exact Try.size61) ?_) | (refine wpList_store_blk rfl 61 (.tmp 2) (.tmp 32) rfl w.heap.size cs rfl rfl HA5.out (by rw [hcl]; exact Try.size61) (by rw [hcl]; rfl) HONE.out ?_; intro wz hz uz))
    have hld := run_loadVar_blk (P := Try.prog) hz 61 _ Try.underlying61 rfl (by rw [hcl]; exact Try.size61)
    have UF : Upd [] w wz := ((UA.out.trans U1.out (by simp)).trans U5.out (by simp)).trans uz (by simp)
    refine bodyPost_ret (v := .tuple #[.agg cs.toArray, .bool true]) ?_ rfl ⟨UF, cs, v, true, rfl, (H3.out.keep (ok' := Nw w.heap.size wz) (fun k hk hl => have hk1 := hk.1; have e := (uz.block k (Nat.lt_of_lt_of_le hl U5.out.size) (by simp; omega)).trans (U5.out.block k hl (by simp)); ⟨⟨by omega, hk.2.keep e⟩, e⟩) (Nat.le_trans U5.out.size uz.size)), fun _ => HGET.out, fun h => by cases h⟩
    rw [results_cell_tmp Try.results33]; simp [asAddr, Act.put, hld]
  | false =>
    have hno : ∀ v', sMsg.get l ≠ some (v', []) := by
      intro v' hv
      cases b' with
      | true =>
        rcases H4.out.bad rfl with h | h
        · cases h
        · rw [hv] at h; cases h
      | false =>
        have := (H4.out.good rfl).2
        rw [hv] at this
        simp only [Option.some.injEq, Prod.mk.injEq] at this
        rw [← this.2] at hr
        simp at hr
    have HNO := Lib.hid hno
    clear hr hno
    go_wp2_with (first | (refine wpList_store_blk rfl 61 (.tmp 2) (.tmp 31) rfl w.heap.size sMsg.zc rfl rfl HA4.out (by exact Try.size61) rfl (Sch.zc_one _) ?_; intro wz hz uz) | (refine wpList_buildTo rfl 61 #[] rfl (some 31) rfl sMsg.zc.toArray (by have h := HBZ.out; simp; with_reducible exact h) ?_))
    have hld := run_loadVar_blk (P := Try.prog) hz 61 _ Try.underlying61 rfl (by exact Try.size61)
    have UF : Upd [] w wz := ((UA.out.trans U1.out (by simp)).trans U4.out (by simp)).trans uz (by simp)
    refine bodyPost_ret (v := .tuple #[.agg sMsg.zc.toArray, .bool false]) ?_ rfl ⟨UF, sMsg.zc, sMsg.zero, false, rfl, Sch.Rep.zero _ _ _, fun h => (by cases h), fun _ => ⟨HNO.out, rfl⟩⟩
    rw [results_cell_tmp Try.results33]; simp [asAddr, Act.put, hld]
end Go.Proofs.Ytpoplipjombdbaa
/- net.Net: Send, Deliver. -/
namespace Go.Proofs.Ytpoplipjombdbaa
open Go.RowKit Go.Lb Go.Rc
section
variable {p m : Nat} {L : List Val} {X Y : List Nat} {w : World}
set_option maxRecDepth 20000 in
set_option maxHeartbeats 4000000 in
theorem nsend_any (cs : List Value) (x : Val) (g : Bool) (h : PNet w p m L X Y) (hr : sMsg.Rep w (· < w.heap.size) cs x) (hwm : sMsg.wmax x ≤ 1099511627776) (hg : g = true ↔ sMsg.good x) (hm : 1 ≤ m) (hm2 : m ≤ 256) (hl : L.length ≤ m) :
    Calls Try.prog 22 #[.pointer (some ⟨p, 0, none⟩), .agg cs.toArray] w fun e w' => e = .returned (.int .i64 (errOf g)) ∧ ∃ X', NetTo w X w' X' ∧ PNet w' p m (bif g then came m L x else L) X' Y := by
  have hlen : cs.length = 46 := hr.len
  have uW : Upd [] w (w.alloc (.cells cs.toArray 61)) := (Upd.refl _ _).alloc _
  have HB := Lib.hid (Blk.new w 61 cs)
  have HR := Lib.hid (rep_all hr uW)
  have H := Lib.hid (h.same uW (by simp) ownN_upd)
  have HLT := Lib.hid h.lt
  have UW := Lib.hid uW
  have HG := Lib.hid hg
  obtain ⟨pb, hpb⟩ : ∃ pb, pb = bytesOf g sMsg x := ⟨_, rfl⟩
  have HPB := Lib.hid hpb
  clear h hr uW hg hpb
  go_enter Try.func22, Try.ntmps22
  go_wp2_with (refine wpList_load_blk rfl 61 (.tmp 3) rfl w.heap.size rfl HB.out Try.underlying61 rfl (by rw [hlen]; exact Try.size61) ?_)
  refine (puts_u putMsg_puts HR.out hwm HG.out HPB.out).mono ?_
  rintro e w1 ⟨a1, c1, rfl, uu, b, hc⟩
  have U1 := Lib.hid (UW.out.trans uu (by simp))
  have H1 := Lib.hid (H.out.same uu (by simp) ownN_upd)
  cases g with
  | true =>
    have HPK : Hid (Pk w1 (fun b => b ∉ X ∧ b ∉ Y) (.slice a1 pb.length c1) x) := Lib.hid ⟨HG.out.1 rfl, a1, c1, by rw [HPB.out]; rfl, by have := hc.1; rw [HPB.out] at this; exact this, hc.2, by
      have hb2 := b
      rw [HPB.out] at hb2
      exact hb2.keep (fun k hk hl => ⟨⟨fun hx => by have := HLT.out.1 k hx; simp at hk; omega, fun hx => by have := HLT.out.2.1 k hx; simp at hk; omega⟩, rfl⟩) (Nat.le_refl _)⟩
    have et : errOf true = 0 := rfl
    rw [et]
    clear uu b hc et
    go_wp2_with fail
    refine (ncame_any (X := X) a1 pb.length c1 x H1.out HPK.out hm hm2 hl).mono ?_
    rintro e w2 ⟨rfl, X2, n2, h2⟩
    have N2 := Lib.hid n2
    have H2 := Lib.hid h2
    clear n2 h2
    go_wp2_with fail
    refine bodyPost_ret (results_tmp rfl _ _ _) rfl ?_
    exact ⟨rfl, X2, ((NetTo.refl _ _).same U1.out).trans N2.out, H2.out⟩
  | false =>
    have et : errOf false = 1 := rfl
    rw [et]
    clear uu b hc et
    go_wp2_with fail
    refine bodyPost_ret (results_tmp rfl _ _ _) rfl ?_
    exact ⟨rfl, X, (NetTo.refl _ _).same U1.out, H1.out⟩

set_option maxRecDepth 20000 in
set_option maxHeartbeats 4000000 in
theorem ndeliver_no (k : Int) (h : PNet w p m L X Y) (hk : ¬ (0 ≤ k ∧ k < (L.length : Int))) :
    Calls Try.prog 24 #[.pointer (some ⟨p, 0, none⟩), .int .i64 k] w fun e w' => e = .returned (.tuple #[.agg sMsg.zc.toArray, .bool false]) ∧ Upd [] w w' := by
  have HKB : Hid (decide (0 ≤ k ∧ k < (L.length : Int)) = false) := Lib.hid (by simpa using hk)
  have HTH := Lib.hid h
  have HBZ : Hid (Try.prog.built 61 [] = some sMsg.zc.toArray) := Lib.hid (by kernel_rfl)
  clear h hk
  go_enter Try.func24, Try.ntmps24
  go_wp2_with (refine wpList_alloc_blk rfl 61 rfl sMsg.zc (zero61 _) ?_; intro wA hA uA; have HA := Lib.hid hA; have UA := Lib.hid uA; clear hA uA)
  refine (nthere_any (HTH.out.same UA.out (by simp) ownN_upd) k false HKB.out).mono ?_
  rintro e w1 ⟨rfl, u1⟩
  have U1 := Lib.hid (UA.out.trans u1 (by simp))
  have HA1 := Lib.hid (u1.blk HA.out (by simp))
  clear u1
  go_wp2_with (first | (refine wpList_store_blk rfl 61 (.tmp 4) (.tmp 12) rfl w.heap.size sMsg.zc rfl rfl HA1.out (by exact Try.size61) rfl (Sch.zc_one _) ?_; intro wz hz uz) | (refine wpList_buildTo rfl 61 #[] rfl (some 12) rfl sMsg.zc.toArray (by have h := HBZ.out; simp; with_reducible exact h) ?_))
  have hld := run_loadVar_blk (P := Try.prog) hz 61 _ Try.underlying61 rfl (by exact Try.size61)
  refine bodyPost_ret (v := .tuple #[.agg sMsg.zc.toArray, .bool false]) ?_ rfl ⟨rfl, U1.out.trans uz (by simp)⟩
  rw [results_cell_tmp Try.results24]; simp [asAddr, Act.put, hld]

set_option maxRecDepth 20000 in
set_option maxHeartbeats 4000000 in
theorem ndeliver_yes (k : Nat) (x : Val) (h : PNet w p m L X Y) (hx : L[k]? = some x) (hl : L.length ≤ 100000) :
    Calls Try.prog 24 #[.pointer (some ⟨p, 0, none⟩), .int .i64 (k : Int)] w fun e w' => ∃ cs X' F, e = .returned (.tuple #[.agg cs.toArray, .bool true]) ∧ NetTo w X w' X' ∧ PNet w' p m (L.eraseIdx k) X' (F ++ Y) ∧ sMsg.Rep w' (Mut F w') cs x ∧ ∀ b ∈ F, w.heap.size ≤ b ∧ b < w'.heap.size := by
  have HTH := Lib.hid h
  have HLT := Lib.hid h.lt
  obtain ⟨v, us, hX, h⟩ := h
  have hkl := (List.getElem?_eq_some_iff.1 hx).1
  have hul := h.pks.len
  have ho0 : w.ownsRow 0 22 1 v us.length us := h.own
  obtain ⟨g, c, rfl, _, _⟩ := own_some ho0 (by omega)
  have hus : us[k]? = some (us[k]'(by omega)) := List.getElem?_eq_getElem (by omega)
  have hpk := h.pks.at_ k _ x hus hx
  have hcel := ho0.cellAt k (by omega)
  rw [hus] at hcel
  generalize us[k]'(by omega) = pk at *
  obtain ⟨hgx, pa, pc, rfl, hp1, hp2, hp3⟩ := hpk
  have HGX := Lib.hid hgx
  have HKB : Hid (decide (0 ≤ (k : Int) ∧ (k : Int) < (L.length : Int)) = true) := Lib.hid (by simp; omega)
  have hku : k < us.length := by omega
  have hkL : k < L.length := hkl
  have hgl := block_lt_of_cell hcel
  obtain ⟨pl, hpl⟩ : ∃ pl, pl = sMsg.put x := ⟨_, rfl⟩
  have HGET : Hid (sMsg.get pl = some (x, [])) := Lib.hid (by
    have := Sch.get_put sMsg x [] hgx
    rw [List.append_nil] at this
    rw [hpl]; exact this)
  rw [← hpl] at hcel hp1 hp3
  have HCL := Lib.hid hcel
  have HB := Lib.hid h.blk
  have HBY := Lib.hid hp3
  have HPC : Hid (pl.length ≤ pc ∧ pc ≤ maxLen) := Lib.hid ⟨hp1, hp2⟩
  clear h ho0 hul hp1 hp2 hp3 hgx hpl hcel hus hkl hx hX
  go_enter Try.func24, Try.ntmps24
  go_wp2_with (refine wpList_alloc_blk rfl 61 rfl sMsg.zc (zero61 _) ?_; intro wA hA uA; have HA := Lib.hid hA; have UA := Lib.hid uA; clear hA uA)
  have HTA : Hid (PNet wA p m L X (w.heap.size :: Y)) := Lib.hid (HTH.out.by (X' := w.heap.size :: Y) ⟨UA.out.mono (by simp), fun k hk => by
    rcases List.mem_cons.1 hk with rfl | hk
    · exact .inr (Nat.le_refl _)
    · exact .inl hk⟩ ownN_upd (fun k hk => by
    rcases List.mem_cons.1 hk with rfl | hk
    · exact HA.out.lt
    · exact Nat.lt_of_lt_of_le (HLT.out.2.1 k hk) UA.out.size))
  refine (nthere_any HTA.out (k : Int) true HKB.out).mono ?_
  rintro e w1 ⟨rfl, u1⟩
  have U1 := Lib.hid (UA.out.trans u1 (by simp))
  have HA1 := Lib.hid (u1.blk HA.out (by simp))
  have H1 := Lib.hid (HTA.out.same u1 (by simp) ownN_upd)
  have hB1 := U1.out.blk HB.out (by simp)
  have c1 := hB1.cell (o := 1) rfl
  have c2 := hB1.lt
  have c3 : w1.cell? ⟨g, k, none⟩ = some (.slice pa pl.length pc) := (U1.out.cell (a := ⟨g, k, none⟩) hgl (by simp)).trans HCL.out
  have hs1 := U1.out.size
  have HBY1 : Hid (Bytes w1 (· < w1.heap.size) pa pl) := Lib.hid (HBY.out.keep (fun b hb hl => ⟨Nat.lt_of_lt_of_le hl hs1, U1.out.block b hl (by simp)⟩) hs1)
  clear u1 hB1
  go_wp2_with fail
  refine (gets_u (g := true) (v := x) getMsg_gets HBY1.out HPC.out (fun _ => HGET.out) (fun h => by cases h)).mono ?_
  rintro e w2 ⟨cs, x2, rfl, u2, hr2, hx2, _⟩
  obtain rfl : x2 = x := hx2 rfl
  have hcl : cs.length = 46 := hr2.len
  have HONE := Lib.hid hr2.one
  have HR2 := Lib.hid hr2
  have U2 := Lib.hid (U1.out.trans u2 (by simp))
  have HA2 := Lib.hid (u2.blk HA1.out (by simp))
  obtain ⟨F, hF⟩ : ∃ F, F = since w1.heap.size w2.heap.size := ⟨_, rfl⟩
  have HFM : Hid (∀ k, k ∈ F ↔ w1.heap.size ≤ k ∧ k < w2.heap.size) := Lib.hid (fun k => by rw [hF]; exact mem_since)
  have hrm := hr2.mut
  rw [← hF] at hrm
  have HRM := Lib.hid hrm
  have H2 : Hid (PNet w2 p m L X (w.heap.size :: (F ++ Y))) := Lib.hid (H1.out.by (X' := w.heap.size :: (F ++ Y)) ⟨u2.mono (by simp), fun k hk => by
    rcases List.mem_cons.1 hk with rfl | hk
    · exact .inl (by simp)
    · rcases List.mem_append.1 hk with hk | hk
      · exact .inr ((HFM.out k).1 hk).1
      · exact .inl (by simp [hk])⟩ ownN_upd (fun k hk => by
    rcases List.mem_cons.1 hk with rfl | hk
    · exact HA2.out.lt
    · rcases List.mem_append.1 hk with hk | hk
      · exact ((HFM.out k).1 hk).2
      · exact Nat.lt_of_lt_of_le (HLT.out.2.1 k hk) U2.out.size))
  have hs2 := u2.size
  have hAl := HA2.out.lt
  have hAl1 := HA1.out.lt
  clear u2 hr2 hx2 c1 c2 c3 hrm hF
  go_wp2_with (first | (refine wpList_alloc_blk rfl 61 rfl sMsg.zc (zero61 _) ?_; intro wP hP uP; have HPb := Lib.hid hP; have UP := Lib.hid uP; clear hP uP) | (refine wpList_store_blk rfl 61 (.tmp 6) (.tmp 22) rfl w2.heap.size cs rfl rfl HPb.out (by rw [hcl]; exact Try.size61) (by rw [hcl]; rfl) HONE.out ?_; intro w3 hd ud; have HD := Lib.hid hd; have U3 : Hid (Upd [] w2 w3) := Lib.hid (UP.out.trans ud (by simp)); clear hd ud))
  have H3 := Lib.hid (H2.out.same U3.out (by simp) ownN_upd)
  have HA3 := Lib.hid (U3.out.blk HA2.out (by simp))
  have hs3 := U3.out.size
  refine (nlose_yes k H3.out hkL hl).mono ?_
  rintro e w4 ⟨rfl, X4, n4, h4⟩
  have hXn : ∀ b, w.heap.size ≤ b → b ∉ X := fun b hb hx => by have := HLT.out.1 b hx; omega
  have HA4 := Lib.hid (n4.upd.blk HA3.out (hXn _ (Nat.le_refl _)))
  have HD4 := Lib.hid (n4.upd.blk HD.out (hXn _ (by omega)))
  have HR4 : Hid (sMsg.Rep w4 (Mut F w4) cs x2) := Lib.hid ((HRM.out.updM U3.out (by simp)).updM n4.upd (fun b hb => hXn b (by have := (HFM.out b).1 hb; omega)))
  have N4 := Lib.hid n4
  have H4 := Lib.hid h4
  have hs4 := n4.upd.size
  have HXN := Lib.hid hXn
  clear n4 h4 hXn
  go_wp2_with (first | (refine wpList_load_blk rfl 61 (.tmp 6) rfl w2.heap.size rfl HD4.out Try.underlying61 rfl (by rw [hcl]; exact Try.size61) ?_) | (refine wpList_store_blk rfl 61 (.tmp 4) (.tmp 27) rfl w.heap.size cs rfl rfl HA4.out (by rw [hcl]; exact Try.size61) (by rw [hcl]; rfl) HONE.out ?_; intro wz hz uz))
  have hld := run_loadVar_blk (P := Try.prog) hz 61 _ Try.underlying61 rfl (by rw [hcl]; exact Try.size61)
  have uN : NetTo w X w4 X4 := (((NetTo.refl w X).same U2.out).same U3.out).trans N4.out
  have HBIG : NetTo w X wz X4 := ⟨uN.upd.trans uz (by simp), uN.new⟩
  refine bodyPost_ret (v := .tuple #[.agg cs.toArray, .bool true]) ?_ rfl ⟨cs, X4, F, rfl, HBIG, ?_, ?_, fun b hb => ?_⟩
  · rw [results_cell_tmp Try.results24]; simp [asAddr, Act.put, hld]
  · exact (NetAt.same H4.out uz (fun b hb => by simp at hb; simp [hb]) ownN_upd).more (fun k hk => by simp [hk])
  · exact HR4.out.updM uz (fun b hb => by have := (HFM.out b).1 hb; simp; omega)
  · have := (HFM.out b).1 hb; have := uz.size; omega
end
end Go.Proofs.Ytpoplipjombdbaa
/- The reference's Net: Send, Deliver. -/
namespace Go.Proofs.Ytpoplipjombdbaa
open Go.RowKit Go.Lb Go.Rc
section
variable {p m : Nat} {L : List Val} {X Y : List Nat} {w : World}
set_option maxRecDepth 20000 in
set_option maxHeartbeats 4000000 in
theorem ssend_any (cs : List Value) (x : Val) (g : Bool) (h : SNet w p m L X Y) (hr : sMsg.Rep w (· < w.heap.size) cs x) (hwm : sMsg.wmax x ≤ 1099511627776) (hg : g = true ↔ sMsg.good x) (hm : 1 ≤ m) (hm2 : m ≤ 256) (hl : L.length ≤ m) :
    Calls Try.prog 23 #[.pointer (some ⟨p, 0, none⟩), .agg cs.toArray] w fun e w' => e = .returned (.int .i64 (errOf g)) ∧ ∃ X', NetTo w X w' X' ∧ SNet w' p m (bif g then came m L x else L) X' Y := by
  have hlen : cs.length = 46 := hr.len
  have uW : Upd [] w (w.alloc (.cells cs.toArray 61)) := (Upd.refl _ _).alloc _
  have HB := Lib.hid (Blk.new w 61 cs)
  have HR := Lib.hid (rep_all hr uW)
  have H := Lib.hid (h.same uW (by simp) ownS_upd)
  have HLT := Lib.hid h.lt
  have UW := Lib.hid uW
  have HG := Lib.hid hg
  obtain ⟨pb, hpb⟩ : ∃ pb, pb = bytesOf g sMsg x := ⟨_, rfl⟩
  have HPB := Lib.hid hpb
  clear h hr uW hg hpb
  go_enter Try.func23, Try.ntmps23
  go_wp2_with (refine wpList_load_blk rfl 61 (.tmp 3) rfl w.heap.size rfl HB.out Try.underlying61 rfl (by rw [hlen]; exact Try.size61) ?_)
  refine (puts_u rputMsg_puts HR.out hwm HG.out HPB.out).mono ?_
  rintro e w1 ⟨a1, c1, rfl, uu, b, hc⟩
  have U1 := Lib.hid (UW.out.trans uu (by simp))
  have H1 := Lib.hid (H.out.same uu (by simp) ownS_upd)
  cases g with
  | true =>
    have HPK : Hid (Pk w1 (fun b => b ∉ X ∧ b ∉ Y) (.slice a1 pb.length c1) x) := Lib.hid ⟨HG.out.1 rfl, a1, c1, by rw [HPB.out]; rfl, by have := hc.1; rw [HPB.out] at this; exact this, hc.2, by
      have hb2 := b
      rw [HPB.out] at hb2
      exact hb2.keep (fun k hk hl => ⟨⟨fun hx => by have := HLT.out.1 k hx; simp at hk; omega, fun hx => by have := HLT.out.2.1 k hx; simp at hk; omega⟩, rfl⟩) (Nat.le_refl _)⟩
    have et : errOf true = 0 := rfl
    rw [et]
    clear uu b hc et
    go_wp2_with fail
    refine (scame_any (X := X) a1 pb.length c1 x H1.out HPK.out hm hm2 hl).mono ?_
    rintro e w2 ⟨rfl, X2, n2, h2⟩
    have N2 := Lib.hid n2
    have H2 := Lib.hid h2
    clear n2 h2
    go_wp2_with fail
    refine bodyPost_ret (results_tmp rfl _ _ _) rfl ?_
    exact ⟨rfl, X2, ((NetTo.refl _ _).same U1.out).trans N2.out, H2.out⟩
  | false =>
    have et : errOf false = 1 := rfl
    rw [et]
    clear uu b hc et
    go_wp2_with fail
    refine bodyPost_ret (results_tmp rfl _ _ _) rfl ?_
    exact ⟨rfl, X, (NetTo.refl _ _).same U1.out, H1.out⟩

set_option maxRecDepth 20000 in
set_option maxHeartbeats 4000000 in
theorem sdeliver_no (k : Int) (h : SNet w p m L X Y) (hk : ¬ (0 ≤ k ∧ k < (L.length : Int))) :
    Calls Try.prog 25 #[.pointer (some ⟨p, 0, none⟩), .int .i64 k] w fun e w' => e = .returned (.tuple #[.agg sMsg.zc.toArray, .bool false]) ∧ Upd [] w w' := by
  have HKB : Hid (decide (0 ≤ k ∧ k < (L.length : Int)) = false) := Lib.hid (by simpa using hk)
  have HTH := Lib.hid h
  have HBZ : Hid (Try.prog.built 61 [] = some sMsg.zc.toArray) := Lib.hid (by kernel_rfl)
  clear h hk
  go_enter Try.func25, Try.ntmps25
  go_wp2_with (refine wpList_alloc_blk rfl 61 rfl sMsg.zc (zero61 _) ?_; intro wA hA uA; have HA := Lib.hid hA; have UA := Lib.hid uA; clear hA uA)
  refine (sthere_any (HTH.out.same UA.out (by simp) ownS_upd) k false HKB.out).mono ?_
  rintro e w1 ⟨rfl, u1⟩
  have U1 := Lib.hid (UA.out.trans u1 (by simp))
  have HA1 := Lib.hid (u1.blk HA.out (by simp))
  clear u1
  go_wp2_with (first | (refine wpList_store_blk rfl 61 (.tmp 4) (.tmp 12) rfl w.heap.size sMsg.zc rfl rfl HA1.out (by exact Try.size61) rfl (Sch.zc_one _) ?_; intro wz hz uz) | (refine wpList_buildTo rfl 61 #[] rfl (some 12) rfl sMsg.zc.toArray (by have h := HBZ.out; simp; with_reducible exact h) ?_))
  have hld := run_loadVar_blk (P := Try.prog) hz 61 _ Try.underlying61 rfl (by exact Try.size61)
  refine bodyPost_ret (v := .tuple #[.agg sMsg.zc.toArray, .bool false]) ?_ rfl ⟨rfl, U1.out.trans uz (by simp)⟩
  rw [results_cell_tmp Try.results25]; simp [asAddr, Act.put, hld]

set_option maxRecDepth 20000 in
set_option maxHeartbeats 4000000 in
theorem sdeliver_yes (k : Nat) (x : Val) (h : SNet w p m L X Y) (hx : L[k]? = some x) (hl : L.length ≤ 100000) :
    Calls Try.prog 25 #[.pointer (some ⟨p, 0, none⟩), .int .i64 (k : Int)] w fun e w' => ∃ cs X' F, e = .returned (.tuple #[.agg cs.toArray, .bool true]) ∧ NetTo w X w' X' ∧ SNet w' p m (L.eraseIdx k) X' (F ++ Y) ∧ sMsg.Rep w' (Mut F w') cs x ∧ ∀ b ∈ F, w.heap.size ≤ b ∧ b < w'.heap.size := by
  have HTH := Lib.hid h
  have HLT := Lib.hid h.lt
  obtain ⟨v, us, hX, h⟩ := h
  have hkl := (List.getElem?_eq_some_iff.1 hx).1
  have hul := h.pks.len
  have ho0 : Win w 22 v us := h.own
  obtain ⟨g, o, c, rfl, _, _, hgl0, hcel0⟩ := ho0.isSome (by omega)
  have hus : us[k]? = some (us[k]'(by omega)) := List.getElem?_eq_getElem (by omega)
  have hpk := h.pks.at_ k _ x hus hx
  have hcel := hcel0 k _ hus
  generalize us[k]'(by omega) = pk at *
  obtain ⟨hgx, pa, pc, rfl, hp1, hp2, hp3⟩ := hpk
  have HGX := Lib.hid hgx
  have HKB : Hid (decide (0 ≤ (k : Int) ∧ (k : Int) < (L.length : Int)) = true) := Lib.hid (by simp; omega)
  have hku : k < us.length := by omega
  have hkL : k < L.length := hkl
  have hgl := block_lt_of_cell hcel
  obtain ⟨pl, hpl⟩ : ∃ pl, pl = sMsg.put x := ⟨_, rfl⟩
  have HGET : Hid (sMsg.get pl = some (x, [])) := Lib.hid (by
    have := Sch.get_put sMsg x [] hgx
    rw [List.append_nil] at this
    rw [hpl]; exact this)
  rw [← hpl] at hcel hp1 hp3
  have HCL := Lib.hid hcel
  have HB := Lib.hid h.blk
  have HBY := Lib.hid hp3
  have HPC : Hid (pl.length ≤ pc ∧ pc ≤ maxLen) := Lib.hid ⟨hp1, hp2⟩
  clear h ho0 hul hp1 hp2 hp3 hgx hpl hcel hus hkl hx hX hcel0 hgl0
  go_enter Try.func25, Try.ntmps25
  go_wp2_with (refine wpList_alloc_blk rfl 61 rfl sMsg.zc (zero61 _) ?_; intro wA hA uA; have HA := Lib.hid hA; have UA := Lib.hid uA; clear hA uA)
  have HTA : Hid (SNet wA p m L X (w.heap.size :: Y)) := Lib.hid (HTH.out.by (X' := w.heap.size :: Y) ⟨UA.out.mono (by simp), fun k hk => by
    rcases List.mem_cons.1 hk with rfl | hk
    · exact .inr (Nat.le_refl _)
    · exact .inl hk⟩ ownS_upd (fun k hk => by
    rcases List.mem_cons.1 hk with rfl | hk
    · exact HA.out.lt
    · exact Nat.lt_of_lt_of_le (HLT.out.2.1 k hk) UA.out.size))
  refine (sthere_any HTA.out (k : Int) true HKB.out).mono ?_
  rintro e w1 ⟨rfl, u1⟩
  have U1 := Lib.hid (UA.out.trans u1 (by simp))
  have HA1 := Lib.hid (u1.blk HA.out (by simp))
  have H1 := Lib.hid (HTA.out.same u1 (by simp) ownS_upd)
  have hB1 := U1.out.blk HB.out (by simp)
  have c1 := hB1.cell (o := 1) rfl
  have c2 := hB1.lt
  have c3 : w1.cell? ⟨g, o + k, none⟩ = some (.slice pa pl.length pc) := (U1.out.cell (a := ⟨g, o + k, none⟩) hgl (by simp)).trans HCL.out
  have hs1 := U1.out.size
  have HBY1 : Hid (Bytes w1 (· < w1.heap.size) pa pl) := Lib.hid (HBY.out.keep (fun b hb hl => ⟨Nat.lt_of_lt_of_le hl hs1, U1.out.block b hl (by simp)⟩) hs1)
  clear u1 hB1
  go_wp2_with fail
  refine (gets_u (g := true) (v := x) rgetMsg_gets HBY1.out HPC.out (fun _ => HGET.out) (fun h => by cases h)).mono ?_
  rintro e w2 ⟨cs, x2, rfl, u2, hr2, hx2, _⟩
  obtain rfl : x2 = x := hx2 rfl
  have hcl : cs.length = 46 := hr2.len
  have HONE := Lib.hid hr2.one
  have HR2 := Lib.hid hr2
  have U2 := Lib.hid (U1.out.trans u2 (by simp))
  have HA2 := Lib.hid (u2.blk HA1.out (by simp))
  obtain ⟨F, hF⟩ : ∃ F, F = since w1.heap.size w2.heap.size := ⟨_, rfl⟩
  have HFM : Hid (∀ k, k ∈ F ↔ w1.heap.size ≤ k ∧ k < w2.heap.size) := Lib.hid (fun k => by rw [hF]; exact mem_since)
  have hrm := hr2.mut
  rw [← hF] at hrm
  have HRM := Lib.hid hrm
  have H2 : Hid (SNet w2 p m L X (w.heap.size :: (F ++ Y))) := Lib.hid (H1.out.by (X' := w.heap.size :: (F ++ Y)) ⟨u2.mono (by simp), fun k hk => by
    rcases List.mem_cons.1 hk with rfl | hk
    · exact .inl (by simp)
    · rcases List.mem_append.1 hk with hk | hk
      · exact .inr ((HFM.out k).1 hk).1
      · exact .inl (by simp [hk])⟩ ownS_upd (fun k hk => by
    rcases List.mem_cons.1 hk with rfl | hk
    · exact HA2.out.lt
    · rcases List.mem_append.1 hk with hk | hk
      · exact ((HFM.out k).1 hk).2
      · exact Nat.lt_of_lt_of_le (HLT.out.2.1 k hk) U2.out.size))
  have hs2 := u2.size
  have hAl := HA2.out.lt
  have hAl1 := HA1.out.lt
  clear u2 hr2 hx2 c1 c2 c3 hrm hF
  go_wp2_with (first | (refine wpList_alloc_blk rfl 61 rfl sMsg.zc (zero61 _) ?_; intro wP hP uP; have HPb := Lib.hid hP; have UP := Lib.hid uP; clear hP uP) | (refine wpList_store_blk rfl 61 (.tmp 6) (.tmp 22) rfl w2.heap.size cs rfl rfl HPb.out (by rw [hcl]; exact Try.size61) (by rw [hcl]; rfl) HONE.out ?_; intro w3 hd ud; have HD := Lib.hid hd; have U3 : Hid (Upd [] w2 w3) := Lib.hid (UP.out.trans ud (by simp)); clear hd ud))
  have H3 := Lib.hid (H2.out.same U3.out (by simp) ownS_upd)
  have HA3 := Lib.hid (U3.out.blk HA2.out (by simp))
  have hs3 := U3.out.size
  refine (slose_yes k H3.out hkL hl).mono ?_
  rintro e w4 ⟨rfl, X4, n4, h4⟩
  have hXn : ∀ b, w.heap.size ≤ b → b ∉ X := fun b hb hx => by have := HLT.out.1 b hx; omega
  have HA4 := Lib.hid (n4.upd.blk HA3.out (hXn _ (Nat.le_refl _)))
  have HD4 := Lib.hid (n4.upd.blk HD.out (hXn _ (by omega)))
  have HR4 : Hid (sMsg.Rep w4 (Mut F w4) cs x2) := Lib.hid ((HRM.out.updM U3.out (by simp)).updM n4.upd (fun b hb => hXn b (by have := (HFM.out b).1 hb; omega)))
  have N4 := Lib.hid n4
  have H4 := Lib.hid h4
  have hs4 := n4.upd.size
  have HXN := Lib.hid hXn
  clear n4 h4 hXn
  go_wp2_with (first | (refine wpList_load_blk rfl 61 (.tmp 6) rfl w2.heap.size rfl HD4.out Try.underlying61 rfl (by rw [hcl]; exact Try.size61) ?_) | (refine wpList_store_blk rfl 61 (.tmp 4) (.tmp 27) rfl w.heap.size cs rfl rfl HA4.out (by rw [hcl]; exact Try.size61) (by rw [hcl]; rfl) HONE.out ?_; intro wz hz uz))
  have hld := run_loadVar_blk (P := Try.prog) hz 61 _ Try.underlying61 rfl (by rw [hcl]; exact Try.size61)
  have uN : NetTo w X w4 X4 := (((NetTo.refl w X).same U2.out).same U3.out).trans N4.out
  have HBIG : NetTo w X wz X4 := ⟨uN.upd.trans uz (by simp), uN.new⟩
  refine bodyPost_ret (v := .tuple #[.agg cs.toArray, .bool true]) ?_ rfl ⟨cs, X4, F, rfl, HBIG, ?_, ?_, fun b hb => ?_⟩
  · rw [results_cell_tmp Try.results25]; simp [asAddr, Act.put, hld]
  · exact (NetAt.same H4.out uz (fun b hb => by simp at hb; simp [hb]) ownS_upd).more (fun k hk => by simp [hk])
  · exact HR4.out.updM uz (fun b hb => by have := (HFM.out b).1 hb; simp; omega)
  · have := (HFM.out b).1 hb; have := uz.size; omega
end
end Go.Proofs.Ytpoplipjombdbaa
/- law03's same and known. -/
namespace Go.Proofs.Ytpoplipjombdbaa
open Go.RowKit Go.Lb Go.Rc

set_option maxRecDepth 20000 in
set_option maxHeartbeats 4000000 in
theorem nsame_eq (cs ds : List Value) (x : Val) (w : World) (hr : sMsg.Rep w (· < w.heap.size) cs x) (hr2 : sMsg.Rep w (· < w.heap.size) ds x) (hwm : sMsg.wmax x ≤ 1099511627776) :
    Calls Try.prog 26 #[.agg cs.toArray, .agg ds.toArray] w fun e w' => e = .returned (.bool true) ∧ Upd [] w w' := by
  obtain ⟨g, hg⟩ := good_dec sMsg x
  have hlen : cs.length = 46 := hr.len
  have hlen2 : ds.length = 46 := hr2.len
  have uW : Upd [] w ((w.alloc (.cells cs.toArray 61)).alloc (.cells ds.toArray 61)) := ((Upd.refl _ _).alloc _).alloc _
  have HB1 := Lib.hid ((Blk.new w 61 cs).alloc (.cells ds.toArray 61))
  have HB2 := Lib.hid (Blk.new2 w (.cells cs.toArray 61) 61 ds)
  have HR := Lib.hid (rep_all hr uW)
  have HR2 := Lib.hid (rep_all hr2 uW)
  have UW := Lib.hid uW
  have HG := Lib.hid hg
  obtain ⟨pb, hpb⟩ : ∃ pb, pb = bytesOf g sMsg x := ⟨_, rfl⟩
  have HPB := Lib.hid hpb
  have HPL : Hid (pb.length ≤ 1099511627776) := Lib.hid (by rw [hpb]; exact bytesOf_len hg hwm)
  clear hr hr2 uW hg hpb
  go_enter Try.func26, Try.ntmps26
  go_wp2_with (refine wpList_load_blk rfl 61 (.tmp 2) rfl w.heap.size rfl HB1.out Try.underlying61 rfl (by rw [hlen]; exact Try.size61) ?_)
  refine (puts_u rputMsg_puts HR.out hwm HG.out HPB.out).mono ?_
  rintro e w1 ⟨a1, c1, rfl, uu, b, hc⟩
  have U1 := Lib.hid (UW.out.trans uu (by simp))
  have D1 := Lib.hid (bytes_all b (Upd.refl _ _))
  have HB21 := Lib.hid (uu.blk HB2.out (by simp))
  have HR21 := Lib.hid (rep_all HR2.out uu)
  clear uu b hc
  go_wp2_with (refine wpList_load_blk rfl 61 (.tmp 3) rfl (w.heap.size + 1) rfl HB21.out Try.underlying61 rfl (by rw [hlen2]; exact Try.size61) ?_)
  refine (puts_u rputMsg_puts HR21.out hwm HG.out HPB.out).mono ?_
  rintro e w2 ⟨a2, c2, rfl, uu, b, hc⟩
  have U2 := Lib.hid (U1.out.trans uu (by simp))
  have D12 := Lib.hid (bytes_all D1.out uu)
  have D2 := Lib.hid (bytes_all b (Upd.refl _ _))
  clear uu b hc
  have te : ((errOf g) == (errOf g)) = true := by simp
  go_wp2_with fail
  refine (same_any _ _ a1 a2 c1 c2 pb pb _ D12.out D2.out HPL.out).mono ?_
  rintro e w3 ⟨rfl, uu⟩
  have U3 := Lib.hid (U2.out.trans uu (by simp))
  rw [show (pb == pb) = true by simp]
  clear uu
  go_wp2_with fail
  refine bodyPost_ret (results_tmp rfl _ _ _) rfl ?_
  exact ⟨rfl, U3.out⟩

/-- A message of kind 1 to 2. -/
def msg12 : Val := .pair (.num 1) (.pair (.num 0) (.pair (.num 2) (match sMsg.zero with
  | .pair _ (.pair _ (.pair _ r)) => r
  | _ => .unit)))
def cells12 : List Value := .int .i64 1 :: .int .i64 0 :: .int .i64 2 :: sMsg.zc.drop 3
theorem msg12_good : sMsg.good msg12 :=
  ⟨(show -maxN ≤ (1 : Int) ∧ (1 : Int) ≤ maxN by unfold maxN; omega), (show -maxN ≤ (0 : Int) ∧ (0 : Int) ≤ maxN by unfold maxN; omega), (show -maxN ≤ (2 : Int) ∧ (2 : Int) ≤ maxN by unfold maxN; omega), Sch.good_zero (tup [.num, .num, .num, .num, .flag, .num, .num, .num, .num, .list sEntry, sConf, .raw, sCmd, sResult])⟩
theorem msg12_rep (w : World) (ok : Nat → Prop) : sMsg.Rep w ok cells12 msg12 :=
  ⟨[.int .i64 1], _, _, _, rfl, rfl, Sch.Rep.num_mk 1, [.int .i64 0], _, _, _, rfl, rfl, Sch.Rep.num_mk 0, [.int .i64 2], _, _, _, rfl, rfl, Sch.Rep.num_mk 2, Sch.Rep.zero w ok (tup [.num, .num, .num, .num, .flag, .num, .num, .num, .num, .list sEntry, sConf, .raw, sCmd, sResult])⟩
theorem msg12_to {w : World} {ok : Nat → Prop} {cs : List Value} (h : sMsg.Rep w ok cs msg12) : cs[2]? = some (.int .i64 2) := by
  obtain ⟨_, _, _, _, rfl, h1, ⟨_, rfl, e1⟩, _, _, _, _, rfl, h2, ⟨_, rfl, e2⟩, _, _, _, _, rfl, h3, ⟨n, rfl, e3⟩, _⟩ := h
  simp only [msg12, Val.pair.injEq] at h1
  obtain ⟨rfl, rfl⟩ := h1
  simp only [Val.pair.injEq] at h2
  obtain ⟨rfl, rfl⟩ := h2
  simp only [Val.pair.injEq] at h3
  obtain ⟨rfl, rfl⟩ := h3
  cases e3
  rfl

set_option maxRecDepth 20000 in
set_option maxHeartbeats 4000000 in
theorem nknown_true (w : World) : Calls Try.prog 21 #[] w fun e w' => e = .returned (.bool true) ∧ Upd [] w w' := by
  have HBU : Hid (Try.prog.built 61 [(0, .int .i64 1), (2, .int .i64 2)] = some cells12.toArray) := Lib.hid (by kernel_rfl)
  have HGOOD := Lib.hid msg12_good
  have HWM : Hid (sMsg.wmax msg12 ≤ 1099511627776) := Lib.hid (Nat.le_trans (Sch.wmax_le _ _ msg12_good) (of_decide_eq_true (by kernel_rfl)))
  go_enter Try.func21, Try.ntmps21
  go_wp2_with fail
  refine (nnew_yes 2 w (by decide) (by decide)).mono ?_
  rintro e w1 ⟨rfl, u1, h1⟩
  have U1 := Lib.hid u1
  have H1 := Lib.hid h1
  clear u1 h1
  go_wp2_with (refine wpList_buildTo rfl 61 _ rfl (some 10) rfl cells12.toArray (by have h := HBU.out; simp [Act.eval]; with_reducible exact h) ?_)
  refine (nsend_any cells12 msg12 true H1.out (msg12_rep _ _) HWM.out (by simp [HGOOD.out]) (by decide) (by decide) (by simp)).mono ?_
  rintro e w2 ⟨rfl, X2, n2, h2⟩
  have e2 : (bif true then came 2 [] msg12 else []) = [msg12] := rfl
  rw [e2] at h2
  have N2 := Lib.hid n2
  have H2 := Lib.hid h2
  have et : errOf true = 0 := rfl
  rw [et]
  clear n2 h2 e2 et
  go_wp2_with fail
  refine (ncopy_yes 0 msg12 H2.out rfl (by decide) (by decide) (by simp)).mono ?_
  rintro e w3 ⟨rfl, X3, n3, h3⟩
  have e3 : came 2 [msg12] msg12 = [msg12, msg12] := rfl
  rw [e3] at h3
  have N3 := Lib.hid (N2.out.trans n3)
  have H3 := Lib.hid h3
  clear n3 h3 e3
  go_wp2_with fail
  refine (ndeliver_yes 1 msg12 H3.out rfl (by simp)).mono ?_
  rintro e w4 ⟨cs, X4, F4, rfl, n4, h4, hr4, _⟩
  have hcl : cs.length = 46 := hr4.len
  have HONE := Lib.hid hr4.one
  have HTO := Lib.hid (msg12_to hr4)
  have e4 : [msg12, msg12].eraseIdx 1 = [msg12] := rfl
  rw [e4] at h4
  replace h4 := h4.more (Y' := []) (by simp)
  have N4 := Lib.hid (N3.out.trans n4)
  have H4 := Lib.hid h4
  clear n4 h4 e4 hr4
  go_wp2_with (first | (refine wpList_alloc_blk rfl 61 rfl sMsg.zc (zero61 _) ?_; intro wP hP uP; have HPb := Lib.hid hP; have UP := Lib.hid uP; clear hP uP) | (refine wpList_store_blk rfl 61 (.tmp 4) (.tmp 17) rfl w4.heap.size cs rfl rfl HPb.out (by rw [hcl]; exact Try.size61) (by rw [hcl]; rfl) HONE.out ?_; intro w5 hd ud; have k1 := hd.cell (o := 2) HTO.out; have k2 := hd.lt; have U5 : Hid (Upd [] w4 w5) := Lib.hid (UP.out.trans ud (by simp)); clear hd ud))
  have H5 := Lib.hid (H4.out.same U5.out (by simp) ownN_upd)
  have N5 := Lib.hid (N4.out.same U5.out)
  refine (nlen_any H5.out).mono ?_
  rintro e w6 ⟨rfl, u6⟩
  have H6 := Lib.hid (H5.out.same u6 (by simp) ownN_upd)
  have N6 := Lib.hid (N5.out.same u6)
  clear u6 k1 k2
  go_wp2_with fail
  refine (nlose_yes 0 H6.out (by simp) (by simp)).mono ?_
  rintro e w7 ⟨rfl, X7, n7, h7⟩
  have e7 : [msg12].eraseIdx 0 = [] := rfl
  rw [e7] at h7
  have N7 := Lib.hid (N6.out.trans n7)
  have H7 := Lib.hid h7
  clear n7 h7 e7
  go_wp2_with fail
  refine (nlose_no 0 H7.out (by simp)).mono ?_
  rintro e w8 ⟨rfl, u8⟩
  have N8 := Lib.hid (N7.out.same u8)
  clear u8
  go_wp2_with fail
  refine bodyPost_ret (results_tmp rfl _ _ _) rfl ?_
  exact ⟨rfl, U1.out.trans N8.out.upd (fun k hk => by simp at hk; exact .inr (by omega))⟩
end Go.Proofs.Ytpoplipjombdbaa
/- A whole block is loaded where a guard lets it. Over any program. -/
namespace Go.Lb
open Go Go.RowKit
variable {P : Program}
theorem wpList_want {ops : Array Oper} {rest : List Oper} {o : Oper} {a : Act} {w : World} {Q : Exit → Act → World → Prop} (hw : Region.wanted o (yielded ops a.tmps) = true)
    (h : ∀ K : Act → World → Prop, (∀ a w, wpList P ops Q rest a w → K a w) → o.wp P a w K Q) : wpList P ops Q (o :: rest) a w :=
  wpList_step fun K hK => by rw [if_pos hw]; exact h K hK
theorem wpList_load_g {ops : Array Oper} {rest : List Oper} {op : Oper} {a : Act} {w : World} {Q : Exit → Act → World → Prop} (hgd : Region.wanted op (yielded ops a.tmps) = true) (ty : TypeId) (x : Operand) (ho : op.op = .load ty x) (b : Nat) (hx : a.eval x = .pointer (some ⟨b, 0, none⟩))
    {t : TypeId} {vs : List Value} (hB : Blk w b t vs) {d : TypeDesc} (hu : P.underlying ty = some d) (hd : d.isRow = true) (hi : (P.info? ty).map (·.size) = some vs.length)
    (h : wpList P ops Q rest (a.put op.dst (.agg vs.toArray)) w) : wpList P ops Q (op :: rest) a w :=
  wpList_want hgd fun K hK => wp_load_blk ty x ho b hx hB hu hd hi (hK _ _ h)
end Go.Lb
/- Messages that are sent with their numbers: what NetFull, NetLoses and NetAll share. -/
namespace Go.Rc
open Go Go.RowKit Go.Lb
def nth : Nat → Val → Val
  | 0, .pair a _ => a
  | n + 1, .pair _ b => nth n b
  | _, v => v
def setNth : Nat → Val → Val → Val
  | 0, .pair _ b, u => .pair u b
  | n + 1, .pair a b, u => .pair a (setNth n b u)
  | _, v, _ => v
/-- The message with another number. -/
def tag (i : Int) (x : Val) : Val := setNth 8 x (.num i)
theorem msg_ctx {w : World} {ok : Nat → Prop} {cs : List Value} {x : Val} (h : sMsg.Rep w ok cs x) :
    ∃ n : Int, nth 8 x = .num n ∧ cs[8]? = some (.int .i64 n) ∧ ∀ i : Int, sMsg.Rep w ok (cs.set 8 (.int .i64 i)) (tag i x) ∧ nth 8 (tag i x) = .num i ∧ sMsg.wmax (tag i x) = sMsg.wmax x := by
  have k0 : (tup [.num, .num, .num, .num, .num, .num, .num, .flag, .num, .num, .num, .num, .list sEntry, sConf, .raw, sCmd, sResult]).Rep w ok cs x := h
  obtain ⟨_, _, _, _, rfl, rfl, ⟨n0, rfl, rfl⟩, k1⟩ := Sch.Rep.tup_cons k0
  obtain ⟨_, _, _, _, rfl, rfl, ⟨n1, rfl, rfl⟩, k2⟩ := Sch.Rep.tup_cons k1
  obtain ⟨_, _, _, _, rfl, rfl, ⟨n2, rfl, rfl⟩, k3⟩ := Sch.Rep.tup_cons k2
  obtain ⟨_, _, _, _, rfl, rfl, ⟨n3, rfl, rfl⟩, k4⟩ := Sch.Rep.tup_cons k3
  obtain ⟨_, _, _, _, rfl, rfl, ⟨n4, rfl, rfl⟩, k5⟩ := Sch.Rep.tup_cons k4
  obtain ⟨_, _, _, _, rfl, rfl, ⟨n5, rfl, rfl⟩, k6⟩ := Sch.Rep.tup_cons k5
  obtain ⟨_, _, _, _, rfl, rfl, ⟨n6, rfl, rfl⟩, k7⟩ := Sch.Rep.tup_cons k6
  obtain ⟨_, _, _, _, rfl, rfl, ⟨n7, rfl, rfl⟩, k8⟩ := Sch.Rep.tup_cons k7
  obtain ⟨_, cr, _, vr, rfl, rfl, ⟨n8, rfl, rfl⟩, k9⟩ := Sch.Rep.tup_cons k8
  refine ⟨n8, rfl, rfl, fun i => ⟨?_, rfl, rfl⟩⟩
  exact ⟨[.int .i64 n0], _, _, _, rfl, rfl, Sch.Rep.num_mk n0, [.int .i64 n1], _, _, _, rfl, rfl, Sch.Rep.num_mk n1, [.int .i64 n2], _, _, _, rfl, rfl, Sch.Rep.num_mk n2,
    [.int .i64 n3], _, _, _, rfl, rfl, Sch.Rep.num_mk n3, [.int .i64 n4], _, _, _, rfl, rfl, Sch.Rep.num_mk n4, [.int .i64 n5], _, _, _, rfl, rfl, Sch.Rep.num_mk n5,
    [.int .i64 n6], _, _, _, rfl, rfl, Sch.Rep.num_mk n6, [.bool n7], _, _, _, rfl, rfl, Sch.Rep.flag_mk n7, [.int .i64 i], cr, .num i, vr, rfl, rfl, Sch.Rep.num_mk i, k9⟩
/-- A net of room m holds the last m of what came. -/
theorem came_drop {S : List Val} {x : Val} {m : Nat} (hm : 1 ≤ m) : came m (S.drop (S.length - m)) x = (S ++ [x]).drop ((S ++ [x]).length - m) := by
  unfold came
  have hl : (S.drop (S.length - m) ++ [x]).length = min S.length m + 1 := by simp; omega
  rw [hl]
  by_cases h : S.length < m
  · rw [if_neg (by omega), show S.length - m = 0 by omega, show (S ++ [x]).length - m = 0 by simp; omega]
    simp
  · rw [if_pos (by omega), show (S ++ [x]).length - m = S.length - m + 1 by simp; omega, List.eraseIdx_zero, List.tail_append_of_ne_nil (by intro e; have := congrArg List.length e; simp at this; omega)]
    rw [List.drop_append_of_le_length (by omega), List.tail_drop]
/-- A list of messages that came in: one of them. -/
theorem elem_at {w : World} {a : Option Addr} {n c : Nat} {l : List Val} (h : (Sch.list sMsg).Rep w (· < w.heap.size) [.slice a n c] (.list l)) : n = l.length ∧ ∀ i x, l[i]? = some x → ∃ b o us, a = some ⟨b, o, none⟩ ∧ w.rangeAt b (o + i * 46) us ∧ b < w.heap.size ∧ sMsg.Rep w (· < w.heap.size) us x := by
  obtain ⟨a', c', l', h1, h2, h3⟩ := h
  cases h2
  simp only [List.cons.injEq, Value.slice.injEq, and_true] at h1
  obtain ⟨rfl, rfl, rfl⟩ := h1
  refine ⟨rfl, fun i x hx => ?_⟩
  obtain ⟨b, o, us, k1, _, k2, k3, k4⟩ := h3 i x hx
  exact ⟨b, o, us, k1, k3, k2, k4⟩
theorem len_le_sum : ∀ {l : List Nat}, (∀ x ∈ l, 1 ≤ x) → l.length ≤ l.sum
  | [], _ => by simp
  | x :: l, h => by
    have h1 := len_le_sum (l := l) (fun y hy => h y (by simp [hy]))
    have h2 := h x (by simp)
    simp only [List.length_cons, List.sum_cons]; omega
theorem list_le {w : World} {ok : Nat → Prop} {s : Sch} {cs : List Value} {l : List Val} (h : (Sch.list s).Rep w ok cs (.list l)) (hs : s.wpos = true) : l.length ≤ (Sch.list s).wmax (.list l) := by
  obtain ⟨a, c, l', _, h2, h3⟩ := h
  cases h2
  have := len_le_sum (l := l.map s.wmax) (fun y hy => by
    obtain ⟨x, hx, rfl⟩ := List.mem_map.1 hy
    obtain ⟨i, hi⟩ := List.mem_iff_getElem?.1 hx
    obtain ⟨_, _, _, _, _, _, _, h4⟩ := h3 i x hi
    exact h4.wpos hs)
  simp only [Sch.wmax]
  rw [List.length_map] at this
  omega
theorem map_erase {α β : Type} (f : α → β) : ∀ (l : List α) (i : Nat), (l.eraseIdx i).map f = (l.map f).eraseIdx i
  | [], i => by simp
  | a :: l, 0 => rfl
  | a :: l, i + 1 => by simp [map_erase f l i]
theorem tmod_in {n : Int} (h : 0 < n) (x : Int) : (0 ≤ x.tmod n ∧ x.tmod n < n) ∨ (x.tmod n < 0 ∧ 0 ≤ x.tmod n + n ∧ x.tmod n + n < n) := by
  have h1 := Int.tmod_lt_of_pos x h
  have h2 := Int.lt_tmod_of_pos x h
  omega
theorem le_sum_mem {a : Nat} : ∀ {l : List Nat}, a ∈ l → a ≤ l.sum
  | x :: l, h => by
    rcases List.mem_cons.1 h with rfl | h
    · simp
    · have := le_sum_mem h
      simp only [List.sum_cons]; omega
theorem wmax_at {l : List Val} {s : Sch} {i : Nat} {x : Val} (h : l[i]? = some x) : s.wmax x ≤ (Sch.list s).wmax (.list l) := by
  simp only [Sch.wmax]
  have : s.wmax x ∈ l.map s.wmax := List.mem_map_of_mem (List.mem_of_getElem? h)
  have := le_sum_mem this
  omega
end Go.Rc
namespace Go.Proofs.Ytpoplipjombdbaa
open Go.RowKit Go.Lb Go.Rc
/-- Where a sending stands: the numbers of what was sent, in the slice v; what is under way. -/
structure Sent (w0 w : World) (p m : Nat) (v : Value) (P : List (Int × Val)) (L : List Val) (X : List Nat) : Prop where
  row : w.ownsRow w0.heap.size 3 1 v P.length (P.map fun q => .int .i64 q.1)
  ctx : ∀ q ∈ P, nth 8 q.2 = .num q.1
  net : PNet w p m L X v.ownBlock.toList
  low : ∀ k ∈ X, w0.heap.size ≤ k
  upd : Upd [] w0 w
section
variable {w0 w w' : World} {p m : Nat} {v v' : Value} {P : List (Int × Val)} {L L' : List Val} {X X' : List Nat}
theorem Sent.same (h : Sent w0 w p m v P L X) (u : Upd [] w w') : Sent w0 w' p m v P L X :=
  ⟨u.row h.row (by simp), h.ctx, h.net.same u (by simp) ownN_upd, h.low, h.upd.trans u (by simp)⟩
/-- A call on the net. -/
theorem Sent.call {F : List Nat} (h : Sent w0 w p m v P L X) (n : NetTo w X w' X') (hn : PNet w' p m L' X' (F ++ v.ownBlock.toList)) : Sent w0 w' p m v P L' X' :=
  ⟨n.upd.row h.row (fun k hk hx => h.net.lt.2.2.2 k hx (by simp [hk])), h.ctx, hn.more (fun k hk => List.mem_append.2 (.inr hk)), n.low h.low h.upd.size, h.upd.trans n.upd (fun k hk => .inr (h.low k hk))⟩
theorem Sent.call0 (h : Sent w0 w p m v P L X) (n : NetTo w X w' X') (hn : PNet w' p m L' X' v.ownBlock.toList) : Sent w0 w' p m v P L' X' := Sent.call (F := []) h n hn
/-- The numbers stand elsewhere. -/
theorem Sent.swap {P' : List (Int × Val)} {n : Nat} {xs : List Value} (h : Sent w0 w p m v P L X) (u : Upd [] w w') (hr : w'.ownsRow w.heap.size 3 1 v' n xs) (hn : n = P'.length) (hxs : xs = P'.map fun q => .int .i64 q.1) (hc : ∀ q ∈ P', nth 8 q.2 = .num q.1) : Sent w0 w' p m v' P' L X := by
  subst hn hxs
  have hlt := h.net.lt
  refine ⟨own_rebase hr (fun k hk => Nat.le_trans h.upd.size (own_lo hr hk).1), hc, NetAt.by h.net ⟨u.mono (by simp), fun k hk => .inr (own_lo hr (by simpa using hk)).1⟩ ownN_upd (fun k hk => (own_lo hr (by simpa using hk)).2), h.low, h.upd.trans u (by simp)⟩
/-- One number more. -/
theorem Sent.push {o : Obj} {i : Int} {x : Val} (h : Sent w0 w p m v P L X) (hx : nth 8 x = .num i) (ho : w'.ownsRow w0.heap.size 3 1 v' (P.length + 1) ((P.map fun q => .int .i64 q.1) ++ [.int .i64 i])) (hg : (w.alloc o).grownBy w' v.ownBlock) (hv : v'.ownBlock = v.ownBlock ∨ v'.ownBlock = some (w.alloc o).heap.size) : Sent w0 w' p m v' (P ++ [(i, x)]) L X := by
  have hlt := h.net.lt
  have hu : Upd v.ownBlock.toList w w' := ((Upd.refl _ w).alloc _).grown hg (fun k hk => .inl (by simp [hk]))
  refine ⟨by simpa using ho, fun q hq => ?_, NetAt.by h.net ⟨hu, fun k hk => ?_⟩ ownN_upd (fun k hk => (own_lo ho (by simpa using hk)).2), h.low, h.upd.trans hu (fun k hk => .inr (own_lo h.row (by simpa using hk)).1)⟩
  · rcases List.mem_append.1 hq with hq | hq
    · exact h.ctx q hq
    · simp at hq; subst hq; exact hx
  · rcases hv with h1 | h1
    · exact .inl (by rw [h1] at hk; exact hk)
    · rw [h1] at hk; simp at hk; exact .inr (by omega)
end
end Go.Proofs.Ytpoplipjombdbaa
