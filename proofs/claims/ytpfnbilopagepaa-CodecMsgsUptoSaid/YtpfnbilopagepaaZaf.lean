/- A part that several proofs lean on: texts one behind the other. No condition but those that each theorem states. -/
import Derived.Test.YtpfnbilopagepaaZae
set_option linter.unusedVariables false
set_option linter.unusedSimpArgs false
/- codec's put[Entry] and PutEntry. -/
namespace Go.Proofs.Ytpfnbilopagepaa
open Go.RowKit Go.Lb Go.Rc

set_option maxRecDepth 20000 in
set_option maxHeartbeats 2000000 in
theorem putEntry_any (cs : List Value) (v : Val) (w : World) (hr : Sch.Rep w (· < w.heap.size) sEntry cs v) (hl : sEntry.wmax v ≤ 1099511627776) :
    Calls Try.prog 67 #[.agg cs.toArray, .func (.func 68) #[] #[]] w (PutIs sEntry v w) := by
  have hlen : cs.length = 29 := hr.len
  have HR := Lib.hid hr
  have HL := Lib.hid hl
  clear hr hl
  go_enter Try.func67, Try.ntmps67
  go_wp2_with fail
  have uW : Upd [] w ((w.alloc (.cells cs.toArray 56)).alloc (.cells #[.slice none 0 0, .bool false, .bool false] 157)) := ((Upd.refl _ _).alloc _).alloc _
  refine (entry_writes w.heap.size [w.heap.size] (w.heap.size + 1) w.heap.size 0 56 [] cs [] v [] false _ (fresh_out (mk := cW) rfl) (by simp) rfl (by simpa using (Blk.new w 56 cs).alloc _) (HR.out.upd uW (by simp)) (by simpa using HL.out)).mono ?_
  rintro e w1 ⟨rfl, o, b, h1, h2, h3⟩
  obtain ⟨m2, m3, m4, m5⟩ := fw_mark h1
  cases b with
  | true =>
    have HF := Lib.hid (putIs_bad h2 uW h3)
    clear h1 h2 h3 uW
    go_wp2_with fail
    go_ret2
    exact HF.out
  | false =>
    obtain ⟨a, c, e0, hF⟩ := putIs_good h1 h2 uW h3
    have e1 : w1.cell? ⟨w.heap.size + 1, 0, none⟩ = some (.slice a (sEntry.put v).length c) := e0
    have HF := Lib.hid hF
    clear h1 h2 h3 uW e0 hF
    go_wp2_with fail
    go_ret2
    exact HF.out

set_option maxRecDepth 20000 in
set_option maxHeartbeats 2000000 in
theorem putEntry_puts : Puts 29 sEntry := by
  intro cs v w hr hl
  have hlen : cs.length = 29 := hr.len
  have uW : Upd [] w (w.alloc (.cells cs.toArray 56)) := (Upd.refl _ _).alloc _
  have HR := Lib.hid hr
  have HL := Lib.hid hl
  have hb := Blk.new w 56 cs
  have HB := Lib.hid hb
  clear hr hl hb
  go_enter Try.func29, Try.ntmps29
  go_wp2_with (refine wpList_load_blk rfl 56 (.tmp 1) rfl w.heap.size rfl HB.out Try.underlying56 rfl (by rw [hlen]; exact Try.size56) ?_)
  refine (putEntry_any cs v _ ((HR.out.upd uW (by simp)).mono (fun b hb hl => hl)) HL.out).mono ?_
  rintro e w1 ⟨u1, ⟨hg, a, c, rfl, hown⟩ | ⟨hg, rfl⟩⟩
  · have HF : Hid (PutIs sEntry v w (.returned (.tuple #[.slice a (sEntry.put v).length c, .int .i64 0])) w1) := Lib.hid ⟨uW.trans u1 (by simp), .inl ⟨hg, a, c, rfl, own_rebase hown (fun k hk => by have := own_lo hown hk; have := uW.size; omega)⟩⟩
    clear u1 hg hown uW
    go_wp2_with fail
    go_ret2
    exact HF.out
  · have HF : Hid (PutIs sEntry v w (.returned (.tuple #[.slice none 0 0, .int .i64 1])) w1) := Lib.hid ⟨uW.trans u1 (by simp), .inr ⟨hg, rfl⟩⟩
    clear u1 hg uW
    go_wp2_with fail
    go_ret2
    exact HF.out
end Go.Proofs.Ytpfnbilopagepaa
/- The reference's entry, written. -/
namespace Go.Proofs.Ytpfnbilopagepaa
open Go.RowKit Go.Lb Go.Rc

set_option maxRecDepth 20000 in
set_option maxHeartbeats 4000000 in
theorem oentry_writes : OWrites 69 sEntry := fun B X f cs v o b w h hr hl => by
  have hlen : cs.length = 29 := hr.len
  have k0 : (tup [.num, .num, sCmd]).Rep w (· < B) cs v := hr
  obtain ⟨_, _, v0, y1, -, rfl, ⟨n0, -, rfl⟩, k1⟩ := Sch.Rep.tup_cons k0
  obtain ⟨_, _, v1, y2, -, rfl, ⟨n1, -, rfl⟩, k2⟩ := Sch.Rep.tup_cons k1
  obtain ⟨_, _, v2, y3, -, rfl, -, k3⟩ := Sch.Rep.tup_cons k2
  obtain ⟨-, rfl⟩ := Sch.Rep.tup_nil k3
  clear k1 k2 k3
  have H0 := Lib.hid (OWg.start (tp := 56) (rest := [(.num, .num n0), (.num, .num n1), (sCmd, v2)]) h hr (by have := tup_wmax [(.num, .num n0), (.num, .num n1), (sCmd, v2)]; rw [← this]; exact hl) (Blk.new w 56 cs) ((Upd.refl _ _).alloc _))
  have hB := h.base
  clear h hr hl k0
  show Calls Try.prog _ #[_, .agg cs.toArray] _ _
  go_enter Try.func69, Try.ntmps69
  have e0 := WrG.numAt (q := 0) H0.out rfl
  go_wp2_with fail
  refine (OWg.goNum H0.out).mono ?_
  rintro e w1 ⟨rfl, o1, b1, h⟩
  have H1 := Lib.hid h
  clear h e0
  have e1 := WrG.numAt (q := 1) H1.out rfl
  go_wp2_with fail
  refine (OWg.goNum H1.out).mono ?_
  rintro e w2 ⟨rfl, o2, b2, h⟩
  have H2 := Lib.hid h
  clear h e1
  obtain ⟨c2, r2, g2⟩ := WrG.range (q := 2) H2.out rfl
  have hl2 : c2.length = 27 := r2.len
  have G2 := Lib.hid g2
  have R2 := Lib.hid r2
  clear g2 r2
  go_wp2_with (refine wpList_load_mid rfl 52 _ rfl w.heap.size 2 rfl c2 _ G2.out Try.underlying52 rfl (by rw [hl2]; exact Try.size52) ?_)
  refine (OWg.go ocmd_writes H2.out R2.out).mono ?_
  rintro e w3 ⟨rfl, o3, b3, h⟩
  have H3 := Lib.hid h
  clear h
  go_wp2_with fail
  go_end0
  exact OWg.fin H3.out ((Upd.refl _ _).alloc _) rfl rfl
end Go.Proofs.Ytpfnbilopagepaa
/- The reference's PutEntry. -/
namespace Go.Proofs.Ytpfnbilopagepaa
open Go.RowKit Go.Lb Go.Rc

set_option maxRecDepth 20000 in
set_option maxHeartbeats 2000000 in
theorem rputEntry_puts : Puts 30 sEntry := by
  intro cs v w hr hl
  have hlen : cs.length = 29 := hr.len
  have uW : Upd [] w ((w.alloc (.cells cs.toArray 56)).alloc (.cells #[.slice none 0 0, .bool false] 126)) := ((Upd.refl _ _).alloc _).alloc _
  have HR := Lib.hid hr
  have HL := Lib.hid hl
  have HB := Lib.hid ((Blk.new w 56 cs).alloc (.cells #[.slice none 0 0, .bool false] 126))
  have hb0 := Try.prog.built 126 []
  have HBU : Hid (Try.prog.built 126 [] = some #[.slice none 0 0, .bool false]) := Lib.hid (by kernel_rfl)
  clear hr hl hb0
  go_enter Try.func30, Try.ntmps30
  go_wp2_with (first | (refine wpList_buildTo (o := ⟨some 5, .build 126 #[], _, _, _, _⟩) rfl 126 #[] rfl (some 5) rfl #[.slice none 0 0, .bool false] (by simpa using HBU.out) ?_) | (refine wpList_load_blk rfl 56 (.tmp 1) rfl w.heap.size rfl HB.out Try.underlying56 rfl (by rw [hlen]; exact Try.size56) ?_))
  refine (oentry_writes w.heap.size [w.heap.size] (w.heap.size + 1) cs v [] false _ (fresh_out (mk := oW) rfl) (HR.out.upd uW (by simp)) (by simpa using HL.out)).mono ?_
  rintro e w1 ⟨rfl, o, b, h1, h2, h3⟩
  cases b with
  | true =>
    have HF := Lib.hid (putIs_bad h2 uW h3)
    have H1 := Lib.hid h1
    clear h1 h2 h3 uW
    go_wp2_with fail
    refine (told_bad H1.out).mono ?_
    rintro e w2 ⟨rfl, rfl⟩
    go_wp2_with fail
    go_ret2
    exact HF.out
  | false =>
    obtain ⟨a, c, e0, hF⟩ := putIs_good h1 h2 uW h3
    have e1 : w1.cell? ⟨w.heap.size + 1, 0, none⟩ = some (.slice a (sEntry.put v).length c) := e0
    have HF := Lib.hid hF
    have H1 := Lib.hid h1
    have E1 := Lib.hid e1
    clear h1 h2 h3 uW e0 hF e1
    go_wp2_with fail
    refine (told_good H1.out E1.out).mono ?_
    rintro e w2 ⟨rfl, rfl⟩
    go_wp2_with fail
    go_ret2
    exact HF.out
end Go.Proofs.Ytpfnbilopagepaa
/- codec's form.entry, reading. -/
namespace Go.Proofs.Ytpfnbilopagepaa
open Go.RowKit Go.Lb Go.Rc

set_option maxRecDepth 20000 in
set_option maxHeartbeats 2000000 in
theorem entry_reads : Reads 68 sEntry := by
  intro B f p q tp pre post l b w h hB hpf hq hp
  subst hq
  have H0 := Lib.hid (RdSt.start (rest := [.num, .num, sCmd]) h hB hpf hp (fr_mark h).2.2.2.1)
  clear h hp
  go_enter Try.func68, Try.ntmps68
  go_wp2_with fail
  refine wp_region_lex (fun _ => True) 99 [(0, true), (1, true), (2, true), (3, true), (4, true), (5, true), (6, true), (7, false), (8, false)] (by kernel_rfl) (by kernel_rfl) (by kernel_rfl) (by kernel_rfl) (fun _ _ d _ _ h => by cases d <;> exact h) ?_
  simp only [lexOps, List.map_cons, List.map_nil, List.getD_cons_zero, List.getD_cons_succ]
  iterate 7 (refine lex_read rfl trivial (v := ?_) (fun w' _ => ?_) ?_; rotate_left; (focus (go_simp; try with_reducible rfl)); simp only [Act.put, List.setIfInBounds_toArray, List.set_cons_zero, List.set_cons_succ])
  refine lex_do rfl (fun K hK => ?_)
  go_simp
  refine hK _ _ (fun _ => trivial) ?_
  clear hK K
  refine lex_do rfl (fun K hK => ?_)
  go_simp
  refine (CRd.goNums (rest := [sCmd]) (k := 2) H0.out ((Upd.refl _ _).alloc _).drew (Nat.le_refl _) (Blk.drew (Blk.new _ _ [_, _])) (by simp only [fsize_append, fsize_nums, fsize, List.nil_append] <;> rfl) (by decide)).mono ?_
  rintro e w1 ⟨rfl, ns1, l1, b1, hn, h⟩
  have H1 := Lib.hid h
  have HN1 := Lib.hid hn
  clear hn
  refine hK _ _ (fun _ => trivial) ?_
  clear hK K h
  refine lex_nil ?_
  go_wp2_with fail
  refine (CRd.go cmd_reads H1.out (by simp only [fsize_append, fsize_nums, fsize, HN1.out, List.nil_append] <;> rfl)).mono ?_
  rintro e w2 ⟨rfl, v2, l2, b2, h⟩
  have H2 := Lib.hid h
  clear h
  go_wp2_with fail
  go_end0
  exact CRd.fin H2.out (by simp only [List.map_append, nums_fst, HN1.out, List.append_assoc, List.map_cons, List.map_nil, List.nil_append]; rfl)
end Go.Proofs.Ytpfnbilopagepaa
/- codec's get[Entry] and GetEntry. -/
namespace Go.Proofs.Ytpfnbilopagepaa
open Go.RowKit Go.Lb Go.Rc

set_option maxRecDepth 20000 in
set_option maxHeartbeats 2000000 in
theorem getEntry_any (a : Option Addr) (c : Nat) (l : List Nat) (w : World) (hb : Bytes w (· < w.heap.size) a l) (hc : l.length ≤ c ∧ c ≤ maxLen) :
    Calls Try.prog 70 #[.slice a l.length c, .func (.func 68) #[] #[]] w (GetIs sEntry l w) := by
  have HB := Lib.hid hb
  have HC := Lib.hid hc
  clear hb hc
  go_enter Try.func70, Try.ntmps70
  go_wp2_with (refine wpList_alloc_blk rfl 56 rfl sEntry.zc (zero56 _) ?_; intro wA hA uA)
  rename_i wB hB uB wC hC uC K1 a1 K2 a2
  have uW : Upd [] w (wA.alloc (.cells #[.slice a l.length c, .bool true, .bool false] 157)) := ((uB.trans uC (by simp)).trans uA (by simp)).alloc _
  have s1 := uB.size
  have s2 := uC.size
  have s3 := uA.size
  have l1 := hB.lt
  have l2 := hC.lt
  have l3 := hA.lt
  have hT := (uA.blk (uC.blk hB (by simp)) (by simp)).alloc (.cells #[.slice a l.length c, .bool true, .bool false] 157)
  have hX := (uA.blk hC (by simp)).alloc (.cells #[.slice a l.length c, .bool true, .bool false] 157)
  have hN := hA.alloc (.cells #[.slice a l.length c, .bool true, .bool false] 157)
  refine (entry_reads w.heap.size wA.heap.size wB.heap.size 0 56 [] [] l false _ ⟨a, c, Blk.new wA 157 [.slice a l.length c, .bool true, .bool false], HB.out.upd uW (by simp), HC.out, by omega⟩ (by omega) (by omega) rfl (by simpa using hX)).mono ?_
  rintro e w1 ⟨rfl, v, cs, l', b', h1, h2, h3, h4, h5⟩
  have hlen : cs.length = 29 := h4.len
  have h3' : Blk w1 wB.heap.size 56 cs := by simpa using h3
  have hT1 : Blk w1 w.heap.size 56 sEntry.zc := h2.blk hT (by simp; omega)
  have hN1 : Blk w1 wC.heap.size 56 sEntry.zc := h2.blk hN (by simp; omega)
  have HU : Hid (Upd [] w w1) := Lib.hid (uW.trans h2 (by simp; omega))
  have HT := Lib.hid hT1
  have HN := Lib.hid hN1
  have HX := Lib.hid h3'
  have HRep := Lib.hid (h4.mono (ok' := fun k => w.heap.size < k) (fun b hb _ => by simp at hb; omega))
  have HR := Lib.hid h5
  obtain ⟨m2, _, _, _, _⟩ := fr_mark h1
  obtain ⟨a', c', hI⟩ := h1
  have f0 := hI.blk.cell (o := 0) rfl
  clear h2 h3 h4 h5 h3' hT1 hN1 hT hX hN hI uA uB uC hA hB hC uW
  by_cases hg : b' = false ∧ l' = []
  · obtain ⟨rfl, rfl⟩ := hg
    have f0' : w1.cell? ⟨wA.heap.size, 0, none⟩ = some (.slice a' 0 c') := f0
    clear f0
    go_wp2_with (first | (refine wpList_load_blk rfl 56 (.tmp 6) rfl wB.heap.size rfl HX.out Try.underlying56 rfl (by rw [hlen]; exact Try.size56) ?_) | (refine wpList_store_blk (o := ⟨none, .store 56 (.tmp 4) (.tmp 28), _, _, _, _⟩) rfl 56 (.tmp 4) (.tmp 28) rfl w.heap.size cs rfl rfl HT.out (by rw [hlen]; exact Try.size56) (by rw [hlen]; rfl) HRep.out.one ?_; intro w3 hb3 hu3))
    have hl := run_loadVar_blk (P := Try.prog) hb3 56 _ Try.underlying56 rfl (by rw [hlen]; exact Try.size56)
    refine bodyPost_ret (v := .tuple #[.agg cs.toArray, .bool true]) ?_ rfl ⟨HU.out.trans hu3 (by simp), cs, v, true, rfl, HRep.out.keep (fun k hk hl => ⟨Nat.le_of_lt hk, hu3.block k hl (by simp; omega)⟩) hu3.size, fun _ => (HR.out.good rfl).2, fun h => (by cases h)⟩
    · rw [results_cell_tmp Try.results70]; simp [asAddr, hl]
  · have t1 : b' = true ∨ (b' = false ∧ decide (0 < l'.length) = true) := by
      cases b' with
      | true => exact .inl rfl
      | false =>
        right
        refine ⟨rfl, ?_⟩
        rw [decide_eq_true_eq, List.length_pos_iff]
        exact fun h => hg ⟨rfl, h⟩
    have HG : Hid (∀ v', sEntry.get l ≠ some (v', [])) := Lib.hid (fun v' hv => by
      cases b' with
      | true =>
        rcases HR.out.bad rfl with h | h
        · cases h
        · rw [hv] at h; cases h
      | false =>
        have := (HR.out.good rfl).2
        rw [hv] at this
        simp only [Option.some.injEq, Prod.mk.injEq] at this
        exact hg ⟨rfl, this.2.symm⟩)
    clear hg
    rcases t1 with rfl | ⟨rfl, t1⟩
    all_goals
      go_wp2_with (first | (refine wpList_load_blk rfl 56 (.tmp 7) rfl wC.heap.size rfl HN.out Try.underlying56 rfl (by exact Try.size56) ?_) | (refine wpList_store_blk (o := ⟨none, .store 56 (.tmp 4) (.tmp 27), _, _, _, _⟩) rfl 56 (.tmp 4) (.tmp 27) rfl w.heap.size sEntry.zc rfl rfl HT.out (by exact Try.size56) (by rfl) (Sch.zc_one sEntry) ?_; intro w3 hb3 hu3))
      have hl := run_loadVar_blk (P := Try.prog) hb3 56 _ Try.underlying56 rfl (by exact Try.size56)
      refine bodyPost_ret (v := .tuple #[.agg sEntry.zc.toArray, .bool false]) ?_ rfl ⟨HU.out.trans hu3 (by simp), sEntry.zc, sEntry.zero, false, rfl, Sch.Rep.zero _ _ _, fun h => (by cases h), fun _ => ⟨HG.out, rfl⟩⟩
      rw [results_cell_tmp Try.results70]; simp [asAddr, hl]

set_option maxRecDepth 20000 in
set_option maxHeartbeats 2000000 in
theorem getEntry_gets : Gets 31 sEntry := by
  intro a c l w hb hc
  have HB := Lib.hid hb
  have HC := Lib.hid hc
  clear hb hc
  go_enter Try.func31, Try.ntmps31
  go_wp2_with (refine wpList_alloc_blk rfl 56 rfl sEntry.zc (zero56 _) ?_; intro wA hA uA)
  have s1 := uA.size
  have l1 := hA.lt
  refine (getEntry_any a c l wA ((HB.out.upd uA (by simp)).mono' s1) HC.out).mono ?_
  rintro e w1 ⟨u1, cs, v, r, rfl, hr, h1, h2⟩
  have hlen : cs.length = 29 := hr.len
  have HT := Lib.hid (u1.blk hA (by simp))
  have HU : Hid (Upd [] w w1) := Lib.hid (uA.trans u1 (by simp))
  have HRep := Lib.hid (hr.mono (ok' := fun k => w.heap.size < k) (fun b hb _ => by omega))
  have H1 := Lib.hid h1
  have H2 := Lib.hid h2
  clear hr h1 h2 u1 uA hA
  go_wp2_with (refine wpList_store_blk (o := ⟨none, .store 56 (.tmp 2) (.tmp 6), _, _, _, _⟩) rfl 56 (.tmp 2) (.tmp 6) rfl w.heap.size cs rfl rfl HT.out (by rw [hlen]; exact Try.size56) (by rw [hlen]; rfl) HRep.out.one ?_; intro w3 hb3 hu3)
  have hl := run_loadVar_blk (P := Try.prog) hb3 56 _ Try.underlying56 rfl (by rw [hlen]; exact Try.size56)
  refine bodyPost_ret (v := .tuple #[.agg cs.toArray, .bool r]) ?_ rfl ⟨HU.out.trans hu3 (by simp), cs, v, r, rfl, HRep.out.keep (fun k hk hl => ⟨Nat.le_of_lt hk, hu3.block k hl (by simp; omega)⟩) hu3.size, H1.out, H2.out⟩
  rw [results_cell_tmp Try.results31]; simp [asAddr, hl]
end Go.Proofs.Ytpfnbilopagepaa
/- codec's list[Entry], writing. -/
namespace Go.Proofs.Ytpfnbilopagepaa
open Go.RowKit Go.Lb Go.Rc

set_option maxRecDepth 20000 in
set_option maxHeartbeats 2000000 in
theorem listEntry_writes : LWrites 116 68 sEntry := by
  intro B X f p q tp pre cs post v o b w h hX hq hp hr hl
  obtain ⟨a, c, l, rfl, rfl, hall⟩ := hr
  have HA : Hid (Elems w (· < B) sEntry 29 a l) := Lib.hid hall
  subst hq
  have H := Lib.hid h
  have HL := Lib.hid hl
  have HX := Lib.hid hX
  have HP := Lib.hid hp
  have hl1 : o.length + 6 ≤ 1099511627776 := by simp only [Sch.wmax] at hl; omega
  have c0 := hp.cell (o := pre.length) mid_at
  have hB := h.base
  clear h hX hall hl hp
  go_enter Try.func116, Try.ntmps116
  go_wp2_with fail
  refine (many_w B X f l.length 64 o b _ H.out hl1 (by decide)).mono ?_
  rintro e w1 ⟨r, o1, b1, rfl, h1, h2, h3⟩
  obtain ⟨m2, m3, m4, m5⟩ := fw_mark h1
  have p0 := (h2.blk HP.out (.inr HX.out)).cell (o := pre.length) mid_at
  have H1 := Lib.hid h1
  have H2 := Lib.hid h2
  have H3 : Hid (LWk sEntry l.length [] o b o1 b1) := Lib.hid (LWk.start h3)
  clear h1 h2 h3
  go_wp2_with fail
  go_loopg [7, 8, 25] l.length (fun g u v t wr => ∃ (i : Nat) (o' : List Nat) (b' : Bool), t = .int .i64 i ∧ l.length - i = g ∧ i ≤ l.length ∧ Fw B X wr f o' b' ∧ Kp B X w wr ∧ LWk sEntry l.length (l.take i) o b o' b')
  case atStart => exact ⟨0, o1, b1, rfl, rfl, by omega, H1.out, H2.out, H3.out⟩
  case round =>
    obtain ⟨i, o', b', rfl, hg, hi, hF, hK, hW⟩ := hrel
    have HG := Lib.hid hg
    have HF := Lib.hid hF
    have HK := Lib.hid hK
    have HW := Lib.hid hW
    obtain ⟨n2, n3, n4, n5⟩ := fw_mark hF
    have r0 := (hK.blk HP.out (.inr HX.out)).cell (o := pre.length) mid_at
    clear hg hF hK hW m2 m3 m4 m5 p0
    by_cases hlt : i < l.length
    · have t1 : decide (i < l.length) = true := by simpa using hlt
      cases b' with
      | true =>
        have HE := Lib.hid HW.out.early
        go_wp2_with fail
        go_end0
        exact ⟨rfl, o', true, HF.out, HK.out, HE.out⟩
      | false =>
      obtain ⟨x, hx⟩ : ∃ x, l[i]? = some x := ⟨_, List.getElem?_eq_getElem hlt⟩
      obtain ⟨b0, o0, us, rfl, hb0, hbl, hrg, hrep⟩ := HA.out i x hx
      have hrep := hrep.keep (ok' := (· < B)) (fun k hk hl => ⟨hk, HK.out.block k hl (.inl hk)⟩) HK.out.size
      have hrg : wr.rangeAt b0 (o0 + i * 29) us := rangeAt_keep hrg (HK.out.block b0 hbl (.inl hb0))
      have hwl := HW.out.room hx HL.out
      have HWL := Lib.hid hwl
      have h64 : l.length ≤ 64 := (HW.out.bad.1 rfl).2.1
      have Hx := Lib.hid hx
      have hus : us.length = 29 := hrep.len
      have HONE : Hid (∀ u ∈ us, u.oneCell' = true) := Lib.hid hrep.one
      clear hx hwl
      have HREP := Lib.hid hrep
      have HRG := Lib.hid hrg
      clear hrep hrg
      go_wp2_with (first | (refine wpList_load_mid rfl 56 (.tmp 36) rfl b0 (o0 + i * 29) rfl us _ HRG.out Try.underlying56 rfl (by rw [hus]; exact Try.size56) ?_) | (refine wpList_alloc_blk rfl 56 rfl sEntry.zc (zero56 _) ?_; intro wA hbA huA) | (refine wpList_store_blk (o := ⟨none, .store 56 (.tmp 8) (.tmp 37), _, _, _, _⟩) rfl 56 (.tmp 8) (.tmp 37) rfl wr.heap.size us rfl rfl hbA (by rw [hus]; exact Try.size56) (by rw [hus]; rfl) HONE.out ?_; intro wB hb huB))
      have hu : Upd [] wr wB := huA.trans huB (by simp)
      clear huA hbA huB
      refine (entry_writes B (wr.heap.size :: X) f wr.heap.size 0 56 [] us [] x o' false wB (HF.out.new hu (Nat.le_refl _) hb.lt) (by simp) rfl (by simpa using hb) (HREP.out.upd hu (by simp)) HWL.out).mono ?_
      rintro e w2 ⟨rfl, o2, b2, h1, h2, h3⟩
      have H1 := Lib.hid h1.less
      have H2 := Lib.hid ((Kp.of_nil hu).trans h2.drop)
      have H3 := Lib.hid (HW.out.snoc h3)
      clear h1 h2 h3
      go_wp2_with fail
      go_roundg (l.length - (i + 1))
      case measure => have := HG.out; omega
      case rel => exact ⟨i + 1, o2, b2, by go_num, rfl, by omega, H1.out, HK.out.trans H2.out, by rw [take_snoc Hx.out]; exact H3.out⟩
    · obtain rfl : i = l.length := by omega
      go_wp2_with fail
      go_end0
      refine ⟨rfl, o', b', HF.out, HK.out, LWk.fin ?_⟩
      have := HW.out
      rwa [List.take_length] at this
end Go.Proofs.Ytpfnbilopagepaa
/- codec's form.code, writing and reading. -/
namespace Go.Proofs.Ytpfnbilopagepaa
open Go.RowKit Go.Lb Go.Rc

set_option maxRecDepth 20000 in
set_option maxHeartbeats 1000000 in
theorem code_writes : Writes 145 .num := by
  intro B X f p q tp pre cs post v o b w h hX hq hp hr hl
  obtain ⟨n, rfl, rfl⟩ := hr
  subst hq
  simp only [Sch.wmax] at hl
  have hN := h.new ((Upd.refl [] w).alloc (.cells #[.int .i64 n] 3)) (x := w.heap.size) (Nat.le_refl _) (by simp)
  have HN := Lib.hid hN
  have HPb := Lib.hid (hp.alloc (.cells #[.int .i64 n] 3))
  have k0 := hp.cell (o := pre.length) mid_at
  have hB := h.base
  have hplt := hp.lt
  have HX := Lib.hid hX
  clear h hN hp hX
  go_enter Try.func145, Try.ntmps145
  go_wp2_with fail
  refine (num_w B (w.heap.size :: X) f _ _ _ o b _ HN.out ((Blk.new w 3 [.int .i64 _]).cell rfl) hl).mono ?_
  rintro e w1 ⟨rfl, o', b', h1, h2, h3⟩
  have hbn := h2.blk (Blk.new w 3 [.int .i64 _]) (.inr (by simp))
  have c0 := hbn.cell (o := 0) rfl
  have hbp := h2.blk HPb.out (.inr (by simp [HX.out]))
  have p0 := hbp.cell (o := pre.length) mid_at
  have pz := hbp.frozen pre.length
  have plt := hbp.lt
  have HS := Lib.hid (setCell_same hbp (o := pre.length) mid_at)
  have HF := Lib.hid (show WrPost .num B X f (.num n) o b w (.returned (.tuple #[])) w1 from ⟨rfl, o', b', h1.less, (Kp.of_nil ((Upd.refl [] w).alloc _)).trans h2.drop, h3⟩)
  clear h1 h2 h3 hbn hbp
  go_wp2_with fail
  go_end0
  first | (rw [HS.out]; exact HF.out) | exact HF.out

set_option maxRecDepth 20000 in
set_option maxHeartbeats 1000000 in
theorem code_reads : Reads 145 .num := by
  intro B f p q tp pre post l b w h hB hpf hq hp
  subst hq
  obtain ⟨_, _, _, hf, hBf⟩ := fr_mark h
  have HN := Lib.hid (h.upd ((Upd.refl [] w).alloc (.cells #[.int .i64 0] 3)) (by simp))
  have HPb := Lib.hid (hp.alloc (.cells #[.int .i64 0] 3))
  have k0 := hp.cell (o := pre.length) mid_at
  have hplt := hp.lt
  clear h hp
  go_enter Try.func145, Try.ntmps145
  go_wp2_with fail
  refine (num_r' B f w.heap.size 0 3 (.int .i64 0) [] [] l b _ HN.out (by omega) (by omega) rfl (Blk.new w _ _)).mono ?_
  rintro e w1 ⟨rfl, n, l', b', h1, h2, h3, h4⟩
  have c0 := h3.cell (o := 0) rfl
  have hbp := h2.blk HPb.out (by simp; omega)
  have p0 := hbp.cell (o := pre.length) mid_at
  have pz := hbp.frozen pre.length
  have plt := hbp.lt
  have HF : Hid (RdPost .num B f p tp pre post l b w (.returned (.tuple #[])) (w1.setCell ⟨p, pre.length, none⟩ (.int .i64 n))) := by
    refine Lib.hid ?_
    have uS : Upd [p] w1 (w1.setCell ⟨p, pre.length, none⟩ (.int .i64 n)) := (Upd.refl _ _).setCell (by simp) _
    refine ⟨rfl, .num n, [.int .i64 n], l', b', h1.upd uS (fun k hk => ?_), ?_, ?_, Sch.Rep.num_mk _, Sch.Rd.num h4⟩
    · simp at hk; subst hk; exact ⟨hpf, hB⟩
    · have hu : Upd [f, p] w w1 := ((Upd.refl [f, p] w).alloc _).trans h2 (by intro x hx; simp at hx; rcases hx with rfl | rfl; simp; right; exact Nat.le_refl _)
      exact hu.trans uS (by simp)
    · have := hbp.set pre.length (.int .i64 n)
      simpa [Sch.zc] using this
  clear h1 h2 h3 h4 hbp
  go_wp2_with fail
  go_end0
  exact HF.out
end Go.Proofs.Ytpfnbilopagepaa
/- codec's form.result, writing. -/
namespace Go.Proofs.Ytpfnbilopagepaa
open Go.RowKit Go.Lb Go.Rc

set_option maxRecDepth 20000 in
set_option maxHeartbeats 2000000 in
theorem result_writes : Writes 118 sResult := by
  intro B X f p q tp pre cs post v o b w h hX hq hp hr hl
  have k0 : (tup [.num, .num, .list sAlloc]).Rep w (· < B) cs v := hr
  obtain ⟨_, _, v0, y0, _, rfl, ⟨n0, _, rfl⟩, k1⟩ := Sch.Rep.tup_cons k0
  obtain ⟨_, _, v1, y1, _, rfl, ⟨n1, _, rfl⟩, k2⟩ := Sch.Rep.tup_cons k1
  obtain ⟨_, _, v2, y2, _, rfl, _, k3⟩ := Sch.Rep.tup_cons k2
  obtain ⟨_, rfl⟩ := Sch.Rep.tup_nil k3
  subst hq
  have H0 := Lib.hid (WrSt.start (rest := ([(.num, .num n0), (.num, .num n1), (.list sAlloc, v2)] : List (Sch × Val))) h hX hp hr (by have := tup_wmax ([(.num, .num n0), (.num, .num n1), (.list sAlloc, v2)] : List (Sch × Val)); rw [← this]; exact hl))
  clear h hX hp hr hl k0 k1 k2 k3
  go_enter Try.func118, Try.ntmps118
  go_wp2_with fail
  refine (CWr.go code_writes H0.out rfl).mono ?_
  rintro e w1 ⟨rfl, o1, b1, h⟩
  have H1 := Lib.hid h
  clear h
  go_wp2_with fail
  refine (CWr.go num_writes H1.out rfl).mono ?_
  rintro e w2 ⟨rfl, o2, b2, h⟩
  have H2 := Lib.hid h
  clear h
  go_wp2_with fail
  refine (CWr.goList listAlloc_writes H2.out rfl).mono ?_
  rintro e w3 ⟨rfl, o3, b3, h⟩
  have H3 := Lib.hid h
  clear h
  go_wp2_with fail
  go_end0
  exact CWr.fin H3.out rfl rfl
end Go.Proofs.Ytpfnbilopagepaa
/- codec's form.msg, writing. -/
namespace Go.Proofs.Ytpfnbilopagepaa
open Go.RowKit Go.Lb Go.Rc

set_option maxRecDepth 20000 in
set_option maxHeartbeats 2000000 in
theorem msg_writes : Writes 80 sMsg := by
  intro B X f p q tp pre cs post v o b w h hX hq hp hr hl
  have k0 : (tup [.num, .num, .num, .num, .num, .num, .num, .flag, .num, .num, .num, .num, .list sEntry, sConf, .raw, sCmd, sResult]).Rep w (· < B) cs v := hr
  obtain ⟨_, _, v0, y0, _, rfl, ⟨n0, _, rfl⟩, k1⟩ := Sch.Rep.tup_cons k0
  obtain ⟨_, _, v1, y1, _, rfl, ⟨n1, _, rfl⟩, k2⟩ := Sch.Rep.tup_cons k1
  obtain ⟨_, _, v2, y2, _, rfl, ⟨n2, _, rfl⟩, k3⟩ := Sch.Rep.tup_cons k2
  obtain ⟨_, _, v3, y3, _, rfl, ⟨n3, _, rfl⟩, k4⟩ := Sch.Rep.tup_cons k3
  obtain ⟨_, _, v4, y4, _, rfl, ⟨n4, _, rfl⟩, k5⟩ := Sch.Rep.tup_cons k4
  obtain ⟨_, _, v5, y5, _, rfl, ⟨n5, _, rfl⟩, k6⟩ := Sch.Rep.tup_cons k5
  obtain ⟨_, _, v6, y6, _, rfl, ⟨n6, _, rfl⟩, k7⟩ := Sch.Rep.tup_cons k6
  obtain ⟨_, _, v7, y7, _, rfl, _, k8⟩ := Sch.Rep.tup_cons k7
  obtain ⟨_, _, v8, y8, _, rfl, ⟨n8, _, rfl⟩, k9⟩ := Sch.Rep.tup_cons k8
  obtain ⟨_, _, v9, y9, _, rfl, ⟨n9, _, rfl⟩, k10⟩ := Sch.Rep.tup_cons k9
  obtain ⟨_, _, v10, y10, _, rfl, ⟨n10, _, rfl⟩, k11⟩ := Sch.Rep.tup_cons k10
  obtain ⟨_, _, v11, y11, _, rfl, ⟨n11, _, rfl⟩, k12⟩ := Sch.Rep.tup_cons k11
  obtain ⟨_, _, v12, y12, _, rfl, _, k13⟩ := Sch.Rep.tup_cons k12
  obtain ⟨_, _, v13, y13, _, rfl, _, k14⟩ := Sch.Rep.tup_cons k13
  obtain ⟨_, _, v14, y14, _, rfl, _, k15⟩ := Sch.Rep.tup_cons k14
  obtain ⟨_, _, v15, y15, _, rfl, _, k16⟩ := Sch.Rep.tup_cons k15
  obtain ⟨_, _, v16, y16, _, rfl, _, k17⟩ := Sch.Rep.tup_cons k16
  obtain ⟨_, rfl⟩ := Sch.Rep.tup_nil k17
  subst hq
  have H0 := Lib.hid (WrSt.start (rest := ([(.num, .num n0), (.num, .num n1), (.num, .num n2), (.num, .num n3), (.num, .num n4), (.num, .num n5), (.num, .num n6), (.flag, v7), (.num, .num n8), (.num, .num n9), (.num, .num n10), (.num, .num n11), (.list sEntry, v12), (sConf, v13), (.raw, v14), (sCmd, v15), (sResult, v16)] : List (Sch × Val))) h hX hp hr (by have := tup_wmax ([(.num, .num n0), (.num, .num n1), (.num, .num n2), (.num, .num n3), (.num, .num n4), (.num, .num n5), (.num, .num n6), (.flag, v7), (.num, .num n8), (.num, .num n9), (.num, .num n10), (.num, .num n11), (.list sEntry, v12), (sConf, v13), (.raw, v14), (sCmd, v15), (sResult, v16)] : List (Sch × Val)); rw [← this]; exact hl))
  clear h hX hp hr hl k0 k1 k2 k3 k4 k5 k6 k7 k8 k9 k10 k11 k12 k13 k14 k15 k16 k17
  go_enter Try.func80, Try.ntmps80
  go_wp2_with fail
  refine wp_region_lex (fun _ => True) 99 [(0, true), (1, true), (2, true), (3, true), (4, true), (5, true), (6, true), (7, true), (8, true), (9, true), (10, true), (11, true), (12, true), (13, true), (14, true), (15, true), (16, true), (17, true), (18, true), (19, true), (20, true), (21, true), (22, false), (23, false)] (by kernel_rfl) (by kernel_rfl) (by kernel_rfl) (by kernel_rfl) (fun _ _ d _ _ h => by cases d <;> exact h) ?_
  simp only [lexOps, List.map_cons, List.map_nil, List.getD_cons_zero, List.getD_cons_succ]
  iterate 22 (refine lex_read rfl trivial (v := ?_) (fun w' _ => ?_) ?_; rotate_left; (focus (go_simp; try with_reducible rfl)); simp only [Act.put, List.setIfInBounds_toArray, List.set_cons_zero, List.set_cons_succ])
  refine lex_do rfl (fun K hK => ?_)
  go_simp
  refine hK _ _ (fun _ => trivial) ?_
  clear hK K
  refine lex_do rfl (fun K hK => ?_)
  go_simp
  refine (CWr.goNums (ns := [n0, n1, n2, n3, n4, n5, n6]) (rest := [(.flag, v7), (.num, .num n8), (.num, .num n9), (.num, .num n10), (.num, .num n11), (.list sEntry, v12), (sConf, v13), (.raw, v14), (sCmd, v15), (sResult, v16)]) (k := 7) H0.out rfl ((Upd.refl _ _).alloc _).drew (Nat.le_refl _) (Blk.drew (Blk.new _ _ [_, _, _, _, _, _, _])) rfl).mono ?_
  rintro e w1 ⟨rfl, o1, b1, h⟩
  have H1 := Lib.hid h
  refine hK _ _ (fun _ => trivial) ?_
  clear hK K h
  refine lex_nil ?_
  go_wp2_with fail
  refine (CWr.go flag_writes H1.out rfl).mono ?_
  rintro e w2 ⟨rfl, o2, b2, h⟩
  have H2 := Lib.hid h
  clear h
  go_wp2_with fail
  refine wp_region_lex (fun _ => True) 99 [(0, true), (1, true), (2, true), (3, true), (4, true), (5, true), (6, true), (7, true), (8, true), (9, true), (10, true), (11, true), (12, true), (13, false), (14, false)] (by kernel_rfl) (by kernel_rfl) (by kernel_rfl) (by kernel_rfl) (fun _ _ d _ _ h => by cases d <;> exact h) ?_
  simp only [lexOps, List.map_cons, List.map_nil, List.getD_cons_zero, List.getD_cons_succ]
  iterate 13 (refine lex_read rfl trivial (v := ?_) (fun w' _ => ?_) ?_; rotate_left; (focus (go_simp; try with_reducible rfl)); simp only [Act.put, List.setIfInBounds_toArray, List.set_cons_zero, List.set_cons_succ])
  refine lex_do rfl (fun K hK => ?_)
  go_simp
  refine hK _ _ (fun _ => trivial) ?_
  clear hK K
  refine lex_do rfl (fun K hK => ?_)
  go_simp
  refine (CWr.goNums (ns := [n8, n9, n10, n11]) (rest := [(.list sEntry, v12), (sConf, v13), (.raw, v14), (sCmd, v15), (sResult, v16)]) (k := 4) H2.out rfl ((Upd.refl _ _).alloc _).drew (Nat.le_refl _) (Blk.drew (Blk.new _ _ [_, _, _, _])) rfl).mono ?_
  rintro e w3 ⟨rfl, o3, b3, h⟩
  have H3 := Lib.hid h
  refine hK _ _ (fun _ => trivial) ?_
  clear hK K h
  refine lex_nil ?_
  go_wp2_with fail
  refine (CWr.goList listEntry_writes H3.out rfl).mono ?_
  rintro e w4 ⟨rfl, o4, b4, h⟩
  have H4 := Lib.hid h
  clear h
  go_wp2_with fail
  refine (CWr.go conf_writes H4.out rfl).mono ?_
  rintro e w5 ⟨rfl, o5, b5, h⟩
  have H5 := Lib.hid h
  clear h
  go_wp2_with fail
  refine (CWr.go raw_writes H5.out rfl).mono ?_
  rintro e w6 ⟨rfl, o6, b6, h⟩
  have H6 := Lib.hid h
  clear h
  go_wp2_with fail
  refine (CWr.go cmd_writes H6.out rfl).mono ?_
  rintro e w7 ⟨rfl, o7, b7, h⟩
  have H7 := Lib.hid h
  clear h
  go_wp2_with fail
  refine (CWr.go result_writes H7.out rfl).mono ?_
  rintro e w8 ⟨rfl, o8, b8, h⟩
  have H8 := Lib.hid h
  clear h
  go_wp2_with fail
  go_end0
  exact CWr.fin H8.out rfl rfl
end Go.Proofs.Ytpfnbilopagepaa
/- codec's put[Msg] and PutMsg. -/
namespace Go.Proofs.Ytpfnbilopagepaa
open Go.RowKit Go.Lb Go.Rc

set_option maxRecDepth 20000 in
set_option maxHeartbeats 2000000 in
theorem putMsg_any (cs : List Value) (v : Val) (w : World) (hr : Sch.Rep w (· < w.heap.size) sMsg cs v) (hl : sMsg.wmax v ≤ 1099511627776) :
    Calls Try.prog 79 #[.agg cs.toArray, .func (.func 80) #[] #[]] w (PutIs sMsg v w) := by
  have hlen : cs.length = 46 := hr.len
  have HR := Lib.hid hr
  have HL := Lib.hid hl
  clear hr hl
  go_enter Try.func79, Try.ntmps79
  go_wp2_with fail
  have uW : Upd [] w ((w.alloc (.cells cs.toArray 73)).alloc (.cells #[.slice none 0 0, .bool false, .bool false] 157)) := ((Upd.refl _ _).alloc _).alloc _
  refine (msg_writes w.heap.size [w.heap.size] (w.heap.size + 1) w.heap.size 0 73 [] cs [] v [] false _ (fresh_out (mk := cW) rfl) (by simp) rfl (by simpa using (Blk.new w 73 cs).alloc _) (HR.out.upd uW (by simp)) (by simpa using HL.out)).mono ?_
  rintro e w1 ⟨rfl, o, b, h1, h2, h3⟩
  obtain ⟨m2, m3, m4, m5⟩ := fw_mark h1
  cases b with
  | true =>
    have HF := Lib.hid (putIs_bad h2 uW h3)
    clear h1 h2 h3 uW
    go_wp2_with fail
    go_ret2
    exact HF.out
  | false =>
    obtain ⟨a, c, e0, hF⟩ := putIs_good h1 h2 uW h3
    have e1 : w1.cell? ⟨w.heap.size + 1, 0, none⟩ = some (.slice a (sMsg.put v).length c) := e0
    have HF := Lib.hid hF
    clear h1 h2 h3 uW e0 hF
    go_wp2_with fail
    go_ret2
    exact HF.out

set_option maxRecDepth 20000 in
set_option maxHeartbeats 2000000 in
theorem putMsg_puts : Puts 48 sMsg := by
  intro cs v w hr hl
  have hlen : cs.length = 46 := hr.len
  have uW : Upd [] w (w.alloc (.cells cs.toArray 73)) := (Upd.refl _ _).alloc _
  have HR := Lib.hid hr
  have HL := Lib.hid hl
  have hb := Blk.new w 73 cs
  have HB := Lib.hid hb
  clear hr hl hb
  go_enter Try.func48, Try.ntmps48
  go_wp2_with (refine wpList_load_blk rfl 73 (.tmp 1) rfl w.heap.size rfl HB.out Try.underlying73 rfl (by rw [hlen]; exact Try.size73) ?_)
  refine (putMsg_any cs v _ ((HR.out.upd uW (by simp)).mono (fun b hb hl => hl)) HL.out).mono ?_
  rintro e w1 ⟨u1, ⟨hg, a, c, rfl, hown⟩ | ⟨hg, rfl⟩⟩
  · have HF : Hid (PutIs sMsg v w (.returned (.tuple #[.slice a (sMsg.put v).length c, .int .i64 0])) w1) := Lib.hid ⟨uW.trans u1 (by simp), .inl ⟨hg, a, c, rfl, own_rebase hown (fun k hk => by have := own_lo hown hk; have := uW.size; omega)⟩⟩
    clear u1 hg hown uW
    go_wp2_with fail
    go_ret2
    exact HF.out
  · have HF : Hid (PutIs sMsg v w (.returned (.tuple #[.slice none 0 0, .int .i64 1])) w1) := Lib.hid ⟨uW.trans u1 (by simp), .inr ⟨hg, rfl⟩⟩
    clear u1 hg uW
    go_wp2_with fail
    go_ret2
    exact HF.out
end Go.Proofs.Ytpfnbilopagepaa
/- The reference's result, written. -/
namespace Go.Proofs.Ytpfnbilopagepaa
open Go.RowKit Go.Lb Go.Rc

set_option maxRecDepth 20000 in
set_option maxHeartbeats 4000000 in
theorem oresult_writes : OWrites 106 sResult := fun B X f cs v o b w h hr hl => by
  have hlen : cs.length = 3 := hr.len
  have k0 : (tup [.num, .num, .list sAlloc]).Rep w (· < B) cs v := hr
  obtain ⟨_, _, v0, y1, -, rfl, ⟨n0, -, rfl⟩, k1⟩ := Sch.Rep.tup_cons k0
  obtain ⟨_, _, v1, y2, -, rfl, ⟨n1, -, rfl⟩, k2⟩ := Sch.Rep.tup_cons k1
  obtain ⟨_, _, v2, y3, -, rfl, ⟨-, -, l2, -, rfl, -⟩, k3⟩ := Sch.Rep.tup_cons k2
  obtain ⟨-, rfl⟩ := Sch.Rep.tup_nil k3
  clear k1 k2 k3
  have H0 := Lib.hid (OWg.start (tp := 71) (rest := [(.num, .num n0), (.num, .num n1), (.list sAlloc, .list l2)]) h hr (by have := tup_wmax [(.num, .num n0), (.num, .num n1), (.list sAlloc, .list l2)]; rw [← this]; exact hl) (Blk.new w 71 cs) ((Upd.refl _ _).alloc _))
  have hB := h.base
  clear h hr hl k0
  show Calls Try.prog _ #[_, .agg cs.toArray] _ _
  go_enter Try.func106, Try.ntmps106
  have e0 := WrG.numAt (q := 0) H0.out rfl
  go_wp2_with fail
  refine (OWg.goNum H0.out).mono ?_
  rintro e w1 ⟨rfl, o1, b1, h⟩
  have H1 := Lib.hid h
  clear h e0
  have e1 := WrG.numAt (q := 1) H1.out rfl
  go_wp2_with fail
  refine (OWg.goNum H1.out).mono ?_
  rintro e w2 ⟨rfl, o2, b2, h⟩
  have H2 := Lib.hid h
  clear h e1
  obtain ⟨a2, c2, e2, r2⟩ := WrG.listAt (q := 2) H2.out rfl
  have R2 := Lib.hid r2
  clear r2
  go_wp2_with fail
  refine (OWg.go (c := [.slice a2 l2.length c2]) oallocs_writes H2.out R2.out).mono ?_
  rintro e w3 ⟨rfl, o3, b3, h⟩
  have H3 := Lib.hid h
  clear h e2
  go_wp2_with fail
  go_end0
  exact OWg.fin H3.out ((Upd.refl _ _).alloc _) rfl rfl
end Go.Proofs.Ytpfnbilopagepaa
/- The reference's msg, written. -/
namespace Go.Proofs.Ytpfnbilopagepaa
open Go.RowKit Go.Lb Go.Rc

set_option maxRecDepth 20000 in
set_option maxHeartbeats 4000000 in
theorem omsg_writes : OWrites 76 sMsg := fun B X f cs v o b w h hr hl => by
  have hlen : cs.length = 46 := hr.len
  have k0 : (tup [.num, .num, .num, .num, .num, .num, .num, .flag, .num, .num, .num, .num, .list sEntry, sConf, .raw, sCmd, sResult]).Rep w (· < B) cs v := hr
  obtain ⟨_, _, v0, y1, -, rfl, ⟨n0, -, rfl⟩, k1⟩ := Sch.Rep.tup_cons k0
  obtain ⟨_, _, v1, y2, -, rfl, ⟨n1, -, rfl⟩, k2⟩ := Sch.Rep.tup_cons k1
  obtain ⟨_, _, v2, y3, -, rfl, ⟨n2, -, rfl⟩, k3⟩ := Sch.Rep.tup_cons k2
  obtain ⟨_, _, v3, y4, -, rfl, ⟨n3, -, rfl⟩, k4⟩ := Sch.Rep.tup_cons k3
  obtain ⟨_, _, v4, y5, -, rfl, ⟨n4, -, rfl⟩, k5⟩ := Sch.Rep.tup_cons k4
  obtain ⟨_, _, v5, y6, -, rfl, ⟨n5, -, rfl⟩, k6⟩ := Sch.Rep.tup_cons k5
  obtain ⟨_, _, v6, y7, -, rfl, ⟨n6, -, rfl⟩, k7⟩ := Sch.Rep.tup_cons k6
  obtain ⟨_, _, v7, y8, -, rfl, ⟨t7, -, rfl⟩, k8⟩ := Sch.Rep.tup_cons k7
  obtain ⟨_, _, v8, y9, -, rfl, ⟨n8, -, rfl⟩, k9⟩ := Sch.Rep.tup_cons k8
  obtain ⟨_, _, v9, y10, -, rfl, ⟨n9, -, rfl⟩, k10⟩ := Sch.Rep.tup_cons k9
  obtain ⟨_, _, v10, y11, -, rfl, ⟨n10, -, rfl⟩, k11⟩ := Sch.Rep.tup_cons k10
  obtain ⟨_, _, v11, y12, -, rfl, ⟨n11, -, rfl⟩, k12⟩ := Sch.Rep.tup_cons k11
  obtain ⟨_, _, v12, y13, -, rfl, ⟨-, -, l12, -, rfl, -⟩, k13⟩ := Sch.Rep.tup_cons k12
  obtain ⟨_, _, v13, y14, -, rfl, -, k14⟩ := Sch.Rep.tup_cons k13
  obtain ⟨_, _, v14, y15, -, rfl, ⟨-, -, l14, -, rfl, -⟩, k15⟩ := Sch.Rep.tup_cons k14
  obtain ⟨_, _, v15, y16, -, rfl, -, k16⟩ := Sch.Rep.tup_cons k15
  obtain ⟨_, _, v16, y17, -, rfl, -, k17⟩ := Sch.Rep.tup_cons k16
  obtain ⟨-, rfl⟩ := Sch.Rep.tup_nil k17
  clear k1 k2 k3 k4 k5 k6 k7 k8 k9 k10 k11 k12 k13 k14 k15 k16 k17
  have H0 := Lib.hid (OWg.start (tp := 73) (rest := [(.num, .num n0), (.num, .num n1), (.num, .num n2), (.num, .num n3), (.num, .num n4), (.num, .num n5), (.num, .num n6), (.flag, .flag t7), (.num, .num n8), (.num, .num n9), (.num, .num n10), (.num, .num n11), (.list sEntry, .list l12), (sConf, v13), (.raw, .raw l14), (sCmd, v15), (sResult, v16)]) h hr (by have := tup_wmax [(.num, .num n0), (.num, .num n1), (.num, .num n2), (.num, .num n3), (.num, .num n4), (.num, .num n5), (.num, .num n6), (.flag, .flag t7), (.num, .num n8), (.num, .num n9), (.num, .num n10), (.num, .num n11), (.list sEntry, .list l12), (sConf, v13), (.raw, .raw l14), (sCmd, v15), (sResult, v16)]; rw [← this]; exact hl) (Blk.new w 73 cs) ((Upd.refl _ _).alloc _))
  have hB := h.base
  clear h hr hl k0
  show Calls Try.prog _ #[_, .agg cs.toArray] _ _
  go_enter Try.func76, Try.ntmps76
  have e0_0 := WrG.numsAt (ns := [n0, n1, n2, n3, n4, n5, n6]) (rest := [(.flag, .flag t7), (.num, .num n8), (.num, .num n9), (.num, .num n10), (.num, .num n11), (.list sEntry, .list l12), (sConf, v13), (.raw, .raw l14), (sCmd, v15), (sResult, v16)]) (q := 0) H0.out rfl 0 _ rfl
  have e0_1 := WrG.numsAt (ns := [n0, n1, n2, n3, n4, n5, n6]) (rest := [(.flag, .flag t7), (.num, .num n8), (.num, .num n9), (.num, .num n10), (.num, .num n11), (.list sEntry, .list l12), (sConf, v13), (.raw, .raw l14), (sCmd, v15), (sResult, v16)]) (q := 0) H0.out rfl 1 _ rfl
  have e0_2 := WrG.numsAt (ns := [n0, n1, n2, n3, n4, n5, n6]) (rest := [(.flag, .flag t7), (.num, .num n8), (.num, .num n9), (.num, .num n10), (.num, .num n11), (.list sEntry, .list l12), (sConf, v13), (.raw, .raw l14), (sCmd, v15), (sResult, v16)]) (q := 0) H0.out rfl 2 _ rfl
  have e0_3 := WrG.numsAt (ns := [n0, n1, n2, n3, n4, n5, n6]) (rest := [(.flag, .flag t7), (.num, .num n8), (.num, .num n9), (.num, .num n10), (.num, .num n11), (.list sEntry, .list l12), (sConf, v13), (.raw, .raw l14), (sCmd, v15), (sResult, v16)]) (q := 0) H0.out rfl 3 _ rfl
  have e0_4 := WrG.numsAt (ns := [n0, n1, n2, n3, n4, n5, n6]) (rest := [(.flag, .flag t7), (.num, .num n8), (.num, .num n9), (.num, .num n10), (.num, .num n11), (.list sEntry, .list l12), (sConf, v13), (.raw, .raw l14), (sCmd, v15), (sResult, v16)]) (q := 0) H0.out rfl 4 _ rfl
  have e0_5 := WrG.numsAt (ns := [n0, n1, n2, n3, n4, n5, n6]) (rest := [(.flag, .flag t7), (.num, .num n8), (.num, .num n9), (.num, .num n10), (.num, .num n11), (.list sEntry, .list l12), (sConf, v13), (.raw, .raw l14), (sCmd, v15), (sResult, v16)]) (q := 0) H0.out rfl 5 _ rfl
  have e0_6 := WrG.numsAt (ns := [n0, n1, n2, n3, n4, n5, n6]) (rest := [(.flag, .flag t7), (.num, .num n8), (.num, .num n9), (.num, .num n10), (.num, .num n11), (.list sEntry, .list l12), (sConf, v13), (.raw, .raw l14), (sCmd, v15), (sResult, v16)]) (q := 0) H0.out rfl 6 _ rfl
  simp only [Nat.reduceAdd] at e0_0 e0_1 e0_2 e0_3 e0_4 e0_5 e0_6
  go_wp2_with fail
  refine (OWg.goNums (ns := [n0, n1, n2, n3, n4, n5, n6]) (rest := [(.flag, .flag t7), (.num, .num n8), (.num, .num n9), (.num, .num n10), (.num, .num n11), (.list sEntry, .list l12), (sConf, v13), (.raw, .raw l14), (sCmd, v15), (sResult, v16)]) (k := 7) H0.out rfl ((Upd.refl _ _).alloc _) (by simp) (Blk.new2 w (.cells cs.toArray 73) 3 [_, _, _, _, _, _, _]) rfl).mono ?_
  rintro e w1 ⟨rfl, o1, b1, h⟩
  have H1 := Lib.hid h
  clear h e0_0 e0_1 e0_2 e0_3 e0_4 e0_5 e0_6
  have e1 := WrG.flagAt (q := 7) H1.out rfl
  go_wp2_with fail
  refine (OWg.goFlag H1.out).mono ?_
  rintro e w2 ⟨rfl, o2, b2, h⟩
  have H2 := Lib.hid h
  clear h e1
  have e2_0 := WrG.numsAt (ns := [n8, n9, n10, n11]) (rest := [(.list sEntry, .list l12), (sConf, v13), (.raw, .raw l14), (sCmd, v15), (sResult, v16)]) (q := 8) H2.out rfl 0 _ rfl
  have e2_1 := WrG.numsAt (ns := [n8, n9, n10, n11]) (rest := [(.list sEntry, .list l12), (sConf, v13), (.raw, .raw l14), (sCmd, v15), (sResult, v16)]) (q := 8) H2.out rfl 1 _ rfl
  have e2_2 := WrG.numsAt (ns := [n8, n9, n10, n11]) (rest := [(.list sEntry, .list l12), (sConf, v13), (.raw, .raw l14), (sCmd, v15), (sResult, v16)]) (q := 8) H2.out rfl 2 _ rfl
  have e2_3 := WrG.numsAt (ns := [n8, n9, n10, n11]) (rest := [(.list sEntry, .list l12), (sConf, v13), (.raw, .raw l14), (sCmd, v15), (sResult, v16)]) (q := 8) H2.out rfl 3 _ rfl
  simp only [Nat.reduceAdd] at e2_0 e2_1 e2_2 e2_3
  go_wp2_with fail
  refine (OWg.goNums (ns := [n8, n9, n10, n11]) (rest := [(.list sEntry, .list l12), (sConf, v13), (.raw, .raw l14), (sCmd, v15), (sResult, v16)]) (k := 4) H2.out rfl ((Upd.refl _ _).alloc _) (Nat.le_refl _) (Blk.new _ 3 [_, _, _, _]) rfl).mono ?_
  rintro e w3 ⟨rfl, o3, b3, h⟩
  have H3 := Lib.hid h
  clear h e2_0 e2_1 e2_2 e2_3
  obtain ⟨a3, c3, e3, r3⟩ := WrG.listAt (q := 12) H3.out rfl
  have HA3 : Hid (Elems w3 (· < B) sEntry 29 a3 l12) := Lib.hid (list_elems r3).2
  have hwl3 := H3.out.len
  rw [wsum_cons] at hwl3
  have HL3 : Hid (o3.length + (Sch.list sEntry).wmax (.list l12) ≤ 1099511627776) := Lib.hid (by dsimp only at hwl3; omega)
  have hps3 := H3.out.fw.1 w.heap.size (by simp)
  have hll3 : l12.length ≤ 1099511627776 := elems_len HA3.out HL3.out rfl
  clear r3 hwl3
  go_wp2_with fail
  refine (OWg.goCount H3.out).mono ?_
  rintro e w3x ⟨rfl, o3x, b3x, h1, h2, h3⟩
  have p3 := (h2.cell (o := 12) hps3 (.inr (by simp))).trans e3
  have H1x := Lib.hid h1
  have H2x := Lib.hid h2
  have H3x := Lib.hid h3
  clear h1 h2 h3
  go_wp2_with fail
  go_loopg [4] l12.length (fun g t wr => ∃ (i : Nat) (o' : List Nat) (b' : Bool), t = .int .i64 i ∧ l12.length - i = g ∧ i ≤ l12.length ∧ Ow B (w.heap.size :: X) wr f o' b' ∧ Kp B (w.heap.size :: X) w3 wr ∧ LWk sEntry l12.length (l12.take i) o3 b3 o' b')
  case atStart => exact ⟨0, o3x, b3x, rfl, rfl, by omega, H1x.out, H2x.out, H3x.out⟩
  case round =>
    obtain ⟨i, o', b', rfl, hg, hi, hF, hK, hW⟩ := hrel
    have HG := Lib.hid hg
    have HF := Lib.hid hF
    have HK := Lib.hid hK
    have HW := Lib.hid hW
    have r0 := (hK.cell (o := 12) hps3 (.inr (by simp))).trans e3
    clear hg hF hK hW p3
    by_cases hlt : i < l12.length
    · have t1 : decide (i < l12.length) = true := by simpa using hlt
      obtain ⟨x, hx⟩ : ∃ x, l12[i]? = some x := ⟨_, List.getElem?_eq_getElem hlt⟩
      obtain ⟨b0, o0, us, rfl, hb0, hbl, hrg, hrep⟩ := HA3.out i x hx
      have hrep := hrep.keep (ok' := (· < B)) (fun k hk hl => ⟨hk, HK.out.block k hl (.inl hk)⟩) HK.out.size
      have hrg : wr.rangeAt b0 (o0 + i * 29) us := rangeAt_keep hrg (HK.out.block b0 hbl (.inl hb0))
      have hblr : b0 < wr.heap.size := Nat.lt_of_lt_of_le hbl HK.out.size
      have HWL := Lib.hid (HW.out.room hx HL3.out)
      have Hx := Lib.hid hx
      clear hx
      have HRG := Lib.hid hrg
      have HREP := Lib.hid hrep
      have hus : us.length = 29 := hrep.len
      clear hrg hrep
      go_wp2_with (refine wpList_load_mid rfl 56 _ rfl b0 (o0 + i * 29) rfl us _ HRG.out Try.underlying56 rfl (by rw [hus]; exact Try.size56) ?_)
      refine (oentry_writes B (w.heap.size :: X) f us x o' b' _ HF.out HREP.out HWL.out).mono ?_
      rintro e w2 ⟨rfl, o2, b2, h1, h2, h3⟩
      have H1 := Lib.hid h1
      have H2 := Lib.hid h2
      have H3 := Lib.hid (HW.out.snoc h3)
      clear h1 h2 h3
      go_wp2_with fail
      go_roundg (l12.length - (i + 1))
      case measure => have := HG.out; omega
      case rel => exact ⟨i + 1, o2, b2, by go_num, rfl, by omega, H1.out, HK.out.trans H2.out, by rw [take_snoc Hx.out]; exact H3.out⟩
    · obtain rfl : i = l12.length := by omega
      have t1 : decide (l12.length < l12.length) = false := by simp
      have hfin := HW.out
      rw [List.take_length] at hfin
      have H4 := Lib.hid (WrG.next (m := [(.list sEntry, .list l12)]) H3.out HF.out HK.out (WSeq.one (LWk.fin hfin)))
      clear hfin e3
      clear HF HW HG hlt hi
      obtain ⟨ws4, hz⟩ : ∃ z, z = wr := ⟨_, rfl⟩
      subst hz
      obtain ⟨os4, hz⟩ : ∃ z, z = o' := ⟨_, rfl⟩
      subst hz
      obtain ⟨bs4, hz⟩ : ∃ z, z = b' := ⟨_, rfl⟩
      subst hz
      clear HK
      obtain ⟨c4, r4, g4⟩ := WrG.range (q := 13) H4.out rfl
      have hl4 : c4.length = 2 := r4.len
      have G4 := Lib.hid g4
      have R4 := Lib.hid r4
      clear g4 r4
      go_wp2_with (refine wpList_load_mid rfl 50 _ rfl w.heap.size 13 rfl c4 _ G4.out Try.underlying50 rfl (by rw [hl4]; exact Try.size50) ?_)
      refine (OWg.go oconf_writes H4.out R4.out).mono ?_
      rintro e w5 ⟨rfl, o5, b5, h⟩
      have H5 := Lib.hid h
      clear h
      obtain ⟨a5, c5, e5, r5⟩ := WrG.rawAt (q := 15) H5.out rfl
      have R5 := Lib.hid r5
      clear r5
      go_wp2_with fail
      refine (OWg.go (c := [.slice a5 l14.length c5]) obytes_writes H5.out R5.out).mono ?_
      rintro e w6 ⟨rfl, o6, b6, h⟩
      have H6 := Lib.hid h
      clear h e5
      obtain ⟨c6, r6, g6⟩ := WrG.range (q := 16) H6.out rfl
      have hl6 : c6.length = 27 := r6.len
      have G6 := Lib.hid g6
      have R6 := Lib.hid r6
      clear g6 r6
      go_wp2_with (refine wpList_load_mid rfl 52 _ rfl w.heap.size 16 rfl c6 _ G6.out Try.underlying52 rfl (by rw [hl6]; exact Try.size52) ?_)
      refine (OWg.go ocmd_writes H6.out R6.out).mono ?_
      rintro e w7 ⟨rfl, o7, b7, h⟩
      have H7 := Lib.hid h
      clear h
      obtain ⟨c7, r7, g7⟩ := WrG.range (q := 43) H7.out rfl
      have hl7 : c7.length = 3 := r7.len
      have G7 := Lib.hid g7
      have R7 := Lib.hid r7
      clear g7 r7
      go_wp2_with (refine wpList_load_mid rfl 71 _ rfl w.heap.size 43 rfl c7 _ G7.out Try.underlying71 rfl (by rw [hl7]; exact Try.size71) ?_)
      refine (OWg.go oresult_writes H7.out R7.out).mono ?_
      rintro e w8 ⟨rfl, o8, b8, h⟩
      have H8 := Lib.hid h
      clear h
      go_wp2_with fail
      go_end0
      exact OWg.fin H8.out ((Upd.refl _ _).alloc _) rfl rfl
end Go.Proofs.Ytpfnbilopagepaa
/- The reference's PutMsg. -/
namespace Go.Proofs.Ytpfnbilopagepaa
open Go.RowKit Go.Lb Go.Rc

set_option maxRecDepth 20000 in
set_option maxHeartbeats 2000000 in
theorem rputMsg_puts : Puts 45 sMsg := by
  intro cs v w hr hl
  have hlen : cs.length = 46 := hr.len
  have uW : Upd [] w ((w.alloc (.cells cs.toArray 73)).alloc (.cells #[.slice none 0 0, .bool false] 126)) := ((Upd.refl _ _).alloc _).alloc _
  have HR := Lib.hid hr
  have HL := Lib.hid hl
  have HB := Lib.hid ((Blk.new w 73 cs).alloc (.cells #[.slice none 0 0, .bool false] 126))
  have hb0 := Try.prog.built 126 []
  have HBU : Hid (Try.prog.built 126 [] = some #[.slice none 0 0, .bool false]) := Lib.hid (by kernel_rfl)
  clear hr hl hb0
  go_enter Try.func45, Try.ntmps45
  go_wp2_with (first | (refine wpList_buildTo (o := ⟨some 5, .build 126 #[], _, _, _, _⟩) rfl 126 #[] rfl (some 5) rfl #[.slice none 0 0, .bool false] (by simpa using HBU.out) ?_) | (refine wpList_load_blk rfl 73 (.tmp 1) rfl w.heap.size rfl HB.out Try.underlying73 rfl (by rw [hlen]; exact Try.size73) ?_))
  refine (omsg_writes w.heap.size [w.heap.size] (w.heap.size + 1) cs v [] false _ (fresh_out (mk := oW) rfl) (HR.out.upd uW (by simp)) (by simpa using HL.out)).mono ?_
  rintro e w1 ⟨rfl, o, b, h1, h2, h3⟩
  cases b with
  | true =>
    have HF := Lib.hid (putIs_bad h2 uW h3)
    have H1 := Lib.hid h1
    clear h1 h2 h3 uW
    go_wp2_with fail
    refine (told_bad H1.out).mono ?_
    rintro e w2 ⟨rfl, rfl⟩
    go_wp2_with fail
    go_ret2
    exact HF.out
  | false =>
    obtain ⟨a, c, e0, hF⟩ := putIs_good h1 h2 uW h3
    have e1 : w1.cell? ⟨w.heap.size + 1, 0, none⟩ = some (.slice a (sMsg.put v).length c) := e0
    have HF := Lib.hid hF
    have H1 := Lib.hid h1
    have E1 := Lib.hid e1
    clear h1 h2 h3 uW e0 hF e1
    go_wp2_with fail
    refine (told_good H1.out E1.out).mono ?_
    rintro e w2 ⟨rfl, rfl⟩
    go_wp2_with fail
    go_ret2
    exact HF.out
end Go.Proofs.Ytpfnbilopagepaa
/- codec's list[Entry], reading. -/
namespace Go.Proofs.Ytpfnbilopagepaa
open Go.RowKit Go.Lb Go.Rc

set_option maxRecDepth 20000 in
set_option maxHeartbeats 2000000 in
theorem listEntry_reads : LReads 116 68 sEntry := by
  intro B f p q tp pre post l b w h hB hpf hq hp
  obtain ⟨iT, hiT, hz0, hz1, hz2⟩ := info56
  subst hq
  have c0 := hp.cell (o := pre.length) mid_at
  obtain ⟨_, _, _, hf, hBf⟩ := fr_mark h
  have hplt := hp.lt
  have H := Lib.hid h
  have HP := Lib.hid hp
  clear h hp
  go_enter Try.func116, Try.ntmps116
  go_wp2_with fail
  refine (many_r B f 64 _ l b _ H.out).mono ?_
  rintro e w1 ⟨k, l1, b1, rfl, hk, h1, h2, h3⟩
  obtain ⟨m2, m3, m4, m5, _⟩ := fr_mark h1
  have HB1 := Lib.hid (h2.blk HP.out (by simpa using hpf))
  have HS : Hid (LRdSt sEntry 157 cR [f, p] B f 56 29 w w1 k l b 0 l1 b1 (.slice none 0 0) [] []) := Lib.hid (LRdSt.start h1 (h2.mono (by simp)) (by simp; omega) h3)
  clear h1 h2 h3 H
  go_wp2_with fail
  go_loopg [9, 42] k (fun g u t wr => ∃ (i : Nat) (l' : List Nat) (b' : Bool) (v : Value) (xss : List (List Value)) (xs : List Val), t = .int .i64 i ∧ k - i = g ∧ i ≤ k ∧ Blk wr p tp (pre ++ [v] ++ post) ∧ LRdSt sEntry 157 cR [f, p] B f 56 29 w wr k l b i l' b' v xss xs)
  case atStart => exact ⟨0, l1, b1, _, [], [], rfl, rfl, by omega, HB1.out, HS.out⟩
  case round =>
    obtain ⟨i, l', b', v, xss, xs, rfl, hg, hi, hbk, hS⟩ := hrel
    have HG := Lib.hid hg
    have HBK := Lib.hid hbk
    have HST := Lib.hid hS
    obtain ⟨n2, n3, n4, n5, _⟩ := fr_mark hS.fr
    have hsz := hS.upd.size
    clear hg hbk hS m2 m3 m4 m5
    by_cases hlt : i < k
    · have t1 : decide (i < k) = true := by simpa using hlt
      cases b' with
      | true =>
        have HE := Lib.hid (HST.out.rd (.inl rfl))
        go_wp2_with fail
        go_end0
        exact ⟨rfl, .list xs, [v], l', true, HST.out.fr, HST.out.upd, HBK.out, HST.out.isRep, HE.out⟩
      | false =>
      go_wp2_with (refine wpList_alloc_blk rfl 56 rfl sEntry.zc (zero56 _) ?_; intro wB hb hu)
      have hN := HST.out.upd' hu
      refine (entry_reads B f wr.heap.size 0 56 [] [] l' false wB hN.fr (by omega) (by omega) rfl (by simpa [Sch.zc] using hb)).mono ?_
      rintro e w2 ⟨rfl, x, us, l2, b2, h1, h2, h3, h4, h5⟩
      have hus : us.length = 29 := h4.len
      have hb2 : Blk w2 wr.heap.size 56 us := by simpa using h3
      have hU : Upd [f, p] wr w2 := (hu.mono (by simp)).trans h2 (by
        intro y hy
        simp only [List.mem_cons, List.not_mem_nil, or_false] at hy
        rcases hy with rfl | rfl
        · simp
        · exact .inr (Nat.le_refl _))
      have h4' : Sch.Rep w2 (fun b => wr.heap.size ≤ b) sEntry us x := h4.mono (fun b hb _ => Nat.le_trans hu.size hb)
      have hbp : Blk w2 p tp (pre ++ [v] ++ post) := by
        refine h2.blk (hu.blk HBK.out (by simp)) ?_
        simp; omega
      have hrow2 := (hN.row)
      have hrw : w2.ownsRow w.heap.size 56 29 v i xss.flatten := h2.row (hu.row HST.out.row (by simp)) (by
        intro y hy
        have := own_lo HST.out.row hy
        simp; omega)
      have hsz2 := hU.size
      have hl2 := hb2.lt
      obtain ⟨a, c, rfl⟩ := own_shape' hrw
      have HO := Lib.hid h4.one
      have HR : Hid (∀ w', Upd (Value.slice a i c).ownBlock.toList w2 w' → w'.cell? ⟨p, pre.length, none⟩ = some (.slice a i c) ∧ Blk w' wr.heap.size 56 us) := Lib.hid (by
        intro w' u
        refine ⟨(u.blk hbp ?_).cell mid_at, u.blk hb2 ?_⟩
        · intro hm
          have := own_lo HST.out.row (g := p) (by simpa using hm)
          omega
        · intro hm
          have := own_lo HST.out.row (g := wr.heap.size) (by simpa using hm)
          omega)
      have HST2 := HST
      have HU := Lib.hid hU
      have H4 := Lib.hid h4'
      have H5 := Lib.hid h5
      have H1 := Lib.hid h1
      have HRW := Lib.hid hrw
      have HBP := Lib.hid hbp
      have HUS := Lib.hid hus
      clear h1 h2 h3 h4 h5 hN hb hu hbp hrow2 hrw hU h4' hus
      go_wp2_with fail
      refine wp_region_lex (fun w' => Upd (Value.slice a i c).ownBlock.toList w2 w') 8 [(0, true), (1, true), (2, true), (3, true), (4, true), (5, false), (6, false), (7, false), (8, false)] (by kernel_rfl) (by kernel_rfl) (by kernel_rfl) (by kernel_rfl) (fun _ _ d _ _ h => by cases d <;> exact h) ?_
      simp only [lexOps, List.map_cons, List.map_nil, List.getD_cons_zero, List.getD_cons_succ]
      have hS0 : Upd (Value.slice a i c).ownBlock.toList w2 w2.drew := (Upd.refl _ _).drew
      iterate 4 (refine lex_read rfl (by exact hS0) (v := ?_) (fun w' hw => ?_) ?_; rotate_left; (focus (obtain ⟨k1, k2⟩ := HR.out w' hw; clear k2; go_simp; try with_reducible rfl)); simp only [Act.put, List.setIfInBounds_toArray, List.set_cons_zero, List.set_cons_succ])
      refine lex_read rfl (by exact hS0) (fun w' hw => exec_load (by rfl) (by rfl) (run_loadAt_mid w' wr.heap.size 0 56 us _ (HR.out w' hw).2.range Try.underlying56 rfl (by rw [HUS.out]; exact Try.size56))) ?_
      try simp only [Act.put, List.setIfInBounds_toArray, List.set_cons_zero, List.set_cons_succ]
      refine lex_run rfl (exec_buildSlice (by rfl) (by simp [Act.eval]) (run_buildSlice1 _ 69 56 iT _ us 29 Try.underlying69 hiT hz0 hz1 HUS.out (by decide) (by decide))) (fun _ => hS0.alloc _) ?_
      try simp only [Act.put, List.setIfInBounds_toArray, List.set_cons_zero, List.set_cons_succ]
      have h64 : k ≤ 64 := hk
      have hB2 : Blk (w2.drew.alloc (.cells us.toArray 56)) w2.heap.size 56 us := Blk.new w2.drew _ _
      refine lex_do rfl (fun K hK => ?_)
      refine wp_append_mine (.tmp 53) (.tmp 55) 69 rfl w.heap.size 56 iT _ 29 _ Try.underlying69 hiT hz0 hz1 hz2 rfl (by decide) (.slice a i c) i xss.flatten rfl (World.ownsRow.alloc HRW.out _) ⟨w2.heap.size, 0, none⟩ 1 1 us rfl (by rw [HUS.out]) hB2.news (HO.out) (by unfold maxLen; omega) (by omega) (by have := HST.out.upd.size; simp; omega) ?_
      intro v' w3 hown hg hv
      have uA : Upd [f, p] wr (w2.drew.alloc (.cells us.toArray 56)) := (HU.out.drew).alloc _
      have hF : Fr B w3 f l2 b2 := by
        obtain ⟨a', c', hI⟩ := H1.out
        have hI2 : In 157 cR B (w2.drew.alloc (.cells us.toArray 56)) f l2 b2 a' c' := hI.upd (F := []) ((Upd.refl [] w2).drew.alloc _) (by simp)
        refine ⟨a', c', hI2.upd (F := (Value.slice a i c).ownBlock.toList) ((Upd.refl _ _).grown hg (fun k hk => .inl (by simp [hk]))) (fun k hk => ?_)⟩
        have := own_lo HST.out.row (g := k) (by simpa using hk)
        omega
      have hbp3 : Blk w3 p tp (pre ++ [.slice a i c] ++ post) := by
        have hb4 : Blk (w2.drew.alloc (.cells us.toArray 56)) p tp (pre ++ [.slice a i c] ++ post) := (HBP.out.drew).alloc _
        refine (hg.block p hb4.lt (fun e => ?_)).trans hb4
        have := own_lo HST.out.row (g := p) e.symm
        omega
      have q1 := hbp3.cell (o := pre.length) mid_at
      have q2 := hbp3.frozen pre.length
      have q3 := hbp3.lt
      have uS : Upd [p] w3 (w3.setCell ⟨p, pre.length, none⟩ v') := (Upd.refl _ _).setCell (by simp) _
      have HX : Hid (Blk (w3.setCell ⟨p, pre.length, none⟩ v') p tp (pre ++ [v'] ++ post) ∧ LRdSt sEntry 157 cR [f, p] B f 56 29 w (w3.setCell ⟨p, pre.length, none⟩ v') k l b (i + 1) l2 b2 v' (xss ++ [us]) (xs ++ [x])) := by
        refine Lib.hid ⟨?_, LRdSt.next HST.out hlt uA (H4.out.upd ((Upd.refl [] w2).drew.alloc _) (by simp)) HUS.out H5.out hg hown ?_ (uS.mono (by simp)) (hF.upd uS (by simp; omega))⟩
        · have := hbp3.set pre.length v'
          rwa [mid_set] at this
        · rcases hv with h | h
          · exact .inl h
          · exact .inr h
      have hS3 : Upd (Value.slice a i c).ownBlock.toList w2 w3 := (hS0.alloc _).grown hg (fun k hk => .inl (by simp [hk]))
      refine hK _ _ (fun _ => hS3) ?_
      obtain ⟨a', c', rfl⟩ := own_shape' hown
      clear hK K hown hg hv uA hF hbp3 uS hB2 hS0
      try simp only [Act.put, List.setIfInBounds_toArray, List.set_cons_zero, List.set_cons_succ]
      refine lex_do rfl (fun K hK => ?_)
      go_simp
      refine hK _ _ (fun _ => hS3) ?_
      clear hK K hS3
      try simp only [Act.put, List.setIfInBounds_toArray, List.set_cons_zero, List.set_cons_succ]
      refine lex_do rfl (fun K hK => ?_)
      go_simp
      refine hK _ _ (fun h => absurd rfl h) ?_
      clear hK K
      try simp only [Act.put, List.setIfInBounds_toArray, List.set_cons_zero, List.set_cons_succ]
      refine lex_nil ?_
      go_wp2_with fail
      go_roundg (k - (i + 1))
      case measure => have := HG.out; omega
      case rel => exact ⟨i + 1, l2, b2, _, _, _, by go_num, rfl, by omega, HX.out.1, HX.out.2⟩
    · obtain rfl : i = k := by omega
      have HE := Lib.hid (HST.out.rd (.inr rfl))
      go_wp2_with fail
      go_end0
      exact ⟨rfl, .list xs, [v], l', b', HST.out.fr, HST.out.upd, HBK.out, HST.out.isRep, HE.out⟩
end Go.Proofs.Ytpfnbilopagepaa
/- codec's form.result, reading. -/
namespace Go.Proofs.Ytpfnbilopagepaa
open Go.RowKit Go.Lb Go.Rc

set_option maxRecDepth 20000 in
set_option maxHeartbeats 2000000 in
theorem result_reads : Reads 118 sResult := by
  intro B f p q tp pre post l b w h hB hpf hq hp
  subst hq
  have H0 := Lib.hid (RdSt.start (rest := [.num, .num, .list sAlloc]) h hB hpf hp (fr_mark h).2.2.2.1)
  clear h hp
  go_enter Try.func118, Try.ntmps118
  go_wp2_with fail
  refine (CRd.go code_reads H0.out (by simp only [fsize_append, fsize_nums, fsize, List.nil_append] <;> rfl)).mono ?_
  rintro e w1 ⟨rfl, v1, l1, b1, h⟩
  have H1 := Lib.hid h
  clear h
  go_wp2_with fail
  refine (CRd.go num_reads H1.out (by simp only [fsize_append, fsize_nums, fsize, List.nil_append] <;> rfl)).mono ?_
  rintro e w2 ⟨rfl, v2, l2, b2, h⟩
  have H2 := Lib.hid h
  clear h
  go_wp2_with fail
  refine (CRd.goList listAlloc_reads H2.out (by simp only [fsize_append, fsize_nums, fsize, List.nil_append] <;> rfl)).mono ?_
  rintro e w3 ⟨rfl, v3, l3, b3, h⟩
  have H3 := Lib.hid h
  clear h
  go_wp2_with fail
  go_end0
  exact CRd.fin H3.out (by simp only [List.map_append, nums_fst, List.append_assoc, List.map_cons, List.map_nil, List.nil_append]; rfl)
end Go.Proofs.Ytpfnbilopagepaa
/- codec's form.msg, reading. -/
namespace Go.Proofs.Ytpfnbilopagepaa
open Go.RowKit Go.Lb Go.Rc

set_option maxRecDepth 20000 in
set_option maxHeartbeats 2000000 in
theorem msg_reads : Reads 80 sMsg := by
  intro B f p q tp pre post l b w h hB hpf hq hp
  subst hq
  have H0 := Lib.hid (RdSt.start (rest := [.num, .num, .num, .num, .num, .num, .num, .flag, .num, .num, .num, .num, .list sEntry, sConf, .raw, sCmd, sResult]) h hB hpf hp (fr_mark h).2.2.2.1)
  clear h hp
  go_enter Try.func80, Try.ntmps80
  go_wp2_with fail
  refine wp_region_lex (fun _ => True) 99 [(0, true), (1, true), (2, true), (3, true), (4, true), (5, true), (6, true), (7, true), (8, true), (9, true), (10, true), (11, true), (12, true), (13, true), (14, true), (15, true), (16, true), (17, true), (18, true), (19, true), (20, true), (21, true), (22, false), (23, false)] (by kernel_rfl) (by kernel_rfl) (by kernel_rfl) (by kernel_rfl) (fun _ _ d _ _ h => by cases d <;> exact h) ?_
  simp only [lexOps, List.map_cons, List.map_nil, List.getD_cons_zero, List.getD_cons_succ]
  iterate 22 (refine lex_read rfl trivial (v := ?_) (fun w' _ => ?_) ?_; rotate_left; (focus (go_simp; try with_reducible rfl)); simp only [Act.put, List.setIfInBounds_toArray, List.set_cons_zero, List.set_cons_succ])
  refine lex_do rfl (fun K hK => ?_)
  go_simp
  refine hK _ _ (fun _ => trivial) ?_
  clear hK K
  refine lex_do rfl (fun K hK => ?_)
  go_simp
  refine (CRd.goNums (rest := [.flag, .num, .num, .num, .num, .list sEntry, sConf, .raw, sCmd, sResult]) (k := 7) H0.out ((Upd.refl _ _).alloc _).drew (Nat.le_refl _) (Blk.drew (Blk.new _ _ [_, _, _, _, _, _, _])) (by simp only [fsize_append, fsize_nums, fsize, List.nil_append] <;> rfl) (by decide)).mono ?_
  rintro e w1 ⟨rfl, ns1, l1, b1, hn, h⟩
  have H1 := Lib.hid h
  have HN1 := Lib.hid hn
  clear hn
  refine hK _ _ (fun _ => trivial) ?_
  clear hK K h
  refine lex_nil ?_
  go_wp2_with fail
  refine (CRd.go flag_reads H1.out (by simp only [fsize_append, fsize_nums, fsize, HN1.out, List.nil_append] <;> rfl)).mono ?_
  rintro e w2 ⟨rfl, v2, l2, b2, h⟩
  have H2 := Lib.hid h
  clear h
  go_wp2_with fail
  refine wp_region_lex (fun _ => True) 99 [(0, true), (1, true), (2, true), (3, true), (4, true), (5, true), (6, true), (7, true), (8, true), (9, true), (10, true), (11, true), (12, true), (13, false), (14, false)] (by kernel_rfl) (by kernel_rfl) (by kernel_rfl) (by kernel_rfl) (fun _ _ d _ _ h => by cases d <;> exact h) ?_
  simp only [lexOps, List.map_cons, List.map_nil, List.getD_cons_zero, List.getD_cons_succ]
  iterate 13 (refine lex_read rfl trivial (v := ?_) (fun w' _ => ?_) ?_; rotate_left; (focus (go_simp; try with_reducible rfl)); simp only [Act.put, List.setIfInBounds_toArray, List.set_cons_zero, List.set_cons_succ])
  refine lex_do rfl (fun K hK => ?_)
  go_simp
  refine hK _ _ (fun _ => trivial) ?_
  clear hK K
  refine lex_do rfl (fun K hK => ?_)
  go_simp
  refine (CRd.goNums (rest := [.list sEntry, sConf, .raw, sCmd, sResult]) (k := 4) H2.out ((Upd.refl _ _).alloc _).drew (Nat.le_refl _) (Blk.drew (Blk.new _ _ [_, _, _, _])) (by simp only [fsize_append, fsize_nums, fsize, HN1.out, List.nil_append] <;> rfl) (by decide)).mono ?_
  rintro e w3 ⟨rfl, ns3, l3, b3, hn, h⟩
  have H3 := Lib.hid h
  have HN3 := Lib.hid hn
  clear hn
  refine hK _ _ (fun _ => trivial) ?_
  clear hK K h
  refine lex_nil ?_
  go_wp2_with fail
  refine (CRd.goList listEntry_reads H3.out (by simp only [fsize_append, fsize_nums, fsize, HN1.out, HN3.out, List.nil_append] <;> rfl)).mono ?_
  rintro e w4 ⟨rfl, v4, l4, b4, h⟩
  have H4 := Lib.hid h
  clear h
  go_wp2_with fail
  refine (CRd.go conf_reads H4.out (by simp only [fsize_append, fsize_nums, fsize, HN1.out, HN3.out, List.nil_append] <;> rfl)).mono ?_
  rintro e w5 ⟨rfl, v5, l5, b5, h⟩
  have H5 := Lib.hid h
  clear h
  go_wp2_with fail
  refine (CRd.go raw_reads H5.out (by simp only [fsize_append, fsize_nums, fsize, HN1.out, HN3.out, List.nil_append] <;> rfl)).mono ?_
  rintro e w6 ⟨rfl, v6, l6, b6, h⟩
  have H6 := Lib.hid h
  clear h
  go_wp2_with fail
  refine (CRd.go cmd_reads H6.out (by simp only [fsize_append, fsize_nums, fsize, HN1.out, HN3.out, List.nil_append] <;> rfl)).mono ?_
  rintro e w7 ⟨rfl, v7, l7, b7, h⟩
  have H7 := Lib.hid h
  clear h
  go_wp2_with fail
  refine (CRd.go result_reads H7.out (by simp only [fsize_append, fsize_nums, fsize, HN1.out, HN3.out, List.nil_append] <;> rfl)).mono ?_
  rintro e w8 ⟨rfl, v8, l8, b8, h⟩
  have H8 := Lib.hid h
  clear h
  go_wp2_with fail
  go_end0
  exact CRd.fin H8.out (by simp only [List.map_append, nums_fst, HN1.out, HN3.out, List.append_assoc, List.map_cons, List.map_nil, List.nil_append]; rfl)
end Go.Proofs.Ytpfnbilopagepaa
/- codec's get[Msg] and GetMsg. -/
namespace Go.Proofs.Ytpfnbilopagepaa
open Go.RowKit Go.Lb Go.Rc

set_option maxRecDepth 20000 in
set_option maxHeartbeats 2000000 in
theorem getMsg_any (a : Option Addr) (c : Nat) (l : List Nat) (w : World) (hb : Bytes w (· < w.heap.size) a l) (hc : l.length ≤ c ∧ c ≤ maxLen) :
    Calls Try.prog 81 #[.slice a l.length c, .func (.func 80) #[] #[]] w (GetIs sMsg l w) := by
  have HB := Lib.hid hb
  have HC := Lib.hid hc
  clear hb hc
  go_enter Try.func81, Try.ntmps81
  go_wp2_with (refine wpList_alloc_blk rfl 73 rfl sMsg.zc (zero73 _) ?_; intro wA hA uA)
  rename_i wB hB uB wC hC uC K1 a1 K2 a2
  have uW : Upd [] w (wA.alloc (.cells #[.slice a l.length c, .bool true, .bool false] 157)) := ((uB.trans uC (by simp)).trans uA (by simp)).alloc _
  have s1 := uB.size
  have s2 := uC.size
  have s3 := uA.size
  have l1 := hB.lt
  have l2 := hC.lt
  have l3 := hA.lt
  have hT := (uA.blk (uC.blk hB (by simp)) (by simp)).alloc (.cells #[.slice a l.length c, .bool true, .bool false] 157)
  have hX := (uA.blk hC (by simp)).alloc (.cells #[.slice a l.length c, .bool true, .bool false] 157)
  have hN := hA.alloc (.cells #[.slice a l.length c, .bool true, .bool false] 157)
  refine (msg_reads w.heap.size wA.heap.size wB.heap.size 0 73 [] [] l false _ ⟨a, c, Blk.new wA 157 [.slice a l.length c, .bool true, .bool false], HB.out.upd uW (by simp), HC.out, by omega⟩ (by omega) (by omega) rfl (by simpa using hX)).mono ?_
  rintro e w1 ⟨rfl, v, cs, l', b', h1, h2, h3, h4, h5⟩
  have hlen : cs.length = 46 := h4.len
  have h3' : Blk w1 wB.heap.size 73 cs := by simpa using h3
  have hT1 : Blk w1 w.heap.size 73 sMsg.zc := h2.blk hT (by simp; omega)
  have hN1 : Blk w1 wC.heap.size 73 sMsg.zc := h2.blk hN (by simp; omega)
  have HU : Hid (Upd [] w w1) := Lib.hid (uW.trans h2 (by simp; omega))
  have HT := Lib.hid hT1
  have HN := Lib.hid hN1
  have HX := Lib.hid h3'
  have HRep := Lib.hid (h4.mono (ok' := fun k => w.heap.size < k) (fun b hb _ => by simp at hb; omega))
  have HR := Lib.hid h5
  obtain ⟨m2, _, _, _, _⟩ := fr_mark h1
  obtain ⟨a', c', hI⟩ := h1
  have f0 := hI.blk.cell (o := 0) rfl
  clear h2 h3 h4 h5 h3' hT1 hN1 hT hX hN hI uA uB uC hA hB hC uW
  by_cases hg : b' = false ∧ l' = []
  · obtain ⟨rfl, rfl⟩ := hg
    have f0' : w1.cell? ⟨wA.heap.size, 0, none⟩ = some (.slice a' 0 c') := f0
    clear f0
    go_wp2_with (first | (refine wpList_load_blk rfl 73 (.tmp 6) rfl wB.heap.size rfl HX.out Try.underlying73 rfl (by rw [hlen]; exact Try.size73) ?_) | (refine wpList_store_blk (o := ⟨none, .store 73 (.tmp 4) (.tmp 28), _, _, _, _⟩) rfl 73 (.tmp 4) (.tmp 28) rfl w.heap.size cs rfl rfl HT.out (by rw [hlen]; exact Try.size73) (by rw [hlen]; rfl) HRep.out.one ?_; intro w3 hb3 hu3))
    have hl := run_loadVar_blk (P := Try.prog) hb3 73 _ Try.underlying73 rfl (by rw [hlen]; exact Try.size73)
    refine bodyPost_ret (v := .tuple #[.agg cs.toArray, .bool true]) ?_ rfl ⟨HU.out.trans hu3 (by simp), cs, v, true, rfl, HRep.out.keep (fun k hk hl => ⟨Nat.le_of_lt hk, hu3.block k hl (by simp; omega)⟩) hu3.size, fun _ => (HR.out.good rfl).2, fun h => (by cases h)⟩
    · rw [results_cell_tmp Try.results81]; simp [asAddr, hl]
  · have t1 : b' = true ∨ (b' = false ∧ decide (0 < l'.length) = true) := by
      cases b' with
      | true => exact .inl rfl
      | false =>
        right
        refine ⟨rfl, ?_⟩
        rw [decide_eq_true_eq, List.length_pos_iff]
        exact fun h => hg ⟨rfl, h⟩
    have HG : Hid (∀ v', sMsg.get l ≠ some (v', [])) := Lib.hid (fun v' hv => by
      cases b' with
      | true =>
        rcases HR.out.bad rfl with h | h
        · cases h
        · rw [hv] at h; cases h
      | false =>
        have := (HR.out.good rfl).2
        rw [hv] at this
        simp only [Option.some.injEq, Prod.mk.injEq] at this
        exact hg ⟨rfl, this.2.symm⟩)
    clear hg
    rcases t1 with rfl | ⟨rfl, t1⟩
    all_goals
      go_wp2_with (first | (refine wpList_load_blk rfl 73 (.tmp 7) rfl wC.heap.size rfl HN.out Try.underlying73 rfl (by exact Try.size73) ?_) | (refine wpList_store_blk (o := ⟨none, .store 73 (.tmp 4) (.tmp 27), _, _, _, _⟩) rfl 73 (.tmp 4) (.tmp 27) rfl w.heap.size sMsg.zc rfl rfl HT.out (by exact Try.size73) (by rfl) (Sch.zc_one sMsg) ?_; intro w3 hb3 hu3))
      have hl := run_loadVar_blk (P := Try.prog) hb3 73 _ Try.underlying73 rfl (by exact Try.size73)
      refine bodyPost_ret (v := .tuple #[.agg sMsg.zc.toArray, .bool false]) ?_ rfl ⟨HU.out.trans hu3 (by simp), sMsg.zc, sMsg.zero, false, rfl, Sch.Rep.zero _ _ _, fun h => (by cases h), fun _ => ⟨HG.out, rfl⟩⟩
      rw [results_cell_tmp Try.results81]; simp [asAddr, hl]

set_option maxRecDepth 20000 in
set_option maxHeartbeats 2000000 in
theorem getMsg_gets : Gets 49 sMsg := by
  intro a c l w hb hc
  have HB := Lib.hid hb
  have HC := Lib.hid hc
  clear hb hc
  go_enter Try.func49, Try.ntmps49
  go_wp2_with (refine wpList_alloc_blk rfl 73 rfl sMsg.zc (zero73 _) ?_; intro wA hA uA)
  have s1 := uA.size
  have l1 := hA.lt
  refine (getMsg_any a c l wA ((HB.out.upd uA (by simp)).mono' s1) HC.out).mono ?_
  rintro e w1 ⟨u1, cs, v, r, rfl, hr, h1, h2⟩
  have hlen : cs.length = 46 := hr.len
  have HT := Lib.hid (u1.blk hA (by simp))
  have HU : Hid (Upd [] w w1) := Lib.hid (uA.trans u1 (by simp))
  have HRep := Lib.hid (hr.mono (ok' := fun k => w.heap.size < k) (fun b hb _ => by omega))
  have H1 := Lib.hid h1
  have H2 := Lib.hid h2
  clear hr h1 h2 u1 uA hA
  go_wp2_with (refine wpList_store_blk (o := ⟨none, .store 73 (.tmp 2) (.tmp 6), _, _, _, _⟩) rfl 73 (.tmp 2) (.tmp 6) rfl w.heap.size cs rfl rfl HT.out (by rw [hlen]; exact Try.size73) (by rw [hlen]; rfl) HRep.out.one ?_; intro w3 hb3 hu3)
  have hl := run_loadVar_blk (P := Try.prog) hb3 73 _ Try.underlying73 rfl (by rw [hlen]; exact Try.size73)
  refine bodyPost_ret (v := .tuple #[.agg cs.toArray, .bool r]) ?_ rfl ⟨HU.out.trans hu3 (by simp), cs, v, r, rfl, HRep.out.keep (fun k hk hl => ⟨Nat.le_of_lt hk, hu3.block k hl (by simp; omega)⟩) hu3.size, H1.out, H2.out⟩
  rw [results_cell_tmp Try.results49]; simp [asAddr, hl]
end Go.Proofs.Ytpfnbilopagepaa
/- codec's list[Job], writing. -/
namespace Go.Proofs.Ytpfnbilopagepaa
open Go.RowKit Go.Lb Go.Rc

set_option maxRecDepth 20000 in
set_option maxHeartbeats 2000000 in
theorem listJob_writes : LWrites 119 91 sJob := by
  intro B X f p q tp pre cs post v o b w h hX hq hp hr hl
  obtain ⟨a, c, l, rfl, rfl, hall⟩ := hr
  have HA : Hid (Elems w (· < B) sJob 7 a l) := Lib.hid hall
  subst hq
  have H := Lib.hid h
  have HL := Lib.hid hl
  have HX := Lib.hid hX
  have HP := Lib.hid hp
  have hl1 : o.length + 6 ≤ 1099511627776 := by simp only [Sch.wmax] at hl; omega
  have c0 := hp.cell (o := pre.length) mid_at
  have hB := h.base
  clear h hX hall hl hp
  go_enter Try.func119, Try.ntmps119
  go_wp2_with fail
  refine (many_w B X f l.length 64 o b _ H.out hl1 (by decide)).mono ?_
  rintro e w1 ⟨r, o1, b1, rfl, h1, h2, h3⟩
  obtain ⟨m2, m3, m4, m5⟩ := fw_mark h1
  have p0 := (h2.blk HP.out (.inr HX.out)).cell (o := pre.length) mid_at
  have H1 := Lib.hid h1
  have H2 := Lib.hid h2
  have H3 : Hid (LWk sJob l.length [] o b o1 b1) := Lib.hid (LWk.start h3)
  clear h1 h2 h3
  go_wp2_with fail
  go_loopg [7, 8, 25] l.length (fun g u v t wr => ∃ (i : Nat) (o' : List Nat) (b' : Bool), t = .int .i64 i ∧ l.length - i = g ∧ i ≤ l.length ∧ Fw B X wr f o' b' ∧ Kp B X w wr ∧ LWk sJob l.length (l.take i) o b o' b')
  case atStart => exact ⟨0, o1, b1, rfl, rfl, by omega, H1.out, H2.out, H3.out⟩
  case round =>
    obtain ⟨i, o', b', rfl, hg, hi, hF, hK, hW⟩ := hrel
    have HG := Lib.hid hg
    have HF := Lib.hid hF
    have HK := Lib.hid hK
    have HW := Lib.hid hW
    obtain ⟨n2, n3, n4, n5⟩ := fw_mark hF
    have r0 := (hK.blk HP.out (.inr HX.out)).cell (o := pre.length) mid_at
    clear hg hF hK hW m2 m3 m4 m5 p0
    by_cases hlt : i < l.length
    · have t1 : decide (i < l.length) = true := by simpa using hlt
      cases b' with
      | true =>
        have HE := Lib.hid HW.out.early
        go_wp2_with fail
        go_end0
        exact ⟨rfl, o', true, HF.out, HK.out, HE.out⟩
      | false =>
      obtain ⟨x, hx⟩ : ∃ x, l[i]? = some x := ⟨_, List.getElem?_eq_getElem hlt⟩
      obtain ⟨b0, o0, us, rfl, hb0, hbl, hrg, hrep⟩ := HA.out i x hx
      have hrep := hrep.keep (ok' := (· < B)) (fun k hk hl => ⟨hk, HK.out.block k hl (.inl hk)⟩) HK.out.size
      have hrg : wr.rangeAt b0 (o0 + i * 7) us := rangeAt_keep hrg (HK.out.block b0 hbl (.inl hb0))
      have hwl := HW.out.room hx HL.out
      have HWL := Lib.hid hwl
      have h64 : l.length ≤ 64 := (HW.out.bad.1 rfl).2.1
      have Hx := Lib.hid hx
      have hus : us.length = 7 := hrep.len
      have HONE : Hid (∀ u ∈ us, u.oneCell' = true) := Lib.hid hrep.one
      clear hx hwl
      have HREP := Lib.hid hrep
      have HRG := Lib.hid hrg
      clear hrep hrg
      go_wp2_with (first | (refine wpList_load_mid rfl 39 (.tmp 36) rfl b0 (o0 + i * 7) rfl us _ HRG.out Try.underlying39 rfl (by rw [hus]; exact Try.size39) ?_) | (refine wpList_alloc_blk rfl 39 rfl sJob.zc (zero39 _) ?_; intro wA hbA huA) | (refine wpList_store_blk (o := ⟨none, .store 39 (.tmp 8) (.tmp 37), _, _, _, _⟩) rfl 39 (.tmp 8) (.tmp 37) rfl wr.heap.size us rfl rfl hbA (by rw [hus]; exact Try.size39) (by rw [hus]; rfl) HONE.out ?_; intro wB hb huB))
      have hu : Upd [] wr wB := huA.trans huB (by simp)
      clear huA hbA huB
      refine (job_writes B (wr.heap.size :: X) f wr.heap.size 0 39 [] us [] x o' false wB (HF.out.new hu (Nat.le_refl _) hb.lt) (by simp) rfl (by simpa using hb) (HREP.out.upd hu (by simp)) HWL.out).mono ?_
      rintro e w2 ⟨rfl, o2, b2, h1, h2, h3⟩
      have H1 := Lib.hid h1.less
      have H2 := Lib.hid ((Kp.of_nil hu).trans h2.drop)
      have H3 := Lib.hid (HW.out.snoc h3)
      clear h1 h2 h3
      go_wp2_with fail
      go_roundg (l.length - (i + 1))
      case measure => have := HG.out; omega
      case rel => exact ⟨i + 1, o2, b2, by go_num, rfl, by omega, H1.out, HK.out.trans H2.out, by rw [take_snoc Hx.out]; exact H3.out⟩
    · obtain rfl : i = l.length := by omega
      go_wp2_with fail
      go_end0
      refine ⟨rfl, o', b', HF.out, HK.out, LWk.fin ?_⟩
      have := HW.out
      rwa [List.take_length] at this
end Go.Proofs.Ytpfnbilopagepaa
/- codec's list[Node], writing. -/
namespace Go.Proofs.Ytpfnbilopagepaa
open Go.RowKit Go.Lb Go.Rc

set_option maxRecDepth 20000 in
set_option maxHeartbeats 2000000 in
theorem listNode_writes : LWrites 120 92 sNode := by
  intro B X f p q tp pre cs post v o b w h hX hq hp hr hl
  obtain ⟨a, c, l, rfl, rfl, hall⟩ := hr
  have HA : Hid (Elems w (· < B) sNode 8 a l) := Lib.hid hall
  subst hq
  have H := Lib.hid h
  have HL := Lib.hid hl
  have HX := Lib.hid hX
  have HP := Lib.hid hp
  have hl1 : o.length + 6 ≤ 1099511627776 := by simp only [Sch.wmax] at hl; omega
  have c0 := hp.cell (o := pre.length) mid_at
  have hB := h.base
  clear h hX hall hl hp
  go_enter Try.func120, Try.ntmps120
  go_wp2_with fail
  refine (many_w B X f l.length 64 o b _ H.out hl1 (by decide)).mono ?_
  rintro e w1 ⟨r, o1, b1, rfl, h1, h2, h3⟩
  obtain ⟨m2, m3, m4, m5⟩ := fw_mark h1
  have p0 := (h2.blk HP.out (.inr HX.out)).cell (o := pre.length) mid_at
  have H1 := Lib.hid h1
  have H2 := Lib.hid h2
  have H3 : Hid (LWk sNode l.length [] o b o1 b1) := Lib.hid (LWk.start h3)
  clear h1 h2 h3
  go_wp2_with fail
  go_loopg [7, 8, 25] l.length (fun g u v t wr => ∃ (i : Nat) (o' : List Nat) (b' : Bool), t = .int .i64 i ∧ l.length - i = g ∧ i ≤ l.length ∧ Fw B X wr f o' b' ∧ Kp B X w wr ∧ LWk sNode l.length (l.take i) o b o' b')
  case atStart => exact ⟨0, o1, b1, rfl, rfl, by omega, H1.out, H2.out, H3.out⟩
  case round =>
    obtain ⟨i, o', b', rfl, hg, hi, hF, hK, hW⟩ := hrel
    have HG := Lib.hid hg
    have HF := Lib.hid hF
    have HK := Lib.hid hK
    have HW := Lib.hid hW
    obtain ⟨n2, n3, n4, n5⟩ := fw_mark hF
    have r0 := (hK.blk HP.out (.inr HX.out)).cell (o := pre.length) mid_at
    clear hg hF hK hW m2 m3 m4 m5 p0
    by_cases hlt : i < l.length
    · have t1 : decide (i < l.length) = true := by simpa using hlt
      cases b' with
      | true =>
        have HE := Lib.hid HW.out.early
        go_wp2_with fail
        go_end0
        exact ⟨rfl, o', true, HF.out, HK.out, HE.out⟩
      | false =>
      obtain ⟨x, hx⟩ : ∃ x, l[i]? = some x := ⟨_, List.getElem?_eq_getElem hlt⟩
      obtain ⟨b0, o0, us, rfl, hb0, hbl, hrg, hrep⟩ := HA.out i x hx
      have hrep := hrep.keep (ok' := (· < B)) (fun k hk hl => ⟨hk, HK.out.block k hl (.inl hk)⟩) HK.out.size
      have hrg : wr.rangeAt b0 (o0 + i * 8) us := rangeAt_keep hrg (HK.out.block b0 hbl (.inl hb0))
      have hwl := HW.out.room hx HL.out
      have HWL := Lib.hid hwl
      have h64 : l.length ≤ 64 := (HW.out.bad.1 rfl).2.1
      have Hx := Lib.hid hx
      have hus : us.length = 8 := hrep.len
      have HONE : Hid (∀ u ∈ us, u.oneCell' = true) := Lib.hid hrep.one
      clear hx hwl
      have HREP := Lib.hid hrep
      have HRG := Lib.hid hrg
      clear hrep hrg
      go_wp2_with (first | (refine wpList_load_mid rfl 43 (.tmp 36) rfl b0 (o0 + i * 8) rfl us _ HRG.out Try.underlying43 rfl (by rw [hus]; exact Try.size43) ?_) | (refine wpList_alloc_blk rfl 43 rfl sNode.zc (zero43 _) ?_; intro wA hbA huA) | (refine wpList_store_blk (o := ⟨none, .store 43 (.tmp 8) (.tmp 37), _, _, _, _⟩) rfl 43 (.tmp 8) (.tmp 37) rfl wr.heap.size us rfl rfl hbA (by rw [hus]; exact Try.size43) (by rw [hus]; rfl) HONE.out ?_; intro wB hb huB))
      have hu : Upd [] wr wB := huA.trans huB (by simp)
      clear huA hbA huB
      refine (node_writes B (wr.heap.size :: X) f wr.heap.size 0 43 [] us [] x o' false wB (HF.out.new hu (Nat.le_refl _) hb.lt) (by simp) rfl (by simpa using hb) (HREP.out.upd hu (by simp)) HWL.out).mono ?_
      rintro e w2 ⟨rfl, o2, b2, h1, h2, h3⟩
      have H1 := Lib.hid h1.less
      have H2 := Lib.hid ((Kp.of_nil hu).trans h2.drop)
      have H3 := Lib.hid (HW.out.snoc h3)
      clear h1 h2 h3
      go_wp2_with fail
      go_roundg (l.length - (i + 1))
      case measure => have := HG.out; omega
      case rel => exact ⟨i + 1, o2, b2, by go_num, rfl, by omega, H1.out, HK.out.trans H2.out, by rw [take_snoc Hx.out]; exact H3.out⟩
    · obtain rfl : i = l.length := by omega
      go_wp2_with fail
      go_end0
      refine ⟨rfl, o', b', HF.out, HK.out, LWk.fin ?_⟩
      have := HW.out
      rwa [List.take_length] at this
end Go.Proofs.Ytpfnbilopagepaa
/- codec's form.eval, writing. -/
namespace Go.Proofs.Ytpfnbilopagepaa
open Go.RowKit Go.Lb Go.Rc

set_option maxRecDepth 20000 in
set_option maxHeartbeats 2000000 in
theorem eval_writes : Writes 124 sEval := by
  intro B X f p q tp pre cs post v o b w h hX hq hp hr hl
  have k0 : (tup [.num, .num, .num, .num]).Rep w (· < B) cs v := hr
  obtain ⟨_, _, v0, y0, _, rfl, ⟨n0, _, rfl⟩, k1⟩ := Sch.Rep.tup_cons k0
  obtain ⟨_, _, v1, y1, _, rfl, ⟨n1, _, rfl⟩, k2⟩ := Sch.Rep.tup_cons k1
  obtain ⟨_, _, v2, y2, _, rfl, ⟨n2, _, rfl⟩, k3⟩ := Sch.Rep.tup_cons k2
  obtain ⟨_, _, v3, y3, _, rfl, ⟨n3, _, rfl⟩, k4⟩ := Sch.Rep.tup_cons k3
  obtain ⟨_, rfl⟩ := Sch.Rep.tup_nil k4
  subst hq
  have H0 := Lib.hid (WrSt.start (rest := ([(.num, .num n0), (.num, .num n1), (.num, .num n2), (.num, .num n3)] : List (Sch × Val))) h hX hp hr (by have := tup_wmax ([(.num, .num n0), (.num, .num n1), (.num, .num n2), (.num, .num n3)] : List (Sch × Val)); rw [← this]; exact hl))
  clear h hX hp hr hl k0 k1 k2 k3 k4
  go_enter Try.func124, Try.ntmps124
  refine wp_region_lex (fun _ => True) 99 [(0, true), (1, true), (2, true), (3, true), (4, true), (5, true), (6, true), (7, true), (8, true), (9, true), (10, true), (11, true), (12, true), (13, false), (14, false)] (by kernel_rfl) (by kernel_rfl) (by kernel_rfl) (by kernel_rfl) (fun _ _ d _ _ h => by cases d <;> exact h) ?_
  simp only [lexOps, List.map_cons, List.map_nil, List.getD_cons_zero, List.getD_cons_succ]
  iterate 13 (refine lex_read rfl trivial (v := ?_) (fun w' _ => ?_) ?_; rotate_left; (focus (go_simp; try with_reducible rfl)); simp only [Act.put, List.setIfInBounds_toArray, List.set_cons_zero, List.set_cons_succ])
  refine lex_do rfl (fun K hK => ?_)
  go_simp
  refine hK _ _ (fun _ => trivial) ?_
  clear hK K
  refine lex_do rfl (fun K hK => ?_)
  go_simp
  refine (CWr.goNums (ns := [n0, n1, n2, n3]) (rest := []) (k := 4) H0.out rfl ((Upd.refl _ _).alloc _).drew (Nat.le_refl _) (Blk.drew (Blk.new _ _ [_, _, _, _])) rfl).mono ?_
  rintro e w1 ⟨rfl, o1, b1, h⟩
  have H1 := Lib.hid h
  refine hK _ _ (fun _ => trivial) ?_
  clear hK K h
  refine lex_nil ?_
  go_wp2_with fail
  go_end0
  exact CWr.fin H1.out rfl rfl
end Go.Proofs.Ytpfnbilopagepaa
/- codec's list[Eval], writing. -/
namespace Go.Proofs.Ytpfnbilopagepaa
open Go.RowKit Go.Lb Go.Rc

set_option maxRecDepth 20000 in
set_option maxHeartbeats 2000000 in
theorem listEval_writes : LWrites 123 124 sEval := by
  intro B X f p q tp pre cs post v o b w h hX hq hp hr hl
  obtain ⟨a, c, l, rfl, rfl, hall⟩ := hr
  have HA : Hid (Elems w (· < B) sEval 4 a l) := Lib.hid hall
  subst hq
  have H := Lib.hid h
  have HL := Lib.hid hl
  have HX := Lib.hid hX
  have HP := Lib.hid hp
  have hl1 : o.length + 6 ≤ 1099511627776 := by simp only [Sch.wmax] at hl; omega
  have c0 := hp.cell (o := pre.length) mid_at
  have hB := h.base
  clear h hX hall hl hp
  go_enter Try.func123, Try.ntmps123
  go_wp2_with fail
  refine (many_w B X f l.length 64 o b _ H.out hl1 (by decide)).mono ?_
  rintro e w1 ⟨r, o1, b1, rfl, h1, h2, h3⟩
  obtain ⟨m2, m3, m4, m5⟩ := fw_mark h1
  have p0 := (h2.blk HP.out (.inr HX.out)).cell (o := pre.length) mid_at
  have H1 := Lib.hid h1
  have H2 := Lib.hid h2
  have H3 : Hid (LWk sEval l.length [] o b o1 b1) := Lib.hid (LWk.start h3)
  clear h1 h2 h3
  go_wp2_with fail
  go_loopg [7, 8, 25] l.length (fun g u v t wr => ∃ (i : Nat) (o' : List Nat) (b' : Bool), t = .int .i64 i ∧ l.length - i = g ∧ i ≤ l.length ∧ Fw B X wr f o' b' ∧ Kp B X w wr ∧ LWk sEval l.length (l.take i) o b o' b')
  case atStart => exact ⟨0, o1, b1, rfl, rfl, by omega, H1.out, H2.out, H3.out⟩
  case round =>
    obtain ⟨i, o', b', rfl, hg, hi, hF, hK, hW⟩ := hrel
    have HG := Lib.hid hg
    have HF := Lib.hid hF
    have HK := Lib.hid hK
    have HW := Lib.hid hW
    obtain ⟨n2, n3, n4, n5⟩ := fw_mark hF
    have r0 := (hK.blk HP.out (.inr HX.out)).cell (o := pre.length) mid_at
    clear hg hF hK hW m2 m3 m4 m5 p0
    by_cases hlt : i < l.length
    · have t1 : decide (i < l.length) = true := by simpa using hlt
      cases b' with
      | true =>
        have HE := Lib.hid HW.out.early
        go_wp2_with fail
        go_end0
        exact ⟨rfl, o', true, HF.out, HK.out, HE.out⟩
      | false =>
      obtain ⟨x, hx⟩ : ∃ x, l[i]? = some x := ⟨_, List.getElem?_eq_getElem hlt⟩
      obtain ⟨b0, o0, us, rfl, hb0, hbl, hrg, hrep⟩ := HA.out i x hx
      have hrep := hrep.keep (ok' := (· < B)) (fun k hk hl => ⟨hk, HK.out.block k hl (.inl hk)⟩) HK.out.size
      have hrg : wr.rangeAt b0 (o0 + i * 4) us := rangeAt_keep hrg (HK.out.block b0 hbl (.inl hb0))
      have hwl := HW.out.room hx HL.out
      have HWL := Lib.hid hwl
      have h64 : l.length ≤ 64 := (HW.out.bad.1 rfl).2.1
      have Hx := Lib.hid hx
      have hus : us.length = 4 := hrep.len
      have HONE : Hid (∀ u ∈ us, u.oneCell' = true) := Lib.hid hrep.one
      clear hx hwl
      have HREP := Lib.hid hrep
      have HRG := Lib.hid hrg
      clear hrep hrg
      go_wp2_with (first | (refine wpList_load_mid rfl 207 (.tmp 36) rfl b0 (o0 + i * 4) rfl us _ HRG.out Try.underlying207 rfl (by rw [hus]; exact Try.size207) ?_) | (refine wpList_alloc_blk rfl 207 rfl sEval.zc (zero207 _) ?_; intro wA hbA huA) | (refine wpList_store_blk (o := ⟨none, .store 207 (.tmp 8) (.tmp 37), _, _, _, _⟩) rfl 207 (.tmp 8) (.tmp 37) rfl wr.heap.size us rfl rfl hbA (by rw [hus]; exact Try.size207) (by rw [hus]; rfl) HONE.out ?_; intro wB hb huB))
      have hu : Upd [] wr wB := huA.trans huB (by simp)
      clear huA hbA huB
      refine (eval_writes B (wr.heap.size :: X) f wr.heap.size 0 207 [] us [] x o' false wB (HF.out.new hu (Nat.le_refl _) hb.lt) (by simp) rfl (by simpa using hb) (HREP.out.upd hu (by simp)) HWL.out).mono ?_
      rintro e w2 ⟨rfl, o2, b2, h1, h2, h3⟩
      have H1 := Lib.hid h1.less
      have H2 := Lib.hid ((Kp.of_nil hu).trans h2.drop)
      have H3 := Lib.hid (HW.out.snoc h3)
      clear h1 h2 h3
      go_wp2_with fail
      go_roundg (l.length - (i + 1))
      case measure => have := HG.out; omega
      case rel => exact ⟨i + 1, o2, b2, by go_num, rfl, by omega, H1.out, HK.out.trans H2.out, by rw [take_snoc Hx.out]; exact H3.out⟩
    · obtain rfl : i = l.length := by omega
      go_wp2_with fail
      go_end0
      refine ⟨rfl, o', b', HF.out, HK.out, LWk.fin ?_⟩
      have := HW.out
      rwa [List.take_length] at this
end Go.Proofs.Ytpfnbilopagepaa
/- codec's form.deploy, writing. -/
namespace Go.Proofs.Ytpfnbilopagepaa
open Go.RowKit Go.Lb Go.Rc

set_option maxRecDepth 20000 in
set_option maxHeartbeats 2000000 in
theorem deploy_writes : Writes 126 sDeploy := by
  intro B X f p q tp pre cs post v o b w h hX hq hp hr hl
  have k0 : (tup [.num, .num, .num, .num]).Rep w (· < B) cs v := hr
  obtain ⟨_, _, v0, y0, _, rfl, ⟨n0, _, rfl⟩, k1⟩ := Sch.Rep.tup_cons k0
  obtain ⟨_, _, v1, y1, _, rfl, ⟨n1, _, rfl⟩, k2⟩ := Sch.Rep.tup_cons k1
  obtain ⟨_, _, v2, y2, _, rfl, ⟨n2, _, rfl⟩, k3⟩ := Sch.Rep.tup_cons k2
  obtain ⟨_, _, v3, y3, _, rfl, ⟨n3, _, rfl⟩, k4⟩ := Sch.Rep.tup_cons k3
  obtain ⟨_, rfl⟩ := Sch.Rep.tup_nil k4
  subst hq
  have H0 := Lib.hid (WrSt.start (rest := ([(.num, .num n0), (.num, .num n1), (.num, .num n2), (.num, .num n3)] : List (Sch × Val))) h hX hp hr (by have := tup_wmax ([(.num, .num n0), (.num, .num n1), (.num, .num n2), (.num, .num n3)] : List (Sch × Val)); rw [← this]; exact hl))
  clear h hX hp hr hl k0 k1 k2 k3 k4
  go_enter Try.func126, Try.ntmps126
  refine wp_region_lex (fun _ => True) 99 [(0, true), (1, true), (2, true), (3, true), (4, true), (5, true), (6, true), (7, true), (8, true), (9, true), (10, true), (11, true), (12, true), (13, false), (14, false)] (by kernel_rfl) (by kernel_rfl) (by kernel_rfl) (by kernel_rfl) (fun _ _ d _ _ h => by cases d <;> exact h) ?_
  simp only [lexOps, List.map_cons, List.map_nil, List.getD_cons_zero, List.getD_cons_succ]
  iterate 13 (refine lex_read rfl trivial (v := ?_) (fun w' _ => ?_) ?_; rotate_left; (focus (go_simp; try with_reducible rfl)); simp only [Act.put, List.setIfInBounds_toArray, List.set_cons_zero, List.set_cons_succ])
  refine lex_do rfl (fun K hK => ?_)
  go_simp
  refine hK _ _ (fun _ => trivial) ?_
  clear hK K
  refine lex_do rfl (fun K hK => ?_)
  go_simp
  refine (CWr.goNums (ns := [n0, n1, n2, n3]) (rest := []) (k := 4) H0.out rfl ((Upd.refl _ _).alloc _).drew (Nat.le_refl _) (Blk.drew (Blk.new _ _ [_, _, _, _])) rfl).mono ?_
  rintro e w1 ⟨rfl, o1, b1, h⟩
  have H1 := Lib.hid h
  refine hK _ _ (fun _ => trivial) ?_
  clear hK K h
  refine lex_nil ?_
  go_wp2_with fail
  go_end0
  exact CWr.fin H1.out rfl rfl
end Go.Proofs.Ytpfnbilopagepaa
/- codec's list[Deploy], writing. -/
namespace Go.Proofs.Ytpfnbilopagepaa
open Go.RowKit Go.Lb Go.Rc

set_option maxRecDepth 20000 in
set_option maxHeartbeats 2000000 in
theorem listDeploy_writes : LWrites 125 126 sDeploy := by
  intro B X f p q tp pre cs post v o b w h hX hq hp hr hl
  obtain ⟨a, c, l, rfl, rfl, hall⟩ := hr
  have HA : Hid (Elems w (· < B) sDeploy 4 a l) := Lib.hid hall
  subst hq
  have H := Lib.hid h
  have HL := Lib.hid hl
  have HX := Lib.hid hX
  have HP := Lib.hid hp
  have hl1 : o.length + 6 ≤ 1099511627776 := by simp only [Sch.wmax] at hl; omega
  have c0 := hp.cell (o := pre.length) mid_at
  have hB := h.base
  clear h hX hall hl hp
  go_enter Try.func125, Try.ntmps125
  go_wp2_with fail
  refine (many_w B X f l.length 64 o b _ H.out hl1 (by decide)).mono ?_
  rintro e w1 ⟨r, o1, b1, rfl, h1, h2, h3⟩
  obtain ⟨m2, m3, m4, m5⟩ := fw_mark h1
  have p0 := (h2.blk HP.out (.inr HX.out)).cell (o := pre.length) mid_at
  have H1 := Lib.hid h1
  have H2 := Lib.hid h2
  have H3 : Hid (LWk sDeploy l.length [] o b o1 b1) := Lib.hid (LWk.start h3)
  clear h1 h2 h3
  go_wp2_with fail
  go_loopg [7, 8, 25] l.length (fun g u v t wr => ∃ (i : Nat) (o' : List Nat) (b' : Bool), t = .int .i64 i ∧ l.length - i = g ∧ i ≤ l.length ∧ Fw B X wr f o' b' ∧ Kp B X w wr ∧ LWk sDeploy l.length (l.take i) o b o' b')
  case atStart => exact ⟨0, o1, b1, rfl, rfl, by omega, H1.out, H2.out, H3.out⟩
  case round =>
    obtain ⟨i, o', b', rfl, hg, hi, hF, hK, hW⟩ := hrel
    have HG := Lib.hid hg
    have HF := Lib.hid hF
    have HK := Lib.hid hK
    have HW := Lib.hid hW
    obtain ⟨n2, n3, n4, n5⟩ := fw_mark hF
    have r0 := (hK.blk HP.out (.inr HX.out)).cell (o := pre.length) mid_at
    clear hg hF hK hW m2 m3 m4 m5 p0
    by_cases hlt : i < l.length
    · have t1 : decide (i < l.length) = true := by simpa using hlt
      cases b' with
      | true =>
        have HE := Lib.hid HW.out.early
        go_wp2_with fail
        go_end0
        exact ⟨rfl, o', true, HF.out, HK.out, HE.out⟩
      | false =>
      obtain ⟨x, hx⟩ : ∃ x, l[i]? = some x := ⟨_, List.getElem?_eq_getElem hlt⟩
      obtain ⟨b0, o0, us, rfl, hb0, hbl, hrg, hrep⟩ := HA.out i x hx
      have hrep := hrep.keep (ok' := (· < B)) (fun k hk hl => ⟨hk, HK.out.block k hl (.inl hk)⟩) HK.out.size
      have hrg : wr.rangeAt b0 (o0 + i * 4) us := rangeAt_keep hrg (HK.out.block b0 hbl (.inl hb0))
      have hwl := HW.out.room hx HL.out
      have HWL := Lib.hid hwl
      have h64 : l.length ≤ 64 := (HW.out.bad.1 rfl).2.1
      have Hx := Lib.hid hx
      have hus : us.length = 4 := hrep.len
      have HONE : Hid (∀ u ∈ us, u.oneCell' = true) := Lib.hid hrep.one
      clear hx hwl
      have HREP := Lib.hid hrep
      have HRG := Lib.hid hrg
      clear hrep hrg
      go_wp2_with (first | (refine wpList_load_mid rfl 212 (.tmp 36) rfl b0 (o0 + i * 4) rfl us _ HRG.out Try.underlying212 rfl (by rw [hus]; exact Try.size212) ?_) | (refine wpList_alloc_blk rfl 212 rfl sDeploy.zc (zero212 _) ?_; intro wA hbA huA) | (refine wpList_store_blk (o := ⟨none, .store 212 (.tmp 8) (.tmp 37), _, _, _, _⟩) rfl 212 (.tmp 8) (.tmp 37) rfl wr.heap.size us rfl rfl hbA (by rw [hus]; exact Try.size212) (by rw [hus]; rfl) HONE.out ?_; intro wB hb huB))
      have hu : Upd [] wr wB := huA.trans huB (by simp)
      clear huA hbA huB
      refine (deploy_writes B (wr.heap.size :: X) f wr.heap.size 0 212 [] us [] x o' false wB (HF.out.new hu (Nat.le_refl _) hb.lt) (by simp) rfl (by simpa using hb) (HREP.out.upd hu (by simp)) HWL.out).mono ?_
      rintro e w2 ⟨rfl, o2, b2, h1, h2, h3⟩
      have H1 := Lib.hid h1.less
      have H2 := Lib.hid ((Kp.of_nil hu).trans h2.drop)
      have H3 := Lib.hid (HW.out.snoc h3)
      clear h1 h2 h3
      go_wp2_with fail
      go_roundg (l.length - (i + 1))
      case measure => have := HG.out; omega
      case rel => exact ⟨i + 1, o2, b2, by go_num, rfl, by omega, H1.out, HK.out.trans H2.out, by rw [take_snoc Hx.out]; exact H3.out⟩
    · obtain rfl : i = l.length := by omega
      go_wp2_with fail
      go_end0
      refine ⟨rfl, o', b', HF.out, HK.out, LWk.fin ?_⟩
      have := HW.out
      rwa [List.take_length] at this
end Go.Proofs.Ytpfnbilopagepaa
/- codec's form.seen, writing. -/
namespace Go.Proofs.Ytpfnbilopagepaa
open Go.RowKit Go.Lb Go.Rc

set_option maxRecDepth 20000 in
set_option maxHeartbeats 2000000 in
theorem seen_writes : Writes 128 sSeen := by
  intro B X f p q tp pre cs post v o b w h hX hq hp hr hl
  have k0 : (tup [.num, .num, sResult]).Rep w (· < B) cs v := hr
  obtain ⟨_, _, v0, y0, _, rfl, ⟨n0, _, rfl⟩, k1⟩ := Sch.Rep.tup_cons k0
  obtain ⟨_, _, v1, y1, _, rfl, ⟨n1, _, rfl⟩, k2⟩ := Sch.Rep.tup_cons k1
  obtain ⟨_, _, v2, y2, _, rfl, _, k3⟩ := Sch.Rep.tup_cons k2
  obtain ⟨_, rfl⟩ := Sch.Rep.tup_nil k3
  subst hq
  have H0 := Lib.hid (WrSt.start (rest := ([(.num, .num n0), (.num, .num n1), (sResult, v2)] : List (Sch × Val))) h hX hp hr (by have := tup_wmax ([(.num, .num n0), (.num, .num n1), (sResult, v2)] : List (Sch × Val)); rw [← this]; exact hl))
  clear h hX hp hr hl k0 k1 k2 k3
  go_enter Try.func128, Try.ntmps128
  go_wp2_with fail
  refine wp_region_lex (fun _ => True) 99 [(0, true), (1, true), (2, true), (3, true), (4, true), (5, true), (6, true), (7, false), (8, false)] (by kernel_rfl) (by kernel_rfl) (by kernel_rfl) (by kernel_rfl) (fun _ _ d _ _ h => by cases d <;> exact h) ?_
  simp only [lexOps, List.map_cons, List.map_nil, List.getD_cons_zero, List.getD_cons_succ]
  iterate 7 (refine lex_read rfl trivial (v := ?_) (fun w' _ => ?_) ?_; rotate_left; (focus (go_simp; try with_reducible rfl)); simp only [Act.put, List.setIfInBounds_toArray, List.set_cons_zero, List.set_cons_succ])
  refine lex_do rfl (fun K hK => ?_)
  go_simp
  refine hK _ _ (fun _ => trivial) ?_
  clear hK K
  refine lex_do rfl (fun K hK => ?_)
  go_simp
  refine (CWr.goNums (ns := [n0, n1]) (rest := [(sResult, v2)]) (k := 2) H0.out rfl ((Upd.refl _ _).alloc _).drew (Nat.le_refl _) (Blk.drew (Blk.new _ _ [_, _])) rfl).mono ?_
  rintro e w1 ⟨rfl, o1, b1, h⟩
  have H1 := Lib.hid h
  refine hK _ _ (fun _ => trivial) ?_
  clear hK K h
  refine lex_nil ?_
  go_wp2_with fail
  refine (CWr.go result_writes H1.out rfl).mono ?_
  rintro e w2 ⟨rfl, o2, b2, h⟩
  have H2 := Lib.hid h
  clear h
  go_wp2_with fail
  go_end0
  exact CWr.fin H2.out rfl rfl
end Go.Proofs.Ytpfnbilopagepaa
/- codec's list[Seen], writing. -/
namespace Go.Proofs.Ytpfnbilopagepaa
open Go.RowKit Go.Lb Go.Rc

set_option maxRecDepth 20000 in
set_option maxHeartbeats 2000000 in
theorem listSeen_writes : LWrites 127 128 sSeen := by
  intro B X f p q tp pre cs post v o b w h hX hq hp hr hl
  obtain ⟨a, c, l, rfl, rfl, hall⟩ := hr
  have HA : Hid (Elems w (· < B) sSeen 5 a l) := Lib.hid hall
  subst hq
  have H := Lib.hid h
  have HL := Lib.hid hl
  have HX := Lib.hid hX
  have HP := Lib.hid hp
  have hl1 : o.length + 6 ≤ 1099511627776 := by simp only [Sch.wmax] at hl; omega
  have c0 := hp.cell (o := pre.length) mid_at
  have hB := h.base
  clear h hX hall hl hp
  go_enter Try.func127, Try.ntmps127
  go_wp2_with fail
  refine (many_w B X f l.length 64 o b _ H.out hl1 (by decide)).mono ?_
  rintro e w1 ⟨r, o1, b1, rfl, h1, h2, h3⟩
  obtain ⟨m2, m3, m4, m5⟩ := fw_mark h1
  have p0 := (h2.blk HP.out (.inr HX.out)).cell (o := pre.length) mid_at
  have H1 := Lib.hid h1
  have H2 := Lib.hid h2
  have H3 : Hid (LWk sSeen l.length [] o b o1 b1) := Lib.hid (LWk.start h3)
  clear h1 h2 h3
  go_wp2_with fail
  go_loopg [7, 8, 25] l.length (fun g u v t wr => ∃ (i : Nat) (o' : List Nat) (b' : Bool), t = .int .i64 i ∧ l.length - i = g ∧ i ≤ l.length ∧ Fw B X wr f o' b' ∧ Kp B X w wr ∧ LWk sSeen l.length (l.take i) o b o' b')
  case atStart => exact ⟨0, o1, b1, rfl, rfl, by omega, H1.out, H2.out, H3.out⟩
  case round =>
    obtain ⟨i, o', b', rfl, hg, hi, hF, hK, hW⟩ := hrel
    have HG := Lib.hid hg
    have HF := Lib.hid hF
    have HK := Lib.hid hK
    have HW := Lib.hid hW
    obtain ⟨n2, n3, n4, n5⟩ := fw_mark hF
    have r0 := (hK.blk HP.out (.inr HX.out)).cell (o := pre.length) mid_at
    clear hg hF hK hW m2 m3 m4 m5 p0
    by_cases hlt : i < l.length
    · have t1 : decide (i < l.length) = true := by simpa using hlt
      cases b' with
      | true =>
        have HE := Lib.hid HW.out.early
        go_wp2_with fail
        go_end0
        exact ⟨rfl, o', true, HF.out, HK.out, HE.out⟩
      | false =>
      obtain ⟨x, hx⟩ : ∃ x, l[i]? = some x := ⟨_, List.getElem?_eq_getElem hlt⟩
      obtain ⟨b0, o0, us, rfl, hb0, hbl, hrg, hrep⟩ := HA.out i x hx
      have hrep := hrep.keep (ok' := (· < B)) (fun k hk hl => ⟨hk, HK.out.block k hl (.inl hk)⟩) HK.out.size
      have hrg : wr.rangeAt b0 (o0 + i * 5) us := rangeAt_keep hrg (HK.out.block b0 hbl (.inl hb0))
      have hwl := HW.out.room hx HL.out
      have HWL := Lib.hid hwl
      have h64 : l.length ≤ 64 := (HW.out.bad.1 rfl).2.1
      have Hx := Lib.hid hx
      have hus : us.length = 5 := hrep.len
      have HONE : Hid (∀ u ∈ us, u.oneCell' = true) := Lib.hid hrep.one
      clear hx hwl
      have HREP := Lib.hid hrep
      have HRG := Lib.hid hrg
      clear hrep hrg
      go_wp2_with (first | (refine wpList_load_mid rfl 217 (.tmp 36) rfl b0 (o0 + i * 5) rfl us _ HRG.out Try.underlying217 rfl (by rw [hus]; exact Try.size217) ?_) | (refine wpList_alloc_blk rfl 217 rfl sSeen.zc (zero217 _) ?_; intro wA hbA huA) | (refine wpList_store_blk (o := ⟨none, .store 217 (.tmp 8) (.tmp 37), _, _, _, _⟩) rfl 217 (.tmp 8) (.tmp 37) rfl wr.heap.size us rfl rfl hbA (by rw [hus]; exact Try.size217) (by rw [hus]; rfl) HONE.out ?_; intro wB hb huB))
      have hu : Upd [] wr wB := huA.trans huB (by simp)
      clear huA hbA huB
      refine (seen_writes B (wr.heap.size :: X) f wr.heap.size 0 217 [] us [] x o' false wB (HF.out.new hu (Nat.le_refl _) hb.lt) (by simp) rfl (by simpa using hb) (HREP.out.upd hu (by simp)) HWL.out).mono ?_
      rintro e w2 ⟨rfl, o2, b2, h1, h2, h3⟩
      have H1 := Lib.hid h1.less
      have H2 := Lib.hid ((Kp.of_nil hu).trans h2.drop)
      have H3 := Lib.hid (HW.out.snoc h3)
      clear h1 h2 h3
      go_wp2_with fail
      go_roundg (l.length - (i + 1))
      case measure => have := HG.out; omega
      case rel => exact ⟨i + 1, o2, b2, by go_num, rfl, by omega, H1.out, HK.out.trans H2.out, by rw [take_snoc Hx.out]; exact H3.out⟩
    · obtain rfl : i = l.length := by omega
      go_wp2_with fail
      go_end0
      refine ⟨rfl, o', b', HF.out, HK.out, LWk.fin ?_⟩
      have := HW.out
      rwa [List.take_length] at this
end Go.Proofs.Ytpfnbilopagepaa
/- codec's form.store, writing. -/
namespace Go.Proofs.Ytpfnbilopagepaa
open Go.RowKit Go.Lb Go.Rc

set_option maxRecDepth 20000 in
set_option maxHeartbeats 2000000 in
theorem store_writes : Writes 83 sStore := by
  intro B X f p q tp pre cs post v o b w h hX hq hp hr hl
  have k0 : (tup [.num, .num, .list sJob, .list sJob, .list sNode, .list sAlloc, .list sEval, .list sDeploy, .list sSeen]).Rep w (· < B) cs v := hr
  obtain ⟨_, _, v0, y0, _, rfl, ⟨n0, _, rfl⟩, k1⟩ := Sch.Rep.tup_cons k0
  obtain ⟨_, _, v1, y1, _, rfl, ⟨n1, _, rfl⟩, k2⟩ := Sch.Rep.tup_cons k1
  obtain ⟨_, _, v2, y2, _, rfl, _, k3⟩ := Sch.Rep.tup_cons k2
  obtain ⟨_, _, v3, y3, _, rfl, _, k4⟩ := Sch.Rep.tup_cons k3
  obtain ⟨_, _, v4, y4, _, rfl, _, k5⟩ := Sch.Rep.tup_cons k4
  obtain ⟨_, _, v5, y5, _, rfl, _, k6⟩ := Sch.Rep.tup_cons k5
  obtain ⟨_, _, v6, y6, _, rfl, _, k7⟩ := Sch.Rep.tup_cons k6
  obtain ⟨_, _, v7, y7, _, rfl, _, k8⟩ := Sch.Rep.tup_cons k7
  obtain ⟨_, _, v8, y8, _, rfl, _, k9⟩ := Sch.Rep.tup_cons k8
  obtain ⟨_, rfl⟩ := Sch.Rep.tup_nil k9
  subst hq
  have H0 := Lib.hid (WrSt.start (rest := ([(.num, .num n0), (.num, .num n1), (.list sJob, v2), (.list sJob, v3), (.list sNode, v4), (.list sAlloc, v5), (.list sEval, v6), (.list sDeploy, v7), (.list sSeen, v8)] : List (Sch × Val))) h hX hp hr (by have := tup_wmax ([(.num, .num n0), (.num, .num n1), (.list sJob, v2), (.list sJob, v3), (.list sNode, v4), (.list sAlloc, v5), (.list sEval, v6), (.list sDeploy, v7), (.list sSeen, v8)] : List (Sch × Val)); rw [← this]; exact hl))
  clear h hX hp hr hl k0 k1 k2 k3 k4 k5 k6 k7 k8 k9
  go_enter Try.func83, Try.ntmps83
  go_wp2_with fail
  refine wp_region_lex (fun _ => True) 99 [(0, true), (1, true), (2, true), (3, true), (4, true), (5, true), (6, true), (7, false), (8, false)] (by kernel_rfl) (by kernel_rfl) (by kernel_rfl) (by kernel_rfl) (fun _ _ d _ _ h => by cases d <;> exact h) ?_
  simp only [lexOps, List.map_cons, List.map_nil, List.getD_cons_zero, List.getD_cons_succ]
  iterate 7 (refine lex_read rfl trivial (v := ?_) (fun w' _ => ?_) ?_; rotate_left; (focus (go_simp; try with_reducible rfl)); simp only [Act.put, List.setIfInBounds_toArray, List.set_cons_zero, List.set_cons_succ])
  refine lex_do rfl (fun K hK => ?_)
  go_simp
  refine hK _ _ (fun _ => trivial) ?_
  clear hK K
  refine lex_do rfl (fun K hK => ?_)
  go_simp
  refine (CWr.goNums (ns := [n0, n1]) (rest := [(.list sJob, v2), (.list sJob, v3), (.list sNode, v4), (.list sAlloc, v5), (.list sEval, v6), (.list sDeploy, v7), (.list sSeen, v8)]) (k := 2) H0.out rfl ((Upd.refl _ _).alloc _).drew (Nat.le_refl _) (Blk.drew (Blk.new _ _ [_, _])) rfl).mono ?_
  rintro e w1 ⟨rfl, o1, b1, h⟩
  have H1 := Lib.hid h
  refine hK _ _ (fun _ => trivial) ?_
  clear hK K h
  refine lex_nil ?_
  go_wp2_with fail
  refine (CWr.goList listJob_writes H1.out rfl).mono ?_
  rintro e w2 ⟨rfl, o2, b2, h⟩
  have H2 := Lib.hid h
  clear h
  go_wp2_with fail
  refine (CWr.goList listJob_writes H2.out rfl).mono ?_
  rintro e w3 ⟨rfl, o3, b3, h⟩
  have H3 := Lib.hid h
  clear h
  go_wp2_with fail
  refine (CWr.goList listNode_writes H3.out rfl).mono ?_
  rintro e w4 ⟨rfl, o4, b4, h⟩
  have H4 := Lib.hid h
  clear h
  go_wp2_with fail
  refine (CWr.goList listAlloc_writes H4.out rfl).mono ?_
  rintro e w5 ⟨rfl, o5, b5, h⟩
  have H5 := Lib.hid h
  clear h
  go_wp2_with fail
  refine (CWr.goList listEval_writes H5.out rfl).mono ?_
  rintro e w6 ⟨rfl, o6, b6, h⟩
  have H6 := Lib.hid h
  clear h
  go_wp2_with fail
  refine (CWr.goList listDeploy_writes H6.out rfl).mono ?_
  rintro e w7 ⟨rfl, o7, b7, h⟩
  have H7 := Lib.hid h
  clear h
  go_wp2_with fail
  refine (CWr.goList listSeen_writes H7.out rfl).mono ?_
  rintro e w8 ⟨rfl, o8, b8, h⟩
  have H8 := Lib.hid h
  clear h
  go_wp2_with fail
  go_end0
  exact CWr.fin H8.out rfl rfl
end Go.Proofs.Ytpfnbilopagepaa
/- codec's put[Store] and PutStore. -/
namespace Go.Proofs.Ytpfnbilopagepaa
open Go.RowKit Go.Lb Go.Rc

set_option maxRecDepth 20000 in
set_option maxHeartbeats 2000000 in
theorem putStore_any (cs : List Value) (v : Val) (w : World) (hr : Sch.Rep w (· < w.heap.size) sStore cs v) (hl : sStore.wmax v ≤ 1099511627776) :
    Calls Try.prog 82 #[.agg cs.toArray, .func (.func 83) #[] #[]] w (PutIs sStore v w) := by
  have hlen : cs.length = 9 := hr.len
  have HR := Lib.hid hr
  have HL := Lib.hid hl
  clear hr hl
  go_enter Try.func82, Try.ntmps82
  go_wp2_with fail
  have uW : Upd [] w ((w.alloc (.cells cs.toArray 101)).alloc (.cells #[.slice none 0 0, .bool false, .bool false] 157)) := ((Upd.refl _ _).alloc _).alloc _
  refine (store_writes w.heap.size [w.heap.size] (w.heap.size + 1) w.heap.size 0 101 [] cs [] v [] false _ (fresh_out (mk := cW) rfl) (by simp) rfl (by simpa using (Blk.new w 101 cs).alloc _) (HR.out.upd uW (by simp)) (by simpa using HL.out)).mono ?_
  rintro e w1 ⟨rfl, o, b, h1, h2, h3⟩
  obtain ⟨m2, m3, m4, m5⟩ := fw_mark h1
  cases b with
  | true =>
    have HF := Lib.hid (putIs_bad h2 uW h3)
    clear h1 h2 h3 uW
    go_wp2_with fail
    go_ret2
    exact HF.out
  | false =>
    obtain ⟨a, c, e0, hF⟩ := putIs_good h1 h2 uW h3
    have e1 : w1.cell? ⟨w.heap.size + 1, 0, none⟩ = some (.slice a (sStore.put v).length c) := e0
    have HF := Lib.hid hF
    clear h1 h2 h3 uW e0 hF
    go_wp2_with fail
    go_ret2
    exact HF.out

set_option maxRecDepth 20000 in
set_option maxHeartbeats 2000000 in
theorem putStore_puts : Puts 50 sStore := by
  intro cs v w hr hl
  have hlen : cs.length = 9 := hr.len
  have uW : Upd [] w (w.alloc (.cells cs.toArray 101)) := (Upd.refl _ _).alloc _
  have HR := Lib.hid hr
  have HL := Lib.hid hl
  have hb := Blk.new w 101 cs
  have HB := Lib.hid hb
  clear hr hl hb
  go_enter Try.func50, Try.ntmps50
  go_wp2_with (refine wpList_load_blk rfl 101 (.tmp 1) rfl w.heap.size rfl HB.out Try.underlying101 rfl (by rw [hlen]; exact Try.size101) ?_)
  refine (putStore_any cs v _ ((HR.out.upd uW (by simp)).mono (fun b hb hl => hl)) HL.out).mono ?_
  rintro e w1 ⟨u1, ⟨hg, a, c, rfl, hown⟩ | ⟨hg, rfl⟩⟩
  · have HF : Hid (PutIs sStore v w (.returned (.tuple #[.slice a (sStore.put v).length c, .int .i64 0])) w1) := Lib.hid ⟨uW.trans u1 (by simp), .inl ⟨hg, a, c, rfl, own_rebase hown (fun k hk => by have := own_lo hown hk; have := uW.size; omega)⟩⟩
    clear u1 hg hown uW
    go_wp2_with fail
    go_ret2
    exact HF.out
  · have HF : Hid (PutIs sStore v w (.returned (.tuple #[.slice none 0 0, .int .i64 1])) w1) := Lib.hid ⟨uW.trans u1 (by simp), .inr ⟨hg, rfl⟩⟩
    clear u1 hg uW
    go_wp2_with fail
    go_ret2
    exact HF.out
end Go.Proofs.Ytpfnbilopagepaa
/- The reference's jobs, writing. -/
namespace Go.Proofs.Ytpfnbilopagepaa
open Go.RowKit Go.Lb Go.Rc

set_option maxRecDepth 20000 in
set_option maxHeartbeats 2000000 in
theorem ojobs_writes : OWrites 129 (.list sJob) := fun B X f cs v o b w h hr hl => by
  obtain ⟨a, c, l, rfl, rfl, hall⟩ := hr
  have HA : Hid (Elems w (· < B) sJob 7 a l) := Lib.hid hall
  have H := Lib.hid h
  have HL := Lib.hid hl
  have hll : l.length ≤ 1099511627776 := elems_len hall hl rfl
  have hl1 : o.length + 6 ≤ 1099511627776 := by simp only [Sch.wmax] at hl; omega
  have hB := h.base
  clear h hall hl
  show Calls Try.prog _ #[_, .slice a l.length c] _ _
  go_enter Try.func129, Try.ntmps129
  go_wp2_with fail
  refine (ocount_w B X f l.length o b _ H.out hl1).mono ?_
  rintro e w1 ⟨rfl, o1, b1, h1, h2, h3⟩
  have H1 := Lib.hid h1
  have H2 := Lib.hid h2
  have H3 : Hid (LWk sJob l.length [] o b o1 b1) := Lib.hid (LWk.start h3)
  clear h1 h2 h3
  go_wp2_with fail
  go_loopg [4] l.length (fun g t wr => ∃ (i : Nat) (o' : List Nat) (b' : Bool), t = .int .i64 i ∧ l.length - i = g ∧ i ≤ l.length ∧ Ow B X wr f o' b' ∧ Kp B X w wr ∧ LWk sJob l.length (l.take i) o b o' b')
  case atStart => exact ⟨0, o1, b1, rfl, rfl, by omega, H1.out, H2.out, H3.out⟩
  case round =>
    obtain ⟨i, o', b', rfl, hg, hi, hF, hK, hW⟩ := hrel
    have HG := Lib.hid hg
    have HF := Lib.hid hF
    have HK := Lib.hid hK
    have HW := Lib.hid hW
    clear hg hF hK hW
    by_cases hlt : i < l.length
    · have t1 : decide (i < l.length) = true := by simpa using hlt
      obtain ⟨x, hx⟩ : ∃ x, l[i]? = some x := ⟨_, List.getElem?_eq_getElem hlt⟩
      obtain ⟨b0, o0, us, rfl, hb0, hbl, hrg, hrep⟩ := HA.out i x hx
      have hrep := hrep.keep (ok' := (· < B)) (fun k hk hl => ⟨hk, HK.out.block k hl (.inl hk)⟩) HK.out.size
      have hrg : wr.rangeAt b0 (o0 + i * 7) us := rangeAt_keep hrg (HK.out.block b0 hbl (.inl hb0))
      have HWL := Lib.hid (HW.out.room hx HL.out)
      have Hx := Lib.hid hx
      clear hx
      have HRG := Lib.hid hrg
      have HREP := Lib.hid hrep
      have hus : us.length = 7 := hrep.len
      clear hrg hrep
      go_wp2_with (refine wpList_load_mid rfl 39 _ rfl b0 (o0 + i * 7) rfl us _ HRG.out Try.underlying39 rfl (by rw [hus]; exact Try.size39) ?_)
      refine (ojob_writes B X f us x o' b' _ HF.out HREP.out HWL.out).mono ?_
      rintro e w2 ⟨rfl, o2, b2, h1, h2, h3⟩
      have H1 := Lib.hid h1
      have H2 := Lib.hid h2
      have H3 := Lib.hid (HW.out.snoc h3)
      clear h1 h2 h3
      go_wp2_with fail
      go_roundg (l.length - (i + 1))
      case measure => have := HG.out; omega
      case rel => exact ⟨i + 1, o2, b2, by go_num, rfl, by omega, H1.out, HK.out.trans H2.out, by rw [take_snoc Hx.out]; exact H3.out⟩
    · obtain rfl : i = l.length := by omega
      have t1 : decide (l.length < l.length) = false := by simp
      go_wp2_with fail
      go_end0
      refine ⟨rfl, o', b', HF.out, HK.out, LWk.fin ?_⟩
      have := HW.out
      rwa [List.take_length] at this
end Go.Proofs.Ytpfnbilopagepaa
