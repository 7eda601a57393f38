/- A part that several proofs lean on: texts one behind the other. No condition but those that each theorem states. -/
import Derived.Test.YtpfnbilopagepaaZac
set_option linter.unusedVariables false
set_option linter.unusedSimpArgs false
/- codec's list[Group], writing. -/
namespace Go.Proofs.Ytpfnbilopagepaa
open Go.RowKit Go.Lb Go.Rc

set_option maxRecDepth 20000 in
set_option maxHeartbeats 2000000 in
theorem listGroup_writes : LWrites 132 133 sGroup := by
  intro B X f p q tp pre cs post v o b w h hX hq hp hr hl
  obtain ⟨a, c, l, rfl, rfl, hall⟩ := hr
  have HA : Hid (Elems w (· < B) sGroup 3 a l) := Lib.hid hall
  subst hq
  have H := Lib.hid h
  have HL := Lib.hid hl
  have HX := Lib.hid hX
  have HP := Lib.hid hp
  have hl1 : o.length + 6 ≤ 1099511627776 := by simp only [Sch.wmax] at hl; omega
  have c0 := hp.cell (o := pre.length) mid_at
  have hB := h.base
  clear h hX hall hl hp
  go_enter Try.func132, Try.ntmps132
  go_wp2_with fail
  refine (many_w B X f l.length 64 o b _ H.out hl1 (by decide)).mono ?_
  rintro e w1 ⟨r, o1, b1, rfl, h1, h2, h3⟩
  obtain ⟨m2, m3, m4, m5⟩ := fw_mark h1
  have p0 := (h2.blk HP.out (.inr HX.out)).cell (o := pre.length) mid_at
  have H1 := Lib.hid h1
  have H2 := Lib.hid h2
  have H3 : Hid (LWk sGroup l.length [] o b o1 b1) := Lib.hid (LWk.start h3)
  clear h1 h2 h3
  go_wp2_with fail
  go_loopg [7, 8, 25] l.length (fun g u v t wr => ∃ (i : Nat) (o' : List Nat) (b' : Bool), t = .int .i64 i ∧ l.length - i = g ∧ i ≤ l.length ∧ Fw B X wr f o' b' ∧ Kp B X w wr ∧ LWk sGroup l.length (l.take i) o b o' b')
  case atStart => exact ⟨0, o1, b1, rfl, rfl, by omega, H1.out, H2.out, H3.out⟩
  case round =>
    obtain ⟨i, o', b', rfl, hg, hi, hF, hK, hW⟩ := hrel
    have HG := Lib.hid hg
    have HF := Lib.hid hF
    have HK := Lib.hid hK
    have HW := Lib.hid hW
    obtain ⟨n2, n3, n4, n5⟩ := fw_mark hF
    have r0 := (hK.blk HP.out (.inr HX.out)).cell (o := pre.length) mid_at
    clear hg hF hK hW m2 m3 m4 m5 p0
    by_cases hlt : i < l.length
    · have t1 : decide (i < l.length) = true := by simpa using hlt
      cases b' with
      | true =>
        have HE := Lib.hid HW.out.early
        go_wp2_with fail
        go_end0
        exact ⟨rfl, o', true, HF.out, HK.out, HE.out⟩
      | false =>
      obtain ⟨x, hx⟩ : ∃ x, l[i]? = some x := ⟨_, List.getElem?_eq_getElem hlt⟩
      obtain ⟨b0, o0, us, rfl, hb0, hbl, hrg, hrep⟩ := HA.out i x hx
      have hrep := hrep.keep (ok' := (· < B)) (fun k hk hl => ⟨hk, HK.out.block k hl (.inl hk)⟩) HK.out.size
      have hrg : wr.rangeAt b0 (o0 + i * 3) us := rangeAt_keep hrg (HK.out.block b0 hbl (.inl hb0))
      have hwl := HW.out.room hx HL.out
      have HWL := Lib.hid hwl
      have h64 : l.length ≤ 64 := (HW.out.bad.1 rfl).2.1
      have Hx := Lib.hid hx
      have hus : us.length = 3 := hrep.len
      have HONE : Hid (∀ u ∈ us, u.oneCell' = true) := Lib.hid hrep.one
      clear hx hwl
      have HREP := Lib.hid hrep
      have HRG := Lib.hid hrg
      clear hrep hrg
      go_wp2_with (first | (refine wpList_load_mid rfl 227 (.tmp 36) rfl b0 (o0 + i * 3) rfl us _ HRG.out Try.underlying227 rfl (by rw [hus]; exact Try.size227) ?_) | (refine wpList_alloc_blk rfl 227 rfl sGroup.zc (zero227 _) ?_; intro wA hbA huA) | (refine wpList_store_blk (o := ⟨none, .store 227 (.tmp 8) (.tmp 37), _, _, _, _⟩) rfl 227 (.tmp 8) (.tmp 37) rfl wr.heap.size us rfl rfl hbA (by rw [hus]; exact Try.size227) (by rw [hus]; rfl) HONE.out ?_; intro wB hb huB))
      have hu : Upd [] wr wB := huA.trans huB (by simp)
      clear huA hbA huB
      refine (group_writes B (wr.heap.size :: X) f wr.heap.size 0 227 [] us [] x o' false wB (HF.out.new hu (Nat.le_refl _) hb.lt) (by simp) rfl (by simpa using hb) (HREP.out.upd hu (by simp)) HWL.out).mono ?_
      rintro e w2 ⟨rfl, o2, b2, h1, h2, h3⟩
      have H1 := Lib.hid h1.less
      have H2 := Lib.hid ((Kp.of_nil hu).trans h2.drop)
      have H3 := Lib.hid (HW.out.snoc h3)
      clear h1 h2 h3
      go_wp2_with fail
      go_roundg (l.length - (i + 1))
      case measure => have := HG.out; omega
      case rel => exact ⟨i + 1, o2, b2, by go_num, rfl, by omega, H1.out, HK.out.trans H2.out, by rw [take_snoc Hx.out]; exact H3.out⟩
    · obtain rfl : i = l.length := by omega
      go_wp2_with fail
      go_end0
      refine ⟨rfl, o', b', HF.out, HK.out, LWk.fin ?_⟩
      have := HW.out
      rwa [List.take_length] at this
end Go.Proofs.Ytpfnbilopagepaa
/- codec's form.flag and form.code, writing and reading. -/
namespace Go.Proofs.Ytpfnbilopagepaa
open Go.RowKit Go.Lb Go.Rc

set_option maxRecDepth 20000 in
set_option maxHeartbeats 1000000 in
theorem flag_writes : Writes 115 .flag := by
  intro B X f p q tp pre cs post v o b w h hX hq hp hr hl
  obtain ⟨t, rfl, rfl⟩ := hr
  subst hq
  simp only [Sch.wmax] at hl
  obtain ⟨n, hn⟩ : ∃ n : Int, n = if t then 1 else 0 := ⟨_, rfl⟩
  have hN := h.new ((Upd.refl [] w).alloc (.cells #[.int .i64 n] 3)) (x := w.heap.size) (Nat.le_refl _) (by simp)
  have HN := Lib.hid hN
  have HPb := Lib.hid (hp.alloc (.cells #[.int .i64 n] 3))
  have Hfresh := Lib.hid h.fresh
  have k0 := hp.cell (o := pre.length) mid_at
  have hB := h.base
  have hplt := hp.lt
  have HX := Lib.hid hX
  clear h hN hp hX
  cases t
  all_goals
    simp only [if_true, Bool.false_eq_true, if_false] at hn
    subst hn
    go_enter Try.func115, Try.ntmps115
    go_wp2_with fail
    refine (num_w B (w.heap.size :: X) f _ _ _ o b _ HN.out ((Blk.new w 3 [.int .i64 _]).cell rfl) hl).mono ?_
    rintro e w1 ⟨rfl, o', b', h1, h2, h3⟩
    have hbn := h2.blk (Blk.new w 3 [.int .i64 _]) (.inr (by simp))
    have c0 := hbn.cell (o := 0) rfl
    have hbp := h2.blk HPb.out (.inr (by simp [HX.out]))
    have p0 := hbp.cell (o := pre.length) mid_at
    have pz := hbp.frozen pre.length
    have plt := hbp.lt
    obtain ⟨m2, m3, _, m5⟩ := fw_mark h1
    have HM := Lib.hid (out_mark (i := 2) (fun _ _ _ => rfl) h1.less b')
    have hK : Kp B X w w1 := (Kp.of_nil ((Upd.refl [] w).alloc _)).trans h2.drop
    have HK := Lib.hid hK
    have H3 := Lib.hid h3
    have hpf : p ≠ f := by
      rintro rfl
      obtain ⟨hX1, v1, hh, hs⟩ := h1
      exact (hs p (by simp)).2.1 (by simp [HX.out])
    have hpf' : f ≠ p := Ne.symm hpf
    have HS := Lib.hid (setCell_same (hbp.other (a := ⟨f, 2, none⟩) hpf (.bool b')) (o := pre.length) mid_at)
    first
      | have HF := Lib.hid (show WrPost .flag B X f (.flag true) o b w (.returned (.tuple #[])) (w1.setCell ⟨f, 2, none⟩ (.bool b')) from ⟨rfl, o', b', HM.out.1, HK.out.trans HM.out.2, ⟨by rw [H3.out.bad]; simp [Sch.good, maxN], H3.out.out, H3.out.len⟩⟩)
      | have HF := Lib.hid (show WrPost .flag B X f (.flag false) o b w (.returned (.tuple #[])) (w1.setCell ⟨f, 2, none⟩ (.bool b')) from ⟨rfl, o', b', HM.out.1, HK.out.trans HM.out.2, ⟨by rw [H3.out.bad]; simp [Sch.good, maxN], H3.out.out, H3.out.len⟩⟩)
    clear h1 h2 h3 hbn hK hbp
    cases b'
    all_goals
      go_wp2_with fail
      go_end0
      first | (rw [HS.out]; exact HF.out) | exact HF.out

/-- The get of a flag, by the number's. -/
theorem flag_get {l : List Nat} : Sch.flag.get l = match nget l with
    | none => none
    | some (n, r) => if n = 0 then some (.flag false, r) else if n = 1 then some (.flag true, r) else none := rfl
theorem flag_rd {l l' : List Nat} {b b' : Bool} {n : Int} (h : ROk nget l b n l' b') : Sch.flag.Rd l b (.flag (n == 1)) l' (b' || decide (n < 0) || decide (1 < n)) := by
  constructor
  · intro e
    simp only [Bool.or_eq_false_iff, decide_eq_false_iff_not] at e
    obtain ⟨⟨e1, e2⟩, e3⟩ := e
    obtain ⟨g1, g2⟩ := h.good e1
    refine ⟨g1, ?_⟩
    rw [flag_get, g2]
    have : n = 0 ∨ n = 1 := by omega
    rcases this with rfl | rfl <;> simp
  · intro e
    cases b' with
    | true => exact (h.bad rfl).imp id fun k => by rw [flag_get, k]
    | false =>
      right
      obtain ⟨g1, g2⟩ := h.good rfl
      simp only [Bool.or_eq_true, decide_eq_true_eq, Bool.false_eq_true, false_or] at e
      rw [flag_get, g2]
      dsimp only
      rw [if_neg (by omega), if_neg (by omega)]

set_option maxRecDepth 20000 in
set_option maxHeartbeats 1000000 in
theorem flag_reads : Reads 115 .flag := by
  intro B f p q tp pre post l b w h hB hpf hq hp
  subst hq
  obtain ⟨_, _, _, hf, hBf⟩ := fr_mark h
  have HN := Lib.hid (h.upd ((Upd.refl [] w).alloc (.cells #[.int .i64 0] 3)) (by simp))
  have HPb := Lib.hid (hp.alloc (.cells #[.int .i64 0] 3))
  have k0 := hp.cell (o := pre.length) mid_at
  have hplt := hp.lt
  clear h hp
  go_enter Try.func115, Try.ntmps115
  go_wp2_with fail
  refine (num_r' B f w.heap.size 0 3 (.int .i64 0) [] [] l b _ HN.out (by omega) (by omega) rfl (Blk.new w _ _)).mono ?_
  rintro e w1 ⟨rfl, n, l', b', h1, h2, h3, h4⟩
  have c0 := h3.cell (o := 0) rfl
  have hbp := h2.blk HPb.out (by simp; omega)
  have p0 := hbp.cell (o := pre.length) mid_at
  have pz := hbp.frozen pre.length
  have plt := hbp.lt
  obtain ⟨m2, m3, _, m5, _⟩ := fr_mark h1
  have hpf' : f ≠ p := Ne.symm hpf
  have HF : Hid (∀ r : Bool, r = (b' || decide (n < 0) || decide (1 < n)) → RdPost .flag B f p tp pre post l b w (.returned (.tuple #[])) ((w1.setCell ⟨f, 2, none⟩ (.bool r)).setCell ⟨p, pre.length, none⟩ (.bool (n == 1)))) := by
    refine Lib.hid fun r hr => ?_
    obtain ⟨g1, g2⟩ := fr_set h1 r
    have uS : Upd [p] (w1.setCell ⟨f, 2, none⟩ (.bool r)) ((w1.setCell ⟨f, 2, none⟩ (.bool r)).setCell ⟨p, pre.length, none⟩ (.bool (n == 1))) := (Upd.refl _ _).setCell (by simp) _
    refine ⟨rfl, .flag (n == 1), [.bool (n == 1)], l', r, g1.upd uS (fun k hk => ?_), ?_, ?_, Sch.Rep.flag_mk _, by rw [hr]; exact flag_rd h4⟩
    · simp at hk; subst hk; exact ⟨hpf, hB⟩
    · have hu : Upd [f, p] w w1 := ((Upd.refl [f, p] w).alloc _).trans h2 (by intro x hx; simp at hx; rcases hx with rfl | rfl; simp; right; exact Nat.le_refl _)
      exact (hu.trans g2 (by simp)).trans uS (by simp)
    · have := (g2.blk hbp (by simpa using hpf)).set pre.length (.bool (n == 1))
      simpa [Sch.zc] using this
  clear h1 h2 h3 h4 hbp
  cases b' with
  | true =>
    have HG := Lib.hid (HF.out true (by simp))
    clear HF
    go_wp2_with fail
    go_end0
    exact HG.out
  | false =>
    by_cases hn : n < 0
    · have t1 : decide (n < 0) = true := by simpa using hn
      have HG := Lib.hid (HF.out true (by simp [t1]))
      clear HF hn
      go_wp2_with fail
      go_end0
      exact HG.out
    · have t1 : decide (n < 0) = false := by simpa using hn
      by_cases hn2 : 1 < n
      · have t2 : decide (1 < n) = true := by simpa using hn2
        have HG := Lib.hid (HF.out true (by simp [t2]))
        clear HF hn hn2
        go_wp2_with fail
        go_end0
        exact HG.out
      · have t2 : decide (1 < n) = false := by simpa using hn2
        have HG := Lib.hid (HF.out false (by simp [t1, t2]))
        clear HF hn hn2
        go_wp2_with fail
        go_end0
        exact HG.out
end Go.Proofs.Ytpfnbilopagepaa
/- codec's form.job, writing. -/
namespace Go.Proofs.Ytpfnbilopagepaa
open Go.RowKit Go.Lb Go.Rc

set_option maxRecDepth 20000 in
set_option maxHeartbeats 2000000 in
theorem job_writes : Writes 91 sJob := by
  intro B X f p q tp pre cs post v o b w h hX hq hp hr hl
  have k0 : (tup [.num, .num, .num, .num, .list sGroup, .num, .flag]).Rep w (· < B) cs v := hr
  obtain ⟨_, _, v0, y0, _, rfl, ⟨n0, _, rfl⟩, k1⟩ := Sch.Rep.tup_cons k0
  obtain ⟨_, _, v1, y1, _, rfl, ⟨n1, _, rfl⟩, k2⟩ := Sch.Rep.tup_cons k1
  obtain ⟨_, _, v2, y2, _, rfl, ⟨n2, _, rfl⟩, k3⟩ := Sch.Rep.tup_cons k2
  obtain ⟨_, _, v3, y3, _, rfl, ⟨n3, _, rfl⟩, k4⟩ := Sch.Rep.tup_cons k3
  obtain ⟨_, _, v4, y4, _, rfl, _, k5⟩ := Sch.Rep.tup_cons k4
  obtain ⟨_, _, v5, y5, _, rfl, ⟨n5, _, rfl⟩, k6⟩ := Sch.Rep.tup_cons k5
  obtain ⟨_, _, v6, y6, _, rfl, _, k7⟩ := Sch.Rep.tup_cons k6
  obtain ⟨_, rfl⟩ := Sch.Rep.tup_nil k7
  subst hq
  have H0 := Lib.hid (WrSt.start (rest := ([(.num, .num n0), (.num, .num n1), (.num, .num n2), (.num, .num n3), (.list sGroup, v4), (.num, .num n5), (.flag, v6)] : List (Sch × Val))) h hX hp hr (by have := tup_wmax ([(.num, .num n0), (.num, .num n1), (.num, .num n2), (.num, .num n3), (.list sGroup, v4), (.num, .num n5), (.flag, v6)] : List (Sch × Val)); rw [← this]; exact hl))
  clear h hX hp hr hl k0 k1 k2 k3 k4 k5 k6 k7
  go_enter Try.func91, Try.ntmps91
  go_wp2_with fail
  refine wp_region_lex (fun _ => True) 99 [(0, true), (1, true), (2, true), (3, true), (4, true), (5, true), (6, true), (7, true), (8, true), (9, true), (10, true), (11, true), (12, true), (13, false), (14, false)] (by kernel_rfl) (by kernel_rfl) (by kernel_rfl) (by kernel_rfl) (fun _ _ d _ _ h => by cases d <;> exact h) ?_
  simp only [lexOps, List.map_cons, List.map_nil, List.getD_cons_zero, List.getD_cons_succ]
  iterate 13 (refine lex_read rfl trivial (v := ?_) (fun w' _ => ?_) ?_; rotate_left; (focus (go_simp; try with_reducible rfl)); simp only [Act.put, List.setIfInBounds_toArray, List.set_cons_zero, List.set_cons_succ])
  refine lex_do rfl (fun K hK => ?_)
  go_simp
  refine hK _ _ (fun _ => trivial) ?_
  clear hK K
  refine lex_do rfl (fun K hK => ?_)
  go_simp
  refine (CWr.goNums (ns := [n0, n1, n2, n3]) (rest := [(.list sGroup, v4), (.num, .num n5), (.flag, v6)]) (k := 4) H0.out rfl ((Upd.refl _ _).alloc _).drew (Nat.le_refl _) (Blk.drew (Blk.new _ _ [_, _, _, _])) rfl).mono ?_
  rintro e w1 ⟨rfl, o1, b1, h⟩
  have H1 := Lib.hid h
  refine hK _ _ (fun _ => trivial) ?_
  clear hK K h
  refine lex_nil ?_
  go_wp2_with fail
  refine (CWr.goList listGroup_writes H1.out rfl).mono ?_
  rintro e w2 ⟨rfl, o2, b2, h⟩
  have H2 := Lib.hid h
  clear h
  go_wp2_with fail
  refine (CWr.go num_writes H2.out rfl).mono ?_
  rintro e w3 ⟨rfl, o3, b3, h⟩
  have H3 := Lib.hid h
  clear h
  go_wp2_with fail
  refine (CWr.go flag_writes H3.out rfl).mono ?_
  rintro e w4 ⟨rfl, o4, b4, h⟩
  have H4 := Lib.hid h
  clear h
  go_wp2_with fail
  go_end0
  exact CWr.fin H4.out rfl rfl
end Go.Proofs.Ytpfnbilopagepaa
/- codec's form.node, writing. -/
namespace Go.Proofs.Ytpfnbilopagepaa
open Go.RowKit Go.Lb Go.Rc

set_option maxRecDepth 20000 in
set_option maxHeartbeats 2000000 in
theorem node_writes : Writes 92 sNode := by
  intro B X f p q tp pre cs post v o b w h hX hq hp hr hl
  have k0 : (tup [.num, sRes, .flag, .flag, .num, .num, .num]).Rep w (· < B) cs v := hr
  obtain ⟨_, _, v0, y0, _, rfl, ⟨n0, _, rfl⟩, k1⟩ := Sch.Rep.tup_cons k0
  obtain ⟨_, _, v1, y1, _, rfl, _, k2⟩ := Sch.Rep.tup_cons k1
  obtain ⟨_, _, v2, y2, _, rfl, _, k3⟩ := Sch.Rep.tup_cons k2
  obtain ⟨_, _, v3, y3, _, rfl, _, k4⟩ := Sch.Rep.tup_cons k3
  obtain ⟨_, _, v4, y4, _, rfl, ⟨n4, _, rfl⟩, k5⟩ := Sch.Rep.tup_cons k4
  obtain ⟨_, _, v5, y5, _, rfl, ⟨n5, _, rfl⟩, k6⟩ := Sch.Rep.tup_cons k5
  obtain ⟨_, _, v6, y6, _, rfl, ⟨n6, _, rfl⟩, k7⟩ := Sch.Rep.tup_cons k6
  obtain ⟨_, rfl⟩ := Sch.Rep.tup_nil k7
  subst hq
  have H0 := Lib.hid (WrSt.start (rest := ([(.num, .num n0), (sRes, v1), (.flag, v2), (.flag, v3), (.num, .num n4), (.num, .num n5), (.num, .num n6)] : List (Sch × Val))) h hX hp hr (by have := tup_wmax ([(.num, .num n0), (sRes, v1), (.flag, v2), (.flag, v3), (.num, .num n4), (.num, .num n5), (.num, .num n6)] : List (Sch × Val)); rw [← this]; exact hl))
  clear h hX hp hr hl k0 k1 k2 k3 k4 k5 k6 k7
  go_enter Try.func92, Try.ntmps92
  go_wp2_with fail
  refine (CWr.go num_writes H0.out rfl).mono ?_
  rintro e w1 ⟨rfl, o1, b1, h⟩
  have H1 := Lib.hid h
  clear h
  go_wp2_with fail
  refine (CWr.go res_writes H1.out rfl).mono ?_
  rintro e w2 ⟨rfl, o2, b2, h⟩
  have H2 := Lib.hid h
  clear h
  go_wp2_with fail
  refine (CWr.go flag_writes H2.out rfl).mono ?_
  rintro e w3 ⟨rfl, o3, b3, h⟩
  have H3 := Lib.hid h
  clear h
  go_wp2_with fail
  refine (CWr.go flag_writes H3.out rfl).mono ?_
  rintro e w4 ⟨rfl, o4, b4, h⟩
  have H4 := Lib.hid h
  clear h
  go_wp2_with fail
  refine wp_region_lex (fun _ => True) 99 [(0, true), (1, true), (2, true), (3, true), (4, true), (5, true), (6, true), (7, true), (8, true), (9, true), (10, false), (11, false)] (by kernel_rfl) (by kernel_rfl) (by kernel_rfl) (by kernel_rfl) (fun _ _ d _ _ h => by cases d <;> exact h) ?_
  simp only [lexOps, List.map_cons, List.map_nil, List.getD_cons_zero, List.getD_cons_succ]
  iterate 10 (refine lex_read rfl trivial (v := ?_) (fun w' _ => ?_) ?_; rotate_left; (focus (go_simp; try with_reducible rfl)); simp only [Act.put, List.setIfInBounds_toArray, List.set_cons_zero, List.set_cons_succ])
  refine lex_do rfl (fun K hK => ?_)
  go_simp
  refine hK _ _ (fun _ => trivial) ?_
  clear hK K
  refine lex_do rfl (fun K hK => ?_)
  go_simp
  refine (CWr.goNums (ns := [n4, n5, n6]) (rest := []) (k := 3) H4.out rfl ((Upd.refl _ _).alloc _).drew (Nat.le_refl _) (Blk.drew (Blk.new _ _ [_, _, _])) rfl).mono ?_
  rintro e w5 ⟨rfl, o5, b5, h⟩
  have H5 := Lib.hid h
  refine hK _ _ (fun _ => trivial) ?_
  clear hK K h
  refine lex_nil ?_
  go_wp2_with fail
  go_end0
  exact CWr.fin H5.out rfl rfl
end Go.Proofs.Ytpfnbilopagepaa
/- codec's form.report, writing. -/
namespace Go.Proofs.Ytpfnbilopagepaa
open Go.RowKit Go.Lb Go.Rc

set_option maxRecDepth 20000 in
set_option maxHeartbeats 2000000 in
theorem report_writes : Writes 94 sReport := by
  intro B X f p q tp pre cs post v o b w h hX hq hp hr hl
  have k0 : (tup [.num, .num]).Rep w (· < B) cs v := hr
  obtain ⟨_, _, v0, y0, _, rfl, ⟨n0, _, rfl⟩, k1⟩ := Sch.Rep.tup_cons k0
  obtain ⟨_, _, v1, y1, _, rfl, ⟨n1, _, rfl⟩, k2⟩ := Sch.Rep.tup_cons k1
  obtain ⟨_, rfl⟩ := Sch.Rep.tup_nil k2
  subst hq
  have H0 := Lib.hid (WrSt.start (rest := ([(.num, .num n0), (.num, .num n1)] : List (Sch × Val))) h hX hp hr (by have := tup_wmax ([(.num, .num n0), (.num, .num n1)] : List (Sch × Val)); rw [← this]; exact hl))
  clear h hX hp hr hl k0 k1 k2
  go_enter Try.func94, Try.ntmps94
  refine wp_region_lex (fun _ => True) 99 [(0, true), (1, true), (2, true), (3, true), (4, true), (5, true), (6, true), (7, false), (8, false)] (by kernel_rfl) (by kernel_rfl) (by kernel_rfl) (by kernel_rfl) (fun _ _ d _ _ h => by cases d <;> exact h) ?_
  simp only [lexOps, List.map_cons, List.map_nil, List.getD_cons_zero, List.getD_cons_succ]
  iterate 7 (refine lex_read rfl trivial (v := ?_) (fun w' _ => ?_) ?_; rotate_left; (focus (go_simp; try with_reducible rfl)); simp only [Act.put, List.setIfInBounds_toArray, List.set_cons_zero, List.set_cons_succ])
  refine lex_do rfl (fun K hK => ?_)
  go_simp
  refine hK _ _ (fun _ => trivial) ?_
  clear hK K
  refine lex_do rfl (fun K hK => ?_)
  go_simp
  refine (CWr.goNums (ns := [n0, n1]) (rest := []) (k := 2) H0.out rfl ((Upd.refl _ _).alloc _).drew (Nat.le_refl _) (Blk.drew (Blk.new _ _ [_, _])) rfl).mono ?_
  rintro e w1 ⟨rfl, o1, b1, h⟩
  have H1 := Lib.hid h
  refine hK _ _ (fun _ => trivial) ?_
  clear hK K h
  refine lex_nil ?_
  go_wp2_with fail
  go_end0
  exact CWr.fin H1.out rfl rfl
end Go.Proofs.Ytpfnbilopagepaa
/- codec's list[Report], writing. -/
namespace Go.Proofs.Ytpfnbilopagepaa
open Go.RowKit Go.Lb Go.Rc

set_option maxRecDepth 20000 in
set_option maxHeartbeats 2000000 in
theorem listReport_writes : LWrites 93 94 sReport := by
  intro B X f p q tp pre cs post v o b w h hX hq hp hr hl
  obtain ⟨a, c, l, rfl, rfl, hall⟩ := hr
  have HA : Hid (Elems w (· < B) sReport 2 a l) := Lib.hid hall
  subst hq
  have H := Lib.hid h
  have HL := Lib.hid hl
  have HX := Lib.hid hX
  have HP := Lib.hid hp
  have hl1 : o.length + 6 ≤ 1099511627776 := by simp only [Sch.wmax] at hl; omega
  have c0 := hp.cell (o := pre.length) mid_at
  have hB := h.base
  clear h hX hall hl hp
  go_enter Try.func93, Try.ntmps93
  go_wp2_with fail
  refine (many_w B X f l.length 64 o b _ H.out hl1 (by decide)).mono ?_
  rintro e w1 ⟨r, o1, b1, rfl, h1, h2, h3⟩
  obtain ⟨m2, m3, m4, m5⟩ := fw_mark h1
  have p0 := (h2.blk HP.out (.inr HX.out)).cell (o := pre.length) mid_at
  have H1 := Lib.hid h1
  have H2 := Lib.hid h2
  have H3 : Hid (LWk sReport l.length [] o b o1 b1) := Lib.hid (LWk.start h3)
  clear h1 h2 h3
  go_wp2_with fail
  go_loopg [7, 8, 25] l.length (fun g u v t wr => ∃ (i : Nat) (o' : List Nat) (b' : Bool), t = .int .i64 i ∧ l.length - i = g ∧ i ≤ l.length ∧ Fw B X wr f o' b' ∧ Kp B X w wr ∧ LWk sReport l.length (l.take i) o b o' b')
  case atStart => exact ⟨0, o1, b1, rfl, rfl, by omega, H1.out, H2.out, H3.out⟩
  case round =>
    obtain ⟨i, o', b', rfl, hg, hi, hF, hK, hW⟩ := hrel
    have HG := Lib.hid hg
    have HF := Lib.hid hF
    have HK := Lib.hid hK
    have HW := Lib.hid hW
    obtain ⟨n2, n3, n4, n5⟩ := fw_mark hF
    have r0 := (hK.blk HP.out (.inr HX.out)).cell (o := pre.length) mid_at
    clear hg hF hK hW m2 m3 m4 m5 p0
    by_cases hlt : i < l.length
    · have t1 : decide (i < l.length) = true := by simpa using hlt
      cases b' with
      | true =>
        have HE := Lib.hid HW.out.early
        go_wp2_with fail
        go_end0
        exact ⟨rfl, o', true, HF.out, HK.out, HE.out⟩
      | false =>
      obtain ⟨x, hx⟩ : ∃ x, l[i]? = some x := ⟨_, List.getElem?_eq_getElem hlt⟩
      obtain ⟨b0, o0, us, rfl, hb0, hbl, hrg, hrep⟩ := HA.out i x hx
      have hrep := hrep.keep (ok' := (· < B)) (fun k hk hl => ⟨hk, HK.out.block k hl (.inl hk)⟩) HK.out.size
      have hrg : wr.rangeAt b0 (o0 + i * 2) us := rangeAt_keep hrg (HK.out.block b0 hbl (.inl hb0))
      have hwl := HW.out.room hx HL.out
      have HWL := Lib.hid hwl
      have h64 : l.length ≤ 64 := (HW.out.bad.1 rfl).2.1
      have Hx := Lib.hid hx
      have hus : us.length = 2 := hrep.len
      have HONE : Hid (∀ u ∈ us, u.oneCell' = true) := Lib.hid hrep.one
      clear hx hwl
      have HREP := Lib.hid hrep
      have HRG := Lib.hid hrg
      clear hrep hrg
      go_wp2_with (first | (refine wpList_load_mid rfl 167 (.tmp 36) rfl b0 (o0 + i * 2) rfl us _ HRG.out Try.underlying167 rfl (by rw [hus]; exact Try.size167) ?_) | (refine wpList_alloc_blk rfl 167 rfl sReport.zc (zero167 _) ?_; intro wA hbA huA) | (refine wpList_store_blk (o := ⟨none, .store 167 (.tmp 8) (.tmp 37), _, _, _, _⟩) rfl 167 (.tmp 8) (.tmp 37) rfl wr.heap.size us rfl rfl hbA (by rw [hus]; exact Try.size167) (by rw [hus]; rfl) HONE.out ?_; intro wB hb huB))
      have hu : Upd [] wr wB := huA.trans huB (by simp)
      clear huA hbA huB
      refine (report_writes B (wr.heap.size :: X) f wr.heap.size 0 167 [] us [] x o' false wB (HF.out.new hu (Nat.le_refl _) hb.lt) (by simp) rfl (by simpa using hb) (HREP.out.upd hu (by simp)) HWL.out).mono ?_
      rintro e w2 ⟨rfl, o2, b2, h1, h2, h3⟩
      have H1 := Lib.hid h1.less
      have H2 := Lib.hid ((Kp.of_nil hu).trans h2.drop)
      have H3 := Lib.hid (HW.out.snoc h3)
      clear h1 h2 h3
      go_wp2_with fail
      go_roundg (l.length - (i + 1))
      case measure => have := HG.out; omega
      case rel => exact ⟨i + 1, o2, b2, by go_num, rfl, by omega, H1.out, HK.out.trans H2.out, by rw [take_snoc Hx.out]; exact H3.out⟩
    · obtain rfl : i = l.length := by omega
      go_wp2_with fail
      go_end0
      refine ⟨rfl, o', b', HF.out, HK.out, LWk.fin ?_⟩
      have := HW.out
      rwa [List.take_length] at this
end Go.Proofs.Ytpfnbilopagepaa
/- codec's list[int], writing. -/
namespace Go.Proofs.Ytpfnbilopagepaa
open Go.RowKit Go.Lb Go.Rc

set_option maxRecDepth 20000 in
set_option maxHeartbeats 2000000 in
theorem listint_writes : LWrites 136 131 .num := by
  intro B X f p q tp pre cs post v o b w h hX hq hp hr hl
  obtain ⟨a, c, l, rfl, rfl, hall⟩ := hr
  have HA : Hid (Elems w (· < B) .num 1 a l) := Lib.hid hall
  subst hq
  have H := Lib.hid h
  have HL := Lib.hid hl
  have HX := Lib.hid hX
  have HP := Lib.hid hp
  have hl1 : o.length + 6 ≤ 1099511627776 := by simp only [Sch.wmax] at hl; omega
  have c0 := hp.cell (o := pre.length) mid_at
  have hB := h.base
  clear h hX hall hl hp
  go_enter Try.func136, Try.ntmps136
  go_wp2_with fail
  refine (many_w B X f l.length 64 o b _ H.out hl1 (by decide)).mono ?_
  rintro e w1 ⟨r, o1, b1, rfl, h1, h2, h3⟩
  obtain ⟨m2, m3, m4, m5⟩ := fw_mark h1
  have p0 := (h2.blk HP.out (.inr HX.out)).cell (o := pre.length) mid_at
  have H1 := Lib.hid h1
  have H2 := Lib.hid h2
  have H3 : Hid (LWk .num l.length [] o b o1 b1) := Lib.hid (LWk.start h3)
  clear h1 h2 h3
  go_wp2_with fail
  go_loopg [7, 8, 25] l.length (fun g u v t wr => ∃ (i : Nat) (o' : List Nat) (b' : Bool), t = .int .i64 i ∧ l.length - i = g ∧ i ≤ l.length ∧ Fw B X wr f o' b' ∧ Kp B X w wr ∧ LWk .num l.length (l.take i) o b o' b')
  case atStart => exact ⟨0, o1, b1, rfl, rfl, by omega, H1.out, H2.out, H3.out⟩
  case round =>
    obtain ⟨i, o', b', rfl, hg, hi, hF, hK, hW⟩ := hrel
    have HG := Lib.hid hg
    have HF := Lib.hid hF
    have HK := Lib.hid hK
    have HW := Lib.hid hW
    obtain ⟨n2, n3, n4, n5⟩ := fw_mark hF
    have r0 := (hK.blk HP.out (.inr HX.out)).cell (o := pre.length) mid_at
    clear hg hF hK hW m2 m3 m4 m5 p0
    by_cases hlt : i < l.length
    · have t1 : decide (i < l.length) = true := by simpa using hlt
      cases b' with
      | true =>
        have HE := Lib.hid HW.out.early
        go_wp2_with fail
        go_end0
        exact ⟨rfl, o', true, HF.out, HK.out, HE.out⟩
      | false =>
      obtain ⟨x, hx⟩ : ∃ x, l[i]? = some x := ⟨_, List.getElem?_eq_getElem hlt⟩
      obtain ⟨b0, o0, us, rfl, hb0, hbl, hrg, hrep⟩ := HA.out i x hx
      have hrep := hrep.keep (ok' := (· < B)) (fun k hk hl => ⟨hk, HK.out.block k hl (.inl hk)⟩) HK.out.size
      have hrg : wr.rangeAt b0 (o0 + i * 1) us := rangeAt_keep hrg (HK.out.block b0 hbl (.inl hb0))
      have hwl := HW.out.room hx HL.out
      have HWL := Lib.hid hwl
      have h64 : l.length ≤ 64 := (HW.out.bad.1 rfl).2.1
      have Hx := Lib.hid hx
      have hus : us.length = 1 := hrep.len
      have HONE : Hid (∀ u ∈ us, u.oneCell' = true) := Lib.hid hrep.one
      clear hx hwl
      obtain ⟨nn, rfl, rfl⟩ := hrep
      have e0 := hrg 0 _ rfl
      rw [Nat.mul_one, Nat.add_zero] at e0
      have hrep : Sch.num.Rep wr (· < B) [.int .i64 nn] (.num nn) := Sch.Rep.num_mk nn
      have HREP := Lib.hid hrep
      have HRG := Lib.hid hrg
      clear hrep hrg
      go_wp2_with fail
      generalize hwB : World.alloc _ _ = wB
      have hb : Blk wB wr.heap.size 3 [.int .i64 nn] := by subst hwB; exact Blk.new _ _ _
      have hu : Upd [] wr wB := by subst hwB; exact (Upd.refl _ _).alloc _
      refine (num_writes B (wr.heap.size :: X) f wr.heap.size 0 3 [] [.int .i64 nn] [] (.num nn) o' false wB (HF.out.new hu (Nat.le_refl _) hb.lt) (by simp) rfl (by simpa using hb) (HREP.out.upd hu (by simp)) HWL.out).mono ?_
      rintro e w2 ⟨rfl, o2, b2, h1, h2, h3⟩
      have H1 := Lib.hid h1.less
      have H2 := Lib.hid ((Kp.of_nil hu).trans h2.drop)
      have H3 := Lib.hid (HW.out.snoc h3)
      clear h1 h2 h3
      go_wp2_with fail
      go_roundg (l.length - (i + 1))
      case measure => have := HG.out; omega
      case rel => exact ⟨i + 1, o2, b2, by go_num, rfl, by omega, H1.out, HK.out.trans H2.out, by rw [take_snoc Hx.out]; exact H3.out⟩
    · obtain rfl : i = l.length := by omega
      go_wp2_with fail
      go_end0
      refine ⟨rfl, o', b', HF.out, HK.out, LWk.fin ?_⟩
      have := HW.out
      rwa [List.take_length] at this
end Go.Proofs.Ytpfnbilopagepaa
/- codec's form.alloc, writing. -/
namespace Go.Proofs.Ytpfnbilopagepaa
open Go.RowKit Go.Lb Go.Rc

set_option maxRecDepth 20000 in
set_option maxHeartbeats 2000000 in
theorem alloc_writes : Writes 122 sAlloc := by
  intro B X f p q tp pre cs post v o b w h hX hq hp hr hl
  have k0 : (tup [.num, .num, .num, .num, .num, .num, .num, sRes, .flag, .num]).Rep w (· < B) cs v := hr
  obtain ⟨_, _, v0, y0, _, rfl, ⟨n0, _, rfl⟩, k1⟩ := Sch.Rep.tup_cons k0
  obtain ⟨_, _, v1, y1, _, rfl, ⟨n1, _, rfl⟩, k2⟩ := Sch.Rep.tup_cons k1
  obtain ⟨_, _, v2, y2, _, rfl, ⟨n2, _, rfl⟩, k3⟩ := Sch.Rep.tup_cons k2
  obtain ⟨_, _, v3, y3, _, rfl, ⟨n3, _, rfl⟩, k4⟩ := Sch.Rep.tup_cons k3
  obtain ⟨_, _, v4, y4, _, rfl, ⟨n4, _, rfl⟩, k5⟩ := Sch.Rep.tup_cons k4
  obtain ⟨_, _, v5, y5, _, rfl, ⟨n5, _, rfl⟩, k6⟩ := Sch.Rep.tup_cons k5
  obtain ⟨_, _, v6, y6, _, rfl, ⟨n6, _, rfl⟩, k7⟩ := Sch.Rep.tup_cons k6
  obtain ⟨_, _, v7, y7, _, rfl, _, k8⟩ := Sch.Rep.tup_cons k7
  obtain ⟨_, _, v8, y8, _, rfl, _, k9⟩ := Sch.Rep.tup_cons k8
  obtain ⟨_, _, v9, y9, _, rfl, ⟨n9, _, rfl⟩, k10⟩ := Sch.Rep.tup_cons k9
  obtain ⟨_, rfl⟩ := Sch.Rep.tup_nil k10
  subst hq
  have H0 := Lib.hid (WrSt.start (rest := ([(.num, .num n0), (.num, .num n1), (.num, .num n2), (.num, .num n3), (.num, .num n4), (.num, .num n5), (.num, .num n6), (sRes, v7), (.flag, v8), (.num, .num n9)] : List (Sch × Val))) h hX hp hr (by have := tup_wmax ([(.num, .num n0), (.num, .num n1), (.num, .num n2), (.num, .num n3), (.num, .num n4), (.num, .num n5), (.num, .num n6), (sRes, v7), (.flag, v8), (.num, .num n9)] : List (Sch × Val)); rw [← this]; exact hl))
  clear h hX hp hr hl k0 k1 k2 k3 k4 k5 k6 k7 k8 k9 k10
  go_enter Try.func122, Try.ntmps122
  go_wp2_with fail
  refine wp_region_lex (fun _ => True) 99 [(0, true), (1, true), (2, true), (3, true), (4, true), (5, true), (6, true), (7, true), (8, true), (9, true), (10, true), (11, true), (12, true), (13, true), (14, true), (15, true), (16, true), (17, true), (18, true), (19, true), (20, true), (21, true), (22, false), (23, false)] (by kernel_rfl) (by kernel_rfl) (by kernel_rfl) (by kernel_rfl) (fun _ _ d _ _ h => by cases d <;> exact h) ?_
  simp only [lexOps, List.map_cons, List.map_nil, List.getD_cons_zero, List.getD_cons_succ]
  iterate 22 (refine lex_read rfl trivial (v := ?_) (fun w' _ => ?_) ?_; rotate_left; (focus (go_simp; try with_reducible rfl)); simp only [Act.put, List.setIfInBounds_toArray, List.set_cons_zero, List.set_cons_succ])
  refine lex_do rfl (fun K hK => ?_)
  go_simp
  refine hK _ _ (fun _ => trivial) ?_
  clear hK K
  refine lex_do rfl (fun K hK => ?_)
  go_simp
  refine (CWr.goNums (ns := [n0, n1, n2, n3, n4, n5, n6]) (rest := [(sRes, v7), (.flag, v8), (.num, .num n9)]) (k := 7) H0.out rfl ((Upd.refl _ _).alloc _).drew (Nat.le_refl _) (Blk.drew (Blk.new _ _ [_, _, _, _, _, _, _])) rfl).mono ?_
  rintro e w1 ⟨rfl, o1, b1, h⟩
  have H1 := Lib.hid h
  refine hK _ _ (fun _ => trivial) ?_
  clear hK K h
  refine lex_nil ?_
  go_wp2_with fail
  refine (CWr.go res_writes H1.out rfl).mono ?_
  rintro e w2 ⟨rfl, o2, b2, h⟩
  have H2 := Lib.hid h
  clear h
  go_wp2_with fail
  refine (CWr.go flag_writes H2.out rfl).mono ?_
  rintro e w3 ⟨rfl, o3, b3, h⟩
  have H3 := Lib.hid h
  clear h
  go_wp2_with fail
  refine (CWr.go num_writes H3.out rfl).mono ?_
  rintro e w4 ⟨rfl, o4, b4, h⟩
  have H4 := Lib.hid h
  clear h
  go_wp2_with fail
  go_end0
  exact CWr.fin H4.out rfl rfl
end Go.Proofs.Ytpfnbilopagepaa
/- codec's list[Alloc], writing. -/
namespace Go.Proofs.Ytpfnbilopagepaa
open Go.RowKit Go.Lb Go.Rc

set_option maxRecDepth 20000 in
set_option maxHeartbeats 2000000 in
theorem listAlloc_writes : LWrites 121 122 sAlloc := by
  intro B X f p q tp pre cs post v o b w h hX hq hp hr hl
  obtain ⟨a, c, l, rfl, rfl, hall⟩ := hr
  have HA : Hid (Elems w (· < B) sAlloc 11 a l) := Lib.hid hall
  subst hq
  have H := Lib.hid h
  have HL := Lib.hid hl
  have HX := Lib.hid hX
  have HP := Lib.hid hp
  have hl1 : o.length + 6 ≤ 1099511627776 := by simp only [Sch.wmax] at hl; omega
  have c0 := hp.cell (o := pre.length) mid_at
  have hB := h.base
  clear h hX hall hl hp
  go_enter Try.func121, Try.ntmps121
  go_wp2_with fail
  refine (many_w B X f l.length 64 o b _ H.out hl1 (by decide)).mono ?_
  rintro e w1 ⟨r, o1, b1, rfl, h1, h2, h3⟩
  obtain ⟨m2, m3, m4, m5⟩ := fw_mark h1
  have p0 := (h2.blk HP.out (.inr HX.out)).cell (o := pre.length) mid_at
  have H1 := Lib.hid h1
  have H2 := Lib.hid h2
  have H3 : Hid (LWk sAlloc l.length [] o b o1 b1) := Lib.hid (LWk.start h3)
  clear h1 h2 h3
  go_wp2_with fail
  go_loopg [7, 8, 25] l.length (fun g u v t wr => ∃ (i : Nat) (o' : List Nat) (b' : Bool), t = .int .i64 i ∧ l.length - i = g ∧ i ≤ l.length ∧ Fw B X wr f o' b' ∧ Kp B X w wr ∧ LWk sAlloc l.length (l.take i) o b o' b')
  case atStart => exact ⟨0, o1, b1, rfl, rfl, by omega, H1.out, H2.out, H3.out⟩
  case round =>
    obtain ⟨i, o', b', rfl, hg, hi, hF, hK, hW⟩ := hrel
    have HG := Lib.hid hg
    have HF := Lib.hid hF
    have HK := Lib.hid hK
    have HW := Lib.hid hW
    obtain ⟨n2, n3, n4, n5⟩ := fw_mark hF
    have r0 := (hK.blk HP.out (.inr HX.out)).cell (o := pre.length) mid_at
    clear hg hF hK hW m2 m3 m4 m5 p0
    by_cases hlt : i < l.length
    · have t1 : decide (i < l.length) = true := by simpa using hlt
      cases b' with
      | true =>
        have HE := Lib.hid HW.out.early
        go_wp2_with fail
        go_end0
        exact ⟨rfl, o', true, HF.out, HK.out, HE.out⟩
      | false =>
      obtain ⟨x, hx⟩ : ∃ x, l[i]? = some x := ⟨_, List.getElem?_eq_getElem hlt⟩
      obtain ⟨b0, o0, us, rfl, hb0, hbl, hrg, hrep⟩ := HA.out i x hx
      have hrep := hrep.keep (ok' := (· < B)) (fun k hk hl => ⟨hk, HK.out.block k hl (.inl hk)⟩) HK.out.size
      have hrg : wr.rangeAt b0 (o0 + i * 11) us := rangeAt_keep hrg (HK.out.block b0 hbl (.inl hb0))
      have hwl := HW.out.room hx HL.out
      have HWL := Lib.hid hwl
      have h64 : l.length ≤ 64 := (HW.out.bad.1 rfl).2.1
      have Hx := Lib.hid hx
      have hus : us.length = 11 := hrep.len
      have HONE : Hid (∀ u ∈ us, u.oneCell' = true) := Lib.hid hrep.one
      clear hx hwl
      have HREP := Lib.hid hrep
      have HRG := Lib.hid hrg
      clear hrep hrg
      go_wp2_with (first | (refine wpList_load_mid rfl 94 (.tmp 36) rfl b0 (o0 + i * 11) rfl us _ HRG.out Try.underlying94 rfl (by rw [hus]; exact Try.size94) ?_) | (refine wpList_alloc_blk rfl 94 rfl sAlloc.zc (zero94 _) ?_; intro wA hbA huA) | (refine wpList_store_blk (o := ⟨none, .store 94 (.tmp 8) (.tmp 37), _, _, _, _⟩) rfl 94 (.tmp 8) (.tmp 37) rfl wr.heap.size us rfl rfl hbA (by rw [hus]; exact Try.size94) (by rw [hus]; rfl) HONE.out ?_; intro wB hb huB))
      have hu : Upd [] wr wB := huA.trans huB (by simp)
      clear huA hbA huB
      refine (alloc_writes B (wr.heap.size :: X) f wr.heap.size 0 94 [] us [] x o' false wB (HF.out.new hu (Nat.le_refl _) hb.lt) (by simp) rfl (by simpa using hb) (HREP.out.upd hu (by simp)) HWL.out).mono ?_
      rintro e w2 ⟨rfl, o2, b2, h1, h2, h3⟩
      have H1 := Lib.hid h1.less
      have H2 := Lib.hid ((Kp.of_nil hu).trans h2.drop)
      have H3 := Lib.hid (HW.out.snoc h3)
      clear h1 h2 h3
      go_wp2_with fail
      go_roundg (l.length - (i + 1))
      case measure => have := HG.out; omega
      case rel => exact ⟨i + 1, o2, b2, by go_num, rfl, by omega, H1.out, HK.out.trans H2.out, by rw [take_snoc Hx.out]; exact H3.out⟩
    · obtain rfl : i = l.length := by omega
      go_wp2_with fail
      go_end0
      refine ⟨rfl, o', b', HF.out, HK.out, LWk.fin ?_⟩
      have := HW.out
      rwa [List.take_length] at this
end Go.Proofs.Ytpfnbilopagepaa
/- codec's form.plan, writing. -/
namespace Go.Proofs.Ytpfnbilopagepaa
open Go.RowKit Go.Lb Go.Rc

set_option maxRecDepth 20000 in
set_option maxHeartbeats 2000000 in
theorem plan_writes : Writes 95 sPlan := by
  intro B X f p q tp pre cs post v o b w h hX hq hp hr hl
  have k0 : (tup [.num, .num, .num, .list .num, .list sAlloc, .flag]).Rep w (· < B) cs v := hr
  obtain ⟨_, _, v0, y0, _, rfl, ⟨n0, _, rfl⟩, k1⟩ := Sch.Rep.tup_cons k0
  obtain ⟨_, _, v1, y1, _, rfl, ⟨n1, _, rfl⟩, k2⟩ := Sch.Rep.tup_cons k1
  obtain ⟨_, _, v2, y2, _, rfl, ⟨n2, _, rfl⟩, k3⟩ := Sch.Rep.tup_cons k2
  obtain ⟨_, _, v3, y3, _, rfl, _, k4⟩ := Sch.Rep.tup_cons k3
  obtain ⟨_, _, v4, y4, _, rfl, _, k5⟩ := Sch.Rep.tup_cons k4
  obtain ⟨_, _, v5, y5, _, rfl, _, k6⟩ := Sch.Rep.tup_cons k5
  obtain ⟨_, rfl⟩ := Sch.Rep.tup_nil k6
  subst hq
  have H0 := Lib.hid (WrSt.start (rest := ([(.num, .num n0), (.num, .num n1), (.num, .num n2), (.list .num, v3), (.list sAlloc, v4), (.flag, v5)] : List (Sch × Val))) h hX hp hr (by have := tup_wmax ([(.num, .num n0), (.num, .num n1), (.num, .num n2), (.list .num, v3), (.list sAlloc, v4), (.flag, v5)] : List (Sch × Val)); rw [← this]; exact hl))
  clear h hX hp hr hl k0 k1 k2 k3 k4 k5 k6
  go_enter Try.func95, Try.ntmps95
  go_wp2_with fail
  refine wp_region_lex (fun _ => True) 99 [(0, true), (1, true), (2, true), (3, true), (4, true), (5, true), (6, true), (7, true), (8, true), (9, true), (10, false), (11, false)] (by kernel_rfl) (by kernel_rfl) (by kernel_rfl) (by kernel_rfl) (fun _ _ d _ _ h => by cases d <;> exact h) ?_
  simp only [lexOps, List.map_cons, List.map_nil, List.getD_cons_zero, List.getD_cons_succ]
  iterate 10 (refine lex_read rfl trivial (v := ?_) (fun w' _ => ?_) ?_; rotate_left; (focus (go_simp; try with_reducible rfl)); simp only [Act.put, List.setIfInBounds_toArray, List.set_cons_zero, List.set_cons_succ])
  refine lex_do rfl (fun K hK => ?_)
  go_simp
  refine hK _ _ (fun _ => trivial) ?_
  clear hK K
  refine lex_do rfl (fun K hK => ?_)
  go_simp
  refine (CWr.goNums (ns := [n0, n1, n2]) (rest := [(.list .num, v3), (.list sAlloc, v4), (.flag, v5)]) (k := 3) H0.out rfl ((Upd.refl _ _).alloc _).drew (Nat.le_refl _) (Blk.drew (Blk.new _ _ [_, _, _])) rfl).mono ?_
  rintro e w1 ⟨rfl, o1, b1, h⟩
  have H1 := Lib.hid h
  refine hK _ _ (fun _ => trivial) ?_
  clear hK K h
  refine lex_nil ?_
  go_wp2_with fail
  refine (CWr.goList listint_writes H1.out rfl).mono ?_
  rintro e w2 ⟨rfl, o2, b2, h⟩
  have H2 := Lib.hid h
  clear h
  go_wp2_with fail
  refine (CWr.goList listAlloc_writes H2.out rfl).mono ?_
  rintro e w3 ⟨rfl, o3, b3, h⟩
  have H3 := Lib.hid h
  clear h
  go_wp2_with fail
  refine (CWr.go flag_writes H3.out rfl).mono ?_
  rintro e w4 ⟨rfl, o4, b4, h⟩
  have H4 := Lib.hid h
  clear h
  go_wp2_with fail
  go_end0
  exact CWr.fin H4.out rfl rfl
end Go.Proofs.Ytpfnbilopagepaa
/- codec's form.conf, writing. -/
namespace Go.Proofs.Ytpfnbilopagepaa
open Go.RowKit Go.Lb Go.Rc

set_option maxRecDepth 20000 in
set_option maxHeartbeats 2000000 in
theorem conf_writes : Writes 96 sConf := by
  intro B X f p q tp pre cs post v o b w h hX hq hp hr hl
  have k0 : (tup [.list .num, .list .num]).Rep w (· < B) cs v := hr
  obtain ⟨_, _, v0, y0, _, rfl, _, k1⟩ := Sch.Rep.tup_cons k0
  obtain ⟨_, _, v1, y1, _, rfl, _, k2⟩ := Sch.Rep.tup_cons k1
  obtain ⟨_, rfl⟩ := Sch.Rep.tup_nil k2
  subst hq
  have H0 := Lib.hid (WrSt.start (rest := ([(.list .num, v0), (.list .num, v1)] : List (Sch × Val))) h hX hp hr (by have := tup_wmax ([(.list .num, v0), (.list .num, v1)] : List (Sch × Val)); rw [← this]; exact hl))
  clear h hX hp hr hl k0 k1 k2
  go_enter Try.func96, Try.ntmps96
  go_wp2_with fail
  refine (CWr.goList listint_writes H0.out rfl).mono ?_
  rintro e w1 ⟨rfl, o1, b1, h⟩
  have H1 := Lib.hid h
  clear h
  go_wp2_with fail
  refine (CWr.goList listint_writes H1.out rfl).mono ?_
  rintro e w2 ⟨rfl, o2, b2, h⟩
  have H2 := Lib.hid h
  clear h
  go_wp2_with fail
  go_end0
  exact CWr.fin H2.out rfl rfl
end Go.Proofs.Ytpfnbilopagepaa
/- codec's form.cmd, writing. -/
namespace Go.Proofs.Ytpfnbilopagepaa
open Go.RowKit Go.Lb Go.Rc

set_option maxRecDepth 20000 in
set_option maxHeartbeats 2000000 in
theorem cmd_writes : Writes 63 sCmd := by
  intro B X f p q tp pre cs post v o b w h hX hq hp hr hl
  have k0 : (tup [.num, .num, .num, sJob, sNode, .list sReport, sPlan, sConf]).Rep w (· < B) cs v := hr
  obtain ⟨_, _, v0, y0, _, rfl, ⟨n0, _, rfl⟩, k1⟩ := Sch.Rep.tup_cons k0
  obtain ⟨_, _, v1, y1, _, rfl, ⟨n1, _, rfl⟩, k2⟩ := Sch.Rep.tup_cons k1
  obtain ⟨_, _, v2, y2, _, rfl, ⟨n2, _, rfl⟩, k3⟩ := Sch.Rep.tup_cons k2
  obtain ⟨_, _, v3, y3, _, rfl, _, k4⟩ := Sch.Rep.tup_cons k3
  obtain ⟨_, _, v4, y4, _, rfl, _, k5⟩ := Sch.Rep.tup_cons k4
  obtain ⟨_, _, v5, y5, _, rfl, _, k6⟩ := Sch.Rep.tup_cons k5
  obtain ⟨_, _, v6, y6, _, rfl, _, k7⟩ := Sch.Rep.tup_cons k6
  obtain ⟨_, _, v7, y7, _, rfl, _, k8⟩ := Sch.Rep.tup_cons k7
  obtain ⟨_, rfl⟩ := Sch.Rep.tup_nil k8
  subst hq
  have H0 := Lib.hid (WrSt.start (rest := ([(.num, .num n0), (.num, .num n1), (.num, .num n2), (sJob, v3), (sNode, v4), (.list sReport, v5), (sPlan, v6), (sConf, v7)] : List (Sch × Val))) h hX hp hr (by have := tup_wmax ([(.num, .num n0), (.num, .num n1), (.num, .num n2), (sJob, v3), (sNode, v4), (.list sReport, v5), (sPlan, v6), (sConf, v7)] : List (Sch × Val)); rw [← this]; exact hl))
  clear h hX hp hr hl k0 k1 k2 k3 k4 k5 k6 k7 k8
  go_enter Try.func63, Try.ntmps63
  go_wp2_with fail
  refine wp_region_lex (fun _ => True) 99 [(0, true), (1, true), (2, true), (3, true), (4, true), (5, true), (6, true), (7, true), (8, true), (9, true), (10, false), (11, false)] (by kernel_rfl) (by kernel_rfl) (by kernel_rfl) (by kernel_rfl) (fun _ _ d _ _ h => by cases d <;> exact h) ?_
  simp only [lexOps, List.map_cons, List.map_nil, List.getD_cons_zero, List.getD_cons_succ]
  iterate 10 (refine lex_read rfl trivial (v := ?_) (fun w' _ => ?_) ?_; rotate_left; (focus (go_simp; try with_reducible rfl)); simp only [Act.put, List.setIfInBounds_toArray, List.set_cons_zero, List.set_cons_succ])
  refine lex_do rfl (fun K hK => ?_)
  go_simp
  refine hK _ _ (fun _ => trivial) ?_
  clear hK K
  refine lex_do rfl (fun K hK => ?_)
  go_simp
  refine (CWr.goNums (ns := [n0, n1, n2]) (rest := [(sJob, v3), (sNode, v4), (.list sReport, v5), (sPlan, v6), (sConf, v7)]) (k := 3) H0.out rfl ((Upd.refl _ _).alloc _).drew (Nat.le_refl _) (Blk.drew (Blk.new _ _ [_, _, _])) rfl).mono ?_
  rintro e w1 ⟨rfl, o1, b1, h⟩
  have H1 := Lib.hid h
  refine hK _ _ (fun _ => trivial) ?_
  clear hK K h
  refine lex_nil ?_
  go_wp2_with fail
  refine (CWr.go job_writes H1.out rfl).mono ?_
  rintro e w2 ⟨rfl, o2, b2, h⟩
  have H2 := Lib.hid h
  clear h
  go_wp2_with fail
  refine (CWr.go node_writes H2.out rfl).mono ?_
  rintro e w3 ⟨rfl, o3, b3, h⟩
  have H3 := Lib.hid h
  clear h
  go_wp2_with fail
  refine (CWr.goList listReport_writes H3.out rfl).mono ?_
  rintro e w4 ⟨rfl, o4, b4, h⟩
  have H4 := Lib.hid h
  clear h
  go_wp2_with fail
  refine (CWr.go plan_writes H4.out rfl).mono ?_
  rintro e w5 ⟨rfl, o5, b5, h⟩
  have H5 := Lib.hid h
  clear h
  go_wp2_with fail
  refine (CWr.go conf_writes H5.out rfl).mono ?_
  rintro e w6 ⟨rfl, o6, b6, h⟩
  have H6 := Lib.hid h
  clear h
  go_wp2_with fail
  go_end0
  exact CWr.fin H6.out rfl rfl
end Go.Proofs.Ytpfnbilopagepaa
/- codec's put[Cmd] and PutCmd. -/
namespace Go.Proofs.Ytpfnbilopagepaa
open Go.RowKit Go.Lb Go.Rc

set_option maxRecDepth 20000 in
set_option maxHeartbeats 2000000 in
theorem putCmd_any (cs : List Value) (v : Val) (w : World) (hr : Sch.Rep w (· < w.heap.size) sCmd cs v) (hl : sCmd.wmax v ≤ 1099511627776) :
    Calls Try.prog 62 #[.agg cs.toArray, .func (.func 63) #[] #[]] w (PutIs sCmd v w) := by
  have hlen : cs.length = 27 := hr.len
  have HR := Lib.hid hr
  have HL := Lib.hid hl
  clear hr hl
  go_enter Try.func62, Try.ntmps62
  go_wp2_with fail
  have uW : Upd [] w ((w.alloc (.cells cs.toArray 52)).alloc (.cells #[.slice none 0 0, .bool false, .bool false] 157)) := ((Upd.refl _ _).alloc _).alloc _
  refine (cmd_writes w.heap.size [w.heap.size] (w.heap.size + 1) w.heap.size 0 52 [] cs [] v [] false _ (fresh_out (mk := cW) rfl) (by simp) rfl (by simpa using (Blk.new w 52 cs).alloc _) (HR.out.upd uW (by simp)) (by simpa using HL.out)).mono ?_
  rintro e w1 ⟨rfl, o, b, h1, h2, h3⟩
  obtain ⟨m2, m3, m4, m5⟩ := fw_mark h1
  cases b with
  | true =>
    have HF := Lib.hid (putIs_bad h2 uW h3)
    clear h1 h2 h3 uW
    go_wp2_with fail
    go_ret2
    exact HF.out
  | false =>
    obtain ⟨a, c, e0, hF⟩ := putIs_good h1 h2 uW h3
    have e1 : w1.cell? ⟨w.heap.size + 1, 0, none⟩ = some (.slice a (sCmd.put v).length c) := e0
    have HF := Lib.hid hF
    clear h1 h2 h3 uW e0 hF
    go_wp2_with fail
    go_ret2
    exact HF.out

set_option maxRecDepth 20000 in
set_option maxHeartbeats 2000000 in
theorem putCmd_puts : Puts 25 sCmd := by
  intro cs v w hr hl
  have hlen : cs.length = 27 := hr.len
  have uW : Upd [] w (w.alloc (.cells cs.toArray 52)) := (Upd.refl _ _).alloc _
  have HR := Lib.hid hr
  have HL := Lib.hid hl
  have hb := Blk.new w 52 cs
  have HB := Lib.hid hb
  clear hr hl hb
  go_enter Try.func25, Try.ntmps25
  go_wp2_with (refine wpList_load_blk rfl 52 (.tmp 1) rfl w.heap.size rfl HB.out Try.underlying52 rfl (by rw [hlen]; exact Try.size52) ?_)
  refine (putCmd_any cs v _ ((HR.out.upd uW (by simp)).mono (fun b hb hl => hl)) HL.out).mono ?_
  rintro e w1 ⟨u1, ⟨hg, a, c, rfl, hown⟩ | ⟨hg, rfl⟩⟩
  · have HF : Hid (PutIs sCmd v w (.returned (.tuple #[.slice a (sCmd.put v).length c, .int .i64 0])) w1) := Lib.hid ⟨uW.trans u1 (by simp), .inl ⟨hg, a, c, rfl, own_rebase hown (fun k hk => by have := own_lo hown hk; have := uW.size; omega)⟩⟩
    clear u1 hg hown uW
    go_wp2_with fail
    go_ret2
    exact HF.out
  · have HF : Hid (PutIs sCmd v w (.returned (.tuple #[.slice none 0 0, .int .i64 1])) w1) := Lib.hid ⟨uW.trans u1 (by simp), .inr ⟨hg, rfl⟩⟩
    clear u1 hg uW
    go_wp2_with fail
    go_ret2
    exact HF.out
end Go.Proofs.Ytpfnbilopagepaa
/- codec's form.res, reading. -/
namespace Go.Proofs.Ytpfnbilopagepaa
open Go.RowKit Go.Lb Go.Rc

set_option maxRecDepth 20000 in
set_option maxHeartbeats 2000000 in
theorem res_reads : Reads 134 sRes := by
  intro B f p q tp pre post l b w h hB hpf hq hp
  subst hq
  have H0 := Lib.hid (RdSt.start (rest := [.num, .num]) h hB hpf hp (fr_mark h).2.2.2.1)
  clear h hp
  go_enter Try.func134, Try.ntmps134
  refine wp_region_lex (fun _ => True) 99 [(0, true), (1, true), (2, true), (3, true), (4, true), (5, true), (6, true), (7, false), (8, false)] (by kernel_rfl) (by kernel_rfl) (by kernel_rfl) (by kernel_rfl) (fun _ _ d _ _ h => by cases d <;> exact h) ?_
  simp only [lexOps, List.map_cons, List.map_nil, List.getD_cons_zero, List.getD_cons_succ]
  iterate 7 (refine lex_read rfl trivial (v := ?_) (fun w' _ => ?_) ?_; rotate_left; (focus (go_simp; try with_reducible rfl)); simp only [Act.put, List.setIfInBounds_toArray, List.set_cons_zero, List.set_cons_succ])
  refine lex_do rfl (fun K hK => ?_)
  go_simp
  refine hK _ _ (fun _ => trivial) ?_
  clear hK K
  refine lex_do rfl (fun K hK => ?_)
  go_simp
  refine (CRd.goNums (rest := []) (k := 2) H0.out ((Upd.refl _ _).alloc _).drew (Nat.le_refl _) (Blk.drew (Blk.new _ _ [_, _])) (by simp only [fsize_append, fsize_nums, fsize, List.nil_append] <;> rfl) (by decide)).mono ?_
  rintro e w1 ⟨rfl, ns1, l1, b1, hn, h⟩
  have H1 := Lib.hid h
  have HN1 := Lib.hid hn
  clear hn
  refine hK _ _ (fun _ => trivial) ?_
  clear hK K h
  refine lex_nil ?_
  go_wp2_with fail
  go_end0
  exact CRd.fin H1.out (by simp only [List.map_append, nums_fst, HN1.out, List.append_assoc, List.map_cons, List.map_nil, List.nil_append]; rfl)
end Go.Proofs.Ytpfnbilopagepaa
/- codec's form.group, reading. -/
namespace Go.Proofs.Ytpfnbilopagepaa
open Go.RowKit Go.Lb Go.Rc

set_option maxRecDepth 20000 in
set_option maxHeartbeats 2000000 in
theorem group_reads : Reads 133 sGroup := by
  intro B f p q tp pre post l b w h hB hpf hq hp
  subst hq
  have H0 := Lib.hid (RdSt.start (rest := [.num, sRes]) h hB hpf hp (fr_mark h).2.2.2.1)
  clear h hp
  go_enter Try.func133, Try.ntmps133
  go_wp2_with fail
  refine (CRd.go num_reads H0.out (by simp only [fsize_append, fsize_nums, fsize, List.nil_append] <;> rfl)).mono ?_
  rintro e w1 ⟨rfl, v1, l1, b1, h⟩
  have H1 := Lib.hid h
  clear h
  go_wp2_with fail
  refine (CRd.go res_reads H1.out (by simp only [fsize_append, fsize_nums, fsize, List.nil_append] <;> rfl)).mono ?_
  rintro e w2 ⟨rfl, v2, l2, b2, h⟩
  have H2 := Lib.hid h
  clear h
  go_wp2_with fail
  go_end0
  exact CRd.fin H2.out (by simp only [List.map_append, nums_fst, List.append_assoc, List.map_cons, List.map_nil, List.nil_append]; rfl)
end Go.Proofs.Ytpfnbilopagepaa
/- codec's list[Group], reading. -/
namespace Go.Proofs.Ytpfnbilopagepaa
open Go.RowKit Go.Lb Go.Rc

set_option maxRecDepth 20000 in
set_option maxHeartbeats 2000000 in
theorem listGroup_reads : LReads 132 133 sGroup := by
  intro B f p q tp pre post l b w h hB hpf hq hp
  obtain ⟨iT, hiT, hz0, hz1, hz2⟩ := info227
  subst hq
  have c0 := hp.cell (o := pre.length) mid_at
  obtain ⟨_, _, _, hf, hBf⟩ := fr_mark h
  have hplt := hp.lt
  have H := Lib.hid h
  have HP := Lib.hid hp
  clear h hp
  go_enter Try.func132, Try.ntmps132
  go_wp2_with fail
  refine (many_r B f 64 _ l b _ H.out).mono ?_
  rintro e w1 ⟨k, l1, b1, rfl, hk, h1, h2, h3⟩
  obtain ⟨m2, m3, m4, m5, _⟩ := fr_mark h1
  have HB1 := Lib.hid (h2.blk HP.out (by simpa using hpf))
  have HS : Hid (LRdSt sGroup 157 cR [f, p] B f 227 3 w w1 k l b 0 l1 b1 (.slice none 0 0) [] []) := Lib.hid (LRdSt.start h1 (h2.mono (by simp)) (by simp; omega) h3)
  clear h1 h2 h3 H
  go_wp2_with fail
  go_loopg [9, 42] k (fun g u t wr => ∃ (i : Nat) (l' : List Nat) (b' : Bool) (v : Value) (xss : List (List Value)) (xs : List Val), t = .int .i64 i ∧ k - i = g ∧ i ≤ k ∧ Blk wr p tp (pre ++ [v] ++ post) ∧ LRdSt sGroup 157 cR [f, p] B f 227 3 w wr k l b i l' b' v xss xs)
  case atStart => exact ⟨0, l1, b1, _, [], [], rfl, rfl, by omega, HB1.out, HS.out⟩
  case round =>
    obtain ⟨i, l', b', v, xss, xs, rfl, hg, hi, hbk, hS⟩ := hrel
    have HG := Lib.hid hg
    have HBK := Lib.hid hbk
    have HST := Lib.hid hS
    obtain ⟨n2, n3, n4, n5, _⟩ := fr_mark hS.fr
    have hsz := hS.upd.size
    clear hg hbk hS m2 m3 m4 m5
    by_cases hlt : i < k
    · have t1 : decide (i < k) = true := by simpa using hlt
      cases b' with
      | true =>
        have HE := Lib.hid (HST.out.rd (.inl rfl))
        go_wp2_with fail
        go_end0
        exact ⟨rfl, .list xs, [v], l', true, HST.out.fr, HST.out.upd, HBK.out, HST.out.isRep, HE.out⟩
      | false =>
      go_wp2_with (refine wpList_alloc_blk rfl 227 rfl sGroup.zc (zero227 _) ?_; intro wB hb hu)
      have hN := HST.out.upd' hu
      refine (group_reads B f wr.heap.size 0 227 [] [] l' false wB hN.fr (by omega) (by omega) rfl (by simpa [Sch.zc] using hb)).mono ?_
      rintro e w2 ⟨rfl, x, us, l2, b2, h1, h2, h3, h4, h5⟩
      have hus : us.length = 3 := h4.len
      have hb2 : Blk w2 wr.heap.size 227 us := by simpa using h3
      have hU : Upd [f, p] wr w2 := (hu.mono (by simp)).trans h2 (by
        intro y hy
        simp only [List.mem_cons, List.not_mem_nil, or_false] at hy
        rcases hy with rfl | rfl
        · simp
        · exact .inr (Nat.le_refl _))
      have h4' : Sch.Rep w2 (fun b => wr.heap.size ≤ b) sGroup us x := h4.mono (fun b hb _ => Nat.le_trans hu.size hb)
      have hbp : Blk w2 p tp (pre ++ [v] ++ post) := by
        refine h2.blk (hu.blk HBK.out (by simp)) ?_
        simp; omega
      have hrow2 := (hN.row)
      have hrw : w2.ownsRow w.heap.size 227 3 v i xss.flatten := h2.row (hu.row HST.out.row (by simp)) (by
        intro y hy
        have := own_lo HST.out.row hy
        simp; omega)
      have hsz2 := hU.size
      have hl2 := hb2.lt
      obtain ⟨a, c, rfl⟩ := own_shape' hrw
      have HO := Lib.hid h4.one
      have HR : Hid (∀ w', Upd (Value.slice a i c).ownBlock.toList w2 w' → w'.cell? ⟨p, pre.length, none⟩ = some (.slice a i c) ∧ Blk w' wr.heap.size 227 us) := Lib.hid (by
        intro w' u
        refine ⟨(u.blk hbp ?_).cell mid_at, u.blk hb2 ?_⟩
        · intro hm
          have := own_lo HST.out.row (g := p) (by simpa using hm)
          omega
        · intro hm
          have := own_lo HST.out.row (g := wr.heap.size) (by simpa using hm)
          omega)
      have HST2 := HST
      have HU := Lib.hid hU
      have H4 := Lib.hid h4'
      have H5 := Lib.hid h5
      have H1 := Lib.hid h1
      have HRW := Lib.hid hrw
      have HBP := Lib.hid hbp
      have HUS := Lib.hid hus
      clear h1 h2 h3 h4 h5 hN hb hu hbp hrow2 hrw hU h4' hus
      go_wp2_with fail
      refine wp_region_lex (fun w' => Upd (Value.slice a i c).ownBlock.toList w2 w') 8 [(0, true), (1, true), (2, true), (3, true), (4, true), (5, false), (6, false), (7, false), (8, false)] (by kernel_rfl) (by kernel_rfl) (by kernel_rfl) (by kernel_rfl) (fun _ _ d _ _ h => by cases d <;> exact h) ?_
      simp only [lexOps, List.map_cons, List.map_nil, List.getD_cons_zero, List.getD_cons_succ]
      have hS0 : Upd (Value.slice a i c).ownBlock.toList w2 w2.drew := (Upd.refl _ _).drew
      iterate 4 (refine lex_read rfl (by exact hS0) (v := ?_) (fun w' hw => ?_) ?_; rotate_left; (focus (obtain ⟨k1, k2⟩ := HR.out w' hw; clear k2; go_simp; try with_reducible rfl)); simp only [Act.put, List.setIfInBounds_toArray, List.set_cons_zero, List.set_cons_succ])
      refine lex_read rfl (by exact hS0) (fun w' hw => exec_load (by rfl) (by rfl) (run_loadAt_mid w' wr.heap.size 0 227 us _ (HR.out w' hw).2.range Try.underlying227 rfl (by rw [HUS.out]; exact Try.size227))) ?_
      try simp only [Act.put, List.setIfInBounds_toArray, List.set_cons_zero, List.set_cons_succ]
      refine lex_run rfl (exec_buildSlice (by rfl) (by simp [Act.eval]) (run_buildSlice1 _ 37 227 iT _ us 3 Try.underlying37 hiT hz0 hz1 HUS.out (by decide) (by decide))) (fun _ => hS0.alloc _) ?_
      try simp only [Act.put, List.setIfInBounds_toArray, List.set_cons_zero, List.set_cons_succ]
      have h64 : k ≤ 64 := hk
      have hB2 : Blk (w2.drew.alloc (.cells us.toArray 227)) w2.heap.size 227 us := Blk.new w2.drew _ _
      refine lex_do rfl (fun K hK => ?_)
      refine wp_append_mine (.tmp 53) (.tmp 55) 37 rfl w.heap.size 227 iT _ 3 _ Try.underlying37 hiT hz0 hz1 hz2 rfl (by decide) (.slice a i c) i xss.flatten rfl (World.ownsRow.alloc HRW.out _) ⟨w2.heap.size, 0, none⟩ 1 1 us rfl (by rw [HUS.out]) hB2.news (HO.out) (by unfold maxLen; omega) (by omega) (by have := HST.out.upd.size; simp; omega) ?_
      intro v' w3 hown hg hv
      have uA : Upd [f, p] wr (w2.drew.alloc (.cells us.toArray 227)) := (HU.out.drew).alloc _
      have hF : Fr B w3 f l2 b2 := by
        obtain ⟨a', c', hI⟩ := H1.out
        have hI2 : In 157 cR B (w2.drew.alloc (.cells us.toArray 227)) f l2 b2 a' c' := hI.upd (F := []) ((Upd.refl [] w2).drew.alloc _) (by simp)
        refine ⟨a', c', hI2.upd (F := (Value.slice a i c).ownBlock.toList) ((Upd.refl _ _).grown hg (fun k hk => .inl (by simp [hk]))) (fun k hk => ?_)⟩
        have := own_lo HST.out.row (g := k) (by simpa using hk)
        omega
      have hbp3 : Blk w3 p tp (pre ++ [.slice a i c] ++ post) := by
        have hb4 : Blk (w2.drew.alloc (.cells us.toArray 227)) p tp (pre ++ [.slice a i c] ++ post) := (HBP.out.drew).alloc _
        refine (hg.block p hb4.lt (fun e => ?_)).trans hb4
        have := own_lo HST.out.row (g := p) e.symm
        omega
      have q1 := hbp3.cell (o := pre.length) mid_at
      have q2 := hbp3.frozen pre.length
      have q3 := hbp3.lt
      have uS : Upd [p] w3 (w3.setCell ⟨p, pre.length, none⟩ v') := (Upd.refl _ _).setCell (by simp) _
      have HX : Hid (Blk (w3.setCell ⟨p, pre.length, none⟩ v') p tp (pre ++ [v'] ++ post) ∧ LRdSt sGroup 157 cR [f, p] B f 227 3 w (w3.setCell ⟨p, pre.length, none⟩ v') k l b (i + 1) l2 b2 v' (xss ++ [us]) (xs ++ [x])) := by
        refine Lib.hid ⟨?_, LRdSt.next HST.out hlt uA (H4.out.upd ((Upd.refl [] w2).drew.alloc _) (by simp)) HUS.out H5.out hg hown ?_ (uS.mono (by simp)) (hF.upd uS (by simp; omega))⟩
        · have := hbp3.set pre.length v'
          rwa [mid_set] at this
        · rcases hv with h | h
          · exact .inl h
          · exact .inr h
      have hS3 : Upd (Value.slice a i c).ownBlock.toList w2 w3 := (hS0.alloc _).grown hg (fun k hk => .inl (by simp [hk]))
      refine hK _ _ (fun _ => hS3) ?_
      obtain ⟨a', c', rfl⟩ := own_shape' hown
      clear hK K hown hg hv uA hF hbp3 uS hB2 hS0
      try simp only [Act.put, List.setIfInBounds_toArray, List.set_cons_zero, List.set_cons_succ]
      refine lex_do rfl (fun K hK => ?_)
      go_simp
      refine hK _ _ (fun _ => hS3) ?_
      clear hK K hS3
      try simp only [Act.put, List.setIfInBounds_toArray, List.set_cons_zero, List.set_cons_succ]
      refine lex_do rfl (fun K hK => ?_)
      go_simp
      refine hK _ _ (fun h => absurd rfl h) ?_
      clear hK K
      try simp only [Act.put, List.setIfInBounds_toArray, List.set_cons_zero, List.set_cons_succ]
      refine lex_nil ?_
      go_wp2_with fail
      go_roundg (k - (i + 1))
      case measure => have := HG.out; omega
      case rel => exact ⟨i + 1, l2, b2, _, _, _, by go_num, rfl, by omega, HX.out.1, HX.out.2⟩
    · obtain rfl : i = k := by omega
      have HE := Lib.hid (HST.out.rd (.inr rfl))
      go_wp2_with fail
      go_end0
      exact ⟨rfl, .list xs, [v], l', b', HST.out.fr, HST.out.upd, HBK.out, HST.out.isRep, HE.out⟩
end Go.Proofs.Ytpfnbilopagepaa
/- codec's form.job, reading. -/
namespace Go.Proofs.Ytpfnbilopagepaa
open Go.RowKit Go.Lb Go.Rc

set_option maxRecDepth 20000 in
set_option maxHeartbeats 2000000 in
theorem job_reads : Reads 91 sJob := by
  intro B f p q tp pre post l b w h hB hpf hq hp
  subst hq
  have H0 := Lib.hid (RdSt.start (rest := [.num, .num, .num, .num, .list sGroup, .num, .flag]) h hB hpf hp (fr_mark h).2.2.2.1)
  clear h hp
  go_enter Try.func91, Try.ntmps91
  go_wp2_with fail
  refine wp_region_lex (fun _ => True) 99 [(0, true), (1, true), (2, true), (3, true), (4, true), (5, true), (6, true), (7, true), (8, true), (9, true), (10, true), (11, true), (12, true), (13, false), (14, false)] (by kernel_rfl) (by kernel_rfl) (by kernel_rfl) (by kernel_rfl) (fun _ _ d _ _ h => by cases d <;> exact h) ?_
  simp only [lexOps, List.map_cons, List.map_nil, List.getD_cons_zero, List.getD_cons_succ]
  iterate 13 (refine lex_read rfl trivial (v := ?_) (fun w' _ => ?_) ?_; rotate_left; (focus (go_simp; try with_reducible rfl)); simp only [Act.put, List.setIfInBounds_toArray, List.set_cons_zero, List.set_cons_succ])
  refine lex_do rfl (fun K hK => ?_)
  go_simp
  refine hK _ _ (fun _ => trivial) ?_
  clear hK K
  refine lex_do rfl (fun K hK => ?_)
  go_simp
  refine (CRd.goNums (rest := [.list sGroup, .num, .flag]) (k := 4) H0.out ((Upd.refl _ _).alloc _).drew (Nat.le_refl _) (Blk.drew (Blk.new _ _ [_, _, _, _])) (by simp only [fsize_append, fsize_nums, fsize, List.nil_append] <;> rfl) (by decide)).mono ?_
  rintro e w1 ⟨rfl, ns1, l1, b1, hn, h⟩
  have H1 := Lib.hid h
  have HN1 := Lib.hid hn
  clear hn
  refine hK _ _ (fun _ => trivial) ?_
  clear hK K h
  refine lex_nil ?_
  go_wp2_with fail
  refine (CRd.goList listGroup_reads H1.out (by simp only [fsize_append, fsize_nums, fsize, HN1.out, List.nil_append] <;> rfl)).mono ?_
  rintro e w2 ⟨rfl, v2, l2, b2, h⟩
  have H2 := Lib.hid h
  clear h
  go_wp2_with fail
  refine (CRd.go num_reads H2.out (by simp only [fsize_append, fsize_nums, fsize, HN1.out, List.nil_append] <;> rfl)).mono ?_
  rintro e w3 ⟨rfl, v3, l3, b3, h⟩
  have H3 := Lib.hid h
  clear h
  go_wp2_with fail
  refine (CRd.go flag_reads H3.out (by simp only [fsize_append, fsize_nums, fsize, HN1.out, List.nil_append] <;> rfl)).mono ?_
  rintro e w4 ⟨rfl, v4, l4, b4, h⟩
  have H4 := Lib.hid h
  clear h
  go_wp2_with fail
  go_end0
  exact CRd.fin H4.out (by simp only [List.map_append, nums_fst, HN1.out, List.append_assoc, List.map_cons, List.map_nil, List.nil_append]; rfl)
end Go.Proofs.Ytpfnbilopagepaa
/- codec's form.node, reading. -/
namespace Go.Proofs.Ytpfnbilopagepaa
open Go.RowKit Go.Lb Go.Rc

set_option maxRecDepth 20000 in
set_option maxHeartbeats 2000000 in
theorem node_reads : Reads 92 sNode := by
  intro B f p q tp pre post l b w h hB hpf hq hp
  subst hq
  have H0 := Lib.hid (RdSt.start (rest := [.num, sRes, .flag, .flag, .num, .num, .num]) h hB hpf hp (fr_mark h).2.2.2.1)
  clear h hp
  go_enter Try.func92, Try.ntmps92
  go_wp2_with fail
  refine (CRd.go num_reads H0.out (by simp only [fsize_append, fsize_nums, fsize, List.nil_append] <;> rfl)).mono ?_
  rintro e w1 ⟨rfl, v1, l1, b1, h⟩
  have H1 := Lib.hid h
  clear h
  go_wp2_with fail
  refine (CRd.go res_reads H1.out (by simp only [fsize_append, fsize_nums, fsize, List.nil_append] <;> rfl)).mono ?_
  rintro e w2 ⟨rfl, v2, l2, b2, h⟩
  have H2 := Lib.hid h
  clear h
  go_wp2_with fail
  refine (CRd.go flag_reads H2.out (by simp only [fsize_append, fsize_nums, fsize, List.nil_append] <;> rfl)).mono ?_
  rintro e w3 ⟨rfl, v3, l3, b3, h⟩
  have H3 := Lib.hid h
  clear h
  go_wp2_with fail
  refine (CRd.go flag_reads H3.out (by simp only [fsize_append, fsize_nums, fsize, List.nil_append] <;> rfl)).mono ?_
  rintro e w4 ⟨rfl, v4, l4, b4, h⟩
  have H4 := Lib.hid h
  clear h
  go_wp2_with fail
  refine wp_region_lex (fun _ => True) 99 [(0, true), (1, true), (2, true), (3, true), (4, true), (5, true), (6, true), (7, true), (8, true), (9, true), (10, false), (11, false)] (by kernel_rfl) (by kernel_rfl) (by kernel_rfl) (by kernel_rfl) (fun _ _ d _ _ h => by cases d <;> exact h) ?_
  simp only [lexOps, List.map_cons, List.map_nil, List.getD_cons_zero, List.getD_cons_succ]
  iterate 10 (refine lex_read rfl trivial (v := ?_) (fun w' _ => ?_) ?_; rotate_left; (focus (go_simp; try with_reducible rfl)); simp only [Act.put, List.setIfInBounds_toArray, List.set_cons_zero, List.set_cons_succ])
  refine lex_do rfl (fun K hK => ?_)
  go_simp
  refine hK _ _ (fun _ => trivial) ?_
  clear hK K
  refine lex_do rfl (fun K hK => ?_)
  go_simp
  refine (CRd.goNums (rest := []) (k := 3) H4.out ((Upd.refl _ _).alloc _).drew (Nat.le_refl _) (Blk.drew (Blk.new _ _ [_, _, _])) (by simp only [fsize_append, fsize_nums, fsize, List.nil_append] <;> rfl) (by decide)).mono ?_
  rintro e w5 ⟨rfl, ns5, l5, b5, hn, h⟩
  have H5 := Lib.hid h
  have HN5 := Lib.hid hn
  clear hn
  refine hK _ _ (fun _ => trivial) ?_
  clear hK K h
  refine lex_nil ?_
  go_wp2_with fail
  go_end0
  exact CRd.fin H5.out (by simp only [List.map_append, nums_fst, HN5.out, List.append_assoc, List.map_cons, List.map_nil, List.nil_append]; rfl)
end Go.Proofs.Ytpfnbilopagepaa
/- codec's form.report, reading. -/
namespace Go.Proofs.Ytpfnbilopagepaa
open Go.RowKit Go.Lb Go.Rc

set_option maxRecDepth 20000 in
set_option maxHeartbeats 2000000 in
theorem report_reads : Reads 94 sReport := by
  intro B f p q tp pre post l b w h hB hpf hq hp
  subst hq
  have H0 := Lib.hid (RdSt.start (rest := [.num, .num]) h hB hpf hp (fr_mark h).2.2.2.1)
  clear h hp
  go_enter Try.func94, Try.ntmps94
  refine wp_region_lex (fun _ => True) 99 [(0, true), (1, true), (2, true), (3, true), (4, true), (5, true), (6, true), (7, false), (8, false)] (by kernel_rfl) (by kernel_rfl) (by kernel_rfl) (by kernel_rfl) (fun _ _ d _ _ h => by cases d <;> exact h) ?_
  simp only [lexOps, List.map_cons, List.map_nil, List.getD_cons_zero, List.getD_cons_succ]
  iterate 7 (refine lex_read rfl trivial (v := ?_) (fun w' _ => ?_) ?_; rotate_left; (focus (go_simp; try with_reducible rfl)); simp only [Act.put, List.setIfInBounds_toArray, List.set_cons_zero, List.set_cons_succ])
  refine lex_do rfl (fun K hK => ?_)
  go_simp
  refine hK _ _ (fun _ => trivial) ?_
  clear hK K
  refine lex_do rfl (fun K hK => ?_)
  go_simp
  refine (CRd.goNums (rest := []) (k := 2) H0.out ((Upd.refl _ _).alloc _).drew (Nat.le_refl _) (Blk.drew (Blk.new _ _ [_, _])) (by simp only [fsize_append, fsize_nums, fsize, List.nil_append] <;> rfl) (by decide)).mono ?_
  rintro e w1 ⟨rfl, ns1, l1, b1, hn, h⟩
  have H1 := Lib.hid h
  have HN1 := Lib.hid hn
  clear hn
  refine hK _ _ (fun _ => trivial) ?_
  clear hK K h
  refine lex_nil ?_
  go_wp2_with fail
  go_end0
  exact CRd.fin H1.out (by simp only [List.map_append, nums_fst, HN1.out, List.append_assoc, List.map_cons, List.map_nil, List.nil_append]; rfl)
end Go.Proofs.Ytpfnbilopagepaa
/- codec's list[Report], reading. -/
namespace Go.Proofs.Ytpfnbilopagepaa
open Go.RowKit Go.Lb Go.Rc

set_option maxRecDepth 20000 in
set_option maxHeartbeats 2000000 in
theorem listReport_reads : LReads 93 94 sReport := by
  intro B f p q tp pre post l b w h hB hpf hq hp
  obtain ⟨iT, hiT, hz0, hz1, hz2⟩ := info167
  subst hq
  have c0 := hp.cell (o := pre.length) mid_at
  obtain ⟨_, _, _, hf, hBf⟩ := fr_mark h
  have hplt := hp.lt
  have H := Lib.hid h
  have HP := Lib.hid hp
  clear h hp
  go_enter Try.func93, Try.ntmps93
  go_wp2_with fail
  refine (many_r B f 64 _ l b _ H.out).mono ?_
  rintro e w1 ⟨k, l1, b1, rfl, hk, h1, h2, h3⟩
  obtain ⟨m2, m3, m4, m5, _⟩ := fr_mark h1
  have HB1 := Lib.hid (h2.blk HP.out (by simpa using hpf))
  have HS : Hid (LRdSt sReport 157 cR [f, p] B f 167 2 w w1 k l b 0 l1 b1 (.slice none 0 0) [] []) := Lib.hid (LRdSt.start h1 (h2.mono (by simp)) (by simp; omega) h3)
  clear h1 h2 h3 H
  go_wp2_with fail
  go_loopg [9, 42] k (fun g u t wr => ∃ (i : Nat) (l' : List Nat) (b' : Bool) (v : Value) (xss : List (List Value)) (xs : List Val), t = .int .i64 i ∧ k - i = g ∧ i ≤ k ∧ Blk wr p tp (pre ++ [v] ++ post) ∧ LRdSt sReport 157 cR [f, p] B f 167 2 w wr k l b i l' b' v xss xs)
  case atStart => exact ⟨0, l1, b1, _, [], [], rfl, rfl, by omega, HB1.out, HS.out⟩
  case round =>
    obtain ⟨i, l', b', v, xss, xs, rfl, hg, hi, hbk, hS⟩ := hrel
    have HG := Lib.hid hg
    have HBK := Lib.hid hbk
    have HST := Lib.hid hS
    obtain ⟨n2, n3, n4, n5, _⟩ := fr_mark hS.fr
    have hsz := hS.upd.size
    clear hg hbk hS m2 m3 m4 m5
    by_cases hlt : i < k
    · have t1 : decide (i < k) = true := by simpa using hlt
      cases b' with
      | true =>
        have HE := Lib.hid (HST.out.rd (.inl rfl))
        go_wp2_with fail
        go_end0
        exact ⟨rfl, .list xs, [v], l', true, HST.out.fr, HST.out.upd, HBK.out, HST.out.isRep, HE.out⟩
      | false =>
      go_wp2_with (refine wpList_alloc_blk rfl 167 rfl sReport.zc (zero167 _) ?_; intro wB hb hu)
      have hN := HST.out.upd' hu
      refine (report_reads B f wr.heap.size 0 167 [] [] l' false wB hN.fr (by omega) (by omega) rfl (by simpa [Sch.zc] using hb)).mono ?_
      rintro e w2 ⟨rfl, x, us, l2, b2, h1, h2, h3, h4, h5⟩
      have hus : us.length = 2 := h4.len
      have hb2 : Blk w2 wr.heap.size 167 us := by simpa using h3
      have hU : Upd [f, p] wr w2 := (hu.mono (by simp)).trans h2 (by
        intro y hy
        simp only [List.mem_cons, List.not_mem_nil, or_false] at hy
        rcases hy with rfl | rfl
        · simp
        · exact .inr (Nat.le_refl _))
      have h4' : Sch.Rep w2 (fun b => wr.heap.size ≤ b) sReport us x := h4.mono (fun b hb _ => Nat.le_trans hu.size hb)
      have hbp : Blk w2 p tp (pre ++ [v] ++ post) := by
        refine h2.blk (hu.blk HBK.out (by simp)) ?_
        simp; omega
      have hrow2 := (hN.row)
      have hrw : w2.ownsRow w.heap.size 167 2 v i xss.flatten := h2.row (hu.row HST.out.row (by simp)) (by
        intro y hy
        have := own_lo HST.out.row hy
        simp; omega)
      have hsz2 := hU.size
      have hl2 := hb2.lt
      obtain ⟨a, c, rfl⟩ := own_shape' hrw
      have HO := Lib.hid h4.one
      have HR : Hid (∀ w', Upd (Value.slice a i c).ownBlock.toList w2 w' → w'.cell? ⟨p, pre.length, none⟩ = some (.slice a i c) ∧ Blk w' wr.heap.size 167 us) := Lib.hid (by
        intro w' u
        refine ⟨(u.blk hbp ?_).cell mid_at, u.blk hb2 ?_⟩
        · intro hm
          have := own_lo HST.out.row (g := p) (by simpa using hm)
          omega
        · intro hm
          have := own_lo HST.out.row (g := wr.heap.size) (by simpa using hm)
          omega)
      have HST2 := HST
      have HU := Lib.hid hU
      have H4 := Lib.hid h4'
      have H5 := Lib.hid h5
      have H1 := Lib.hid h1
      have HRW := Lib.hid hrw
      have HBP := Lib.hid hbp
      have HUS := Lib.hid hus
      clear h1 h2 h3 h4 h5 hN hb hu hbp hrow2 hrw hU h4' hus
      go_wp2_with fail
      refine wp_region_lex (fun w' => Upd (Value.slice a i c).ownBlock.toList w2 w') 8 [(0, true), (1, true), (2, true), (3, true), (4, true), (5, false), (6, false), (7, false), (8, false)] (by kernel_rfl) (by kernel_rfl) (by kernel_rfl) (by kernel_rfl) (fun _ _ d _ _ h => by cases d <;> exact h) ?_
      simp only [lexOps, List.map_cons, List.map_nil, List.getD_cons_zero, List.getD_cons_succ]
      have hS0 : Upd (Value.slice a i c).ownBlock.toList w2 w2.drew := (Upd.refl _ _).drew
      iterate 4 (refine lex_read rfl (by exact hS0) (v := ?_) (fun w' hw => ?_) ?_; rotate_left; (focus (obtain ⟨k1, k2⟩ := HR.out w' hw; clear k2; go_simp; try with_reducible rfl)); simp only [Act.put, List.setIfInBounds_toArray, List.set_cons_zero, List.set_cons_succ])
      refine lex_read rfl (by exact hS0) (fun w' hw => exec_load (by rfl) (by rfl) (run_loadAt_mid w' wr.heap.size 0 167 us _ (HR.out w' hw).2.range Try.underlying167 rfl (by rw [HUS.out]; exact Try.size167))) ?_
      try simp only [Act.put, List.setIfInBounds_toArray, List.set_cons_zero, List.set_cons_succ]
      refine lex_run rfl (exec_buildSlice (by rfl) (by simp [Act.eval]) (run_buildSlice1 _ 44 167 iT _ us 2 Try.underlying44 hiT hz0 hz1 HUS.out (by decide) (by decide))) (fun _ => hS0.alloc _) ?_
      try simp only [Act.put, List.setIfInBounds_toArray, List.set_cons_zero, List.set_cons_succ]
      have h64 : k ≤ 64 := hk
      have hB2 : Blk (w2.drew.alloc (.cells us.toArray 167)) w2.heap.size 167 us := Blk.new w2.drew _ _
      refine lex_do rfl (fun K hK => ?_)
      refine wp_append_mine (.tmp 53) (.tmp 55) 44 rfl w.heap.size 167 iT _ 2 _ Try.underlying44 hiT hz0 hz1 hz2 rfl (by decide) (.slice a i c) i xss.flatten rfl (World.ownsRow.alloc HRW.out _) ⟨w2.heap.size, 0, none⟩ 1 1 us rfl (by rw [HUS.out]) hB2.news (HO.out) (by unfold maxLen; omega) (by omega) (by have := HST.out.upd.size; simp; omega) ?_
      intro v' w3 hown hg hv
      have uA : Upd [f, p] wr (w2.drew.alloc (.cells us.toArray 167)) := (HU.out.drew).alloc _
      have hF : Fr B w3 f l2 b2 := by
        obtain ⟨a', c', hI⟩ := H1.out
        have hI2 : In 157 cR B (w2.drew.alloc (.cells us.toArray 167)) f l2 b2 a' c' := hI.upd (F := []) ((Upd.refl [] w2).drew.alloc _) (by simp)
        refine ⟨a', c', hI2.upd (F := (Value.slice a i c).ownBlock.toList) ((Upd.refl _ _).grown hg (fun k hk => .inl (by simp [hk]))) (fun k hk => ?_)⟩
        have := own_lo HST.out.row (g := k) (by simpa using hk)
        omega
      have hbp3 : Blk w3 p tp (pre ++ [.slice a i c] ++ post) := by
        have hb4 : Blk (w2.drew.alloc (.cells us.toArray 167)) p tp (pre ++ [.slice a i c] ++ post) := (HBP.out.drew).alloc _
        refine (hg.block p hb4.lt (fun e => ?_)).trans hb4
        have := own_lo HST.out.row (g := p) e.symm
        omega
      have q1 := hbp3.cell (o := pre.length) mid_at
      have q2 := hbp3.frozen pre.length
      have q3 := hbp3.lt
      have uS : Upd [p] w3 (w3.setCell ⟨p, pre.length, none⟩ v') := (Upd.refl _ _).setCell (by simp) _
      have HX : Hid (Blk (w3.setCell ⟨p, pre.length, none⟩ v') p tp (pre ++ [v'] ++ post) ∧ LRdSt sReport 157 cR [f, p] B f 167 2 w (w3.setCell ⟨p, pre.length, none⟩ v') k l b (i + 1) l2 b2 v' (xss ++ [us]) (xs ++ [x])) := by
        refine Lib.hid ⟨?_, LRdSt.next HST.out hlt uA (H4.out.upd ((Upd.refl [] w2).drew.alloc _) (by simp)) HUS.out H5.out hg hown ?_ (uS.mono (by simp)) (hF.upd uS (by simp; omega))⟩
        · have := hbp3.set pre.length v'
          rwa [mid_set] at this
        · rcases hv with h | h
          · exact .inl h
          · exact .inr h
      have hS3 : Upd (Value.slice a i c).ownBlock.toList w2 w3 := (hS0.alloc _).grown hg (fun k hk => .inl (by simp [hk]))
      refine hK _ _ (fun _ => hS3) ?_
      obtain ⟨a', c', rfl⟩ := own_shape' hown
      clear hK K hown hg hv uA hF hbp3 uS hB2 hS0
      try simp only [Act.put, List.setIfInBounds_toArray, List.set_cons_zero, List.set_cons_succ]
      refine lex_do rfl (fun K hK => ?_)
      go_simp
      refine hK _ _ (fun _ => hS3) ?_
      clear hK K hS3
      try simp only [Act.put, List.setIfInBounds_toArray, List.set_cons_zero, List.set_cons_succ]
      refine lex_do rfl (fun K hK => ?_)
      go_simp
      refine hK _ _ (fun h => absurd rfl h) ?_
      clear hK K
      try simp only [Act.put, List.setIfInBounds_toArray, List.set_cons_zero, List.set_cons_succ]
      refine lex_nil ?_
      go_wp2_with fail
      go_roundg (k - (i + 1))
      case measure => have := HG.out; omega
      case rel => exact ⟨i + 1, l2, b2, _, _, _, by go_num, rfl, by omega, HX.out.1, HX.out.2⟩
    · obtain rfl : i = k := by omega
      have HE := Lib.hid (HST.out.rd (.inr rfl))
      go_wp2_with fail
      go_end0
      exact ⟨rfl, .list xs, [v], l', b', HST.out.fr, HST.out.upd, HBK.out, HST.out.isRep, HE.out⟩
end Go.Proofs.Ytpfnbilopagepaa
/- codec's list[int], reading. -/
namespace Go.Proofs.Ytpfnbilopagepaa
open Go.RowKit Go.Lb Go.Rc

set_option maxRecDepth 20000 in
set_option maxHeartbeats 2000000 in
theorem listint_reads : LReads 136 131 .num := by
  intro B f p q tp pre post l b w h hB hpf hq hp
  obtain ⟨iT, hiT, hz0, hz1, hz2⟩ := info3
  subst hq
  have c0 := hp.cell (o := pre.length) mid_at
  obtain ⟨_, _, _, hf, hBf⟩ := fr_mark h
  have hplt := hp.lt
  have H := Lib.hid h
  have HP := Lib.hid hp
  clear h hp
  go_enter Try.func136, Try.ntmps136
  go_wp2_with fail
  refine (many_r B f 64 _ l b _ H.out).mono ?_
  rintro e w1 ⟨k, l1, b1, rfl, hk, h1, h2, h3⟩
  obtain ⟨m2, m3, m4, m5, _⟩ := fr_mark h1
  have HB1 := Lib.hid (h2.blk HP.out (by simpa using hpf))
  have HS : Hid (LRdSt .num 157 cR [f, p] B f 3 1 w w1 k l b 0 l1 b1 (.slice none 0 0) [] []) := Lib.hid (LRdSt.start h1 (h2.mono (by simp)) (by simp; omega) h3)
  clear h1 h2 h3 H
  go_wp2_with fail
  go_loopg [9, 42] k (fun g u t wr => ∃ (i : Nat) (l' : List Nat) (b' : Bool) (v : Value) (xss : List (List Value)) (xs : List Val), t = .int .i64 i ∧ k - i = g ∧ i ≤ k ∧ Blk wr p tp (pre ++ [v] ++ post) ∧ LRdSt .num 157 cR [f, p] B f 3 1 w wr k l b i l' b' v xss xs)
  case atStart => exact ⟨0, l1, b1, _, [], [], rfl, rfl, by omega, HB1.out, HS.out⟩
  case round =>
    obtain ⟨i, l', b', v, xss, xs, rfl, hg, hi, hbk, hS⟩ := hrel
    have HG := Lib.hid hg
    have HBK := Lib.hid hbk
    have HST := Lib.hid hS
    obtain ⟨n2, n3, n4, n5, _⟩ := fr_mark hS.fr
    have hsz := hS.upd.size
    clear hg hbk hS m2 m3 m4 m5
    by_cases hlt : i < k
    · have t1 : decide (i < k) = true := by simpa using hlt
      cases b' with
      | true =>
        have HE := Lib.hid (HST.out.rd (.inl rfl))
        go_wp2_with fail
        go_end0
        exact ⟨rfl, .list xs, [v], l', true, HST.out.fr, HST.out.upd, HBK.out, HST.out.isRep, HE.out⟩
      | false =>
      go_wp2_with fail
      generalize hwB : World.alloc _ _ = wB
      have hb : Blk wB wr.heap.size 3 [.int .i64 0] := by subst hwB; exact Blk.new _ _ _
      have hu : Upd [] wr wB := by subst hwB; exact (Upd.refl _ _).alloc _
      have hN := HST.out.upd' hu
      refine (num_reads B f wr.heap.size 0 3 [] [] l' false wB hN.fr (by omega) (by omega) rfl (by simpa [Sch.zc] using hb)).mono ?_
      rintro e w2 ⟨rfl, x, us, l2, b2, h1, h2, h3, h4, h5⟩
      have hus : us.length = 1 := h4.len
      have hb2 : Blk w2 wr.heap.size 3 us := by simpa using h3
      have hU : Upd [f, p] wr w2 := (hu.mono (by simp)).trans h2 (by
        intro y hy
        simp only [List.mem_cons, List.not_mem_nil, or_false] at hy
        rcases hy with rfl | rfl
        · simp
        · exact .inr (Nat.le_refl _))
      have h4' : Sch.Rep w2 (fun b => wr.heap.size ≤ b) .num us x := h4.mono (fun b hb _ => Nat.le_trans hu.size hb)
      have hbp : Blk w2 p tp (pre ++ [v] ++ post) := by
        refine h2.blk (hu.blk HBK.out (by simp)) ?_
        simp; omega
      have hrow2 := (hN.row)
      have hrw : w2.ownsRow w.heap.size 3 1 v i xss.flatten := h2.row (hu.row HST.out.row (by simp)) (by
        intro y hy
        have := own_lo HST.out.row hy
        simp; omega)
      have hsz2 := hU.size
      have hl2 := hb2.lt
      obtain ⟨a, c, rfl⟩ := own_shape' hrw
      have h4c := h4
      obtain ⟨nn, rfl, rfl⟩ := h4c
      have HR : Hid (∀ w', Upd (Value.slice a i c).ownBlock.toList w2 w' → w'.cell? ⟨p, pre.length, none⟩ = some (.slice a i c) ∧ Blk w' wr.heap.size 3 [.int .i64 nn]) := Lib.hid (by
        intro w' u
        refine ⟨(u.blk hbp ?_).cell mid_at, u.blk hb2 ?_⟩
        · intro hm
          have := own_lo HST.out.row (g := p) (by simpa using hm)
          omega
        · intro hm
          have := own_lo HST.out.row (g := wr.heap.size) (by simpa using hm)
          omega)
      have HST2 := HST
      have HU := Lib.hid hU
      have H4 := Lib.hid h4'
      have H5 := Lib.hid h5
      have H1 := Lib.hid h1
      have HRW := Lib.hid hrw
      have HBP := Lib.hid hbp
      have HUS := Lib.hid hus
      clear h1 h2 h3 h4 h5 hN hb hu hbp hrow2 hrw hU h4' hus
      go_wp2_with fail
      refine wp_region_lex (fun w' => Upd (Value.slice a i c).ownBlock.toList w2 w') 8 [(0, true), (1, true), (2, true), (3, true), (4, true), (5, false), (6, false), (7, false), (8, false)] (by kernel_rfl) (by kernel_rfl) (by kernel_rfl) (by kernel_rfl) (fun _ _ d _ _ h => by cases d <;> exact h) ?_
      simp only [lexOps, List.map_cons, List.map_nil, List.getD_cons_zero, List.getD_cons_succ]
      have hS0 : Upd (Value.slice a i c).ownBlock.toList w2 w2.drew := (Upd.refl _ _).drew
      iterate 4 (refine lex_read rfl (by exact hS0) (v := ?_) (fun w' hw => ?_) ?_; rotate_left; (focus (obtain ⟨k1, k2⟩ := HR.out w' hw; clear k2; go_simp; try with_reducible rfl)); simp only [Act.put, List.setIfInBounds_toArray, List.set_cons_zero, List.set_cons_succ])
      refine lex_read rfl (by exact hS0) (v := .int .i64 nn) (fun w' hw => ?_) ?_
      · have k2 := (HR.out w' hw).2.cell (o := 0) rfl
        go_simp
      try simp only [Act.put, List.setIfInBounds_toArray, List.set_cons_zero, List.set_cons_succ]
      refine lex_run (w' := w2.drew.alloc (.cells #[.int .i64 nn] 3)) rfl (v := .slice (some ⟨w2.heap.size, 0, none⟩) 1 1) (by go_simp) (fun _ => hS0.alloc _) ?_
      try simp only [Act.put, List.setIfInBounds_toArray, List.set_cons_zero, List.set_cons_succ]
      have h64 : k ≤ 64 := hk
      have hB2 : Blk (w2.drew.alloc (.cells #[.int .i64 nn] 3)) w2.heap.size 3 [.int .i64 nn] := Blk.new w2.drew _ _
      refine lex_do rfl (fun K hK => ?_)
      refine wp_append_mine (.tmp 53) (.tmp 55) 45 rfl w.heap.size 3 iT _ 1 _ Try.underlying45 hiT hz0 hz1 hz2 rfl (by decide) (.slice a i c) i xss.flatten rfl (World.ownsRow.alloc HRW.out _) ⟨w2.heap.size, 0, none⟩ 1 1 [.int .i64 nn] rfl (by rw [HUS.out]) hB2.news (by intro u hu; simp at hu; subst hu; rfl) (by unfold maxLen; omega) (by omega) (by have := HST.out.upd.size; simp; omega) ?_
      intro v' w3 hown hg hv
      have uA : Upd [f, p] wr (w2.drew.alloc (.cells #[.int .i64 nn] 3)) := (HU.out.drew).alloc _
      have hF : Fr B w3 f l2 b2 := by
        obtain ⟨a', c', hI⟩ := H1.out
        have hI2 : In 157 cR B (w2.drew.alloc (.cells #[.int .i64 nn] 3)) f l2 b2 a' c' := hI.upd (F := []) ((Upd.refl [] w2).drew.alloc _) (by simp)
        refine ⟨a', c', hI2.upd (F := (Value.slice a i c).ownBlock.toList) ((Upd.refl _ _).grown hg (fun k hk => .inl (by simp [hk]))) (fun k hk => ?_)⟩
        have := own_lo HST.out.row (g := k) (by simpa using hk)
        omega
      have hbp3 : Blk w3 p tp (pre ++ [.slice a i c] ++ post) := by
        have hb4 : Blk (w2.drew.alloc (.cells #[.int .i64 nn] 3)) p tp (pre ++ [.slice a i c] ++ post) := (HBP.out.drew).alloc _
        refine (hg.block p hb4.lt (fun e => ?_)).trans hb4
        have := own_lo HST.out.row (g := p) e.symm
        omega
      have q1 := hbp3.cell (o := pre.length) mid_at
      have q2 := hbp3.frozen pre.length
      have q3 := hbp3.lt
      have uS : Upd [p] w3 (w3.setCell ⟨p, pre.length, none⟩ v') := (Upd.refl _ _).setCell (by simp) _
      have HX : Hid (Blk (w3.setCell ⟨p, pre.length, none⟩ v') p tp (pre ++ [v'] ++ post) ∧ LRdSt .num 157 cR [f, p] B f 3 1 w (w3.setCell ⟨p, pre.length, none⟩ v') k l b (i + 1) l2 b2 v' (xss ++ [[.int .i64 nn]]) (xs ++ [.num nn])) := by
        refine Lib.hid ⟨?_, LRdSt.next HST.out hlt uA (H4.out.upd ((Upd.refl [] w2).drew.alloc _) (by simp)) HUS.out H5.out hg hown ?_ (uS.mono (by simp)) (hF.upd uS (by simp; omega))⟩
        · have := hbp3.set pre.length v'
          rwa [mid_set] at this
        · rcases hv with h | h
          · exact .inl h
          · exact .inr h
      have hS3 : Upd (Value.slice a i c).ownBlock.toList w2 w3 := (hS0.alloc _).grown hg (fun k hk => .inl (by simp [hk]))
      refine hK _ _ (fun _ => hS3) ?_
      obtain ⟨a', c', rfl⟩ := own_shape' hown
      clear hK K hown hg hv uA hF hbp3 uS hB2 hS0
      try simp only [Act.put, List.setIfInBounds_toArray, List.set_cons_zero, List.set_cons_succ]
      refine lex_do rfl (fun K hK => ?_)
      go_simp
      refine hK _ _ (fun _ => hS3) ?_
      clear hK K hS3
      try simp only [Act.put, List.setIfInBounds_toArray, List.set_cons_zero, List.set_cons_succ]
      refine lex_do rfl (fun K hK => ?_)
      go_simp
      refine hK _ _ (fun h => absurd rfl h) ?_
      clear hK K
      try simp only [Act.put, List.setIfInBounds_toArray, List.set_cons_zero, List.set_cons_succ]
      refine lex_nil ?_
      go_wp2_with fail
      go_roundg (k - (i + 1))
      case measure => have := HG.out; omega
      case rel => exact ⟨i + 1, l2, b2, _, _, _, by go_num, rfl, by omega, HX.out.1, HX.out.2⟩
    · obtain rfl : i = k := by omega
      have HE := Lib.hid (HST.out.rd (.inr rfl))
      go_wp2_with fail
      go_end0
      exact ⟨rfl, .list xs, [v], l', b', HST.out.fr, HST.out.upd, HBK.out, HST.out.isRep, HE.out⟩
end Go.Proofs.Ytpfnbilopagepaa
/- codec's form.alloc, reading. -/
namespace Go.Proofs.Ytpfnbilopagepaa
open Go.RowKit Go.Lb Go.Rc

set_option maxRecDepth 20000 in
set_option maxHeartbeats 2000000 in
theorem alloc_reads : Reads 122 sAlloc := by
  intro B f p q tp pre post l b w h hB hpf hq hp
  subst hq
  have H0 := Lib.hid (RdSt.start (rest := [.num, .num, .num, .num, .num, .num, .num, sRes, .flag, .num]) h hB hpf hp (fr_mark h).2.2.2.1)
  clear h hp
  go_enter Try.func122, Try.ntmps122
  go_wp2_with fail
  refine wp_region_lex (fun _ => True) 99 [(0, true), (1, true), (2, true), (3, true), (4, true), (5, true), (6, true), (7, true), (8, true), (9, true), (10, true), (11, true), (12, true), (13, true), (14, true), (15, true), (16, true), (17, true), (18, true), (19, true), (20, true), (21, true), (22, false), (23, false)] (by kernel_rfl) (by kernel_rfl) (by kernel_rfl) (by kernel_rfl) (fun _ _ d _ _ h => by cases d <;> exact h) ?_
  simp only [lexOps, List.map_cons, List.map_nil, List.getD_cons_zero, List.getD_cons_succ]
  iterate 22 (refine lex_read rfl trivial (v := ?_) (fun w' _ => ?_) ?_; rotate_left; (focus (go_simp; try with_reducible rfl)); simp only [Act.put, List.setIfInBounds_toArray, List.set_cons_zero, List.set_cons_succ])
  refine lex_do rfl (fun K hK => ?_)
  go_simp
  refine hK _ _ (fun _ => trivial) ?_
  clear hK K
  refine lex_do rfl (fun K hK => ?_)
  go_simp
  refine (CRd.goNums (rest := [sRes, .flag, .num]) (k := 7) H0.out ((Upd.refl _ _).alloc _).drew (Nat.le_refl _) (Blk.drew (Blk.new _ _ [_, _, _, _, _, _, _])) (by simp only [fsize_append, fsize_nums, fsize, List.nil_append] <;> rfl) (by decide)).mono ?_
  rintro e w1 ⟨rfl, ns1, l1, b1, hn, h⟩
  have H1 := Lib.hid h
  have HN1 := Lib.hid hn
  clear hn
  refine hK _ _ (fun _ => trivial) ?_
  clear hK K h
  refine lex_nil ?_
  go_wp2_with fail
  refine (CRd.go res_reads H1.out (by simp only [fsize_append, fsize_nums, fsize, HN1.out, List.nil_append] <;> rfl)).mono ?_
  rintro e w2 ⟨rfl, v2, l2, b2, h⟩
  have H2 := Lib.hid h
  clear h
  go_wp2_with fail
  refine (CRd.go flag_reads H2.out (by simp only [fsize_append, fsize_nums, fsize, HN1.out, List.nil_append] <;> rfl)).mono ?_
  rintro e w3 ⟨rfl, v3, l3, b3, h⟩
  have H3 := Lib.hid h
  clear h
  go_wp2_with fail
  refine (CRd.go num_reads H3.out (by simp only [fsize_append, fsize_nums, fsize, HN1.out, List.nil_append] <;> rfl)).mono ?_
  rintro e w4 ⟨rfl, v4, l4, b4, h⟩
  have H4 := Lib.hid h
  clear h
  go_wp2_with fail
  go_end0
  exact CRd.fin H4.out (by simp only [List.map_append, nums_fst, HN1.out, List.append_assoc, List.map_cons, List.map_nil, List.nil_append]; rfl)
end Go.Proofs.Ytpfnbilopagepaa
/- codec's list[Alloc], reading. -/
namespace Go.Proofs.Ytpfnbilopagepaa
open Go.RowKit Go.Lb Go.Rc

set_option maxRecDepth 20000 in
set_option maxHeartbeats 2000000 in
theorem listAlloc_reads : LReads 121 122 sAlloc := by
  intro B f p q tp pre post l b w h hB hpf hq hp
  obtain ⟨iT, hiT, hz0, hz1, hz2⟩ := info94
  subst hq
  have c0 := hp.cell (o := pre.length) mid_at
  obtain ⟨_, _, _, hf, hBf⟩ := fr_mark h
  have hplt := hp.lt
  have H := Lib.hid h
  have HP := Lib.hid hp
  clear h hp
  go_enter Try.func121, Try.ntmps121
  go_wp2_with fail
  refine (many_r B f 64 _ l b _ H.out).mono ?_
  rintro e w1 ⟨k, l1, b1, rfl, hk, h1, h2, h3⟩
  obtain ⟨m2, m3, m4, m5, _⟩ := fr_mark h1
  have HB1 := Lib.hid (h2.blk HP.out (by simpa using hpf))
  have HS : Hid (LRdSt sAlloc 157 cR [f, p] B f 94 11 w w1 k l b 0 l1 b1 (.slice none 0 0) [] []) := Lib.hid (LRdSt.start h1 (h2.mono (by simp)) (by simp; omega) h3)
  clear h1 h2 h3 H
  go_wp2_with fail
  go_loopg [9, 42] k (fun g u t wr => ∃ (i : Nat) (l' : List Nat) (b' : Bool) (v : Value) (xss : List (List Value)) (xs : List Val), t = .int .i64 i ∧ k - i = g ∧ i ≤ k ∧ Blk wr p tp (pre ++ [v] ++ post) ∧ LRdSt sAlloc 157 cR [f, p] B f 94 11 w wr k l b i l' b' v xss xs)
  case atStart => exact ⟨0, l1, b1, _, [], [], rfl, rfl, by omega, HB1.out, HS.out⟩
  case round =>
    obtain ⟨i, l', b', v, xss, xs, rfl, hg, hi, hbk, hS⟩ := hrel
    have HG := Lib.hid hg
    have HBK := Lib.hid hbk
    have HST := Lib.hid hS
    obtain ⟨n2, n3, n4, n5, _⟩ := fr_mark hS.fr
    have hsz := hS.upd.size
    clear hg hbk hS m2 m3 m4 m5
    by_cases hlt : i < k
    · have t1 : decide (i < k) = true := by simpa using hlt
      cases b' with
      | true =>
        have HE := Lib.hid (HST.out.rd (.inl rfl))
        go_wp2_with fail
        go_end0
        exact ⟨rfl, .list xs, [v], l', true, HST.out.fr, HST.out.upd, HBK.out, HST.out.isRep, HE.out⟩
      | false =>
      go_wp2_with (refine wpList_alloc_blk rfl 94 rfl sAlloc.zc (zero94 _) ?_; intro wB hb hu)
      have hN := HST.out.upd' hu
      refine (alloc_reads B f wr.heap.size 0 94 [] [] l' false wB hN.fr (by omega) (by omega) rfl (by simpa [Sch.zc] using hb)).mono ?_
      rintro e w2 ⟨rfl, x, us, l2, b2, h1, h2, h3, h4, h5⟩
      have hus : us.length = 11 := h4.len
      have hb2 : Blk w2 wr.heap.size 94 us := by simpa using h3
      have hU : Upd [f, p] wr w2 := (hu.mono (by simp)).trans h2 (by
        intro y hy
        simp only [List.mem_cons, List.not_mem_nil, or_false] at hy
        rcases hy with rfl | rfl
        · simp
        · exact .inr (Nat.le_refl _))
      have h4' : Sch.Rep w2 (fun b => wr.heap.size ≤ b) sAlloc us x := h4.mono (fun b hb _ => Nat.le_trans hu.size hb)
      have hbp : Blk w2 p tp (pre ++ [v] ++ post) := by
        refine h2.blk (hu.blk HBK.out (by simp)) ?_
        simp; omega
      have hrow2 := (hN.row)
      have hrw : w2.ownsRow w.heap.size 94 11 v i xss.flatten := h2.row (hu.row HST.out.row (by simp)) (by
        intro y hy
        have := own_lo HST.out.row hy
        simp; omega)
      have hsz2 := hU.size
      have hl2 := hb2.lt
      obtain ⟨a, c, rfl⟩ := own_shape' hrw
      have HO := Lib.hid h4.one
      have HR : Hid (∀ w', Upd (Value.slice a i c).ownBlock.toList w2 w' → w'.cell? ⟨p, pre.length, none⟩ = some (.slice a i c) ∧ Blk w' wr.heap.size 94 us) := Lib.hid (by
        intro w' u
        refine ⟨(u.blk hbp ?_).cell mid_at, u.blk hb2 ?_⟩
        · intro hm
          have := own_lo HST.out.row (g := p) (by simpa using hm)
          omega
        · intro hm
          have := own_lo HST.out.row (g := wr.heap.size) (by simpa using hm)
          omega)
      have HST2 := HST
      have HU := Lib.hid hU
      have H4 := Lib.hid h4'
      have H5 := Lib.hid h5
      have H1 := Lib.hid h1
      have HRW := Lib.hid hrw
      have HBP := Lib.hid hbp
      have HUS := Lib.hid hus
      clear h1 h2 h3 h4 h5 hN hb hu hbp hrow2 hrw hU h4' hus
      go_wp2_with fail
      refine wp_region_lex (fun w' => Upd (Value.slice a i c).ownBlock.toList w2 w') 8 [(0, true), (1, true), (2, true), (3, true), (4, true), (5, false), (6, false), (7, false), (8, false)] (by kernel_rfl) (by kernel_rfl) (by kernel_rfl) (by kernel_rfl) (fun _ _ d _ _ h => by cases d <;> exact h) ?_
      simp only [lexOps, List.map_cons, List.map_nil, List.getD_cons_zero, List.getD_cons_succ]
      have hS0 : Upd (Value.slice a i c).ownBlock.toList w2 w2.drew := (Upd.refl _ _).drew
      iterate 4 (refine lex_read rfl (by exact hS0) (v := ?_) (fun w' hw => ?_) ?_; rotate_left; (focus (obtain ⟨k1, k2⟩ := HR.out w' hw; clear k2; go_simp; try with_reducible rfl)); simp only [Act.put, List.setIfInBounds_toArray, List.set_cons_zero, List.set_cons_succ])
      refine lex_read rfl (by exact hS0) (fun w' hw => exec_load (by rfl) (by rfl) (run_loadAt_mid w' wr.heap.size 0 94 us _ (HR.out w' hw).2.range Try.underlying94 rfl (by rw [HUS.out]; exact Try.size94))) ?_
      try simp only [Act.put, List.setIfInBounds_toArray, List.set_cons_zero, List.set_cons_succ]
      refine lex_run rfl (exec_buildSlice (by rfl) (by simp [Act.eval]) (run_buildSlice1 _ 46 94 iT _ us 11 Try.underlying46 hiT hz0 hz1 HUS.out (by decide) (by decide))) (fun _ => hS0.alloc _) ?_
      try simp only [Act.put, List.setIfInBounds_toArray, List.set_cons_zero, List.set_cons_succ]
      have h64 : k ≤ 64 := hk
      have hB2 : Blk (w2.drew.alloc (.cells us.toArray 94)) w2.heap.size 94 us := Blk.new w2.drew _ _
      refine lex_do rfl (fun K hK => ?_)
      refine wp_append_mine (.tmp 53) (.tmp 55) 46 rfl w.heap.size 94 iT _ 11 _ Try.underlying46 hiT hz0 hz1 hz2 rfl (by decide) (.slice a i c) i xss.flatten rfl (World.ownsRow.alloc HRW.out _) ⟨w2.heap.size, 0, none⟩ 1 1 us rfl (by rw [HUS.out]) hB2.news (HO.out) (by unfold maxLen; omega) (by omega) (by have := HST.out.upd.size; simp; omega) ?_
      intro v' w3 hown hg hv
      have uA : Upd [f, p] wr (w2.drew.alloc (.cells us.toArray 94)) := (HU.out.drew).alloc _
      have hF : Fr B w3 f l2 b2 := by
        obtain ⟨a', c', hI⟩ := H1.out
        have hI2 : In 157 cR B (w2.drew.alloc (.cells us.toArray 94)) f l2 b2 a' c' := hI.upd (F := []) ((Upd.refl [] w2).drew.alloc _) (by simp)
        refine ⟨a', c', hI2.upd (F := (Value.slice a i c).ownBlock.toList) ((Upd.refl _ _).grown hg (fun k hk => .inl (by simp [hk]))) (fun k hk => ?_)⟩
        have := own_lo HST.out.row (g := k) (by simpa using hk)
        omega
      have hbp3 : Blk w3 p tp (pre ++ [.slice a i c] ++ post) := by
        have hb4 : Blk (w2.drew.alloc (.cells us.toArray 94)) p tp (pre ++ [.slice a i c] ++ post) := (HBP.out.drew).alloc _
        refine (hg.block p hb4.lt (fun e => ?_)).trans hb4
        have := own_lo HST.out.row (g := p) e.symm
        omega
      have q1 := hbp3.cell (o := pre.length) mid_at
      have q2 := hbp3.frozen pre.length
      have q3 := hbp3.lt
      have uS : Upd [p] w3 (w3.setCell ⟨p, pre.length, none⟩ v') := (Upd.refl _ _).setCell (by simp) _
      have HX : Hid (Blk (w3.setCell ⟨p, pre.length, none⟩ v') p tp (pre ++ [v'] ++ post) ∧ LRdSt sAlloc 157 cR [f, p] B f 94 11 w (w3.setCell ⟨p, pre.length, none⟩ v') k l b (i + 1) l2 b2 v' (xss ++ [us]) (xs ++ [x])) := by
        refine Lib.hid ⟨?_, LRdSt.next HST.out hlt uA (H4.out.upd ((Upd.refl [] w2).drew.alloc _) (by simp)) HUS.out H5.out hg hown ?_ (uS.mono (by simp)) (hF.upd uS (by simp; omega))⟩
        · have := hbp3.set pre.length v'
          rwa [mid_set] at this
        · rcases hv with h | h
          · exact .inl h
          · exact .inr h
      have hS3 : Upd (Value.slice a i c).ownBlock.toList w2 w3 := (hS0.alloc _).grown hg (fun k hk => .inl (by simp [hk]))
      refine hK _ _ (fun _ => hS3) ?_
      obtain ⟨a', c', rfl⟩ := own_shape' hown
      clear hK K hown hg hv uA hF hbp3 uS hB2 hS0
      try simp only [Act.put, List.setIfInBounds_toArray, List.set_cons_zero, List.set_cons_succ]
      refine lex_do rfl (fun K hK => ?_)
      go_simp
      refine hK _ _ (fun _ => hS3) ?_
      clear hK K hS3
      try simp only [Act.put, List.setIfInBounds_toArray, List.set_cons_zero, List.set_cons_succ]
      refine lex_do rfl (fun K hK => ?_)
      go_simp
      refine hK _ _ (fun h => absurd rfl h) ?_
      clear hK K
      try simp only [Act.put, List.setIfInBounds_toArray, List.set_cons_zero, List.set_cons_succ]
      refine lex_nil ?_
      go_wp2_with fail
      go_roundg (k - (i + 1))
      case measure => have := HG.out; omega
      case rel => exact ⟨i + 1, l2, b2, _, _, _, by go_num, rfl, by omega, HX.out.1, HX.out.2⟩
    · obtain rfl : i = k := by omega
      have HE := Lib.hid (HST.out.rd (.inr rfl))
      go_wp2_with fail
      go_end0
      exact ⟨rfl, .list xs, [v], l', b', HST.out.fr, HST.out.upd, HBK.out, HST.out.isRep, HE.out⟩
end Go.Proofs.Ytpfnbilopagepaa
/- codec's form.plan, reading. -/
namespace Go.Proofs.Ytpfnbilopagepaa
open Go.RowKit Go.Lb Go.Rc

set_option maxRecDepth 20000 in
set_option maxHeartbeats 2000000 in
theorem plan_reads : Reads 95 sPlan := by
  intro B f p q tp pre post l b w h hB hpf hq hp
  subst hq
  have H0 := Lib.hid (RdSt.start (rest := [.num, .num, .num, .list .num, .list sAlloc, .flag]) h hB hpf hp (fr_mark h).2.2.2.1)
  clear h hp
  go_enter Try.func95, Try.ntmps95
  go_wp2_with fail
  refine wp_region_lex (fun _ => True) 99 [(0, true), (1, true), (2, true), (3, true), (4, true), (5, true), (6, true), (7, true), (8, true), (9, true), (10, false), (11, false)] (by kernel_rfl) (by kernel_rfl) (by kernel_rfl) (by kernel_rfl) (fun _ _ d _ _ h => by cases d <;> exact h) ?_
  simp only [lexOps, List.map_cons, List.map_nil, List.getD_cons_zero, List.getD_cons_succ]
  iterate 10 (refine lex_read rfl trivial (v := ?_) (fun w' _ => ?_) ?_; rotate_left; (focus (go_simp; try with_reducible rfl)); simp only [Act.put, List.setIfInBounds_toArray, List.set_cons_zero, List.set_cons_succ])
  refine lex_do rfl (fun K hK => ?_)
  go_simp
  refine hK _ _ (fun _ => trivial) ?_
  clear hK K
  refine lex_do rfl (fun K hK => ?_)
  go_simp
  refine (CRd.goNums (rest := [.list .num, .list sAlloc, .flag]) (k := 3) H0.out ((Upd.refl _ _).alloc _).drew (Nat.le_refl _) (Blk.drew (Blk.new _ _ [_, _, _])) (by simp only [fsize_append, fsize_nums, fsize, List.nil_append] <;> rfl) (by decide)).mono ?_
  rintro e w1 ⟨rfl, ns1, l1, b1, hn, h⟩
  have H1 := Lib.hid h
  have HN1 := Lib.hid hn
  clear hn
  refine hK _ _ (fun _ => trivial) ?_
  clear hK K h
  refine lex_nil ?_
  go_wp2_with fail
  refine (CRd.goList listint_reads H1.out (by simp only [fsize_append, fsize_nums, fsize, HN1.out, List.nil_append] <;> rfl)).mono ?_
  rintro e w2 ⟨rfl, v2, l2, b2, h⟩
  have H2 := Lib.hid h
  clear h
  go_wp2_with fail
  refine (CRd.goList listAlloc_reads H2.out (by simp only [fsize_append, fsize_nums, fsize, HN1.out, List.nil_append] <;> rfl)).mono ?_
  rintro e w3 ⟨rfl, v3, l3, b3, h⟩
  have H3 := Lib.hid h
  clear h
  go_wp2_with fail
  refine (CRd.go flag_reads H3.out (by simp only [fsize_append, fsize_nums, fsize, HN1.out, List.nil_append] <;> rfl)).mono ?_
  rintro e w4 ⟨rfl, v4, l4, b4, h⟩
  have H4 := Lib.hid h
  clear h
  go_wp2_with fail
  go_end0
  exact CRd.fin H4.out (by simp only [List.map_append, nums_fst, HN1.out, List.append_assoc, List.map_cons, List.map_nil, List.nil_append]; rfl)
end Go.Proofs.Ytpfnbilopagepaa
/- codec's form.conf, reading. -/
namespace Go.Proofs.Ytpfnbilopagepaa
open Go.RowKit Go.Lb Go.Rc

set_option maxRecDepth 20000 in
set_option maxHeartbeats 2000000 in
theorem conf_reads : Reads 96 sConf := by
  intro B f p q tp pre post l b w h hB hpf hq hp
  subst hq
  have H0 := Lib.hid (RdSt.start (rest := [.list .num, .list .num]) h hB hpf hp (fr_mark h).2.2.2.1)
  clear h hp
  go_enter Try.func96, Try.ntmps96
  go_wp2_with fail
  refine (CRd.goList listint_reads H0.out (by simp only [fsize_append, fsize_nums, fsize, List.nil_append] <;> rfl)).mono ?_
  rintro e w1 ⟨rfl, v1, l1, b1, h⟩
  have H1 := Lib.hid h
  clear h
  go_wp2_with fail
  refine (CRd.goList listint_reads H1.out (by simp only [fsize_append, fsize_nums, fsize, List.nil_append] <;> rfl)).mono ?_
  rintro e w2 ⟨rfl, v2, l2, b2, h⟩
  have H2 := Lib.hid h
  clear h
  go_wp2_with fail
  go_end0
  exact CRd.fin H2.out (by simp only [List.map_append, nums_fst, List.append_assoc, List.map_cons, List.map_nil, List.nil_append]; rfl)
end Go.Proofs.Ytpfnbilopagepaa
/- codec's form.cmd, reading. -/
namespace Go.Proofs.Ytpfnbilopagepaa
open Go.RowKit Go.Lb Go.Rc

set_option maxRecDepth 20000 in
set_option maxHeartbeats 2000000 in
theorem cmd_reads : Reads 63 sCmd := by
  intro B f p q tp pre post l b w h hB hpf hq hp
  subst hq
  have H0 := Lib.hid (RdSt.start (rest := [.num, .num, .num, sJob, sNode, .list sReport, sPlan, sConf]) h hB hpf hp (fr_mark h).2.2.2.1)
  clear h hp
  go_enter Try.func63, Try.ntmps63
  go_wp2_with fail
  refine wp_region_lex (fun _ => True) 99 [(0, true), (1, true), (2, true), (3, true), (4, true), (5, true), (6, true), (7, true), (8, true), (9, true), (10, false), (11, false)] (by kernel_rfl) (by kernel_rfl) (by kernel_rfl) (by kernel_rfl) (fun _ _ d _ _ h => by cases d <;> exact h) ?_
  simp only [lexOps, List.map_cons, List.map_nil, List.getD_cons_zero, List.getD_cons_succ]
  iterate 10 (refine lex_read rfl trivial (v := ?_) (fun w' _ => ?_) ?_; rotate_left; (focus (go_simp; try with_reducible rfl)); simp only [Act.put, List.setIfInBounds_toArray, List.set_cons_zero, List.set_cons_succ])
  refine lex_do rfl (fun K hK => ?_)
  go_simp
  refine hK _ _ (fun _ => trivial) ?_
  clear hK K
  refine lex_do rfl (fun K hK => ?_)
  go_simp
  refine (CRd.goNums (rest := [sJob, sNode, .list sReport, sPlan, sConf]) (k := 3) H0.out ((Upd.refl _ _).alloc _).drew (Nat.le_refl _) (Blk.drew (Blk.new _ _ [_, _, _])) (by simp only [fsize_append, fsize_nums, fsize, List.nil_append] <;> rfl) (by decide)).mono ?_
  rintro e w1 ⟨rfl, ns1, l1, b1, hn, h⟩
  have H1 := Lib.hid h
  have HN1 := Lib.hid hn
  clear hn
  refine hK _ _ (fun _ => trivial) ?_
  clear hK K h
  refine lex_nil ?_
  go_wp2_with fail
  refine (CRd.go job_reads H1.out (by simp only [fsize_append, fsize_nums, fsize, HN1.out, List.nil_append] <;> rfl)).mono ?_
  rintro e w2 ⟨rfl, v2, l2, b2, h⟩
  have H2 := Lib.hid h
  clear h
  go_wp2_with fail
  refine (CRd.go node_reads H2.out (by simp only [fsize_append, fsize_nums, fsize, HN1.out, List.nil_append] <;> rfl)).mono ?_
  rintro e w3 ⟨rfl, v3, l3, b3, h⟩
  have H3 := Lib.hid h
  clear h
  go_wp2_with fail
  refine (CRd.goList listReport_reads H3.out (by simp only [fsize_append, fsize_nums, fsize, HN1.out, List.nil_append] <;> rfl)).mono ?_
  rintro e w4 ⟨rfl, v4, l4, b4, h⟩
  have H4 := Lib.hid h
  clear h
  go_wp2_with fail
  refine (CRd.go plan_reads H4.out (by simp only [fsize_append, fsize_nums, fsize, HN1.out, List.nil_append] <;> rfl)).mono ?_
  rintro e w5 ⟨rfl, v5, l5, b5, h⟩
  have H5 := Lib.hid h
  clear h
  go_wp2_with fail
  refine (CRd.go conf_reads H5.out (by simp only [fsize_append, fsize_nums, fsize, HN1.out, List.nil_append] <;> rfl)).mono ?_
  rintro e w6 ⟨rfl, v6, l6, b6, h⟩
  have H6 := Lib.hid h
  clear h
  go_wp2_with fail
  go_end0
  exact CRd.fin H6.out (by simp only [List.map_append, nums_fst, HN1.out, List.append_assoc, List.map_cons, List.map_nil, List.nil_append]; rfl)
end Go.Proofs.Ytpfnbilopagepaa
/- codec's get[Cmd] and GetCmd. -/
namespace Go.Proofs.Ytpfnbilopagepaa
open Go.RowKit Go.Lb Go.Rc

set_option maxRecDepth 20000 in
set_option maxHeartbeats 2000000 in
theorem getCmd_any (a : Option Addr) (c : Nat) (l : List Nat) (w : World) (hb : Bytes w (· < w.heap.size) a l) (hc : l.length ≤ c ∧ c ≤ maxLen) :
    Calls Try.prog 66 #[.slice a l.length c, .func (.func 63) #[] #[]] w (GetIs sCmd l w) := by
  have HB := Lib.hid hb
  have HC := Lib.hid hc
  clear hb hc
  go_enter Try.func66, Try.ntmps66
  go_wp2_with (refine wpList_alloc_blk rfl 52 rfl sCmd.zc (zero52 _) ?_; intro wA hA uA)
  rename_i wB hB uB wC hC uC K1 a1 K2 a2
  have uW : Upd [] w (wA.alloc (.cells #[.slice a l.length c, .bool true, .bool false] 157)) := ((uB.trans uC (by simp)).trans uA (by simp)).alloc _
  have s1 := uB.size
  have s2 := uC.size
  have s3 := uA.size
  have l1 := hB.lt
  have l2 := hC.lt
  have l3 := hA.lt
  have hT := (uA.blk (uC.blk hB (by simp)) (by simp)).alloc (.cells #[.slice a l.length c, .bool true, .bool false] 157)
  have hX := (uA.blk hC (by simp)).alloc (.cells #[.slice a l.length c, .bool true, .bool false] 157)
  have hN := hA.alloc (.cells #[.slice a l.length c, .bool true, .bool false] 157)
  refine (cmd_reads w.heap.size wA.heap.size wB.heap.size 0 52 [] [] l false _ ⟨a, c, Blk.new wA 157 [.slice a l.length c, .bool true, .bool false], HB.out.upd uW (by simp), HC.out, by omega⟩ (by omega) (by omega) rfl (by simpa using hX)).mono ?_
  rintro e w1 ⟨rfl, v, cs, l', b', h1, h2, h3, h4, h5⟩
  have hlen : cs.length = 27 := h4.len
  have h3' : Blk w1 wB.heap.size 52 cs := by simpa using h3
  have hT1 : Blk w1 w.heap.size 52 sCmd.zc := h2.blk hT (by simp; omega)
  have hN1 : Blk w1 wC.heap.size 52 sCmd.zc := h2.blk hN (by simp; omega)
  have HU : Hid (Upd [] w w1) := Lib.hid (uW.trans h2 (by simp; omega))
  have HT := Lib.hid hT1
  have HN := Lib.hid hN1
  have HX := Lib.hid h3'
  have HRep := Lib.hid (h4.mono (ok' := fun k => w.heap.size < k) (fun b hb _ => by simp at hb; omega))
  have HR := Lib.hid h5
  obtain ⟨m2, _, _, _, _⟩ := fr_mark h1
  obtain ⟨a', c', hI⟩ := h1
  have f0 := hI.blk.cell (o := 0) rfl
  clear h2 h3 h4 h5 h3' hT1 hN1 hT hX hN hI uA uB uC hA hB hC uW
  by_cases hg : b' = false ∧ l' = []
  · obtain ⟨rfl, rfl⟩ := hg
    have f0' : w1.cell? ⟨wA.heap.size, 0, none⟩ = some (.slice a' 0 c') := f0
    clear f0
    go_wp2_with (first | (refine wpList_load_blk rfl 52 (.tmp 6) rfl wB.heap.size rfl HX.out Try.underlying52 rfl (by rw [hlen]; exact Try.size52) ?_) | (refine wpList_store_blk (o := ⟨none, .store 52 (.tmp 4) (.tmp 28), _, _, _, _⟩) rfl 52 (.tmp 4) (.tmp 28) rfl w.heap.size cs rfl rfl HT.out (by rw [hlen]; exact Try.size52) (by rw [hlen]; rfl) HRep.out.one ?_; intro w3 hb3 hu3))
    have hl := run_loadVar_blk (P := Try.prog) hb3 52 _ Try.underlying52 rfl (by rw [hlen]; exact Try.size52)
    refine bodyPost_ret (v := .tuple #[.agg cs.toArray, .bool true]) ?_ rfl ⟨HU.out.trans hu3 (by simp), cs, v, true, rfl, HRep.out.keep (fun k hk hl => ⟨Nat.le_of_lt hk, hu3.block k hl (by simp; omega)⟩) hu3.size, fun _ => (HR.out.good rfl).2, fun h => (by cases h)⟩
    · rw [results_cell_tmp Try.results66]; simp [asAddr, hl]
  · have t1 : b' = true ∨ (b' = false ∧ decide (0 < l'.length) = true) := by
      cases b' with
      | true => exact .inl rfl
      | false =>
        right
        refine ⟨rfl, ?_⟩
        rw [decide_eq_true_eq, List.length_pos_iff]
        exact fun h => hg ⟨rfl, h⟩
    have HG : Hid (∀ v', sCmd.get l ≠ some (v', [])) := Lib.hid (fun v' hv => by
      cases b' with
      | true =>
        rcases HR.out.bad rfl with h | h
        · cases h
        · rw [hv] at h; cases h
      | false =>
        have := (HR.out.good rfl).2
        rw [hv] at this
        simp only [Option.some.injEq, Prod.mk.injEq] at this
        exact hg ⟨rfl, this.2.symm⟩)
    clear hg
    rcases t1 with rfl | ⟨rfl, t1⟩
    all_goals
      go_wp2_with (first | (refine wpList_load_blk rfl 52 (.tmp 7) rfl wC.heap.size rfl HN.out Try.underlying52 rfl (by exact Try.size52) ?_) | (refine wpList_store_blk (o := ⟨none, .store 52 (.tmp 4) (.tmp 27), _, _, _, _⟩) rfl 52 (.tmp 4) (.tmp 27) rfl w.heap.size sCmd.zc rfl rfl HT.out (by exact Try.size52) (by rfl) (Sch.zc_one sCmd) ?_; intro w3 hb3 hu3))
      have hl := run_loadVar_blk (P := Try.prog) hb3 52 _ Try.underlying52 rfl (by exact Try.size52)
      refine bodyPost_ret (v := .tuple #[.agg sCmd.zc.toArray, .bool false]) ?_ rfl ⟨HU.out.trans hu3 (by simp), sCmd.zc, sCmd.zero, false, rfl, Sch.Rep.zero _ _ _, fun h => (by cases h), fun _ => ⟨HG.out, rfl⟩⟩
      rw [results_cell_tmp Try.results66]; simp [asAddr, hl]

set_option maxRecDepth 20000 in
set_option maxHeartbeats 2000000 in
theorem getCmd_gets : Gets 27 sCmd := by
  intro a c l w hb hc
  have HB := Lib.hid hb
  have HC := Lib.hid hc
  clear hb hc
  go_enter Try.func27, Try.ntmps27
  go_wp2_with (refine wpList_alloc_blk rfl 52 rfl sCmd.zc (zero52 _) ?_; intro wA hA uA)
  have s1 := uA.size
  have l1 := hA.lt
  refine (getCmd_any a c l wA ((HB.out.upd uA (by simp)).mono' s1) HC.out).mono ?_
  rintro e w1 ⟨u1, cs, v, r, rfl, hr, h1, h2⟩
  have hlen : cs.length = 27 := hr.len
  have HT := Lib.hid (u1.blk hA (by simp))
  have HU : Hid (Upd [] w w1) := Lib.hid (uA.trans u1 (by simp))
  have HRep := Lib.hid (hr.mono (ok' := fun k => w.heap.size < k) (fun b hb _ => by omega))
  have H1 := Lib.hid h1
  have H2 := Lib.hid h2
  clear hr h1 h2 u1 uA hA
  go_wp2_with (refine wpList_store_blk (o := ⟨none, .store 52 (.tmp 2) (.tmp 6), _, _, _, _⟩) rfl 52 (.tmp 2) (.tmp 6) rfl w.heap.size cs rfl rfl HT.out (by rw [hlen]; exact Try.size52) (by rw [hlen]; rfl) HRep.out.one ?_; intro w3 hb3 hu3)
  have hl := run_loadVar_blk (P := Try.prog) hb3 52 _ Try.underlying52 rfl (by rw [hlen]; exact Try.size52)
  refine bodyPost_ret (v := .tuple #[.agg cs.toArray, .bool r]) ?_ rfl ⟨HU.out.trans hu3 (by simp), cs, v, r, rfl, HRep.out.keep (fun k hk hl => ⟨Nat.le_of_lt hk, hu3.block k hl (by simp; omega)⟩) hu3.size, H1.out, H2.out⟩
  rw [results_cell_tmp Try.results27]; simp [asAddr, hl]
end Go.Proofs.Ytpfnbilopagepaa
