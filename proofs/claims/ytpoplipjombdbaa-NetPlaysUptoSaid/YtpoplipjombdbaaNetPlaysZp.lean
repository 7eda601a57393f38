/- NetPlays returns true for every input of bulk at most 1048576, and the input reads afterwards as it did. Condition: the bulk. -/
import Derived.Test.YtpoplipjombdbaaZbh
import Derived.BigQuiet
set_option linter.unusedVariables false
set_option linter.unusedSimpArgs false
/- law03's NetPlays, walked. -/
namespace Go.Rc
open Go Go.RowKit Go.Lb
/-- A step. -/
def sOp : Sch := tup [.num, sMsg, .num]
theorem NetAt.empty {T : TypeId} {own : World → Value → List Value → Prop} {w : World} {p m : Nat} {X Y : List Nat} (h : NetAt T own w p m [] X []) (hY : ∀ k ∈ Y, k < w.heap.size ∧ k ∉ X) : NetAt T own w p m [] X Y := by
  obtain ⟨v, us, rfl, h1, h2, h4, h5, h6, h7⟩ := h
  have hl : us = [] := List.eq_nil_of_length_eq_zero h7.len
  subst hl
  exact ⟨v, [], rfl, h1, h2, h4, fun k hk => ⟨fun hm => (hY k hm).2 hk, (h5 k hk).2⟩, fun k hk => (hY k hk).1, Pks.nil⟩
theorem list_at {s : Sch} {w : World} {a : Option Addr} {n c : Nat} {l : List Val} (h : (Sch.list s).Rep w (· < w.heap.size) [.slice a n c] (.list l)) : n = l.length ∧ ∀ i x, l[i]? = some x → ∃ b o us, a = some ⟨b, o, none⟩ ∧ w.rangeAt b (o + i * s.size) us ∧ b < w.heap.size ∧ s.Rep w (· < w.heap.size) us x := by
  obtain ⟨a', c', l', h1, h2, h3⟩ := h
  cases h2
  simp only [List.cons.injEq, Value.slice.injEq, and_true] at h1
  obtain ⟨rfl, rfl, rfl⟩ := h1
  refine ⟨rfl, fun i x hx => ?_⟩
  obtain ⟨b, o, us, k1, _, k2, k3, k4⟩ := h3 i x hx
  exact ⟨b, o, us, k1, k3, k2, k4⟩
/-- A step's parts. -/
theorem op_parts {w : World} {ok : Nat → Prop} {us : List Value} {x : Val} (h : sOp.Rep w ok us x) : ∃ (kd nn : Int) (cs : List Value) (y : Val), us = .int .i64 kd :: (cs ++ [.int .i64 nn]) ∧ cs.length = 46 ∧ sMsg.Rep w ok cs y ∧ sMsg.wmax y ≤ sOp.wmax x := by
  have k0 : (tup [.num, sMsg, .num]).Rep w ok us x := h
  obtain ⟨_, _, _, _, rfl, rfl, ⟨kd, rfl, rfl⟩, k1⟩ := Sch.Rep.tup_cons k0
  obtain ⟨cs, _, y, _, rfl, rfl, kM, k2⟩ := Sch.Rep.tup_cons k1
  obtain ⟨_, _, _, _, rfl, rfl, ⟨nn, rfl, rfl⟩, k3⟩ := Sch.Rep.tup_cons k2
  obtain ⟨rfl, rfl⟩ := Sch.Rep.tup_nil k3
  refine ⟨kd, nn, cs, y, by simp, kM.len, kM, ?_⟩
  show sMsg.wmax y ≤ 6 + (sMsg.wmax y + _)
  omega
theorem op_range {w : World} {b : Nat} {t : TypeId} {kd : Value} {cs r : List Value} (h : Blk w b t (kd :: (cs ++ r))) : w.rangeAt b 1 cs := fun j v hj => by
  have hl := (List.getElem?_eq_some_iff.1 hj).1
  refine h.cell ?_
  rw [Nat.add_comm, List.getElem?_cons_succ, List.getElem?_append_left hl, hj]
end Go.Rc
namespace Go.Proofs.Ytpoplipjombdbaa
open Go.RowKit Go.Lb Go.Rc
theorem Try.size63 : (Try.prog.info? 63).map (·.size) = some 48 := by kernel_rfl
theorem zero63 (w : World) : (zeroValue 63).run Try.prog w = .ok (.agg sOp.zc.toArray) w := by kernel_rfl
/-- Both nets, side by side. -/
structure Both (w0 w : World) (p q m : Nat) (L : List Val) (X Y : List Nat) : Prop where
  n : PNet w p m L X Y
  r : SNet w q m L Y X
  lowX : ∀ k ∈ X, w0.heap.size ≤ k
  lowY : ∀ k ∈ Y, w0.heap.size ≤ k
  upd : Upd [] w0 w
  len : L.length ≤ m
/-- .. in the midst of a step. -/
structure Half (w0 w : World) (p q m : Nat) (L L' : List Val) (X Y : List Nat) : Prop where
  n : PNet w p m L' X Y
  r : SNet w q m L Y X
  lowX : ∀ k ∈ X, w0.heap.size ≤ k
  lowY : ∀ k ∈ Y, w0.heap.size ≤ k
  upd : Upd [] w0 w
section
variable {w0 w w' : World} {p q m : Nat} {L L' : List Val} {X Y X' Y' F : List Nat}
theorem Both.same (h : Both w0 w p q m L X Y) (u : Upd [] w w') : Both w0 w' p q m L X Y :=
  ⟨h.n.same u (by simp) ownN_upd, h.r.same u (by simp) ownS_upd, h.lowX, h.lowY, h.upd.trans u (by simp), h.len⟩
theorem Half.same (h : Half w0 w p q m L L' X Y) (u : Upd [] w w') : Half w0 w' p q m L L' X Y :=
  ⟨h.n.same u (by simp) ownN_upd, h.r.same u (by simp) ownS_upd, h.lowX, h.lowY, h.upd.trans u (by simp)⟩
theorem Both.one (h : Both w0 w p q m L X Y) (n : NetTo w X w' X') (h' : PNet w' p m L' X' (F ++ Y)) : Half w0 w' p q m L L' X' Y :=
  ⟨h'.more (fun k hk => List.mem_append.2 (.inr hk)), h.r.by n ownS_upd h'.lt.1, n.low h.lowX h.upd.size, h.lowY, h.upd.trans n.upd (fun k hk => .inr (h.lowX k hk))⟩
theorem Both.one0 (h : Both w0 w p q m L X Y) (n : NetTo w X w' X') (h' : PNet w' p m L' X' Y) : Half w0 w' p q m L L' X' Y := Both.one (F := []) h n h'
theorem Half.two (h : Half w0 w p q m L L' X Y) (n : NetTo w Y w' Y') (h' : SNet w' q m L' Y' (F ++ X)) (hl : L'.length ≤ m) : Both w0 w' p q m L' X Y' :=
  ⟨h.n.by n ownN_upd h'.lt.1, h'.more (fun k hk => List.mem_append.2 (.inr hk)), h.lowX, n.low h.lowY h.upd.size, h.upd.trans n.upd (fun k hk => .inr (h.lowY k hk)), hl⟩
theorem Half.two0 (h : Half w0 w p q m L L' X Y) (n : NetTo w Y w' Y') (h' : SNet w' q m L' Y' X) (hl : L'.length ≤ m) : Both w0 w' p q m L' X Y' := Half.two (F := []) h n h' hl
theorem Both.apart (h : Both w0 w p q m L X Y) {b : Nat} (hb : w.heap.size ≤ b) : b ∉ X ∧ b ∉ Y :=
  ⟨fun hx => by have := h.n.lt.1 b hx; omega, fun hy => by have := h.n.lt.2.1 b hy; omega⟩
set_option maxRecDepth 20000 in
theorem nlen_same (h : PNet w p m L X Y) : Calls Try.prog 31 #[.pointer (some ⟨p, 0, none⟩)] w fun e w' => e = .returned (.int .i64 (L.length : Int)) ∧ w' = w := by
  obtain ⟨v, us, _, hb, ho, _, _, _, hp⟩ := h
  obtain ⟨a, c, rfl⟩ := own_shape' ho
  rw [hp.len] at hb
  have c1 := hb.cell (o := 1) rfl
  have c2 := hb.lt
  clear hb ho hp
  go_enter Try.func31, Try.ntmps31
  go_wp2_with fail
  refine bodyPost_ret (results_tmp rfl _ _ _) rfl ?_
  exact ⟨rfl, rfl⟩
theorem snet_cell (h : SNet w p m L X Y) : ∃ a c, w.cell? ⟨p, 1, none⟩ = some (.slice a L.length c) ∧ p < w.heap.size := by
  obtain ⟨v, us, _, hb, ho, _, _, _, hp⟩ := h
  obtain ⟨a, c, rfl⟩ := Win.shape ho
  rw [hp.len] at hb
  exact ⟨a, c, hb.cell (o := 1) rfl, hb.lt⟩
end

set_option maxRecDepth 20000 in
set_option maxHeartbeats 8000000 in
theorem netplays_ok (most : Int) (a : Option Addr) (c : Nat) (l : List Val) (w : World) (hr : (Sch.list sOp).Rep w (· < w.heap.size) [.slice a l.length c] (.list l)) (hl : (Sch.list sOp).wmax (.list l) ≤ 6291456) (hll : l.length ≤ 6291456) :
    Calls Try.prog 6 #[.int .i64 most, .slice a l.length c] w fun e w' => e = .returned (.bool true) ∧ Upd [] w w' := by
  have HEL : Hid (∀ wi, Upd [] w wi → ∀ (i : Nat) (x : Val), l[i]? = some x → ∃ b o us, a = some ⟨b, o, none⟩ ∧ wi.rangeAt b (o + i * 48) us ∧ b < wi.heap.size ∧ sOp.Rep w (· < w.heap.size) us x) := Lib.hid (fun wi u i x hx => by
    obtain ⟨b, o, us, h1, h2, h3, h4⟩ := (list_at hr).2 i x hx
    exact ⟨b, o, us, h1, rangeAt_keep h2 (u.block b h3 (by simp)), Nat.lt_of_lt_of_le h3 u.size, h4⟩)
  have HWX : Hid (∀ (i : Nat) (x : Val), l[i]? = some x → sOp.wmax x ≤ 6291456) := Lib.hid (fun i x hx => Nat.le_trans (wmax_at (s := sOp) hx) hl)
  have HWZ : Hid (sMsg.wmax sMsg.zero ≤ 1099511627776) := Lib.hid (Nat.le_trans (Sch.wmax_le _ _ (Sch.good_zero _)) (of_decide_eq_true (by kernel_rfl)))
  clear hr hl
  by_cases hm : 1 ≤ most ∧ most ≤ 256
  rotate_left
  · have hno : most < 1 ∨ 256 < most := by omega
    have HNO := Lib.hid hno
    clear hno hm HEL HWX
    go_enter Try.func6, Try.ntmps6
    go_wp2_with fail
    refine (nnew_no most w HNO.out).mono ?_
    rintro e w1 ⟨rfl, uu⟩
    have U1 := Lib.hid uu
    clear uu
    go_wp2_with fail
    refine (snew_no most w1 HNO.out).mono ?_
    rintro e w2 ⟨rfl, uu⟩
    have U2 := Lib.hid (U1.out.trans uu (by simp))
    clear uu
    go_wp2_with fail
    refine (nknown_true _).mono ?_
    rintro e w3 ⟨rfl, uu⟩
    have U3 := Lib.hid (U2.out.trans uu (by simp))
    clear uu
    go_wp2_with fail
    refine bodyPost_ret (results_tmp rfl _ _ _) rfl ?_
    exact ⟨rfl, U3.out⟩
  · obtain ⟨m, rfl⟩ : ∃ m : Nat, most = m := ⟨most.toNat, by omega⟩
    have hm1 : 1 ≤ m := by omega
    have hm2 : m ≤ 256 := by omega
    clear hm
    go_enter Try.func6, Try.ntmps6
    go_wp2_with fail
    refine (nnew_yes m w hm1 hm2).mono ?_
    rintro e w1 ⟨rfl, u1, h1⟩
    obtain ⟨p, hp⟩ : ∃ p, p = w.heap.size := ⟨_, rfl⟩
    rw [← hp] at h1 ⊢
    have HP := Lib.hid hp
    have U1 := Lib.hid u1
    have H1 := Lib.hid h1
    clear u1 h1 hp
    go_wp2_with fail
    refine (snew_yes m w1 hm1 hm2).mono ?_
    rintro e w2 ⟨rfl, u2, h2⟩
    obtain ⟨q, hq⟩ : ∃ q, q = w1.heap.size := ⟨_, rfl⟩
    rw [← hq] at h2 ⊢
    have hpl := H1.out.lt.1 p (by simp)
    have hql := h2.lt.1 q (by simp)
    have HB2 : Hid (Both w w2 p q m [] [p] [q]) := Lib.hid ⟨(H1.out.same u2 (by simp) ownN_upd).empty (fun k hk => by simp at hk; subst hk; exact ⟨hql, by simp; omega⟩), h2.empty (fun k hk => by simp at hk; subst hk; have := u2.size; exact ⟨by omega, by simp; omega⟩), fun k hk => by simp at hk; subst hk; rw [HP.out]; exact Nat.le_refl _, fun k hk => by simp at hk; subst hk; rw [hq]; exact U1.out.size, U1.out.trans u2 (by simp), by simp⟩
    clear u2 h2 hq hpl hql
    go_wp2_with fail
    refine (nknown_true _).mono ?_
    rintro e w3 ⟨rfl, uu⟩
    have HB3 := Lib.hid (HB2.out.same uu)
    clear uu
    go_wp2_with fail
    go_loopg [7] l.length (fun g t wr => ∃ (i : Nat) (L : List Val) (X Y : List Nat), t = .int .i64 i ∧ l.length - i = g ∧ i ≤ l.length ∧ Both w wr p q m L X Y)
    case atStart => exact ⟨0, [], [p], [q], rfl, rfl, by omega, HB3.out⟩
    case round =>
      obtain ⟨i, L, X, Y, rfl, hg, hi, hB⟩ := hrel
      have HG := Lib.hid hg
      have HBo := Lib.hid hB
      have hLm := hB.len
      have hsz := hB.upd.size
      clear hg hB
      by_cases hlt : i < l.length
      rotate_left
      · have t1 : decide (i < l.length) = false := by simpa using hlt
        go_wp2_with fail
        refine bodyPost_ret (results_tmp rfl _ _ _) rfl ?_
        exact ⟨rfl, HBo.out.upd⟩
      · have t1 : decide (i < l.length) = true := by simpa using hlt
        obtain ⟨x, hx⟩ : ∃ x, l[i]? = some x := ⟨_, List.getElem?_eq_getElem hlt⟩
        obtain ⟨b, o, us, ha, hrg, hbl, hru⟩ := HEL.out wr HBo.out.upd i x hx
        have hwx := HWX.out i x hx
        subst ha
        obtain ⟨kd, nn, cs, y, hus, hcl, hry, hwy⟩ := op_parts hru
        have HONE := Lib.hid hru.one
        have hul : us.length = 48 := hru.len
        have HUL := Lib.hid hul
        have HRG := Lib.hid hrg
        have HUS := Lib.hid hus
        have HRY : Hid (∀ wi, Upd [] w wi → sMsg.Rep wi (· < wi.heap.size) cs y) := Lib.hid (fun wi u => rep_all hry u)
        have HWY : Hid (sMsg.wmax y ≤ 1099511627776) := Lib.hid (by omega)
        have e0 : us[0]? = some (.int .i64 kd) := by rw [hus]; rfl
        have e47 : us[47]? = some (.int .i64 nn) := by
          rw [hus, List.getElem?_cons_succ, List.getElem?_append_right (by omega), show 46 - cs.length = 0 by omega]; rfl
        have HE0 := Lib.hid e0
        have HE47 := Lib.hid e47
        clear hx hwx hrg hru hry hwy hus hul e0 e47
        go_upto_region 12 with (first | (refine wpList_load_mid rfl 63 (.tmp 37) rfl b (o + i * 48) rfl us _ HRG.out Try.underlying63 rfl (by rw [HUL.out]; exact Try.size63) ?_) | (refine wpList_alloc_blk rfl 63 rfl sOp.zc (zero63 _) ?_; intro wP hP uP; have HPb := Lib.hid hP; have UP := Lib.hid uP; clear hP uP) | (refine wpList_store_blk rfl 63 (.tmp 8) (.tmp 38) rfl wr.heap.size us rfl rfl HPb.out (by rw [HUL.out]; exact Try.size63) (by rw [HUL.out]; rfl) HONE.out ?_; intro w5 hd ud; have HD5 := Lib.hid hd; have V5 : Hid (Upd [] wr w5) := Lib.hid (UP.out.trans ud (by simp)); clear hd ud))
        obtain ⟨xb, hxb⟩ : ∃ xb, xb = wr.heap.size := ⟨_, rfl⟩
        rw [← hxb] at HD5 ⊢
        have HB5 := Lib.hid (HBo.out.same V5.out)
        have hap := HBo.out.apart (b := xb) (by omega)
        have HXY := Lib.hid hap
        have x0 := HD5.out.cell HE0.out
        have x47 := HD5.out.cell HE47.out
        have xl := HD5.out.lt
        clear hxb hap
        by_cases hk0 : kd = 0
        · have k0 : (kd == 0) = true := by rw [beq_iff_eq]; omega
          clear hk0
          obtain ⟨gd, hgd⟩ := good_dec sMsg y
          have HGD := Lib.hid hgd
          clear hgd
          have HLL : Hid ((bif gd then came m L y else L).length ≤ m) := Lib.hid (by cases gd; exact hLm; exact came_len hLm hm1)
          go_wp2_with fail
          refine wp_region_lex (fun w' => Blk w' xb 63 us) 99 [(0, true), (1, true), (2, true), (4, true), (5, true), (6, true), (3, false), (7, false), (8, false), (9, false)] (by kernel_rfl) (by kernel_rfl) (by kernel_rfl) (by kernel_rfl) (fun _ _ d _ _ h => by cases d <;> exact h) ?_
          simp only [lexOps, List.map_cons, List.map_nil, List.getD_cons_zero, List.getD_cons_succ]
          have hS0 : Blk w5.drew xb 63 us := HD5.out.drew
          iterate 2 (refine lex_read rfl (by exact hS0) (v := ?_) (fun w' hw => ?_) ?_; rotate_left; (focus (go_simp; try with_reducible rfl)); simp only [Act.put, List.setIfInBounds_toArray, List.set_cons_zero, List.set_cons_succ])
          refine lex_read rfl (by exact hS0) (fun w' hw => exec_load (by rfl) (by rfl) (run_loadAt_mid w' xb 1 61 cs _ (op_range (t := 63) (kd := .int .i64 kd) (r := [.int .i64 nn]) (by rw [← HUS.out]; exact hw)) Try.underlying61 rfl (by rw [hcl]; exact Try.size61))) ?_
          simp only [Act.put, List.setIfInBounds_toArray, List.set_cons_zero, List.set_cons_succ]
          iterate 2 (refine lex_read rfl (by exact hS0) (v := ?_) (fun w' hw => ?_) ?_; rotate_left; (focus (go_simp; try with_reducible rfl)); simp only [Act.put, List.setIfInBounds_toArray, List.set_cons_zero, List.set_cons_succ])
          refine lex_read rfl (by exact hS0) (fun w' hw => exec_load (by rfl) (by rfl) (run_loadAt_mid w' xb 1 61 cs _ (op_range (t := 63) (kd := .int .i64 kd) (r := [.int .i64 nn]) (by rw [← HUS.out]; exact hw)) Try.underlying61 rfl (by rw [hcl]; exact Try.size61))) ?_
          simp only [Act.put, List.setIfInBounds_toArray, List.set_cons_zero, List.set_cons_succ]
          have HB6 := Lib.hid (HB5.out.same ((Upd.refl [] w5).drew))
          refine lex_do rfl (fun K hK => ?_)
          go_simp
          refine (nsend_any cs y gd HB6.out.n (HRY.out _ HB6.out.upd) HWY.out HGD.out hm1 hm2 hLm).mono ?_
          rintro e w6 ⟨rfl, X1, n1, h1⟩
          have HH6 := Lib.hid (HB6.out.one0 n1 h1)
          have hS6 : Blk w6 xb 63 us := n1.upd.blk hS0 HXY.out.1
          refine hK _ _ (fun _ => hS6) ?_
          clear hK K
          try simp only [Act.put, List.setIfInBounds_toArray, List.set_cons_zero, List.set_cons_succ]
          refine lex_do rfl (fun K hK => ?_)
          go_simp
          refine (ssend_any cs y gd HH6.out.r (HRY.out _ HH6.out.upd) HWY.out HGD.out hm1 hm2 hLm).mono ?_
          rintro e w7 ⟨rfl, Y1, n2, h2⟩
          have HBz := Lib.hid (HH6.out.two0 n2 h2 HLL.out)
          have hS7 : Blk w7 xb 63 us := n2.upd.blk hS6 HXY.out.2
          refine hK _ _ (fun _ => hS7) ?_
          clear hK K
          try simp only [Act.put, List.setIfInBounds_toArray, List.set_cons_zero, List.set_cons_succ]
          have te : (errOf gd == errOf gd) = true := by simp
          refine lex_do rfl (fun K hK => ?_)
          go_simp
          refine hK _ _ (fun _ => hS7) ?_
          clear hK K
          try simp only [Act.put, List.setIfInBounds_toArray, List.set_cons_zero, List.set_cons_succ]
          refine lex_do rfl (fun K hK => ?_)
          go_simp
          refine hK _ _ (fun _ => hS7) ?_
          clear hK K
          try simp only [Act.put, List.setIfInBounds_toArray, List.set_cons_zero, List.set_cons_succ]
          refine lex_nil ?_
          obtain ⟨ra, rc, r1, r2⟩ := snet_cell HBz.out.r
          go_wp2_with fail
          go_quiet ((go_at_call 31; exact Calls.quiet_of_same ((nlen_same (HBz.out.n.same ((Upd.refl [] _).drewN _) (by simp) ownN_upd)).mono fun e w' h => ⟨h.1, h.2⟩)))
          go_wp2_with fail
          go_roundg (l.length - (i + 1))
          case measure => have := HG.out; omega
          case rel => exact ⟨i + 1, (bif gd then came m L y else L), _, _, by go_num, rfl, by omega, HBz.out.same ((Upd.refl [] _).drewN _)⟩
        by_cases hk1 : kd = 1
        · have k0 : (kd == 0) = false := by rw [beq_eq_false_iff_ne]; omega
          have k1 : (kd == 1) = true := by rw [beq_iff_eq]; omega
          clear hk1 hk0
          by_cases hnn : 0 ≤ nn ∧ nn < (L.length : Int)
          · obtain ⟨k, rfl⟩ : ∃ k : Nat, nn = k := ⟨nn.toNat, by omega⟩
            have hk : k < L.length := by omega
            clear hnn
            obtain ⟨z, hz⟩ : ∃ z, L[k]? = some z := ⟨_, List.getElem?_eq_getElem hk⟩
            have HZ := Lib.hid hz
            clear hz
            have HLL : Hid ((L.eraseIdx k).length ≤ m) := Lib.hid (by rw [List.length_eraseIdx]; split <;> omega)
            go_wp2_with fail
            refine (ndeliver_yes k z HB5.out.n HZ.out (by omega)).mono ?_
            rintro e w6 ⟨ds, X1, F1, rfl, n1, h1, hr1, hf1⟩
            have HH6 := Lib.hid (HB5.out.one n1 h1)
            have HD6 := Lib.hid (n1.upd.blk HD5.out HXY.out.1)
            have hdl : ds.length = 46 := hr1.len
            have HO1 := Lib.hid hr1.one
            have HR1 := Lib.hid hr1
            have HF1 := Lib.hid hf1
            have s6 := n1.upd.size
            have hYl := HB5.out.n.lt.2.1
            have HYL := Lib.hid hYl
            clear n1 h1 hr1 hf1 hYl x0 x47 xl
            go_wp2_with (first | (refine wpList_alloc_blk rfl 61 rfl sMsg.zc (zero61 _) ?_; intro wQ10 hP uP; have HPb10 := Lib.hid hP; have UP10 := Lib.hid uP; clear hP uP) | (refine wpList_store_blk rfl 61 (.tmp 10) (.tmp 59) rfl w6.heap.size ds rfl rfl HPb10.out (by rw [hdl]; exact Try.size61) (by first | rfl | (rw [hdl]; rfl)) HO1.out ?_; intro w7 hd ud; have HT10 := Lib.hid hd; have V10 : Hid (Upd [] w6 w7) := Lib.hid (UP10.out.trans ud (by simp)); have x47 := (V10.out.blk HD6.out (by simp)).cell HE47.out; have xl := (V10.out.blk HD6.out (by simp)).lt; clear hd ud))
            have HH7 := Lib.hid (HH6.out.same V10.out)
            have HR7 := Lib.hid (HR1.out.updM V10.out (by simp))
            have s7 := V10.out.size
            refine (sdeliver_yes k z HH7.out.r HZ.out (by omega)).mono ?_
            rintro e w8 ⟨es, Y1, F2, rfl, n2, h2, hr2, hf2⟩
            have HB8 := Lib.hid (HH7.out.two n2 h2 HLL.out)
            have hel : es.length = 46 := hr2.len
            have HO2 := Lib.hid hr2.one
            have HR2 := Lib.hid hr2
            have hYn : ∀ k, w5.heap.size ≤ k → k ∉ Y := fun k hk hy => by have := HYL.out k hy; omega
            have HT8 := Lib.hid (n2.upd.blk HT10.out (hYn _ s6))
            have HR8 := Lib.hid (HR7.out.updM n2.upd (fun k hk => hYn k (HF1.out k hk).1))
            clear n2 h2 hr2 hf2 x47 xl hYn
            have HZW : Hid (sMsg.wmax z ≤ 1099511627776) := Lib.hid (Nat.le_trans (Sch.wmax_le _ _ (HB5.out.n.len z (List.mem_of_getElem? HZ.out))) (of_decide_eq_true (by kernel_rfl)))
            go_wp2_with (first | (refine wpList_alloc_blk rfl 61 rfl sMsg.zc (zero61 _) ?_; intro wQ12 hP uP; have HPb12 := Lib.hid hP; have UP12 := Lib.hid uP; clear hP uP) | (refine wpList_store_blk rfl 61 (.tmp 12) (.tmp 66) rfl w8.heap.size es rfl rfl HPb12.out (by rw [hel]; exact Try.size61) (by first | rfl | (rw [hel]; rfl)) HO2.out ?_; intro w9 hd ud; have HT12 := Lib.hid hd; have V12 : Hid (Upd [] w8 w9) := Lib.hid (UP12.out.trans ud (by simp)); have HT9 : Hid (Blk w9 w6.heap.size 61 ds) := Lib.hid (V12.out.blk HT8.out (by simp)); clear hd ud) | (refine wpList_load_g (by first | rfl | simp [Region.wanted, yielded]) 61 (.tmp 10) rfl w6.heap.size rfl HT9.out Try.underlying61 rfl (by rw [hdl]; exact Try.size61) ?_) | (refine wpList_load_g (by first | rfl | simp [Region.wanted, yielded]) 61 (.tmp 12) rfl w8.heap.size rfl HT12.out Try.underlying61 rfl (by rw [hel]; exact Try.size61) ?_))
            have HB9 := Lib.hid (HB8.out.same V12.out)
            refine (nsame_eq ds es z w9 ((HR8.out.updM V12.out (by simp)).mono (fun _ _ h => h)) ((HR2.out.updM V12.out (by simp)).mono (fun _ _ h => h)) HZW.out).mono ?_
            rintro e w10 ⟨rfl, uu⟩
            have HBz := Lib.hid (HB9.out.same uu)
            clear uu
            obtain ⟨ra, rc, r1, r2⟩ := snet_cell HBz.out.r
            go_wp2_with fail
            go_quiet ((go_at_call 31; exact Calls.quiet_of_same ((nlen_same (HBz.out.n.same ((Upd.refl [] _).drewN _) (by simp) ownN_upd)).mono fun e w' h => ⟨h.1, h.2⟩)))
            go_wp2_with fail
            go_roundg (l.length - (i + 1))
            case measure => have := HG.out; omega
            case rel => exact ⟨i + 1, L.eraseIdx k, _, _, by go_num, rfl, by omega, HBz.out.same ((Upd.refl [] _).drewN _)⟩
          · have HNN := Lib.hid hnn
            clear hnn
            go_wp2_with fail
            refine (ndeliver_no nn HB5.out.n HNN.out).mono ?_
            rintro e w6 ⟨rfl, u6⟩
            have HB6 := Lib.hid (HB5.out.same u6)
            have HD6 := Lib.hid (u6.blk HD5.out (by simp))
            clear u6 x0 x47 xl
            go_wp2_with (first | (refine wpList_alloc_blk rfl 61 rfl sMsg.zc (zero61 _) ?_; intro wQ10 hP uP; have HPb10 := Lib.hid hP; have UP10 := Lib.hid uP; clear hP uP) | (refine wpList_store_blk rfl 61 (.tmp 10) (.tmp 59) rfl w6.heap.size sMsg.zc rfl rfl HPb10.out (by rw [zcMsg]; exact Try.size61) (by first | rfl | (rw [zcMsg]; rfl)) (Sch.zc_one _) ?_; intro w7 hd ud; have HT10 := Lib.hid hd; have V10 : Hid (Upd [] w6 w7) := Lib.hid (UP10.out.trans ud (by simp)); have x47 := (V10.out.blk HD6.out (by simp)).cell HE47.out; have xl := (V10.out.blk HD6.out (by simp)).lt; clear hd ud))
            have HB7 := Lib.hid (HB6.out.same V10.out)
            refine (sdeliver_no nn HB7.out.r HNN.out).mono ?_
            rintro e w8 ⟨rfl, u8⟩
            have HB8 := Lib.hid (HB7.out.same u8)
            have HT8 := Lib.hid (u8.blk HT10.out (by simp))
            clear u8 x47 xl
            go_wp2_with (first | (refine wpList_alloc_blk rfl 61 rfl sMsg.zc (zero61 _) ?_; intro wQ12 hP uP; have HPb12 := Lib.hid hP; have UP12 := Lib.hid uP; clear hP uP) | (refine wpList_store_blk rfl 61 (.tmp 12) (.tmp 66) rfl w8.heap.size sMsg.zc rfl rfl HPb12.out (by rw [zcMsg]; exact Try.size61) (by first | rfl | (rw [zcMsg]; rfl)) (Sch.zc_one _) ?_; intro w9 hd ud; have HT12 := Lib.hid hd; have V12 : Hid (Upd [] w8 w9) := Lib.hid (UP12.out.trans ud (by simp)); have HT9 : Hid (Blk w9 w6.heap.size 61 sMsg.zc) := Lib.hid (V12.out.blk HT8.out (by simp)); clear hd ud) | (refine wpList_load_g (by first | rfl | simp [Region.wanted, yielded]) 61 (.tmp 10) rfl w6.heap.size rfl HT9.out Try.underlying61 rfl (by exact Try.size61) ?_) | (refine wpList_load_g (by first | rfl | simp [Region.wanted, yielded]) 61 (.tmp 12) rfl w8.heap.size rfl HT12.out Try.underlying61 rfl (by exact Try.size61) ?_))
            have HB9 := Lib.hid (HB8.out.same V12.out)
            refine (nsame_eq sMsg.zc sMsg.zc sMsg.zero w9 (Sch.Rep.zero _ _ _) (Sch.Rep.zero _ _ _) HWZ.out).mono ?_
            rintro e w10 ⟨rfl, uu⟩
            have HBz := Lib.hid (HB9.out.same uu)
            clear uu
            obtain ⟨ra, rc, r1, r2⟩ := snet_cell HBz.out.r
            go_wp2_with fail
            go_quiet ((go_at_call 31; exact Calls.quiet_of_same ((nlen_same (HBz.out.n.same ((Upd.refl [] _).drewN _) (by simp) ownN_upd)).mono fun e w' h => ⟨h.1, h.2⟩)))
            go_wp2_with fail
            go_roundg (l.length - (i + 1))
            case measure => have := HG.out; omega
            case rel => exact ⟨i + 1, L, _, _, by go_num, rfl, by omega, HBz.out.same ((Upd.refl [] _).drewN _)⟩
        by_cases hk2 : kd = 2
        · have k0 : (kd == 0) = false := by rw [beq_eq_false_iff_ne]; omega
          have k1 : (kd == 1) = false := by rw [beq_eq_false_iff_ne]; omega
          have k2 : (kd == 2) = true := by rw [beq_iff_eq]; omega
          clear hk2 hk0 hk1
          by_cases hnn : 0 ≤ nn ∧ nn < (L.length : Int)
          · obtain ⟨k, rfl⟩ : ∃ k : Nat, nn = k := ⟨nn.toNat, by omega⟩
            have hk : k < L.length := by omega
            clear hnn
            have HLL : Hid ((L.eraseIdx k).length ≤ m) := Lib.hid (by rw [List.length_eraseIdx]; split <;> omega)
            go_wp2_with fail
            refine wp_region_lex (fun w' => Blk w' xb 63 us) 99 [(0, true), (1, true), (2, true), (4, true), (5, true), (6, true), (3, false), (7, false), (8, false), (9, false)] (by kernel_rfl) (by kernel_rfl) (by kernel_rfl) (by kernel_rfl) (fun _ _ d _ _ h => by cases d <;> exact h) ?_
            simp only [lexOps, List.map_cons, List.map_nil, List.getD_cons_zero, List.getD_cons_succ]
            have hS0 : Blk w5.drew xb 63 us := HD5.out.drew
            iterate 2 (refine lex_read rfl (by exact hS0) (v := ?_) (fun w' hw => ?_) ?_; rotate_left; (focus (go_simp; try with_reducible rfl)); simp only [Act.put, List.setIfInBounds_toArray, List.set_cons_zero, List.set_cons_succ])
            refine lex_read rfl (by exact hS0) (v := .int .i64 (k : Int)) (fun w' hw => ?_) ?_
            · have y47 := hw.cell HE47.out
              go_simp
            simp only [Act.put, List.setIfInBounds_toArray, List.set_cons_zero, List.set_cons_succ]
            iterate 2 (refine lex_read rfl (by exact hS0) (v := ?_) (fun w' hw => ?_) ?_; rotate_left; (focus (go_simp; try with_reducible rfl)); simp only [Act.put, List.setIfInBounds_toArray, List.set_cons_zero, List.set_cons_succ])
            refine lex_read rfl (by exact hS0) (v := .int .i64 (k : Int)) (fun w' hw => ?_) ?_
            · have y47 := hw.cell HE47.out
              go_simp
            simp only [Act.put, List.setIfInBounds_toArray, List.set_cons_zero, List.set_cons_succ]
            have HB6 := Lib.hid (HB5.out.same ((Upd.refl [] w5).drew))
            refine lex_do rfl (fun K hK => ?_)
            go_simp
            refine (nlose_yes k HB6.out.n hk (by omega)).mono ?_
            rintro e w6 ⟨rfl, X1, n1, h1⟩
            have HH6 := Lib.hid (HB6.out.one0 n1 h1)
            have hS6 : Blk w6 xb 63 us := n1.upd.blk hS0 HXY.out.1
            refine hK _ _ (fun _ => hS6) ?_
            clear hK K
            try simp only [Act.put, List.setIfInBounds_toArray, List.set_cons_zero, List.set_cons_succ]
            refine lex_do rfl (fun K hK => ?_)
            go_simp
            refine (slose_yes k HH6.out.r hk (by omega)).mono ?_
            rintro e w7 ⟨rfl, Y1, n2, h2⟩
            have HBz := Lib.hid (HH6.out.two0 n2 h2 HLL.out)
            have hS7 : Blk w7 xb 63 us := n2.upd.blk hS6 HXY.out.2
            refine hK _ _ (fun _ => hS7) ?_
            clear hK K
            try simp only [Act.put, List.setIfInBounds_toArray, List.set_cons_zero, List.set_cons_succ]
            refine lex_do rfl (fun K hK => ?_)
            go_simp
            refine hK _ _ (fun _ => hS7) ?_
            clear hK K
            try simp only [Act.put, List.setIfInBounds_toArray, List.set_cons_zero, List.set_cons_succ]
            refine lex_do rfl (fun K hK => ?_)
            go_simp
            refine hK _ _ (fun _ => hS7) ?_
            clear hK K
            try simp only [Act.put, List.setIfInBounds_toArray, List.set_cons_zero, List.set_cons_succ]
            refine lex_nil ?_
            obtain ⟨ra, rc, r1, r2⟩ := snet_cell HBz.out.r
            go_wp2_with fail
            go_quiet ((go_at_call 31; exact Calls.quiet_of_same ((nlen_same (HBz.out.n.same ((Upd.refl [] _).drewN _) (by simp) ownN_upd)).mono fun e w' h => ⟨h.1, h.2⟩)))
            go_wp2_with fail
            go_roundg (l.length - (i + 1))
            case measure => have := HG.out; omega
            case rel => exact ⟨i + 1, L.eraseIdx k, _, _, by go_num, rfl, by omega, HBz.out.same ((Upd.refl [] _).drewN _)⟩
          · have HNN := Lib.hid hnn
            clear hnn
            go_wp2_with fail
            refine wp_region_lex (fun w' => Blk w' xb 63 us) 99 [(0, true), (1, true), (2, true), (4, true), (5, true), (6, true), (3, false), (7, false), (8, false), (9, false)] (by kernel_rfl) (by kernel_rfl) (by kernel_rfl) (by kernel_rfl) (fun _ _ d _ _ h => by cases d <;> exact h) ?_
            simp only [lexOps, List.map_cons, List.map_nil, List.getD_cons_zero, List.getD_cons_succ]
            have hS0 : Blk w5.drew xb 63 us := HD5.out.drew
            iterate 2 (refine lex_read rfl (by exact hS0) (v := ?_) (fun w' hw => ?_) ?_; rotate_left; (focus (go_simp; try with_reducible rfl)); simp only [Act.put, List.setIfInBounds_toArray, List.set_cons_zero, List.set_cons_succ])
            refine lex_read rfl (by exact hS0) (v := .int .i64 nn) (fun w' hw => ?_) ?_
            · have y47 := hw.cell HE47.out
              go_simp
            simp only [Act.put, List.setIfInBounds_toArray, List.set_cons_zero, List.set_cons_succ]
            iterate 2 (refine lex_read rfl (by exact hS0) (v := ?_) (fun w' hw => ?_) ?_; rotate_left; (focus (go_simp; try with_reducible rfl)); simp only [Act.put, List.setIfInBounds_toArray, List.set_cons_zero, List.set_cons_succ])
            refine lex_read rfl (by exact hS0) (v := .int .i64 nn) (fun w' hw => ?_) ?_
            · have y47 := hw.cell HE47.out
              go_simp
            simp only [Act.put, List.setIfInBounds_toArray, List.set_cons_zero, List.set_cons_succ]
            have HB6 := Lib.hid (HB5.out.same ((Upd.refl [] w5).drew))
            refine lex_do rfl (fun K hK => ?_)
            go_simp
            refine (nlose_no nn HB6.out.n HNN.out).mono ?_
            rintro e w6 ⟨rfl, u6⟩
            have HH6 := Lib.hid (HB6.out.same u6)
            have hS6 : Blk w6 xb 63 us := u6.blk hS0 (by simp)
            refine hK _ _ (fun _ => hS6) ?_
            clear hK K
            try simp only [Act.put, List.setIfInBounds_toArray, List.set_cons_zero, List.set_cons_succ]
            refine lex_do rfl (fun K hK => ?_)
            go_simp
            refine (slose_no nn HH6.out.r HNN.out).mono ?_
            rintro e w7 ⟨rfl, u7⟩
            have HBz := Lib.hid (HH6.out.same u7)
            have hS7 : Blk w7 xb 63 us := u7.blk hS6 (by simp)
            refine hK _ _ (fun _ => hS7) ?_
            clear hK K
            try simp only [Act.put, List.setIfInBounds_toArray, List.set_cons_zero, List.set_cons_succ]
            refine lex_do rfl (fun K hK => ?_)
            go_simp
            refine hK _ _ (fun _ => hS7) ?_
            clear hK K
            try simp only [Act.put, List.setIfInBounds_toArray, List.set_cons_zero, List.set_cons_succ]
            refine lex_do rfl (fun K hK => ?_)
            go_simp
            refine hK _ _ (fun _ => hS7) ?_
            clear hK K
            try simp only [Act.put, List.setIfInBounds_toArray, List.set_cons_zero, List.set_cons_succ]
            refine lex_nil ?_
            obtain ⟨ra, rc, r1, r2⟩ := snet_cell HBz.out.r
            go_wp2_with fail
            go_quiet ((go_at_call 31; exact Calls.quiet_of_same ((nlen_same (HBz.out.n.same ((Upd.refl [] _).drewN _) (by simp) ownN_upd)).mono fun e w' h => ⟨h.1, h.2⟩)))
            go_wp2_with fail
            go_roundg (l.length - (i + 1))
            case measure => have := HG.out; omega
            case rel => exact ⟨i + 1, L, _, _, by go_num, rfl, by omega, HBz.out.same ((Upd.refl [] _).drewN _)⟩
        by_cases hk3 : kd = 3
        · have k0 : (kd == 0) = false := by rw [beq_eq_false_iff_ne]; omega
          have k1 : (kd == 1) = false := by rw [beq_eq_false_iff_ne]; omega
          have k2 : (kd == 2) = false := by rw [beq_eq_false_iff_ne]; omega
          have k3 : (kd == 3) = true := by rw [beq_iff_eq]; omega
          clear hk3 hk0 hk1 hk2
          by_cases hnn : 0 ≤ nn ∧ nn < (L.length : Int)
          · obtain ⟨k, rfl⟩ : ∃ k : Nat, nn = k := ⟨nn.toNat, by omega⟩
            have hk : k < L.length := by omega
            clear hnn
            obtain ⟨z, hz⟩ : ∃ z, L[k]? = some z := ⟨_, List.getElem?_eq_getElem hk⟩
            have HZ := Lib.hid hz
            clear hz
            have HLL : Hid ((came m L z).length ≤ m) := Lib.hid (came_len hLm hm1)
            go_wp2_with fail
            refine wp_region_lex (fun w' => Blk w' xb 63 us) 99 [(0, true), (1, true), (2, true), (4, true), (5, true), (6, true), (3, false), (7, false), (8, false), (9, false)] (by kernel_rfl) (by kernel_rfl) (by kernel_rfl) (by kernel_rfl) (fun _ _ d _ _ h => by cases d <;> exact h) ?_
            simp only [lexOps, List.map_cons, List.map_nil, List.getD_cons_zero, List.getD_cons_succ]
            have hS0 : Blk w5.drew xb 63 us := HD5.out.drew
            iterate 2 (refine lex_read rfl (by exact hS0) (v := ?_) (fun w' hw => ?_) ?_; rotate_left; (focus (go_simp; try with_reducible rfl)); simp only [Act.put, List.setIfInBounds_toArray, List.set_cons_zero, List.set_cons_succ])
            refine lex_read rfl (by exact hS0) (v := .int .i64 (k : Int)) (fun w' hw => ?_) ?_
            · have y47 := hw.cell HE47.out
              go_simp
            simp only [Act.put, List.setIfInBounds_toArray, List.set_cons_zero, List.set_cons_succ]
            iterate 2 (refine lex_read rfl (by exact hS0) (v := ?_) (fun w' hw => ?_) ?_; rotate_left; (focus (go_simp; try with_reducible rfl)); simp only [Act.put, List.setIfInBounds_toArray, List.set_cons_zero, List.set_cons_succ])
            refine lex_read rfl (by exact hS0) (v := .int .i64 (k : Int)) (fun w' hw => ?_) ?_
            · have y47 := hw.cell HE47.out
              go_simp
            simp only [Act.put, List.setIfInBounds_toArray, List.set_cons_zero, List.set_cons_succ]
            have HB6 := Lib.hid (HB5.out.same ((Upd.refl [] w5).drew))
            refine lex_do rfl (fun K hK => ?_)
            go_simp
            refine (ncopy_yes k z HB6.out.n HZ.out hm1 hm2 hLm).mono ?_
            rintro e w6 ⟨rfl, X1, n1, h1⟩
            have HH6 := Lib.hid (HB6.out.one0 n1 h1)
            have hS6 : Blk w6 xb 63 us := n1.upd.blk hS0 HXY.out.1
            refine hK _ _ (fun _ => hS6) ?_
            clear hK K
            try simp only [Act.put, List.setIfInBounds_toArray, List.set_cons_zero, List.set_cons_succ]
            refine lex_do rfl (fun K hK => ?_)
            go_simp
            refine (scopy_yes k z HH6.out.r HZ.out hm1 hm2 hLm).mono ?_
            rintro e w7 ⟨rfl, Y1, n2, h2⟩
            have HBz := Lib.hid (HH6.out.two0 n2 h2 HLL.out)
            have hS7 : Blk w7 xb 63 us := n2.upd.blk hS6 HXY.out.2
            refine hK _ _ (fun _ => hS7) ?_
            clear hK K
            try simp only [Act.put, List.setIfInBounds_toArray, List.set_cons_zero, List.set_cons_succ]
            refine lex_do rfl (fun K hK => ?_)
            go_simp
            refine hK _ _ (fun _ => hS7) ?_
            clear hK K
            try simp only [Act.put, List.setIfInBounds_toArray, List.set_cons_zero, List.set_cons_succ]
            refine lex_do rfl (fun K hK => ?_)
            go_simp
            refine hK _ _ (fun _ => hS7) ?_
            clear hK K
            try simp only [Act.put, List.setIfInBounds_toArray, List.set_cons_zero, List.set_cons_succ]
            refine lex_nil ?_
            obtain ⟨ra, rc, r1, r2⟩ := snet_cell HBz.out.r
            go_wp2_with fail
            go_quiet ((go_at_call 31; exact Calls.quiet_of_same ((nlen_same (HBz.out.n.same ((Upd.refl [] _).drewN _) (by simp) ownN_upd)).mono fun e w' h => ⟨h.1, h.2⟩)))
            go_wp2_with fail
            go_roundg (l.length - (i + 1))
            case measure => have := HG.out; omega
            case rel => exact ⟨i + 1, came m L z, _, _, by go_num, rfl, by omega, HBz.out.same ((Upd.refl [] _).drewN _)⟩
          · have HNN := Lib.hid hnn
            clear hnn
            go_wp2_with fail
            refine wp_region_lex (fun w' => Blk w' xb 63 us) 99 [(0, true), (1, true), (2, true), (4, true), (5, true), (6, true), (3, false), (7, false), (8, false), (9, false)] (by kernel_rfl) (by kernel_rfl) (by kernel_rfl) (by kernel_rfl) (fun _ _ d _ _ h => by cases d <;> exact h) ?_
            simp only [lexOps, List.map_cons, List.map_nil, List.getD_cons_zero, List.getD_cons_succ]
            have hS0 : Blk w5.drew xb 63 us := HD5.out.drew
            iterate 2 (refine lex_read rfl (by exact hS0) (v := ?_) (fun w' hw => ?_) ?_; rotate_left; (focus (go_simp; try with_reducible rfl)); simp only [Act.put, List.setIfInBounds_toArray, List.set_cons_zero, List.set_cons_succ])
            refine lex_read rfl (by exact hS0) (v := .int .i64 nn) (fun w' hw => ?_) ?_
            · have y47 := hw.cell HE47.out
              go_simp
            simp only [Act.put, List.setIfInBounds_toArray, List.set_cons_zero, List.set_cons_succ]
            iterate 2 (refine lex_read rfl (by exact hS0) (v := ?_) (fun w' hw => ?_) ?_; rotate_left; (focus (go_simp; try with_reducible rfl)); simp only [Act.put, List.setIfInBounds_toArray, List.set_cons_zero, List.set_cons_succ])
            refine lex_read rfl (by exact hS0) (v := .int .i64 nn) (fun w' hw => ?_) ?_
            · have y47 := hw.cell HE47.out
              go_simp
            simp only [Act.put, List.setIfInBounds_toArray, List.set_cons_zero, List.set_cons_succ]
            have HB6 := Lib.hid (HB5.out.same ((Upd.refl [] w5).drew))
            refine lex_do rfl (fun K hK => ?_)
            go_simp
            refine (ncopy_no nn HB6.out.n HNN.out).mono ?_
            rintro e w6 ⟨rfl, u6⟩
            have HH6 := Lib.hid (HB6.out.same u6)
            have hS6 : Blk w6 xb 63 us := u6.blk hS0 (by simp)
            refine hK _ _ (fun _ => hS6) ?_
            clear hK K
            try simp only [Act.put, List.setIfInBounds_toArray, List.set_cons_zero, List.set_cons_succ]
            refine lex_do rfl (fun K hK => ?_)
            go_simp
            refine (scopy_no nn HH6.out.r HNN.out).mono ?_
            rintro e w7 ⟨rfl, u7⟩
            have HBz := Lib.hid (HH6.out.same u7)
            have hS7 : Blk w7 xb 63 us := u7.blk hS6 (by simp)
            refine hK _ _ (fun _ => hS7) ?_
            clear hK K
            try simp only [Act.put, List.setIfInBounds_toArray, List.set_cons_zero, List.set_cons_succ]
            refine lex_do rfl (fun K hK => ?_)
            go_simp
            refine hK _ _ (fun _ => hS7) ?_
            clear hK K
            try simp only [Act.put, List.setIfInBounds_toArray, List.set_cons_zero, List.set_cons_succ]
            refine lex_do rfl (fun K hK => ?_)
            go_simp
            refine hK _ _ (fun _ => hS7) ?_
            clear hK K
            try simp only [Act.put, List.setIfInBounds_toArray, List.set_cons_zero, List.set_cons_succ]
            refine lex_nil ?_
            obtain ⟨ra, rc, r1, r2⟩ := snet_cell HBz.out.r
            go_wp2_with fail
            go_quiet ((go_at_call 31; exact Calls.quiet_of_same ((nlen_same (HBz.out.n.same ((Upd.refl [] _).drewN _) (by simp) ownN_upd)).mono fun e w' h => ⟨h.1, h.2⟩)))
            go_wp2_with fail
            go_roundg (l.length - (i + 1))
            case measure => have := HG.out; omega
            case rel => exact ⟨i + 1, L, _, _, by go_num, rfl, by omega, HBz.out.same ((Upd.refl [] _).drewN _)⟩
        have k0 : (kd == 0) = false := by rw [beq_eq_false_iff_ne]; omega
        have k1 : (kd == 1) = false := by rw [beq_eq_false_iff_ne]; omega
        have k2 : (kd == 2) = false := by rw [beq_eq_false_iff_ne]; omega
        have k3 : (kd == 3) = false := by rw [beq_eq_false_iff_ne]; omega
        clear hk0 hk1 hk2 hk3
        have HBz := HB5
        obtain ⟨ra, rc, r1, r2⟩ := snet_cell HBz.out.r
        go_wp2_with fail
        go_quiet ((go_at_call 31; exact Calls.quiet_of_same ((nlen_same (HBz.out.n.same ((Upd.refl [] _).drewN _) (by simp) ownN_upd)).mono fun e w' h => ⟨h.1, h.2⟩)))
        go_wp2_with fail
        go_roundg (l.length - (i + 1))
        case measure => have := HG.out; omega
        case rel => exact ⟨i + 1, L, _, _, by go_num, rfl, by omega, HBz.out.same ((Upd.refl [] _).drewN _)⟩
end Go.Proofs.Ytpoplipjombdbaa
namespace Go.Proofs.Ytpoplipjombdbaa.netPlays
open Go.ChangeShapes Go.WideShapes Go.ChangeAt Go.RowKit Go.Lb Go.Rc

set_option maxRecDepth 100000 in
theorem contract (H : Type) (enc : TypeId × Value → H) (W : World) (base : Nat) (args : Array Value) (ds gs : List (DataW H)) (before : List MemPlace)
    (hval : ∀ (j : Nat) t v, Try.f6.params[j]? = some t → args[j]? = some v → Value.okWide Try.prog W .any base t v)
    (hW : DataW.Whole enc Try.prog Try.f6.params.toList Rows.netPlaysSpec.vars false W args.toList ds gs before) (hk : Rows.uptoSmall H (ds ++ gs) = true) :
    Calls Try.prog 6 args W fun e W' => ∃ v, e = .returned v ∧ Rows.netPlaysSpec.post enc Try.prog Try.f6 false true false false W args v W' := by
  have hW' := hW
  obtain ⟨p, q, hA0, hV, rfl, hfz, hnd⟩ := hW
  have hA : DataW.TrodAll enc Try.prog W 0 (fun _ => true) true Try.f6.params.toList args.toList ds p := hA0
  rw [Try.params6] at hA hval
  obtain ⟨v0, vs0, d0, ds0, p0, q0, hargs, rfl, rfl, h0, r0⟩ := trodAll_cons hA
  obtain ⟨v1, vs1, d1, ds1, p1, q1, rfl, rfl, rfl, h1, r1⟩ := trodAll_cons r0
  obtain ⟨rfl, rfl, rfl⟩ := trodAll_nil r1
  obtain rfl : args = #[v0, v1] := by cases args; simp_all
  obtain ⟨rfl, rfl⟩ := trodVars_none hV
  have k0 := h0
  have lt0 : ∀ x ∈ p0, x.block < W.heap.size := by obtain ⟨m, hm⟩ := k0; exact DataW.trod_lt m _ _ _ hm
  have k1 := h1
  have lt1 : ∀ x ∈ p1, x.block < W.heap.size := by obtain ⟨m, hm⟩ := k1; exact DataW.trod_lt m _ _ _ hm
  have hb := bulk_of hk
  simp only [List.append_nil, List.nil_append, List.cons_append, Rows.uptoBulkAll, Nat.add_zero] at hb
  obtain ⟨x0, rfl, rfl, rfl, wx0⟩ := open_int Try.underlying3 (hval 0 3 v0 rfl rfl) h0
  obtain ⟨a1, len1, cap1, rfl⟩ := okWide_slice Try.underlying52 (hval 1 52 v1 rfl rfl)
  obtain ⟨y1, hr1, hu1⟩ := arg_list (m := 20) (s := .list sOp) (by kernel_rfl) h1
  obtain ⟨Ls1, hle1, hye1⟩ := list_of hr1
  subst hle1 hye1
  have hlw1 := list_le hr1 (by decide)
  clear hA0
  refine (netplays_ok x0 a1 cap1 Ls1 W hr1 (by omega) (by omega)).mono fun e W' ⟨he, bel⟩ => ?_
  subst he
  exact ⟨_, rfl, _, _, _, [], _, [], hW', trodAll_mk1 (shut_bool Try.underlying4 _), (trodAll_cons_mk (Below.trod Try.laidOut (by kernel_rfl) (of_decide_eq_true (by kernel_rfl)) k0 bel.below lt0) (trodAll_cons_mk (Below.trod Try.laidOut (by kernel_rfl) (of_decide_eq_true (by kernel_rfl)) k1 bel.below lt1) trodAll_mk0)), rfl, bel.below.frame _, fun h => by cases h⟩

set_option maxRecDepth 100000 in
theorem lifted (os : Os) (started : os.Started) (H : Type) (enc : TypeId × Value → H) (F : Stop.Interp) :
    ReturnsInHanded {} Try.checked os 6 .any ((Rows.OpenSpec.upto Rows.netPlaysSpec).pre6 enc Try.prog Try.f6 Rows.netPlaysUptoRow.domain false) (((Rows.OpenSpec.upto Rows.netPlaysSpec).at F).post enc Try.prog Try.f6 false true false false) := by
  refine returnsInHanded_of_cond (C := Try.checked) (s := Rows.OpenSpec.upto Rows.netPlaysSpec) (k := Rows.uptoSmall) rfl Try.own started (by kernel_rfl) Try.func6
    (OpenSpec.witness (enc := enc) (C := Try.checked) (s := Rows.OpenSpec.upto Rows.netPlaysSpec) (k := Rows.uptoSmall) rfl false ⟨#[], #[.int .i64 0, .slice none 0 0], []⟩ 8 (by kernel_rfl) (by kernel_rfl) (by kernel_rfl)
      (x := ([.lit (.int .i64 0), .nil], [], [])) (by kernel_rfl) rfl (by kernel_rfl)) ?_
  intro W base args ds gs before hval hW _ hk _
  exact contract H enc W base args ds gs before hval hW hk

theorem closed : joinedFacts Try.prog 6 Try.f6 (Rows.OpenSpec.upto Rows.netPlaysSpec).bare Rows.netPlaysUptoRow = true := by
  unfold joinedFacts
  rw [Try.words1, Try.words2, Try.words3]
  kernel_rfl

theorem proved : Rows.NetPlaysUptoSaid :=
  OpenClaim.holds_of_cond 6 Try.f6 rfl rfl rfl rfl rfl rfl rfl ⟨rfl, rfl, rfl, rfl, rfl⟩ rfl rfl rfl rfl rfl (by kernel_rfl) Try.func6 closed
    (of_decide_eq_true (by kernel_rfl)) (by unfold Func.isWrapper; first | (rw [if_pos (by decide +kernel)]; kernel_rfl) | (rw [if_neg (by decide +kernel)]; exact ⟨rfl, rfl⟩))
    (fun os started H enc _ F => lifted os started H enc F)
#print axioms proved
end Go.Proofs.Ytpoplipjombdbaa.netPlays
