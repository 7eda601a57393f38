/- FrontOnce: the walk. Condition: no more deeds, and no more places in each store, than the reach lets. -/
import Derived.Test.YtenmcllnddmdhaaOnceP
import Derived.Test.YtenmcllnddmdhaaOrdW
set_option linter.unusedVariables false
set_option linter.unusedSimpArgs false
namespace Go.Proofs.Ytenmcllnddmdhaa
open Go.RowKit Go.Lb Go.Conc

/-- A deed's cells. -/
structure Dd where
  k : Int
  t : Int
  ix : Int
  tm : Int
  va : Int
  si : Int
  x1 : Value
  x2 : Value
  x3 : Value
  x4 : Value
  a : Option Addr
  len : Nat
  cap : Nat
  x6 : Value
  x7 : Value
  x8 : Value
def Dd.st (d : Dd) : List Value := stL d.si d.x1 d.x2 d.x3 d.x4 (.slice d.a d.len d.cap) d.x6 d.x7 d.x8
def Dd.vals (d : Dd) : List Value := [.int .i64 d.k, .int .i64 d.t, .int .i64 d.ix, .int .i64 d.tm, .int .i64 d.va] ++ d.st
structure Dd.Ok (B : Nat) (w : World) (d : Dd) : Prop where
  one : ∀ u ∈ d.vals, u.oneCell' = true
  wk : (Lit.int .i64 d.k).wf = true
  wt : (Lit.int .i64 d.t).wf = true
  als : AlsAt B w d.a d.len
  len : d.len ≤ 1599289640354
/-- A slice of deeds that came in. -/
def DdAt (B : Nat) (w : World) (a : Option Addr) (len : Nat) : Prop := ∀ i, i < len → ∃ b o d, a = some ⟨b, o, none⟩ ∧ b < w.heap.size ∧ w.rangeAt b (o + i * 14) (Dd.vals d) ∧ d.Ok B w
theorem DdAt.upd {B : Nat} {w w' : World} {a : Option Addr} {len : Nat} (h : DdAt B w a len) (u : Upd [] w w') : DdAt B w' a len := fun i hi => by
  obtain ⟨b, o, d, h1, h2, h3, h4⟩ := h i hi
  refine ⟨b, o, d, h1, Nat.lt_of_lt_of_le h2 u.size, fun j v hv => ?_, h4.one, h4.wk, h4.wt, h4.als.upd u (by simp), h4.len⟩
  rw [u.cell (a := ⟨b, o + i * 14 + j, none⟩) h2 (by simp)]
  exact h3 j v hv

theorem Try.size69 : (Try.prog.info? 69).map (·.size) = some 14 := by kernel_rfl
theorem Try.size67 : (Try.prog.info? 67).map (·.size) = some 9 := by kernel_rfl
def zDd : Dd := ⟨0, 0, 0, 0, 0, 0, .int .i64 0, .slice none 0 0, .slice none 0 0, .slice none 0 0, none, 0, 0, .slice none 0 0, .slice none 0 0, .slice none 0 0⟩
theorem zero69 (w : World) : (zeroValue 69).run Try.prog w = .ok (.agg zDd.vals.toArray) w := by kernel_rfl

/-- A front, and the deed at hand beside it. -/
structure On (w : World) (f : Nat) (F : List Nat) (s : Said) (q : Nat) (d : Dd) (wr : World) : Prop where
  st : St w f F s wr
  blk : Blk wr q 69 d.vals
  out : q ∉ F
  ok : d.Ok w.heap.size wr
theorem On.any {w w1 w2 : World} {f q : Nat} {F : List Nat} {s : Said} {d : Dd} (h : On w f F s q d w1) (u : Upd [] w1 w2) : On w f F s q d w2 :=
  ⟨h.st.any u, u.blk h.blk (by simp), h.out, h.ok.one, h.ok.wk, h.ok.wt, h.ok.als.upd u (by simp), h.ok.len⟩
theorem On.go {w w1 w2 : World} {f q : Nat} {F : List Nat} {s s' : Said} {d : Dd} (h : On w f F s q d w1) (k : FPost w1 f F s' w2) : ∃ F', On w f F' s' q d w2 := by
  obtain ⟨F', h1, h2, h3⟩ := h.st.go k
  exact ⟨F', h1, h2.blk h.blk h.out, h3 q h.blk.lt h.out, h.ok.one, h.ok.wk, h.ok.wt, h.ok.als.upd h2 h.st.new, h.ok.len⟩

/-- What is so behind n deeds. -/
def OnRel (w : World) (f q : Nat) (d : Dd) (n : Nat) (wr : World) : Prop := ∃ s F, Once n s ∧ On w f F s q d wr
def StRel (w : World) (f : Nat) (n : Nat) (wr : World) : Prop := ∃ s F, Once n s ∧ St w f F s wr
theorem OnRel.any {w w1 w2 : World} {f q n : Nat} {d : Dd} (h : OnRel w f q d n w1) (u : Upd [] w1 w2) : OnRel w f q d n w2 := by
  obtain ⟨s, F, h1, h2⟩ := h
  exact ⟨s, F, h1, h2.any u⟩

/-- A front, and a row of those who were had beside it. -/
structure Hw (w : World) (f : Nat) (F : List Nat) (s : Said) (v : Value) (had : List Int) (wr : World) : Prop where
  st : St w f F s wr
  row : wr.ownsRow w.heap.size 3 1 v had.length (had.map (Value.int .i64))
  out : ∀ k, v.ownBlock = some k → k ∉ F
theorem Hw.any {w w1 w2 : World} {f : Nat} {F : List Nat} {s : Said} {v : Value} {had : List Int} (h : Hw w f F s v had w1) (u : Upd [] w1 w2) : Hw w f F s v had w2 := ⟨h.st.any u, u.row h.row (by simp), h.out⟩
theorem Hw.go {w w1 w2 : World} {f : Nat} {F : List Nat} {s s' : Said} {v : Value} {had : List Int} (h : Hw w f F s v had w1) (k : FPost w1 f F s' w2) : ∃ F', Hw w f F' s' v had w2 := by
  obtain ⟨F', h1, h2, h3⟩ := h.st.go k
  exact ⟨F', h1, h2.row h.row h.out, fun k hk => h3 k (own_lt h.row hk).2 (h.out k hk)⟩
theorem Hw.app {w w1 w2 w3 : World} {f : Nat} {F : List Nat} {s : Said} {v v' : Value} {had : List Int} {x : Int} (h : Hw w f F s v had w1) (u : Upd [] w1 w2) (ho : w3.ownsRow w.heap.size 3 1 v' (had.length + 1) (had.map (Value.int .i64) ++ [.int .i64 x])) (hg : w2.grownBy w3 v.ownBlock)
    (hv : v'.ownBlock = v.ownBlock ∨ v'.ownBlock = some w2.heap.size) : Hw w f F s v' (had ++ [x]) w3 := by
  have h2 := h.any u
  have u3 : Upd v.ownBlock.toList w2 w3 := (Upd.refl _ _).grown hg (by intro k hk; simp [hk])
  refine ⟨h2.st.other u3 ?_ ?_, by simpa using ho, fun k hk => ?_⟩
  · intro k hk hm
    exact h2.out k (by simpa using hm) hk
  · intro k hk
    exact (own_lt h2.row (by simpa using hk)).1
  · rcases hv with e | e
    · exact h2.out k (e ▸ hk)
    · rw [hk] at e
      simp at e
      subst e
      exact h2.st.free
theorem Hw.cell {w w1 : World} {f : Nat} {F : List Nat} {s : Said} {g cap : Nat} {had : List Int} (h : Hw w f F s (.slice (some ⟨g, 0, none⟩) had.length cap) had w1) {k : Nat} (hk : k < had.length) : w1.cell? ⟨g, k, none⟩ = some (.int .i64 (had.getD k 0)) := by
  rw [h.row.cellAt k (by omega)]
  simp [hk]

set_option maxRecDepth 100000 in
set_option maxHeartbeats 16000000 in
theorem once_ok (a0 : Option Addr) (len cap : Nat) (w : World) (hrow : DdAt w.heap.size w a0 len) (hlen : len ≤ 1599289640354) :
    Calls Try.prog 4 #[.slice a0 len cap] w fun e w' => e = .returned (.bool true) ∧ Upd [] w w' := by
  obtain ⟨i3, hi3, hz30, hz31, hz32⟩ := info_parts Try.info3
  have Hrow := Lib.hid hrow
  clear hrow
  go_enter Try.func4, Try.ntmps4
  go_wp2_with fail
  refine (new_ok _).mono ?_
  rintro e w1 ⟨f, F, rfl, h1, u1, n1⟩
  obtain ⟨F1, g1⟩ := St.start h1 u1 n1
  have K1 := Lib.hid (show StRel w f 0 w1 from ⟨_, F1, Once.start, g1⟩)
  clear h1 u1 n1 g1
  go_wp2_with fail
  go_loopg [4, 5] len (fun g m u wr => ∃ i n : Nat, u = .int .i64 i ∧ m = .int .i64 n ∧ i ≤ len ∧ n ≤ i * 20 ∧ g = len - i ∧ StRel w f n wr)
  case atStart => exact ⟨0, 0, rfl, rfl, Nat.zero_le _, by omega, rfl, K1.out⟩
  case round =>
    obtain ⟨i, n, rfl, rfl, hi, hn, rfl, hR⟩ := hrel
    have HR := Lib.hid hR
    clear hR K1
    by_cases hlt : i < len
    · obtain ⟨s, F2, hO, hS⟩ := HR.out
      obtain ⟨b, o, d, rfl, hbk, hrg, hok⟩ := (Hrow.out.upd hS.upd) i hlt
      have Hrg := Lib.hid hrg
      have Hok := Lib.hid hok
      clear hrg hok
      go_wp2_with (first | (refine wpList_load_mid rfl 69 (.tmp 24) rfl b (o + i * 14) rfl d.vals _ Hrg.out Try.underlying69 rfl Try.size69 ?_) | (refine wpList_alloc_blk rfl 69 rfl zDd.vals (zero69 _) ?_; intro w2 hb2 hu2) | (refine wpList_store_blk (o := ⟨none, .store 69 (.tmp 6) (.tmp 25), _, _, _, _⟩) rfl 69 (.tmp 6) (.tmp 25) rfl _ d.vals rfl rfl hb2 Try.size69 rfl Hok.out.one ?_; intro w3 hb3 hu3))
      have hu23 := hu2.trans hu3 (by simp)
      have K2 := Lib.hid (show OnRel w f wr.heap.size d n w3 from ⟨s, F2, hO, hS.any hu23, hb3, hS.free, Hok.out.one, Hok.out.wk, Hok.out.wt, Hok.out.als.upd hu23 (by simp), Hok.out.len⟩)
      have Hwk := Lib.hid Hok.out.wk
      have Hwt := Lib.hid Hok.out.wt
      clear hu2 hu3 hb2 hb3 hu23 Hrg Hok hO hS HR hbk
      generalize wr.heap.size = q at *
      go_loopg [4, 7] 20 (fun g m u wr => ∃ k n : Nat, u = .int .i64 k ∧ m = .int .i64 n ∧ k ≤ 20 ∧ n ≤ i * 20 + k ∧ g = 20 - k ∧ OnRel w f q d n wr)
      case atStart => exact ⟨0, n, rfl, rfl, by omega, by omega, rfl, K2.out⟩
      case round =>
        clear hn
        obtain ⟨k, n, rfl, rfl, hk, hn, rfl, hR⟩ := hrel
        clear K2
        have HR := Lib.hid hR
        have ht1 := hR.choose_spec.choose_spec.2.blk.cell (o := 1) (v := .int .i64 d.t) rfl
        clear hR
        go_wp2_with fail
        refine (pick_any d.t 20 _ Hwt.out (by decide)).mono ?_
        rintro e wx ⟨r, rfl, hr0, hr1, rfl⟩
        obtain ⟨r, rfl⟩ := Int.eq_ofNat_of_zero_le hr0
        clear hr0 ht1
        by_cases hkr : k ≤ r
        · have bW := build44n ((n : Int) + 1)
          go_upto_block 3 with fail
          go_cut [4] (fun u wc => u = .int .i64 ((n : Int) + 1) ∧ OnRel w f q d (n + 1) wc)
          case first =>
            go_wp2_with (first | (refine wpList_alloc_blk rfl 44 rfl (whoL 0 0) (zero44 _) ?_; intro w4 hb4 hu4) | (refine wpList_store_blk (o := ⟨none, .store 44 (.tmp 8) (.tmp 36), _, _, _, _⟩) rfl 44 (.tmp 8) (.tmp 36) rfl _ (whoL ((n : Int) + 1) 0) rfl rfl hb4 Try.size44 rfl (whoL_one _ _) ?_; intro wB hb5 hu5; have c0 := (((HR.out.any (hu4.trans hu5 (by simp))).choose_spec.choose_spec.2.blk.cell (o := 0) (v := .int .i64 d.k) rfl))))
            have HR3 := Lib.hid (HR.out.any (hu4.trans hu5 (by simp)))
            have HW := Lib.hid hb5
            clear hb4 hu4 hb5 hu5 bW
            refine (pick_any d.k 9 _ Hwk.out (by decide)).mono ?_
            rintro e wy ⟨r2, rfl, hs0, hs1, rfl⟩
            clear c0
            obtain ⟨s, F3, hO, hS⟩ := HR3.out
            have HO := Lib.hid hO
            have HS := Lib.hid hS
            clear hO hS HR3
            by_cases z0 : r2 = 0
            · subst z0
              have c2 := HS.out.blk.cell (o := 2) (v := .int .i64 d.ix) rfl
              have c3 := HS.out.blk.cell (o := 3) (v := .int .i64 d.tm) rfl
              by_cases hl : s.L.length < 64
              · go_wp2_with (refine wpList_load_blk rfl 44 (.tmp 8) rfl _ rfl HW.out Try.underlying44 rfl Try.size44 ?_)
                refine (wait_ok f F3 s d.ix d.tm ((n : Int) + 1) 0 _ HS.out.st.front hl).mono ?_
                rintro e w5 ⟨rfl, h5⟩
                obtain ⟨F5, g5⟩ := HS.out.go h5
                have HE := Lib.hid (show OnRel w f q d (n + 1) w5 from ⟨_, F5, HO.out.wait hl 0 d.ix d.tm, g5⟩)
                clear h5 g5 HS HO HW c2 c3
                go_wp2_with fail
                go_meet
                exact ⟨rfl, HE.out⟩
              · go_wp2_with (refine wpList_load_blk rfl 44 (.tmp 8) rfl _ rfl HW.out Try.underlying44 rfl Try.size44 ?_)
                refine (wait_full f F3 s d.ix d.tm ((n : Int) + 1) 0 _ HS.out.st.front (by omega)).mono ?_
                rintro e w5 ⟨rfl, h5⟩
                obtain ⟨F5, g5⟩ := HS.out.go h5
                have HE := Lib.hid (show OnRel w f q d (n + 1) w5 from ⟨_, F5, HO.out.skip, g5⟩)
                clear h5 g5 HS HO HW c2 c3
                go_wp2_with fail
                go_meet
                exact ⟨rfl, HE.out⟩
            · have e0 : (r2 == 0) = false := beq_eq_false_iff_ne.2 z0
              clear z0
              by_cases z1 : r2 = 1
              · subst z1
                have c2 := HS.out.blk.cell (o := 2) (v := .int .i64 d.ix) rfl
                have c3 := HS.out.blk.cell (o := 3) (v := .int .i64 d.tm) rfl
                have bA := build47 d.ix d.tm
                have bB := build49z

                go_wp2_with fail
                refine (applied_ok f F3 s d.ix d.tm 0 _ HS.out.st.front HO.out.lL).mono ?_
                rintro e w5 ⟨rfl, h5⟩
                obtain ⟨F5, g5⟩ := HS.out.go h5
                have HE := Lib.hid (show OnRel w f q d (n + 1) w5 from ⟨_, F5, HO.out.applied d.ix d.tm 0, g5⟩)
                clear h5 g5 HS HO HW c2 c3 bA bB
                go_wp2_with fail
                go_meet
                exact ⟨rfl, HE.out⟩
              · have e1 : (r2 == 1) = false := beq_eq_false_iff_ne.2 z1
                clear z1
                by_cases z2 : r2 = 2
                · subst z2
                  by_cases hl : s.R.length < 64
                  · go_wp2_with (refine wpList_load_blk rfl 44 (.tmp 8) rfl _ rfl HW.out Try.underlying44 rfl Try.size44 ?_)
                    refine (read_ok f F3 s ((n : Int) + 1) 0 _ HS.out.st.front hl HO.out.rd.1 (by have := HO.out.rd.2; omega)).mono ?_
                    rintro e w5 ⟨⟨v5, rfl⟩, h5⟩
                    obtain ⟨F5, g5⟩ := HS.out.go h5
                    have HE := Lib.hid (show OnRel w f q d (n + 1) w5 from ⟨_, F5, HO.out.read hl 0, g5⟩)
                    clear h5 g5 HS HO HW
                    go_wp2_with fail
                    go_meet
                    exact ⟨rfl, HE.out⟩
                  · go_wp2_with (refine wpList_load_blk rfl 44 (.tmp 8) rfl _ rfl HW.out Try.underlying44 rfl Try.size44 ?_)
                    refine (read_full f F3 s ((n : Int) + 1) 0 _ HS.out.st.front (by omega) HO.out.lR).mono ?_
                    rintro e w5 ⟨⟨v5, rfl⟩, h5⟩
                    obtain ⟨F5, g5⟩ := HS.out.go h5
                    have HE := Lib.hid (show OnRel w f q d (n + 1) w5 from ⟨_, F5, HO.out.skip, g5⟩)
                    clear h5 g5 HS HO HW
                    go_wp2_with fail
                    go_meet
                    exact ⟨rfl, HE.out⟩
                · have e2 : (r2 == 2) = false := beq_eq_false_iff_ne.2 z2
                  clear z2
                  by_cases z3 : r2 = 3
                  · subst z3
                    have c2 := HS.out.blk.cell (o := 2) (v := .int .i64 d.ix) rfl
                    have c3 := HS.out.blk.cell (o := 3) (v := .int .i64 d.tm) rfl

                    go_wp2_with fail
                    refine (ready_ok f F3 s d.tm d.ix _ HS.out.st.front HO.out.lR).mono ?_
                    rintro e w5 ⟨rfl, h5⟩
                    obtain ⟨F5, g5⟩ := HS.out.go h5
                    have HE := Lib.hid (show OnRel w f q d (n + 1) w5 from ⟨_, F5, HO.out.ready d.tm d.ix, g5⟩)
                    clear h5 g5 HS HO HW c2 c3
                    go_wp2_with fail
                    go_meet
                    exact ⟨rfl, HE.out⟩
                  · have e3 : (r2 == 3) = false := beq_eq_false_iff_ne.2 z3
                    clear z3
                    by_cases z4 : r2 = 4
                    · subst z4
                      go_wp2_with (refine wpList_load_mid rfl 67 (.tmp 75) rfl q 5 rfl d.st _ (HS.out.blk.rangeIn 5 d.st (fun j v hj => by rw [Nat.add_comm]; simpa [Dd.vals] using hj)) Try.underlying67 rfl Try.size67 ?_)
                      refine (reads_ok w.heap.size f F3 s d.si d.x1 d.x2 d.x3 d.x4 d.x6 d.x7 d.x8 d.a d.len d.cap _ HS.out.st.front HO.out.lR HO.out.al HS.out.ok.als HS.out.ok.len HS.out.st.new HS.out.st.upd.size).mono ?_
                      rintro e w5 ⟨rfl, q5, hq5, ha5, h5⟩
                      obtain ⟨F5, g5⟩ := HS.out.go h5
                      have HE := Lib.hid (show OnRel w f q d (n + 1) w5 from ⟨_, F5, HO.out.reads d.si q5 hq5 ha5, g5⟩)
                      clear h5 g5 HS HO HW hq5 ha5
                      go_wp2_with fail
                      go_meet
                      exact ⟨rfl, HE.out⟩
                    · have e4 : (r2 == 4) = false := beq_eq_false_iff_ne.2 z4
                      clear z4
                      by_cases z5 : r2 = 5
                      · subst z5
                        by_cases hl : s.es.length < 64
                        · go_wp2_with (refine wpList_load_blk rfl 44 (.tmp 8) rfl _ rfl HW.out Try.underlying44 rfl Try.size44 ?_)
                          refine (pass_ok f F3 s ((n : Int) + 1) 0 _ HS.out.st.front hl HO.out.ps.1 (by have := HO.out.ps.2; omega) HO.out.fresh).mono ?_
                          rintro e w5 ⟨rfl, h5⟩
                          obtain ⟨F5, g5⟩ := HS.out.go h5
                          have HE := Lib.hid (show OnRel w f q d (n + 1) w5 from ⟨_, F5, HO.out.pass hl 0, g5⟩)
                          clear h5 g5 HS HO HW
                          go_wp2_with fail
                          go_meet
                          exact ⟨rfl, HE.out⟩
                        · go_wp2_with (refine wpList_load_blk rfl 44 (.tmp 8) rfl _ rfl HW.out Try.underlying44 rfl Try.size44 ?_)
                          refine (pass_full f F3 s ((n : Int) + 1) 0 _ HS.out.st.front (by omega) HO.out.lE).mono ?_
                          rintro e w5 ⟨rfl, h5⟩
                          obtain ⟨F5, g5⟩ := HS.out.go h5
                          have HE := Lib.hid (show OnRel w f q d (n + 1) w5 from ⟨_, F5, HO.out.skip, g5⟩)
                          clear h5 g5 HS HO HW
                          go_wp2_with fail
                          go_meet
                          exact ⟨rfl, HE.out⟩
                      · have e5 : (r2 == 5) = false := beq_eq_false_iff_ne.2 z5
                        clear z5
                        by_cases z6 : r2 = 6
                        · subst z6
                          have c2 := HS.out.blk.cell (o := 2) (v := .int .i64 d.ix) rfl
                          have c3 := HS.out.blk.cell (o := 3) (v := .int .i64 d.tm) rfl
                          have bB := build49z
                          rcases es_split d.tm s.es with hno | ⟨A, m, c, B, hes, hA⟩
                          · have Hno := Lib.hid hno
                            clear hno

                            go_wp2_with fail
                            refine (passed_none f F3 s d.tm 0 _ HS.out.st.front Hno.out).mono ?_
                            rintro e w5 ⟨rfl, h5⟩
                            obtain ⟨F5, g5⟩ := HS.out.go h5
                            have HE := Lib.hid (show OnRel w f q d (n + 1) w5 from ⟨_, F5, HO.out.skip, g5⟩)
                            clear h5 g5 HS HO HW c2 c3 bB
                            go_wp2_with fail
                            go_meet
                            exact ⟨rfl, HE.out⟩
                          · have Hes := Lib.hid hes
                            have HA := Lib.hid hA
                            clear hes hA

                            go_wp2_with fail
                            refine (passed_some f F3 s A B d.tm m c 0 _ HS.out.st.front Hes.out HA.out).mono ?_
                            rintro e w5 ⟨rfl, h5⟩
                            obtain ⟨F5, g5⟩ := HS.out.go h5
                            have HE := Lib.hid (show OnRel w f q d (n + 1) w5 from ⟨_, F5, HO.out.passed Hes.out, g5⟩)
                            clear h5 g5 HS HO HW c2 c3 bB
                            go_wp2_with fail
                            go_meet
                            exact ⟨rfl, HE.out⟩
                        · have e6 : (r2 == 6) = false := beq_eq_false_iff_ne.2 z6
                          clear z6
                          by_cases z7 : r2 = 7
                          · subst z7
                            go_wp2_with fail
                            refine (drop_ok f F3 s _ HS.out.st.front).mono ?_
                            rintro e w5 ⟨rfl, h5⟩
                            obtain ⟨F5, g5⟩ := HS.out.go h5
                            have HE := Lib.hid (show OnRel w f q d (n + 1) w5 from ⟨_, F5, HO.out.drop, g5⟩)
                            clear h5 g5 HS HO HW
                            go_wp2_with fail
                            go_meet
                            exact ⟨rfl, HE.out⟩
                          · have e7 : (r2 == 7) = false := beq_eq_false_iff_ne.2 z7
                            clear z7
                            have HE := Lib.hid (show OnRel w f q d (n + 1) wB from ⟨_, F3, HO.out.skip, HS.out⟩)
                            clear HS HO HW
                            go_wp2_with fail
                            go_meet
                            exact ⟨rfl, HE.out⟩
          case rest =>
            obtain ⟨rfl, hcut⟩ := hcut
            have HE := Lib.hid hcut
            clear hcut bW
            go_wp2_with fail
            go_roundg (20 - (k + 1))
            case measure => omega
            case rel => exact ⟨k + 1, n + 1, by go_num, by go_num, by omega, by omega, rfl, HE.out⟩
        · have hE : StRel w f n wr := by
            obtain ⟨s, F3, hO, hS⟩ := HR.out
            exact ⟨s, F3, hO, hS.st⟩
          have HE := Lib.hid hE
          clear hE
          go_wp2_with fail
          go_roundg (len - (i + 1))
          case measure => omega
          case rel => exact ⟨i + 1, n, by go_num, rfl, by omega, by omega, rfl, HE.out⟩
    · obtain ⟨s, F2, hO, hS⟩ := HR.out
      have HH := Lib.hid (show Hw w f F2 s (.slice none 0 0) [] wr from ⟨hS, World.ownsRow_nil _ _ _ _, by simp [Value.ownBlock]⟩)
      have HD := Lib.hid (Had.start hO)
      have hq256 := hO.lQ
      clear hO hS HR
      go_wp2_with fail
      go_loopg [9] s.q.length (fun g v wr => ∃ (s : Said) (had : List Int), g = s.q.length ∧ s.q.length + had.length ≤ 256 ∧ Had had s ∧ ∃ F, Hw w f F s v had wr)
      case atStart => exact ⟨s, [], rfl, by simpa using hq256, HD.out, F2, HH.out⟩
      case round =>
        clear HD HH hq256
        obtain ⟨s, had, rfl, hln, hD, F4, hS⟩ := hrel
        have HD := Lib.hid hD
        have HS := Lib.hid hS
        clear hD hS
        cases hq : s.q with
        | nil =>
          rw [hq] at hln
          have Hq := Lib.hid hq
          clear hq
          go_wp2_with fail
          refine (take_none f F4 s _ HS.out.st.front Hq.out).mono ?_
          rintro e w6 ⟨rfl, h6⟩
          obtain ⟨F6, g6⟩ := HS.out.go h6
          have K6 := Lib.hid g6
          clear h6 g6 HS HD
          go_wp2_with (first | (refine wpList_alloc_blk rfl 51 rfl zDone (zeroVal51 _) ?_; intro w7 hb7 hu7) | (refine wpList_store_blk (o := ⟨none, .store 51 (.tmp 10) (.tmp 97), _, _, _, _⟩) rfl 51 (.tmp 10) (.tmp 97) rfl _ zDone rfl rfl hb7 Try.size51 rfl zDone_one ?_; intro w8 hb8 hu8; have K8 := Lib.hid (K6.out.any (hu7.trans hu8 (by simp))); clear hb7 hu7 hb8 hu8))
          refine (lives_any _).mono ?_
          rintro e w9 ⟨rfl, u9⟩
          go_wp2_with fail
          go_ret
          exact ⟨rfl, (K8.out.any u9).st.upd⟩
        | cons dn q' =>
          rw [hq] at hln
          simp only [List.length_cons] at hln
          have Hq := Lib.hid hq
          have hdo := HD.out.al dn (by rw [hq]; simp)
          have Hdo := Lib.hid hdo
          have Hne := Lib.hid (fun i hi => HD.out.ne hq i hi)
          have HN := Lib.hid (HD.out.next hq)
          clear hq hdo
          go_wp2_with fail
          refine (take_some f F4 s dn q' _ HS.out.st.front Hq.out Hdo.out).mono ?_
          rintro e w6 ⟨rfl, h6⟩
          obtain ⟨F6, g6⟩ := HS.out.go h6
          have K6 := Lib.hid g6
          clear h6 g6 HS
          go_wp2_with (first | (refine wpList_alloc_blk rfl 51 rfl zDone (zeroVal51 _) ?_; intro w7 hb7 hu7) | (refine wpList_store_blk (o := ⟨none, .store 51 (.tmp 10) (.tmp 97), _, _, _, _⟩) rfl 51 (.tmp 10) (.tmp 97) rfl _ dn.cells rfl rfl hb7 Try.size51 rfl (Dn.one _ Hdo.out) ?_; intro w8 hb8 hu8; have K8 := Lib.hid (K6.out.any (hu7.trans hu8 (by simp))); have HB8 := Lib.hid hb8; clear hb7 hu7 hb8 hu8))
          obtain ⟨va, vc, rfl⟩ := own_shape K8.out.row
          go_loopg [12] had.length (fun g u wr => ∃ i : Nat, u = .int .i64 i ∧ i ≤ had.length ∧ g = had.length - i ∧ Upd [] w8 wr)
          case atStart => exact ⟨0, rfl, Nat.zero_le _, rfl, Upd.refl _ _⟩
          case round =>
            obtain ⟨i, rfl, hi, rfl, hU⟩ := hrel
            have K9 := Lib.hid (K8.out.any hU)
            have HB9 := Lib.hid (hU.blk HB8.out (by simp))
            have HU9 := Lib.hid hU
            clear hU
            by_cases hlt : i < had.length
            · have hn9 : (had.getD i 0 == dn.n) = false := beq_eq_false_iff_ne.2 (Hne.out i hlt)
              obtain ⟨g, rfl⟩ : ∃ g, va = some ⟨g, 0, none⟩ := by
                obtain ⟨g, c, e⟩ := own_some K9.out.row (by omega)
                simp at e
                exact ⟨g, e.1⟩
              have hd : decide (i < had.length) = true := by simpa using hlt
              have hc9 := K9.out.cell hlt
              have hg9 := (own_lt K9.out.row (k := g) rfl).2
              have hx0 := HB9.out.cell (Dn.c0 dn)
              generalize had.getD i 0 = y at *
              go_wp2_with (go_quiet (fail))
              go_roundg (had.length - (i + 1))
              case measure => omega
              case rel => exact ⟨i + 1, by go_num, by omega, rfl, HU9.out.drewN _⟩
            · obtain rfl : i = had.length := by omega
              have hx0 := HB9.out.cell (Dn.c0 dn)
              go_wp2_with (at_builtin; refine wpList_append_mine rfl (.tmp 116) (.tmp 120) 22 rfl w.heap.size 3 i3 _ 1 8 Try.underlying22 hi3 hz30 hz31 hz32 rfl (by decide) (.slice va had.length vc) had.length (had.map (Value.int .i64)) rfl (World.ownsRow.alloc K9.out.row _) ⟨wr.heap.size, 0, none⟩ 1 1 [.int .i64 dn.n] rfl rfl (Blk.news (Blk.new _ 3 [.int .i64 dn.n])) (by simp [Value.oneCell']) (by unfold maxLen; omega) (by omega) (by have := K9.out.st.upd.size; simp; omega) ?_; intro v' w11 ho hg hgb; have K11 := Lib.hid (K9.out.app (x := dn.n) ((Upd.refl _ _).alloc _) ho hg (by simpa using hgb)); clear ho hg hgb K9 hx0)
              go_roundg q'.length
              case measure => simp [Hq.out]
              case rel => exact ⟨_, _, rfl, by simp; omega, HN.out, F6, K11.out⟩
end Go.Proofs.Ytenmcllnddmdhaa
