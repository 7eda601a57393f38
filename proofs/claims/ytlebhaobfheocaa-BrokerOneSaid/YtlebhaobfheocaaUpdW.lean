/- Update: the walk. -/
import Derived.Test.YtlebhaobfheocaaUpd
import Derived.Deep.AppendLies
set_option linter.unusedVariables false
set_option linter.unusedSimpArgs false
namespace Go.Proofs.Ytlebhaobfheocaa
open Go.RowKit Go.Lb Go.Hp

theorem zero26 (w : World) : (zeroValue 26).run Try.prog w = .ok (.agg Ev.zero.vals.toArray) w := by kernel_rfl
theorem build60 (e : Ev) (w : World) : (Instr.build 60 #[(0, .agg e.vals.toArray)]).run Try.prog w = .ok (.agg (Im.vals ⟨0, e, 0, 0, false, 0, 0⟩).toArray) w := by kernel_rfl
theorem buildSlice53 (p : Nat) (w : World) : (Instr.buildSlice 53 1 #[(0, .pointer (some ⟨p, 0, none⟩))]).run Try.prog w = .ok (.slice (some ⟨w.heap.size, 0, none⟩) 1 1) (w.alloc (.cells #[.pointer (some ⟨p, 0, none⟩)] 58)) := by kernel_rfl

theorem wp_box_any {P : Program} {o : Oper} {a : Act} {w : World} {K : Act → World → Prop} {Q : Exit → Act → World → Prop} (ty : TypeId) (x : Operand) (ho : o.op = .box ty x) (us : List Value) (hx : a.eval x = .agg us.toArray)
    (h : K (a.put o.dst (.pointer (some ⟨w.heap.size, 0, none⟩))) (w.alloc (.cells us.toArray ty))) : o.wp P a w K Q := by
  unfold Oper.wp execOp
  simp only [ho, hx, Sem.run_bind, newVar, newRow, run_newObj_alloc, Sem.run_pure, Result.andThen_ok, Value.cells]
  exact h

def stA (y0 y1 y2 y3 y4 y5 : Value) (a : Option Addr) (n c : Nat) (y7 y8 : Value) : Value := .agg #[y0, y1, y2, y3, y4, y5, .slice a n c, y7, y8]

set_option maxRecDepth 100000 in
set_option maxHeartbeats 8000000 in
theorem update_any (b : Nat) (F : List Nat) (L : List Im) (es : List Ev) (a : Option Addr) (n c : Nat) (y0 y1 y2 y3 y4 y5 y7 y8 : Value) (w : World) (h : BrIs w b F L) (hE : EvRow w a es) (hn : es.length = n) (hout : es ≠ [] → ∀ ad, a = some ad → ad.block ∉ F) (hL : L.length + n ≤ 8796093022206) :
    Calls Try.prog 8 #[.pointer (some ⟨b, 0, none⟩), stA y0 y1 y2 y3 y4 y5 a n c y7 y8] w fun e w' => e = .returned (.tuple #[]) ∧ ∃ L1, Ups L es L1 ∧ BPost w b F (L1.filter fun x => !(!x.had && !pend es x.ev.job)) w' := by
  obtain ⟨i8, hi8, hz80, hz81, hz82⟩ := info58
  obtain ⟨v, h, hF⟩ := h
  have hmm := @run_makeMap Try.prog
  have hlb : b < w.heap.size := (hF b (by simp [foot])).2
  have hfl : ∀ k ∈ foot b v L, k < w.heap.size := fun k hk => (hF k hk).2
  have hfo : es ≠ [] → ∀ ad, a = some ad → ad.block ∉ foot b v L := fun hne ad e hm => hout hne ad e (hF _ hm).1
  have hst : UpI w b (foot b v L) (w.heap.size + 1) (w.heap.size + 2) L [] (((w.alloc (.cells #[y0, y1, y2, y3, y4, y5, .slice a n c, y7, y8] 34)).alloc (.map #[] 0)).alloc (.cells #[.map (some (w.heap.size + 1))] 56)) := by
    have u1 : Upd [] w (((w.alloc (.cells #[y0, y1, y2, y3, y4, y5, .slice a n c, y7, y8] 34)).alloc (.map #[] 0)).alloc (.cells #[.map (some (w.heap.size + 1))] 56)) := (((Upd.refl _ _).alloc _).alloc _).alloc _
    refine ⟨⟨v, L, .nil, h.any u1, fun k hk => ?_⟩, u1.mono (by simp), ?_, ?_⟩
    · have := hfl k hk
      exact ⟨by simp; omega, .inl hk, by omega, by omega⟩
    · have := (SetIs.new (w.alloc (.cells #[y0, y1, y2, y3, y4, y5, .slice a n c, y7, y8] 34))).upd (F := []) ((Upd.refl _ _).alloc (.cells #[.map (some (w.heap.size + 1))] 56)) (by simp)
      simp only [World.size_alloc] at this
      exact this
    · have := Blk.new ((w.alloc (.cells #[y0, y1, y2, y3, y4, y5, .slice a n c, y7, y8] 34)).alloc (.map #[] 0)) 56 [.map (some (w.heap.size + 1))]
      simpa using this
  have HI := Lib.hid hst
  have HE := Lib.hid hE
  have HF := Lib.hid hF
  have Hfo := Lib.hid hfo
  have Hfl := Lib.hid hfl
  have Hn := Lib.hid hn
  clear h hst hE hF hfo hfl hn hout
  unfold stA
  go_enter Try.func8, Try.ntmps8
  go_wp2_with fail
  clear hmm
  generalize ((w.alloc (.cells #[y0, y1, y2, y3, y4, y5, .slice a n c, y7, y8] 34)).alloc (.map #[] 0)).alloc (.cells #[.map (some (w.heap.size + 1))] 56) = wA at *
  generalize hfoe : foot b v L = fo at *
  have Hfoe := Lib.hid hfoe
  clear hfoe
  go_loopg [12] n (fun g u wr => ∃ i : Nat, u = .int .i64 i ∧ i ≤ n ∧ g = n - i ∧ UpI w b fo (w.heap.size + 1) (w.heap.size + 2) L (es.take i) wr)
  case atStart => exact ⟨0, rfl, Nat.zero_le _, rfl, HI.out⟩
  case round =>
    clear HI
    obtain ⟨i, rfl, hi, rfl, hI⟩ := hrel
    have HI := Lib.hid hI
    clear hI
    by_cases hlt : i < n
    · obtain ⟨⟨ej, ep, est, eix⟩, he⟩ : ∃ e, es[i]? = some e := ⟨_, List.getElem?_eq_getElem (by have := Hn.out; omega)⟩
      obtain ⟨k, o, rfl, hkl, hrg⟩ := (HE.out.upd HI.out.upd (Hfo.out (fun e => by rw [e] at he; simp at he))) i _ he
      have Hrg := Lib.hid hrg
      have Hsn : Hid (es.take (i + 1) = es.take i ++ [⟨ej, ep, est, eix⟩]) := Lib.hid (take_snoc he)
      clear hrg he hkl
      by_cases hs1 : est = 1
      · subst hs1
        go_wp2_with (first | (refine wpList_load_mid rfl 26 (.tmp 14) rfl k (o + i * 4) rfl (Ev.vals ⟨ej, ep, 1, eix⟩) _ Hrg.out Try.underlying26 rfl Try.size26 ?_) | (refine wpList_alloc_blk rfl 26 rfl Ev.zero.vals (zero26 _) ?_; intro w2 hb2 hu2) | (refine wpList_store_blk (o := ⟨none, .store 26 (.tmp 6) (.tmp 15), _, _, _, _⟩) rfl 26 (.tmp 6) (.tmp 15) rfl _ (Ev.vals ⟨ej, ep, 1, eix⟩) rfl rfl hb2 Try.size26 rfl (Ev.one _) ?_; intro w3 hb3 hu3; have x2 := hb3.cell (o := 2) (v := .int .i64 1) rfl; have x0 := hb3.cell (o := 0) (v := .int .i64 ej) rfl; have HU3 := Lib.hid (hu2.trans hu3 (by simp)); have HI3 := Lib.hid (HI.out.any HU3.out); have xq := HI3.out.cell.cell (o := 0) rfl; have HB3 := Lib.hid hb3; clear hb3 hb2 hu2 hu3) | (refine wpList_set_insert rfl (.tmp 19) (.tmp 21) (.const (.bool true)) rfl ej rfl rfl rfl HI3.out.set Try.underlying56 Try.underlying3 ?_; intro w4 hs4 hu4; obtain ⟨v4, Lr, hJ, hw4⟩ := HI.out.ins2 (e := ⟨ej, ep, 1, eix⟩) HU3.out rfl hs4 hu4 (by omega) (by omega); have Hw4 := Lib.hid hw4; clear hw4; obtain ⟨a4, c4, rfl⟩ := own_shape hJ.br.row; have z0 := hJ.br.blk.cell (o := 0) rfl; have HJ := Lib.hid hJ; have HB4 := Lib.hid (hu4.blk HB3.out (by have := HI.out.upd.size; have := HI.out.cell.lt; simp; omega)); clear hs4 hu4 hJ x0 x2 xq))
        have hlen := HJ.out.ups.len
        have hlt2 : (es.take i).length = i := by have := Hn.out; simp; omega
        rw [hlt2] at hlen
        clear hlt2
        refine (index24_any (I := fun w' => EvAt w' wr.heap.size ⟨ej, ep, 1, eix⟩ ∧ ∀ x ∈ Lr, EvAt w' x.p x.ev) (P := ofJob ej) (cap := wr.heap.size) (.slice a4 Lr.length c4) Lr _ HJ.out.br.row (by omega) ⟨?_, ?_⟩ ?_).mono ?_
        · rintro x hx w' ⟨k1, k2⟩
          exact clo24 x _ _ w' (k2 x hx) k1
        · rintro w1 w2 ⟨k1, k2⟩ u
          refine ⟨k1.upd u ?_, fun x hx => (k2 x hx).upd u ?_⟩
          · simp only [Option.mem_toList, Option.mem_def]
            intro e
            have h2 := Hw4.out wr.heap.size (by simp [foot, e])
            omega
          · have := (HJ.out.br.out x hx).2
            simpa using this
        · exact ⟨evAt_of (r := []) HB4.out, fun x hx => evAt_im (HJ.out.br.its x hx)⟩
        rintro e w5 ⟨r, rfl, u5, hr⟩
        have HJ5 := Lib.hid (HJ.out.any u5)
        have HB5 := Lib.hid (u5.blk HB4.out (by simp))
        clear z0 u5 HJ HB4 HI3 HB3
        have z0 := HJ5.out.br.blk.cell (o := 0) rfl
        have zl := HJ5.out.br.blk.lt
        rcases hr with ⟨rfl, hall⟩ | ⟨i', x, rfl, hx, hp, hbe⟩
        · -- a new one
          have Hall := Lib.hid hall
          clear hall
          go_wp2_with fail
          clear z0
          refine wp_region_lex (fun w' => Blk w' b 55 [.slice a4 Lr.length c4] ∧ Blk w' wr.heap.size 26 (Ev.vals ⟨ej, ep, 1, eix⟩)) 12 [(0, true), (1, true), (2, true), (3, true), (4, true), (5, true), (6, true), (7, false), (8, false), (9, false), (10, false), (11, false), (12, false)] (by kernel_rfl) (by kernel_rfl) (by kernel_rfl) (by kernel_rfl) (fun _ _ d _ _ h => by cases d <;> exact h) ?_
          simp only [lexOps, List.map_cons, List.map_nil, List.getD_cons_zero, List.getD_cons_succ]
          have hS0 : Blk w5.drew b 55 [.slice a4 Lr.length c4] ∧ Blk w5.drew wr.heap.size 26 (Ev.vals ⟨ej, ep, 1, eix⟩) := ⟨HJ5.out.br.blk, HB5.out⟩
          iterate 5 (refine lex_read rfl (by exact hS0) (v := ?_) (fun w' hw => ?_) ?_; rotate_left; (focus (have q0 := hw.1.cell (o := 0) rfl; clear hw; go_simp; try with_reducible rfl)); simp only [Act.put, List.setIfInBounds_toArray, List.set_cons_zero, List.set_cons_succ])
          refine lex_read rfl (by exact hS0) (fun w' hw => exec_load (by rfl) (by rfl) (run_load_blk hw.2 26 _ Try.underlying26 rfl (by exact Try.size26))) ?_
          simp only [Act.put, List.setIfInBounds_toArray, List.set_cons_zero, List.set_cons_succ]
          refine lex_read rfl (by exact hS0) (fun w' hw => exec_build (by rfl) (by simp [Act.eval]) (build60 ⟨ej, ep, 1, eix⟩ _)) ?_
          simp only [Act.put, List.setIfInBounds_toArray, List.set_cons_zero, List.set_cons_succ]
          refine lex_do rfl (fun K hK => ?_)
          refine wp_box_any 60 (.tmp 37) (by rfl) (Im.vals ⟨0, ⟨ej, ep, 1, eix⟩, 0, 0, false, 0, 0⟩) (by rfl) ?_
          refine hK _ _ (fun _ => ⟨hS0.1.alloc _, hS0.2.alloc _⟩) ?_
          clear hK K
          simp only [Act.put, List.setIfInBounds_toArray, List.set_cons_zero, List.set_cons_succ]
          refine lex_run rfl (exec_buildSlice (by rfl) (by simp [Act.eval]) (buildSlice53 w5.drew.heap.size _)) (fun _ => ⟨(hS0.1.alloc _).alloc _, (hS0.2.alloc _).alloc _⟩) ?_
          simp only [Act.put, List.setIfInBounds_toArray, List.set_cons_zero, List.set_cons_succ]
          have hW1 : Upd [] w5 w5.drew := (Upd.refl _ _).drew
          have hW2 : Upd [] w5.drew ((w5.drew.alloc (.cells (Im.vals ⟨0, ⟨ej, ep, 1, eix⟩, 0, 0, false, 0, 0⟩).toArray 60)).alloc (.cells #[.pointer (some ⟨w5.drew.heap.size, 0, none⟩)] 58)) := ((Upd.refl _ _).alloc _).alloc _
          have hBp : Blk ((w5.drew.alloc (.cells (Im.vals ⟨0, ⟨ej, ep, 1, eix⟩, 0, 0, false, 0, 0⟩).toArray 60)).alloc (.cells #[.pointer (some ⟨w5.drew.heap.size, 0, none⟩)] 58)) w5.drew.heap.size 60 (Im.vals ⟨w5.drew.heap.size, ⟨ej, ep, 1, eix⟩, 0, 0, false, 0, 0⟩) := (Blk.new w5.drew 60 (Im.vals ⟨0, ⟨ej, ep, 1, eix⟩, 0, 0, false, 0, 0⟩)).alloc _
          have hnews := Blk.news (Blk.new (w5.drew.alloc (.cells (Im.vals ⟨0, ⟨ej, ep, 1, eix⟩, 0, 0, false, 0, 0⟩).toArray 60)) 58 [.pointer (some ⟨w5.drew.heap.size, 0, none⟩)])
          have hrow := (HJ5.out.br.any (hW1.trans hW2 (by simp))).row
          refine lex_do rfl (fun K hK => ?_)
          refine wp_append_lies _ _ _ 53 (by rfl) 0 58 i8 _ 1 8 Try.underlying53 hi8 hz80 hz81 hz82 rfl (by omega) (.slice a4 Lr.length c4) Lr.length (ptrs Lr) (by rfl) hrow _ 1 1 [.pointer (some ⟨w5.drew.heap.size, 0, none⟩)] (by rfl) (by rfl) hnews (by simp [Value.oneCell']) (by omega) (by unfold maxLen; omega) (by omega) (by simp) _ rfl ?_
          intro gg cap w1 hown1 hgrow hat hltg
          have HfW := (hW1.trans hW2 (by simp)).blk HJ5.out.br.blk (by simp)
          have HBW := (hW1.trans hW2 (by simp)).blk HB5.out (by simp)
          have Hx := Lib.hid (HJ5.out.app rfl Hall.out (HJ5.out.set.lt) (HJ5.out.cell.lt) hW1 rfl hW2 hBp hown1 hgrow hat hltg)
          generalize (w5.drew.alloc (.cells (Im.vals ⟨0, ⟨ej, ep, 1, eix⟩, 0, 0, false, 0, 0⟩).toArray 60)).alloc (.cells #[.pointer (some ⟨w5.drew.heap.size, 0, none⟩)] 58) = W2 at *
          have hb1 : Blk w1 b 55 _ := (hgrow.block b HfW.lt (fun e => HJ5.out.br.ne e.symm)).trans HfW
          have hb2 : Blk w1 wr.heap.size 26 _ := (hgrow.block wr.heap.size HBW.lt (fun e => Nat.lt_irrefl _ (Hw4.out wr.heap.size (by simp [foot, ← e])))).trans HBW
          have q0 := hb1.cell (o := 0) rfl
          have q1 := hb1.frozen 0
          refine hK _ _ (fun _ => ⟨hb1, hb2⟩) ?_
          simp only [Act.put, List.setIfInBounds_toArray, List.set_cons_zero, List.set_cons_succ]
          clear hK K hown1 hgrow hat hltg hrow hW1 hW2 hBp hnews hS0 HfW HBW
          iterate 2 (refine lex_do rfl (fun K hK => ?_); go_simp; refine hK _ _ (fun _ => ⟨hb1, hb2⟩) ?_; clear hK K; try simp only [Act.put, List.setIfInBounds_toArray, List.set_cons_zero, List.set_cons_succ])
          refine lex_do rfl (fun K hK => ?_)
          go_simp
          refine hK _ _ (fun h => absurd rfl h) ?_
          clear hK K
          try simp only [Act.put, List.setIfInBounds_toArray, List.set_cons_zero, List.set_cons_succ]
          refine lex_nil ?_
          clear q0 q1 hb1 hb2
          go_wp2_with fail
          go_roundg (n - (i + 1))
          case measure => omega
          case rel => exact ⟨i + 1, by go_num, by omega, rfl, by rw [Hsn.out]; exact Hx.out⟩
        · have Hx := Lib.hid hx
          have Hp := Lib.hid hp
          have Hbe := Lib.hid hbe
          have hil := (List.getElem?_eq_some_iff.1 hx).1
          obtain ⟨s, c', e, hlc, hcm, hs⟩ := HJ5.out.br.isSome (by omega)
          obtain ⟨rfl, rfl⟩ : a4 = some ⟨s, 0, none⟩ ∧ c4 = c' := by simpa using e
          have hc := HJ5.out.br.cell hx
          have hbl := HJ5.out.br.its x (List.mem_of_getElem? hx)
          have Hbl := Lib.hid hbl
          unfold maxLen at hcm
          clear hx hp hbe e hbl
          obtain ⟨p, ⟨j, pr, st, ix⟩, cnt, off, had, wk, tk⟩ := x
          obtain ⟨i0, i1, i2, i3, i4, _, _, i7, _, _, f⟩ := imAt_of Hbl.out
          simp only [Im.ptr] at hc
          dsimp only at i0 i1 i2 i3 i4 i7
          cases had
          · have hd : decide (i' < Lr.length) = true := by simpa using hil
            have f0 := f 0
            have f1 := f 1
            have f2 := f 2
            have f3 := f 3
            clear f
            have hBn : Blk ((((w5.drew.setCell ⟨p, 0, none⟩ (.int .i64 ej)).setCell ⟨p, 1, none⟩ (.int .i64 ep)).setCell ⟨p, 2, none⟩ (.int .i64 1)).setCell ⟨p, 3, none⟩ (.int .i64 eix)) p 60 (Im.vals ⟨p, ⟨ej, ep, 1, eix⟩, cnt, off, false, wk, tk⟩) := by
              have := ((((show Blk w5.drew p 60 _ from Hbl.out).set 0 (.int .i64 ej)).set 1 (.int .i64 ep)).set 2 (.int .i64 1)).set 3 (.int .i64 eix)
              simpa [Im.vals, Ev.vals] using this
            have hun : Upd [p] w5 ((((w5.drew.setCell ⟨p, 0, none⟩ (.int .i64 ej)).setCell ⟨p, 1, none⟩ (.int .i64 ep)).setCell ⟨p, 2, none⟩ (.int .i64 1)).setCell ⟨p, 3, none⟩ (.int .i64 eix)) := by
              refine Upd.setCell (Upd.setCell (Upd.setCell (Upd.setCell (Upd.refl _ _).drew (a := ⟨p, 0, none⟩) (.inl ?_) _) (a := ⟨p, 1, none⟩) (.inl ?_) _) (a := ⟨p, 2, none⟩) (.inl ?_) _) (a := ⟨p, 3, none⟩) (.inl ?_) _ <;> simp
            have Hfin := Lib.hid (HJ5.out.put (x := ⟨p, ⟨j, pr, st, ix⟩, cnt, off, false, wk, tk⟩) rfl Hx.out Hp.out Hbe.out rfl hBn hun)
            clear hBn hun
            go_wp2_with fail
            clear z0
            have hS0 : Blk w5.drew b 55 [.slice (some ⟨s, 0, none⟩) Lr.length c4] ∧ w5.drew.cell? ⟨s, i', none⟩ = some (.pointer (some ⟨p, 0, none⟩)) ∧ Blk w5.drew wr.heap.size 26 (Ev.vals ⟨ej, ep, 1, eix⟩) := ⟨HJ5.out.br.blk, hc, HB5.out⟩
            refine wp_region_lex (fun w' => Blk w' b 55 [.slice (some ⟨s, 0, none⟩) Lr.length c4] ∧ w'.cell? ⟨s, i', none⟩ = some (.pointer (some ⟨p, 0, none⟩)) ∧ Blk w' wr.heap.size 26 (Ev.vals ⟨ej, ep, 1, eix⟩)) 10 [(0, true), (1, true), (2, true), (3, true), (4, true), (5, true), (6, true), (7, true), (8, false), (9, false), (10, false)] (by kernel_rfl) (by kernel_rfl) (by kernel_rfl) (by kernel_rfl) (fun _ _ d _ _ h => by cases d <;> exact h) ?_
            simp only [lexOps, List.map_cons, List.map_nil, List.getD_cons_zero, List.getD_cons_succ]
            clear hc i7
            iterate 7 (refine lex_read rfl (by exact hS0) (v := ?_) (fun w' hw => ?_) ?_; rotate_left; (focus (obtain ⟨k1, k2, k3⟩ := hw; have q0 := k1.cell (o := 0) rfl; clear k1 k3; go_simp; try with_reducible rfl)); simp only [Act.put, List.setIfInBounds_toArray, List.set_cons_zero, List.set_cons_succ])
            refine lex_read rfl (by exact hS0) (fun w' hw => exec_load (by rfl) (by rfl) (run_load_blk hw.2.2 26 _ Try.underlying26 rfl (by exact Try.size26))) ?_
            simp only [Act.put, List.setIfInBounds_toArray, List.set_cons_zero, List.set_cons_succ]
            iterate 2 (refine lex_do rfl (fun K hK => ?_); go_simp; refine hK _ _ (fun _ => hS0) ?_; clear hK K; try simp only [Act.put, List.setIfInBounds_toArray, List.set_cons_zero, List.set_cons_succ])
            refine lex_do rfl (fun K hK => ?_)
            simp only [Ev.vals]
            go_simp
            refine hK _ _ (fun h => absurd rfl h) ?_
            clear hK K hS0
            try simp only [Act.put, List.setIfInBounds_toArray, List.set_cons_zero, List.set_cons_succ]
            refine lex_nil ?_
            clear i0 i1 i2 i3 i4 f0 f1 f2 f3
            go_wp2_with fail
            go_roundg (n - (i + 1))
            case measure => omega
            case rel => exact ⟨i + 1, by go_num, by omega, rfl, by rw [Hsn.out]; exact Hfin.out⟩
          · go_wp2_with fail
            go_roundg (n - (i + 1))
            case measure => omega
            case rel => exact ⟨i + 1, by go_num, by omega, rfl, by rw [Hsn.out]; exact HJ5.out.had rfl Hx.out Hp.out Hbe.out rfl⟩
      · have hd1 : (est == 1) = false := beq_eq_false_iff_ne.2 hs1
        have Hs1 := Lib.hid hs1
        clear hs1
        go_wp2_with (first | (refine wpList_load_mid rfl 26 (.tmp 14) rfl k (o + i * 4) rfl (Ev.vals ⟨ej, ep, est, eix⟩) _ Hrg.out Try.underlying26 rfl Try.size26 ?_) | (refine wpList_alloc_blk rfl 26 rfl Ev.zero.vals (zero26 _) ?_; intro w2 hb2 hu2) | (refine wpList_store_blk (o := ⟨none, .store 26 (.tmp 6) (.tmp 15), _, _, _, _⟩) rfl 26 (.tmp 6) (.tmp 15) rfl _ (Ev.vals ⟨ej, ep, est, eix⟩) rfl rfl hb2 Try.size26 rfl (Ev.one _) ?_; intro w3 hb3 hu3; have x2 := hb3.cell (o := 2) (v := .int .i64 est) rfl))
        go_roundg (n - (i + 1))
        case measure => omega
        case rel => exact ⟨i + 1, by go_num, by omega, rfl, by rw [Hsn.out]; exact (HI.out.any (hu2.trans hu3 (by simp))).skip Hs1.out⟩
    · obtain rfl : i = n := by omega
      have hall : es.take i = es := by rw [← Hn.out]; exact List.take_length
      rw [hall] at HI
      obtain ⟨v4, Lr, hups, hbr, hft⟩ := HI.out.ex
      have Hups := Lib.hid hups
      have Hbr := Lib.hid hbr
      have Hft := Lib.hid hft
      have hlen := hups.len
      obtain ⟨a4, c4, rfl⟩ := own_shape hbr.row
      have z0 := hbr.blk.cell (o := 0) rfl
      have zl := hbr.blk.lt
      have xq := HI.out.cell.cell (o := 0) rfl
      have xql := HI.out.cell.lt
      rw [Hn.out] at hlen
      clear hall hups hbr hft
      go_wp2_with fail
      refine (del26_any (I := fun w' => w'.cell? ⟨w.heap.size + 2, 0, none⟩ = some (.map (some (w.heap.size + 1))) ∧ w.heap.size + 2 < w'.heap.size ∧ SetIs w' (w.heap.size + 1) (pend es) ∧ ∀ y ∈ Lr, Blk w' y.p 60 y.vals) (P := fun x => !x.had && !pend es x.ev.job) (cap := w.heap.size + 2) (.slice a4 Lr.length c4) Lr _ Hbr.out.row (by omega) ⟨?_, ?_⟩ ?_).mono ?_
      · rintro y hy w' ⟨k1, _, k2, k3⟩
        exact clo26 y _ _ _ w' (k3 y hy) k1 k2
      · rintro w1 w2 ⟨k1, k2, k3, k4⟩ u
        have hne : ∀ k, (Value.slice a4 Lr.length c4).ownBlock = some k → k ≠ w.heap.size + 1 ∧ k ≠ w.heap.size + 2 := fun k hk => (Hft.out k (by simp [foot, hk])).2.2
        refine ⟨(u.cell (a := ⟨w.heap.size + 2, 0, none⟩) k2 ?_).trans k1, Nat.lt_of_lt_of_le k2 u.size, k3.upd u ?_, fun y hy => u.blk (k4 y hy) ?_⟩
        · simp only [Option.mem_toList, Option.mem_def]
          intro e
          exact (hne _ e).2 rfl
        · simp only [Option.mem_toList, Option.mem_def]
          intro e
          exact (hne _ e).1 rfl
        · have := (Hbr.out.out y hy).2
          simpa using this
      · exact ⟨xq, xql, HI.out.set, Hbr.out.its⟩
      rintro e w1 ⟨v', rfl, hr, hu, hv⟩
      have hbf := hu.blk Hbr.out.blk (by simpa using Hbr.out.ne)
      have g0 := hbf.cell (o := 0) rfl
      have gf := hbf.frozen 0
      have hlw := hbf.lt
      have hP := del_post (F := fo ++ foot b (.slice a4 Lr.length c4) Lr) (w := w) Hbr.out (fun k hk => ⟨by simp [hk], (Hft.out k hk).1⟩) (HI.out.upd.mono (by simp +contextual)) hr List.filter_sublist hv hu
      have hQ := hP.weak (F := F) (fun k hk => by
        have key : ∀ k ∈ fo, k ∈ F := fun k hk => (HF.out k hk).1
        rcases List.mem_append.1 hk with h1 | h1
        · exact .inl (key k h1)
        · rcases (Hft.out k h1).2.1 with h2 | h2
          · exact .inl (key k h2)
          · exact .inr h2)
      have HQ := Lib.hid hQ
      obtain ⟨a', c', rfl⟩ := own_shape hr
      clear hr hu hv hbf hP hQ z0 xq
      generalize hfe : (Lr.filter fun x => !(!x.had && !pend es x.ev.job)) = Lf at *
      have Hfe := Lib.hid hfe
      clear hfe
      go_wp2_with fail
      go_end0
      exact ⟨rfl, Lr, Hups.out, by rw [Hfe.out]; exact HQ.out⟩
end Go.Proofs.Ytlebhaobfheocaa
