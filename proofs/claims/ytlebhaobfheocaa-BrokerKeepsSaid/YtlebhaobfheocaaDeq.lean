/- Dequeue: the least of those that may be handed out, by a heap. Condition: counts in bounds. -/
import Derived.Test.YtlebhaobfheocaaTick
set_option linter.unusedVariables false
set_option linter.unusedSimpArgs false
namespace Go.Proofs.Ytlebhaobfheocaa
open Go.RowKit Go.Lb Go.Hp

def elig (x : Im) : Bool := !x.had && decide (x.off = 0)
def deqd (wk : Int) (x : Im) : Im := { x with had := true, wk := wk, tk := 0, cnt := x.cnt + 1 }
def deqV : Option Ev → Value
  | none => .tuple #[.agg Ev.zero.vals.toArray, .bool false]
  | some e => .tuple #[.agg e.vals.toArray, .bool true]

/-- What Dequeue does: the answer, and what is left. -/
def DeqR (L : List Im) (wk : Int) (r : Option Ev) (L' : List Im) : Prop :=
  ((L.find? (isHad wk) ≠ none ∨ ∀ x ∈ L, elig x = false) ∧ r = none ∧ L' = L) ∨
  (L.find? (isHad wk) = none ∧ ∃ x ∈ L, elig x = true ∧ (∀ y ∈ L, elig y = true → y.ev.ls x.ev = false) ∧ r = some x.ev ∧ L' = setIm L (deqd wk x))

theorem Ev.one (e : Ev) : ∀ u ∈ e.vals, u.oneCell' = true := by
  intro u hu
  simp only [Ev.vals, List.mem_cons, List.not_mem_nil, or_false] at hu
  rcases hu with h | h | h | h <;> subst h <;> rfl
theorem Try.size26 : (Try.prog.info? 26).map (·.size) = some 4 := by kernel_rfl
theorem build26z (w : World) : (Instr.build 26 #[]).run Try.prog w = .ok (.agg Ev.zero.vals.toArray) w := by kernel_rfl

/-- The heap that is being filled. -/
structure Fill (w0 : World) (hb : Nat) (L : List Im) (i : Nat) (fp : List Nat) (H : List It) (wr : World) : Prop where
  upd : Upd [] w0 wr
  heap : HeapIs wr hb fp H H.length
  new : ∀ k ∈ fp, w0.heap.size ≤ k
  perm : (H.map fun y => (y.p, y.ev)).Perm (((L.take i).filter elig).map fun x => (x.p, x.ev))
theorem Fill.len {w0 wr : World} {hb i : Nat} {L : List Im} {fp : List Nat} {H : List It} (h : Fill w0 hb L i fp H wr) : H.length ≤ L.length := by
  have h1 := h.perm.length_eq
  simp only [List.length_map] at h1
  have h2 := List.length_filter_le elig (L.take i)
  have h3 := List.length_take_le' i L
  omega
theorem Fill.push {w0 wr w1 : World} {hb i : Nat} {L : List Im} {fp fp' : List Nat} {H H' : List It} {x : Im} (h : Fill w0 hb L i fp H wr) (hx : L[i]? = some x) (he : elig x = true)
    (h1 : HeapIs w1 hb fp' H' (H.length + 1)) (h2 : H'.Perm (H ++ [⟨x.p, x.ev, (H.length : Int) + 1⟩])) (u : Upd fp wr w1) (f : ∀ k ∈ fp', k ∈ fp ∨ wr.heap.size ≤ k) : Fill w0 hb L (i + 1) fp' H' w1 := by
  have hl := h2.length_eq
  simp at hl
  refine ⟨h.upd.trans u (fun k hk => .inr (h.new k hk)), by rw [hl]; simpa using h1, fun k hk => ?_, ?_⟩
  · rcases f k hk with h3 | h3
    · exact h.new k h3
    · have := h.upd.size; omega
  · refine (h2.map _).trans ?_
    rw [take_snoc hx, List.filter_append, List.map_append, List.map_append]
    simp only [List.filter_cons, he, if_true, List.filter_nil, List.map_cons, List.map_nil]
    exact h.perm.append_right _
theorem Fill.skip {w0 wr : World} {hb i : Nat} {L : List Im} {fp : List Nat} {H : List It} {x : Im} (h : Fill w0 hb L i fp H wr) (hx : L[i]? = some x) (he : elig x = false) : Fill w0 hb L (i + 1) fp H wr := by
  refine ⟨h.upd, h.heap, h.new, ?_⟩
  rw [take_snoc hx, List.filter_append]
  simpa [he] using h.perm

theorem fill_none {w0 wr : World} {hb : Nat} {L : List Im} {fp : List Nat} (h : Fill w0 hb L L.length fp [] wr) : ∀ x ∈ L, elig x = false := by
  have h1 := h.perm.length_eq
  simp only [List.map_nil, List.length_nil, List.length_map, List.take_length] at h1
  have h2 := List.length_eq_zero_iff.1 h1.symm
  intro x hx
  have := List.filter_eq_nil_iff.1 h2 x hx
  simpa using this
theorem fill_some {w0 wr : World} {hb : Nat} {L : List Im} {fp : List Nat} {H : List It} (h : Fill w0 hb L L.length fp H wr) {x : It} (hx : x ∈ H) (hl : ∀ y ∈ H, leI x y) :
    ∃ y ∈ L, elig y = true ∧ y.p = x.p ∧ y.ev = x.ev ∧ ∀ z ∈ L, elig z = true → z.ev.ls y.ev = false := by
  have hp := h.perm
  rw [List.take_length] at hp
  have h1 := hp.mem_iff.1 (List.mem_map.2 ⟨x, hx, rfl⟩)
  obtain ⟨y, hy, e⟩ := List.mem_map.1 h1
  obtain ⟨hy1, hy2⟩ := List.mem_filter.1 hy
  simp only [Prod.mk.injEq] at e
  refine ⟨y, hy1, hy2, e.1, e.2, fun z hz hze => ?_⟩
  have h2 := hp.mem_iff.2 (List.mem_map.2 ⟨z, List.mem_filter.2 ⟨hz, hze⟩, rfl⟩)
  obtain ⟨t, ht, e2⟩ := List.mem_map.1 h2
  simp only [Prod.mk.injEq] at e2
  have := hl t ht
  unfold leI It.ah at this
  simp only [Bool.or_eq_false_iff] at this
  rw [e.2, ← e2.2]
  exact this.1

theorem deq_post {w w3 W : World} {b : Nat} {v : Value} {L : List Im} {F : List Nat} {wk : Int} {x : Im} (h : BrAt w b v L) (hF : ∀ k ∈ foot b v L, k ∈ F ∧ k < w.heap.size) (hx : x ∈ L) (hB : Blk W x.p 60 (deqd wk x).vals) (hU : Upd [x.p] w W) (hu : Upd [w.heap.size] W w3) :
    BPost w b F (setIm L (deqd wk x)) w3 := by
  have hp := (BrAt.in hF hx).2
  exact set_post h hF (x := deqd wk x) ⟨x, hx, rfl⟩ (hu.blk hB (by simp only [List.mem_singleton]; show ¬ x.p = w.heap.size; omega)) (hU.trans hu (by simp))

set_option maxRecDepth 20000 in
set_option maxHeartbeats 4000000 in
theorem deq_any (b : Nat) (F : List Nat) (L : List Im) (wk : Int) (w : World) (h : BrIs w b F L) (hL : L.length ≤ 8796093022206) (hG : ∀ x ∈ L, Good x) :
    Calls Try.prog 9 #[.pointer (some ⟨b, 0, none⟩), .int .i64 wk] w fun e w' => ∃ r L', e = .returned (deqV r) ∧ DeqR L wk r L' ∧ BPost w b F L' w' := by
  have HI := Lib.hid h
  obtain ⟨v, h, hF⟩ := h
  have H := Lib.hid h
  have HF := Lib.hid hF
  have HG := Lib.hid hG
  have u0 : Upd [] w (w.alloc (.cells #[.int .i64 0, .int .i64 0, .int .i64 0, .int .i64 0] 26)) := (Upd.refl _ _).alloc _
  have H0 := Lib.hid (h.any u0)
  have HR := Lib.hid (Blk.new w 26 Ev.zero.vals)
  have HU := Lib.hid u0
  clear h hF hG u0
  have hbz := build26z
  go_enter Try.func9, Try.ntmps9
  go_wp2_with fail
  refine (of_any b v L wk _ H0.out (by omega)).mono ?_
  rintro e w' ⟨rfl, rfl⟩
  cases hf : L.find? (isHad wk) with
  | some x =>
    have Hf := Lib.hid hf
    clear hf
    simp only [ptrOf, Im.ptr]
    go_wp2_with (refine wpList_store_blk (o := ⟨none, .store 26 (.tmp 4) (.tmp 15), _, _, _, _⟩) rfl 26 (.tmp 4) (.tmp 15) rfl w.heap.size Ev.zero.vals rfl rfl HR.out Try.size26 rfl (Ev.one _) ?_; intro w3 hb3 hu3)
    have hl := run_loadVar_blk (P := Try.prog) hb3 26 _ Try.underlying26 rfl (by exact Try.size26)
    refine bodyPost_ret (v := deqV none) ?_ rfl ⟨none, L, rfl, .inl ⟨.inl (by simp [Hf.out]), rfl, rfl⟩, BPost.same HI.out ?_⟩
    · rw [results_cell_tmp Try.results9]; simp [asAddr, hl, deqV]
    · exact HU.out.trans hu3 (by simp)
  | none =>
    have Hf := Lib.hid hf
    clear hf
    simp only [ptrOf]
    go_wp2_with fail
    refine (hnew _).mono ?_
    rintro e w1 ⟨hb, rfl, hh, u1, hn⟩
    have h1 : Fill (w.alloc (.cells #[.int .i64 0, .int .i64 0, .int .i64 0, .int .i64 0] 26)) hb L 0 [hb] [] w1 := ⟨u1, hh, by simpa using hn, by simp⟩
    have HH := Lib.hid (show ∃ fp H, Fill (w.alloc (.cells #[.int .i64 0, .int .i64 0, .int .i64 0, .int .i64 0] 26)) hb L 0 fp H w1 from ⟨_, _, h1⟩)
    obtain ⟨a, c, rfl⟩ := own_shape H.out.row
    have h0 := (u1.blk H0.out.blk (by simp)).cell (o := 0) rfl
    clear hh u1 hn h1
    have HR' : Hid (Blk (w.alloc (.cells #[.int .i64 0, .int .i64 0, .int .i64 0, .int .i64 0] 26)) w.heap.size 26 Ev.zero.vals) := HR
    have hsz : (w.alloc (.cells #[.int .i64 0, .int .i64 0, .int .i64 0, .int .i64 0] 26)).heap.size = w.heap.size + 1 := by simp
    clear HR
    generalize w.alloc (.cells #[.int .i64 0, .int .i64 0, .int .i64 0, .int .i64 0] 26) = w0 at *
    go_wp2_with fail
    clear h0
    go_loopg [22] L.length (fun g u wr => ∃ i : Nat, u = .int .i64 i ∧ i ≤ L.length ∧ g = L.length - i ∧ ∃ fp H, Fill w0 hb L i fp H wr)
    case atStart => exact ⟨0, rfl, Nat.zero_le _, rfl, HH.out⟩
    case round =>
      clear HH
      obtain ⟨i, rfl, hi, rfl, fp, HL, hF⟩ := hrel
      have HFl := Lib.hid hF
      have hlen := hF.len
      clear hF
      by_cases hlt : i < L.length
      · obtain ⟨x, hx⟩ : ∃ x, L[i]? = some x := ⟨_, List.getElem?_eq_getElem hlt⟩
        have hBr := H0.out.any HFl.out.upd
        have hbl := hBr.its x (List.mem_of_getElem? hx)
        have Hbl := Lib.hid hbl
        obtain ⟨s, c', e, hlc, hcm, hs⟩ := hBr.isSome (by omega)
        obtain ⟨rfl, rfl⟩ : a = some ⟨s, 0, none⟩ ∧ c = c' := by simpa using e
        have hc := hBr.cell hx
        have Hx := Lib.hid hx
        have hpw : x.p < w.heap.size := (BrAt.in HF.out (List.mem_of_getElem? hx)).2
        clear e hx hbl hBr
        unfold maxLen at hcm
        obtain ⟨p, ⟨j, pr, st, ix⟩, cnt, off, had, wk', tk⟩ := x
        obtain ⟨i0, _, _, _, _, _, i5, i6, _, _, _⟩ := imAt_of Hbl.out
        simp only [Im.ptr] at hc
        dsimp only at i0 i5 i6 hpw
        cases had
        · by_cases ho : off = 0
          · subst ho
            go_wp2_with fail
            refine (hpush hb fp HL _ p ⟨j, pr, st, ix⟩ _ HFl.out.heap (evAt_im (x := ⟨p, ⟨j, pr, st, ix⟩, cnt, 0, false, wk', tk⟩) Hbl.out) (fun hm => by have := HFl.out.new p hm; omega) (by omega) (by omega) (by omega)).mono ?_
            rintro e w2 ⟨rfl, fp', H', k1, k2, k3, k4⟩
            have HF2 := Lib.hid (HFl.out.push Hx.out (by simp [elig]) k1 k2 k3 k4)
            clear k1 k2 k3 k4 hc i0 i5 i6
            go_wp2_with fail
            go_roundg (L.length - (i + 1))
            case measure => omega
            case rel => exact ⟨i + 1, by go_num, by omega, rfl, fp', H', HF2.out⟩
          · have hob : (off == 0) = false := beq_eq_false_iff_ne.2 ho
            have Ho := Lib.hid ho
            clear ho
            go_wp2_with fail
            go_roundg (L.length - (i + 1))
            case measure => omega
            case rel => exact ⟨i + 1, by go_num, by omega, rfl, fp, HL, HFl.out.skip Hx.out (by simp [elig, Ho.out])⟩
        · go_wp2_with fail
          go_roundg (L.length - (i + 1))
          case measure => omega
          case rel => exact ⟨i + 1, by go_num, by omega, rfl, fp, HL, HFl.out.skip Hx.out (by simp [elig])⟩
      · obtain rfl : i = L.length := by omega
        have hRw := (HFl.out.upd.blk HR'.out (by simp))
        have HRw := Lib.hid hRw
        clear hRw
        by_cases hnil : HL = []
        · subst hnil
          go_wp2_with fail
          refine (hpop_nil hb fp _ _ HFl.out.heap).mono ?_
          rintro e w2 ⟨rfl, u2⟩
          have hbR := u2.blk HRw.out (by simp)
          have HU2 := Lib.hid ((HU.out.trans HFl.out.upd (by simp)).trans u2 (by simp))
          have HbR := Lib.hid hbR
          clear u2 hbR
          go_wp2_with (refine wpList_store_blk (o := ⟨none, .store 26 (.tmp 4) (.tmp 49), _, _, _, _⟩) rfl 26 (.tmp 4) (.tmp 49) rfl w.heap.size Ev.zero.vals rfl rfl HbR.out Try.size26 rfl (Ev.one _) ?_; intro w3 hb3 hu3)
          have hl := run_loadVar_blk (P := Try.prog) hb3 26 _ Try.underlying26 rfl (by exact Try.size26)
          refine bodyPost_ret (v := deqV none) ?_ rfl ⟨none, L, rfl, .inl ⟨.inr (fill_none HFl.out), rfl, rfl⟩, BPost.same HI.out ?_⟩
          · rw [results_cell_tmp Try.results9]; simp [asAddr, hl, deqV]
          · exact HU2.out.trans hu3 (by simp)
        · go_wp2_with fail
          refine (hpop hb fp HL _ _ HFl.out.heap hnil (by omega)).mono ?_
          rintro e w2 ⟨x', rfl, hm, hle, u2⟩
          obtain ⟨x, hx1, hx2, hx3, hx4, hx5⟩ := fill_some HFl.out hm hle
          have hU2 : Upd [] w w2 := (HU.out.trans HFl.out.upd (by simp)).trans u2 (fun k hk => .inr (by have := HFl.out.new k hk; omega))
          have hbR := u2.blk HRw.out (fun hm => by have := HFl.out.new _ hm; omega)
          have hbl := hU2.blk (H.out.its x hx1) (by simp)
          rw [← hx3]
          have Hx := Lib.hid (show DeqR L wk (some x.ev) (setIm L (deqd wk x)) from .inr ⟨Hf.out, x, hx1, hx2, hx5, rfl, rfl⟩)
          have Hx1 := Lib.hid hx1
          have HU2 := Lib.hid hU2
          have HbR := Lib.hid hbR
          have Hbl := Lib.hid hbl
          have hgc := (HG.out x hx1).cnt
          have hpw : x.p < w.heap.size := (BrAt.in HF.out hx1).2
          clear u2 hbR hbl hU2 hx1 hx2 hx3 hx4 hx5 hm hle HRw HFl hlen hnil
          obtain ⟨p, ⟨j, pr, st, ix⟩, cnt, off, had, wk', tk⟩ := x
          obtain ⟨i0, i1, i2, i3, i4, i5, i6, i7, i8, i9, f⟩ := imAt_of Hbl.out
          have f4 := f 4
          have f6 := f 6
          have f7 := f 7
          have f8 := f 8
          dsimp only at i0 i1 i2 i3 i4 i5 i6 i7 i8 i9 hgc hpw
          obtain ⟨hg1, hg2, -⟩ := hgc
          clear f
          have hBl : Blk ((((w2.setCell ⟨p, 6, none⟩ (.bool true)).setCell ⟨p, 7, none⟩ (.int .i64 wk)).setCell ⟨p, 8, none⟩ (.int .i64 0)).setCell ⟨p, 4, none⟩ (.int .i64 (cnt + 1))) p 60 (deqd wk ⟨p, ⟨j, pr, st, ix⟩, cnt, off, had, wk', tk⟩).vals := by
            have := (((Hbl.out.set 6 (.bool true)).set 7 (.int .i64 wk)).set 8 (.int .i64 0)).set 4 (.int .i64 (cnt + 1))
            simpa [deqd, Im.vals, Ev.vals] using this
          have uP : Upd [p] w ((((w2.setCell ⟨p, 6, none⟩ (.bool true)).setCell ⟨p, 7, none⟩ (.int .i64 wk)).setCell ⟨p, 8, none⟩ (.int .i64 0)).setCell ⟨p, 4, none⟩ (.int .i64 (cnt + 1))) := by
            refine Upd.setCell (Upd.setCell (Upd.setCell (Upd.setCell (HU2.out.mono (by simp)) (a := ⟨p, 6, none⟩) (.inl ?_) _) (a := ⟨p, 7, none⟩) (.inl ?_) _) (a := ⟨p, 8, none⟩) (.inl ?_) _) (a := ⟨p, 4, none⟩) (.inl ?_) _ <;> simp
          have hbR4 : Blk ((((w2.setCell ⟨p, 6, none⟩ (.bool true)).setCell ⟨p, 7, none⟩ (.int .i64 wk)).setCell ⟨p, 8, none⟩ (.int .i64 0)).setCell ⟨p, 4, none⟩ (.int .i64 (cnt + 1))) w.heap.size 26 Ev.zero.vals := by
            have hn : w.heap.size ≠ p := by omega
            exact (((HbR.out.other (a := ⟨p, 6, none⟩) hn _).other (a := ⟨p, 7, none⟩) hn _).other (a := ⟨p, 8, none⟩) hn _).other (a := ⟨p, 4, none⟩) hn _
          have HBl := Lib.hid hBl
          have HUP := Lib.hid uP
          have HbR4 := Lib.hid hbR4
          clear hBl uP hbR4
          have hrg : ((((w2.setCell ⟨p, 6, none⟩ (.bool true)).setCell ⟨p, 7, none⟩ (.int .i64 wk)).setCell ⟨p, 8, none⟩ (.int .i64 0)).setCell ⟨p, 4, none⟩ (.int .i64 (cnt + 1))).rangeAt p 0 (Ev.vals ⟨j, pr, st, ix⟩) := HBl.out.rangeIn 0 _ (fun k u hk => by rw [Nat.zero_add]; simp only [Im.vals, deqd]; rw [List.getElem?_append_left (List.getElem?_eq_some_iff.1 hk).1]; exact hk)
          have Hrg := Lib.hid hrg
          clear hrg
          go_upto_region 15 with fail
          clear i0 i1 i2 i3 i4 i5 i6 i7 i8 i9 f4 f6 f7 f8
          generalize (((w2.setCell ⟨p, 6, none⟩ (.bool true)).setCell ⟨p, 7, none⟩ (.int .i64 wk)).setCell ⟨p, 8, none⟩ (.int .i64 0)).setCell ⟨p, 4, none⟩ (.int .i64 (cnt + 1)) = W4 at *
          go_wp2_with (first | (refine wpList_load_mid rfl 26 (.tmp 69) rfl p 0 rfl (Ev.vals ⟨j, pr, st, ix⟩) _ Hrg.out Try.underlying26 rfl Try.size26 ?_) | (refine wpList_store_blk (o := ⟨none, .store 26 (.tmp 4) (.tmp 70), _, _, _, _⟩) rfl 26 (.tmp 4) (.tmp 70) rfl w.heap.size (Ev.vals ⟨j, pr, st, ix⟩) rfl rfl HbR4.out Try.size26 rfl (Ev.one _) ?_; intro w3 hb3 hu3))
          have hl := run_loadVar_blk (P := Try.prog) hb3 26 _ Try.underlying26 rfl (by exact Try.size26)
          refine bodyPost_ret (v := deqV (some ⟨j, pr, st, ix⟩)) ?_ rfl ⟨some ⟨j, pr, st, ix⟩, _, rfl, Hx.out, ?_⟩
          · rw [results_cell_tmp Try.results9]; simp [asAddr, hl, deqV]
          · exact deq_post H.out HF.out Hx1.out HBl.out HUP.out hu3
end Go.Proofs.Ytlebhaobfheocaa
