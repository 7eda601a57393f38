/- lives: the greatest priority first, and no worker has two. -/
import Derived.Test.YtlebhaobfheocaaInv
set_option linter.unusedVariables false
set_option linter.unusedSimpArgs false
namespace Go.Proofs.Ytlebhaobfheocaa
open Go.RowKit Go.Lb Go.Hp

theorem build34 (a : Option Addr) (n c : Nat) (w : World) : (Instr.build 34 #[(6, .slice a n c)]).run Try.prog w = .ok (stA (.int .i64 0) (.int .i64 0) (.slice none 0 0) (.slice none 0 0) (.slice none 0 0) (.slice none 0 0) a n c (.slice none 0 0) (.slice none 0 0)) w := by kernel_rfl
theorem build26 (j p s i : Int) (w : World) : (Instr.build 26 #[(0, .int .i64 j), (1, .int .i64 p), (2, .int .i64 s), (3, .int .i64 i)]).run Try.prog w = .ok (.agg (Ev.vals ⟨j, p, s, i⟩).toArray) w := by kernel_rfl
theorem buildSlice22b (x y : Ev) (w : World) : (Instr.buildSlice 22 2 #[(0, .agg x.vals.toArray), (1, .agg y.vals.toArray)]).run Try.prog w = .ok (.slice (some ⟨w.heap.size, 0, none⟩) 2 2) (w.alloc (.cells (x.vals ++ y.vals).toArray 26)) := by kernel_rfl
theorem evRow2 {w : World} {q t : Nat} {x y : Ev} (h : Blk w q t (x.vals ++ y.vals)) : EvRow w (some ⟨q, 0, none⟩) [x, y] := by
  intro i e he
  match i, he with
  | 0, he =>
    obtain rfl : x = e := by simpa using he
    exact ⟨q, 0, rfl, h.lt, fun j v hj => by
      have := h.cell (o := j) (v := v) (by rw [List.getElem?_append_left (List.getElem?_eq_some_iff.1 hj).1]; exact hj)
      simpa using this⟩
  | 1, he =>
    obtain rfl : y = e := by simpa using he
    exact ⟨q, 0, rfl, h.lt, fun j v hj => by
      have := h.cell (o := 4 + j) (v := v) (by rw [List.getElem?_append_right (by simp [Ev.vals])]; simpa [Ev.vals] using hj)
      simpa using this⟩

/-- What a call leaves; a block that is none of the broker's stays. -/
theorem St.keep {w0 wr w' : World} {b : Nat} {F F' : List Nat} {q t : Nat} {vs : List Value} (u : Upd F wr w') (f : ∀ k, k < wr.heap.size → k ∉ F → k ∉ F') (h : Blk wr q t vs) (hq : q ∉ F) : Blk w' q t vs ∧ q ∉ F' := ⟨u.blk h hq, f q h.lt hq⟩

def lv1 : Ev := ⟨1, 50, 1, 4⟩
def lv2 : Ev := ⟨2, 70, 1, 9⟩
def lvR : List Rf := [rNew lv1, rNew lv2]
def lvS : List Rf := [rNew lv1, rDq 1 (rNew lv2)]
def lvT : List Rf := [rDq 2 (rNew lv1), rDq 1 (rNew lv2)]
def lvU : List Rf := [rDq 2 (rNew lv1)]

set_option maxRecDepth 100000 in
set_option maxHeartbeats 4000000 in
theorem lives_any (w : World) : Calls Try.prog 12 #[] w fun e w' => e = .returned (.bool true) ∧ Upd [] w w' := by
  have b34 := build34
  have b26 := build26
  have bS := buildSlice22b ⟨1, 50, 1, 4⟩ ⟨2, 70, 1, 9⟩
  go_enter Try.func12, Try.ntmps12
  go_wp2_with fail
  refine (rnew _).mono ?_
  rintro e w1 ⟨b, rfl, h1, u1, n1⟩
  obtain ⟨F1, g1⟩ := St.start h1 u1 (by simpa using n1) Inv.nil
  have K1 := Lib.hid g1
  clear h1 u1 n1 g1
  go_wp2_with fail
  have hq := Blk.new w1 26 (Ev.vals lv1 ++ Ev.vals lv2)
  have hE := evRow2 hq
  refine (rupdate (K1.out.any ((Upd.refl [] w1).alloc (.cells (Ev.vals lv1 ++ Ev.vals lv2).toArray 26))).br [lv1, lv2] (some ⟨w1.heap.size, 0, none⟩) 2 2 _ _ _ _ _ _ _ _ hE rfl (fun _ ad h => by rw [← Option.some.inj h]; exact K1.out.free) (by simp)).mono ?_
  rintro e w2 ⟨rfl, h2⟩
  obtain ⟨F2, g2, _, _⟩ := (K1.out.any ((Upd.refl [] w1).alloc (.cells (Ev.vals lv1 ++ Ev.vals lv2).toArray 26))).go h2 (Inv.nil.upd _)
  have e2 : rUpd [] [lv1, lv2] = lvR := by decide
  rw [e2] at g2
  have K2 := Lib.hid g2
  clear h2 g2 K1 hq hE bS b26 b34
  go_wp2_with fail
  refine (rdeq K2.out.br (by decide) K2.out.inv.good K2.out.inv.jd 1).mono ?_
  rintro e w3 ⟨rfl, h3⟩
  obtain ⟨F3, g3, _, _⟩ := K2.out.go h3 (K2.out.inv.deq 1)
  have e3 : rDeq lvR 1 = (some lv2, lvS) := by decide
  rw [e3] at g3
  rw [e3]
  have K3 := Lib.hid g3
  clear h3 g3 K2
  simp only [deqV]
  go_wp2_with (first | (refine wpList_alloc_blk rfl 26 rfl Ev.zero.vals (zero26 _) ?_; intro w4 hb4 hu4) | (refine wpList_store_blk (o := ⟨none, .store 26 (.tmp 2) (.tmp 20), _, _, _, _⟩) rfl 26 (.tmp 2) (.tmp 20) rfl _ lv2.vals rfl rfl hb4 Try.size26 rfl (Ev.one _) ?_; intro w5 hb5 hu5))
  have K5 := Lib.hid (K3.out.any (hu4.trans hu5 (by simp)))
  have HB := Lib.hid (⟨hb5, K3.out.free⟩ : Blk w5 w3.heap.size 26 lv2.vals ∧ w3.heap.size ∉ F3)
  clear hu4 hb4 hu5 hb5 K3
  generalize w3.heap.size = q2 at *
  refine (rdeq K5.out.br (by decide) K5.out.inv.good K5.out.inv.jd 1).mono ?_
  rintro e w6 ⟨rfl, h6⟩
  obtain ⟨F6, g6, u6, f6⟩ := K5.out.go h6 (K5.out.inv.deq 1)
  have e6 : rDeq lvS 1 = (none, lvS) := by decide
  rw [e6] at g6
  rw [e6]
  have K6 := Lib.hid g6
  have HB6 := Lib.hid (St.keep (w0 := w) (b := b) u6 f6 HB.out.1 HB.out.2)
  clear h6 g6 K5 HB u6 f6
  simp only [deqV]
  go_wp2_with (first | (refine wpList_alloc_blk rfl 26 rfl Ev.zero.vals (zero26 _) ?_; intro w7 hb7 hu7) | (refine wpList_store_blk (o := ⟨none, .store 26 (.tmp 4) (.tmp 25), _, _, _, _⟩) rfl 26 (.tmp 4) (.tmp 25) rfl _ Ev.zero.vals rfl rfl hb7 Try.size26 rfl (Ev.one _) ?_; intro w8 hb8 hu8))
  have K8 := Lib.hid (K6.out.any (hu7.trans hu8 (by simp)))
  have HB8 := Lib.hid (⟨(hu7.trans hu8 (by simp)).blk HB6.out.1 (by simp), HB6.out.2⟩ : Blk w8 q2 26 lv2.vals ∧ q2 ∉ F6)
  clear hu7 hb7 hu8 hb8 K6 HB6
  refine (rdeq K8.out.br (by decide) K8.out.inv.good K8.out.inv.jd 2).mono ?_
  rintro e w9 ⟨rfl, h9⟩
  obtain ⟨F9, g9, u9, f9⟩ := K8.out.go h9 (K8.out.inv.deq 2)
  have e9 : rDeq lvS 2 = (some lv1, lvT) := by decide
  rw [e9] at g9
  rw [e9]
  have K9 := Lib.hid g9
  have HB9 := Lib.hid (St.keep (w0 := w) (b := b) u9 f9 HB8.out.1 HB8.out.2)
  clear h9 g9 K8 HB8 u9 f9
  simp only [deqV]
  go_wp2_with (first | (refine wpList_alloc_blk rfl 26 rfl Ev.zero.vals (zero26 _) ?_; intro w10 hb10 hu10) | (refine wpList_store_blk (o := ⟨none, .store 26 (.tmp 6) (.tmp 30), _, _, _, _⟩) rfl 26 (.tmp 6) (.tmp 30) rfl _ lv1.vals rfl rfl hb10 Try.size26 rfl (Ev.one _) ?_; intro w11 hb11 hu11; have K11 := Lib.hid (K9.out.any (hu10.trans hu11 (by simp))); have x0 := ((hu10.trans hu11 (by simp)).blk HB9.out.1 (by simp)).cell (o := 0) (v := .int .i64 2) rfl; have y0 := hb11.cell (o := 0) (v := .int .i64 1) rfl))
  clear x0 y0 hu10 hb10 hu11 hb11 K9 HB9
  refine (rack K11.out.br (by decide) 1).mono ?_
  rintro e w12 ⟨rfl, h12⟩
  obtain ⟨F12, g12, _, _⟩ := K11.out.go h12 (K11.out.inv.ack 1)
  have e12 : rAck lvT 1 = lvU := by decide
  rw [e12] at g12
  have K12 := Lib.hid g12
  clear h12 g12 K11
  rw [show lvT.any (rHad 1) = true by decide]
  simp only [if_true]
  go_wp2_with fail
  refine (rack K12.out.br (by decide) 1).mono ?_
  rintro e w13 ⟨rfl, h13⟩
  obtain ⟨F13, g13, _, _⟩ := K12.out.go h13 (K12.out.inv.ack 1)
  have e13 : rAck lvU 1 = lvU := by decide
  rw [e13] at g13
  have K13 := Lib.hid g13
  clear h13 g13 K12
  rw [show lvU.any (rHad 1) = false by decide]
  simp only [Bool.false_eq_true, if_false]
  go_wp2_with fail
  refine (rlen K13.out.br).mono ?_
  rintro e w14 ⟨rfl, rfl⟩
  rw [show (lvU.length : Int) = 1 from rfl]
  go_wp2_with fail
  go_ret
  exact ⟨rfl, K13.out.upd⟩
end Go.Proofs.Ytlebhaobfheocaa
