/- HeapBoxes: the walk. No condition but the slice's own reach. -/
import Derived.Test.YtghpiegcmakggaaPeeks
import Derived.Test.YtghpiegcmakggaaWin
set_option linter.unusedVariables false
set_option linter.unusedSimpArgs false
namespace Go.Proofs.Ytghpiegcmakggaa
open Go.RowKit Go.Lb Go.Hp

theorem Try.info3 : (Try.prog.info? 3).map (fun i => (i.zero, i.size, i.bytes)) = some (some (.int .i64 0), 1, 8) := by kernel_rfl

def ints (q : List Int) : List Value := q.map (Value.int .i64)
@[simp] theorem ints_len (q : List Int) : (ints q).length = q.length := by simp [ints]

structure BoxMid (w : World) (b c room : Nat) (q : List Int) (v : Value) (wr : World) : Prop where
  box : BoxAt wr b c room (ints q)
  win : Win wr 3 v (ints q)
  le : q.length ≤ room
  upd : Upd [] w wr
  vb : ∀ k, v.ownBlock = some k → k ≠ b ∧ k ≠ c ∧ w.heap.size ≤ k
  nb : w.heap.size ≤ b
  nc : w.heap.size ≤ c

theorem BoxMid.any {w w1 w2 : World} {b c room : Nat} {q : List Int} {v : Value} (h : BoxMid w b c room q v w1) (u : Upd [] w1 w2) : BoxMid w b c room q v w2 :=
  ⟨h.box.upd u (by simp) (by simp), h.win.upd u (by simp), h.le, h.upd.trans u (by simp), h.vb, h.nb, h.nc⟩

/-- behind a call on the box -/
structure BoxHalf (w : World) (b c room : Nat) (q q' : List Int) (v : Value) (wr : World) : Prop where
  box : BoxAt wr b c room (ints q')
  win : Win wr 3 v (ints q)
  upd : Upd [] w wr
  vb : ∀ k, v.ownBlock = some k → k ≠ b ∧ k ≠ c ∧ w.heap.size ≤ k
  nb : w.heap.size ≤ b
  nc : w.heap.size ≤ c

theorem BoxMid.half {w w1 w2 : World} {b c room : Nat} {q q' : List Int} {v : Value} (h : BoxMid w b c room q v w1) (h2 : BoxAt w2 b c room (ints q')) (u : Upd [c] w1 w2) : BoxHalf w b c room q q' v w2 :=
  ⟨h2, h.win.upd u (fun k hk => by have := (h.vb k hk).2.1; simpa using this), h.upd.trans u (fun x hx => by simp at hx; subst hx; exact .inr h.nc), h.vb, h.nb, h.nc⟩
theorem BoxHalf.any {w w1 w2 : World} {b c room : Nat} {q q' : List Int} {v : Value} (h : BoxHalf w b c room q q' v w1) (u : Upd [] w1 w2) : BoxHalf w b c room q q' v w2 :=
  ⟨h.box.upd u (by simp) (by simp), h.win.upd u (by simp), h.upd.trans u (by simp), h.vb, h.nb, h.nc⟩
theorem BoxHalf.app {w w1 w2 : World} {b c room : Nat} {q : List Int} {x : Int} {v v' : Value} (h : BoxHalf w b c room q (q ++ [x]) v w1) (hq : q.length < room) (hw : Win w2 3 v' (ints q ++ [.int .i64 x])) (hg : w1.grownBy w2 v.ownBlock) (hv : v'.ownBlock = v.ownBlock ∨ v'.ownBlock = some w1.heap.size) :
    BoxMid w b c room (q ++ [x]) v' w2 := by
  have hb := h.box.blk.lt
  obtain ⟨s, r, hc⟩ := h.box.ch
  have hc := lt_of_block hc
  have hz := h.upd.size
  have u2 : Upd v.ownBlock.toList w1 w2 := (Upd.refl _ _).grown hg (by intro k hk; simp [hk])
  refine ⟨h.box.upd u2 ?_ ?_, by simpa [ints] using hw, by simp; omega, h.upd.trans u2 ?_, ?_, h.nb, h.nc⟩
  · intro hm; simp at hm; exact (h.vb b hm).1 rfl
  · intro hm; simp at hm; exact (h.vb c hm).2.1 rfl
  · intro x hx; simp at hx; exact .inr (h.vb x hx).2.2
  · intro k hk
    rcases hv with e | e
    · exact h.vb k (by rw [← e, hk])
    · rw [e] at hk; simp at hk; subst hk; exact ⟨by omega, by omega, by omega⟩

theorem half_mid {w w2 : World} {b c room : Nat} {q : List Int} {v : Value} (h : BoxHalf w b c room q q v w2) (hq : q.length ≤ room) : BoxMid w b c room q v w2 := ⟨h.box, h.win, hq, h.upd, h.vb, h.nb, h.nc⟩
theorem half_tail {w w2 : World} {b c room g o cap : Nat} {y : Int} {q : List Int} (h : BoxHalf w b c room (y :: q) q (.slice (some ⟨g, o, none⟩) (q.length + 1) cap) w2) (hq : q.length + 1 ≤ room) :
    BoxMid w b c room q (.slice (some ⟨g, if cap = 1 then o else o + 1, none⟩) q.length (cap - 1)) w2 := by
  have hw : Win w2 3 (.slice (some ⟨g, o, none⟩) ((ints q).length + 1) cap) (.int .i64 y :: ints q) := by simpa [ints] using h.win
  have := hw.tail
  rw [ints_len] at this
  exact ⟨h.box, this, by omega, h.upd, fun k hk => h.vb k hk, h.nb, h.nc⟩

theorem RowAt.cell {w : World} {xb xo len : Nat} {zs : List Int} (h : RowAt w (some ⟨xb, xo, none⟩) len zs) {i : Nat} (hi : i < len) : xb < w.heap.size ∧ w.cell? ⟨xb, xo + i, none⟩ = some (.int .i64 (zs.getD i 0)) := by
  obtain ⟨b, o, e, h1, h2⟩ := h i hi
  simp at e
  obtain ⟨rfl, rfl⟩ := e
  exact ⟨h1, h2⟩

def BoxRel (w : World) (b c room : Nat) (v : Value) (wr : World) : Prop := ∃ q, BoxMid w b c room q v wr

set_option maxHeartbeats 4000000 in
set_option maxRecDepth 100000 in
theorem boxes_ok (room : Nat) (a1 : Option Addr) (len cap : Nat) (zs : List Int) (w : World) (hrow : RowAt w a1 len zs) (hlen : len ≤ 9223372036854775807) (hr1 : 1 ≤ room) (hr2 : room ≤ 1024) :
    Calls Try.prog 4 #[.int .i64 room, .slice a1 len cap] w fun e w' => e = .returned (.bool true) ∧ Upd [] w w' := by
  obtain ⟨i3, hi3, hz30, hz31, hz32⟩ := info_parts Try.info3
  have Hrow := Lib.hid hrow
  have d1 : decide ((room : Int) < 1) = false := by simp; omega
  have d2 : decide (1024 < (room : Int)) = false := by simp; omega
  clear hrow
  go_enter Try.func4, Try.ntmps4
  go_wp2_with fail
  refine (newBox_ok room _ hr1 hr2).mono ?_
  rintro e w1 ⟨b, c, rfl, h1, u1, hb, hc⟩
  have K1 := Lib.hid (show BoxMid w b c room [] (.slice none 0 0) w1 from ⟨h1, Win.nil _ _, by simp, u1, by simp [Value.ownBlock], hb, hc⟩)
  clear h1 u1 hb hc
  go_wp2_with fail
  refine (known_any _).mono ?_
  rintro e w2 ⟨rfl, u2⟩
  have K2 := Lib.hid (K1.out.any u2)
  clear u2 K1
  clear d1 d2
  go_wp2_with fail
  go_loopg [6, 7] len (fun g v t wr => ∃ i : Nat, t = .int .i64 i ∧ i ≤ len ∧ g = len - i ∧ BoxRel w b c room v wr)
  case atStart => exact ⟨0, rfl, Nat.zero_le _, rfl, [], K2.out⟩
  case round =>
    obtain ⟨i, rfl, hi, rfl, q, hM⟩ := hrel
    have HM := Lib.hid hM
    clear hM K2
    obtain ⟨va, vc, hv⟩ := HM.out.win.shape
    rw [ints_len] at hv
    subst hv
    have hql := HM.out.le
    by_cases hlt : i < len
    · obtain ⟨xb, xo, rfl, hxb, hc⟩ := (Hrow.out.upd HM.out.upd) i hlt
      obtain ⟨x, hx⟩ : ∃ x, zs.getD i 0 = x := ⟨_, rfl⟩
      have Hx := Lib.hid hx
      rw [hx] at hc
      clear hx
      by_cases hx : 0 ≤ x
      · by_cases hq : q.length < room
        · go_wp2_with fail
          refine (box_put_room b c room (ints q) x _ HM.out.box (by simpa using hq)).mono ?_
          rintro e w3 ⟨rfl, h3, u3⟩
          have H3 := Lib.hid (HM.out.half (q' := q ++ [x]) (by simpa [ints] using h3) u3)
          have c3 := ((Hrow.out.upd H3.out.upd).cell hlt).2
          rw [Hx.out] at c3
          have hxb3 : xb < w3.heap.size := Nat.lt_of_lt_of_le hxb u3.size
          clear h3 u3 hc hxb HM
          go_wp2_with (refine wpList_append_win rfl (.tmp 53) (.tmp 58) 22 rfl 3 i3 _ 8 Try.underlying22 hi3 hz30 hz31 hz32 rfl _ (ints q) rfl (H3.out.any ((Upd.refl _ _).alloc _)).win ⟨w3.heap.size, 0, none⟩ 1 (.int .i64 x) rfl (by simp [go_sem]) rfl rfl (by unfold maxLen; rw [ints_len]; omega) (by rw [ints_len]; omega) ?_; intro v4 w4 hw4 hg4 hv4)
          have H4 := Lib.hid ((H3.out.any ((Upd.refl _ _).alloc _)).app hq hw4 hg4 hv4)
          obtain ⟨va4, vc4, e4⟩ := hw4.shape
          subst e4
          clear hw4 hg4 hv4 H3 c3 hxb3
          go_wp2_with fail
          refine (box_len b c room _ _ H4.out.box).mono ?_
          rintro e w5 ⟨rfl, rfl⟩
          go_wp2_with fail
          go_roundg (len - (i + 1))
          case measure => omega
          case rel => exact ⟨i + 1, by go_num, by omega, rfl, q ++ [x], by simpa using H4.out⟩
        · have hnq : decide ((q.length : Int) < room) = false := by simp; omega
          go_wp2_with fail
          refine (box_put_full b c room (ints q) x _ HM.out.box (by simpa using hq)).mono ?_
          rintro e w3 ⟨rfl, rfl⟩
          go_wp2_with fail
          refine (box_len b c room _ _ HM.out.box).mono ?_
          rintro e w5 ⟨rfl, rfl⟩
          rw [ints_len]
          go_wp2_with fail
          go_roundg (len - (i + 1))
          case measure => omega
          case rel => exact ⟨i + 1, by go_num, by omega, rfl, q, HM.out⟩
      · have hx2 : decide (0 ≤ x) = false := by simpa using hx
        clear hx
        cases q with
        | nil =>
          go_wp2_with fail
          refine (box_take_none b c room _ HM.out.box).mono ?_
          rintro e w3 ⟨rfl, rfl⟩
          go_wp2_with fail
          refine (box_len b c room _ _ HM.out.box).mono ?_
          rintro e w5 ⟨rfl, rfl⟩
          rw [ints_len]
          go_wp2_with fail
          go_roundg (len - (i + 1))
          case measure => omega
          case rel => exact ⟨i + 1, by go_num, by omega, rfl, [], HM.out⟩
        | cons y q =>
          obtain ⟨g, o, cap', e1, -, hcap1, hcap2⟩ := HM.out.win.head
          simp only [ints_len, List.length_cons] at e1 hcap1
          obtain ⟨rfl, rfl⟩ : va = some ⟨g, o, none⟩ ∧ vc = cap' := by simpa [ints] using e1
          clear e1
          go_wp2_with fail
          refine (box_take_some b c room (ints q) y _ HM.out.box).mono ?_
          rintro e w3 ⟨rfl, h3, u3⟩
          have H3 := Lib.hid (HM.out.half h3 u3)
          have hh : w3.cell? ⟨g, o, none⟩ = some (.int .i64 y) := by
            obtain ⟨g', o', cap'', e2, hh, -, -⟩ := H3.out.win.head
            simp [ints] at e2
            obtain ⟨⟨rfl, rfl⟩, rfl⟩ := e2
            exact hh
          have hlq : q.length + 1 ≤ 1024 := by simp at hql; omega
          have hlq2 : q.length + 1 ≤ room := by simpa using hql
          simp at hcap1
          unfold maxLen at hcap2
          have H4 := Lib.hid (half_tail H3.out hlq2)
          clear h3 u3 HM hc hxb hql hlq2
          rw [List.length_cons]
          by_cases hc1 : vc = 1
          · subst hc1
            obtain rfl : q = [] := List.length_eq_zero_iff.1 (by omega)
            go_wp2_with fail
            refine (box_len b c room _ _ H4.out.box).mono ?_
            rintro e w5 ⟨rfl, rfl⟩
            rw [ints_len]
            go_wp2_with fail
            go_roundg (len - (i + 1))
            case measure => omega
            case rel => exact ⟨i + 1, by go_num, by omega, rfl, [], by simpa using H4.out⟩
          · go_wp2_with fail
            refine (box_len b c room _ _ H4.out.box).mono ?_
            rintro e w5 ⟨rfl, rfl⟩
            rw [ints_len]
            go_wp2_with fail
            go_roundg (len - (i + 1))
            case measure => omega
            case rel => exact ⟨i + 1, by go_num, by omega, rfl, q, by simpa [hc1] using H4.out⟩
    · obtain rfl : i = len := by omega
      go_wp2_with fail
      go_ret
      exact ⟨rfl, HM.out.upd⟩

theorem boxes_walk (x0 : Int) (a1 : Option Addr) (len cap : Nat) (zs : List Int) (w : World) (hrow : RowAt w a1 len zs) (hlen : len ≤ 9223372036854775807) :
    Calls Try.prog 4 #[.int .i64 x0, .slice a1 len cap] w fun e w' => e = .returned (.bool true) ∧ Upd [] w w' := by
  by_cases h1 : x0 < 1
  · have d1 : decide (x0 < 1) = true := by simpa using h1
    go_enter Try.func4, Try.ntmps4
    go_wp2_with fail
    refine (newBox_bad x0 _ (.inl h1)).mono ?_
    rintro e w1 ⟨rfl, rfl⟩
    go_wp2_with fail
    refine (known_any _).mono ?_
    rintro e w2 ⟨rfl, u2⟩
    go_wp2_with fail
    go_ret
    exact ⟨rfl, u2⟩
  · by_cases h2 : 1024 < x0
    · have d1 : decide (x0 < 1) = false := by simpa using h1
      have d2 : decide (1024 < x0) = true := by simpa using h2
      go_enter Try.func4, Try.ntmps4
      go_wp2_with fail
      refine (newBox_bad x0 _ (.inr h2)).mono ?_
      rintro e w1 ⟨rfl, rfl⟩
      go_wp2_with fail
      refine (known_any _).mono ?_
      rintro e w2 ⟨rfl, u2⟩
      go_wp2_with fail
      go_ret
      exact ⟨rfl, u2⟩
    · obtain ⟨r, rfl⟩ := Int.eq_ofNat_of_zero_le (show 0 ≤ x0 by omega)
      exact boxes_ok r a1 len cap zs w hrow hlen (by omega) (by omega)

end Go.Proofs.Ytghpiegcmakggaa
