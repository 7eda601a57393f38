/- Tick. Condition: counts in bounds. -/
import Derived.Test.YtlebhaobfheocaaAck
set_option linter.unusedVariables false
set_option linter.unusedSimpArgs false
namespace Go.Proofs.Ytlebhaobfheocaa
open Go.RowKit Go.Lb Go.Hp

theorem tick1_good {x : Im} (h : Good x) : 0 ≤ (tick1 x).off ∧ (tick1 x).off ≤ 6 ∧ 0 ≤ (tick1 x).tk ∧ (tick1 x).tk ≤ 12 ∧ (tick1 x).cnt = x.cnt ∧ (tick1 x).had = x.had := by
  have := h.off
  have := h.tk
  unfold tick1
  refine ⟨by simp; omega, by simp; omega, ?_, ?_, rfl, rfl⟩
  · dsimp only; split <;> omega
  · dsimp only; split
    · rename_i e; have := this.2.2 e; omega
    · omega
theorem steps_nd {g : Im → Im} (hg : ∀ x, (g x).p = x.p) (L : List Im) (i : Nat) : (steps g L i).map Im.p = L.map Im.p := by
  unfold steps
  rw [List.map_append, List.map_map, show (Im.p ∘ g) = Im.p from funext hg, ← List.map_append, List.take_append_drop]
theorem foot_steps {g : Im → Im} (hg : ∀ x, (g x).p = x.p) (b : Nat) (v : Value) (L : List Im) (i : Nat) : foot b v (steps g L i) = foot b v L := by unfold foot; rw [steps_nd hg]
theorem tick2_p (x : Im) : (tick2 x).p = x.p := by unfold tick2; split; exact backIm_p x; rfl

theorem step_set {g : Im → Im} (hg : ∀ x, (g x).p = x.p) {w w' : World} {b : Nat} {v : Value} {L : List Im} {i : Nat} {x : Im} (h : BrAt w b v (steps g L i)) (hx : L[i]? = some x) (hB : Blk w' x.p 60 (g x).vals) (u : Upd [x.p] w w') : BrAt w' b v (steps g L (i + 1)) := by
  rw [steps_next hx, ← setIm_at (x := x) (by rw [steps_nd hg, ← steps_nd hg L i]; exact h.nd) (steps_at hx) (hg x).symm]
  exact h.set ⟨x, List.mem_of_getElem? (steps_at hx), (hg x).symm⟩ (by rw [hg]; exact hB) (by rw [hg]; exact u)

set_option maxHeartbeats 2000000 in
theorem tick_any (b : Nat) (F : List Nat) (L : List Im) (w : World) (h : BrIs w b F L) (hL : L.length ≤ 8796093022207) (hG : ∀ x ∈ L, Good x) :
    Calls Try.prog 15 #[.pointer (some ⟨b, 0, none⟩)] w fun e w' => e = .returned (.tuple #[]) ∧ BPost w b F (tickL L) w' := by
  obtain ⟨v, h, hF⟩ := h
  obtain ⟨a, c, rfl⟩ := own_shape h.row
  have h0 := h.blk.cell (o := 0) rfl
  have H := Lib.hid h
  have HF := Lib.hid hF
  have HG := Lib.hid hG
  clear h hF hG
  go_enter Try.func15, Try.ntmps15
  go_wp2_with fail
  clear h0
  go_loopg [11] L.length (fun g u wr => ∃ i : Nat, u = .int .i64 i ∧ i ≤ L.length ∧ g = L.length - i ∧ BrAt wr b (.slice a L.length c) (steps tick1 L i) ∧ Upd (L.map Im.p) w wr)
  case atStart => exact ⟨0, rfl, Nat.zero_le _, rfl, by rw [steps_zero]; exact H.out, Upd.refl _ _⟩
  case round =>
    obtain ⟨i, rfl, hi, rfl, hB, hU⟩ := hrel
    have HB := Lib.hid hB
    have HU := Lib.hid hU
    clear hB hU
    by_cases hlt : i < L.length
    · obtain ⟨x, hx⟩ : ∃ x, L[i]? = some x := ⟨_, List.getElem?_eq_getElem hlt⟩
      have hg := HG.out x (List.mem_of_getElem? hx)
      have hxm : x.p ∈ L.map Im.p := List.mem_map.2 ⟨x, List.mem_of_getElem? hx, rfl⟩
      have Hxm := Lib.hid hxm
      have hbl := HB.out.its x (List.mem_of_getElem? (steps_at hx))
      have Hbl := Lib.hid hbl
      obtain ⟨s, c', e, hlc, hcm, hs⟩ := HB.out.isSome (by rw [steps_len]; omega)
      obtain ⟨rfl, rfl⟩ : a = some ⟨s, 0, none⟩ ∧ c = c' := by rw [steps_len] at e; simpa using e
      have hc := HB.out.cell (steps_at hx)
      have Hx := Lib.hid hx
      clear e hx hbl hxm
      obtain ⟨p, ⟨j, pr, st, ix⟩, cnt, off, had, wk, tk⟩ := x
      obtain ⟨i0, _, _, _, _, _, i5, i6, _, i8, f⟩ := imAt_of Hbl.out
      have f5 := f 5
      have f8 := f 8
      obtain ⟨⟨g1, g2⟩, _, ⟨g3, g4, g5⟩⟩ := hg
      simp only [Im.ptr] at hc
      dsimp only at i0 i5 i6 i8 g1 g2 g3 g4 g5
      have G5 := Lib.hid g5
      rw [steps_len] at hlc
      clear f g5
      unfold maxLen at hcm
      have hmx : (if (0 : Int) < off - 1 then off - 1 else 0) = max 0 (off - 1) := by split <;> omega
      cases had
      · go_wp2_with fail
        go_roundg (L.length - (i + 1))
        case measure => omega
        case rel =>
          refine ⟨i + 1, by go_num, by omega, rfl, step_set (g := tick1) (fun _ => rfl) HB.out Hx.out ?_ ((Upd.refl _ _).setCell (a := ⟨p, 5, none⟩) (.inl (by simp)) _), HU.out.setCell (.inl Hxm.out) _⟩
          have := Hbl.out.set 5 (.int .i64 (max 0 (off - 1)))
          simpa [tick1, Im.vals, Ev.vals] using this
      · go_wp2_with fail
        go_roundg (L.length - (i + 1))
        case measure => omega
        case rel =>
          refine ⟨i + 1, by go_num, by omega, rfl, step_set (g := tick1) (fun _ => rfl) HB.out Hx.out ?_ (((Upd.refl _ _).setCell (a := ⟨p, 5, none⟩) (.inl (by simp)) _).setCell (a := ⟨p, 8, none⟩) (.inl (by simp)) _), (HU.out.setCell (.inl Hxm.out) _).setCell (.inl Hxm.out) _⟩
          have := (Hbl.out.set 5 (.int .i64 (max 0 (off - 1)))).set 8 (.int .i64 (tk + 1))
          simpa [tick1, Im.vals, Ev.vals] using this
    · obtain rfl : i = L.length := by omega
      have h1 : BrAt wr b (.slice a L.length c) (L.map tick1) := by rw [← steps_all]; exact HB.out
      have h0 := h1.blk.cell (o := 0) rfl
      have H1 := Lib.hid h1
      clear h1 HB
      go_wp2_with fail
      clear h0
      go_loopg [41] L.length (fun g u wr => ∃ i : Nat, u = .int .i64 i ∧ i ≤ L.length ∧ g = L.length - i ∧ BrAt wr b (.slice a L.length c) (steps tick2 (L.map tick1) i) ∧ Upd (L.map Im.p) w wr)
      case atStart => exact ⟨0, rfl, Nat.zero_le _, rfl, by rw [steps_zero]; exact H1.out, HU.out⟩
      case round =>
        clear HU
        obtain ⟨i, rfl, hi, rfl, hB, hU⟩ := hrel
        have HB := Lib.hid hB
        have HU := Lib.hid hU
        clear hB hU H1
        by_cases hlt : i < L.length
        · obtain ⟨y, hy⟩ : ∃ y, L[i]? = some y := ⟨_, List.getElem?_eq_getElem hlt⟩
          obtain ⟨x, hxe⟩ : ∃ x, x = tick1 y := ⟨_, rfl⟩
          have hx : (L.map tick1)[i]? = some x := by simp [hy, hxe]
          have hxm : x.p ∈ L.map Im.p := by rw [hxe]; exact List.mem_map.2 ⟨y, List.mem_of_getElem? hy, rfl⟩
          have Hxm := Lib.hid hxm
          have hbl := HB.out.its x (List.mem_of_getElem? (steps_at hx))
          have Hbl := Lib.hid hbl
          obtain ⟨s, c', e, hlc, hcm, hs⟩ := HB.out.isSome (by rw [steps_len, List.length_map]; omega)
          obtain ⟨rfl, rfl⟩ : a = some ⟨s, 0, none⟩ ∧ c = c' := by rw [steps_len, List.length_map] at e; simpa using e
          have hc := HB.out.cell (steps_at hx)
          have Hx := Lib.hid hx
          rw [steps_len, List.length_map] at hlc
          clear e hx hbl hxm hxe hy
          have hstay : tick2 x = x → BrAt wr b (.slice (some ⟨s, 0, none⟩) L.length c) (steps tick2 (L.map tick1) (i + 1)) := fun e => step_set tick2_p HB.out Hx.out (by rw [e]; exact Hbl.out) (Upd.refl _ _)
          have Hstay := Lib.hid hstay
          clear hstay
          obtain ⟨p, ⟨j, pr, st, ix⟩, cnt, off, had, wk, tk⟩ := x
          obtain ⟨i0, _, _, _, _, _, _, i6, _, i8, _⟩ := imAt_of Hbl.out
          simp only [Im.ptr] at hc
          dsimp only at i0 i6 i8
          unfold maxLen at hcm
          cases had
          · go_wp2_with fail
            go_roundg (L.length - (i + 1))
            case measure => omega
            case rel => exact ⟨i + 1, by go_num, by omega, rfl, Hstay.out (by simp [tick2]), HU.out⟩
          · by_cases ht : 12 ≤ tk
            · go_wp2_with fail
              refine (back_any ⟨p, ⟨j, pr, st, ix⟩, cnt, off, true, wk, tk⟩ _ Hbl.out).mono ?_
              rintro e w1 ⟨rfl, hb1, u1⟩
              have h2 := step_set tick2_p HB.out Hx.out (w' := w1) (by simpa [tick2, ht] using hb1) u1
              have H2 := Lib.hid h2
              have HU2 := Lib.hid (HU.out.trans u1 (fun k hk => .inl (by simp at hk; rw [hk]; exact Hxm.out)))
              clear hb1 u1 h2
              go_wp2_with fail
              go_roundg (L.length - (i + 1))
              case measure => omega
              case rel => exact ⟨i + 1, by go_num, by omega, rfl, H2.out, HU2.out⟩
            · have hd : decide (12 ≤ tk) = false := by simpa using ht
              go_wp2_with fail
              go_roundg (L.length - (i + 1))
              case measure => omega
              case rel => exact ⟨i + 1, by go_num, by omega, rfl, Hstay.out (by simp [tick2, hd]), HU.out⟩
        · obtain rfl : i = L.length := by omega
          go_wp2_with fail
          go_end0
          have h2 : BrAt wr b (.slice a L.length c) (tickL L) := by
            have := HB.out
            rw [show L.length = (L.map tick1).length by simp, steps_all] at this
            simpa [tickL] using this
          have hp : (tickL L).map Im.p = L.map Im.p := by
            unfold tickL
            rw [List.map_map, List.map_map, show (Im.p ∘ tick2) ∘ tick1 = Im.p from funext fun x => tick2_p (tick1 x)]
          have hf : foot b (.slice a L.length c) (tickL L) = foot b (.slice a L.length c) L := by unfold foot; rw [hp]
          refine ⟨rfl, foot b (.slice a L.length c) L, ⟨_, h2, fun k hk => ?_⟩, HU.out.mono (fun k hk => .inl ?_), fun k hk => .inl (HF.out k hk).1⟩
          · rw [hf] at hk
            exact ⟨hk, Nat.lt_of_lt_of_le (HF.out k hk).2 HU.out.size⟩
          · exact (HF.out k (by simp only [foot, List.mem_append]; exact .inr hk)).1
end Go.Proofs.Ytlebhaobfheocaa
