/- slices.Delete of the last thing. -/
import Derived.Test.YtlebhaobfheocaaSmall
set_option linter.unusedVariables false
set_option linter.unusedSimpArgs false
namespace Go.Proofs.Ytlebhaobfheocaa
open Go.RowKit Go.Lb Go.Hp

theorem vals_take (L : List It) (m : Nat) : vals (L.take m) = (vals L).take m := by simp [vals, List.map_take]

set_option maxHeartbeats 1000000 in
theorem delete_last (b s c : Nat) (L : List It) (m : Nat) (born : Int) (w : World) (h : HeapAt w b (.slice (some ⟨s, 0, none⟩) (m + 1) c) L born) (hL : L.length ≤ 8796093022206) :
    Calls Try.prog 38 #[.slice (some ⟨s, 0, none⟩) (m + 1 : Nat) c, .int .i64 m, .int .i64 ((m : Int) + 1)] w fun e w' => e = .returned (.slice (some ⟨s, 0, none⟩) m c) ∧
      w'.ownsRow 0 77 2 (.slice (some ⟨s, 0, none⟩) m c) m (vals (L.take m)).flatten ∧ Upd [s] w w' := by
  have hn := h.len
  obtain ⟨s', c', hv, hlc, hcm, hs, hsb⟩ := h.isSome (by omega)
  rw [← hn] at hv hlc
  obtain ⟨rfl, rfl⟩ : s = s' ∧ c = c' := by simpa using hv
  clear hv
  obtain ⟨i0, hi, hz0, hz1, hz2⟩ := info_parts (show (Try.prog.info? 77).map (fun i => (i.zero, i.size, i.bytes)) = some (some (.agg #[.pointer none, .int .i64 0]), 2, 16) by kernel_rfl)
  obtain ⟨⟨xk, xt, xb⟩, hx⟩ : ∃ x, L[m]? = some x := ⟨_, List.getElem?_eq_getElem (by omega)⟩
  obtain ⟨hi0, hi1⟩ := h.at hx
  dsimp only at hi0 hi1
  have hg0 := h.froz (m * 2)
  have hg1 := h.froz (m * 2 + 1)
  have hmc : m + 1 ≤ c := by omega
  have hm2 : m ≤ 8796093022206 := by omega
  unfold maxLen at hcm
  have hne : ((m : Int) == (m : Int) + 1) = false := by simp; omega
  have Hh := Lib.hid h
  clear h hx hn hlc hL
  by_cases hc : c = m + 1
  · subst hc
    go_enter Try.func38, Try.ntmps38
    go_wp2_with fail
    go_region
    have ho : w.drew.ownsRow 0 77 2 (.slice (some ⟨s, 0, none⟩) m (m + 1)) m ((vals L).flatten.take (m * 2)) := (own_take Hh.out.row' (by omega)).drew
    have Ho := Lib.hid ho
    clear ho
    go_wp2_with (refine wpList_clear_tail rfl (.tmp 31) 73 rfl 0 77 i0 _ 2 Try.underlying73 hi hz0 rfl (by simp [Value.cells, Value.oneCell']) s m _ 1 _ _ _ rfl Ho.out rfl (by omega) ?_; intro w1 ho1 hg1)
    go_ret
    exact ⟨rfl, by rw [flatten_take (vals L) (vals_len L), ← vals_take] at ho1; exact ho1, (Upd.refl _ _).drew.grown hg1 (by simp)⟩
  · have hc2 : m + 1 < c := by omega
    clear hc
    go_enter Try.func38, Try.ntmps38
    go_wp2_with fail
    go_region
    have ho : w.drew.ownsRow 0 77 2 (.slice (some ⟨s, 0, none⟩) m c) m ((vals L).flatten.take (m * 2)) := (own_take Hh.out.row' (by omega)).drew
    have Ho := Lib.hid ho
    clear ho
    go_wp2_with (refine wpList_clear_tail rfl (.tmp 31) 73 rfl 0 77 i0 _ 2 Try.underlying73 hi hz0 rfl (by simp [Value.cells, Value.oneCell']) s m _ 1 _ _ _ rfl Ho.out rfl (by omega) ?_; intro w1 ho1 hg1)
    go_ret
    exact ⟨rfl, by rw [flatten_take (vals L) (vals_len L), ← vals_take] at ho1; exact ho1, (Upd.refl _ _).drew.grown hg1 (by simp)⟩

end Go.Proofs.Ytlebhaobfheocaa
