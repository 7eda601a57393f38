/- What the frames of the statements share: the bound read off, a slice of numbers opened. -/
import Derived.Test.YtghpiegcmakggaaPeeks
import Derived.ProofKit
import Derived.OpenShut
import Derived.ShutString
import Derived.ChangeOld
import Derived.JoinedCond
set_option linter.unusedVariables false
set_option linter.unusedSimpArgs false
namespace Go.Proofs.Ytghpiegcmakggaa
open Go.ChangeShapes Go.WideShapes Go.ChangeAt Go.RowKit Go.Lb

theorem Try.own : ownKnob Try.prog.godebug = none := by kernel_rfl
theorem Try.laidOut : laidOutB Try.prog = true := by kernel_rfl

theorem bulk_one {H : Type} (x : DataW H) : 1 ≤ Rows.uptoBulk x := by
  cases x with
  | lit l => cases l <;> simp [Rows.uptoBulk]
  | _ => simp [Rows.uptoBulk]
theorem bulk_len {H : Type} (l : List (DataW H)) : l.length ≤ Rows.uptoBulkAll l := by
  induction l with
  | nil => simp [Rows.uptoBulkAll]
  | cons x r ih => have h1 := bulk_one x; simp only [Rows.uptoBulkAll, List.length_cons]; omega
theorem bulk_of {H : Type} {l : List (DataW H)} (hk : Rows.uptoSmall H l = true) : Rows.uptoBulkAll l ≤ 1048576 := of_decide_eq_true hk

/-- A slice of ints that came in: its numbers, and that they are not too many. -/
theorem open_row {H : Type} {enc : TypeId × Value → H} {W : World} {d : DataW H} {p : List MemPlace} {a : Option Addr} {len cap : Nat} (h : DataW.Trod enc Try.prog W 0 (fun _ => true) true 22 (.slice a len cap) d p) :
    ∃ zs, RowAt W a len zs ∧ len ≤ Rows.uptoBulk d := by
  obtain ⟨fuel, hf⟩ := h
  rcases open_ints Try.underlying22 Try.underlying3 (by kernel_rfl) hf with ⟨hcs, _⟩ | ⟨x, l, c, zs, hcs, _, hl, hm, hz, hx, hcell, hwz⟩
  · simp [Value.cells] at hcs
    obtain ⟨rfl, rfl, rfl⟩ := hcs
    exact ⟨[], fun i hi => by omega, by omega⟩
  · simp [Value.cells] at hcs
    obtain ⟨rfl, rfl, rfl⟩ := hcs
    refine ⟨zs, fun i hi => ?_, ?_⟩
    · obtain ⟨b, off, rfl, hc⟩ := ints_at hcell (by simp at hz; omega)
      refine ⟨b, off, rfl, ?_, hc i (by simp at hz; omega)⟩
      exact block_lt_of_cell (hc i (by simp at hz; omega))
    · simp only [Prod.mk.injEq] at hx
      rw [hx.1]
      have h1 := bulk_len (lits (H := H) .i64 (zs.take len))
      have h2 : (lits (H := H) .i64 (zs.take len)).length = len := by simp [lits]; simp at hz; omega
      simp only [Rows.uptoBulk]
      omega

end Go.Proofs.Ytghpiegcmakggaa
