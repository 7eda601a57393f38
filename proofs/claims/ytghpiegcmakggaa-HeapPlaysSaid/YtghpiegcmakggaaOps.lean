/- HeapPlays: a script that came in, opened. -/
import Derived.Test.YtghpiegcmakggaaDuo
import Derived.Test.YtghpiegcmakggaaFrame
import Derived.Deep.Slices
import Derived.ChangeSame
set_option linter.unusedVariables false
set_option linter.unusedSimpArgs false
namespace Go.Proofs.Ytghpiegcmakggaa
open Go.ChangeShapes Go.WideShapes Go.ChangeAt Go.RowKit Go.Lb

theorem Try.cells46 : Try.prog.cellsOf 46 = 3 := by kernel_rfl
theorem Try.cells26 : Try.prog.cellsOf 26 = 2 := by kernel_rfl
theorem Try.cells3 : Try.prog.cellsOf 3 = 1 := by kernel_rfl

theorem open_op {H : Type} {enc : TypeId × Value → H} {W : World} {n : Nat} {cs : List Value} {x : DataW H × List MemPlace} (h : DataW.trod enc Try.prog W 0 (fun _ => true) true n 46 cs = some x) :
    ∃ k y t, cs = [.int .i64 k, .int .i64 y, .int .i64 t] := by
  obtain ⟨y0, y1, m, rfl, hl, h0, h1⟩ := trod_struct2 Try.underlying46 h
  obtain ⟨z0, z1, m2, hz, hl1, g0, g1⟩ := trod_struct2 Try.underlying26 h1
  rw [Try.cells46] at hl
  obtain ⟨a, b, c, rfl⟩ : ∃ a b c, cs = [a, b, c] := by
    match cs, hl with
    | [a, b, c], _ => exact ⟨a, b, c, rfl⟩
  simp only [Try.cells26, Try.cells3, List.drop_zero, List.drop_succ_cons, List.take_succ_cons, List.take_zero] at h0 g0 g1
  obtain ⟨k, e0, _, _⟩ := DataW.trod_int Try.underlying3 h0
  obtain ⟨y, e1, _, _⟩ := DataW.trod_int Try.underlying3 g0
  obtain ⟨t, e2, _, _⟩ := DataW.trod_int Try.underlying3 g1
  simp at e0 e1 e2
  exact ⟨k, y, t, by rw [e0, e1, e2]⟩

theorem open_ops {H : Type} {enc : TypeId × Value → H} {W : World} {d : DataW H} {p : List MemPlace} {a : Option Addr} {len cap : Nat} (h : DataW.Trod enc Try.prog W 0 (fun _ => true) true 40 (.slice a len cap) d p) :
    OpAt W a len ∧ len ≤ Rows.uptoBulk d := by
  obtain ⟨fuel, hf⟩ := h
  rcases Deep.open_slice Try.underlying40 hf with ⟨hcs, _⟩ | ⟨x, l, c, m, n, D, Pl, hcs, _, hl, _, hm, hx, hall⟩
  · simp [Value.cells] at hcs
    obtain ⟨rfl, rfl, rfl⟩ := hcs
    exact ⟨fun i hi => by omega, by omega⟩
  · simp [Value.cells] at hcs
    obtain ⟨rfl, rfl, rfl⟩ := hcs
    simp at hm
    subst hm
    refine ⟨fun i hi => ?_, ?_⟩
    · obtain ⟨cs', h1, h2⟩ := hall i (by omega)
      obtain ⟨k, y, t, rfl⟩ := open_op h2
      rw [Try.cells46] at h1
      obtain ⟨_, _, hc⟩ := World.cells?_some h1
      obtain ⟨b, off, spot⟩ := x
      have c0 := hc 0 (by omega)
      have c1 := hc 1 (by omega)
      have c2 := hc 2 (by omega)
      simp only [List.getElem?_cons_zero, List.getElem?_cons_succ] at c0 c1 c2
      have hspot : spot = none := by
        obtain ⟨cs0, h10, h20⟩ := hall 0 (by omega)
        obtain ⟨k0, y0, t0, rfl⟩ := open_op h20
        rw [Try.cells46] at h10
        obtain ⟨_, _, hc0⟩ := World.cells?_some h10
        have z0 := hc0 0 (by omega)
        simp only [List.getElem?_cons_zero] at z0
        simpa [Addr.add] using World.cell?_spot z0
      subst hspot
      simp only [Addr.add_lit, Nat.add_zero] at c0 c1 c2
      exact ⟨b, off, k, y, t, rfl, block_lt_of_cell c0, c0, c1, c2⟩
    · simp only [Prod.mk.injEq] at hx
      rw [hx.1]
      have h1 := bulk_len ((List.range len).map D)
      simp only [List.length_map, List.length_range] at h1
      simp only [Rows.uptoBulk]
      omega

end Go.Proofs.Ytghpiegcmakggaa
