/- FrontOnce: deeds that came in, opened. -/
import Derived.Test.YtenmcllnddmdhaaOnceW
import Derived.Test.YtenmcllnddmdhaaFrame
import Derived.Deep.Slices
import Derived.ChangeSame
set_option linter.unusedVariables false
set_option linter.unusedSimpArgs false
namespace Go.Proofs.Ytenmcllnddmdhaa
open Go.ChangeShapes Go.WideShapes Go.ChangeAt Go.RowKit Go.Lb

theorem bulk_one {H : Type} (x : DataW H) : 1 ≤ Rows.uptoBulk x := by
  cases x with
  | lit l => cases l <;> simp [Rows.uptoBulk]
  | _ => simp [Rows.uptoBulk]
theorem bulk_len {H : Type} (l : List (DataW H)) : l.length ≤ Rows.uptoBulkAll l := by
  induction l with
  | nil => simp [Rows.uptoBulkAll]
  | cons x r ih => have h1 := bulk_one x; simp only [Rows.uptoBulkAll, List.length_cons]; omega
theorem bulk_mem {H : Type} {l : List (DataW H)} {x : DataW H} (h : x ∈ l) : Rows.uptoBulk x ≤ Rows.uptoBulkAll l := by
  induction l with
  | nil => simp at h
  | cons y r ih =>
    simp only [Rows.uptoBulkAll]
    rcases List.mem_cons.1 h with rfl | h
    · omega
    · have := ih h; omega
theorem bulk_of {H : Type} {l : List (DataW H)} (hk : Rows.uptoSmall H l = true) : Rows.uptoBulkAll l ≤ 1048576 := of_decide_eq_true hk

section
variable {H : Type} {enc : TypeId × Value → H} {W : World} {n : Nat} {cs : List Value} {x : DataW H × List MemPlace}
theorem Try.cells91 : Try.prog.cellsOf 91 = 11 := by kernel_rfl
theorem Try.cells69 : Try.prog.cellsOf 69 = 14 := by kernel_rfl
theorem Try.cells67 : Try.prog.cellsOf 67 = 9 := by kernel_rfl
theorem Try.cells32 : Try.prog.cellsOf 32 = 2 := by kernel_rfl
theorem Try.cells3 : Try.prog.cellsOf 3 = 1 := by kernel_rfl
theorem Try.cells4 : Try.prog.cellsOf 4 = 1 := by kernel_rfl

theorem is_int {v : Value} {o : Option (DataW H × List MemPlace)} (h : DataW.trod enc Try.prog W 0 (fun _ => true) true n 3 [v] = o) (ho : o.isSome = true) : ∃ k, v = .int .i64 k ∧ (Lit.int .i64 k).wf = true := by
  obtain ⟨y, rfl⟩ := Option.isSome_iff_exists.1 ho
  obtain ⟨k, e, _, hw⟩ := DataW.trod_int Try.underlying3 h
  exact ⟨k, by simpa using e, hw⟩
theorem is_bool {v : Value} {o : Option (DataW H × List MemPlace)} (h : DataW.trod enc Try.prog W 0 (fun _ => true) true n 4 [v] = o) (ho : o.isSome = true) : ∃ b, v = .bool b := by
  obtain ⟨y, rfl⟩ := Option.isSome_iff_exists.1 ho
  obtain ⟨b, e, _⟩ := DataW.trod_bool Try.underlying4 h
  exact ⟨b, by simpa using e⟩
theorem is_slice {t e : TypeId} (ht : Try.prog.underlying t = some (.slice e)) {v : Value} {o : Option (DataW H × List MemPlace)} (h : DataW.trod enc Try.prog W 0 (fun _ => true) true n t [v] = o) (ho : o.isSome = true) : ∃ a l c, v = .slice a l c := by
  obtain ⟨y, rfl⟩ := Option.isSome_iff_exists.1 ho
  rcases DataW.trod_slice ht h with ⟨e, _⟩ | ⟨a, len, cap, _, _, _, _, e, _⟩
  · exact ⟨none, 0, 0, by simpa using e⟩
  · exact ⟨some a, len, cap, by simpa using e⟩
theorem at_some {α : Type} {xs : List α} {k : Nat} (h : k < xs.length) : (xs[k]?).isSome = true := by simp [h]

set_option maxRecDepth 20000 in
theorem open_al (h : DataW.trod enc Try.prog W 0 (fun _ => true) true n 91 cs = some x) : ∃ y : Al, cs = y.vals := by
  obtain ⟨xs, m, _, rfl, hl, hlen, hf⟩ := DataW.trod_struct Try.underlying91 h
  rw [Try.cells91] at hl
  simp at hlen
  obtain ⟨c0, c1, c2, c3, c4, c5, c6, c7, c8, c9, c10, rfl⟩ : ∃ c0 c1 c2 c3 c4 c5 c6 c7 c8 c9 c10, cs = [c0, c1, c2, c3, c4, c5, c6, c7, c8, c9, c10] := by
    match cs, hl with
    | [c0, c1, c2, c3, c4, c5, c6, c7, c8, c9, c10], _ => exact ⟨_, _, _, _, _, _, _, _, _, _, _, rfl⟩
  have f0 := hf 0 _ rfl
  have f1 := hf 1 _ rfl
  have f2 := hf 2 _ rfl
  have f3 := hf 3 _ rfl
  have f4 := hf 4 _ rfl
  have f5 := hf 5 _ rfl
  have f6 := hf 6 _ rfl
  have f7 := hf 7 _ rfl
  have f8 := hf 8 _ rfl
  have f9 := hf 9 _ rfl
  simp only [Try.cells3, Try.cells4, Try.cells32, List.getElem_toArray, List.getElem_cons_zero, List.getElem_cons_succ, List.drop_zero, List.drop_succ_cons, List.take_succ_cons, List.take_zero] at f0 f1 f2 f3 f4 f5 f6 f7 f8 f9
  obtain ⟨k0, rfl, _⟩ := is_int f0 (at_some (by omega))
  obtain ⟨k1, rfl, _⟩ := is_int f1 (at_some (by omega))
  obtain ⟨k2, rfl, _⟩ := is_int f2 (at_some (by omega))
  obtain ⟨k3, rfl, _⟩ := is_int f3 (at_some (by omega))
  obtain ⟨k4, rfl, _⟩ := is_int f4 (at_some (by omega))
  obtain ⟨k5, rfl, _⟩ := is_int f5 (at_some (by omega))
  obtain ⟨k6, rfl, _⟩ := is_int f6 (at_some (by omega))
  obtain ⟨k9, rfl⟩ := is_bool f8 (at_some (by omega))
  obtain ⟨k10, rfl, _⟩ := is_int f9 (at_some (by omega))
  obtain ⟨y, hy⟩ := Option.isSome_iff_exists.1 (at_some (xs := xs) (k := 7) (by omega))
  rw [hy] at f7
  obtain ⟨z0, z1, m2, _, _, g0, g1⟩ := trod_struct2 Try.underlying32 f7
  simp only [Try.cells3, List.drop_zero, List.drop_succ_cons, List.take_succ_cons, List.take_zero] at g0 g1
  obtain ⟨k7, rfl, _⟩ := is_int g0 rfl
  obtain ⟨k8, rfl, _⟩ := is_int g1 rfl
  exact ⟨⟨k0, k1, k2, k3, k4, k5, k6, k7, k8, k9, k10⟩, rfl⟩

/-- A slice of structs that came in, opened at every place: all in one block. -/
theorem open_rows {t e : TypeId} {k : Nat} (ht : Try.prog.underlying t = some (.slice e)) (hk : Try.prog.cellsOf e = k) (h0 : 0 < k) {a : Option Addr} {len cap : Nat} {Q : List Value → DataW H → Prop}
    (hQ : ∀ n cs x, DataW.trod enc Try.prog W 0 (fun _ => true) true n e cs = some x → Q cs x.1)
    (h : DataW.trod enc Try.prog W 0 (fun _ => true) true n t [.slice a len cap] = some x) :
    len ≤ Rows.uptoBulk x.1 ∧ ∀ i, i < len → ∃ b o cs d, a = some ⟨b, o, none⟩ ∧ b < W.heap.size ∧ W.rangeAt b (o + i * k) cs ∧ cs.length = k ∧ Q cs d ∧ Rows.uptoBulk d ≤ Rows.uptoBulk x.1 := by
  rcases Deep.open_slice ht h with ⟨hcs, _⟩ | ⟨y, l, c, m, n', D, Pl, hcs, _, hl, _, hm, hx, hall⟩
  · simp at hcs
    obtain ⟨rfl, rfl, rfl⟩ := hcs
    exact ⟨by omega, fun i hi => by omega⟩
  · simp at hcs
    obtain ⟨rfl, rfl, rfl⟩ := hcs
    simp at hm
    subst hm
    have hlen : len ≤ Rows.uptoBulk x.1 := by
      rw [hx]
      have h1 := bulk_len ((List.range len).map D)
      simp only [List.length_map, List.length_range] at h1
      simp only [Rows.uptoBulk]
      omega
    refine ⟨hlen, fun i hi => ?_⟩
    obtain ⟨cs', h1, h2⟩ := hall i (by omega)
    rw [hk] at h1
    obtain ⟨_, hlc, hc⟩ := World.cells?_some h1
    obtain ⟨b, off, spot⟩ := y
    have c0 := hc 0 (by omega)
    rw [List.getElem?_eq_getElem (by omega)] at c0
    have hspot : spot = none := by
      obtain ⟨cs0, h10, h20⟩ := hall 0 (by omega)
      rw [hk] at h10
      obtain ⟨_, hl0, hc0⟩ := World.cells?_some h10
      have z0 := hc0 0 (by omega)
      rw [List.getElem?_eq_getElem (by omega)] at z0
      simpa [Addr.add] using World.cell?_spot z0
    subst hspot
    simp only [Addr.add_lit, Nat.add_zero] at c0
    refine ⟨b, off, cs', D i, rfl, block_lt_of_cell c0, fun j v hj => ?_, hlc, hQ _ _ _ h2, ?_⟩
    · have hjl := (List.getElem?_eq_some_iff.1 hj).1
      have := hc j (by omega)
      rw [hj] at this
      simpa [Addr.add_lit] using this
    · rw [hx]
      have h1 := bulk_mem (l := (List.range len).map D) (x := D i) (List.mem_map.2 ⟨i, by simpa using hi, rfl⟩)
      simp only [Rows.uptoBulk]
      omega

set_option maxRecDepth 20000 in
theorem open_dd (h : DataW.trod enc Try.prog W 0 (fun _ => true) true n 69 cs = some x) (hb : Rows.uptoBulk x.1 ≤ 1048576) : ∃ d : Dd, cs = d.vals ∧ d.Ok W.heap.size W := by
  obtain ⟨xs, m, _, rfl, hl, hlen, hf⟩ := DataW.trod_struct Try.underlying69 h
  rw [Try.cells69] at hl
  simp at hlen
  obtain ⟨c0, c1, c2, c3, c4, c5, c6, c7, c8, c9, c10, c11, c12, c13, rfl⟩ : ∃ c0 c1 c2 c3 c4 c5 c6 c7 c8 c9 c10 c11 c12 c13, cs = [c0, c1, c2, c3, c4, c5, c6, c7, c8, c9, c10, c11, c12, c13] := by
    match cs, hl with
    | [c0, c1, c2, c3, c4, c5, c6, c7, c8, c9, c10, c11, c12, c13], _ => exact ⟨_, _, _, _, _, _, _, _, _, _, _, _, _, _, rfl⟩
  have f0 := hf 0 _ rfl
  have f1 := hf 1 _ rfl
  have f2 := hf 2 _ rfl
  have f3 := hf 3 _ rfl
  have f4 := hf 4 _ rfl
  have f5 := hf 5 _ rfl
  simp only [Try.cells3, Try.cells67, List.getElem_toArray, List.getElem_cons_zero, List.getElem_cons_succ, List.drop_zero, List.drop_succ_cons, List.take_succ_cons, List.take_zero] at f0 f1 f2 f3 f4 f5
  obtain ⟨k0, rfl, w0⟩ := is_int f0 (at_some (by omega))
  obtain ⟨k1, rfl, w1⟩ := is_int f1 (at_some (by omega))
  obtain ⟨k2, rfl, _⟩ := is_int f2 (at_some (by omega))
  obtain ⟨k3, rfl, _⟩ := is_int f3 (at_some (by omega))
  obtain ⟨k4, rfl, _⟩ := is_int f4 (at_some (by omega))
  obtain ⟨y, hy⟩ := Option.isSome_iff_exists.1 (at_some (xs := xs) (k := 5) (by omega))
  rw [hy] at f5
  obtain ⟨ys, m2, _, rfl, hl2, hlen2, hf2⟩ := DataW.trod_struct Try.underlying67 f5
  simp at hlen2
  have g0 := hf2 0 _ rfl
  have g1 := hf2 1 _ rfl
  have g2 := hf2 2 _ rfl
  have g3 := hf2 3 _ rfl
  have g4 := hf2 4 _ rfl
  have g5 := hf2 5 _ rfl
  have g6 := hf2 6 _ rfl
  have g7 := hf2 7 _ rfl
  have g8 := hf2 8 _ rfl
  have e36 : Try.prog.cellsOf 36 = 1 := by kernel_rfl
  have e61 : Try.prog.cellsOf 61 = 1 := by kernel_rfl
  have e62 : Try.prog.cellsOf 62 = 1 := by kernel_rfl
  have e63 : Try.prog.cellsOf 63 = 1 := by kernel_rfl
  have e64 : Try.prog.cellsOf 64 = 1 := by kernel_rfl
  have e65 : Try.prog.cellsOf 65 = 1 := by kernel_rfl
  simp only [Try.cells3, e36, e61, e62, e63, e64, e65, List.getElem_toArray, List.getElem_cons_zero, List.getElem_cons_succ, List.drop_zero, List.drop_succ_cons, List.take_succ_cons, List.take_zero] at g0 g1 g2 g3 g4 g5 g6 g7 g8
  obtain ⟨s0, rfl, _⟩ := is_int g0 (at_some (by omega))
  obtain ⟨s1, rfl, _⟩ := is_int g1 (at_some (by omega))
  obtain ⟨_, _, _, rfl⟩ := is_slice Try.underlying61 g2 (at_some (by omega))
  obtain ⟨_, _, _, rfl⟩ := is_slice Try.underlying61 g3 (at_some (by omega))
  obtain ⟨_, _, _, rfl⟩ := is_slice Try.underlying62 g4 (at_some (by omega))
  obtain ⟨a, len, cap, rfl⟩ := is_slice Try.underlying36 g5 (at_some (by omega))
  obtain ⟨_, _, _, rfl⟩ := is_slice Try.underlying63 g6 (at_some (by omega))
  obtain ⟨_, _, _, rfl⟩ := is_slice Try.underlying64 g7 (at_some (by omega))
  obtain ⟨_, _, _, rfl⟩ := is_slice Try.underlying65 g8 (at_some (by omega))
  obtain ⟨z, hz⟩ := Option.isSome_iff_exists.1 (at_some (xs := ys) (k := 5) (by omega))
  rw [hz] at g5
  obtain ⟨q1, q2⟩ := open_rows (Q := fun cs _ => ∃ y : Al, cs = y.vals) Try.underlying36 Try.cells91 (by omega) (fun n cs x hx => open_al hx) g5
  have b1 := bulk_mem (l := xs.map (·.1)) (List.mem_map.2 ⟨_, List.mem_of_getElem? hy, rfl⟩)
  have b2 := bulk_mem (l := ys.map (·.1)) (List.mem_map.2 ⟨_, List.mem_of_getElem? hz, rfl⟩)
  simp only [Rows.uptoBulk] at hb b1
  refine ⟨⟨k0, k1, k2, k3, k4, s0, .int .i64 s1, .slice _ _ _, .slice _ _ _, .slice _ _ _, a, len, cap, .slice _ _ _, .slice _ _ _, .slice _ _ _⟩, rfl, ⟨?_, w0, w1, ?_, by show len ≤ 1599289640354; omega⟩⟩
  · intro u hu
    simp only [Dd.vals, Dd.st, stL, List.mem_append, List.mem_cons, List.not_mem_nil, or_false] at hu
    rcases hu with (h | h | h | h | h) | (h | h | h | h | h | h | h | h | h) <;> subst h <;> rfl
  · intro i hi
    obtain ⟨b, o, cs, d, h1, h2, h3, _, ⟨y, rfl⟩, _⟩ := q2 i hi
    exact ⟨b, o, y, h1, h2, h2, h3⟩

theorem open_dds {d : DataW H} {p : List MemPlace} {a : Option Addr} {len cap : Nat} (h : DataW.Trod enc Try.prog W 0 (fun _ => true) true 60 (.slice a len cap) d p) (hb : Rows.uptoBulk d ≤ 1048576) :
    DdAt W.heap.size W a len ∧ len ≤ 1599289640354 := by
  obtain ⟨fuel, hf⟩ := h
  obtain ⟨q1, q2⟩ := open_rows (Q := fun cs x => Rows.uptoBulk x ≤ 1048576 → ∃ d : Dd, cs = d.vals ∧ d.Ok W.heap.size W) Try.underlying60 Try.cells69 (by omega) (fun n cs x hx hb => open_dd hx hb) (by simpa [Value.cells] using hf)
  refine ⟨fun i hi => ?_, by simp only at q1; omega⟩
  obtain ⟨b, o, cs, d', h1, h2, h3, _, h4, h5⟩ := q2 i hi
  obtain ⟨y, rfl, hy⟩ := h4 (by simp only at h5; omega)
  exact ⟨b, o, y, h1, h2, h3, hy⟩
end
end Go.Proofs.Ytenmcllnddmdhaa
