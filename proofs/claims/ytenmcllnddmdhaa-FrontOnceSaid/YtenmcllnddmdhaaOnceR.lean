/- FrontOnce: deeds that came in, opened, within the reach. -/
import Derived.Test.YtenmcllnddmdhaaOnceF
import Derived.SizedLaws
set_option linter.unusedVariables false
set_option linter.unusedSimpArgs false
namespace Go.Proofs.Ytenmcllnddmdhaa
open Go.ChangeShapes Go.WideShapes Go.ChangeAt Go.RowKit Go.Lb

section
variable {H : Type} {enc : TypeId × Value → H} {W : World} {n : Nat} {cs : List Value} {x : DataW H × List MemPlace}
theorem bytes91 : Try.prog.bytesOf 91 = 88 := by kernel_rfl
theorem bytes69 : Try.prog.bytesOf 69 = 224 := by kernel_rfl
theorem weights_all {P : Program} {e : TypeId} {l : List (DataW H)} {d : DataW H} (h : d ∈ l) : ∀ n ∈ d.weights P e, n ∈ DataW.weightsAll P e l := by
  induction l with
  | nil => simp at h
  | cons y r ih =>
    intro n hn
    simp only [DataW.weightsAll, List.mem_append]
    rcases List.mem_cons.1 h with rfl | h
    · exact .inl hn
    · exact .inr (ih h n hn)
/-- No row that is met is longer than the reach. -/
def Reached (d : DataW H) (t : TypeId) : Prop := ∀ n ∈ d.weights Try.prog t, n ≤ reachBytes
theorem reached_of {t : TypeId} {ts : List TypeId} {d : DataW H} {ds : List (DataW H)} (h : (DataW.weightsEach Try.prog (t :: ts) (d :: ds)).all (· ≤ reachBytes) = true) : Reached d t ∧ (DataW.weightsEach Try.prog ts ds).all (· ≤ reachBytes) = true := by
  simp only [DataW.weightsEach, List.all_append, Bool.and_eq_true] at h
  exact ⟨fun n hn => by simpa using List.all_eq_true.1 h.1 n hn, h.2⟩
/-- A slice of structs that came in, at every place, each within the reach. -/
theorem open_rows_r {t e : TypeId} {k z : Nat} (ht : Try.prog.underlying t = some (.slice e)) (hk : Try.prog.cellsOf e = k) (h0 : 0 < k) (hz : Try.prog.bytesOf e = z) {a : Option Addr} {len cap : Nat} {Q : List Value → DataW H → Prop}
    (hQ : ∀ n cs x, DataW.trod enc Try.prog W 0 (fun _ => true) true n e cs = some x → Q cs x.1)
    (h : DataW.trod enc Try.prog W 0 (fun _ => true) true n t [.slice a len cap] = some x) (hr : Reached x.1 t) :
    len * z ≤ reachBytes ∧ ∀ i, i < len → ∃ b o cs d, a = some ⟨b, o, none⟩ ∧ b < W.heap.size ∧ W.rangeAt b (o + i * k) cs ∧ cs.length = k ∧ Q cs d ∧ Reached d e := by
  rcases Deep.open_slice ht h with ⟨hcs, _⟩ | ⟨y, l, c, m, n', D, Pl, hcs, _, hl, _, hm, hx, hall⟩
  · simp at hcs
    obtain ⟨rfl, rfl, rfl⟩ := hcs
    exact ⟨by simp, fun i hi => by omega⟩
  · simp at hcs
    obtain ⟨rfl, rfl, rfl⟩ := hcs
    simp at hm
    subst hm
    rw [hx] at hr
    have hlen : len * z ≤ reachBytes := by
      have := hr _ (by simp only [DataW.weights, ht]; exact List.mem_cons_self ..)
      rw [hz] at this
      simp only [List.length_map, List.length_range] at this
      exact Nat.le_trans (Nat.mul_le_mul_right _ (Nat.le_add_right _ _)) this
    refine ⟨hlen, fun i hi => ?_⟩
    obtain ⟨cs', h1, h2⟩ := hall i (by omega)
    rw [hk] at h1
    obtain ⟨_, hlc, hc⟩ := World.cells?_some h1
    obtain ⟨b, off, spot⟩ := y
    have c0 := hc 0 (by omega)
    rw [List.getElem?_eq_getElem (by omega)] at c0
    have hspot : spot = none := by
      obtain ⟨cs0, h10, h20⟩ := hall 0 (by omega)
      rw [hk] at h10
      obtain ⟨_, hl0, hc0⟩ := World.cells?_some h10
      have z0 := hc0 0 (by omega)
      rw [List.getElem?_eq_getElem (by omega)] at z0
      simpa [Addr.add] using World.cell?_spot z0
    subst hspot
    simp only [Addr.add_lit, Nat.add_zero] at c0
    refine ⟨b, off, cs', D i, rfl, block_lt_of_cell c0, fun j v hj => ?_, hlc, hQ _ _ _ h2, fun m hm => ?_⟩
    · have hjl := (List.getElem?_eq_some_iff.1 hj).1
      have := hc j (by omega)
      rw [hj] at this
      simpa [Addr.add_lit] using this
    · refine hr m ?_
      simp only [DataW.weights, ht]
      refine List.mem_cons_of_mem _ (List.mem_append.2 (.inl ?_))
      exact weights_all (List.mem_map.2 ⟨i, by simpa using hi, rfl⟩) m hm

set_option maxRecDepth 20000 in
theorem open_dd_r (h : DataW.trod enc Try.prog W 0 (fun _ => true) true n 69 cs = some x) (hr : Reached x.1 69) : ∃ d : Dd, cs = d.vals ∧ d.Ok W.heap.size W := by
  obtain ⟨xs, m, _, rfl, hl, hlen, hf⟩ := DataW.trod_struct Try.underlying69 h
  rw [Try.cells69] at hl
  simp at hlen
  obtain ⟨c0, c1, c2, c3, c4, c5, c6, c7, c8, c9, c10, c11, c12, c13, rfl⟩ : ∃ c0 c1 c2 c3 c4 c5 c6 c7 c8 c9 c10 c11 c12 c13, cs = [c0, c1, c2, c3, c4, c5, c6, c7, c8, c9, c10, c11, c12, c13] := by
    match cs, hl with
    | [c0, c1, c2, c3, c4, c5, c6, c7, c8, c9, c10, c11, c12, c13], _ => exact ⟨_, _, _, _, _, _, _, _, _, _, _, _, _, _, rfl⟩
  have f0 := hf 0 _ rfl
  have f1 := hf 1 _ rfl
  have f2 := hf 2 _ rfl
  have f3 := hf 3 _ rfl
  have f4 := hf 4 _ rfl
  have f5 := hf 5 _ rfl
  simp only [Try.cells3, Try.cells67, List.getElem_toArray, List.getElem_cons_zero, List.getElem_cons_succ, List.drop_zero, List.drop_succ_cons, List.take_succ_cons, List.take_zero] at f0 f1 f2 f3 f4 f5
  obtain ⟨k0, rfl, w0⟩ := is_int f0 (at_some (by omega))
  obtain ⟨k1, rfl, w1⟩ := is_int f1 (at_some (by omega))
  obtain ⟨k2, rfl, _⟩ := is_int f2 (at_some (by omega))
  obtain ⟨k3, rfl, _⟩ := is_int f3 (at_some (by omega))
  obtain ⟨k4, rfl, _⟩ := is_int f4 (at_some (by omega))
  obtain ⟨y, hy⟩ := Option.isSome_iff_exists.1 (at_some (xs := xs) (k := 5) (by omega))
  rw [hy] at f5
  obtain ⟨ys, m2, _, rfl, hl2, hlen2, hf2⟩ := DataW.trod_struct Try.underlying67 f5
  simp at hlen2
  have g0 := hf2 0 _ rfl
  have g1 := hf2 1 _ rfl
  have g2 := hf2 2 _ rfl
  have g3 := hf2 3 _ rfl
  have g4 := hf2 4 _ rfl
  have g5 := hf2 5 _ rfl
  have g6 := hf2 6 _ rfl
  have g7 := hf2 7 _ rfl
  have g8 := hf2 8 _ rfl
  have e36 : Try.prog.cellsOf 36 = 1 := by kernel_rfl
  have e61 : Try.prog.cellsOf 61 = 1 := by kernel_rfl
  have e62 : Try.prog.cellsOf 62 = 1 := by kernel_rfl
  have e63 : Try.prog.cellsOf 63 = 1 := by kernel_rfl
  have e64 : Try.prog.cellsOf 64 = 1 := by kernel_rfl
  have e65 : Try.prog.cellsOf 65 = 1 := by kernel_rfl
  simp only [Try.cells3, e36, e61, e62, e63, e64, e65, List.getElem_toArray, List.getElem_cons_zero, List.getElem_cons_succ, List.drop_zero, List.drop_succ_cons, List.take_succ_cons, List.take_zero] at g0 g1 g2 g3 g4 g5 g6 g7 g8
  obtain ⟨s0, rfl, _⟩ := is_int g0 (at_some (by omega))
  obtain ⟨s1, rfl, _⟩ := is_int g1 (at_some (by omega))
  obtain ⟨_, _, _, rfl⟩ := is_slice Try.underlying61 g2 (at_some (by omega))
  obtain ⟨_, _, _, rfl⟩ := is_slice Try.underlying61 g3 (at_some (by omega))
  obtain ⟨_, _, _, rfl⟩ := is_slice Try.underlying62 g4 (at_some (by omega))
  obtain ⟨a, len, cap, rfl⟩ := is_slice Try.underlying36 g5 (at_some (by omega))
  obtain ⟨_, _, _, rfl⟩ := is_slice Try.underlying63 g6 (at_some (by omega))
  obtain ⟨_, _, _, rfl⟩ := is_slice Try.underlying64 g7 (at_some (by omega))
  obtain ⟨_, _, _, rfl⟩ := is_slice Try.underlying65 g8 (at_some (by omega))
  obtain ⟨z, hz⟩ := Option.isSome_iff_exists.1 (at_some (xs := ys) (k := 5) (by omega))
  rw [hz] at g5
  have hry : Reached (DataW.agg (ys.map (·.1))) 67 := fun q hq => hr q (by
    simp only [DataW.weights, Try.underlying69]
    exact DataW.weights_mem_each (j := 5) (t := 67) rfl (by rw [List.getElem?_map, hy]; rfl) q hq)
  have hrz : Reached z.1 36 := fun q hq => hry q (by
    simp only [DataW.weights, Try.underlying67]
    exact DataW.weights_mem_each (j := 5) (t := 36) (d := z.1) rfl (by rw [List.getElem?_map, hz]; rfl) q hq)
  obtain ⟨q1, q2⟩ := open_rows_r (Q := fun cs _ => ∃ y : Al, cs = y.vals) Try.underlying36 Try.cells91 (by omega) bytes91 (fun n cs x hx => open_al hx) g5 hrz
  simp only [reachBytes] at q1
  refine ⟨⟨k0, k1, k2, k3, k4, s0, .int .i64 s1, .slice _ _ _, .slice _ _ _, .slice _ _ _, a, len, cap, .slice _ _ _, .slice _ _ _, .slice _ _ _⟩, rfl, ⟨?_, w0, w1, ?_, by show len ≤ 1599289640354; omega⟩⟩
  · intro u hu
    simp only [Dd.vals, Dd.st, stL, List.mem_append, List.mem_cons, List.not_mem_nil, or_false] at hu
    rcases hu with (h | h | h | h | h) | (h | h | h | h | h | h | h | h | h) <;> subst h <;> rfl
  · intro i hi
    obtain ⟨b, o, cs, d, h1, h2, h3, _, ⟨y, rfl⟩, _⟩ := q2 i hi
    exact ⟨b, o, y, h1, h2, h2, h3⟩

theorem open_dds_r {d : DataW H} {p : List MemPlace} {a : Option Addr} {len cap : Nat} (h : DataW.Trod enc Try.prog W 0 (fun _ => true) true 60 (.slice a len cap) d p) (hr : Reached d 60) :
    DdAt W.heap.size W a len ∧ len ≤ 1599289640354 := by
  obtain ⟨fuel, hf⟩ := h
  obtain ⟨q1, q2⟩ := open_rows_r (x := (d, p)) (Q := fun cs x => Reached x 69 → ∃ d : Dd, cs = d.vals ∧ d.Ok W.heap.size W) Try.underlying60 Try.cells69 (by omega) bytes69 (fun n cs x hx hr => open_dd_r hx hr) (by simpa [Value.cells] using hf) hr
  simp only [reachBytes] at q1
  refine ⟨fun i hi => ?_, by omega⟩
  obtain ⟨b, o, cs, d', h1, h2, h3, _, h4, h5⟩ := q2 i hi
  obtain ⟨y, rfl, hy⟩ := h4 h5
  exact ⟨b, o, y, h1, h2, h3, hy⟩
end
end Go.Proofs.Ytenmcllnddmdhaa
