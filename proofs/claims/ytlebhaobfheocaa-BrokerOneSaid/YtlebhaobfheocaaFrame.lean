/- What the frames of the statements share: the bound read off; evaluations and deeds that came in, opened. -/
import Derived.Test.YtlebhaobfheocaaUpd
import Derived.ProofKit
import Derived.OpenShut
import Derived.ShutString
import Derived.ChangeOld
import Derived.JoinedCond
import Derived.Deep.Slices
import Derived.ChangeSame
set_option linter.unusedVariables false
set_option linter.unusedSimpArgs false
namespace Go.Proofs.Ytlebhaobfheocaa
open Go.ChangeShapes Go.WideShapes Go.ChangeAt Go.RowKit Go.Lb

theorem Try.own : ownKnob Try.prog.godebug = none := by kernel_rfl
theorem Try.laidOut : laidOutB Try.prog = true := by kernel_rfl

theorem bulk_one {H : Type} (x : DataW H) : 1 ≤ Rows.uptoBulk x := by
  cases x with
  | lit l => cases l <;> simp [Rows.uptoBulk]
  | _ => simp [Rows.uptoBulk]
theorem bulk_len {H : Type} (l : List (DataW H)) : l.length ≤ Rows.uptoBulkAll l := by
  induction l with
  | nil => simp [Rows.uptoBulkAll]
  | cons x r ih => have h1 := bulk_one x; simp only [Rows.uptoBulkAll, List.length_cons]; omega
theorem bulk_mem {H : Type} {l : List (DataW H)} {x : DataW H} (h : x ∈ l) : Rows.uptoBulk x ≤ Rows.uptoBulkAll l := by
  induction l with
  | nil => simp at h
  | cons y r ih =>
    simp only [Rows.uptoBulkAll]
    rcases List.mem_cons.1 h with rfl | h
    · omega
    · have := ih h; omega
theorem bulk_sum {H : Type} (l : List (DataW H)) : (l.map Rows.uptoBulk).sum = Rows.uptoBulkAll l := by
  induction l with
  | nil => rfl
  | cons y r ih => simp only [List.map_cons, List.sum_cons, Rows.uptoBulkAll, ih]
theorem bulk_of {H : Type} {l : List (DataW H)} (hk : Rows.uptoSmall H l = true) : Rows.uptoBulkAll l ≤ 1048576 := of_decide_eq_true hk

section
variable {H : Type} {enc : TypeId × Value → H} {W : World} {n : Nat} {cs : List Value} {x : DataW H × List MemPlace}
theorem Try.cells26 : Try.prog.cellsOf 26 = 4 := by kernel_rfl
theorem Try.cells44 : Try.prog.cellsOf 44 = 3 := by kernel_rfl
theorem Try.cells22 : Try.prog.cellsOf 22 = 1 := by kernel_rfl
theorem Try.cells3 : Try.prog.cellsOf 3 = 1 := by kernel_rfl

theorem is_int {v : Value} {o : Option (DataW H × List MemPlace)} (h : DataW.trod enc Try.prog W 0 (fun _ => true) true n 3 [v] = o) (ho : o.isSome = true) : ∃ k, v = .int .i64 k ∧ (Lit.int .i64 k).wf = true := by
  obtain ⟨y, rfl⟩ := Option.isSome_iff_exists.1 ho
  obtain ⟨k, e, _, hw⟩ := DataW.trod_int Try.underlying3 h
  exact ⟨k, by simpa using e, hw⟩
theorem is_slice {t e : TypeId} (ht : Try.prog.underlying t = some (.slice e)) {v : Value} {o : Option (DataW H × List MemPlace)} (h : DataW.trod enc Try.prog W 0 (fun _ => true) true n t [v] = o) (ho : o.isSome = true) : ∃ a l c, v = .slice a l c := by
  obtain ⟨y, rfl⟩ := Option.isSome_iff_exists.1 ho
  rcases DataW.trod_slice ht h with ⟨e, _⟩ | ⟨a, len, cap, _, _, _, _, e, _⟩
  · exact ⟨none, 0, 0, by simpa using e⟩
  · exact ⟨some a, len, cap, by simpa using e⟩
theorem at_some {α : Type} {xs : List α} {k : Nat} (h : k < xs.length) : (xs[k]?).isSome = true := by simp [h]

/-- A slice of structs that came in, opened at every place: all in one block. -/
theorem open_rows {t e : TypeId} {k : Nat} (ht : Try.prog.underlying t = some (.slice e)) (hk : Try.prog.cellsOf e = k) (h0 : 0 < k) {a : Option Addr} {len cap : Nat} {Q : List Value → DataW H → Prop}
    (hQ : ∀ n cs x, DataW.trod enc Try.prog W 0 (fun _ => true) true n e cs = some x → Q cs x.1)
    (h : DataW.trod enc Try.prog W 0 (fun _ => true) true n t [.slice a len cap] = some x) :
    len ≤ Rows.uptoBulk x.1 ∧ ∃ D : Nat → DataW H, ((List.range len).map fun i => Rows.uptoBulk (D i)).sum ≤ Rows.uptoBulk x.1 ∧ ∀ i, i < len → ∃ b o cs, a = some ⟨b, o, none⟩ ∧ b < W.heap.size ∧ W.rangeAt b (o + i * k) cs ∧ cs.length = k ∧ Q cs (D i) := by
  rcases Deep.open_slice ht h with ⟨hcs, _⟩ | ⟨y, l, c, m, n', D, Pl, hcs, _, hl, _, hm, hx, hall⟩
  · simp at hcs
    obtain ⟨rfl, rfl, rfl⟩ := hcs
    exact ⟨by omega, fun _ => .nil, by simp, fun i hi => by omega⟩
  · simp at hcs
    obtain ⟨rfl, rfl, rfl⟩ := hcs
    simp at hm
    subst hm
    have hsum : ((List.range len).map fun i => Rows.uptoBulk (D i)).sum ≤ Rows.uptoBulk x.1 := by
      rw [hx]
      have h1 := bulk_sum ((List.range len).map D)
      rw [List.map_map] at h1
      simp only [Rows.uptoBulk]
      have : (List.map (Rows.uptoBulk ∘ D) (List.range len)).sum = ((List.range len).map fun i => Rows.uptoBulk (D i)).sum := rfl
      omega
    have hlen : len ≤ Rows.uptoBulk x.1 := by
      rw [hx]
      have h1 := bulk_len ((List.range len).map D)
      simp only [List.length_map, List.length_range] at h1
      simp only [Rows.uptoBulk]
      omega
    refine ⟨hlen, D, hsum, fun i hi => ?_⟩
    obtain ⟨cs', h1, h2⟩ := hall i (by omega)
    rw [hk] at h1
    obtain ⟨_, hlc, hc⟩ := World.cells?_some h1
    obtain ⟨b, off, spot⟩ := y
    have c0 := hc 0 (by omega)
    rw [List.getElem?_eq_getElem (by omega)] at c0
    have hspot : spot = none := by
      obtain ⟨cs0, h10, h20⟩ := hall 0 (by omega)
      rw [hk] at h10
      obtain ⟨_, hl0, hc0⟩ := World.cells?_some h10
      have z0 := hc0 0 (by omega)
      rw [List.getElem?_eq_getElem (by omega)] at z0
      simpa [Addr.add] using World.cell?_spot z0
    subst hspot
    simp only [Addr.add_lit, Nat.add_zero] at c0
    refine ⟨b, off, cs', rfl, block_lt_of_cell c0, fun j v hj => ?_, hlc, hQ _ _ _ h2⟩
    have hjl := (List.getElem?_eq_some_iff.1 hj).1
    have := hc j (by omega)
    rw [hj] at this
    simpa [Addr.add_lit] using this

theorem open_ev (h : DataW.trod enc Try.prog W 0 (fun _ => true) true n 26 cs = some x) : ∃ e : Ev, cs = e.vals := by
  obtain ⟨xs, m, _, rfl, hl, hlen, hf⟩ := DataW.trod_struct Try.underlying26 h
  rw [Try.cells26] at hl
  simp at hlen
  obtain ⟨c0, c1, c2, c3, rfl⟩ : ∃ c0 c1 c2 c3, cs = [c0, c1, c2, c3] := by
    match cs, hl with
    | [c0, c1, c2, c3], _ => exact ⟨_, _, _, _, rfl⟩
  have f0 := hf 0 _ rfl
  have f1 := hf 1 _ rfl
  have f2 := hf 2 _ rfl
  have f3 := hf 3 _ rfl
  simp only [Try.cells3, List.getElem_toArray, List.getElem_cons_zero, List.getElem_cons_succ, List.drop_zero, List.drop_succ_cons, List.take_succ_cons, List.take_zero] at f0 f1 f2 f3
  obtain ⟨k0, rfl, _⟩ := is_int f0 (at_some (by omega))
  obtain ⟨k1, rfl, _⟩ := is_int f1 (at_some (by omega))
  obtain ⟨k2, rfl, _⟩ := is_int f2 (at_some (by omega))
  obtain ⟨k3, rfl, _⟩ := is_int f3 (at_some (by omega))
  exact ⟨⟨k0, k1, k2, k3⟩, rfl⟩

theorem pick_all {α : Type} [Inhabited α] {p : Nat → α → Prop} : ∀ n, (∀ i, i < n → ∃ v, p i v) → ∃ f : Nat → α, ∀ i, i < n → p i (f i)
  | 0, _ => ⟨fun _ => default, fun i h => by omega⟩
  | n + 1, h => by
    obtain ⟨f, hf⟩ := pick_all n (fun i hi => h i (by omega))
    obtain ⟨v, hv⟩ := h n (by omega)
    refine ⟨fun i => if i = n then v else f i, fun i hi => ?_⟩
    by_cases e : i = n
    · subst e; simpa using hv
    · simp only [if_neg e]; exact hf i (by omega)

theorem open_evs' {a : Option Addr} {len cap : Nat} (h : DataW.trod enc Try.prog W 0 (fun _ => true) true n 22 [.slice a len cap] = some x) : ∃ es : List Ev, EvRow W a es ∧ es.length = len ∧ len ≤ Rows.uptoBulk x.1 := by
  obtain ⟨q1, D, _, q2⟩ := open_rows (Q := fun cs _ => ∃ e : Ev, cs = e.vals) Try.underlying22 Try.cells26 (by omega) (fun n cs x hx => open_ev hx) h
  obtain ⟨f, hf⟩ := pick_all (α := Ev) (p := fun i e => ∃ b o, a = some ⟨b, o, none⟩ ∧ b < W.heap.size ∧ W.rangeAt b (o + i * 4) e.vals) len (fun i hi => by
    obtain ⟨b, o, cs, h1, h2, h3, _, ⟨e, rfl⟩⟩ := q2 i hi
    exact ⟨e, b, o, h1, h2, h3⟩)
  refine ⟨(List.range len).map f, fun i e he => ?_, by simp, q1⟩
  have hi := (List.getElem?_eq_some_iff.1 he).1
  simp only [List.length_map, List.length_range] at hi
  rw [List.getElem?_map, List.getElem?_range hi] at he
  obtain rfl : f i = e := by simpa using he
  exact hf i hi
theorem open_evs {d : DataW H} {p : List MemPlace} {a : Option Addr} {len cap : Nat} (h : DataW.Trod enc Try.prog W 0 (fun _ => true) true 22 (.slice a len cap) d p) : ∃ es : List Ev, EvRow W a es ∧ es.length = len ∧ len ≤ Rows.uptoBulk d := by
  obtain ⟨fuel, hf⟩ := h
  exact open_evs' (by simpa [Value.cells] using hf)

/-- A deed: what, who, the evaluations. -/
structure Dd where
  k : Int
  wk : Int
  a : Option Addr
  n : Nat
  c : Nat
  es : List Ev
  deriving Inhabited
def Dd.vals (d : Dd) : List Value := [.int .i64 d.k, .int .i64 d.wk, .slice d.a d.n d.c]
/-- The i-th deed that came in. -/
def DdIs (w : World) (a : Option Addr) (i : Nat) (d : Dd) : Prop := ∃ b o, a = some ⟨b, o, none⟩ ∧ b < w.heap.size ∧ w.rangeAt b (o + i * 3) d.vals ∧ (Lit.int .i64 d.k).wf = true ∧ (Lit.int .i64 d.wk).wf = true ∧ EvRow w d.a d.es ∧ d.es.length = d.n ∧ ∀ ad, d.a = some ad → d.es ≠ [] → ad.block < w.heap.size
theorem EvRow.lt {w : World} {a : Option Addr} {es : List Ev} (h : EvRow w a es) (hn : es ≠ []) : ∀ ad, a = some ad → ad.block < w.heap.size := by
  intro ad e
  obtain ⟨x, r, rfl⟩ := List.exists_cons_of_ne_nil hn
  obtain ⟨k, o, h1, h2, _⟩ := h 0 x rfl
  rw [h1] at e
  rw [← Option.some.inj e]
  exact h2
theorem DdIs.upd {w w' : World} {a : Option Addr} {i : Nat} {d : Dd} (h : DdIs w a i d) (u : Upd [] w w') : DdIs w' a i d := by
  obtain ⟨b, o, h1, h2, h3, h4, h5, h6, h7, h8⟩ := h
  refine ⟨b, o, h1, Nat.lt_of_lt_of_le h2 u.size, fun j v hj => ?_, h4, h5, h6.upd u (by simp), h7, fun ad e hn => Nat.lt_of_lt_of_le (h8 ad e hn) u.size⟩
  rw [u.cell (a := ⟨b, o + i * 3 + j, none⟩) h2 (by simp)]
  exact h3 j v hj
/-- Deeds that came in, and that there are not too many evaluations in them. -/
def DdRow (w : World) (a : Option Addr) (len : Nat) (f : Nat → Dd) : Prop := (∀ i, i < len → DdIs w a i (f i)) ∧ ((List.range len).map fun i => (f i).n).sum ≤ 1048576

theorem open_dd (h : DataW.trod enc Try.prog W 0 (fun _ => true) true n 44 cs = some x) : ∃ d : Dd, cs = d.vals ∧ (Lit.int .i64 d.k).wf = true ∧ (Lit.int .i64 d.wk).wf = true ∧ EvRow W d.a d.es ∧ d.es.length = d.n ∧ d.n ≤ Rows.uptoBulk x.1 := by
  obtain ⟨xs, m, _, rfl, hl, hlen, hf⟩ := DataW.trod_struct Try.underlying44 h
  rw [Try.cells44] at hl
  simp at hlen
  obtain ⟨c0, c1, c2, rfl⟩ : ∃ c0 c1 c2, cs = [c0, c1, c2] := by
    match cs, hl with
    | [c0, c1, c2], _ => exact ⟨_, _, _, rfl⟩
  have f0 := hf 0 _ rfl
  have f1 := hf 1 _ rfl
  have f2 := hf 2 _ rfl
  simp only [Try.cells3, Try.cells22, List.getElem_toArray, List.getElem_cons_zero, List.getElem_cons_succ, List.drop_zero, List.drop_succ_cons, List.take_succ_cons, List.take_zero] at f0 f1 f2
  obtain ⟨k0, rfl, w0⟩ := is_int f0 (at_some (by omega))
  obtain ⟨k1, rfl, w1⟩ := is_int f1 (at_some (by omega))
  obtain ⟨a, len, cap, rfl⟩ := is_slice Try.underlying22 f2 (at_some (by omega))
  obtain ⟨y, hy⟩ := Option.isSome_iff_exists.1 (at_some (xs := xs) (k := 2) (by omega))
  rw [hy] at f2
  obtain ⟨es, e1, e2, e3⟩ := open_evs' f2
  have b1 := bulk_mem (l := xs.map (·.1)) (List.mem_map.2 ⟨_, List.mem_of_getElem? hy, rfl⟩)
  exact ⟨⟨k0, k1, a, len, cap, es⟩, rfl, w0, w1, e1, e2, by simp only [Rows.uptoBulk]; show len ≤ _; omega⟩

theorem sum_le {f g : Nat → Nat} : ∀ n, (∀ i, i < n → f i ≤ g i) → ((List.range n).map f).sum ≤ ((List.range n).map g).sum
  | 0, _ => by simp
  | n + 1, h => by
    have h1 := sum_le n (fun i hi => h i (by omega))
    have h2 := h n (by omega)
    simp only [List.range_succ, List.map_append, List.sum_append, List.map_cons, List.map_nil, List.sum_cons, List.sum_nil]
    omega
theorem open_dds {d : DataW H} {p : List MemPlace} {a : Option Addr} {len cap : Nat} (h : DataW.Trod enc Try.prog W 0 (fun _ => true) true 42 (.slice a len cap) d p) (hb : Rows.uptoBulk d ≤ 1048576) : ∃ f, DdRow W a len f ∧ len ≤ 1048576 := by
  obtain ⟨fuel, hf⟩ := h
  obtain ⟨q1, D, q3, q2⟩ := open_rows (Q := fun cs x => ∃ d : Dd, cs = d.vals ∧ (Lit.int .i64 d.k).wf = true ∧ (Lit.int .i64 d.wk).wf = true ∧ EvRow W d.a d.es ∧ d.es.length = d.n ∧ d.n ≤ Rows.uptoBulk x) Try.underlying42 Try.cells44 (by omega) (fun n cs x hx => open_dd hx) (by simpa [Value.cells] using hf)
  obtain ⟨f, hf'⟩ := pick_all (α := Dd) (p := fun i d => DdIs W a i d ∧ d.n ≤ Rows.uptoBulk (D i)) len (fun i hi => by
    obtain ⟨b, o, cs, h1, h2, h3, _, ⟨y, rfl, w0, w1, e1, e2, e3⟩⟩ := q2 i hi
    exact ⟨y, ⟨b, o, h1, h2, h3, w0, w1, e1, e2, fun ad e hn => e1.lt hn ad e⟩, e3⟩)
  simp only at q1 q3
  refine ⟨f, ⟨fun i hi => (hf' i hi).1, ?_⟩, by omega⟩
  exact Nat.le_trans (sum_le len (fun i hi => (hf' i hi).2)) (Nat.le_trans q3 hb)
end
end Go.Proofs.Ytlebhaobfheocaa
