/- What the reach says of evaluations and deeds that came in; what deeds leave is never more than the last evaluations and four. -/
import Derived.Test.YtlebhaobfheocaaKeepsP
import Derived.Test.YtlebhaobfheocaaFrame
import Derived.SizedLaws
set_option linter.unusedVariables false
set_option linter.unusedSimpArgs false
namespace Go.Proofs.Ytlebhaobfheocaa
open Go.ChangeShapes Go.WideShapes Go.ChangeAt Go.RowKit Go.Lb

section
variable {H : Type} {enc : TypeId × Value → H} {W : World} {n : Nat} {cs : List Value} {x : DataW H × List MemPlace}
theorem bytes26 : Try.prog.bytesOf 26 = 32 := by kernel_rfl
theorem weights_all {P : Program} {e : TypeId} {l : List (DataW H)} {d : DataW H} (h : d ∈ l) : ∀ n ∈ d.weights P e, n ∈ DataW.weightsAll P e l := by
  induction l with
  | nil => simp at h
  | cons y r ih =>
    intro n hn
    simp only [DataW.weightsAll, List.mem_append]
    rcases List.mem_cons.1 h with rfl | h
    · exact .inl hn
    · exact .inr (ih h n hn)
/-- No row that is met is longer than the reach. -/
def Reached (d : DataW H) (t : TypeId) : Prop := ∀ n ∈ d.weights Try.prog t, n ≤ reachBytes
theorem reached_of {t : TypeId} {ts : List TypeId} {d : DataW H} {ds : List (DataW H)} (h : (DataW.weightsEach Try.prog (t :: ts) (d :: ds)).all (· ≤ reachBytes) = true) : Reached d t ∧ (DataW.weightsEach Try.prog ts ds).all (· ≤ reachBytes) = true := by
  simp only [DataW.weightsEach, List.all_append, Bool.and_eq_true] at h
  exact ⟨fun n hn => by simpa using List.all_eq_true.1 h.1 n hn, h.2⟩
/-- A slice of structs that came in, at every place, each within the reach. -/
theorem open_rows_r {t e : TypeId} {k z : Nat} (ht : Try.prog.underlying t = some (.slice e)) (hk : Try.prog.cellsOf e = k) (h0 : 0 < k) (hz : Try.prog.bytesOf e = z) {a : Option Addr} {len cap : Nat} {Q : List Value → DataW H → Prop}
    (hQ : ∀ n cs x, DataW.trod enc Try.prog W 0 (fun _ => true) true n e cs = some x → Q cs x.1)
    (h : DataW.trod enc Try.prog W 0 (fun _ => true) true n t [.slice a len cap] = some x) (hr : Reached x.1 t) :
    len * z ≤ reachBytes ∧ ∀ i, i < len → ∃ b o cs d, a = some ⟨b, o, none⟩ ∧ b < W.heap.size ∧ W.rangeAt b (o + i * k) cs ∧ cs.length = k ∧ Q cs d ∧ Reached d e := by
  rcases Deep.open_slice ht h with ⟨hcs, _⟩ | ⟨y, l, c, m, n', D, Pl, hcs, _, hl, _, hm, hx, hall⟩
  · simp at hcs
    obtain ⟨rfl, rfl, rfl⟩ := hcs
    exact ⟨by simp, fun i hi => by omega⟩
  · simp at hcs
    obtain ⟨rfl, rfl, rfl⟩ := hcs
    simp at hm
    subst hm
    rw [hx] at hr
    have hlen : len * z ≤ reachBytes := by
      have := hr _ (by simp only [DataW.weights, ht]; exact List.mem_cons_self ..)
      rw [hz] at this
      simp only [List.length_map, List.length_range] at this
      exact Nat.le_trans (Nat.mul_le_mul_right _ (Nat.le_add_right _ _)) this
    refine ⟨hlen, fun i hi => ?_⟩
    obtain ⟨cs', h1, h2⟩ := hall i (by omega)
    rw [hk] at h1
    obtain ⟨_, hlc, hc⟩ := World.cells?_some h1
    obtain ⟨b, off, spot⟩ := y
    have c0 := hc 0 (by omega)
    rw [List.getElem?_eq_getElem (by omega)] at c0
    have hspot : spot = none := by
      obtain ⟨cs0, h10, h20⟩ := hall 0 (by omega)
      rw [hk] at h10
      obtain ⟨_, hl0, hc0⟩ := World.cells?_some h10
      have z0 := hc0 0 (by omega)
      rw [List.getElem?_eq_getElem (by omega)] at z0
      simpa [Addr.add] using World.cell?_spot z0
    subst hspot
    simp only [Addr.add_lit, Nat.add_zero] at c0
    refine ⟨b, off, cs', D i, rfl, block_lt_of_cell c0, fun j v hj => ?_, hlc, hQ _ _ _ h2, fun m hm => ?_⟩
    · have hjl := (List.getElem?_eq_some_iff.1 hj).1
      have := hc j (by omega)
      rw [hj] at this
      simpa [Addr.add_lit] using this
    · refine hr m ?_
      simp only [DataW.weights, ht]
      refine List.mem_cons_of_mem _ (List.mem_append.2 (.inl ?_))
      exact weights_all (List.mem_map.2 ⟨i, by simpa using hi, rfl⟩) m hm
theorem evs_r {a : Option Addr} {len cap : Nat} (h : DataW.trod enc Try.prog W 0 (fun _ => true) true n 22 [.slice a len cap] = some x) (hr : Reached x.1 22) : len ≤ 4398046510976 := by
  obtain ⟨q, _⟩ := open_rows_r (Q := fun _ _ => True) Try.underlying22 Try.cells26 (by omega) bytes26 (fun _ _ _ _ => trivial) h hr
  simp only [reachBytes] at q
  omega
theorem evs_trod {d : DataW H} {p : List MemPlace} {a : Option Addr} {len cap : Nat} (h : DataW.Trod enc Try.prog W 0 (fun _ => true) true 22 (.slice a len cap) d p) (hr : Reached d 22) : len ≤ 4398046510976 := by
  obtain ⟨fuel, hf⟩ := h
  exact evs_r (x := (d, p)) (by simpa [Value.cells] using hf) hr

theorem bytes44 : Try.prog.bytesOf 44 = 40 := by kernel_rfl
/-- Deeds that came in, none with more evaluations than the reach lets. -/
def DdRowM (w : World) (a : Option Addr) (len : Nat) (f : Nat → Dd) : Prop := (∀ i, i < len → DdIs w a i (f i)) ∧ ∀ i, i < len → (f i).n ≤ 4398046510976
theorem open_dd_r (h : DataW.trod enc Try.prog W 0 (fun _ => true) true n 44 cs = some x) (hr : Reached x.1 44) : ∃ d : Dd, cs = d.vals ∧ (Lit.int .i64 d.k).wf = true ∧ (Lit.int .i64 d.wk).wf = true ∧ EvRow W d.a d.es ∧ d.es.length = d.n ∧ d.n ≤ 4398046510976 := by
  obtain ⟨xs, m, _, rfl, hl, hlen, hf⟩ := DataW.trod_struct Try.underlying44 h
  rw [Try.cells44] at hl
  simp at hlen
  obtain ⟨c0, c1, c2, rfl⟩ : ∃ c0 c1 c2, cs = [c0, c1, c2] := by
    match cs, hl with
    | [c0, c1, c2], _ => exact ⟨_, _, _, rfl⟩
  have f0 := hf 0 _ rfl
  have f1 := hf 1 _ rfl
  have f2 := hf 2 _ rfl
  simp only [Try.cells3, Try.cells22, List.getElem_toArray, List.getElem_cons_zero, List.getElem_cons_succ, List.drop_zero, List.drop_succ_cons, List.take_succ_cons, List.take_zero] at f0 f1 f2
  obtain ⟨k0, rfl, w0⟩ := is_int f0 (at_some (by omega))
  obtain ⟨k1, rfl, w1⟩ := is_int f1 (at_some (by omega))
  obtain ⟨a, len, cap, rfl⟩ := is_slice Try.underlying22 f2 (at_some (by omega))
  obtain ⟨y, hy⟩ := Option.isSome_iff_exists.1 (at_some (xs := xs) (k := 2) (by omega))
  rw [hy] at f2
  obtain ⟨es, e1, e2, e3⟩ := open_evs' f2
  have hry : Reached y.1 22 := fun q hq => hr q (by
    simp only [DataW.weights, Try.underlying44]
    exact DataW.weights_mem_each (j := 2) (t := 22) (d := y.1) rfl (by rw [List.getElem?_map, hy]; rfl) q hq)
  exact ⟨⟨k0, k1, a, len, cap, es⟩, rfl, w0, w1, e1, e2, evs_r f2 hry⟩
theorem open_dds_r {d : DataW H} {p : List MemPlace} {a : Option Addr} {len cap : Nat} (h : DataW.Trod enc Try.prog W 0 (fun _ => true) true 42 (.slice a len cap) d p) (hr : Reached d 42) : ∃ f, DdRowM W a len f ∧ len ≤ 4398046510976 := by
  obtain ⟨fuel, hf⟩ := h
  obtain ⟨q1, q2⟩ := open_rows_r (x := (d, p)) (Q := fun cs x => Reached x 44 → ∃ d : Dd, cs = d.vals ∧ (Lit.int .i64 d.k).wf = true ∧ (Lit.int .i64 d.wk).wf = true ∧ EvRow W d.a d.es ∧ d.es.length = d.n ∧ d.n ≤ 4398046510976) Try.underlying42 Try.cells44 (by omega) bytes44 (fun n cs x hx hr => open_dd_r hx hr) (by simpa [Value.cells] using hf) hr
  obtain ⟨f, hf'⟩ := pick_all (α := Dd) (p := fun i d => DdIs W a i d ∧ d.n ≤ 4398046510976) len (fun i hi => by
    obtain ⟨b, o, cs, x, h1, h2, h3, _, h4, h5⟩ := q2 i hi
    obtain ⟨y, rfl, w0, w1, e1, e2, e3⟩ := h4 h5
    exact ⟨y, ⟨b, o, h1, h2, h3, w0, w1, e1, e2, fun ad e hn => e1.lt hn ad e⟩, e3⟩)
  simp only [reachBytes] at q1
  exact ⟨f, ⟨fun i hi => (hf' i hi).1, fun i hi => (hf' i hi).2⟩, by omega⟩
end

theorem filter_split (p : Rf → Bool) : ∀ l : List Rf, l.length = (l.filter p).length + (l.filter fun x => !p x).length
  | [] => rfl
  | x :: l => by
    have := filter_split p l
    cases h : p x <;> simp [h] <;> omega
theorem had_len {R : List Rf} (h : HW 4 R) : (R.filter (·.had)).length ≤ 4 := by
  have := nodup_len (hw R) [0, 1, 2, 3] h.nd (fun v hv => by
    have := h.lt v hv
    simp only [List.mem_cons, List.not_mem_nil, or_false]; omega)
  simpa [hw] using this
/-- Behind an update there are what workers have and what is pending. -/
theorem upd_bd {R : List Rf} {es : List Ev} (h : HW 4 R) (hi : Inv R) : (rUpd R es).length ≤ 4 + es.length := by
  have h1 := had_len (h.sub (upd_hw R es))
  have h2 := nodup_len (jobs ((rUpd R es).filter fun x => !x.had)) (es.map Ev.job) ((hi.upd es).jd.sublist (List.filter_sublist.map _)) (fun j hj => by
    obtain ⟨x, hx, rfl⟩ := List.mem_map.1 hj
    obtain ⟨h3, h4⟩ := List.mem_filter.1 hx
    obtain ⟨_, h5⟩ := List.mem_filter.1 h3
    refine pend_mem ?_
    simp only [Bool.not_eq_true'] at h4
    rw [h4] at h5
    simpa using h5)
  have h3 := filter_split (·.had) (rUpd R es)
  simp only [jobs, List.length_map] at h2
  omega
theorem doIt_bd {R : List Rf} (k wk : Int) (es : List Ev) (hi : Inv R) (h : HW 4 R) (hl : R.length ≤ 4398046510980) (he : es.length ≤ 4398046510976) : (doIt k wk es R).length ≤ 4398046510980 := by
  unfold doIt
  split; · have := upd_bd (es := es) h hi; omega
  split; · rw [deq_len]; omega
  split; · have := ack_len R wk; omega
  split; · rw [nack_len]; omega
  rw [tick_len]; omega
end Go.Proofs.Ytlebhaobfheocaa
