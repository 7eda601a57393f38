/- Maps over numbers, held as a list of pairs: looking up, storing anew, deleting, counting; over any program. -/
import Derived.Test.YtenmcllnddmdhaaWide
import Derived.ChangeMaps5
set_option linter.unusedVariables false
set_option linter.unusedSimpArgs false
namespace Go.Lb
open Go Go.RowKit Go.ChangeMaps
variable {P : Program}

/-- Block m is a map that holds these pairs, in the order in which they came. -/
def MapIs (w : World) (m : Nat) (es : List (Int × Value)) : Prop :=
  ∃ E ck, w.heap[m]? = some (.map E ck) ∧ E.toList.map (fun e => (e.key, e.val)) = es.map (fun p => (Value.int .i64 p.1, p.2))

theorem MapIs.lt {w : World} {m : Nat} {es : List (Int × Value)} (h : MapIs w m es) : m < w.heap.size := by
  obtain ⟨E, ck, h, _⟩ := h
  exact lt_of_block h
theorem MapIs.upd {F : List Nat} {w w' : World} {m : Nat} {es : List (Int × Value)} (h : MapIs w m es) (u : Upd F w w') (hm : m ∉ F) : MapIs w' m es := by
  obtain ⟨E, ck, h1, h2⟩ := h
  exact ⟨E, ck, (u.block m (lt_of_block h1) hm).trans h1, h2⟩
theorem MapIs.new (w : World) : MapIs (w.alloc (.map #[] 0)) w.heap.size [] := ⟨#[], 0, heap_alloc_new w _, rfl⟩

theorem map_eraseIdx' {α β : Type} (f : α → β) : ∀ (l : List α) (i : Nat), (l.eraseIdx i).map f = (l.map f).eraseIdx i
  | [], _ => by simp
  | _ :: _, 0 => by simp
  | x :: l, i + 1 => by simp [map_eraseIdx' f l i]
theorem eraseIdx_mid {α : Type} (A : List α) (x : α) (B : List α) : (A ++ x :: B).eraseIdx A.length = A ++ B := by
  induction A with
  | nil => simp
  | cons y A ih => simpa using ih

theorem find_none {k : Int} {q : IntKind} : ∀ (E : List MapEntry) (es : List (Int × Value)) (i : Nat), E.map (fun e => (e.key, e.val)) = es.map (fun p => (Value.int .i64 p.1, p.2)) → (∀ p ∈ es, p.1 ≠ k) → Instr.findNow (.int q) (.int .i64 k) E i = some none
  | [], [], i, _, _ => rfl
  | [], _ :: _, i, h, _ => by simp at h
  | _ :: _, [], i, h, _ => by simp at h
  | e :: E, p :: es, i, h, hk => by
    simp only [List.map_cons, List.cons.injEq, Prod.mk.injEq] at h
    obtain ⟨⟨h1, h2⟩, h3⟩ := h
    have hne : (k == p.1) = false := by
      have := hk p (by simp)
      simpa using fun e => this e.symm
    simp only [Instr.findNow, h1, Instr.sameNow, if_true, hne]
    exact find_none E es (i + 1) h3 (fun p hp => hk p (by simp [hp]))

theorem find_some {k : Int} {q : IntKind} {v : Value} : ∀ (E : List MapEntry) (A B : List (Int × Value)) (i : Nat), E.map (fun e => (e.key, e.val)) = (A ++ (k, v) :: B).map (fun p => (Value.int .i64 p.1, p.2)) → (∀ p ∈ A, p.1 ≠ k) → Instr.findNow (.int q) (.int .i64 k) E i = some (some (i + A.length, v))
  | [], [], B, i, h, _ => by simp at h
  | [], _ :: _, B, i, h, _ => by simp at h
  | e :: E, [], B, i, h, _ => by
    simp only [List.nil_append, List.map_cons, List.cons.injEq, Prod.mk.injEq] at h
    obtain ⟨⟨h1, h2⟩, h3⟩ := h
    simp [Instr.findNow, h1, Instr.sameNow, h2]
  | e :: E, p :: A, B, i, h, hk => by
    simp only [List.cons_append, List.map_cons, List.cons.injEq, Prod.mk.injEq] at h
    obtain ⟨⟨h1, h2⟩, h3⟩ := h
    have hne : (k == p.1) = false := by
      have := hk p (by simp)
      simpa using fun e => this e.symm
    simp only [Instr.findNow, h1, Instr.sameNow, if_true, hne]
    rw [find_some E A B (i + 1) h3 (fun p hp => hk p (by simp [hp]))]
    simp; omega

section
variable {w : World} {m : Nat} {es : List (Int × Value)} {t kt et : TypeId}
theorem run_checkKey_int (w : World) (b : Bool) (kt : TypeId) (hk : P.underlying kt = some (.int .i64)) (k : Int) : (Instr.checkKey b 10000 kt (.int .i64 k)).run P w = .ok () w := by
  exact MapKept.run_checkKey (k := .int .i64 k) hk (by simp [MapKept.IsKey]) b 9999

theorem run_lookup_none (h : MapIs w m es) (ht : P.underlying t = some (.map kt et)) (hk : P.underlying kt = some (.int .i64)) {z : Value} (hz : (zeroValue et).run P w = .ok z w) (k : Int) (hn : ∀ p ∈ es, p.1 ≠ k) :
    (Instr.lookup t (.map (some m)) (.int .i64 k) true).run P w = .ok (.tuple #[z, .bool false]) w := by
  obtain ⟨E, ck, h1, h2⟩ := h
  have hf := find_none (q := .i64) E.toList es 0 h2 hn
  simp [Instr.lookup, run_underlying ht, Sem.run_bind, MapKept.run_getObj_map h1, run_checkKey_int w _ kt hk k, Instr.findKey, run_underlying hk, hf, hz]

theorem run_lookup_some {A B : List (Int × Value)} {v : Value} {k : Int} (h : MapIs w m (A ++ (k, v) :: B)) (ht : P.underlying t = some (.map kt et)) (hk : P.underlying kt = some (.int .i64)) (hn : ∀ p ∈ A, p.1 ≠ k) :
    (Instr.lookup t (.map (some m)) (.int .i64 k) true).run P w = .ok (.tuple #[v, .bool true]) w := by
  obtain ⟨E, ck, h1, h2⟩ := h
  have hf := find_some (q := .i64) E.toList A B 0 h2 hn
  simp [Instr.lookup, run_underlying ht, Sem.run_bind, MapKept.run_getObj_map h1, run_checkKey_int w _ kt hk k, Instr.findKey, run_underlying hk, hf]

theorem run_mapUpdate_new (h : MapIs w m es) (ht : P.underlying t = some (.map kt et)) (hk : P.underlying kt = some (.int .i64)) (k : Int) (v : Value) (hn : ∀ p ∈ es, p.1 ≠ k) :
    ∃ w', (Instr.mapUpdate t (.map (some m)) (.int .i64 k) v).run P w = .ok () w' ∧ MapIs w' m (es ++ [(k, v)]) ∧ Upd [m] w w' := by
  obtain ⟨E, ck, h1, h2⟩ := h
  have hf := find_none (q := .i64) E.toList es 0 h2 hn
  refine ⟨setBlock w m (.map (E.push { key := .int .i64 k, val := v, born := ck }) (ck + 1)), ?_, ⟨_, _, heap_setBlock_same h1 _, ?_⟩, ?_⟩
  · simp [Instr.mapUpdate, run_underlying ht, Sem.run_bind, MapKept.run_getObj_map h1, run_checkKey_int w _ kt hk k, Instr.findKey, run_underlying hk, hf, MapKept.run_setObj_map _ h1, setBlock]
  · simp [h2]
  · exact ⟨rfl, rfl, rfl, by simp [setBlock], fun x hx hF => heap_setBlock_other h1 _ (by simpa using hF)⟩

theorem run_delete_some {ty : TypeId} {A B : List (Int × Value)} {v : Value} {k : Int} (h : MapIs w m (A ++ (k, v) :: B)) (ht : P.underlying t = some (.map kt et)) (hk : P.underlying kt = some (.int .i64)) (hn : ∀ p ∈ A, p.1 ≠ k) :
    ∃ w', (Builtin.delete_ #[t, kt] ty #[.map (some m), .int .i64 k]).run P w = .ok (.tuple #[]) w' ∧ MapIs w' m (A ++ B) ∧ Upd [m] w w' := by
  obtain ⟨E, ck, h1, h2⟩ := h
  have hf := find_some (q := .i64) E.toList A B 0 h2 hn
  have hlen : A.length < E.size := by
    have := congrArg List.length h2
    simp at this; omega
  refine ⟨setBlock w m (.map (E.eraseIdxIfInBounds A.length) ck), ?_, ⟨_, _, heap_setBlock_same h1 _, ?_⟩, ?_⟩
  · simp [Builtin.delete_, run_underlying ht, Sem.run_bind, MapKept.run_getObj_map h1, run_checkKey_int w _ kt hk k, Instr.findKey, run_underlying hk, hf, MapKept.run_setObj_map _ h1, setBlock]
  · rw [Array.eraseIdxIfInBounds, dif_pos hlen]
    rw [Array.toList_eraseIdx, map_eraseIdx', h2, List.map_append, List.map_cons]
    have := eraseIdx_mid (A.map fun p => (Value.int .i64 p.1, p.2)) (Value.int .i64 k, v) (B.map fun p => (Value.int .i64 p.1, p.2))
    rw [List.length_map] at this
    rw [this, List.map_append]
  · exact ⟨rfl, rfl, rfl, by simp [setBlock], fun x hx hF => heap_setBlock_other h1 _ (by simpa using hF)⟩

theorem run_len_mapIs {ty : TypeId} (h : MapIs w m es) (ht : P.underlying t = some (.map kt et)) : (Builtin.len_ #[t] ty #[.map (some m)]).run P w = .ok (.int .i64 es.length) w := by
  obtain ⟨E, ck, h1, h2⟩ := h
  have hlen : E.size = es.length := by
    have := congrArg List.length h2
    simpa using this
  simp [Builtin.len_, run_underlying ht, Sem.run_bind, MapKept.run_getObj_map h1, hlen, goInt]
end

section
variable {ops : Array Oper} {rest : List Oper} {o : Oper} {a : Act} {w : World} {Q : Exit → Act → World → Prop} {K : Act → World → Prop} {m : Nat} {es : List (Int × Value)} {t kt et : TypeId}
/-- An operation whose run is known whole. -/
theorem wp_run {v : Value} {w' : World} (h : (execOp a.eval o).run P w = .ok (.value v) w') (hK : K (a.put o.dst v) w') : o.wp P a w K Q := by
  unfold Oper.wp
  simp only [h, Result.andThen_ok]
  exact hK
theorem wpList_run (hgd : o.guard = none) {v : Value} {w' : World} (h : (execOp a.eval o).run P w = .ok (.value v) w') (hK : wpList P ops Q rest (a.put o.dst v) w') : wpList P ops Q (o :: rest) a w :=
  wpList_plain hgd fun _ k => wp_run h (k _ _ hK)
/-- .. in a region that draws its order and only reads. -/
theorem quiet_run {C : World → Prop} {Q : Act → Prop} (hgd : o.guard = none) {v : Value} (h : ∀ w, C w → (execOp a.eval o).run P w = .ok (.value v) w) (hK : wpQuiet P ops C Q rest (a.put o.dst v)) : wpQuiet P ops C Q (o :: rest) a := by
  unfold wpQuiet
  rw [if_pos (by simp [Region.wanted, hgd])]
  exact ⟨v, fun w hw => by simp [Oper.quietAt, h w hw, Oper.quietUpon], hK⟩
end
theorem wrapIn {x : Int} (h1 : -9223372036854775808 ≤ x) (h2 : x ≤ 9223372036854775807) : IntKind.i64.wrap x = x := by
  rw [IntKind.wrap_i64]; omega
theorem MapIs.drewN {w : World} {m : Nat} {es : List (Int × Value)} (h : MapIs w m es) (n : Nat) : MapIs (w.drewN n) m es := h
end Go.Lb
