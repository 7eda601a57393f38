/- Whole blocks of many cells, loaded and stored at once; over any program. -/
import Derived.Test.YtenmcllnddmdhaaLib
import Derived.Deep.MidRow
import Derived.Laws.Tables
import Derived.Great.BuildSlice
import Derived.Great.Walk
set_option linter.unusedVariables false
set_option linter.unusedSimpArgs false
namespace Go.Lb
open Go Go.RowKit
variable {P : Program}

theorem Blk.range {w : World} {b : Nat} {t : TypeId} {vs : List Value} (h : Blk w b t vs) : w.rangeAt b 0 vs := fun j v hv => by
  rw [Nat.zero_add]; exact h.cell hv
theorem Blk.rangeIn {w : World} {b : Nat} {t : TypeId} {vs : List Value} (h : Blk w b t vs) (o : Nat) (us : List Value) (hu : ∀ j v, us[j]? = some v → vs[o + j]? = some v) : w.rangeAt b o us := fun j v hv => h.cell (hu j v hv)
theorem Blk.setRow {w : World} {b : Nat} {t : TypeId} {vs : List Value} (h : Blk w b t vs) (us : List Value) : Blk (w.setRow b us.toArray) b t us := setRow_heap w b _ _ t (0, 0) h
theorem Upd.setRow {F : List Nat} {w w' : World} (h : Upd F w w') {b : Nat} (hb : b ∈ F ∨ w.heap.size ≤ b) (us : Array Value) : Upd F w (w'.setRow b us) :=
  ⟨h.os, h.tape, h.output, by simpa using h.size, fun k hk hF => by
    rw [setRow_other _ _ _ _ (by rintro rfl; rcases hb with h1 | h1; exact hF h1; omega)]
    exact h.block k hk hF⟩

/-- The whole block is read. -/
theorem run_load_blk {w : World} {b : Nat} {t : TypeId} {vs : List Value} (h : Blk w b t vs) (ty : TypeId) (d : TypeDesc) (hu : P.underlying ty = some d) (hd : d.isRow = true) (hi : (P.info? ty).map (·.size) = some vs.length) :
    (Instr.loadAt ty (.pointer (some ⟨b, 0, none⟩))).run P w = .ok (.agg vs.toArray) w := run_loadAt_mid w b 0 ty vs d h.range hu hd hi
theorem run_loadVar_blk {w : World} {b : Nat} {t : TypeId} {vs : List Value} (h : Blk w b t vs) (ty : TypeId) (d : TypeDesc) (hu : P.underlying ty = some d) (hd : d.isRow = true) (hi : (P.info? ty).map (·.size) = some vs.length) :
    (loadVar ty ⟨b, 0, none⟩).run P w = .ok (.agg vs.toArray) w := run_loadVar_mid w b 0 ty vs d h.range hu hd hi

theorem wp_load_blk {op : Oper} {a : Act} {w : World} {K : Act → World → Prop} {Q : Exit → Act → World → Prop} (ty : TypeId) (x : Operand) (ho : op.op = .load ty x) (b : Nat) (hx : a.eval x = .pointer (some ⟨b, 0, none⟩))
    {t : TypeId} {vs : List Value} (hB : Blk w b t vs) {d : TypeDesc} (hu : P.underlying ty = some d) (hd : d.isRow = true) (hi : (P.info? ty).map (·.size) = some vs.length)
    (h : K (a.put op.dst (.agg vs.toArray)) w) : op.wp P a w K Q := wp_load_mid ty x ho b 0 hx vs d hB.range hu hd hi h
theorem wpList_load_blk {ops : Array Oper} {rest : List Oper} {op : Oper} {a : Act} {w : World} {Q : Exit → Act → World → Prop} (hgd : op.guard = none) (ty : TypeId) (x : Operand) (ho : op.op = .load ty x) (b : Nat) (hx : a.eval x = .pointer (some ⟨b, 0, none⟩))
    {t : TypeId} {vs : List Value} (hB : Blk w b t vs) {d : TypeDesc} (hu : P.underlying ty = some d) (hd : d.isRow = true) (hi : (P.info? ty).map (·.size) = some vs.length)
    (h : wpList P ops Q rest (a.put op.dst (.agg vs.toArray)) w) : wpList P ops Q (op :: rest) a w := wpList_load_mid hgd ty x ho b 0 hx vs d hB.range hu hd hi h

/-- The whole block is written anew. -/
theorem wp_store_blk {o : Oper} {a : Act} {w : World} {K : Act → World → Prop} {Q : Exit → Act → World → Prop} (ty : TypeId) (x y : Operand) (ho : o.op = .store ty x y)
    (b : Nat) (us : List Value) (hx : a.eval x = .pointer (some ⟨b, 0, none⟩)) (hy : a.eval y = .agg us.toArray)
    {t : TypeId} {vs : List Value} (hB : Blk w b t vs) (hi : (P.info? ty).map (·.size) = some us.length) (hold : vs.length = us.length) (h1 : ∀ u ∈ us, u.oneCell' = true)
    (h : Blk (w.setRow b us.toArray) b t us → Upd [b] w (w.setRow b us.toArray) → K (a.put o.dst undef) (w.setRow b us.toArray)) : o.wp P a w K Q :=
  wp_store_row ty x y ho b us.toArray hx hy t vs.toArray hB (by simpa using hi) (by simpa using hold) (all_oneCell_toArray h1) (h (hB.setRow us) ((Upd.refl _ _).setRow (by simp) _))
theorem wpList_store_blk {ops : Array Oper} {rest : List Oper} {o : Oper} {a : Act} {w : World} {Q : Exit → Act → World → Prop} (hgd : o.guard = none) (ty : TypeId) (x y : Operand) (ho : o.op = .store ty x y)
    (b : Nat) (us : List Value) (hx : a.eval x = .pointer (some ⟨b, 0, none⟩)) (hy : a.eval y = .agg us.toArray)
    {t : TypeId} {vs : List Value} (hB : Blk w b t vs) (hi : (P.info? ty).map (·.size) = some us.length) (hold : vs.length = us.length) (h1 : ∀ u ∈ us, u.oneCell' = true)
    (h : ∀ w', Blk w' b t us → Upd [b] w w' → wpList P ops Q rest (a.put o.dst undef) w') : wpList P ops Q (o :: rest) a w :=
  wpList_plain hgd fun _ hK => wp_store_blk ty x y ho b us hx hy hB hi hold h1 fun k1 k2 => hK _ _ (h _ k1 k2)

/-- A new variable of many cells. -/
theorem wp_alloc_blk {o : Oper} {a : Act} {w : World} {K : Act → World → Prop} {Q : Exit → Act → World → Prop} (ty : TypeId) (ho : o.op = .alloc ty) (zs : List Value) (hz : (zeroValue ty).run P w = .ok (.agg zs.toArray) w)
    (h : K (a.put o.dst (.pointer (some ⟨w.heap.size, 0, none⟩))) (w.alloc (.cells zs.toArray ty))) : o.wp P a w K Q := by
  unfold Oper.wp execOp
  simp only [ho, Sem.run_bind, Instr.alloc, hz, newVar, newRow, run_newObj_alloc, Sem.run_pure, Result.andThen_ok, Value.cells]
  exact h
theorem wpList_alloc_blk {ops : Array Oper} {rest : List Oper} {o : Oper} {a : Act} {w : World} {Q : Exit → Act → World → Prop} (hgd : o.guard = none) (ty : TypeId) (ho : o.op = .alloc ty) (zs : List Value) (hz : (zeroValue ty).run P w = .ok (.agg zs.toArray) w)
    (h : ∀ w', Blk w' w.heap.size ty zs → Upd [] w w' → wpList P ops Q rest (a.put o.dst (.pointer (some ⟨w.heap.size, 0, none⟩))) w') : wpList P ops Q (o :: rest) a w :=
  wpList_plain hgd fun _ hK => wp_alloc_blk ty ho zs hz (hK _ _ (h _ (Blk.new _ _ _) ((Upd.refl _ _).alloc _)))

end Go.Lb
