/- A part that several proofs lean on: texts one behind the other. No condition but those that each theorem states. -/
import Derived.Deep.DeepAppendWide
import Derived.WalkKit
import Derived.Handy
import Derived.WalkSpells
import Derived.WalkLawsBesides
import Derived.BigQuiet
import Derived.Deep.QuietTactic
import Derived.BigRegion
import Derived.Lib.Hide
import Derived.Deep.RegionLaw
import Derived.Deep.DeepCutAuto
import Derived.Deep.CutBlock
import Derived.Deep.DeepFit
import Derived.Deep.DeepMust
import Derived.Deep.LoopGhost
import Derived.Deep.MidRow
import Derived.Laws.Tables
import Derived.Great.BuildSlice
import Derived.Great.Walk
import Derived.ChangeMaps5
import Derived.StillTailTactics
import Derived.OrdersHeld
set_option linter.unusedVariables false
set_option linter.unusedSimpArgs false
/- Small laws on worlds, over any program: a block of cells known whole, what a call may change, rows of structs. No condition. -/
namespace Go.Lb
open Go Go.RowKit

/-- Block b is a row of cells vs that may be written. -/
def Blk (w : World) (b : Nat) (t : TypeId) (vs : List Value) : Prop := w.heap[b]? = some (.cells vs.toArray t (0, 0))

theorem Blk.lt {w : World} {b : Nat} {t : TypeId} {vs : List Value} (h : Blk w b t vs) : b < w.heap.size := lt_of_block h
theorem Blk.cell {w : World} {b : Nat} {t : TypeId} {vs : List Value} (h : Blk w b t vs) {o : Nat} {v : Value} (hv : vs[o]? = some v) : w.cell? ⟨b, o, none⟩ = some v := by
  unfold Blk at h
  simp [World.cell?, h, hv]
theorem Blk.frozen {w : World} {b : Nat} {t : TypeId} {vs : List Value} (h : Blk w b t vs) (o : Nat) : w.frozen? ⟨b, o, none⟩ = false := by
  unfold Blk at h
  simp [World.frozen?, h]
theorem Blk.set {w : World} {b : Nat} {t : TypeId} {vs : List Value} (h : Blk w b t vs) (o : Nat) (v : Value) : Blk (w.setCell ⟨b, o, none⟩ v) b t (vs.set o v) := by
  unfold Blk at *
  simp [World.setCell, Array.getElem?_modify, h]
theorem Blk.other {w : World} {b : Nat} {t : TypeId} {vs : List Value} (h : Blk w b t vs) {a : Addr} (ha : b ≠ a.block) (v : Value) : Blk (w.setCell a v) b t vs := by
  unfold Blk at *
  rw [Below.heap_setCell _ _ _ _ ha]; exact h
theorem Blk.alloc {w : World} {b : Nat} {t : TypeId} {vs : List Value} (h : Blk w b t vs) (o : Obj) : Blk (w.alloc o) b t vs := by
  have hl := h.lt
  unfold Blk at *
  rw [Below.heap_alloc _ _ _ hl]; exact h
theorem Blk.drew {w : World} {b : Nat} {t : TypeId} {vs : List Value} (h : Blk w b t vs) : Blk w.drew b t vs := h
theorem Blk.new (w : World) (t : TypeId) (vs : List Value) : Blk (w.alloc (.cells vs.toArray t)) w.heap.size t vs := heap_alloc_new w _
theorem Blk.new2 (w : World) (o : Obj) (t : TypeId) (vs : List Value) : Blk ((w.alloc o).alloc (.cells vs.toArray t)) (w.heap.size + 1) t vs := by
  have h := Blk.new (w.alloc o) t vs
  rwa [World.size_alloc] at h
theorem Blk.inj {w : World} {b : Nat} {t : TypeId} {vs us : List Value} (h : Blk w b t vs) (k : Blk w b t us) : vs = us := by
  unfold Blk at *
  rw [h] at k; simpa using k

/-- From w to w' nothing that was there has changed but the blocks of F. -/
structure Upd (F : List Nat) (w w' : World) : Prop where
  os : w'.os = w.os
  tape : w'.tape = w.tape
  output : w'.output = w.output
  size : w.heap.size ≤ w'.heap.size
  block : ∀ k, k < w.heap.size → k ∉ F → w'.heap[k]? = w.heap[k]?

theorem Upd.refl (F : List Nat) (w : World) : Upd F w w := ⟨rfl, rfl, rfl, Nat.le_refl _, fun _ _ _ => rfl⟩
theorem Upd.trans {F G : List Nat} {w w1 w2 : World} (h : Upd F w w1) (k : Upd G w1 w2) (hG : ∀ x ∈ G, x ∈ F ∨ w.heap.size ≤ x) : Upd F w w2 :=
  ⟨k.os.trans h.os, k.tape.trans h.tape, k.output.trans h.output, Nat.le_trans h.size k.size, fun b hb hF =>
    (k.block b (Nat.lt_of_lt_of_le hb h.size) (fun hg => by rcases hG b hg with h1 | h1; exact hF h1; omega)).trans (h.block b hb hF)⟩
theorem Upd.mono {F G : List Nat} {w w' : World} (h : Upd F w w') (hG : ∀ x ∈ F, x ∈ G ∨ w.heap.size ≤ x) : Upd G w w' := (Upd.refl G w).trans h hG
theorem Upd.drew {F : List Nat} {w w' : World} (h : Upd F w w') : Upd F w w'.drew := ⟨h.os, h.tape, h.output, h.size, h.block⟩
theorem Upd.drewN {F : List Nat} {w w' : World} (h : Upd F w w') (n : Nat) : Upd F w (w'.drewN n) := ⟨h.os, h.tape, h.output, h.size, h.block⟩
theorem Upd.alloc {F : List Nat} {w w' : World} (h : Upd F w w') (o : Obj) : Upd F w (w'.alloc o) :=
  ⟨h.os, h.tape, h.output, by have := h.size; simp; omega, fun k hk hF => by rw [Below.heap_alloc _ _ _ (Nat.lt_of_lt_of_le hk h.size)]; exact h.block k hk hF⟩
theorem Upd.setCell {F : List Nat} {w w' : World} (h : Upd F w w') {a : Addr} (ha : a.block ∈ F ∨ w.heap.size ≤ a.block) (v : Value) : Upd F w (w'.setCell a v) :=
  ⟨h.os, h.tape, h.output, by have := h.size; simpa using this, fun k hk hF => by
    rw [Below.heap_setCell _ _ _ _ (by rintro rfl; rcases ha with h1 | h1; exact hF h1; omega)]; exact h.block k hk hF⟩
theorem Upd.grown {F : List Nat} {w w' w2 : World} (h : Upd F w w') {row : Option Nat} (g : w'.grownBy w2 row) (hr : ∀ k, row = some k → k ∈ F ∨ w.heap.size ≤ k) : Upd F w w2 :=
  ⟨g.os.trans h.os, g.tape.trans h.tape, g.output.trans h.output, Nat.le_trans h.size g.size, fun k hk hF =>
    (g.block k (Nat.lt_of_lt_of_le hk h.size) (fun e => by rcases hr k e.symm with h1 | h1; exact hF h1; omega)).trans (h.block k hk hF)⟩
theorem Upd.below {w w' : World} (h : Upd [] w w') : Below w.heap.size w w' := ⟨h.os, h.tape, h.output, h.size, fun k hk => h.block k hk (by simp)⟩
theorem Upd.belowOf {B : Nat} {F : List Nat} {w w' : World} (h : Upd F w w') (hB : B ≤ w.heap.size) (hF : ∀ k ∈ F, B ≤ k) : Below B w w' :=
  ⟨h.os, h.tape, h.output, h.size, fun k hk => h.block k (by omega) (fun hf => by have := hF k hf; omega)⟩
theorem Upd.of_below {F : List Nat} {w w' : World} (h : Below w.heap.size w w') : Upd F w w' := ⟨h.os, h.tape, h.output, h.size, fun k hk _ => h.block k hk⟩
theorem Upd.blk {F : List Nat} {w w' : World} (h : Upd F w w') {b : Nat} {t : TypeId} {vs : List Value} (hb : Blk w b t vs) (hF : b ∉ F) : Blk w' b t vs :=
  (h.block b hb.lt hF).trans hb
theorem Upd.row {F : List Nat} {w w' : World} (h : Upd F w w') {base : Nat} {e : TypeId} {size : Nat} {v : Value} {n : Nat} {xs : List Value}
    (hr : w.ownsRow base e size v n xs) (hF : ∀ k, v.ownBlock = some k → k ∉ F) : w'.ownsRow base e size v n xs := by
  refine ⟨hr.1, ?_⟩
  rcases hr.2 with hn | ⟨g, cap, cur, rfl, hb, hg, rest⟩
  · exact .inl hn
  · exact .inr ⟨g, cap, cur, rfl, hb, (h.block g (lt_of_block hg) (hF g rfl)).trans hg, rest⟩
theorem Upd.cell {F : List Nat} {w w' : World} (h : Upd F w w') {a : Addr} (hb : a.block < w.heap.size) (hF : a.block ∉ F) : w'.cell? a = w.cell? a := World.cell?_of_block (h.block a.block hb hF)
theorem Upd.frozen {F : List Nat} {w w' : World} (h : Upd F w w') {a : Addr} (hb : a.block < w.heap.size) (hF : a.block ∉ F) : w'.frozen? a = w.frozen? a := World.frozen?_of_block (h.block a.block hb hF)


/-- Of rows of k cells each, one behind the other: cell i*k+j is cell j of row i. -/
theorem flatten_at {k : Nat} : ∀ (xss : List (List Value)), (∀ x ∈ xss, x.length = k) → ∀ (i j : Nat), j < k → xss.flatten[i * k + j]? = (xss[i]?).bind (·[j]?)
  | [], _, i, j, _ => by simp
  | x :: xss, h, 0, j, hj => by
    have hx : x.length = k := h x (by simp)
    simp only [List.flatten_cons, Nat.zero_mul, Nat.zero_add, List.getElem?_cons_zero, Option.bind_some]
    rw [List.getElem?_append_left (by omega)]
  | x :: xss, h, i + 1, j, hj => by
    have hx : x.length = k := h x (by simp)
    simp only [List.flatten_cons, List.getElem?_cons_succ]
    rw [List.getElem?_append_right (by rw [hx, Nat.add_mul]; omega), hx, show (i + 1) * k + j - k = i * k + j by rw [Nat.add_mul]; omega]
    exact flatten_at xss (fun y hy => h y (by simp [hy])) i j hj

theorem flatten_len {k : Nat} : ∀ (xss : List (List Value)), (∀ x ∈ xss, x.length = k) → xss.flatten.length = xss.length * k
  | [], _ => by simp
  | x :: xss, h => by
    have := flatten_len xss (fun y hy => h y (by simp [hy]))
    simp only [List.flatten_cons, List.length_append, this, h x (by simp), List.length_cons]
    rw [Nat.add_mul]; omega

/-- Two lists that agree at each place i*k+j are one. -/
theorem flatten_set3 (xss : List (List Value)) (h : ∀ x ∈ xss, x.length = 3) (i : Nat) (hi : i < xss.length) (a b c : Value) :
    (((xss.flatten.set (i * 3) a).set (i * 3 + 1) b).set (i * 3 + 2) c) = (xss.set i [a, b, c]).flatten := by
  induction xss generalizing i with
  | nil => simp at hi
  | cons x xss ih =>
    have hx : x.length = 3 := h x (by simp)
    match x, hx with
    | [p, q, r], _ =>
      cases i with
      | zero => simp
      | succ i =>
        have := ih (fun y hy => h y (by simp [hy])) i (by simpa using hi)
        simp only [List.flatten_cons, List.set_cons_succ, ← this]
        rw [show (i + 1) * 3 = i * 3 + 1 + 1 + 1 by omega]
        simp [List.set_cons_succ]

section
variable {w : World} {base : Nat} {e : TypeId} {g n cap : Nat}
theorem row_cell {k : Nat} {xss : List (List Value)} (h : w.ownsRow base e k (.slice (some ⟨g, 0, none⟩) n cap) n xss.flatten) (hk : ∀ x ∈ xss, x.length = k)
    {i j : Nat} {x : List Value} {u : Value} (hi : xss[i]? = some x) (hj : x[j]? = some u) : w.cell? ⟨g, i * k + j, none⟩ = some u := by
  have hx : x.length = k := hk x (List.mem_of_getElem? hi)
  have hjk : j < k := by have := (List.getElem?_eq_some_iff.1 hj).1; omega
  have hl := flatten_len xss hk
  have hil := (List.getElem?_eq_some_iff.1 hi).1
  have hlt : i * k + j < n * k := by
    have h1 := h.1
    rw [← h1, hl]
    have : (i + 1) * k ≤ xss.length * k := Nat.mul_le_mul_right _ (by omega)
    rw [Nat.add_mul] at this; omega
  rw [h.cellAt _ hlt, flatten_at xss hk i j hjk, hi]
  simpa using hj
end

section
variable {P : Program}
/-- append on a slice that is nil or starts at the head of a row of its own: what it gives, and where that lies. -/
theorem run_append_mine (w : World) (base : Nat) (t ty e : TypeId) (i : TypeInfo) (z : Value) (size bytes : Nat) (ht : P.underlying t = some (.slice e)) (hi : P.info? e = some i) (hz : i.zero = some z)
    (hsize : i.size = size) (hby : i.bytes = bytes) (hzs : z.cells.size = size) (hsz : 0 < size)
    (v : Value) (n : Nat) (xs : List Value) (hown : w.ownsRow base e size v n xs)
    (a : Addr) (m c : Nat) (news : List Value) (hl : news.length = m * size) (hnews : ∀ j u, news[j]? = some u → w.cell? (a.add j) = some u) (h1 : ∀ u ∈ news, u.oneCell' = true)
    (h63 : n + m ≤ maxLen) (hbytes : (n + m) * bytes ≤ 140737488355328) (hbase : base ≤ w.heap.size) :
    ∃ v' w', (Builtin.append_ #[t, t] ty #[v, .slice (some a) m c]).run P w = .ok v' w' ∧ w'.ownsRow base e size v' (n + m) (xs ++ news) ∧ w.grownBy w' v.ownBlock ∧
      (v'.ownBlock = v.ownBlock ∨ v'.ownBlock = some w.heap.size) := by
  obtain ⟨v', w', hr, h2, h3, h4⟩ := run_append_own (P := P) w base t ty e i z size bytes ht hi hz hsize hby hzs hsz v n xs hown a m c news hl hnews h1 h63 hbytes hbase
  refine ⟨v', w', hr, h2, h3, ?_⟩
  subst hsize; subst hby
  have h63' : n + m ≤ 9223372036854775807 := by simp only [maxLen] at h63; omega
  rcases hown.2 with ⟨rfl, rfl⟩ | ⟨g, cap, cur, rfl, hbg, hg, hnc, hcm, hcs, htake⟩
  · by_cases hm : m = 0
    · exact .inl (by rw [h4.2 ⟨rfl, hm⟩])
    · have hr2 := run_append_nil (P := P) w t ty e i z ht hi hz a m c news hl hnews (by omega) (by omega) (by have hb := hbytes; simp only [Nat.zero_add] at hb; omega)
      rw [hr2] at hr
      simp only [Result.ok.injEq] at hr
      exact .inr (by rw [← hr.1]; rfl)
  · by_cases hroom : n + m ≤ cap
    · have hfit : n * i.size + news.length ≤ cur.size := by rw [hl, hcs, ← Nat.add_mul]; exact Nat.mul_le_mul_right _ hroom
      have hr2 := run_append_room (P := P) w t ty e i ht hi g n cap cur hg a m c news hl hnews h1 hroom hfit
      rw [hr2] at hr
      simp only [Result.ok.injEq] at hr
      exact .inl (by rw [← hr.1]; rfl)
    · have hr2 := run_append_grow (P := P) w t ty e i z ht hi hz ⟨g, 0, none⟩ n cap xs hown.1 (hown.cells (g := g) rfl) a m c news hl hnews (by omega) (by omega) (growslice_fits (by omega) hbytes)
      rw [hr2] at hr
      simp only [Result.ok.injEq] at hr
      exact .inr (by rw [← hr.1]; rfl)

/-- The same, up to four fifths of 2^48 bytes. -/
theorem run_append_wide (w : World) (base : Nat) (t ty e : TypeId) (i : TypeInfo) (z : Value) (size bytes : Nat) (ht : P.underlying t = some (.slice e)) (hi : P.info? e = some i) (hz : i.zero = some z)
    (hsize : i.size = size) (hby : i.bytes = bytes) (hzs : z.cells.size = size) (hsz : 0 < size)
    (v : Value) (n : Nat) (xs : List Value) (hown : w.ownsRow base e size v n xs)
    (a : Addr) (m c : Nat) (news : List Value) (hl : news.length = m * size) (hnews : ∀ j u, news[j]? = some u → w.cell? (a.add j) = some u) (h1 : ∀ u ∈ news, u.oneCell' = true)
    (h63 : n + m ≤ maxLen) (hbytes : ((n + m) + (n + m) / 4 + 192) * bytes ≤ 281474976710656) (hbase : base ≤ w.heap.size) :
    ∃ v' w', (Builtin.append_ #[t, t] ty #[v, .slice (some a) m c]).run P w = .ok v' w' ∧ w'.ownsRow base e size v' (n + m) (xs ++ news) ∧ w.grownBy w' v.ownBlock ∧
      (v'.ownBlock = v.ownBlock ∨ v'.ownBlock = some w.heap.size) := by
  obtain ⟨v', w', hr, h2, h3, h4⟩ := run_append_own_wide (P := P) w base t ty e i z size bytes ht hi hz hsize hby hzs hsz v n xs hown a m c news hl hnews h1 h63 hbytes hbase
  refine ⟨v', w', hr, h2, h3, ?_⟩
  subst hsize; subst hby
  have h63' : n + m ≤ 9223372036854775807 := by simp only [maxLen] at h63; omega
  rcases hown.2 with ⟨rfl, rfl⟩ | ⟨g, cap, cur, rfl, hbg, hg, hnc, hcm, hcs, htake⟩
  · by_cases hm : m = 0
    · exact .inl (by rw [h4.2 ⟨rfl, hm⟩])
    · have hr2 := run_append_nil (P := P) w t ty e i z ht hi hz a m c news hl hnews (by omega) (by omega) (Nat.le_trans (Nat.mul_le_mul_right _ (by omega)) hbytes)
      rw [hr2] at hr
      simp only [Result.ok.injEq] at hr
      exact .inr (by rw [← hr.1]; rfl)
  · by_cases hroom : n + m ≤ cap
    · have hfit : n * i.size + news.length ≤ cur.size := by rw [hl, hcs, ← Nat.add_mul]; exact Nat.mul_le_mul_right _ hroom
      have hr2 := run_append_room (P := P) w t ty e i ht hi g n cap cur hg a m c news hl hnews h1 hroom hfit
      rw [hr2] at hr
      simp only [Result.ok.injEq] at hr
      exact .inl (by rw [← hr.1]; rfl)
    · have hr2 := run_append_grow (P := P) w t ty e i z ht hi hz ⟨g, 0, none⟩ n cap xs hown.1 (hown.cells (g := g) rfl) a m c news hl hnews (by omega) (by omega) (growslice_fits_wide (by omega) hbytes)
      rw [hr2] at hr
      simp only [Result.ok.injEq] at hr
      exact .inr (by rw [← hr.1]; rfl)

variable {w : World}
theorem wp_append_mine {o : Oper} {a : Act} {K : Act → World → Prop} {Q : Exit → Act → World → Prop} (s x : Operand) (t : TypeId)
    (ho : o.op = .call { callee := .builtin .append, args := #[s, x], argTypes := #[t, t] })
    (base : Nat) (e : TypeId) (i : TypeInfo) (z : Value) (size bytes : Nat) (ht : P.underlying t = some (.slice e)) (hi : P.info? e = some i) (hz : i.zero = some z)
    (hsize : i.size = size) (hby : i.bytes = bytes) (hzs : z.cells.size = size) (hsz : 0 < size)
    (v : Value) (n : Nat) (xs : List Value) (hs : a.eval s = v) (hown : w.ownsRow base e size v n xs)
    (ad : Addr) (m c : Nat) (news : List Value) (hx : a.eval x = .slice (some ad) m c) (hl : news.length = m * size) (hnews : ∀ j u, news[j]? = some u → w.cell? (ad.add j) = some u) (h1 : ∀ u ∈ news, u.oneCell' = true)
    (h63 : n + m ≤ maxLen) (hbytes : (n + m) * bytes ≤ 140737488355328) (hbase : base ≤ w.heap.size)
    (h : ∀ v' w', w'.ownsRow base e size v' (n + m) (xs ++ news) → w.grownBy w' v.ownBlock → (v'.ownBlock = v.ownBlock ∨ v'.ownBlock = some w.heap.size) → K (a.put o.dst v') w') : o.wp P a w K Q := by
  obtain ⟨v', w', hr, h2, h3, h4⟩ := run_append_mine (P := P) w base t o.type e i z size bytes ht hi hz hsize hby hzs hsz v n xs hown ad m c news hl hnews h1 h63 hbytes hbase
  unfold Oper.wp execOp
  simp only [ho, resolve, invoke, builtin, Sem.run_bind, Sem.run_pure, Result.andThen_ok, List.map_toArray, List.map_cons, List.map_nil, hs, hx, hr]
  exact h v' w' h2 h3 h4

theorem wpList_append_mine {ops : Array Oper} {rest : List Oper} {o : Oper} {a : Act} {Q : Exit → Act → World → Prop} (hgd : o.guard = none) (s x : Operand) (t : TypeId)
    (ho : o.op = .call { callee := .builtin .append, args := #[s, x], argTypes := #[t, t] })
    (base : Nat) (e : TypeId) (i : TypeInfo) (z : Value) (size bytes : Nat) (ht : P.underlying t = some (.slice e)) (hi : P.info? e = some i) (hz : i.zero = some z)
    (hsize : i.size = size) (hby : i.bytes = bytes) (hzs : z.cells.size = size) (hsz : 0 < size)
    (v : Value) (n : Nat) (xs : List Value) (hs : a.eval s = v) (hown : w.ownsRow base e size v n xs)
    (ad : Addr) (m c : Nat) (news : List Value) (hx : a.eval x = .slice (some ad) m c) (hl : news.length = m * size) (hnews : ∀ j u, news[j]? = some u → w.cell? (ad.add j) = some u) (h1 : ∀ u ∈ news, u.oneCell' = true)
    (h63 : n + m ≤ maxLen) (hbytes : (n + m) * bytes ≤ 140737488355328) (hbase : base ≤ w.heap.size)
    (h : ∀ v' w', w'.ownsRow base e size v' (n + m) (xs ++ news) → w.grownBy w' v.ownBlock → (v'.ownBlock = v.ownBlock ∨ v'.ownBlock = some w.heap.size) → wpList P ops Q rest (a.put o.dst v') w') : wpList P ops Q (o :: rest) a w :=
  wpList_plain hgd fun _ hK => wp_append_mine s x t ho base e i z size bytes ht hi hz hsize hby hzs hsz v n xs hs hown ad m c news hx hl hnews h1 h63 hbytes hbase fun v' w' h2 h3 h4 => hK _ _ (h v' w' h2 h3 h4)

theorem wp_append_wide {o : Oper} {a : Act} {K : Act → World → Prop} {Q : Exit → Act → World → Prop} (s x : Operand) (t : TypeId)
    (ho : o.op = .call { callee := .builtin .append, args := #[s, x], argTypes := #[t, t] })
    (base : Nat) (e : TypeId) (i : TypeInfo) (z : Value) (size bytes : Nat) (ht : P.underlying t = some (.slice e)) (hi : P.info? e = some i) (hz : i.zero = some z)
    (hsize : i.size = size) (hby : i.bytes = bytes) (hzs : z.cells.size = size) (hsz : 0 < size)
    (v : Value) (n : Nat) (xs : List Value) (hs : a.eval s = v) (hown : w.ownsRow base e size v n xs)
    (ad : Addr) (m c : Nat) (news : List Value) (hx : a.eval x = .slice (some ad) m c) (hl : news.length = m * size) (hnews : ∀ j u, news[j]? = some u → w.cell? (ad.add j) = some u) (h1 : ∀ u ∈ news, u.oneCell' = true)
    (h63 : n + m ≤ maxLen) (hbytes : ((n + m) + (n + m) / 4 + 192) * bytes ≤ 281474976710656) (hbase : base ≤ w.heap.size)
    (h : ∀ v' w', w'.ownsRow base e size v' (n + m) (xs ++ news) → w.grownBy w' v.ownBlock → (v'.ownBlock = v.ownBlock ∨ v'.ownBlock = some w.heap.size) → K (a.put o.dst v') w') : o.wp P a w K Q := by
  obtain ⟨v', w', hr, h2, h3, h4⟩ := run_append_wide (P := P) w base t o.type e i z size bytes ht hi hz hsize hby hzs hsz v n xs hown ad m c news hl hnews h1 h63 hbytes hbase
  unfold Oper.wp execOp
  simp only [ho, resolve, invoke, builtin, Sem.run_bind, Sem.run_pure, Result.andThen_ok, List.map_toArray, List.map_cons, List.map_nil, hs, hx, hr]
  exact h v' w' h2 h3 h4

theorem wpList_append_wide {ops : Array Oper} {rest : List Oper} {o : Oper} {a : Act} {Q : Exit → Act → World → Prop} (hgd : o.guard = none) (s x : Operand) (t : TypeId)
    (ho : o.op = .call { callee := .builtin .append, args := #[s, x], argTypes := #[t, t] })
    (base : Nat) (e : TypeId) (i : TypeInfo) (z : Value) (size bytes : Nat) (ht : P.underlying t = some (.slice e)) (hi : P.info? e = some i) (hz : i.zero = some z)
    (hsize : i.size = size) (hby : i.bytes = bytes) (hzs : z.cells.size = size) (hsz : 0 < size)
    (v : Value) (n : Nat) (xs : List Value) (hs : a.eval s = v) (hown : w.ownsRow base e size v n xs)
    (ad : Addr) (m c : Nat) (news : List Value) (hx : a.eval x = .slice (some ad) m c) (hl : news.length = m * size) (hnews : ∀ j u, news[j]? = some u → w.cell? (ad.add j) = some u) (h1 : ∀ u ∈ news, u.oneCell' = true)
    (h63 : n + m ≤ maxLen) (hbytes : ((n + m) + (n + m) / 4 + 192) * bytes ≤ 281474976710656) (hbase : base ≤ w.heap.size)
    (h : ∀ v' w', w'.ownsRow base e size v' (n + m) (xs ++ news) → w.grownBy w' v.ownBlock → (v'.ownBlock = v.ownBlock ∨ v'.ownBlock = some w.heap.size) → wpList P ops Q rest (a.put o.dst v') w') : wpList P ops Q (o :: rest) a w :=
  wpList_plain hgd fun _ hK => wp_append_wide s x t ho base e i z size bytes ht hi hz hsize hby hzs hsz v n xs hs hown ad m c news hx hl hnews h1 h63 hbytes hbase fun v' w' h2 h3 h4 => hK _ _ (h v' w' h2 h3 h4)

theorem step_append_mine {ops : Array Oper} {o : Oper} {a : Act} {K : Act → World → Prop} {Q : Exit → Act → World → Prop} {E : Prop} (hg : o.guard = none) (s x : Operand) (t : TypeId)
    (ho : o.op = .call { callee := .builtin .append, args := #[s, x], argTypes := #[t, t] })
    (base : Nat) (e : TypeId) (i : TypeInfo) (z : Value) (size bytes : Nat) (ht : P.underlying t = some (.slice e)) (hi : P.info? e = some i) (hz : i.zero = some z)
    (hsize : i.size = size) (hby : i.bytes = bytes) (hzs : z.cells.size = size) (hsz : 0 < size)
    (v : Value) (n : Nat) (xs : List Value) (hs : a.eval s = v) (hown : w.ownsRow base e size v n xs)
    (ad : Addr) (m c : Nat) (news : List Value) (hx : a.eval x = .slice (some ad) m c) (hl : news.length = m * size) (hnews : ∀ j u, news[j]? = some u → w.cell? (ad.add j) = some u) (h1 : ∀ u ∈ news, u.oneCell' = true)
    (h63 : n + m ≤ maxLen) (hbytes : (n + m) * bytes ≤ 140737488355328) (hbase : base ≤ w.heap.size)
    (h : ∀ v' w', w'.ownsRow base e size v' (n + m) (xs ++ news) → w.grownBy w' v.ownBlock → (v'.ownBlock = v.ownBlock ∨ v'.ownBlock = some w.heap.size) → K (a.put o.dst v') w') :
    if Region.wanted o (yielded ops a.tmps) = true then Oper.wp P o a w K Q else E := by
  rw [if_pos (by simp [Region.wanted, hg])]
  exact wp_append_mine s x t ho base e i z size bytes ht hi hz hsize hby hzs hsz v n xs hs hown ad m c news hx hl hnews h1 h63 hbytes hbase h
end

/-- The cells of a block known whole, as an append's new cells. -/
theorem Blk.news {w : World} {b : Nat} {t : TypeId} {vs : List Value} (h : Blk w b t vs) : ∀ j u, vs[j]? = some u → w.cell? ((⟨b, 0, none⟩ : Addr).add j) = some u := by
  intro j u hu
  rw [Addr.add_lit, Nat.zero_add]
  exact h.cell hu


section
variable {P : Program}
theorem zeroCells_one {z : Array Value} (h1 : ∀ v ∈ z.toList, v.oneCell' = true) (n : Nat) : ∀ v ∈ (Builtin.zeroCells z n).toList, v.oneCell' = true := by
  intro v hv
  unfold Builtin.zeroCells at hv
  simp only [Array.toList_map, List.mem_map, Array.toList_range, List.mem_range] at hv
  obtain ⟨i, hi, rfl⟩ := hv
  have hz : 0 < z.size := by
    rcases Nat.eq_zero_or_pos z.size with h0 | h0
    · rw [h0] at hi; simp at hi
    · exact h0
  have hlt := Nat.mod_lt i hz
  rw [getElem!_pos z _ hlt]
  exact h1 _ (by simp)

/-- 'clear' of n things in a row of one's own, from place o on. -/
theorem run_clear_row (w : World) (t e ty : TypeId) (i : TypeInfo) (z : Value) (ht : P.underlying t = some (.slice e)) (hi : P.info? e = some i) (hz : i.zero = some z) (h1 : ∀ v ∈ z.cells.toList, v.oneCell' = true)
    (g o n c : Nat) (cur : Array Value) (hg : w.heap[g]? = some (.cells cur e (0, 0))) (hfit : o + n * z.cells.size ≤ cur.size) :
    (Builtin.clear_ #[t] ty #[.slice (some ⟨g, o, none⟩) n c]).run P w =
      .ok (.tuple #[]) (w.setRow g (cur.toList.take o ++ (Builtin.zeroCells z.cells n).toList ++ cur.toList.drop (o + n * z.cells.size)).toArray) := by
  by_cases hn : n = 0
  · subst hn
    have e0 : (cur.toList.take o ++ (Builtin.zeroCells z.cells 0).toList ++ cur.toList.drop (o + 0 * z.cells.size)).toArray = cur := by
      simp [Builtin.zeroCells]
    rw [e0, setRow_self w g cur e (0, 0) hg]
    simp [Builtin.clear_, run_underlying ht]
  · have hst := run_storeCells_at P g o e (Builtin.zeroCells z.cells n).toList 0 cur w hg (by simpa [size_zeroCells] using hfit) (zeroCells_one h1 n)
    simp only [Nat.add_zero, Array.length_toList, size_zeroCells] at hst
    simp [Builtin.clear_, run_underlying ht, zeroValue, typeInfo, hi, hz, hst]

/-- The things behind the first k are cleared: the first k stay. -/
theorem run_clear_tail (w : World) (base : Nat) (t e ty : TypeId) (i : TypeInfo) (z : Value) (size : Nat) (ht : P.underlying t = some (.slice e)) (hi : P.info? e = some i) (hz : i.zero = some z) (hzs : z.cells.size = size) (h1 : ∀ v ∈ z.cells.toList, v.oneCell' = true)
    (g k cap n c o : Nat) (xs : List Value) (hown : w.ownsRow base e size (.slice (some ⟨g, 0, none⟩) k cap) k xs) (ho : o = k * size) (hfit : k + n ≤ cap) :
    ∃ w', (Builtin.clear_ #[t] ty #[.slice (some ⟨g, o, none⟩) n c]).run P w = .ok (.tuple #[]) w' ∧ w'.ownsRow base e size (.slice (some ⟨g, 0, none⟩) k cap) k xs ∧ w.grownBy w' (some g) := by
  subst ho
  subst hzs
  rcases hown.2 with ⟨h0, _⟩ | ⟨g', cap', cur, hv, hb, hg, hnc, hcm, hcs, htake⟩
  · cases h0
  · cases hv
    have hle : k * z.cells.size + n * z.cells.size ≤ cur.size := by rw [hcs, ← Nat.add_mul]; exact Nat.mul_le_mul_right _ hfit
    have hr := run_clear_row (P := P) w t e ty i z ht hi hz h1 g (k * z.cells.size) n c cur hg hle
    refine ⟨_, hr, ⟨hown.1, .inr ⟨g, cap, _, rfl, hb, setRow_heap w g cur _ e _ hg, hnc, hcm, ?_, ?_⟩⟩, ⟨rfl, rfl, rfl, by simp, fun x _ hx => setRow_other w g x _ (fun e => hx (by rw [e]))⟩⟩
    · simp only [List.size_toArray, List.length_append, List.length_take, List.length_drop, Array.length_toList, size_zeroCells]
      omega
    · rw [← htake, List.append_assoc, List.take_append_of_le_length (by simp; omega), List.take_take, Nat.min_self]

theorem wpList_clear_tail {w : World} {ops : Array Oper} {rest : List Oper} {o : Oper} {a : Act} {Q : Exit → Act → World → Prop} (hgd : o.guard = none) (s : Operand) (t : TypeId)
    (hop : o.op = .call { callee := .builtin .clear, args := #[s], argTypes := #[t] })
    (base : Nat) (e : TypeId) (i : TypeInfo) (z : Value) (size : Nat) (ht : P.underlying t = some (.slice e)) (hi : P.info? e = some i) (hz : i.zero = some z) (hzs : z.cells.size = size) (h1 : ∀ v ∈ z.cells.toList, v.oneCell' = true)
    (g k cap n c off : Nat) (xs : List Value) (hs : a.eval s = .slice (some ⟨g, off, none⟩) n c) (hown : w.ownsRow base e size (.slice (some ⟨g, 0, none⟩) k cap) k xs) (ho : off = k * size) (hfit : k + n ≤ cap)
    (h : ∀ w', w'.ownsRow base e size (.slice (some ⟨g, 0, none⟩) k cap) k xs → w.grownBy w' (some g) → wpList P ops Q rest (a.put o.dst (.tuple #[])) w') : wpList P ops Q (o :: rest) a w := by
  refine wpList_plain hgd fun K hK => ?_
  obtain ⟨w', hr, h2, h3⟩ := run_clear_tail (P := P) w base t e o.type i z size ht hi hz hzs h1 g k cap n c off xs hown ho hfit
  unfold Oper.wp execOp
  simp only [hop, resolve, invoke, builtin, Sem.run_bind, Sem.run_pure, Result.andThen_ok, List.map_toArray, List.map_cons, List.map_nil, hs, hr]
  exact hK _ _ (h w' h2 h3)
end

/-- The first of what is owned. -/
theorem own_take {w : World} {base e size g n cap k : Nat} {xs : List Value} (h : w.ownsRow base e size (.slice (some ⟨g, 0, none⟩) n cap) n xs) (hk : k ≤ n) :
    w.ownsRow base e size (.slice (some ⟨g, 0, none⟩) k cap) k (xs.take (k * size)) := by
  have hl : k * size ≤ n * size := Nat.mul_le_mul_right _ hk
  refine ⟨by rw [List.length_take, h.1]; omega, ?_⟩
  rcases h.2 with ⟨h0, _⟩ | ⟨g', cap', cur, hv, hb, hg, hnc, hcm, hcs, htake⟩
  · cases h0
  · cases hv
    exact .inr ⟨g, cap, cur, rfl, hb, hg, by omega, hcm, hcs, by rw [← htake, List.take_take, Nat.min_eq_left hl]⟩

theorem flatten_take {k : Nat} : ∀ (xss : List (List Value)), (∀ x ∈ xss, x.length = k) → ∀ n, xss.flatten.take (n * k) = (xss.take n).flatten
  | [], _, n => by simp
  | x :: xss, h, 0 => by simp
  | x :: xss, h, n + 1 => by
    have hx : x.length = k := h x (by simp)
    have ih := flatten_take xss (fun y hy => h y (by simp [hy])) n
    simp only [List.flatten_cons, List.take_succ_cons]
    rw [List.take_append, hx, List.take_of_length_le (by rw [hx, Nat.add_mul]; omega), show (n + 1) * k - k = n * k by rw [Nat.add_mul]; omega, ih]

end Go.Lb
/- Whole blocks of many cells, loaded and stored at once; over any program. -/
namespace Go.Lb
open Go Go.RowKit
variable {P : Program}

theorem Blk.range {w : World} {b : Nat} {t : TypeId} {vs : List Value} (h : Blk w b t vs) : w.rangeAt b 0 vs := fun j v hv => by
  rw [Nat.zero_add]; exact h.cell hv
theorem Blk.rangeIn {w : World} {b : Nat} {t : TypeId} {vs : List Value} (h : Blk w b t vs) (o : Nat) (us : List Value) (hu : ∀ j v, us[j]? = some v → vs[o + j]? = some v) : w.rangeAt b o us := fun j v hv => h.cell (hu j v hv)
theorem Blk.setRow {w : World} {b : Nat} {t : TypeId} {vs : List Value} (h : Blk w b t vs) (us : List Value) : Blk (w.setRow b us.toArray) b t us := setRow_heap w b _ _ t (0, 0) h
theorem Upd.setRow {F : List Nat} {w w' : World} (h : Upd F w w') {b : Nat} (hb : b ∈ F ∨ w.heap.size ≤ b) (us : Array Value) : Upd F w (w'.setRow b us) :=
  ⟨h.os, h.tape, h.output, by simpa using h.size, fun k hk hF => by
    rw [setRow_other _ _ _ _ (by rintro rfl; rcases hb with h1 | h1; exact hF h1; omega)]
    exact h.block k hk hF⟩

/-- The whole block is read. -/
theorem run_load_blk {w : World} {b : Nat} {t : TypeId} {vs : List Value} (h : Blk w b t vs) (ty : TypeId) (d : TypeDesc) (hu : P.underlying ty = some d) (hd : d.isRow = true) (hi : (P.info? ty).map (·.size) = some vs.length) :
    (Instr.loadAt ty (.pointer (some ⟨b, 0, none⟩))).run P w = .ok (.agg vs.toArray) w := run_loadAt_mid w b 0 ty vs d h.range hu hd hi
theorem run_loadVar_blk {w : World} {b : Nat} {t : TypeId} {vs : List Value} (h : Blk w b t vs) (ty : TypeId) (d : TypeDesc) (hu : P.underlying ty = some d) (hd : d.isRow = true) (hi : (P.info? ty).map (·.size) = some vs.length) :
    (loadVar ty ⟨b, 0, none⟩).run P w = .ok (.agg vs.toArray) w := run_loadVar_mid w b 0 ty vs d h.range hu hd hi

theorem wp_load_blk {op : Oper} {a : Act} {w : World} {K : Act → World → Prop} {Q : Exit → Act → World → Prop} (ty : TypeId) (x : Operand) (ho : op.op = .load ty x) (b : Nat) (hx : a.eval x = .pointer (some ⟨b, 0, none⟩))
    {t : TypeId} {vs : List Value} (hB : Blk w b t vs) {d : TypeDesc} (hu : P.underlying ty = some d) (hd : d.isRow = true) (hi : (P.info? ty).map (·.size) = some vs.length)
    (h : K (a.put op.dst (.agg vs.toArray)) w) : op.wp P a w K Q := wp_load_mid ty x ho b 0 hx vs d hB.range hu hd hi h
theorem wpList_load_blk {ops : Array Oper} {rest : List Oper} {op : Oper} {a : Act} {w : World} {Q : Exit → Act → World → Prop} (hgd : op.guard = none) (ty : TypeId) (x : Operand) (ho : op.op = .load ty x) (b : Nat) (hx : a.eval x = .pointer (some ⟨b, 0, none⟩))
    {t : TypeId} {vs : List Value} (hB : Blk w b t vs) {d : TypeDesc} (hu : P.underlying ty = some d) (hd : d.isRow = true) (hi : (P.info? ty).map (·.size) = some vs.length)
    (h : wpList P ops Q rest (a.put op.dst (.agg vs.toArray)) w) : wpList P ops Q (op :: rest) a w := wpList_load_mid hgd ty x ho b 0 hx vs d hB.range hu hd hi h

/-- The whole block is written anew. -/
theorem wp_store_blk {o : Oper} {a : Act} {w : World} {K : Act → World → Prop} {Q : Exit → Act → World → Prop} (ty : TypeId) (x y : Operand) (ho : o.op = .store ty x y)
    (b : Nat) (us : List Value) (hx : a.eval x = .pointer (some ⟨b, 0, none⟩)) (hy : a.eval y = .agg us.toArray)
    {t : TypeId} {vs : List Value} (hB : Blk w b t vs) (hi : (P.info? ty).map (·.size) = some us.length) (hold : vs.length = us.length) (h1 : ∀ u ∈ us, u.oneCell' = true)
    (h : Blk (w.setRow b us.toArray) b t us → Upd [b] w (w.setRow b us.toArray) → K (a.put o.dst undef) (w.setRow b us.toArray)) : o.wp P a w K Q :=
  wp_store_row ty x y ho b us.toArray hx hy t vs.toArray hB (by simpa using hi) (by simpa using hold) (all_oneCell_toArray h1) (h (hB.setRow us) ((Upd.refl _ _).setRow (by simp) _))
theorem wpList_store_blk {ops : Array Oper} {rest : List Oper} {o : Oper} {a : Act} {w : World} {Q : Exit → Act → World → Prop} (hgd : o.guard = none) (ty : TypeId) (x y : Operand) (ho : o.op = .store ty x y)
    (b : Nat) (us : List Value) (hx : a.eval x = .pointer (some ⟨b, 0, none⟩)) (hy : a.eval y = .agg us.toArray)
    {t : TypeId} {vs : List Value} (hB : Blk w b t vs) (hi : (P.info? ty).map (·.size) = some us.length) (hold : vs.length = us.length) (h1 : ∀ u ∈ us, u.oneCell' = true)
    (h : ∀ w', Blk w' b t us → Upd [b] w w' → wpList P ops Q rest (a.put o.dst undef) w') : wpList P ops Q (o :: rest) a w :=
  wpList_plain hgd fun _ hK => wp_store_blk ty x y ho b us hx hy hB hi hold h1 fun k1 k2 => hK _ _ (h _ k1 k2)

/-- A new variable of many cells. -/
theorem wp_alloc_blk {o : Oper} {a : Act} {w : World} {K : Act → World → Prop} {Q : Exit → Act → World → Prop} (ty : TypeId) (ho : o.op = .alloc ty) (zs : List Value) (hz : (zeroValue ty).run P w = .ok (.agg zs.toArray) w)
    (h : K (a.put o.dst (.pointer (some ⟨w.heap.size, 0, none⟩))) (w.alloc (.cells zs.toArray ty))) : o.wp P a w K Q := by
  unfold Oper.wp execOp
  simp only [ho, Sem.run_bind, Instr.alloc, hz, newVar, newRow, run_newObj_alloc, Sem.run_pure, Result.andThen_ok, Value.cells]
  exact h
theorem wpList_alloc_blk {ops : Array Oper} {rest : List Oper} {o : Oper} {a : Act} {w : World} {Q : Exit → Act → World → Prop} (hgd : o.guard = none) (ty : TypeId) (ho : o.op = .alloc ty) (zs : List Value) (hz : (zeroValue ty).run P w = .ok (.agg zs.toArray) w)
    (h : ∀ w', Blk w' w.heap.size ty zs → Upd [] w w' → wpList P ops Q rest (a.put o.dst (.pointer (some ⟨w.heap.size, 0, none⟩))) w') : wpList P ops Q (o :: rest) a w :=
  wpList_plain hgd fun _ hK => wp_alloc_blk ty ho zs hz (hK _ _ (h _ (Blk.new _ _ _) ((Upd.refl _ _).alloc _)))

end Go.Lb
/- Rows of things of many cells: one read, one written anew; what stands in a row while things are taken out; over any program. -/
namespace Go.Lb
open Go Go.RowKit

/-- Cells written one by one from place o on. -/
def setsFrom : List Value → Nat → List Value → List Value
  | xs, _, [] => xs
  | xs, o, v :: r => setsFrom (xs.set o v) (o + 1) r

theorem setsFrom_eq : ∀ (us xs : List Value) (o : Nat), o + us.length ≤ xs.length → setsFrom xs o us = xs.take o ++ us ++ xs.drop (o + us.length)
  | [], xs, o, _ => by simp [setsFrom]
  | v :: r, xs, o, h => by
    simp only [List.length_cons] at h
    rw [setsFrom, setsFrom_eq r (xs.set o v) (o + 1) (by simp; omega)]
    have e1 : (xs.set o v).take (o + 1) = xs.take o ++ [v] := by
      rw [List.take_add_one, List.take_set_of_le (by omega), List.getElem?_set_self (by omega)]; rfl
    rw [e1, List.drop_set_of_lt (by omega)]
    simp [List.length_cons, show o + 1 + r.length = o + (r.length + 1) by omega]

theorem flatten_drop {k : Nat} (xss : List (List Value)) (h : ∀ x ∈ xss, x.length = k) (n : Nat) : xss.flatten.drop (n * k) = (xss.drop n).flatten := by
  have h1 := flatten_take xss h n
  have h2 : xss.flatten.take (n * k) ++ xss.flatten.drop (n * k) = (xss.take n).flatten ++ (xss.drop n).flatten := by
    rw [List.take_append_drop, ← List.flatten_append, List.take_append_drop]
  rw [h1] at h2
  exact List.append_cancel_left h2

theorem flatten_setRow {k : Nat} (xss : List (List Value)) (h : ∀ x ∈ xss, x.length = k) (i : Nat) (hi : i < xss.length) (us : List Value) (hu : us.length = k) :
    setsFrom xss.flatten (i * k) us = (xss.set i us).flatten := by
  have hl := flatten_len xss h
  have h1 : (i + 1) * k ≤ xss.length * k := Nat.mul_le_mul_right _ (by omega)
  rw [Nat.add_mul, Nat.one_mul] at h1
  rw [setsFrom_eq us _ _ (by omega), flatten_take xss h, hu, show i * k + k = (i + 1) * k by rw [Nat.add_mul, Nat.one_mul], flatten_drop xss h, List.set_eq_take_append_cons_drop, if_pos hi]
  simp

section
variable {w : World} {base : Nat} {e : TypeId} {g n cap : Nat} {size : Nat}
theorem row_setCells : ∀ (us xs : List Value) (o : Nat) (w : World), w.ownsRow base e size (.slice (some ⟨g, 0, none⟩) n cap) n xs → (w.setCells g o us).ownsRow base e size (.slice (some ⟨g, 0, none⟩) n cap) n (setsFrom xs o us)
  | [], _, _, _, h => h
  | v :: r, xs, o, w, h => row_setCells r _ (o + 1) _ (h.stored o v).1
theorem Upd.setCells {F : List Nat} : ∀ (us : List Value) (o : Nat) (w0 w : World) (b : Nat), Upd F w0 w → (b ∈ F ∨ w0.heap.size ≤ b) → Upd F w0 (w.setCells b o us)
  | [], _, _, _, _, h, _ => h
  | v :: r, o, w0, w, b, h, hb => Upd.setCells r (o + 1) w0 _ b (h.setCell hb v) hb
theorem row_set {k : Nat} {xss : List (List Value)} (h : w.ownsRow base e k (.slice (some ⟨g, 0, none⟩) n cap) n xss.flatten) (hk : ∀ x ∈ xss, x.length = k) {i : Nat} (hi : i < xss.length) (us : List Value) (hu : us.length = k) :
    (w.setCells g (i * k) us).ownsRow base e k (.slice (some ⟨g, 0, none⟩) n cap) n (xss.set i us).flatten := by
  have := row_setCells us _ (i * k) w h
  rwa [flatten_setRow xss hk i hi us hu] at this
theorem row_range {k : Nat} {xss : List (List Value)} (h : w.ownsRow base e k (.slice (some ⟨g, 0, none⟩) n cap) n xss.flatten) (hk : ∀ x ∈ xss, x.length = k)
    {i : Nat} {x : List Value} (hi : xss[i]? = some x) : w.rangeAt g (i * k) x := fun j v hj => row_cell h hk hi hj
theorem row_there {k : Nat} {xss : List (List Value)} (h : w.ownsRow base e k (.slice (some ⟨g, 0, none⟩) n cap) n xss.flatten) (hk : ∀ x ∈ xss, x.length = k)
    {i : Nat} {x : List Value} (hi : xss[i]? = some x) : w.there g (i * k) k := fun j hj => by
  have hx : x.length = k := hk x (List.mem_of_getElem? hi)
  refine ⟨?_, h.frozenAt _⟩
  rw [row_cell h hk hi (List.getElem?_eq_getElem (by omega))]
  rfl
end

theorem wpList_store_rowX {P : Program} {ops : Array Oper} {rest : List Oper} {o : Oper} {a : Act} {w : World} {Q : Exit → Act → World → Prop} (hgd : o.guard = none) (ty : TypeId) (x y : Operand) (ho : o.op = .store ty x y)
    {base : Nat} {e : TypeId} (g i : Nat) {n cap k : Nat} {xss : List (List Value)} (us : List Value) (hx : a.eval x = .pointer (some ⟨g, i * k, none⟩)) (hy : a.eval y = .agg us.toArray)
    (hrow : w.ownsRow base e k (.slice (some ⟨g, 0, none⟩) n cap) n xss.flatten) (hk : ∀ x ∈ xss, x.length = k) (hi : i < xss.length) (hsz : (P.info? ty).map (·.size) = some us.toArray.size) (hu : us.length = k) (h1 : us.toArray.all (·.oneCell') = true)
    (h : ∀ w', w'.ownsRow base e k (.slice (some ⟨g, 0, none⟩) n cap) n (xss.set i us).flatten → Upd [g] w w' → wpList P ops Q rest (a.put o.dst undef) w') : wpList P ops Q (o :: rest) a w := by
  refine wpList_store_mid hgd ty x y ho g (i * k) us.toArray hx hy ?_ hsz h1 ?_
  · have := row_there hrow hk (List.getElem?_eq_getElem hi)
    simpa [hu] using this
  · exact h _ (row_set hrow hk hi us hu) (Upd.setCells _ _ _ _ _ (Upd.refl _ _) (by simp))

/-- What stands in the row while things are taken out: the first i are those that stay of the first j; from j on all is as it was. -/
structure DelInv {α : Type} (q : α → Bool) (L L' : List α) (i j : Nat) : Prop where
  len : L'.length = L.length
  ij : i < j
  jn : j ≤ L.length
  head : L'.take i = (L.take j).filter q
  tail : L'.drop j = L.drop j
section
variable {α : Type} {q : α → Bool} {L L' : List α} {i j : Nat}
theorem DelInv.at (h : DelInv q L L' i j) (hj : j < L.length) : L'[j]? = L[j]? := by
  have h1 : (L'.drop j)[0]? = (L.drop j)[0]? := by rw [h.tail]
  simpa using h1
theorem DelInv.keep {x : α} (h : DelInv q L L' i j) (hx : L[j]? = some x) (hq : q x = true) : DelInv q L (L'.set i x) (i + 1) (j + 1) := by
  have hj := (List.getElem?_eq_some_iff.1 hx).1
  have hl := h.len
  have hij := h.ij
  refine ⟨by simp [hl], by omega, by omega, ?_, ?_⟩
  · rw [List.take_add_one, List.take_set_of_le (by omega), h.head, List.getElem?_set_self (by omega), List.take_add_one, hx]
    simp [hq]
  · rw [List.drop_set_of_lt (by omega)]
    have h1 := congrArg (List.drop 1) h.tail
    simpa using h1
theorem DelInv.skip {x : α} (h : DelInv q L L' i j) (hx : L[j]? = some x) (hq : q x = false) : DelInv q L L' i (j + 1) := by
  have hj := (List.getElem?_eq_some_iff.1 hx).1
  have hij := h.ij
  refine ⟨h.len, by omega, by omega, ?_, ?_⟩
  · rw [h.head, List.take_add_one, hx]
    simp [hq]
  · have h1 := congrArg (List.drop 1) h.tail
    simpa using h1
theorem DelInv.start {x : α} (hi : L[i]? = some x) (hq : ∀ j y, j < i → L[j]? = some y → q y = true) (hqi : q x = false) : DelInv q L L i (i + 1) := by
  have hlt := (List.getElem?_eq_some_iff.1 hi).1
  refine ⟨rfl, by omega, by omega, ?_, rfl⟩
  have h1 : (L.take i).filter q = L.take i := by
    rw [List.filter_eq_self]
    intro y hy
    obtain ⟨j, hj, rfl⟩ := List.getElem_of_mem hy
    simp at hj
    exact hq j _ (by omega) (by simp)
  rw [List.take_add_one, List.filter_append, h1, hi]
  simp [hqi]
theorem DelInv.done (h : DelInv q L L' i L.length) : L'.take i = L.filter q := by rw [h.head, List.take_length]
end
theorem flatten_set {k : Nat} (v : Value) : ∀ (xss : List (List Value)) (h : ∀ x ∈ xss, x.length = k) (i j : Nat) (x : List Value), xss[i]? = some x → j < k → xss.flatten.set (i * k + j) v = (xss.set i (x.set j v)).flatten
  | [], h, i, j, x, hx, hj => by simp at hx
  | y :: r, h, 0, j, x, hx, hj => by
    obtain rfl : y = x := by simpa using hx
    have := h y (by simp)
    simp [List.set_append, this, hj]
  | y :: r, h, i + 1, j, x, hx, hj => by
    have hy := h y (by simp)
    have := flatten_set v r (fun x hx => h x (by simp [hx])) i j x (by simpa using hx) hj
    have h1 : ¬ ((i + 1) * k + j < k) := by rw [Nat.add_mul]; omega
    have h2 : (i + 1) * k + j - k = i * k + j := by rw [Nat.add_mul]; omega
    simp only [List.flatten_cons, List.set_append, hy, h1, if_false, h2, this, List.set_cons_succ]
theorem flatten_set2 (xss : List (List Value)) (h : ∀ x ∈ xss, x.length = 2) (i : Nat) (hi : i < xss.length) (a b : Value) :
    ((xss.flatten.set (i * 2) a).set (i * 2 + 1) b) = (xss.set i [a, b]).flatten := by
  have hx : (xss[i]).length = 2 := h _ (List.getElem_mem hi)
  obtain ⟨p, q, e⟩ : ∃ p q, xss[i] = [p, q] := by
    match xss[i], hx with
    | [p, q], _ => exact ⟨p, q, rfl⟩
  have h1 := flatten_set (k := 2) a xss h i 0 [p, q] (by rw [← e]; simp [hi]) (by omega)
  rw [Nat.add_zero] at h1
  rw [h1]
  have h2 := flatten_set (k := 2) b (xss.set i ([p, q].set 0 a)) (fun y hy => by
    rcases List.mem_or_eq_of_mem_set hy with h3 | rfl
    · exact h y h3
    · rfl) i 1 [a, q] (by simp [hi]) (by omega)
  rw [h2, List.set_set]
  rfl
theorem take_snoc {α : Type} {L : List α} {i : Nat} {x : α} (h : L[i]? = some x) : L.take (i + 1) = L.take i ++ [x] := by rw [List.take_add_one, h]; rfl
end Go.Lb
/- Maps over numbers, held as a list of pairs: looking up, storing anew, deleting, counting; over any program. -/
namespace Go.Lb
open Go Go.RowKit Go.ChangeMaps
variable {P : Program}

/-- Block m is a map that holds these pairs, in the order in which they came. -/
def MapIs (w : World) (m : Nat) (es : List (Int × Value)) : Prop :=
  ∃ E ck, w.heap[m]? = some (.map E ck) ∧ E.toList.map (fun e => (e.key, e.val)) = es.map (fun p => (Value.int .i64 p.1, p.2))

theorem MapIs.lt {w : World} {m : Nat} {es : List (Int × Value)} (h : MapIs w m es) : m < w.heap.size := by
  obtain ⟨E, ck, h, _⟩ := h
  exact lt_of_block h
theorem MapIs.upd {F : List Nat} {w w' : World} {m : Nat} {es : List (Int × Value)} (h : MapIs w m es) (u : Upd F w w') (hm : m ∉ F) : MapIs w' m es := by
  obtain ⟨E, ck, h1, h2⟩ := h
  exact ⟨E, ck, (u.block m (lt_of_block h1) hm).trans h1, h2⟩
theorem MapIs.new (w : World) : MapIs (w.alloc (.map #[] 0)) w.heap.size [] := ⟨#[], 0, heap_alloc_new w _, rfl⟩

theorem map_eraseIdx' {α β : Type} (f : α → β) : ∀ (l : List α) (i : Nat), (l.eraseIdx i).map f = (l.map f).eraseIdx i
  | [], _ => by simp
  | _ :: _, 0 => by simp
  | x :: l, i + 1 => by simp [map_eraseIdx' f l i]
theorem eraseIdx_mid {α : Type} (A : List α) (x : α) (B : List α) : (A ++ x :: B).eraseIdx A.length = A ++ B := by
  induction A with
  | nil => simp
  | cons y A ih => simpa using ih

theorem find_none {k : Int} {q : IntKind} : ∀ (E : List MapEntry) (es : List (Int × Value)) (i : Nat), E.map (fun e => (e.key, e.val)) = es.map (fun p => (Value.int .i64 p.1, p.2)) → (∀ p ∈ es, p.1 ≠ k) → Instr.findNow (.int q) (.int .i64 k) E i = some none
  | [], [], i, _, _ => rfl
  | [], _ :: _, i, h, _ => by simp at h
  | _ :: _, [], i, h, _ => by simp at h
  | e :: E, p :: es, i, h, hk => by
    simp only [List.map_cons, List.cons.injEq, Prod.mk.injEq] at h
    obtain ⟨⟨h1, h2⟩, h3⟩ := h
    have hne : (k == p.1) = false := by
      have := hk p (by simp)
      simpa using fun e => this e.symm
    simp only [Instr.findNow, h1, Instr.sameNow, if_true, hne]
    exact find_none E es (i + 1) h3 (fun p hp => hk p (by simp [hp]))

theorem find_some {k : Int} {q : IntKind} {v : Value} : ∀ (E : List MapEntry) (A B : List (Int × Value)) (i : Nat), E.map (fun e => (e.key, e.val)) = (A ++ (k, v) :: B).map (fun p => (Value.int .i64 p.1, p.2)) → (∀ p ∈ A, p.1 ≠ k) → Instr.findNow (.int q) (.int .i64 k) E i = some (some (i + A.length, v))
  | [], [], B, i, h, _ => by simp at h
  | [], _ :: _, B, i, h, _ => by simp at h
  | e :: E, [], B, i, h, _ => by
    simp only [List.nil_append, List.map_cons, List.cons.injEq, Prod.mk.injEq] at h
    obtain ⟨⟨h1, h2⟩, h3⟩ := h
    simp [Instr.findNow, h1, Instr.sameNow, h2]
  | e :: E, p :: A, B, i, h, hk => by
    simp only [List.cons_append, List.map_cons, List.cons.injEq, Prod.mk.injEq] at h
    obtain ⟨⟨h1, h2⟩, h3⟩ := h
    have hne : (k == p.1) = false := by
      have := hk p (by simp)
      simpa using fun e => this e.symm
    simp only [Instr.findNow, h1, Instr.sameNow, if_true, hne]
    rw [find_some E A B (i + 1) h3 (fun p hp => hk p (by simp [hp]))]
    simp; omega

section
variable {w : World} {m : Nat} {es : List (Int × Value)} {t kt et : TypeId}
theorem run_checkKey_int (w : World) (b : Bool) (kt : TypeId) (hk : P.underlying kt = some (.int .i64)) (k : Int) : (Instr.checkKey b 10000 kt (.int .i64 k)).run P w = .ok () w := by
  exact MapKept.run_checkKey (k := .int .i64 k) hk (by simp [MapKept.IsKey]) b 9999

theorem run_lookup_none (h : MapIs w m es) (ht : P.underlying t = some (.map kt et)) (hk : P.underlying kt = some (.int .i64)) {z : Value} (hz : (zeroValue et).run P w = .ok z w) (k : Int) (hn : ∀ p ∈ es, p.1 ≠ k) :
    (Instr.lookup t (.map (some m)) (.int .i64 k) true).run P w = .ok (.tuple #[z, .bool false]) w := by
  obtain ⟨E, ck, h1, h2⟩ := h
  have hf := find_none (q := .i64) E.toList es 0 h2 hn
  simp [Instr.lookup, run_underlying ht, Sem.run_bind, MapKept.run_getObj_map h1, run_checkKey_int w _ kt hk k, Instr.findKey, run_underlying hk, hf, hz]

theorem run_lookup_some {A B : List (Int × Value)} {v : Value} {k : Int} (h : MapIs w m (A ++ (k, v) :: B)) (ht : P.underlying t = some (.map kt et)) (hk : P.underlying kt = some (.int .i64)) (hn : ∀ p ∈ A, p.1 ≠ k) :
    (Instr.lookup t (.map (some m)) (.int .i64 k) true).run P w = .ok (.tuple #[v, .bool true]) w := by
  obtain ⟨E, ck, h1, h2⟩ := h
  have hf := find_some (q := .i64) E.toList A B 0 h2 hn
  simp [Instr.lookup, run_underlying ht, Sem.run_bind, MapKept.run_getObj_map h1, run_checkKey_int w _ kt hk k, Instr.findKey, run_underlying hk, hf]

theorem run_mapUpdate_new (h : MapIs w m es) (ht : P.underlying t = some (.map kt et)) (hk : P.underlying kt = some (.int .i64)) (k : Int) (v : Value) (hn : ∀ p ∈ es, p.1 ≠ k) :
    ∃ w', (Instr.mapUpdate t (.map (some m)) (.int .i64 k) v).run P w = .ok () w' ∧ MapIs w' m (es ++ [(k, v)]) ∧ Upd [m] w w' := by
  obtain ⟨E, ck, h1, h2⟩ := h
  have hf := find_none (q := .i64) E.toList es 0 h2 hn
  refine ⟨setBlock w m (.map (E.push { key := .int .i64 k, val := v, born := ck }) (ck + 1)), ?_, ⟨_, _, heap_setBlock_same h1 _, ?_⟩, ?_⟩
  · simp [Instr.mapUpdate, run_underlying ht, Sem.run_bind, MapKept.run_getObj_map h1, run_checkKey_int w _ kt hk k, Instr.findKey, run_underlying hk, hf, MapKept.run_setObj_map _ h1, setBlock]
  · simp [h2]
  · exact ⟨rfl, rfl, rfl, by simp [setBlock], fun x hx hF => heap_setBlock_other h1 _ (by simpa using hF)⟩

theorem run_delete_some {ty : TypeId} {A B : List (Int × Value)} {v : Value} {k : Int} (h : MapIs w m (A ++ (k, v) :: B)) (ht : P.underlying t = some (.map kt et)) (hk : P.underlying kt = some (.int .i64)) (hn : ∀ p ∈ A, p.1 ≠ k) :
    ∃ w', (Builtin.delete_ #[t, kt] ty #[.map (some m), .int .i64 k]).run P w = .ok (.tuple #[]) w' ∧ MapIs w' m (A ++ B) ∧ Upd [m] w w' := by
  obtain ⟨E, ck, h1, h2⟩ := h
  have hf := find_some (q := .i64) E.toList A B 0 h2 hn
  have hlen : A.length < E.size := by
    have := congrArg List.length h2
    simp at this; omega
  refine ⟨setBlock w m (.map (E.eraseIdxIfInBounds A.length) ck), ?_, ⟨_, _, heap_setBlock_same h1 _, ?_⟩, ?_⟩
  · simp [Builtin.delete_, run_underlying ht, Sem.run_bind, MapKept.run_getObj_map h1, run_checkKey_int w _ kt hk k, Instr.findKey, run_underlying hk, hf, MapKept.run_setObj_map _ h1, setBlock]
  · rw [Array.eraseIdxIfInBounds, dif_pos hlen]
    rw [Array.toList_eraseIdx, map_eraseIdx', h2, List.map_append, List.map_cons]
    have := eraseIdx_mid (A.map fun p => (Value.int .i64 p.1, p.2)) (Value.int .i64 k, v) (B.map fun p => (Value.int .i64 p.1, p.2))
    rw [List.length_map] at this
    rw [this, List.map_append]
  · exact ⟨rfl, rfl, rfl, by simp [setBlock], fun x hx hF => heap_setBlock_other h1 _ (by simpa using hF)⟩

theorem run_len_mapIs {ty : TypeId} (h : MapIs w m es) (ht : P.underlying t = some (.map kt et)) : (Builtin.len_ #[t] ty #[.map (some m)]).run P w = .ok (.int .i64 es.length) w := by
  obtain ⟨E, ck, h1, h2⟩ := h
  have hlen : E.size = es.length := by
    have := congrArg List.length h2
    simpa using this
  simp [Builtin.len_, run_underlying ht, Sem.run_bind, MapKept.run_getObj_map h1, hlen, goInt]
end

section
variable {ops : Array Oper} {rest : List Oper} {o : Oper} {a : Act} {w : World} {Q : Exit → Act → World → Prop} {K : Act → World → Prop} {m : Nat} {es : List (Int × Value)} {t kt et : TypeId}
/-- An operation whose run is known whole. -/
theorem wp_run {v : Value} {w' : World} (h : (execOp a.eval o).run P w = .ok (.value v) w') (hK : K (a.put o.dst v) w') : o.wp P a w K Q := by
  unfold Oper.wp
  simp only [h, Result.andThen_ok]
  exact hK
theorem wpList_run (hgd : o.guard = none) {v : Value} {w' : World} (h : (execOp a.eval o).run P w = .ok (.value v) w') (hK : wpList P ops Q rest (a.put o.dst v) w') : wpList P ops Q (o :: rest) a w :=
  wpList_plain hgd fun _ k => wp_run h (k _ _ hK)
/-- .. in a region that draws its order and only reads. -/
theorem quiet_run {C : World → Prop} {Q : Act → Prop} (hgd : o.guard = none) {v : Value} (h : ∀ w, C w → (execOp a.eval o).run P w = .ok (.value v) w) (hK : wpQuiet P ops C Q rest (a.put o.dst v)) : wpQuiet P ops C Q (o :: rest) a := by
  unfold wpQuiet
  rw [if_pos (by simp [Region.wanted, hgd])]
  exact ⟨v, fun w hw => by simp [Oper.quietAt, h w hw, Oper.quietUpon], hK⟩
end
theorem wrapIn {x : Int} (h1 : -9223372036854775808 ≤ x) (h2 : x ≤ 9223372036854775807) : IntKind.i64.wrap x = x := by
  rw [IntKind.wrap_i64]; omega
theorem MapIs.drewN {w : World} {m : Nat} {es : List (Int × Value)} (h : MapIs w m es) (n : Nat) : MapIs (w.drewN n) m es := h
end Go.Lb
/- Regions that only read and then do things in one order, with whole blocks read and built; over any program. -/
namespace Go.Lb
open Go Go.RowKit
variable {P : Program} {ops : Array Oper} {rest : List Oper} {o : Oper} {a : Act} {w : World}

theorem still_run {Q : Act → Prop} (hgd : o.guard = none) {v : Value} (h : (execOp a.eval o).run P w = .ok (.value v) w) (hK : wpStill P ops w Q rest (a.put o.dst v)) : wpStill P ops w Q (o :: rest) a := by
  unfold wpStill
  rw [if_pos (by simp [Region.wanted, hgd])]
  simp only [Oper.still, h, Oper.stillUpon_value]
  exact hK

theorem exec_load {ty : TypeId} {x : Operand} {p u : Value} (ho : o.op = .load ty x) (hx : a.eval x = p) (h : (Instr.loadAt ty p).run P w = .ok u w) : (execOp a.eval o).run P w = .ok (.value u) w := by
  unfold execOp
  simp only [ho, hx, Sem.run_bind, h, Result.andThen_ok, Sem.run_pure]

theorem exec_build {t : TypeId} {parts : Array (Nat × Operand)} {vs : Array (Nat × Value)} {u : Value} (ho : o.op = .build t parts) (hx : parts.map (fun (i, x) => (i, a.eval x)) = vs) (h : (Instr.build t vs).run P w = .ok u w) : (execOp a.eval o).run P w = .ok (.value u) w := by
  unfold execOp
  simp only [ho, Sem.run_bind, h, hx, Result.andThen_ok, Sem.run_pure]

theorem exec_buildSlice {t : TypeId} {n : Nat} {parts : Array (Nat × Operand)} {vs : Array (Nat × Value)} {u : Value} {w' : World} (ho : o.op = .buildSlice t n parts) (hx : parts.map (fun (i, x) => (i, a.eval x)) = vs) (h : (Instr.buildSlice t n vs).run P w = .ok u w') : (execOp a.eval o).run P w = .ok (.value u) w' := by
  unfold execOp
  simp only [ho, Sem.run_bind, h, hx, Result.andThen_ok, Sem.run_pure]

end Go.Lb
/- A region that draws its order, walked in one order: reads first under a condition on the world that all but the last operation keep, deeds in their forced order; over any program. -/
namespace Go.Lb
open Go Go.RowKit
variable {P : Program} {ops : Array Oper} {Q : Exit → Act → World → Prop} {md : Region.Mode} {S : World → Prop} {L : Nat}

/-- Whatever order is picked from here on, and S holds behind every operation but number L. -/
def wpAnyB (P : Program) (md : Region.Mode) (ops : Array Oper) (Q : Exit → Act → World → Prop) (S : World → Prop) (L : Nat) : Nat → Array Bool → Act → World → Prop
  | 0, listed, a, w => Region.ready md ops listed = [] ∧ Q .normal a w
  | fuel + 1, listed, a, w =>
    (Region.ready md ops listed = [] → Q .normal a w) ∧
    ∀ i ∈ Region.ready md ops listed, wpOp P ops Q i (fun a' w' => (i ≠ L → S w') ∧ wpAnyB P md ops Q S L fuel (listed.setIfInBounds i true) a' w') a w

theorem wpAny_of_but : ∀ (fuel : Nat) (listed : Array Bool) (a : Act) (w : World), wpAnyB P md ops Q S L fuel listed a w → wpAny P md ops Q fuel listed a w
  | 0, _, _, _, h => h
  | fuel + 1, _, _, _, h => ⟨h.1, fun i hi => wpOp_mono (fun a' w' h' => wpAny_of_but fuel _ a' w' h'.2) (h.2 i hi)⟩

theorem wpAnyB_first {i : Nat} {oi : Oper} {v : Value} (hi : ops[i]? = some oi) (hsel : ∀ (j : Nat) (o : Oper) cs b, ops[j]? = some o → o.op ≠ .select cs b)
    (hQ : ∀ c a w, Q (.panic c) (a.put oi.dst v) w → Q (.panic c) a w) (hL : ∀ oL, ops[L]? = some oL → ∃ e ∈ oL.after, Region.binds md e = true ∧ e.on = i) :
    ∀ (fuel : Nat) (listed : Array Bool) (a : Act) (w : World),
      (∀ j oj, ops[j]? = some oj → j ≠ i → listed.getD j true = false → (∀ e ∈ oj.after, Region.binds md e = true → e.on ≠ i) → oi.apart ops oj = true) →
      i ∈ Region.ready md ops listed → YieldsIf P ops S oi v a → S w →
      wpAnyB P md ops Q S L fuel (listed.setIfInBounds i true) (a.put oi.dst v) w → wpAnyB P md ops Q S L (fuel + 1) listed a w := by
  intro fuel
  induction fuel with
  | zero =>
    intro listed a w _ hr hy hS H
    refine ⟨fun h => (by rw [h] at hr; cases hr), fun j hj => ?_⟩
    by_cases hji : j = i
    · subst hji; exact hy.wpOp hi hS ⟨fun _ => hS, H⟩
    · have := ready_mono hj hji
      rw [H.1] at this
      cases this
  | succ fuel ih =>
    intro listed a w hfree hr hy hS H
    refine ⟨fun h => (by rw [h] at hr; cases hr), fun j hj => ?_⟩
    by_cases hji : j = i
    · subst hji; exact hy.wpOp hi hS ⟨fun _ => hS, H⟩
    · have h1 := H.2 j (ready_mono hj hji)
      obtain ⟨hjun, oj, hoj, hall⟩ := mem_ready.1 hj
      have hnot : ∀ e ∈ oj.after, Region.binds md e = true → e.on ≠ i := fun e he hb heq => by
        have h1 := hall e he hb
        have h0 := (mem_ready.1 hr).1
        rw [heq] at h1
        rcases Nat.lt_or_ge i listed.size with h' | h'
        · simp [h'] at h0 h1; rw [h0] at h1; cases h1
        · simp [Array.getElem?_eq_none h'] at h1
      have hjL : j ≠ L := by
        rintro rfl
        obtain ⟨e, he, hb, h3⟩ := hL oj hoj
        exact hnot e he hb h3
      have h2 := wpOp_putIf hoj (hfree j oj hoj hji hjun hnot) (fun cs b => hsel i oi cs b hi) (fun cs b => hsel j oj cs b hoj) hQ hy h1
      have hfree' : ∀ k ok, ops[k]? = some ok → k ≠ i → (listed.setIfInBounds j true).getD k true = false →
          (∀ e ∈ ok.after, Region.binds md e = true → e.on ≠ i) → oi.apart ops ok = true := fun k ok hk hki hun hno => by
        refine hfree k ok hk hki ?_ hno
        by_cases hjk : j = k
        · subst hjk; exact hjun
        · rw [getD_set_ne true hjk] at hun; exact hun
      refine wpOp_mono (fun a' w' h3 => ⟨h3.2.1, ih (listed.setIfInBounds j true) a' w' hfree' (ready_mono hr (Ne.symm hji)) h3.1 (h3.2.1 hjL) ?_⟩) h2
      rw [Array.setIfInBounds_comm _ _ hji]
      exact h3.2.2

/-- The order may be walked: what is read comes early and the last deed waits for it; a deed comes alone. -/
def lexOK (md : Region.Mode) (ops : Array Oper) (L : Nat) : List (Nat × Bool) → Array Bool → Bool
  | [], listed => (Region.ready md ops listed).isEmpty
  | (i, true) :: r, listed => Region.free md ops listed i && (Region.ready md ops listed).contains i && (match ops[L]? with | some o => o.after.any fun e => Region.binds md e && e.on == i | none => true) && lexOK md ops L r (listed.setIfInBounds i true)
  | (i, false) :: r, listed => (Region.ready md ops listed == [i]) && lexOK md ops L r (listed.setIfInBounds i true)

/-- The walk in that order. -/
def wpLex (P : Program) (ops : Array Oper) (Q : Exit → Act → World → Prop) (S : World → Prop) (L : Nat) : List (Nat × Bool) → Act → World → Prop
  | [], a, w => Q .normal a w
  | (i, true) :: r, a, w => S w ∧ ∃ o v, ops[i]? = some o ∧ YieldsIf P ops S o v a ∧ wpLex P ops Q S L r (a.put o.dst v) w
  | (i, false) :: r, a, w => wpOp P ops Q i (fun a' w' => (i ≠ L → S w') ∧ wpLex P ops Q S L r a' w') a w

theorem wpAnyB_of_lex (hs : Region.noSelect ops = true) (hQ : ∀ c a d v w, Q (.panic c) (Act.put a d v) w → Q (.panic c) a w) : ∀ (l : List (Nat × Bool)) (listed : Array Bool) (a : Act) (w : World),
    lexOK md ops L l listed = true → wpLex P ops Q S L l a w → wpAnyB P md ops Q S L l.length listed a w
  | [], listed, a, w, h, hw => ⟨by simpa [lexOK] using h, hw⟩
  | (i, true) :: r, listed, a, w, h, hw => by
    simp only [lexOK, Bool.and_eq_true] at h
    obtain ⟨⟨⟨hf, hr⟩, hL⟩, h⟩ := h
    obtain ⟨hS, o, v, ho, hy, hw⟩ := hw
    refine wpAnyB_first ho (Region.noSelect_spec hs) (fun c a w => hQ c a _ _ w) (fun oL hoL => ?_) r.length listed a w (Region.free_spec ho hf) (by simpa using hr) hy hS (wpAnyB_of_lex hs hQ r _ _ _ h hw)
    simp only [hoL, Array.any_eq_true'] at hL
    obtain ⟨e, he, hb⟩ := hL
    simp only [Bool.and_eq_true, beq_iff_eq] at hb
    exact ⟨e, he, hb.1, hb.2⟩
  | (i, false) :: r, listed, a, w, h, hw => by
    simp only [lexOK, Bool.and_eq_true, beq_iff_eq] at h
    obtain ⟨hr, h⟩ := h
    refine ⟨fun h0 => absurd (hr ▸ h0) (by simp), fun j hj => ?_⟩
    rw [hr] at hj
    obtain rfl : j = i := by simpa using hj
    exact wpOp_mono (fun a' w' h' => ⟨h'.1, wpAnyB_of_lex hs hQ r _ a' w' h h'.2⟩) hw

/-- The same walk, the operations written beside their numbers. -/
def wpLexO (P : Program) (ops : Array Oper) (Q : Exit → Act → World → Prop) (S : World → Prop) (L : Nat) : List (Nat × Bool × Oper) → Act → World → Prop
  | [], a, w => Q .normal a w
  | (_, true, o) :: r, a, w => S w ∧ ∃ v, YieldsIf P ops S o v a ∧ wpLexO P ops Q S L r (a.put o.dst v) w
  | (i, false, o) :: r, a, w => if Region.wanted o (yielded ops a.tmps) then o.wp P a w (fun a' w' => (i ≠ L → S w') ∧ wpLexO P ops Q S L r a' w') Q else wpLexO P ops Q S L r (a.put o.dst undef) w ∧ (i ≠ L → S w)
def lexOps (l : List Oper) (order : List (Nat × Bool)) : List (Nat × Bool × Oper) := order.map fun x => (x.1, x.2, l.getD x.1 default)

theorem lex_of_ops {l0 : List Oper} : ∀ (l : List (Nat × Bool)) (a : Act) (w : World), (∀ x ∈ l, x.1 < l0.length) → wpLexO P l0.toArray Q S L (lexOps l0 l) a w → wpLex P l0.toArray Q S L l a w
  | [], a, w, _, h => h
  | (i, true) :: r, a, w, hl, h => by
    obtain ⟨h1, v, h2, h3⟩ := h
    have hi : i < l0.length := hl (i, true) (by simp)
    have e : l0.getD i default = l0[i] := by simp [List.getD, hi]
    refine ⟨h1, l0.getD i default, v, ?_, h2, lex_of_ops r _ _ (fun x hx => hl x (by simp [hx])) h3⟩
    rw [e]; simp [hi]
  | (i, false) :: r, a, w, hl, h => by
    have hi : i < l0.length := hl (i, false) (by simp)
    have e : l0.getD i default = l0[i] := by simp [List.getD, hi]
    have ho : l0.toArray[i]? = some (l0.getD i default) := by rw [e]; simp [hi]
    simp only [lexOps, List.map_cons, wpLexO] at h
    unfold wpLex wpOp
    simp only [ho]
    split at h
    · rename_i hw
      rw [if_pos hw]
      exact .inl (Oper.wp_mono (fun a' w' h' => ⟨h'.1, lex_of_ops r _ _ (fun x hx => hl x (by simp [hx])) h'.2⟩) h)
    · rename_i hw
      rw [if_neg hw]
      exact ⟨h.2, lex_of_ops r _ _ (fun x hx => hl x (by simp [hx])) h.1⟩

theorem wp_region_lex {l0 : List Oper} (S : World → Prop) (L : Nat) (l : List (Nat × Bool)) {id : Nat} {a : Act} {w : World} (hm : P.follows .mixedOrders = true) (hs : Region.noSelect l0.toArray = true) (hl : (l.length == l0.length && l.all fun x => decide (x.1 < l0.length)) = true) (hB : lexOK .any l0.toArray L l (Array.replicate l0.length false) = true)
    (hQ : ∀ c a d v w, Q (.panic c) (Act.put a d v) w → Q (.panic c) a w) (h : wpLexO P l0.toArray Q S L (lexOps l0 l) a w.drew) : (Code.region id l0.toArray true).wp P Q a w := by
  simp only [Bool.and_eq_true, beq_iff_eq, List.all_eq_true, decide_eq_true_eq] at hl
  refine wp_region_any hm (wpAny_of_but (S := S) (L := L) _ _ _ _ ?_)
  have := wpAnyB_of_lex (md := .any) (Q := Q) hs hQ l _ a w.drew hB (lex_of_ops l _ _ hl.2 h)
  rwa [hl.1] at this

section
variable {r : List (Nat × Bool × Oper)} {a : Act} {w : World} {i : Nat} {o : Oper}
/-- What is read. -/
theorem lex_read (hgd : o.guard = none) (hS : S w) {v : Value} (h : ∀ w, S w → (execOp a.eval o).run P w = .ok (.value v) w) (hK : wpLexO P ops Q S L r (a.put o.dst v) w) : wpLexO P ops Q S L ((i, true, o) :: r) a w :=
  ⟨hS, v, .inl ⟨by simp [Region.wanted, hgd], h⟩, hK⟩
/-- What is done. -/
theorem lex_do (hgd : o.guard = none) (h : ∀ K : Act → World → Prop, (∀ a' w', (i ≠ L → S w') → wpLexO P ops Q S L r a' w' → K a' w') → o.wp P a w K Q) : wpLexO P ops Q S L ((i, false, o) :: r) a w := by
  unfold wpLexO
  rw [if_pos (by simp [Region.wanted, hgd])]
  exact h _ fun a' w' h1 h2 => ⟨h1, h2⟩
theorem lex_nil (h : Q .normal a w) : wpLexO P ops Q S L [] a w := h
theorem lex_run (hgd : o.guard = none) {v : Value} {w' : World} (h : (execOp a.eval o).run P w = .ok (.value v) w') (hS : i ≠ L → S w') (hK : wpLexO P ops Q S L r (a.put o.dst v) w') : wpLexO P ops Q S L ((i, false, o) :: r) a w :=
  lex_do hgd fun K k => wp_run h (k _ _ hS hK)
end
end Go.Lb
/- Records by their shape, in plain terms: what is written is read, and has one form; what writing and reading do with a mark of failure. No program. No condition. -/
namespace Go.Rc
def zig (n : Int) : Nat := if 0 ≤ n then (2 * n).toNat else (-2 * n - 1).toNat
def zag (u : Nat) : Int := if u % 2 = 1 then -((u : Int) + 1) / 2 else (u : Int) / 2
theorem zag_zig (n : Int) : zag (zig n) = n := by
  unfold zag zig
  by_cases h : 0 ≤ n
  · rw [if_pos h, if_neg (by omega)]; omega
  · rw [if_neg h, if_pos (by omega)]; omega
theorem zig_zag (u : Nat) : zig (zag u) = u := by
  unfold zag
  rcases Nat.mod_two_eq_zero_or_one u with h | h
  · rw [if_neg (by omega)]; unfold zig; rw [if_pos (by omega)]; omega
  · rw [if_pos h]; unfold zig; rw [if_neg (by omega)]; omega
def vput (u : Nat) : List Nat := if u < 128 then [u] else (128 + u % 128) :: vput (u / 128)
/-- Reads at most k bytes: the number and what is left. -/
def vget : Nat → List Nat → Option (Nat × List Nat)
  | 0, _ => none
  | _ + 1, [] => none
  | k + 1, c :: l => if c < 128 then some (c, l) else match vget k l with
    | none => none
    | some (u, r) => if u = 0 then none else some (c % 128 + 128 * u, r)
theorem vget_zero : ∀ (k : Nat) (l : List Nat) (u : Nat) (r : List Nat), vget k l = some (u, r) → (∀ b ∈ l, b < 256) → l = vput u ++ r
  | 0, _, _, _, h, _ => by simp [vget] at h
  | _ + 1, [], _, _, h, _ => by simp [vget] at h
  | k + 1, c :: l, u, r, h, hl => by
    unfold vget at h
    by_cases hc : c < 128
    · rw [if_pos hc] at h
      simp only [Option.some.injEq, Prod.mk.injEq] at h
      obtain ⟨rfl, rfl⟩ := h
      unfold vput
      rw [if_pos hc]; rfl
    · rw [if_neg hc] at h
      cases hv : vget k l with
      | none => rw [hv] at h; simp at h
      | some p =>
        obtain ⟨u', r'⟩ := p
        rw [hv] at h
        dsimp only at h
        by_cases h0 : u' = 0
        · rw [if_pos h0] at h; simp at h
        · rw [if_neg h0] at h
          simp only [Option.some.injEq, Prod.mk.injEq] at h
          obtain ⟨rfl, rfl⟩ := h
          have ih := vget_zero k l u' r' hv (fun b hb => hl b (by simp [hb]))
          have hc2 := hl c (by simp)
          unfold vput
          rw [if_neg (by omega), ih, show 128 + (c % 128 + 128 * u') % 128 = c by omega, show (c % 128 + 128 * u') / 128 = u' by omega]
          rfl
theorem vput_get : ∀ (k u : Nat) (r : List Nat), u < 128 ^ k → 0 < k → vget k (vput u ++ r) = some (u, r)
  | 0, _, _, _, h => by omega
  | k + 1, u, r, h, _ => by
    unfold vput
    by_cases hu : u < 128
    · rw [if_pos hu]
      simp [vget, hu]
    · rw [if_neg hu]
      have hk : 0 < k := by
        rcases Nat.eq_zero_or_pos k with rfl | hk
        · simp at h; omega
        · exact hk
      have hd : u / 128 < 128 ^ k := by rw [Nat.pow_succ] at h; omega
      rw [List.cons_append, vget, if_neg (by omega), vput_get k (u / 128) r hd hk]
      dsimp only
      rw [if_neg (by omega)]
      congr 2
      omega
theorem vput_len : ∀ (k u : Nat), u < 128 ^ k → 0 < k → (vput u).length ≤ k
  | 0, _, _, h => by omega
  | k + 1, u, h, _ => by
    unfold vput
    by_cases hu : u < 128
    · rw [if_pos hu]; simp
    · rw [if_neg hu]
      have hk : 0 < k := by
        rcases Nat.eq_zero_or_pos k with rfl | hk
        · simp at h; omega
        · exact hk
      have hd : u / 128 < 128 ^ k := by rw [Nat.pow_succ] at h; omega
      have := vput_len k (u / 128) hd hk
      simp; omega
theorem vput_byte : ∀ (u : Nat), ∀ b ∈ vput u, b < 256 := by
  intro u
  induction u using Nat.strongRecOn with
  | _ u ih =>
    intro b hb
    unfold vput at hb
    by_cases hu : u < 128
    · rw [if_pos hu] at hb; simp at hb; omega
    · rw [if_neg hu] at hb
      rcases List.mem_cons.1 hb with rfl | h
      · omega
      · exact ih (u / 128) (by omega) b h
def maxN : Int := 1099511627776
theorem zig_lt {n : Int} (h : -maxN ≤ n) (h2 : n ≤ maxN) : zig n < 128 ^ 6 := by
  unfold zig maxN at *
  have : (128 : Nat) ^ 6 = 4398046511104 := by decide
  split <;> omega
end Go.Rc
namespace Go.Rc
/-- A record's shape. -/
inductive Sch
  | nil
  | num
  | flag
  | raw
  | list (s : Sch)
  | pair (a b : Sch)
/-- A record. -/
inductive Val
  | unit
  | num (n : Int)
  | flag (b : Bool)
  | raw (l : List Nat)
  | list (l : List Val)
  | pair (x y : Val)
def nput (n : Int) : List Nat := vput (zig n)
def nget (l : List Nat) : Option (Int × List Nat) := match vget 6 l with
  | none => none
  | some (u, r) => if -maxN ≤ zag u ∧ zag u ≤ maxN then some (zag u, r) else none
theorem nget_put {n : Int} (r : List Nat) (h : -maxN ≤ n ∧ n ≤ maxN) : nget (nput n ++ r) = some (n, r) := by
  unfold nget nput
  rw [vput_get 6 _ r (zig_lt h.1 h.2) (by decide)]
  simp only [zag_zig, h, and_self, if_true]
theorem nget_one {l r : List Nat} {n : Int} (h : nget l = some (n, r)) (hl : ∀ b ∈ l, b < 256) : l = nput n ++ r ∧ -maxN ≤ n ∧ n ≤ maxN := by
  unfold nget at h
  cases hv : vget 6 l with
  | none => rw [hv] at h; simp at h
  | some p =>
    obtain ⟨u, r'⟩ := p
    rw [hv] at h
    dsimp only at h
    split at h
    · rename_i hb
      simp only [Option.some.injEq, Prod.mk.injEq] at h
      obtain ⟨rfl, rfl⟩ := h
      exact ⟨by rw [nput, zig_zag]; exact vget_zero 6 l u r' hv hl, hb⟩
    · simp at h
/-- Has it the shape, and may it be written? -/
def Sch.good : Sch → Val → Prop
  | .nil, .unit => True
  | .num, .num n => -maxN ≤ n ∧ n ≤ maxN
  | .flag, .flag _ => True
  | .raw, .raw l => l.length ≤ 65536 ∧ ∀ b ∈ l, b < 256
  | .list s, .list l => l.length ≤ 64 ∧ ∀ x ∈ l, s.good x
  | .pair a b, .pair x y => a.good x ∧ b.good y
  | _, _ => False
def Sch.put : Sch → Val → List Nat
  | .num, .num n => nput n
  | .flag, .flag b => nput (if b then 1 else 0)
  | .raw, .raw l => nput (l.length : Int) ++ l
  | .list s, .list l => nput (l.length : Int) ++ l.flatMap s.put
  | .pair a b, .pair x y => a.put x ++ b.put y
  | _, _ => []
/-- So many, one behind the other. -/
def many {α : Type} (g : List Nat → Option (α × List Nat)) : Nat → List Nat → Option (List α × List Nat)
  | 0, l => some ([], l)
  | k + 1, l => match g l with
    | none => none
    | some (x, r) => match many g k r with
      | none => none
      | some (xs, r2) => some (x :: xs, r2)
def Sch.get : Sch → List Nat → Option (Val × List Nat)
  | .nil, l => some (.unit, l)
  | .num, l => match nget l with
    | none => none
    | some (n, r) => some (.num n, r)
  | .flag, l => match nget l with
    | none => none
    | some (n, r) => if n = 0 then some (.flag false, r) else if n = 1 then some (.flag true, r) else none
  | .raw, l => match nget l with
    | none => none
    | some (n, r) => if 0 ≤ n ∧ n ≤ 65536 ∧ n.toNat ≤ r.length then some (.raw (r.take n.toNat), r.drop n.toNat) else none
  | .list s, l => match nget l with
    | none => none
    | some (n, r) => if 0 ≤ n ∧ n ≤ 64 then (match many s.get n.toNat r with
      | none => none
      | some (xs, r2) => some (.list xs, r2)) else none
  | .pair a b, l => match a.get l with
    | none => none
    | some (x, r) => match b.get r with
      | none => none
      | some (y, r2) => some (.pair x y, r2)
theorem many_put {α : Type} {g : List Nat → Option (α × List Nat)} {p : α → List Nat} : ∀ (xs : List α) (r : List Nat), (∀ x ∈ xs, ∀ r, g (p x ++ r) = some (x, r)) → many g xs.length (xs.flatMap p ++ r) = some (xs, r)
  | [], r, _ => rfl
  | x :: xs, r, h => by
    rw [List.length_cons, List.flatMap_cons, List.append_assoc, many, h x (by simp)]
    dsimp only
    rw [many_put xs r (fun y hy => h y (by simp [hy]))]
theorem Sch.get_put : ∀ (s : Sch) (v : Val) (r : List Nat), s.good v → s.get (s.put v ++ r) = some (v, r)
  | .nil, v, _, h => by cases v <;> first | rfl | exact absurd h (by simp [Sch.good])
  | .num, v, r, h => by
    cases v with
    | num n =>
      simp only [Sch.put, Sch.get, nget_put r h]
    | _ => exact absurd h (by simp [Sch.good])
  | .flag, v, r, h => by
    cases v with
    | flag b =>
      simp only [Sch.put, Sch.get]
      rw [nget_put r (by unfold maxN; split <;> omega)]
      cases b <;> rfl
    | _ => exact absurd h (by simp [Sch.good])
  | .raw, v, r, h => by
    cases v with
    | raw l =>
      have h1 : l.length ≤ 65536 := h.1
      simp only [Sch.put, Sch.get, List.append_assoc]
      rw [nget_put _ (by unfold maxN; omega)]
      dsimp only
      rw [if_pos ⟨by omega, by omega, by simp⟩]
      simp
    | _ => exact absurd h (by simp [Sch.good])
  | .list s, v, r, h => by
    cases v with
    | list l =>
      have h1 : l.length ≤ 64 := h.1
      simp only [Sch.put, Sch.get, List.append_assoc]
      rw [nget_put _ (by unfold maxN; omega)]
      dsimp only
      rw [if_pos ⟨by omega, by omega⟩, Int.toNat_natCast, many_put l r (fun x hx r => Sch.get_put s x r (h.2 x hx))]
    | _ => exact absurd h (by simp [Sch.good])
  | .pair a b, v, r, h => by
    cases v with
    | pair x y =>
      simp only [Sch.put, Sch.get, List.append_assoc]
      rw [Sch.get_put a x _ h.1]
      dsimp only
      rw [Sch.get_put b y r h.2]
    | _ => exact absurd h (by simp [Sch.good])
theorem many_one {α : Type} {g : List Nat → Option (α × List Nat)} {p : α → List Nat} {P : α → Prop} (h : ∀ l x r, g l = some (x, r) → (∀ b ∈ l, b < 256) → l = p x ++ r ∧ P x) : ∀ (k : Nat) (l : List Nat) (xs : List α) (r : List Nat), many g k l = some (xs, r) → (∀ b ∈ l, b < 256) → l = xs.flatMap p ++ r ∧ xs.length = k ∧ ∀ x ∈ xs, P x
  | 0, l, xs, r, hm, _ => by
    simp only [many, Option.some.injEq, Prod.mk.injEq] at hm
    obtain ⟨rfl, rfl⟩ := hm
    simp
  | k + 1, l, xs, r, hm, hl => by
    unfold many at hm
    cases hg : g l with
    | none => rw [hg] at hm; simp at hm
    | some q =>
      obtain ⟨x, r1⟩ := q
      rw [hg] at hm
      dsimp only at hm
      cases hk : many g k r1 with
      | none => rw [hk] at hm; simp at hm
      | some q2 =>
        obtain ⟨xs', r2⟩ := q2
        rw [hk] at hm
        simp only [Option.some.injEq, Prod.mk.injEq] at hm
        obtain ⟨rfl, rfl⟩ := hm
        obtain ⟨e1, hp⟩ := h l x r1 hg hl
        obtain ⟨e2, hlen, hall⟩ := many_one h k r1 xs' r2 hk (fun b hb => hl b (by rw [e1]; simp [hb]))
        refine ⟨by rw [e1, e2]; simp, by simp [hlen], fun y hy => ?_⟩
        rcases List.mem_cons.1 hy with rfl | hy
        · exact hp
        · exact hall y hy
theorem Sch.get_one : ∀ (s : Sch) (l : List Nat) (v : Val) (r : List Nat), s.get l = some (v, r) → (∀ b ∈ l, b < 256) → l = s.put v ++ r ∧ s.good v
  | .nil, l, v, r, h, _ => by
    simp only [Sch.get, Option.some.injEq, Prod.mk.injEq] at h
    obtain ⟨rfl, rfl⟩ := h
    exact ⟨rfl, trivial⟩
  | .num, l, v, r, h, hl => by
    unfold Sch.get at h
    cases hn : nget l with
    | none => rw [hn] at h; simp at h
    | some q =>
      obtain ⟨n, r1⟩ := q
      rw [hn] at h
      simp only [Option.some.injEq, Prod.mk.injEq] at h
      obtain ⟨rfl, rfl⟩ := h
      exact nget_one hn hl
  | .flag, l, v, r, h, hl => by
    unfold Sch.get at h
    cases hn : nget l with
    | none => rw [hn] at h; simp at h
    | some q =>
      obtain ⟨n, r1⟩ := q
      rw [hn] at h
      dsimp only at h
      have h1 := (nget_one hn hl).1
      by_cases h0 : n = 0
      · rw [if_pos h0] at h
        simp only [Option.some.injEq, Prod.mk.injEq] at h
        obtain ⟨rfl, rfl⟩ := h
        subst h0
        exact ⟨h1, trivial⟩
      · rw [if_neg h0] at h
        by_cases h2 : n = 1
        · rw [if_pos h2] at h
          simp only [Option.some.injEq, Prod.mk.injEq] at h
          obtain ⟨rfl, rfl⟩ := h
          subst h2
          exact ⟨h1, trivial⟩
        · rw [if_neg h2] at h; simp at h
  | .raw, l, v, r, h, hl => by
    unfold Sch.get at h
    cases hn : nget l with
    | none => rw [hn] at h; simp at h
    | some q =>
      obtain ⟨n, r1⟩ := q
      rw [hn] at h
      dsimp only at h
      obtain ⟨h1, _⟩ := nget_one hn hl
      by_cases hb : 0 ≤ n ∧ n ≤ 65536 ∧ n.toNat ≤ r1.length
      · rw [if_pos hb] at h
        simp only [Option.some.injEq, Prod.mk.injEq] at h
        obtain ⟨rfl, rfl⟩ := h
        have hlen : (r1.take n.toNat).length = n.toNat := by rw [List.length_take]; omega
        refine ⟨?_, ?_, ?_⟩
        · simp only [Sch.put]
          rw [hlen, Int.toNat_of_nonneg hb.1, List.append_assoc, List.take_append_drop]; exact h1
        · rw [hlen]; omega
        · intro b hb'
          exact hl b (by rw [h1]; exact List.mem_append.2 (.inr (List.mem_of_mem_take hb')))
      · rw [if_neg hb] at h; simp at h
  | .list s, l, v, r, h, hl => by
    unfold Sch.get at h
    cases hn : nget l with
    | none => rw [hn] at h; simp at h
    | some q =>
      obtain ⟨n, r1⟩ := q
      rw [hn] at h
      dsimp only at h
      obtain ⟨h1, _⟩ := nget_one hn hl
      by_cases hb : 0 ≤ n ∧ n ≤ 64
      · rw [if_pos hb] at h
        cases hm : many s.get n.toNat r1 with
        | none => rw [hm] at h; simp at h
        | some q2 =>
          obtain ⟨xs, r2⟩ := q2
          rw [hm] at h
          simp only [Option.some.injEq, Prod.mk.injEq] at h
          obtain ⟨rfl, rfl⟩ := h
          obtain ⟨e, hlen, hall⟩ := many_one (p := s.put) (P := s.good) (fun l x r => Sch.get_one s l x r) n.toNat r1 xs r2 hm (fun b hb => hl b (by rw [h1]; simp [hb]))
          refine ⟨?_, ?_, hall⟩
          · simp only [Sch.put]
            rw [hlen, Int.toNat_of_nonneg hb.1, List.append_assoc, ← e]; exact h1
          · rw [hlen]; omega
      · rw [if_neg hb] at h; simp at h
  | .pair a b, l, v, r, h, hl => by
    unfold Sch.get at h
    cases ha : a.get l with
    | none => rw [ha] at h; simp at h
    | some q =>
      obtain ⟨x', r1⟩ := q
      rw [ha] at h
      dsimp only at h
      cases hb : b.get r1 with
      | none => rw [hb] at h; simp at h
      | some q2 =>
        obtain ⟨y', r2⟩ := q2
        rw [hb] at h
        simp only [Option.some.injEq, Prod.mk.injEq] at h
        obtain ⟨rfl, rfl⟩ := h
        obtain ⟨e1, g1⟩ := Sch.get_one a l x' r1 ha hl
        obtain ⟨e2, g2⟩ := Sch.get_one b r1 y' r2 hb (fun c hc => hl c (by rw [e1]; simp [hc]))
        refine ⟨?_, g1, g2⟩
        simp only [Sch.put]
        rw [List.append_assoc, ← e2]; exact e1
/-- One form: of a record's bytes neither more nor fewer are a record. -/
theorem Sch.whole {s : Sch} {l : List Nat} {v : Val} (h : s.get l = some (v, [])) (hl : ∀ b ∈ l, b < 256) (m : List Nat) : s.get (l ++ m) = some (v, m) := by
  obtain ⟨e, g⟩ := Sch.get_one s l v [] h hl
  rw [List.append_nil] at e
  rw [e]; exact Sch.get_put s v m g
/-- How many cells it has in memory. -/
def Sch.size : Sch → Nat
  | .nil => 0
  | .num => 1
  | .flag => 1
  | .raw => 1
  | .list _ => 1
  | .pair a b => a.size + b.size
/-- So many bytes are at most written. -/
def Sch.wmax : Sch → Val → Nat
  | .num, _ => 6
  | .flag, _ => 6
  | .raw, .raw l => 6 + l.length
  | .list s, .list l => 6 + (l.map s.wmax).sum
  | .pair a b, .pair x y => a.wmax x + b.wmax y
  | _, _ => 0
/-- So many bytes a record has at most that may be written. -/
def Sch.most : Sch → Nat
  | .nil => 0
  | .num => 6
  | .flag => 6
  | .raw => 65542
  | .list s => 6 + 64 * s.most
  | .pair a b => a.most + b.most
/-- Nothing. -/
def Sch.zero : Sch → Val
  | .nil => .unit
  | .num => .num 0
  | .flag => .flag false
  | .raw => .raw []
  | .list _ => .list []
  | .pair a b => .pair a.zero b.zero
theorem sum_le_mul {l : List Nat} {m : Nat} (h : ∀ x ∈ l, x ≤ m) : l.sum ≤ l.length * m := by
  induction l with
  | nil => simp
  | cons x l ih =>
    have h1 := h x (by simp)
    have h2 := ih fun y hy => h y (by simp [hy])
    simp only [List.sum_cons, List.length_cons]
    rw [Nat.add_mul]; omega
theorem Sch.wmax_le : ∀ (s : Sch) (v : Val), s.good v → s.wmax v ≤ s.most
  | .nil, v, _ => by cases v <;> simp [Sch.wmax]
  | .num, v, _ => by cases v <;> simp [Sch.wmax, Sch.most]
  | .flag, v, _ => by cases v <;> simp [Sch.wmax, Sch.most]
  | .raw, v, h => by
    cases v with
    | raw l => have h1 : l.length ≤ 65536 := h.1; simp only [Sch.wmax, Sch.most]; omega
    | _ => exact absurd h (by simp [Sch.good])
  | .list s, v, h => by
    cases v with
    | list l =>
      have h1 : l.length ≤ 64 := h.1
      have h2 := sum_le_mul (l := l.map s.wmax) (m := s.most) (by
        intro x hx
        obtain ⟨y, hy, rfl⟩ := List.mem_map.1 hx
        exact Sch.wmax_le s y (h.2 y hy))
      rw [List.length_map] at h2
      have h3 : l.length * s.most ≤ 64 * s.most := Nat.mul_le_mul_right _ h1
      simp only [Sch.wmax, Sch.most]; omega
    | _ => exact absurd h (by simp [Sch.good])
  | .pair a b, v, h => by
    cases v with
    | pair x y =>
      have h1 := Sch.wmax_le a x h.1
      have h2 := Sch.wmax_le b y h.2
      simp only [Sch.wmax, Sch.most]; omega
    | _ => exact absurd h (by simp [Sch.good])
theorem Sch.good_zero : ∀ s : Sch, s.good s.zero
  | .nil => trivial
  | .num => by simp [Sch.good, Sch.zero, maxN]
  | .flag => trivial
  | .raw => by simp [Sch.good, Sch.zero]
  | .list s => by simp [Sch.good, Sch.zero]
  | .pair a b => ⟨Sch.good_zero a, Sch.good_zero b⟩
theorem nput_byte (n : Int) : ∀ b ∈ nput n, b < 256 := vput_byte _
theorem Sch.put_byte : ∀ (s : Sch) (v : Val), s.good v → ∀ b ∈ s.put v, b < 256
  | .nil, v, h => by cases v <;> simp [Sch.put]
  | .num, v, h => by cases v <;> simp only [Sch.put, List.not_mem_nil, false_implies, implies_true]; exact nput_byte _
  | .flag, v, h => by cases v <;> simp only [Sch.put, List.not_mem_nil, false_implies, implies_true]; exact nput_byte _
  | .raw, v, h => by
    cases v with
    | raw l =>
      intro b hb
      simp only [Sch.put, List.mem_append] at hb
      rcases hb with hb | hb
      · exact nput_byte _ b hb
      · exact h.2 b hb
    | _ => exact absurd h (by simp [Sch.good])
  | .list s, v, h => by
    cases v with
    | list l =>
      intro b hb
      simp only [Sch.put, List.mem_append, List.mem_flatMap] at hb
      rcases hb with hb | ⟨x, hx, hb⟩
      · exact nput_byte _ b hb
      · exact Sch.put_byte s x (h.2 x hx) b hb
    | _ => exact absurd h (by simp [Sch.good])
  | .pair a b, v, h => by
    cases v with
    | pair x y =>
      intro c hc
      simp only [Sch.put, List.mem_append] at hc
      rcases hc with hc | hc
      · exact Sch.put_byte a x h.1 c hc
      · exact Sch.put_byte b y h.2 c hc
    | _ => exact absurd h (by simp [Sch.good])
theorem nput_len {n : Int} (h : -maxN ≤ n ∧ n ≤ maxN) : (nput n).length ≤ 6 := vput_len 6 _ (zig_lt h.1 h.2) (by decide)

/-- Fields one behind the other. -/
def tup : List Sch → Sch
  | [] => .nil
  | s :: l => .pair s (tup l)
def vtup : List Val → Val
  | [] => .unit
  | x :: l => .pair x (vtup l)

/-- What a thing's writing makes of the bytes, and of the mark that something may not be written. -/
structure WOk (good : Prop) (put : List Nat) (most : Nat) (o : List Nat) (b : Bool) (o' : List Nat) (b' : Bool) : Prop where
  bad : b' = false ↔ b = false ∧ good
  out : b' = false → o' = o ++ put
  len : o'.length ≤ o.length + most
theorem WOk.seq {g1 g2 : Prop} {p1 p2 : List Nat} {m1 m2 : Nat} {o o1 o2 : List Nat} {b b1 b2 : Bool} (h : WOk g1 p1 m1 o b o1 b1) (k : WOk g2 p2 m2 o1 b1 o2 b2) : WOk (g1 ∧ g2) (p1 ++ p2) (m1 + m2) o b o2 b2 :=
  ⟨by rw [k.bad, h.bad]; exact and_assoc, fun e => by rw [k.out e, h.out (k.bad.1 e).1, List.append_assoc], by have := h.len; have := k.len; omega⟩
theorem WOk.nil (o : List Nat) (b : Bool) : WOk True [] 0 o b o b := ⟨by simp, fun _ => by simp, by omega⟩
theorem WOk.cast {g g' : Prop} {p p' : List Nat} {m m' : Nat} {o o' : List Nat} {b b' : Bool} (h : WOk g p m o b o' b') (hg : g ↔ g') (hp : g → p = p') (hm : m ≤ m') : WOk g' p' m' o b o' b' :=
  ⟨by rw [h.bad, hg], fun e => by rw [h.out e, hp (h.bad.1 e).2], by have := h.len; omega⟩
/-- A record is written. -/
abbrev Sch.Wr (s : Sch) (v : Val) (o : List Nat) (b : Bool) (o' : List Nat) (b' : Bool) : Prop := WOk (s.good v) (s.put v) (s.wmax v) o b o' b'
theorem Sch.Wr.pair {s t : Sch} {x y : Val} {o o1 o2 : List Nat} {b b1 b2 : Bool} (h : s.Wr x o b o1 b1) (k : t.Wr y o1 b1 o2 b2) : (Sch.pair s t).Wr (.pair x y) o b o2 b2 :=
  WOk.cast (WOk.seq h k) Iff.rfl (fun _ => rfl) (Nat.le_refl _)
theorem Sch.Wr.nil (o : List Nat) (b : Bool) : Sch.nil.Wr .unit o b o b := WOk.nil o b

/-- What a thing's reading makes of the bytes: what is read, what is left; is something wrong? -/
structure ROk {α : Type} (get : List Nat → Option (α × List Nat)) (l : List Nat) (b : Bool) (x : α) (l' : List Nat) (b' : Bool) : Prop where
  good : b' = false → b = false ∧ get l = some (x, l')
  bad : b' = true → b = true ∨ get l = none
abbrev Sch.Rd (s : Sch) (l : List Nat) (b : Bool) (v : Val) (l' : List Nat) (b' : Bool) : Prop := ROk s.get l b v l' b'
theorem Sch.Rd.pair {s t : Sch} {x y : Val} {l l1 l2 : List Nat} {b b1 b2 : Bool} (h : s.Rd l b x l1 b1) (k : t.Rd l1 b1 y l2 b2) : (Sch.pair s t).Rd l b (.pair x y) l2 b2 := by
  constructor
  · intro e
    obtain ⟨e1, g2⟩ := k.good e
    obtain ⟨e0, g1⟩ := h.good e1
    exact ⟨e0, by simp only [Sch.get, g1, g2]⟩
  · intro e
    by_cases hb : b1 = true
    · rcases h.bad hb with h1 | h1
      · exact .inl h1
      · exact .inr (by simp only [Sch.get, h1])
    · rw [Bool.not_eq_true] at hb
      rcases k.bad e with h1 | h1
      · rw [hb] at h1; cases h1
      · obtain ⟨e0, g1⟩ := h.good hb
        exact .inr (by simp only [Sch.get, g1, h1])
theorem Sch.Rd.nil (l : List Nat) (b : Bool) : Sch.nil.Rd l b .unit l b := ⟨fun e => ⟨e, rfl⟩, .inl⟩
/-- Several, one behind the other. -/
theorem many_snoc {α : Type} (g : List Nat → Option (α × List Nat)) : ∀ (k : Nat) (l : List Nat) (xs : List α) (r : List Nat), many g k l = some (xs, r) → many g (k + 1) l = match g r with
    | none => none
    | some (x, r2) => some (xs ++ [x], r2)
  | 0, l, xs, r, h => by
    simp only [many, Option.some.injEq, Prod.mk.injEq] at h
    obtain ⟨rfl, rfl⟩ := h
    simp only [many]
    cases g l with
    | none => rfl
    | some p => rfl
  | k + 1, l, xs, r, h => by
    unfold many at h ⊢
    cases hg : g l with
    | none => rw [hg] at h; simp at h
    | some p =>
      obtain ⟨x, r1⟩ := p
      rw [hg] at h
      dsimp only at h ⊢
      cases hm : many g k r1 with
      | none => rw [hm] at h; simp at h
      | some q =>
        obtain ⟨ys, r2⟩ := q
        rw [hm] at h
        simp only [Option.some.injEq, Prod.mk.injEq] at h
        obtain ⟨rfl, rfl⟩ := h
        rw [many_snoc g k r1 ys r2 hm]
        cases g r2 with
        | none => rfl
        | some p => rfl
theorem many_fail {α : Type} (g : List Nat → Option (α × List Nat)) : ∀ (k j : Nat) (l : List Nat), many g k l = none → k ≤ j → many g j l = none
  | 0, _, _, h, _ => by simp [many] at h
  | k + 1, 0, _, _, h => by omega
  | k + 1, j + 1, l, h, hj => by
    unfold many at h ⊢
    cases hg : g l with
    | none => rfl
    | some p =>
      obtain ⟨x, r1⟩ := p
      rw [hg] at h
      dsimp only at h ⊢
      cases hm : many g k r1 with
      | none => rw [many_fail g k j r1 hm (by omega)]
      | some q => rw [hm] at h; simp at h
/-- The number whose bytes, the lowest first, these are so far. -/
def val : List Nat → Nat
  | [] => 0
  | c :: p => c % 128 + 128 * val p
theorem val_lt : ∀ p : List Nat, val p < 128 ^ p.length
  | [] => by simp [val]
  | c :: p => by
    have h := val_lt p
    have h2 : c % 128 < 128 := Nat.mod_lt _ (by decide)
    simp only [val, List.length_cons, Nat.pow_succ]
    omega
theorem val_snoc : ∀ (p : List Nat) (c : Nat), val (p ++ [c]) = val p + c % 128 * 128 ^ p.length
  | [], c => by simp [val]
  | d :: p, c => by
    simp only [List.cons_append, val, val_snoc p c, List.length_cons, Nat.pow_succ]
    rw [Nat.mul_add, Nat.add_assoc]
    congr 1
    rw [Nat.mul_comm (128 ^ p.length) 128, Nat.mul_left_comm]
theorem vget_val : ∀ (p : List Nat) (k c : Nat) (r : List Nat), (∀ x ∈ p, 128 ≤ x) → p.length < k → c < 128 → vget k (p ++ c :: r) = if p ≠ [] ∧ c = 0 then none else some (val p + c * 128 ^ p.length, r)
  | [], 0, _, _, _, h, _ => by simp at h
  | [], k + 1, c, r, _, _, hc => by simp [vget, hc, val]
  | d :: p, 0, _, _, _, h, _ => by simp at h
  | d :: p, k + 1, c, r, hp, hk, hc => by
    have hd : 128 ≤ d := hp d (by simp)
    have ih := vget_val p k c r (fun x hx => hp x (by simp [hx])) (by simpa using hk) hc
    rw [List.cons_append, vget, if_neg (by omega), ih]
    by_cases h0 : c = 0
    · subst h0
      by_cases hp0 : p = []
      · subst hp0; simp [val]
      · simp [hp0]
    · rw [if_neg (by simp [h0]), if_neg (by simp [h0])]
      have h1 : 0 < c * 128 ^ p.length := Nat.mul_pos (by omega) (Nat.pow_pos (by decide))
      dsimp only
      rw [if_neg (by omega)]
      simp only [val, List.length_cons, Nat.pow_succ]
      congr 2
      rw [Nat.mul_add, Nat.add_assoc]
      congr 2
      rw [Nat.mul_comm (128 ^ p.length) 128, Nat.mul_left_comm]
theorem vget_long : ∀ (p : List Nat) (k : Nat) (r : List Nat), (∀ x ∈ p, 128 ≤ x) → (p.length = k ∨ r = []) → p.length ≤ k → vget k (p ++ r) = none
  | [], 0, _, _, _, _ => by simp [vget]
  | [], k + 1, r, _, h, _ => by
    rcases h with h | rfl
    · simp at h
    · simp [vget]
  | d :: p, 0, _, _, _, h => by simp at h
  | d :: p, k + 1, r, hp, h, hk => by
    have hd : 128 ≤ d := hp d (by simp)
    rw [List.cons_append, vget, if_neg (by omega), vget_long p k r (fun x hx => hp x (by simp [hx])) (by simpa using h) (by simpa using hk)]
theorem nget_at {l : List Nat} {i x : Nat} (hx : l[i]? = some x) (hall : ∀ y ∈ l.take i, 128 ≤ y) (hi : i < 6) (hx2 : x < 128) :
    nget l = if 0 < i ∧ x = 0 then none else if -maxN ≤ zag (val (l.take i) + x * 128 ^ i) ∧ zag (val (l.take i) + x * 128 ^ i) ≤ maxN then some (zag (val (l.take i) + x * 128 ^ i), l.drop (i + 1)) else none := by
  have hil := (List.getElem?_eq_some_iff.1 hx).1
  have hl : (l.take i).length = i := by simp; omega
  have e : l = l.take i ++ x :: l.drop (i + 1) := by
    have h1 := List.take_append_drop i l
    rw [List.drop_eq_getElem_cons hil] at h1
    have h2 : l[i] = x := by rw [List.getElem?_eq_getElem hil] at hx; simpa using hx
    rw [h2] at h1
    exact h1.symm
  have h := vget_val (l.take i) 6 x (l.drop (i + 1)) hall (by rw [hl]; exact hi) hx2
  rw [← e, hl] at h
  unfold nget
  rw [h]
  have hne : (l.take i ≠ [] ∧ x = 0) ↔ (0 < i ∧ x = 0) := by
    rw [← List.length_pos_iff, hl]
  by_cases h0 : 0 < i ∧ x = 0
  · rw [if_pos (hne.2 h0), if_pos h0]
  · rw [if_neg (fun h => h0 (hne.1 h)), if_neg h0]
theorem nget_end {l : List Nat} {i : Nat} (hall : ∀ y ∈ l.take i, 128 ≤ y) (hi : i ≤ 6) (hl : i ≤ l.length) (h : i = 6 ∨ i = l.length) : nget l = none := by
  have h1 := vget_long (l.take i) 6 (l.drop i) hall (by
    rcases h with h | h
    · left; simp; omega
    · right; subst h; simp) (by simp; omega)
  rw [List.take_append_drop] at h1
  unfold nget
  rw [h1]
/-- Things written one behind the other. -/
def WSeq : List (Sch × Val) → List Nat → Bool → List Nat → Bool → Prop
  | [], o, b, o', b' => o' = o ∧ b' = b
  | (s, v) :: r, o, b, o', b' => ∃ o1 b1, s.Wr v o b o1 b1 ∧ WSeq r o1 b1 o' b'
theorem WSeq.append : ∀ {l m : List (Sch × Val)} {o o1 o2 : List Nat} {b b1 b2 : Bool}, WSeq l o b o1 b1 → WSeq m o1 b1 o2 b2 → WSeq (l ++ m) o b o2 b2
  | [], m, o, o1, o2, b, b1, b2, h, k => by obtain ⟨rfl, rfl⟩ := h; exact k
  | (s, v) :: l, m, o, o1, o2, b, b1, b2, h, k => by
    obtain ⟨o3, b3, h1, h2⟩ := h
    exact ⟨o3, b3, h1, WSeq.append h2 k⟩
theorem WSeq.one {s : Sch} {v : Val} {o o' : List Nat} {b b' : Bool} (h : s.Wr v o b o' b') : WSeq [(s, v)] o b o' b' := ⟨_, _, h, rfl, rfl⟩
theorem WSeq.tup : ∀ {l : List (Sch × Val)} {o o' : List Nat} {b b' : Bool}, WSeq l o b o' b' → (tup (l.map (·.1))).Wr (vtup (l.map (·.2))) o b o' b'
  | [], o, o', b, b', h => by obtain ⟨rfl, rfl⟩ := h; exact Sch.Wr.nil _ _
  | (s, v) :: l, o, o', b, b', h => by
    obtain ⟨o1, b1, h1, h2⟩ := h
    exact Sch.Wr.pair h1 (WSeq.tup h2)
/-- How long what is written gets at most. -/
def wsum (l : List (Sch × Val)) : Nat := (l.map fun x => x.1.wmax x.2).sum
theorem WSeq.len : ∀ {l : List (Sch × Val)} {o o' : List Nat} {b b' : Bool}, WSeq l o b o' b' → o'.length ≤ o.length + wsum l
  | [], o, o', b, b', h => by obtain ⟨rfl, rfl⟩ := h; simp [wsum]
  | (s, v) :: l, o, o', b, b', h => by
    obtain ⟨o1, b1, h1, h2⟩ := h
    have := h1.len
    have := WSeq.len h2
    simp only [wsum, List.map_cons, List.sum_cons] at this ⊢
    omega
/-- Things read one behind the other. -/
def RSeq : List (Sch × Val) → List Nat → Bool → List Nat → Bool → Prop
  | [], l, b, l', b' => l' = l ∧ b' = b
  | (s, v) :: r, l, b, l', b' => ∃ l1 b1, s.Rd l b v l1 b1 ∧ RSeq r l1 b1 l' b'
theorem RSeq.append : ∀ {m n : List (Sch × Val)} {l l1 l2 : List Nat} {b b1 b2 : Bool}, RSeq m l b l1 b1 → RSeq n l1 b1 l2 b2 → RSeq (m ++ n) l b l2 b2
  | [], m, o, o1, o2, b, b1, b2, h, k => by obtain ⟨rfl, rfl⟩ := h; exact k
  | (s, v) :: l, m, o, o1, o2, b, b1, b2, h, k => by
    obtain ⟨o3, b3, h1, h2⟩ := h
    exact ⟨o3, b3, h1, RSeq.append h2 k⟩
theorem RSeq.one {s : Sch} {v : Val} {l l' : List Nat} {b b' : Bool} (h : s.Rd l b v l' b') : RSeq [(s, v)] l b l' b' := ⟨_, _, h, rfl, rfl⟩
theorem RSeq.tup : ∀ {m : List (Sch × Val)} {l l' : List Nat} {b b' : Bool}, RSeq m l b l' b' → (tup (m.map (·.1))).Rd l b (vtup (m.map (·.2))) l' b'
  | [], o, o', b, b', h => by obtain ⟨rfl, rfl⟩ := h; exact Sch.Rd.nil _ _
  | (s, v) :: l, o, o', b, b', h => by
    obtain ⟨o1, b1, h1, h2⟩ := h
    exact Sch.Rd.pair h1 (RSeq.tup h2)
/-- Numbers, as things. -/
def nums (ns : List Int) : List (Sch × Val) := ns.map fun n => (.num, .num n)
theorem Sch.Rd.num {l l' : List Nat} {b b' : Bool} {n : Int} (h : ROk nget l b n l' b') : Sch.num.Rd l b (.num n) l' b' :=
  ⟨fun e => ⟨(h.good e).1, by simp only [Sch.get, (h.good e).2]⟩, fun e => (h.bad e).imp id fun h => by simp only [Sch.get, h]⟩
theorem WSeq.snoc {l : List (Sch × Val)} {s : Sch} {v : Val} {o o1 o2 : List Nat} {b b1 b2 : Bool} (h : WSeq l o b o1 b1) (k : s.Wr v o1 b1 o2 b2) : WSeq (l ++ [(s, v)]) o b o2 b2 := h.append (WSeq.one k)
theorem RSeq.snoc {m : List (Sch × Val)} {s : Sch} {v : Val} {l l1 l2 : List Nat} {b b1 b2 : Bool} (h : RSeq m l b l1 b1) (k : s.Rd l1 b1 v l2 b2) : RSeq (m ++ [(s, v)]) l b l2 b2 := h.append (RSeq.one k)
/-- The mark stays once it is set. -/
theorem Sch.Wr.stay {s : Sch} {v : Val} {o o' : List Nat} {b' : Bool} (h : s.Wr v o true o' b') : b' = true := by
  cases b' with
  | true => rfl
  | false => exact absurd (h.bad.1 rfl).1 (by simp)
/-- So many bytes are at most written where a list that is too long is not gone through. -/
def Sch.cmax : Sch → Val → Nat
  | .num, _ => 6
  | .flag, _ => 6
  | .raw, .raw l => 6 + l.length
  | .list s, .list l => 6 + if l.length ≤ 64 then (l.map s.cmax).sum else 0
  | .pair a b, .pair x y => a.cmax x + b.cmax y
  | _, _ => 0
theorem Sch.cmax_le : ∀ (s : Sch) (v : Val), s.good v → s.cmax v ≤ s.most
  | .nil, v, _ => by cases v <;> simp [Sch.cmax]
  | .num, v, _ => by cases v <;> simp [Sch.cmax, Sch.most]
  | .flag, v, _ => by cases v <;> simp [Sch.cmax, Sch.most]
  | .raw, v, h => by
    cases v with
    | raw l => have h1 : l.length ≤ 65536 := h.1; simp only [Sch.cmax, Sch.most]; omega
    | _ => exact absurd h (by simp [Sch.good])
  | .list s, v, h => by
    cases v with
    | list l =>
      have h1 : l.length ≤ 64 := h.1
      have h2 := sum_le_mul (l := l.map s.cmax) (m := s.most) (by
        intro x hx
        obtain ⟨y, hy, rfl⟩ := List.mem_map.1 hx
        exact Sch.cmax_le s y (h.2 y hy))
      rw [List.length_map] at h2
      have h3 : l.length * s.most ≤ 64 * s.most := Nat.mul_le_mul_right _ h1
      simp only [Sch.cmax, Sch.most]; rw [if_pos h1]; omega
    | _ => exact absurd h (by simp [Sch.good])
  | .pair a b, v, h => by
    cases v with
    | pair x y =>
      have h1 := Sch.cmax_le a x h.1
      have h2 := Sch.cmax_le b y h.2
      simp only [Sch.cmax, Sch.most]; omega
    | _ => exact absurd h (by simp [Sch.good])
/-- The most of that, if no bytes are more than R. -/
def Sch.cap (R : Nat) : Sch → Nat
  | .nil => 0
  | .num => 6
  | .flag => 6
  | .raw => 6 + R
  | .list s => 6 + 64 * s.cap R
  | .pair a b => a.cap R + b.cap R
/-- No bytes are more than R. -/
def Sch.rawle (R : Nat) : Sch → Val → Prop
  | .raw, .raw l => l.length ≤ R
  | .list s, .list l => ∀ x ∈ l, s.rawle R x
  | .pair a b, .pair x y => a.rawle R x ∧ b.rawle R y
  | _, _ => True
theorem Sch.cmax_cap {R : Nat} : ∀ (s : Sch) (v : Val), s.rawle R v → s.cmax v ≤ s.cap R
  | .nil, v, _ => by cases v <;> simp [Sch.cmax]
  | .num, v, _ => by cases v <;> simp [Sch.cmax, Sch.cap]
  | .flag, v, _ => by cases v <;> simp [Sch.cmax, Sch.cap]
  | .raw, v, h => by
    cases v with
    | raw l => have h1 : l.length ≤ R := h; simp only [Sch.cmax, Sch.cap]; omega
    | _ => simp [Sch.cmax]
  | .list s, v, h => by
    cases v with
    | list l =>
      simp only [Sch.cmax, Sch.cap]
      split
      · rename_i h1
        have h2 := sum_le_mul (l := l.map s.cmax) (m := s.cap R) (by
          intro x hx
          obtain ⟨y, hy, rfl⟩ := List.mem_map.1 hx
          exact Sch.cmax_cap s y (h y hy))
        rw [List.length_map] at h2
        have h3 : l.length * s.cap R ≤ 64 * s.cap R := Nat.mul_le_mul_right _ h1
        omega
      · omega
    | _ => simp [Sch.cmax]
  | .pair a b, v, h => by
    cases v with
    | pair x y =>
      have h1 := Sch.cmax_cap a x h.1
      have h2 := Sch.cmax_cap b y h.2
      simp only [Sch.cmax, Sch.cap]; omega
    | _ => simp [Sch.cmax]
/-- There are no bytes in it. -/
def Sch.noraw : Sch → Bool
  | .raw => false
  | .list s => s.noraw
  | .pair a b => a.noraw && b.noraw
  | _ => true
theorem Sch.noraw_le {R : Nat} : ∀ (s : Sch) (v : Val), s.noraw = true → s.rawle R v
  | .nil, v, _ => by cases v <;> trivial
  | .num, v, _ => by cases v <;> trivial
  | .flag, v, _ => by cases v <;> trivial
  | .raw, v, h => by cases h
  | .list s, v, h => by
    cases v with
    | list l => exact fun x _ => Sch.noraw_le s x h
    | _ => trivial
  | .pair a b, v, h => by
    simp only [Sch.noraw, Bool.and_eq_true] at h
    cases v with
    | pair x y => exact ⟨Sch.noraw_le a x h.1, Sch.noraw_le b y h.2⟩
    | _ => trivial
/-- codec writes a record. -/
abbrev Sch.Wc (s : Sch) (v : Val) (o : List Nat) (b : Bool) (o' : List Nat) (b' : Bool) : Prop := WOk (s.good v) (s.put v) (s.cmax v) o b o' b'
theorem Sch.Wc.pair {s t : Sch} {x y : Val} {o o1 o2 : List Nat} {b b1 b2 : Bool} (h : s.Wc x o b o1 b1) (k : t.Wc y o1 b1 o2 b2) : (Sch.pair s t).Wc (.pair x y) o b o2 b2 :=
  WOk.cast (WOk.seq h k) Iff.rfl (fun _ => rfl) (Nat.le_refl _)
theorem Sch.Wc.nil (o : List Nat) (b : Bool) : Sch.nil.Wc .unit o b o b := WOk.nil o b
/-- Things written one behind the other. -/
def CSeq : List (Sch × Val) → List Nat → Bool → List Nat → Bool → Prop
  | [], o, b, o', b' => o' = o ∧ b' = b
  | (s, v) :: r, o, b, o', b' => ∃ o1 b1, s.Wc v o b o1 b1 ∧ CSeq r o1 b1 o' b'
theorem CSeq.append : ∀ {l m : List (Sch × Val)} {o o1 o2 : List Nat} {b b1 b2 : Bool}, CSeq l o b o1 b1 → CSeq m o1 b1 o2 b2 → CSeq (l ++ m) o b o2 b2
  | [], m, o, o1, o2, b, b1, b2, h, k => by obtain ⟨rfl, rfl⟩ := h; exact k
  | (s, v) :: l, m, o, o1, o2, b, b1, b2, h, k => by
    obtain ⟨o3, b3, h1, h2⟩ := h
    exact ⟨o3, b3, h1, CSeq.append h2 k⟩
theorem CSeq.one {s : Sch} {v : Val} {o o' : List Nat} {b b' : Bool} (h : s.Wc v o b o' b') : CSeq [(s, v)] o b o' b' := ⟨_, _, h, rfl, rfl⟩
theorem CSeq.tup : ∀ {l : List (Sch × Val)} {o o' : List Nat} {b b' : Bool}, CSeq l o b o' b' → (tup (l.map (·.1))).Wc (vtup (l.map (·.2))) o b o' b'
  | [], o, o', b, b', h => by obtain ⟨rfl, rfl⟩ := h; exact Sch.Wc.nil _ _
  | (s, v) :: l, o, o', b, b', h => by
    obtain ⟨o1, b1, h1, h2⟩ := h
    exact Sch.Wc.pair h1 (CSeq.tup h2)
/-- How long what is written gets at most. -/
def csum (l : List (Sch × Val)) : Nat := (l.map fun x => x.1.cmax x.2).sum
theorem CSeq.len : ∀ {l : List (Sch × Val)} {o o' : List Nat} {b b' : Bool}, CSeq l o b o' b' → o'.length ≤ o.length + csum l
  | [], o, o', b, b', h => by obtain ⟨rfl, rfl⟩ := h; simp [csum]
  | (s, v) :: l, o, o', b, b', h => by
    obtain ⟨o1, b1, h1, h2⟩ := h
    have := h1.len
    have := CSeq.len h2
    simp only [csum, List.map_cons, List.sum_cons] at this ⊢
    omega
theorem CSeq.snoc {l : List (Sch × Val)} {s : Sch} {v : Val} {o o1 o2 : List Nat} {b b1 b2 : Bool} (h : CSeq l o b o1 b1) (k : s.Wc v o1 b1 o2 b2) : CSeq (l ++ [(s, v)]) o b o2 b2 := h.append (CSeq.one k)
end Go.Rc
