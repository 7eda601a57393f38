/- front.Front: what it holds, New, Full, Len. -/
import Derived.Test.YtenmcllnddmdhaaSmall
import Derived.Test.YtenmcllnddmdhaaMap
set_option linter.unusedVariables false
set_option linter.unusedSimpArgs false
namespace Go.Proofs.Ytenmcllnddmdhaa
open Go.RowKit Go.Lb Go.Conc

/-- Somebody (From, Client) who waits for an entry. -/
structure Wt where
  n : Int
  c : Int
  ix : Int
  tm : Int
def Wt.vals (x : Wt) : List Value := whoL x.n x.c ++ [.int .i64 x.ix, .int .i64 x.tm]
/-- Somebody who waits for a read. -/
structure Rd where
  n : Int
  c : Int
  ctx : Int
  ix : Int
  rdy : Bool
def Rd.vals (x : Rd) : List Value := whoL x.n x.c ++ [.int .i64 x.ctx, .int .i64 x.ix, .bool x.rdy]
/-- An answer. -/
structure Dn where
  n : Int
  c : Int
  ix : Int
  val : Int
  al : Value
def Dn.cells (x : Dn) : List Value := doneL (whoL x.n x.c) x.ix 0 x.val x.al
def Dn.val' (x : Dn) : Value := .agg x.cells.toArray

theorem whoL_len (n c : Int) : (whoL n c).length = 31 := rfl
theorem Wt.len (x : Wt) : x.vals.length = 33 := rfl
theorem Rd.len (x : Rd) : x.vals.length = 34 := rfl
theorem Dn.len (x : Dn) : x.cells.length = 35 := rfl
theorem whoL_one (n c : Int) : ∀ u ∈ whoL n c, u.oneCell' = true := by
  intro u hu
  simp only [whoL, cmdTail, List.mem_cons, List.not_mem_nil, or_false] at hu
  rcases hu with h | h | h | h | h | h | h | h | h | h | h | h | h | h | h | h | h | h | h | h | h | h | h | h | h | h | h | h | h | h | h <;> subst h <;> rfl
theorem Wt.one (x : Wt) : ∀ u ∈ x.vals, u.oneCell' = true := by
  intro u hu
  simp only [Wt.vals, List.mem_append, List.mem_cons, List.not_mem_nil, or_false] at hu
  rcases hu with h | h | h
  · exact whoL_one _ _ u h
  · subst h; rfl
  · subst h; rfl
theorem Rd.one (x : Rd) : ∀ u ∈ x.vals, u.oneCell' = true := by
  intro u hu
  simp only [Rd.vals, List.mem_append, List.mem_cons, List.not_mem_nil, or_false] at hu
  rcases hu with h | h | h | h
  · exact whoL_one _ _ u h
  · subst h; rfl
  · subst h; rfl
  · subst h; rfl
theorem Dn.one (x : Dn) (h : x.al.oneCell' = true) : ∀ u ∈ x.cells, u.oneCell' = true := by
  intro u hu
  simp only [Dn.cells, doneL, List.mem_append, List.mem_cons, List.not_mem_nil, or_false] at hu
  rcases hu with k | k | k | k | k
  · exact whoL_one _ _ u k
  · subst k; rfl
  · subst k; rfl
  · subst k; rfl
  · subst k; exact h

def wtsL (L : List Wt) : List (List Value) := L.map Wt.vals
def rdsL (R : List Rd) : List (List Value) := R.map Rd.vals
theorem wtsL_len (L : List Wt) : ∀ x ∈ wtsL L, x.length = 33 := by
  intro x hx
  obtain ⟨y, _, rfl⟩ := List.mem_map.1 hx
  rfl
theorem rdsL_len (L : List Rd) : ∀ x ∈ rdsL L, x.length = 34 := by
  intro x hx
  obtain ⟨y, _, rfl⟩ := List.mem_map.1 hx
  rfl

/-- A slice of waits. -/
def RowWt (w : World) (v : Value) (L : List Wt) : Prop := w.ownsRow 0 81 33 v L.length (wtsL L).flatten
/-- A slice of reads. -/
def RowRd (w : World) (v : Value) (L : List Rd) : Prop := w.ownsRow 0 88 34 v L.length (rdsL L).flatten

/-- The parts of a front. -/
structure Parts where
  v : Value
  rv : Value
  m : Nat
  b : Nat
  c : Nat
/-- What is in it. -/
structure Said where
  L : List Wt
  R : List Rd
  es : List (Int × Int × Int)
  rd : Int
  ps : Int
  q : List Dn

def esV (es : List (Int × Int × Int)) : List (Int × Value) := es.map fun p => (p.1, .agg (whoL p.2.1 p.2.2).toArray)

structure FrontAt (w : World) (f : Nat) (p : Parts) (s : Said) : Prop where
  blk : Blk w f 79 [p.v, p.rv, .map (some p.m), .int .i64 s.rd, .int .i64 s.ps, .pointer (some ⟨p.b, 0, none⟩)]
  rowL : RowWt w p.v s.L
  rowR : RowRd w p.rv s.R
  map : MapIs w p.m (esV s.es)
  box : BoxAt w p.b p.c 256 (s.q.map Dn.val')
  nd : [f, p.m, p.b, p.c].Nodup
  av : ∀ k, p.v.ownBlock = some k → k ∉ [f, p.m, p.b, p.c]
  ar : ∀ k, p.rv.ownBlock = some k → k ∉ [f, p.m, p.b, p.c] ∧ p.v.ownBlock ≠ some k

def foot (f : Nat) (p : Parts) : List Nat := [f, p.m, p.b, p.c] ++ p.v.ownBlock.toList ++ p.rv.ownBlock.toList

/-- A front, in blocks among F. -/
def FrontIs (w : World) (f : Nat) (F : List Nat) (s : Said) : Prop := ∃ p, FrontAt w f p s ∧ ∀ k ∈ foot f p, k ∈ F ∧ k < w.heap.size

theorem FrontIs.mem {w : World} {f : Nat} {F : List Nat} {s : Said} (h : FrontIs w f F s) : f ∈ F := by
  obtain ⟨p, _, h⟩ := h
  exact (h f (by simp [foot])).1

theorem FrontAt.upd {w w' : World} {f : Nat} {p : Parts} {s : Said} (h : FrontAt w f p s) {G : List Nat} (u : Upd G w w') (hF : ∀ k ∈ foot f p, k ∉ G) : FrontAt w' f p s := by
  refine ⟨u.blk h.blk (hF _ (by simp [foot])), u.row h.rowL (fun k hk => hF k (by simp [foot, hk])), u.row h.rowR (fun k hk => hF k (by simp [foot, hk])), h.map.upd u (hF _ (by simp [foot])), h.box.upd u (hF _ (by simp [foot])) (hF _ (by simp [foot])), h.nd, h.av, h.ar⟩

theorem FrontIs.upd {w w' : World} {f : Nat} {F : List Nat} {s : Said} (h : FrontIs w f F s) {G : List Nat} (u : Upd G w w') (hF : ∀ k ∈ F, k ∉ G) : FrontIs w' f F s := by
  obtain ⟨p, h1, h2⟩ := h
  exact ⟨p, h1.upd u (fun k hk => hF k (h2 k hk).1), fun k hk => ⟨(h2 k hk).1, Nat.lt_of_lt_of_le (h2 k hk).2 u.size⟩⟩

theorem own_shape {w : World} {base e k n : Nat} {v : Value} {xs : List Value} (h : w.ownsRow base e k v n xs) : ∃ a c, v = .slice a n c := by
  rcases h.2 with ⟨h1, h0⟩ | ⟨g, c, _, h1, _⟩
  · exact ⟨none, 0, by rw [h1, h0]⟩
  · exact ⟨_, _, h1⟩

def Said.none : Said := ⟨[], [], [], 0, 0, []⟩

theorem len_any (f : Nat) (F : List Nat) (s : Said) (w : World) (h : FrontIs w f F s) (hs : s.L.length + s.R.length + s.es.length ≤ 4611686018427387903) :
    Calls Try.prog 12 #[.pointer (some ⟨f, 0, none⟩)] w fun e w' => e = .returned (.int .i64 ((s.L.length + s.R.length + s.es.length : Nat) : Int)) ∧ Upd [] w w' := by
  obtain ⟨p, h, h2⟩ := h
  have h0 := h.blk.cell (o := 0) rfl
  have h1 := h.blk.cell (o := 1) rfl
  have h2 := h.blk.cell (o := 2) rfl
  obtain ⟨a, c, hv⟩ := own_shape h.rowL
  obtain ⟨a2, c2, hv2⟩ := own_shape h.rowR
  have hm := h.map
  have he : (esV s.es).length = s.es.length := by simp [esV]
  rw [hv] at h0
  rw [hv2] at h1
  clear h
  generalize s.L.length = x at *
  generalize s.R.length = y at *
  go_enter Try.func12, Try.ntmps12
  go_wp2_with fail
  refine wp_region_quiet_lit (by kernel_rfl) (by kernel_rfl) ?_
  repeat (quiet_step (fail))
  refine quiet_run rfl (v := .int .i64 s.es.length) (fun w hw => ?_) ?_
  · obtain ⟨n, rfl⟩ := hw
    have := run_len_mapIs (P := Try.prog) (ty := 3) (hm.drewN n) Try.underlying73
    rw [he] at this
    simp [execOp, resolve, invoke, builtin, Act.eval, this]
  simp only [Act.put]
  repeat (quiet_step (fail))
  refine wpQuiet_nil ?_
  rintro _ ⟨nq, rfl⟩
  go_wp2_with fail
  go_ret
  refine ⟨?_, (Upd.refl _ _).drewN _⟩
  simp only [Array.getD]
  rw [wrapIn (x := (x : Int) + y) (by omega) (by omega), wrapIn (by omega) (by omega)]
  simp

theorem full_any (f : Nat) (F : List Nat) (s : Said) (w : World) (h : FrontIs w f F s) :
    Calls Try.prog 19 #[.pointer (some ⟨f, 0, none⟩)] w fun e w' => e = .returned (.bool (decide (64 ≤ s.L.length))) ∧ w = w' := by
  obtain ⟨p, h, _⟩ := h
  have h0 := h.blk.cell (o := 0) rfl
  obtain ⟨a, c, hv⟩ := own_shape h.rowL
  rw [hv] at h0
  clear h
  generalize s.L.length = x at *
  go_enter Try.func19, Try.ntmps19
  go_wp2
  go_ret
  refine ⟨?_, rfl⟩
  have e : decide ((64 : Int) ≤ (x : Int)) = decide (64 ≤ x) := by rw [decide_eq_decide]; omega
  simp [e]

end Go.Proofs.Ytenmcllnddmdhaa
