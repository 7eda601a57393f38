/- A part that several proofs lean on: texts one behind the other. No condition but those that each theorem states. -/
import Derived.Test.YthecincpejpmpaaZfg
import Derived.Deep.OwnRows
set_option linter.unusedVariables false
set_option linter.unusedSimpArgs false
/- Messages that are sent with their numbers: what NetFull, NetLoses and NetAll share. -/
namespace Go.Rc
open Go Go.RowKit Go.Lb
def nth : Nat → Val → Val
  | 0, .pair a _ => a
  | n + 1, .pair _ b => nth n b
  | _, v => v
def setNth : Nat → Val → Val → Val
  | 0, .pair _ b, u => .pair u b
  | n + 1, .pair a b, u => .pair a (setNth n b u)
  | _, v, _ => v
/-- The message with another number. -/
def tag (i : Int) (x : Val) : Val := setNth 8 x (.num i)
theorem msg_ctx {w : World} {ok : Nat → Prop} {cs : List Value} {x : Val} (h : sMsg.Rep w ok cs x) :
    ∃ n : Int, nth 8 x = .num n ∧ cs[8]? = some (.int .i64 n) ∧ ∀ i : Int, sMsg.Rep w ok (cs.set 8 (.int .i64 i)) (tag i x) ∧ nth 8 (tag i x) = .num i ∧ sMsg.cmax (tag i x) = sMsg.cmax x := by
  have k0 : (tup [.num, .num, .num, .num, .num, .num, .num, .flag, .num, .num, .num, .num, .list sEntry, sConf, .raw, sCmd, sResult]).Rep w ok cs x := h
  obtain ⟨_, _, _, _, rfl, rfl, ⟨n0, rfl, rfl⟩, k1⟩ := Sch.Rep.tup_cons k0
  obtain ⟨_, _, _, _, rfl, rfl, ⟨n1, rfl, rfl⟩, k2⟩ := Sch.Rep.tup_cons k1
  obtain ⟨_, _, _, _, rfl, rfl, ⟨n2, rfl, rfl⟩, k3⟩ := Sch.Rep.tup_cons k2
  obtain ⟨_, _, _, _, rfl, rfl, ⟨n3, rfl, rfl⟩, k4⟩ := Sch.Rep.tup_cons k3
  obtain ⟨_, _, _, _, rfl, rfl, ⟨n4, rfl, rfl⟩, k5⟩ := Sch.Rep.tup_cons k4
  obtain ⟨_, _, _, _, rfl, rfl, ⟨n5, rfl, rfl⟩, k6⟩ := Sch.Rep.tup_cons k5
  obtain ⟨_, _, _, _, rfl, rfl, ⟨n6, rfl, rfl⟩, k7⟩ := Sch.Rep.tup_cons k6
  obtain ⟨_, _, _, _, rfl, rfl, ⟨n7, rfl, rfl⟩, k8⟩ := Sch.Rep.tup_cons k7
  obtain ⟨_, cr, _, vr, rfl, rfl, ⟨n8, rfl, rfl⟩, k9⟩ := Sch.Rep.tup_cons k8
  refine ⟨n8, rfl, rfl, fun i => ⟨?_, rfl, rfl⟩⟩
  exact ⟨[.int .i64 n0], _, _, _, rfl, rfl, Sch.Rep.num_mk n0, [.int .i64 n1], _, _, _, rfl, rfl, Sch.Rep.num_mk n1, [.int .i64 n2], _, _, _, rfl, rfl, Sch.Rep.num_mk n2,
    [.int .i64 n3], _, _, _, rfl, rfl, Sch.Rep.num_mk n3, [.int .i64 n4], _, _, _, rfl, rfl, Sch.Rep.num_mk n4, [.int .i64 n5], _, _, _, rfl, rfl, Sch.Rep.num_mk n5,
    [.int .i64 n6], _, _, _, rfl, rfl, Sch.Rep.num_mk n6, [.bool n7], _, _, _, rfl, rfl, Sch.Rep.flag_mk n7, [.int .i64 i], cr, .num i, vr, rfl, rfl, Sch.Rep.num_mk i, k9⟩
/-- A net of room m holds the last m of what came. -/
theorem came_drop {S : List Val} {x : Val} {m : Nat} (hm : 1 ≤ m) : came m (S.drop (S.length - m)) x = (S ++ [x]).drop ((S ++ [x]).length - m) := by
  unfold came
  have hl : (S.drop (S.length - m) ++ [x]).length = min S.length m + 1 := by simp; omega
  rw [hl]
  by_cases h : S.length < m
  · rw [if_neg (by omega), show S.length - m = 0 by omega, show (S ++ [x]).length - m = 0 by simp; omega]
    simp
  · rw [if_pos (by omega), show (S ++ [x]).length - m = S.length - m + 1 by simp; omega, List.eraseIdx_zero, List.tail_append_of_ne_nil (by intro e; have := congrArg List.length e; simp at this; omega)]
    rw [List.drop_append_of_le_length (by omega), List.tail_drop]
/-- A list of messages that came in: one of them. -/
theorem elem_at {w : World} {a : Option Addr} {n c : Nat} {l : List Val} (h : (Sch.list sMsg).Rep w (· < w.heap.size) [.slice a n c] (.list l)) : n = l.length ∧ ∀ i x, l[i]? = some x → ∃ b o us, a = some ⟨b, o, none⟩ ∧ w.rangeAt b (o + i * 46) us ∧ b < w.heap.size ∧ sMsg.Rep w (· < w.heap.size) us x := by
  obtain ⟨a', c', l', h1, h2, h3⟩ := h
  cases h2
  simp only [List.cons.injEq, Value.slice.injEq, and_true] at h1
  obtain ⟨rfl, rfl, rfl⟩ := h1
  refine ⟨rfl, fun i x hx => ?_⟩
  obtain ⟨b, o, us, k1, _, k2, k3, k4⟩ := h3 i x hx
  exact ⟨b, o, us, k1, k3, k2, k4⟩
theorem len_le_sum : ∀ {l : List Nat}, (∀ x ∈ l, 1 ≤ x) → l.length ≤ l.sum
  | [], _ => by simp
  | x :: l, h => by
    have h1 := len_le_sum (l := l) (fun y hy => h y (by simp [hy]))
    have h2 := h x (by simp)
    simp only [List.length_cons, List.sum_cons]; omega
theorem list_le {w : World} {ok : Nat → Prop} {s : Sch} {cs : List Value} {l : List Val} (h : (Sch.list s).Rep w ok cs (.list l)) (hs : s.wpos = true) : l.length ≤ (Sch.list s).wmax (.list l) := by
  obtain ⟨a, c, l', _, h2, h3⟩ := h
  cases h2
  have := len_le_sum (l := l.map s.wmax) (fun y hy => by
    obtain ⟨x, hx, rfl⟩ := List.mem_map.1 hy
    obtain ⟨i, hi⟩ := List.mem_iff_getElem?.1 hx
    obtain ⟨_, _, _, _, _, _, _, h4⟩ := h3 i x hi
    exact h4.wpos hs)
  simp only [Sch.wmax]
  rw [List.length_map] at this
  omega
theorem map_erase {α β : Type} (f : α → β) : ∀ (l : List α) (i : Nat), (l.eraseIdx i).map f = (l.map f).eraseIdx i
  | [], i => by simp
  | a :: l, 0 => rfl
  | a :: l, i + 1 => by simp [map_erase f l i]
theorem tmod_in {n : Int} (h : 0 < n) (x : Int) : (0 ≤ x.tmod n ∧ x.tmod n < n) ∨ (x.tmod n < 0 ∧ 0 ≤ x.tmod n + n ∧ x.tmod n + n < n) := by
  have h1 := Int.tmod_lt_of_pos x h
  have h2 := Int.lt_tmod_of_pos x h
  omega
theorem le_sum_mem {a : Nat} : ∀ {l : List Nat}, a ∈ l → a ≤ l.sum
  | x :: l, h => by
    rcases List.mem_cons.1 h with rfl | h
    · simp
    · have := le_sum_mem h
      simp only [List.sum_cons]; omega
theorem wmax_at {l : List Val} {s : Sch} {i : Nat} {x : Val} (h : l[i]? = some x) : s.wmax x ≤ (Sch.list s).wmax (.list l) := by
  simp only [Sch.wmax]
  have : s.wmax x ∈ l.map s.wmax := List.mem_map_of_mem (List.mem_of_getElem? h)
  have := le_sum_mem this
  omega
end Go.Rc
namespace Go.Proofs.Ythecincpejpmpaa
open Go.RowKit Go.Lb Go.Rc
/-- Where a sending stands: the numbers of what was sent, in the slice v; what is under way. -/
structure Sent (w0 w : World) (p m : Nat) (v : Value) (P : List (Int × Val)) (L : List Val) (X : List Nat) : Prop where
  row : w.ownsRow w0.heap.size 3 1 v P.length (P.map fun q => .int .i64 q.1)
  ctx : ∀ q ∈ P, nth 8 q.2 = .num q.1
  net : PNet w p m L X v.ownBlock.toList
  low : ∀ k ∈ X, w0.heap.size ≤ k
  upd : Upd [] w0 w
section
variable {w0 w w' : World} {p m : Nat} {v v' : Value} {P : List (Int × Val)} {L L' : List Val} {X X' : List Nat}
theorem Sent.same (h : Sent w0 w p m v P L X) (u : Upd [] w w') : Sent w0 w' p m v P L X :=
  ⟨u.row h.row (by simp), h.ctx, h.net.same u (by simp) ownN_upd, h.low, h.upd.trans u (by simp)⟩
/-- A call on the net. -/
theorem Sent.call {F : List Nat} (h : Sent w0 w p m v P L X) (n : NetTo w X w' X') (hn : PNet w' p m L' X' (F ++ v.ownBlock.toList)) : Sent w0 w' p m v P L' X' :=
  ⟨n.upd.row h.row (fun k hk hx => h.net.lt.2.2.2 k hx (by simp [hk])), h.ctx, hn.more (fun k hk => List.mem_append.2 (.inr hk)), n.low h.low h.upd.size, h.upd.trans n.upd (fun k hk => .inr (h.low k hk))⟩
theorem Sent.call0 (h : Sent w0 w p m v P L X) (n : NetTo w X w' X') (hn : PNet w' p m L' X' v.ownBlock.toList) : Sent w0 w' p m v P L' X' := Sent.call (F := []) h n hn
/-- The numbers stand elsewhere. -/
theorem Sent.swap {P' : List (Int × Val)} {n : Nat} {xs : List Value} (h : Sent w0 w p m v P L X) (u : Upd [] w w') (hr : w'.ownsRow w.heap.size 3 1 v' n xs) (hn : n = P'.length) (hxs : xs = P'.map fun q => .int .i64 q.1) (hc : ∀ q ∈ P', nth 8 q.2 = .num q.1) : Sent w0 w' p m v' P' L X := by
  subst hn hxs
  have hlt := h.net.lt
  refine ⟨own_rebase hr (fun k hk => Nat.le_trans h.upd.size (own_lo hr hk).1), hc, NetAt.by h.net ⟨u.mono (by simp), fun k hk => .inr (own_lo hr (by simpa using hk)).1⟩ ownN_upd (fun k hk => (own_lo hr (by simpa using hk)).2), h.low, h.upd.trans u (by simp)⟩
/-- One number more. -/
theorem Sent.push {o : Obj} {i : Int} {x : Val} (h : Sent w0 w p m v P L X) (hx : nth 8 x = .num i) (ho : w'.ownsRow w0.heap.size 3 1 v' (P.length + 1) ((P.map fun q => .int .i64 q.1) ++ [.int .i64 i])) (hg : (w.alloc o).grownBy w' v.ownBlock) (hv : v'.ownBlock = v.ownBlock ∨ v'.ownBlock = some (w.alloc o).heap.size) : Sent w0 w' p m v' (P ++ [(i, x)]) L X := by
  have hlt := h.net.lt
  have hu : Upd v.ownBlock.toList w w' := ((Upd.refl _ w).alloc _).grown hg (fun k hk => .inl (by simp [hk]))
  refine ⟨by simpa using ho, fun q hq => ?_, NetAt.by h.net ⟨hu, fun k hk => ?_⟩ ownN_upd (fun k hk => (own_lo ho (by simpa using hk)).2), h.low, h.upd.trans hu (fun k hk => .inr (own_lo h.row (by simpa using hk)).1)⟩
  · rcases List.mem_append.1 hq with hq | hq
    · exact h.ctx q hq
    · simp at hq; subst hq; exact hx
  · rcases hv with h1 | h1
    · exact .inl (by rw [h1] at hk; exact hk)
    · rw [h1] at hk; simp at hk; exact .inr (by omega)
end
end Go.Proofs.Ythecincpejpmpaa
/- What the reach says of records and lists that came in. -/
namespace Go.Proofs.Ythecincpejpmpaa
open Go.ChangeShapes Go.WideShapes Go.ChangeAt Go.RowKit Go.Lb Go.Rc
section
variable {H : Type} {enc : TypeId × Value → H} {P : Program} {W : World} {n : Nat} {cs : List Value} {x : DataW H × List MemPlace}
/-- No row that is met is longer than the reach. -/
def ReachP (P : Program) (d : DataW H) (t : TypeId) : Prop := ∀ n ∈ d.weights P t, n ≤ reachBytes
theorem weights_all {e : TypeId} {l : List (DataW H)} {d : DataW H} (h : d ∈ l) : ∀ n ∈ d.weights P e, n ∈ DataW.weightsAll P e l := by
  induction l with
  | nil => simp at h
  | cons y r ih =>
    intro n hn
    simp only [DataW.weightsAll, List.mem_append]
    rcases List.mem_cons.1 h with rfl | h
    · exact .inl hn
    · exact .inr (ih h n hn)
/-- A slice of structs that came in, at every place, each within the reach. -/
theorem open_rows_r {t e : TypeId} {k z : Nat} (ht : P.underlying t = some (.slice e)) (hk : P.cellsOf e = k) (h0 : 0 < k) (hz : P.bytesOf e = z) {a : Option Addr} {len cap : Nat} {Q : List Value → DataW H → Prop}
    (hQ : ∀ n cs x, DataW.trod enc P W 0 (fun _ => true) true n e cs = some x → Q cs x.1)
    (h : DataW.trod enc P W 0 (fun _ => true) true n t [.slice a len cap] = some x) (hr : ReachP P x.1 t) :
    len * z ≤ reachBytes ∧ ∀ i, i < len → ∃ b o cs d, a = some ⟨b, o, none⟩ ∧ b < W.heap.size ∧ W.rangeAt b (o + i * k) cs ∧ cs.length = k ∧ Q cs d ∧ ReachP P d e := by
  rcases Deep.open_slice ht h with ⟨hcs, _⟩ | ⟨y, l, c, m, n', D, Pl, hcs, _, hl, _, hm, hx, hall⟩
  · simp at hcs
    obtain ⟨rfl, rfl, rfl⟩ := hcs
    exact ⟨by simp, fun i hi => by omega⟩
  · simp at hcs
    obtain ⟨rfl, rfl, rfl⟩ := hcs
    simp at hm
    subst hm
    rw [hx] at hr
    have hlen : len * z ≤ reachBytes := by
      have := hr _ (by simp only [DataW.weights, ht]; exact List.mem_cons_self ..)
      rw [hz] at this
      simp only [List.length_map, List.length_range] at this
      exact Nat.le_trans (Nat.mul_le_mul_right _ (Nat.le_add_right _ _)) this
    refine ⟨hlen, fun i hi => ?_⟩
    obtain ⟨cs', h1, h2⟩ := hall i (by omega)
    rw [hk] at h1
    obtain ⟨_, hlc, hc⟩ := World.cells?_some h1
    obtain ⟨b, off, spot⟩ := y
    have c0 := hc 0 (by omega)
    rw [List.getElem?_eq_getElem (by omega)] at c0
    have hspot : spot = none := by
      obtain ⟨cs0, h10, h20⟩ := hall 0 (by omega)
      rw [hk] at h10
      obtain ⟨_, hl0, hc0⟩ := World.cells?_some h10
      have z0 := hc0 0 (by omega)
      rw [List.getElem?_eq_getElem (by omega)] at z0
      simpa [Addr.add] using World.cell?_spot z0
    subst hspot
    simp only [Addr.add_lit, Nat.add_zero] at c0
    refine ⟨b, off, cs', D i, rfl, block_lt_of_cell c0, fun j v hj => ?_, hlc, hQ _ _ _ h2, fun m hm => ?_⟩
    · have hjl := (List.getElem?_eq_some_iff.1 hj).1
      have := hc j (by omega)
      rw [hj] at this
      simpa [Addr.add_lit] using this
    · refine hr m ?_
      simp only [DataW.weights, ht]
      refine List.mem_cons_of_mem _ (List.mem_append.2 (.inl ?_))
      exact weights_all (List.mem_map.2 ⟨i, by simpa using hi, rfl⟩) m hm
def schOfR (P : Program) : Nat → TypeId → Option Sch
  | 0, _ => none
  | n + 1, t => match P.underlying t with
    | some (.int .i64) => some .num
    | some .bool => some .flag
    | some (.slice e) => match P.underlying e with
      | some (.int .u8) => if P.cellsOf e = 1 ∧ P.bytesOf e = 1 then some .raw else none
      | _ => match schOfR P n e with
        | none => none
        | some s => if P.cellsOf e = s.size ∧ 0 < s.size then some (.list s) else none
    | some (.struct fs) => if offs P 0 fs.toList = true ∧ P.cellsOf t = (fs.toList.map fun g => P.cellsOf g.type).sum then (foldO (schOfR P n) (fs.toList.map (·.type))).map tup else none
    | _ => none

/-- Fields one behind the other, opened. -/
theorem open_fields_r {k : Nat} {f : TypeId → Option Sch} (hf : ∀ t s cs x, f t = some s → DataW.trod enc P W 0 (fun _ => true) true k t cs = some x → ReachP P x.1 t → ∃ v, s.Rep W (· < W.heap.size) cs v ∧ s.rawle 140737488351232 v) :
    ∀ (fs : List Field) (o : Nat) (cs : List Value) (xs : List (DataW H × List MemPlace)) (ss : List Sch), offs P o fs = true → foldO f (fs.map (·.type)) = some ss → xs.length = fs.length →
      (∀ (i : Nat) (g : Field), fs[i]? = some g → DataW.trod enc P W 0 (fun _ => true) true k g.type ((cs.drop g.offset).take (P.cellsOf g.type)) = xs[i]?) → (∀ (i : Nat) (g : Field) (x : DataW H × List MemPlace), fs[i]? = some g → xs[i]? = some x → ReachP P x.1 g.type) →
      cs.length = o + (fs.map fun g => P.cellsOf g.type).sum →
      ∃ v, (tup ss).Rep W (· < W.heap.size) (cs.drop o) v ∧ (tup ss).rawle 140737488351232 v
  | [], o, cs, xs, ss, _, h2, h3, _, _, h5 => by
    simp only [List.map_nil, foldO, Option.some.injEq] at h2
    subst h2
    simp only [List.map_nil, List.sum_nil, Nat.add_zero] at h5
    refine ⟨.unit, ⟨by rw [List.drop_eq_nil_of_le (by omega)], rfl⟩, trivial⟩
  | g :: r, o, cs, xs, ss, h1, h2, h3, h4, h6, h5 => by
    simp only [offs, Bool.and_eq_true, beq_iff_eq] at h1
    obtain ⟨h1, h1'⟩ := h1
    simp only [List.map_cons, foldO] at h2
    cases hs : f g.type with
    | none => simp [hs] at h2
    | some s =>
      cases hl : foldO f (r.map (·.type)) with
      | none => simp [hs, hl] at h2
      | some l =>
        obtain rfl : s :: l = ss := by simpa [hs, hl] using h2
        match xs, h3 with
        | x :: xr, h3 =>
          have h40 := h4 0 g rfl
          simp only [List.getElem?_cons_zero, h1] at h40
          obtain ⟨v, k1, k2⟩ := hf _ _ _ _ hs h40 (h6 0 g x rfl rfl)
          simp only [List.map_cons, List.sum_cons] at h5
          obtain ⟨v', m1, m2⟩ := open_fields_r hf r (o + P.cellsOf g.type) cs xr l h1' hl (by simpa using h3) (fun i g' hg' => by simpa using h4 (i + 1) g' (by simpa using hg')) (fun i g' y hg hy => h6 (i + 1) g' y (by simpa using hg) (by simpa using hy)) (by omega)
          refine ⟨.pair v v', ⟨_, _, _, _, ?_, rfl, k1, m1⟩, ?_⟩
          · rw [← List.drop_drop, List.take_append_drop]
          · exact ⟨k2, m2⟩

theorem open_sch_r : ∀ (m : Nat) (t : TypeId) (s : Sch) (n : Nat) (cs : List Value) (x : DataW H × List MemPlace), schOfR P m t = some s →
    DataW.trod enc P W 0 (fun _ => true) true n t cs = some x → ReachP P x.1 t → ∃ v, s.Rep W (· < W.heap.size) cs v ∧ s.rawle 140737488351232 v
  | 0, _, _, _, _, _, h, _, _ => by simp [schOfR] at h
  | m + 1, t, s, n, cs, x, h, hx, hr => by
    unfold schOfR at h
    split at h
    · rename_i hu
      obtain rfl : Sch.num = s := by simpa using h
      obtain ⟨k, rfl, _, _⟩ := DataW.trod_int hu hx
      exact ⟨_, ⟨k, rfl, rfl⟩, trivial⟩
    · rename_i hu
      obtain rfl : Sch.flag = s := by simpa using h
      obtain ⟨k, rfl, _⟩ := DataW.trod_bool hu hx
      exact ⟨_, ⟨k, rfl, rfl⟩, trivial⟩
    · rename_i e hu
      obtain ⟨a, len, cap, rfl⟩ : ∃ a len cap, cs = [.slice a len cap] := by
        rcases DataW.trod_slice hu hx with ⟨e, _⟩ | ⟨a, len, cap, _, _, _, _, e, _⟩
        · exact ⟨none, 0, 0, e⟩
        · exact ⟨some a, len, cap, e⟩
      split at h
      · rename_i he
        split at h
        · rename_i h1
          obtain rfl : Sch.raw = s := by simpa using h
          obtain ⟨l, rfl, _, _, q4, q5⟩ := open_bytes hu he h1.1 hx
          refine ⟨_, ⟨a, cap, l, rfl, rfl, q5⟩, ?_⟩
          have := (open_rows_r (Q := fun _ _ => True) hu h1.1 (by omega) h1.2 (fun _ _ _ _ => trivial) hx hr).1
          simp only [reachBytes] at this
          show l.length ≤ _
          omega
        · cases h
      · split at h
        · cases h
        · rename_i s' hs'
          split at h
          · rename_i h1
            obtain rfl : Sch.list s' = s := by simpa using h
            obtain ⟨_, q5⟩ := open_rows_r (Q := fun cs x => ReachP P x e → ∃ v, s'.Rep W (· < W.heap.size) cs v ∧ s'.rawle 140737488351232 v) hu h1.1 h1.2 rfl (fun n cs x hx hr => open_sch_r m e s' n cs x hs' hx hr) hx hr
            obtain ⟨f, hf⟩ := pick_all (α := Val) (p := fun i v => ∃ b o us, a = some ⟨b, o, none⟩ ∧ b < W.heap.size ∧ W.rangeAt b (o + i * s'.size) us ∧ s'.Rep W (· < W.heap.size) us v ∧ s'.rawle 140737488351232 v) len (fun i hi => by
              obtain ⟨b, o, cs, d, h1, h2, h3, _, hq, hd⟩ := q5 i hi
              obtain ⟨v, h4, h5⟩ := hq hd
              exact ⟨v, b, o, cs, h1, h2, h3, h4, h5⟩)
            refine ⟨.list ((List.range len).map f), ⟨a, cap, _, by simp, rfl, fun i y hy => ?_⟩, ?_⟩
            · have hi := (List.getElem?_eq_some_iff.1 hy).1
              simp only [List.length_map, List.length_range] at hi
              rw [List.getElem?_map, List.getElem?_range hi] at hy
              obtain rfl : f i = y := by simpa using hy
              obtain ⟨b, o, us, k1, k2, k3, k4, _⟩ := hf i hi
              exact ⟨b, o, us, k1, k2, k2, k3, k4⟩
            · intro y hy
              obtain ⟨i, hi, rfl⟩ := List.mem_map.1 hy
              obtain ⟨b, o, us, k1, k2, k3, k4, k5⟩ := hf i (by simpa using hi)
              exact k5
          · cases h
    · rename_i fs hu
      split at h
      · rename_i ho
        obtain ⟨ss, hss, rfl⟩ := Option.map_eq_some_iff.1 h
        obtain ⟨xs, k, _, rfl, hl, hlen, hf⟩ := DataW.trod_struct hu hx
        obtain ⟨v, k1, k2⟩ := open_fields_r (fun t s cs x h1 h2 h3 => open_sch_r m t s k cs x h1 h2 h3) fs.toList 0 cs xs ss ho.1 hss (by simpa using hlen) (fun i g hg => hf i g (by simpa using hg)) (fun i g y hg hy q hq => hr q (by
          simp only [DataW.weights, hu]
          exact DataW.weights_mem_each (j := i) (t := g.type) (d := y.1) (by rw [List.getElem?_map, hg]; rfl) (by rw [List.getElem?_map, hy]; rfl) q hq)) (by rw [hl, ho.2]; omega)
        exact ⟨v, by simpa using k1, k2⟩
      · cases h
    · cases h
/-- A list that was handed in. -/
theorem arg_list_r {t : TypeId} {m : Nat} {s : Sch} (hs : schOfR Try.prog m t = some s) {a : Option Addr} {len cap : Nat} {d : DataW H} {p : List MemPlace} (h : DataW.Trod enc Try.prog W 0 (fun _ => true) true t (.slice a len cap) d p) (hr : Reached d t) :
    ∃ v, s.Rep W (· < W.heap.size) [.slice a len cap] v ∧ s.rawle 140737488351232 v := by
  obtain ⟨k, hk⟩ := h
  exact open_sch_r m t s k _ _ hs hk hr
theorem msgs_cmax {l : List Val} (h : (Sch.list sMsg).rawle 140737488351232 (.list l)) (i : Nat) (x : Val) (hx : l[i]? = some x) : sMsg.cmax x ≤ 224000000000000 :=
  Nat.le_trans (Sch.cmax_cap sMsg x (h x (List.mem_of_getElem? hx))) (of_decide_eq_true (by kernel_rfl))
end
end Go.Proofs.Ythecincpejpmpaa
/- What NetAll needs: a row of messages that were sent, the flags, which are under way. -/
namespace Go.Lb
open Go Go.RowKit
variable {P : Program} {ops : Array Oper} {Q : Exit → Act → World → Prop} {S : World → Prop} {L : Nat} {r : List (Nat × Bool × Oper)} {a : Act} {w : World} {i : Nat} {o : Oper}
theorem lex_read_g (hw : Region.wanted o (yielded ops a.tmps) = true) (hS : S w) {v : Value} (h : ∀ w, S w → (execOp a.eval o).run P w = .ok (.value v) w) (hK : wpLexO P ops Q S L r (a.put o.dst v) w) : wpLexO P ops Q S L ((i, true, o) :: r) a w :=
  ⟨hS, v, .inl ⟨hw, h⟩, hK⟩
theorem lex_do_g (hw : Region.wanted o (yielded ops a.tmps) = true) (h : ∀ K : Act → World → Prop, (∀ a' w', (i ≠ L → S w') → wpLexO P ops Q S L r a' w' → K a' w') → o.wp P a w K Q) : wpLexO P ops Q S L ((i, false, o) :: r) a w := by
  unfold wpLexO
  rw [if_pos hw]
  exact h _ fun a' w' h1 h2 => ⟨h1, h2⟩
end Go.Lb
namespace Go.Proofs.Ythecincpejpmpaa
open Go.RowKit Go.Lb Go.Rc
theorem infoMsg : ∃ i, Try.prog.info? 58 = some i ∧ i.zero = some (.agg sMsg.zc.toArray) ∧ i.size = 46 ∧ i.bytes = 536 := by
  obtain ⟨i, h1, h2, h3, h4⟩ := info_parts (show (Try.prog.info? 58).map (fun i => (i.zero, i.size, i.bytes)) = some (some (.agg sMsg.zc.toArray), 46, 536) by kernel_rfl)
  exact ⟨i, h1, h2, h3, h4⟩
/-- Where a sending stands that keeps the messages: their cells xss in the slice v; Y: other blocks that will change. -/
structure SentM (w0 w : World) (p m : Nat) (v : Value) (P : List (Int × Val)) (xss : List (List Value)) (L : List Val) (X Y : List Nat) : Prop where
  row : w.ownsRow w0.heap.size 58 46 v P.length xss.flatten
  wid : ∀ x ∈ xss, x.length = 46
  cnt : xss.length = P.length
  rep : ∀ (j : Nat) (us : List Value) (q : Int × Val), xss[j]? = some us → P[j]? = some q → sMsg.Rep w0 (· < w0.heap.size) us q.2
  ctx : ∀ q ∈ P, nth 8 q.2 = .num q.1
  inc : ∀ (j k : Nat) (q r : Int × Val), j < k → P[j]? = some q → P[k]? = some r → q.1 < r.1
  net : PNet w p m L X (v.ownBlock.toList ++ Y)
  low : ∀ k ∈ X, w0.heap.size ≤ k
  upd : Upd [] w0 w
section
variable {w0 w w' : World} {p m : Nat} {v v' : Value} {P : List (Int × Val)} {xss : List (List Value)} {L L' : List Val} {X X' Y Y' : List Nat}
theorem SentM.same (h : SentM w0 w p m v P xss L X Y) (u : Upd [] w w') : SentM w0 w' p m v P xss L X Y :=
  ⟨u.row h.row (by simp), h.wid, h.cnt, h.rep, h.ctx, h.inc, h.net.same u (by simp) ownN_upd, h.low, h.upd.trans u (by simp)⟩
/-- Blocks of Y are changed. -/
theorem SentM.chg {F : List Nat} (h : SentM w0 w p m v P xss L X Y) (u : Upd F w w') (hF : ∀ k ∈ F, k ∈ Y ∧ w0.heap.size ≤ k ∧ v.ownBlock ≠ some k) : SentM w0 w' p m v P xss L X Y :=
  ⟨u.row h.row (fun k hk hf => (hF k hf).2.2 hk), h.wid, h.cnt, h.rep, h.ctx, h.inc, h.net.same u (fun k hk => List.mem_append.2 (.inr (hF k hk).1)) ownN_upd, h.low, h.upd.trans u (fun k hk => .inr (hF k hk).2.1)⟩
theorem SentM.call {F : List Nat} (h : SentM w0 w p m v P xss L X Y) (n : NetTo w X w' X') (hn : PNet w' p m L' X' (F ++ (v.ownBlock.toList ++ Y))) : SentM w0 w' p m v P xss L' X' Y :=
  ⟨n.upd.row h.row (fun k hk hx => h.net.lt.2.2.2 k hx (by simp [hk])), h.wid, h.cnt, h.rep, h.ctx, h.inc, hn.more (fun k hk => List.mem_append.2 (.inr hk)), n.low h.low h.upd.size, h.upd.trans n.upd (fun k hk => .inr (h.low k hk))⟩
theorem SentM.call0 (h : SentM w0 w p m v P xss L X Y) (n : NetTo w X w' X') (hn : PNet w' p m L' X' (v.ownBlock.toList ++ Y)) : SentM w0 w' p m v P xss L' X' Y := SentM.call (F := []) h n hn
theorem SentM.push {o : Obj} {i : Int} {x : Val} {us : List Value} (h : SentM w0 w p m v P xss L X []) (hx : nth 8 x = .num i) (hi : ∀ q ∈ P, q.1 < i) (hr : sMsg.Rep w0 (· < w0.heap.size) us x) (ho : w'.ownsRow w0.heap.size 58 46 v' (P.length + 1) (xss.flatten ++ us)) (hg : (w.alloc o).grownBy w' v.ownBlock) (hv : v'.ownBlock = v.ownBlock ∨ v'.ownBlock = some (w.alloc o).heap.size) : SentM w0 w' p m v' (P ++ [(i, x)]) (xss ++ [us]) L X [] := by
  have hlt := h.net.lt
  have hu : Upd v.ownBlock.toList w w' := ((Upd.refl _ w).alloc _).grown hg (fun k hk => .inl (by simp [hk]))
  have hc := h.cnt
  have split : ∀ (j : Nat) (q : Int × Val), (P ++ [(i, x)])[j]? = some q → (j < P.length ∧ P[j]? = some q) ∨ (j = P.length ∧ q = (i, x)) := fun j q hq => by
    by_cases hj : j < P.length
    · rw [List.getElem?_append_left hj] at hq
      exact .inl ⟨hj, hq⟩
    · have hl := (List.getElem?_eq_some_iff.1 hq).1
      simp only [List.length_append, List.length_singleton] at hl
      obtain rfl : j = P.length := by omega
      rw [List.getElem?_append_right (Nat.le_refl _), Nat.sub_self] at hq
      simp at hq
      exact .inr ⟨rfl, hq.symm⟩
  refine ⟨by rw [List.length_append, List.length_singleton, List.flatten_append, List.flatten_singleton]; exact ho, fun y hy => ?_, by simp [hc], fun j us' q h1 h2 => ?_, fun q hq => ?_, fun j k q r hjk h1 h2 => ?_, ?_, h.low, h.upd.trans hu (fun k hk => .inr (own_lo h.row (by simpa using hk)).1)⟩
  · rcases List.mem_append.1 hy with hy | hy
    · exact h.wid y hy
    · simp at hy; subst hy; exact hr.len
  · rcases split j q h2 with ⟨hj, h3⟩ | ⟨rfl, rfl⟩
    · rw [List.getElem?_append_left (by omega)] at h1
      exact h.rep j us' q h1 h3
    · rw [List.getElem?_append_right (by omega), hc, Nat.sub_self] at h1
      simp at h1
      subst h1
      exact hr
  · rcases List.mem_append.1 hq with hq | hq
    · exact h.ctx q hq
    · simp at hq; subst hq; exact hx
  · rcases split j q h1 with ⟨hj, h3⟩ | ⟨hj, rfl⟩
    · rcases split k r h2 with ⟨hk, h4⟩ | ⟨hk, rfl⟩
      · exact h.inc j k q r hjk h3 h4
      · exact hi q (List.mem_of_getElem? h3)
    · rcases split k r h2 with ⟨hk, h4⟩ | ⟨hk, rfl⟩ <;> omega
  · refine NetAt.by h.net ⟨hu.mono (fun k hk => .inl (by simpa using hk)), fun k hk => ?_⟩ ownN_upd (fun k hk => (own_lo ho (by simpa using hk)).2)
    rcases hv with h1 | h1
    · exact .inl (by rw [h1] at hk; exact hk)
    · rw [h1] at hk; simp at hk; exact .inr (by omega)
/-- Blocks that come are kept apart. -/
theorem SentM.wide {F : List Nat} (h : SentM w0 w p m v P xss L X Y) (u : Upd [] w w') (hF : ∀ k ∈ F, w.heap.size ≤ k ∧ k < w'.heap.size) : SentM w0 w' p m v P xss L X (Y ++ F) := by
  have hlt := h.net.lt
  refine ⟨u.row h.row (by simp), h.wid, h.cnt, h.rep, h.ctx, h.inc, NetAt.by h.net ⟨u.mono (by simp), fun k hk => ?_⟩ ownN_upd (fun k hk => ?_), h.low, h.upd.trans u (by simp)⟩
  · rw [← List.append_assoc] at hk
    rcases List.mem_append.1 hk with hk | hk
    · exact .inl hk
    · exact .inr (hF k hk).1
  · rw [← List.append_assoc] at hk
    rcases List.mem_append.1 hk with hk | hk
    · exact Nat.lt_of_lt_of_le (hlt.2.1 k hk) u.size
    · exact (hF k hk).2
end
theorem mem_erase_nodup {j i : Nat} : ∀ {idx : List Nat} {k : Nat}, idx.Nodup → idx[k]? = some j → (i ∈ idx.eraseIdx k ↔ i ∈ idx ∧ i ≠ j)
  | [], k, _, h => by simp at h
  | a :: l, 0, hn, h => by
    simp only [List.getElem?_cons_zero, Option.some.injEq] at h
    subst h
    rw [List.eraseIdx_cons_zero, List.mem_cons]
    have := (List.nodup_cons.1 hn).1
    constructor
    · intro hi; exact ⟨.inr hi, fun e => this (e ▸ hi)⟩
    · rintro ⟨rfl | h1, h2⟩
      · exact absurd rfl h2
      · exact h1
  | a :: l, k + 1, hn, h => by
    rw [List.getElem?_cons_succ] at h
    obtain ⟨h1, h2⟩ := List.nodup_cons.1 hn
    have ih := mem_erase_nodup (i := i) h2 h
    rw [List.eraseIdx_cons_succ, List.mem_cons, List.mem_cons, ih]
    have hj : j ∈ l := List.mem_of_getElem? h
    constructor
    · rintro (rfl | ⟨h3, h4⟩)
      · exact ⟨.inl rfl, fun e => h1 (e ▸ hj)⟩
      · exact ⟨.inr h3, h4⟩
    · rintro ⟨rfl | h3, h4⟩
      · exact .inl rfl
      · exact .inr ⟨h3, h4⟩
/-- Which are under way, and which were taken. -/
structure Way (q : Nat) (idx : List Nat) (T : Nat → Bool) : Prop where
  nodup : idx.Nodup
  lt : ∀ j ∈ idx, j < q
  flag : ∀ j, j < q → (T j = true ↔ j ∉ idx)
theorem Way.start (q : Nat) : Way q (List.range q) (fun _ => false) := ⟨List.nodup_range, fun j hj => List.mem_range.1 hj, fun j hj => by simp [hj]⟩
theorem Way.take {q k j : Nat} {idx : List Nat} {T : Nat → Bool} (h : Way q idx T) (hj : idx[k]? = some j) : Way q (idx.eraseIdx k) (fun i => if i = j then true else T i) := by
  have hmem : ∀ i, i ∈ idx.eraseIdx k ↔ i ∈ idx ∧ i ≠ j := fun i => mem_erase_nodup h.nodup hj
  refine ⟨h.nodup.sublist (List.eraseIdx_sublist _ _), fun i hi => h.lt i ((hmem i).1 hi).1, fun i hi => ?_⟩
  by_cases e : i = j
  · subst e; simp [hmem]
  · simp only [if_neg e, hmem]
    rw [h.flag i hi]
    simp [e]
end Go.Proofs.Ythecincpejpmpaa
