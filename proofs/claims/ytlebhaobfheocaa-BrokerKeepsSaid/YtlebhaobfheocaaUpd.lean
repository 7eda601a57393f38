/- Update: what it does to the items, in plain lists; what its steps leave. -/
import Derived.Test.YtlebhaobfheocaaDeq
import Derived.Carry
set_option linter.unusedVariables false
set_option linter.unusedSimpArgs false
namespace Go.Proofs.Ytlebhaobfheocaa
open Go.RowKit Go.Lb Go.Hp

/-- Is a job pending among the evaluations? -/
def pend (es : List Ev) (j : Int) : Bool := es.any fun e => e.st == 1 && e.job == j
def ofJob (j : Int) (x : Im) : Bool := x.ev.job == j

/-- What the evaluations make of the items, one after the other. -/
inductive Ups (L : List Im) : List Ev → List Im → Prop
  | nil : Ups L [] L
  | skip {es : List Ev} {L1 : List Im} {e : Ev} : Ups L es L1 → e.st ≠ 1 → Ups L (es ++ [e]) L1
  | new {es : List Ev} {L1 : List Im} {e : Ev} (p : Nat) : Ups L es L1 → e.st = 1 → (∀ x ∈ L1, ofJob e.job x = false) → p ∉ L1.map Im.p → Ups L (es ++ [e]) (L1 ++ [⟨p, e, 0, 0, false, 0, 0⟩])
  | had {es : List Ev} {L1 : List Im} {e : Ev} {i : Nat} {x : Im} : Ups L es L1 → e.st = 1 → L1[i]? = some x → ofJob e.job x = true → (∀ j y, j < i → L1[j]? = some y → ofJob e.job y = false) → x.had = true → Ups L (es ++ [e]) L1
  | set {es : List Ev} {L1 : List Im} {e : Ev} {i : Nat} {x : Im} : Ups L es L1 → e.st = 1 → L1[i]? = some x → ofJob e.job x = true → (∀ j y, j < i → L1[j]? = some y → ofJob e.job y = false) → x.had = false → Ups L (es ++ [e]) (setIm L1 { x with ev := e })
theorem Ups.len {L L' : List Im} {es : List Ev} (h : Ups L es L') : L'.length ≤ L.length + es.length := by
  induction h with
  | nil => simp
  | skip _ _ ih => simp; omega
  | new p _ _ _ _ ih => simp; omega
  | had _ _ _ _ _ _ ih => simp; omega
  | set _ _ _ _ _ _ ih => rw [setIm_len]; simp; omega

theorem pend_snoc (es : List Ev) (e : Ev) : pend (es ++ [e]) = fun j => pend es j || (e.st == 1 && e.job == j) := by
  funext j; simp [pend]

/-- A slice of evaluations that came in. -/
def EvRow (w : World) (a : Option Addr) (es : List Ev) : Prop := ∀ i e, es[i]? = some e → ∃ k o, a = some ⟨k, o, none⟩ ∧ k < w.heap.size ∧ w.rangeAt k (o + i * 4) e.vals
theorem EvRow.upd {w w' : World} {a : Option Addr} {es : List Ev} (h : EvRow w a es) {F : List Nat} (u : Upd F w w') (hF : ∀ ad, a = some ad → ad.block ∉ F) : EvRow w' a es := fun i e he => by
  obtain ⟨k, o, h1, h2, h3⟩ := h i e he
  refine ⟨k, o, h1, Nat.lt_of_lt_of_le h2 u.size, fun j v hj => ?_⟩
  rw [u.cell (a := ⟨k, o + i * 4 + j, none⟩) h2 (hF ⟨k, o, none⟩ h1)]
  exact h3 j v hj

/-- What is so between two evaluations. -/
structure UpI (w : World) (b : Nat) (fo : List Nat) (m q : Nat) (L : List Im) (es : List Ev) (wr : World) : Prop where
  ex : ∃ v Lr, Ups L es Lr ∧ BrAt wr b v Lr ∧ ∀ k ∈ foot b v Lr, k < wr.heap.size ∧ (k ∈ fo ∨ w.heap.size ≤ k) ∧ k ≠ m ∧ k ≠ q
  upd : Upd fo w wr
  set : SetIs wr m (pend es)
  cell : Blk wr q 56 [.map (some m)]
theorem UpI.any {w wr w' : World} {b m q : Nat} {fo : List Nat} {L : List Im} {es : List Ev} (h : UpI w b fo m q L es wr) (u : Upd [] wr w') : UpI w b fo m q L es w' := by
  obtain ⟨v, Lr, h1, h2, h3⟩ := h.ex
  exact ⟨⟨v, Lr, h1, h2.any u, fun k hk => ⟨Nat.lt_of_lt_of_le (h3 k hk).1 u.size, (h3 k hk).2⟩⟩, h.upd.trans u (by simp), h.set.upd u (by simp), u.blk h.cell (by simp)⟩
theorem UpI.skip {w wr : World} {b m q : Nat} {fo : List Nat} {L : List Im} {es : List Ev} {e : Ev} (h : UpI w b fo m q L es wr) (he : e.st ≠ 1) : UpI w b fo m q L (es ++ [e]) wr := by
  obtain ⟨v, Lr, h1, h2, h3⟩ := h.ex
  refine ⟨⟨v, Lr, h1.skip he, h2, h3⟩, h.upd, ?_, h.cell⟩
  rw [pend_snoc]
  have : (e.st == 1) = false := beq_eq_false_iff_ne.2 he
  simpa [this] using h.set

/-- The same, the map already telling of the next evaluation. -/
structure UpJ (w : World) (b : Nat) (fo : List Nat) (m q : Nat) (L : List Im) (es : List Ev) (e : Ev) (v : Value) (Lr : List Im) (wr : World) : Prop where
  ups : Ups L es Lr
  br : BrAt wr b v Lr
  ft : ∀ k ∈ foot b v Lr, k < wr.heap.size ∧ (k ∈ fo ∨ w.heap.size ≤ k) ∧ k ≠ m ∧ k ≠ q
  upd : Upd fo w wr
  set : SetIs wr m (pend (es ++ [e]))
  cell : Blk wr q 56 [.map (some m)]
theorem UpJ.any {w wr w' : World} {b m q : Nat} {fo : List Nat} {L Lr : List Im} {es : List Ev} {e : Ev} {v : Value} (h : UpJ w b fo m q L es e v Lr wr) (u : Upd [] wr w') : UpJ w b fo m q L es e v Lr w' :=
  ⟨h.ups, h.br.any u, fun k hk => ⟨Nat.lt_of_lt_of_le (h.ft k hk).1 u.size, (h.ft k hk).2⟩, h.upd.trans u (by simp), h.set.upd u (by simp), u.blk h.cell (by simp)⟩
theorem UpI.ins {w wr w' : World} {b m q : Nat} {fo : List Nat} {L : List Im} {es : List Ev} {e : Ev} (h : UpI w b fo m q L es wr) (he : e.st = 1) (hs : SetIs w' m (fun j => pend es j || j == e.job)) (u : Upd [m] wr w') (hm : w.heap.size ≤ m) (hq : q ≠ m) :
    ∃ v Lr, UpJ w b fo m q L es e v Lr w' := by
  obtain ⟨v, Lr, h1, h2, h3⟩ := h.ex
  refine ⟨v, Lr, h1, h2.upd u (fun k hk => by simpa using (h3 k hk).2.2.1), fun k hk => ⟨Nat.lt_of_lt_of_le (h3 k hk).1 u.size, (h3 k hk).2⟩, h.upd.trans u (fun k hk => .inr (by simp at hk; omega)), ?_, u.blk h.cell (by simpa using hq)⟩
  rw [pend_snoc]
  have : (fun j => pend es j || j == e.job) = fun j => pend es j || (e.st == 1 && e.job == j) := by
    funext j
    have : (e.st == 1) = true := by simp [he]
    rw [this, Bool.true_and, Bool.beq_comm]
  rw [← this]
  exact hs

theorem UpI.ins2 {w wr w3 w' : World} {b m q : Nat} {fo : List Nat} {L : List Im} {es : List Ev} {e : Ev} (h : UpI w b fo m q L es wr) (u3 : Upd [] wr w3) (he : e.st = 1) (hs : SetIs w' m (fun j => pend es j || j == e.job)) (u : Upd [m] w3 w') (hm : w.heap.size ≤ m) (hq : q ≠ m) :
    ∃ v Lr, UpJ w b fo m q L es e v Lr w' ∧ ∀ k ∈ foot b v Lr, k < wr.heap.size := by
  obtain ⟨v, Lr, h1, h2, h3⟩ := h.ex
  have hI : UpI w b fo m q L es w3 := h.any u3
  refine ⟨v, Lr, ⟨h1, (h2.any u3).upd u (fun k hk => by simpa using (h3 k hk).2.2.1), fun k hk => ⟨Nat.lt_of_lt_of_le (h3 k hk).1 (Nat.le_trans u3.size u.size), (h3 k hk).2⟩, hI.upd.trans u (fun k hk => .inr (by simp at hk; omega)), ?_, u.blk hI.cell (by simpa using hq)⟩, fun k hk => (h3 k hk).1⟩
  rw [pend_snoc]
  have : (fun j => pend es j || j == e.job) = fun j => pend es j || (e.st == 1 && e.job == j) := by
    funext j
    have : (e.st == 1) = true := by simp [he]
    rw [this, Bool.true_and, Bool.beq_comm]
  rw [← this]
  exact hs

theorem UpJ.had {w wr : World} {b m q i : Nat} {fo : List Nat} {L Lr : List Im} {es : List Ev} {e : Ev} {v : Value} {x : Im} (h : UpJ w b fo m q L es e v Lr wr) (he : e.st = 1) (h1 : Lr[i]? = some x) (h2 : ofJob e.job x = true) (h3 : ∀ j y, j < i → Lr[j]? = some y → ofJob e.job y = false) (h4 : x.had = true) :
    UpI w b fo m q L (es ++ [e]) wr := ⟨⟨v, Lr, h.ups.had he h1 h2 h3 h4, h.br, h.ft⟩, h.upd, h.set, h.cell⟩
theorem UpJ.put {w wr w' : World} {b m q i : Nat} {fo : List Nat} {L Lr : List Im} {es : List Ev} {e : Ev} {v : Value} {x : Im} (h : UpJ w b fo m q L es e v Lr wr) (he : e.st = 1) (h1 : Lr[i]? = some x) (h2 : ofJob e.job x = true) (h3 : ∀ j y, j < i → Lr[j]? = some y → ofJob e.job y = false) (h4 : x.had = false)
    (hB : Blk w' x.p 60 ({ x with ev := e } : Im).vals) (u : Upd [x.p] wr w') : UpI w b fo m q L (es ++ [e]) w' := by
  have hm := List.mem_of_getElem? h1
  have hf := h.ft x.p (by simp only [foot, List.mem_append]; exact .inr (List.mem_map.2 ⟨x, hm, rfl⟩))
  refine ⟨⟨v, setIm Lr { x with ev := e }, h.ups.set he h1 h2 h3 h4, h.br.set ⟨x, hm, rfl⟩ hB u, fun k hk => ?_⟩, h.upd.trans u (fun k hk => by simp at hk; subst hk; exact hf.2.1), h.set.upd u (by simpa using Ne.symm hf.2.2.1), u.blk h.cell (by simpa using Ne.symm hf.2.2.2)⟩
  rw [foot_set] at hk
  exact ⟨Nat.lt_of_lt_of_le (h.ft k hk).1 u.size, (h.ft k hk).2⟩
theorem UpJ.app {w wA W1 W2 w1 : World} {b m q p g cap : Nat} {fo : List Nat} {L Lr : List Im} {es : List Ev} {e : Ev} {v : Value} (h : UpJ w b fo m q L es e v Lr wA) (he : e.st = 1) (hn : ∀ x ∈ Lr, ofJob e.job x = false)
    (hm : m < wA.heap.size) (hq : q < wA.heap.size) (u1 : Upd [] wA W1) (hp : p = W1.heap.size) (hW2 : Upd [] W1 W2) (hB : Blk W2 p 60 (Im.vals ⟨p, e, 0, 0, false, 0, 0⟩))
    (ho : w1.ownsRow 0 58 1 (.slice (some ⟨g, 0, none⟩) (Lr.length + 1) cap) (Lr.length + 1) (ptrs Lr ++ [.pointer (some ⟨p, 0, none⟩)])) (hg : W2.grownBy w1 v.ownBlock) (hgb : v.ownBlock = some g ∨ g = W2.heap.size) (hlt : g < w1.heap.size) :
    UpI w b fo m q L (es ++ [e]) (w1.setCell ⟨b, 0, none⟩ (.slice (some ⟨g, 0, none⟩) (Lr.length + 1) cap)) := by
  have s1 := u1.size
  have s2 := hW2.size
  have s3 := hg.size
  have s0 := h.upd.size
  have uW : Upd [] wA W2 := u1.trans hW2 (by simp)
  have u3 : Upd v.ownBlock.toList wA w1 := (uW.mono (by simp)).grown hg (by intro k hk; simp [hk])
  have uS : Upd [b] w1 (w1.setCell ⟨b, 0, none⟩ (.slice (some ⟨g, 0, none⟩) (Lr.length + 1) cap)) := (Upd.refl _ _).setCell (by simp) _
  have hpl : p < W2.heap.size := hB.lt
  have hfo := h.ft
  have hfl : ∀ k ∈ foot b v Lr, k < wA.heap.size := fun k hk => (hfo k hk).1
  have hvf : ∀ k, v.ownBlock = some k → k ∈ foot b v Lr := fun k hk => by simp [foot, hk]
  have hxf : ∀ x ∈ Lr, x.p ∈ foot b v Lr := fun x hx => by simp only [foot, List.mem_append]; exact .inr (List.mem_map.2 ⟨x, hx, rfl⟩)
  have hbf : b ∈ foot b v Lr := by simp [foot]
  have hpv : v.ownBlock ≠ some p := fun e => by have := hfl _ (hvf _ e); omega
  have hpb : p ≠ b := fun e => by have := hfl _ hbf; omega
  have hB1 : Blk w1 p 60 _ := (hg.block p hpl (fun e => hpv e.symm)).trans hB
  have hgb2 : g ≠ b := by
    rcases hgb with e | e
    · intro e2; exact h.br.ne (by rw [e, e2])
    · intro e2; have := hfl _ hbf; omega
  have hgp : g ≠ p := by
    rcases hgb with e | e
    · intro e2; exact hpv (by rw [e, e2])
    · omega
  have gnew : v.ownBlock = some g ∨ wA.heap.size ≤ g := by
    rcases hgb with e | e
    · exact .inl e
    · exact .inr (by omega)
  refine ⟨⟨_, _, h.ups.new p he hn (fun hm => ?_), ⟨(u3.blk h.br.blk (by simpa using h.br.ne)).set 0 _, ?_, fun x hx => ?_, ?_, by simp [Value.ownBlock, hgb2], fun x hx => ?_⟩, fun k hk => ?_⟩, ?_, ?_, ?_⟩
  · obtain ⟨x, hx, e⟩ := List.mem_map.1 hm
    have := hfl _ (hxf x hx); omega
  · have := uS.row ho (by intro k hk; simp [Value.ownBlock] at hk; subst hk; simpa using hgb2)
    simpa [ptrs, Im.ptr] using this
  · rcases List.mem_append.1 hx with hx | hx
    · have ho := h.br.out x hx
      exact uS.blk (u3.blk (h.br.its x hx) (by simpa using ho.2)) (by simpa using ho.1)
    · obtain rfl : x = _ := by simpa using hx
      exact uS.blk hB1 (by simpa using hpb)
  · rw [List.map_append, List.nodup_append]
    refine ⟨h.br.nd, by simp, fun a ha c hc => ?_⟩
    obtain ⟨x, hx, rfl⟩ := List.mem_map.1 ha
    simp only [List.map_cons, List.map_nil, List.mem_singleton] at hc
    have := hfl _ (hxf x hx)
    omega
  · rcases List.mem_append.1 hx with hx | hx
    · refine ⟨(h.br.out x hx).1, ?_⟩
      simp only [Value.ownBlock, ne_eq, Option.some.injEq]
      rintro rfl
      rcases gnew with e | e
      · exact (h.br.out x hx).2 e
      · have := hfl _ (hxf x hx); omega
    · obtain rfl : x = _ := by simpa using hx
      exact ⟨hpb, by simpa [Value.ownBlock] using hgp⟩
  · simp only [World.size_setCell]
    simp only [foot, Value.ownBlock, Option.toList, List.mem_append, List.mem_cons, List.not_mem_nil, or_false, List.map_append, List.map_cons, List.map_nil] at hk
    have key : ∀ k, k ∈ foot b v Lr → k < w1.heap.size ∧ (k ∈ fo ∨ w.heap.size ≤ k) ∧ k ≠ m ∧ k ≠ q := fun k hk => ⟨by have := hfl k hk; omega, (hfo k hk).2⟩
    rcases hk with ((rfl | rfl) | hk | rfl)
    · exact key _ hbf
    · rcases gnew with e | e
      · exact ⟨hlt, (hfo _ (hvf _ e)).2⟩
      · exact ⟨hlt, .inr (by omega), by omega, by omega⟩
    · obtain ⟨x, hx, rfl⟩ := List.mem_map.1 hk
      exact key _ (hxf x hx)
    · exact ⟨by omega, .inr (by omega), by omega, by omega⟩
  · refine (h.upd.trans u3 (fun k hk => ?_)).trans uS (fun k hk => ?_)
    · have := (hfo k (hvf k (by simpa using hk))).2.1
      exact this
    · simp at hk; subst hk
      exact (hfo _ hbf).2.1
  · exact (h.set.upd u3 (fun hk => (hfo _ (hvf _ (by simpa using hk))).2.2.1 rfl)).upd uS (by simpa using fun e => (hfo _ hbf).2.2.1 e.symm)
  · exact uS.blk (u3.blk h.cell (fun hk => (hfo _ (hvf _ (by simpa using hk))).2.2.2 rfl)) (by simpa using fun e => (hfo _ hbf).2.2.2 e.symm)
theorem BPost.weak {w w' : World} {b : Nat} {F G : List Nat} {L : List Im} (h : BPost w b G L w') (hG : ∀ k ∈ G, k ∈ F ∨ w.heap.size ≤ k) : BPost w b F L w' := by
  obtain ⟨F', h1, h2, h3⟩ := h
  refine ⟨F', h1, h2.mono hG, fun k hk => ?_⟩
  rcases h3 k hk with h4 | h4
  · exact hG k h4
  · exact .inr h4
end Go.Proofs.Ytlebhaobfheocaa
