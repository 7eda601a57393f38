/- BrokerPlays: the broker and the reference together. -/
import Derived.Test.YtlebhaobfheocaaOne
import Derived.Test.YtlebhaobfheocaaRefUW
import Derived.Test.YtlebhaobfheocaaRefT
import Derived.Test.YtlebhaobfheocaaRefD
set_option linter.unusedVariables false
set_option linter.unusedSimpArgs false
namespace Go.Proofs.Ytlebhaobfheocaa
open Go.RowKit Go.Lb Go.Hp

structure Pl (w : World) (b r : Nat) (F G : List Nat) (R R' : List Rf) (wr : World) : Prop where
  st : St w b F R wr
  rb : RbIs wr r G R'
  sep : ∀ k ∈ F, k ∉ G
  gn : ∀ k ∈ G, w.heap.size ≤ k
  gl : ∀ k ∈ G, k < wr.heap.size
structure Sep (F G : List Nat) (q t : Nat) (vs : List Value) (wr : World) : Prop where
  blk : Blk wr q t vs
  f : q ∉ F
  g : q ∉ G
theorem Sep.any {F G : List Nat} {q t : Nat} {vs : List Value} {wr w' : World} (h : Sep F G q t vs wr) (u : Upd [] wr w') : Sep F G q t vs w' := ⟨u.blk h.blk (by simp), h.f, h.g⟩
theorem Pl.any {w wr w' : World} {b r : Nat} {F G : List Nat} {R R' : List Rf} (h : Pl w b r F G R R' wr) (u : Upd [] wr w') : Pl w b r F G R R' w' :=
  ⟨h.st.any u, h.rb.any u, h.sep, h.gn, fun k hk => Nat.lt_of_lt_of_le (h.gl k hk) u.size⟩
theorem Pl.new {w wr : World} {b r : Nat} {F G : List Nat} {R R' : List Rf} {t : Nat} {vs : List Value} {w' : World} (h : Pl w b r F G R R' wr) (hb : Blk w' wr.heap.size t vs) : Sep F G wr.heap.size t vs w' :=
  ⟨hb, h.st.free, fun hm => Nat.lt_irrefl _ (h.gl _ hm)⟩
theorem Pl.b {w wr w' : World} {b r : Nat} {F G : List Nat} {R R' R2 : List Rf} (h : Pl w b r F G R R' wr) (k : RPost wr b F R2 w') (i : Inv R2) : ∃ F', Pl w b r F' G R2 R' w' ∧ ∀ q t vs, Sep F G q t vs wr → Sep F' G q t vs w' := by
  obtain ⟨F', h1, h2, h3⟩ := h.st.go k i
  exact ⟨F', ⟨h1, h.rb.upd h2 (fun k hk hf => h.sep k hf hk), fun k hk hg => h3 k (h.gl k hg) (fun hf => h.sep k hf hg) hk, h.gn, fun k hk => Nat.lt_of_lt_of_le (h.gl k hk) h2.size⟩, fun q t vs hs => ⟨h2.blk hs.blk hs.f, h3 q hs.blk.lt hs.f, hs.g⟩⟩
theorem RbIs.foot {w : World} {r : Nat} {F : List Nat} {R : List Rf} (h : RbIs w r F R) : ∃ F', RbIs w r F' R ∧ ∀ k ∈ F', k ∈ F ∧ k < w.heap.size := by
  obtain ⟨v, h1, h2⟩ := h
  exact ⟨rfoot r v, ⟨v, h1, fun k hk => ⟨hk, (h2 k hk).2⟩⟩, h2⟩
theorem Pl.r {w wr w' : World} {b r : Nat} {F G : List Nat} {R R' R2 : List Rf} (h : Pl w b r F G R R' wr) (k : RbPost wr r G R2 w') : ∃ G', Pl w b r F G' R R2 w' ∧ ∀ q t vs, Sep F G q t vs wr → Sep F G' q t vs w' := by
  obtain ⟨G0, h0, h2, h3⟩ := k
  obtain ⟨G', h1, h4⟩ := h0.foot
  have hn : ∀ k, k < wr.heap.size → k ∉ G → k ∉ G' := fun k hk hg hm => by
    rcases h3 k (h4 k hm).1 with h5 | h5
    · exact hg h5
    · omega
  refine ⟨G', ⟨h.st.other h2 h.sep h.gn, h1, fun k hk => hn k (h.st.lt k hk) (h.sep k hk), fun k hk => ?_, fun k hk => (h4 k hk).2⟩, fun q t vs hs => ⟨h2.blk hs.blk hs.g, hs.f, hn q hs.blk.lt hs.g⟩⟩
  rcases h3 k (h4 k hk).1 with h5 | h5
  · exact h.gn k h5
  · have := h.st.upd.size; omega
theorem Pl.start {w wr : World} {b : Nat} {F : List Nat} (h : St w b F [] wr) : Pl w b wr.heap.size F [wr.heap.size] [] [] (wr.alloc (.cells #[.slice none 0 0] 51)) :=
  ⟨h.any ((Upd.refl _ _).alloc _), ⟨.slice none 0 0, ⟨Blk.new wr 51 [.slice none 0 0], World.ownsRow_nil _ _ _ _, by simp [Value.ownBlock]⟩, by simp [rfoot, Value.ownBlock]⟩,
    fun k hk hm => by have := h.lt k hk; simp at hm; omega, fun k hk => by have := h.upd.size; simp at hk; omega, fun k hk => by simp at hk; simp; omega⟩
theorem nd_doIt {R : List Rf} (h : (hw R).Nodup) (k wk : Int) (es : List Ev) : (hw (doIt k wk es R)).Nodup := by
  unfold doIt
  split; exact h.sublist (upd_hw R es)
  split; exact (deq_nd h wk).1
  split; exact h.sublist (hw_sub List.eraseP_sublist)
  split; exact h.sublist (nack_hw wk R)
  exact h.sublist (tick_hw R)
/-- Both have the same. -/
def PlR (w : World) (b r : Nat) (m : Nat) (wr : World) : Prop := ∃ F G R, Pl w b r F G R R wr ∧ R.length ≤ m ∧ (hw R).Nodup
def PlQ (w : World) (b r : Nat) (m q : Nat) (vs : List Value) (wr : World) : Prop := ∃ F G R, Pl w b r F G R R wr ∧ R.length ≤ m ∧ (hw R).Nodup ∧ Sep F G q 44 vs wr
theorem build51 (w : World) : (Instr.build 51 #[]).run Try.prog w = .ok (.agg #[.slice none 0 0]) w := by kernel_rfl
end Go.Proofs.Ytlebhaobfheocaa
