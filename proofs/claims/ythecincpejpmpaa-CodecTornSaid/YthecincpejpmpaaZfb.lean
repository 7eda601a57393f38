/- A part that several proofs lean on: texts one behind the other. No condition but those that each theorem states. -/
import Derived.Test.YthecincpejpmpaaZfa
import Derived.Test.YthecincpejpmpaaChecked
import Derived.IntWalk
import Derived.Laws.Bits64b
import Derived.Laws.Bits128
import Derived.Laws.BitsAllLaws
import Derived.Great.FillDense
set_option linter.unusedVariables false
set_option linter.unusedSimpArgs false
/- Records in memory: what cells read as, by the record's shape; what is kept. Over any program. -/
namespace Go.Rc
open Go Go.RowKit Go.Lb

def bv (n : Nat) : Value := .int .u8 (n : Int)
/-- A block of cells that may be written. -/
def Soft (w : World) (b : Nat) : Prop := ∃ c t, w.heap[b]? = some (.cells c t (0, 0))
theorem Soft.keep {w w' : World} {b : Nat} (h : Soft w b) (e : w'.heap[b]? = w.heap[b]?) : Soft w' b := by
  obtain ⟨c, t, h⟩ := h
  exact ⟨c, t, e.trans h⟩
theorem Soft.frozen {w : World} {b : Nat} (h : Soft w b) (o : Nat) : w.frozen? ⟨b, o, none⟩ = false := by
  obtain ⟨c, t, h⟩ := h
  simp [World.frozen?, h]
/-- A block that has come since, at n or behind, and may be written. -/
def Nw (n : Nat) (w : World) (b : Nat) : Prop := n ≤ b ∧ Soft w b
theorem Nw.go {n m : Nat} {w w' : World} {b : Nat} (h : Nw n w b) (hm : m ≤ n) (e : w'.heap[b]? = w.heap[b]?) : Nw m w' b := ⟨Nat.le_trans hm h.1, h.2.keep e⟩
theorem own_soft {w : World} {base n sz : Nat} {e : TypeId} {v : Value} {xs : List Value} (h : w.ownsRow base e sz v n xs) {g : Nat} (hg : v.ownBlock = some g) : Soft w g := by
  rcases h.2 with ⟨rfl, _⟩ | ⟨g', cap, cur, rfl, hb, h1, _⟩
  · simp [Value.ownBlock] at hg
  · simp [Value.ownBlock] at hg
    subst hg
    exact ⟨_, _, h1⟩
/-- Bytes in memory, in a block of which ok is said. -/
def Bytes (w : World) (ok : Nat → Prop) (a : Option Addr) (l : List Nat) : Prop :=
  ∀ i x, l[i]? = some x → x < 256 ∧ ∃ b o, a = some ⟨b, o, none⟩ ∧ ok b ∧ b < w.heap.size ∧ w.cell? ⟨b, o + i, none⟩ = some (bv x)
/-- Cells that read as a record. -/
def Sch.Rep (w : World) (ok : Nat → Prop) : Sch → List Value → Val → Prop
  | .nil, cs, v => cs = [] ∧ v = .unit
  | .num, cs, v => ∃ n : Int, cs = [.int .i64 n] ∧ v = .num n
  | .flag, cs, v => ∃ b : Bool, cs = [.bool b] ∧ v = .flag b
  | .raw, cs, v => ∃ (a : Option Addr) (c : Nat) (l : List Nat), cs = [.slice a l.length c] ∧ v = .raw l ∧ Bytes w ok a l
  | .list s, cs, v => ∃ (a : Option Addr) (c : Nat) (l : List Val), cs = [.slice a l.length c] ∧ v = .list l ∧
      ∀ i x, l[i]? = some x → ∃ b o us, a = some ⟨b, o, none⟩ ∧ ok b ∧ b < w.heap.size ∧ w.rangeAt b (o + i * s.size) us ∧ s.Rep w ok us x
  | .pair s t, cs, v => ∃ c1 c2 x y, cs = c1 ++ c2 ∧ v = .pair x y ∧ s.Rep w ok c1 x ∧ t.Rep w ok c2 y
/-- The cells of nothing. -/
def Sch.zc : Sch → List Value
  | .nil => []
  | .num => [.int .i64 0]
  | .flag => [.bool false]
  | .raw => [.slice none 0 0]
  | .list _ => [.slice none 0 0]
  | .pair s t => s.zc ++ t.zc

theorem Sch.zc_len : ∀ s : Sch, s.zc.length = s.size
  | .nil => rfl
  | .num => rfl
  | .flag => rfl
  | .raw => rfl
  | .list _ => rfl
  | .pair s t => by simp [Sch.zc, Sch.size, Sch.zc_len s, Sch.zc_len t]
theorem Sch.Rep.len {w : World} {ok : Nat → Prop} : ∀ {s : Sch} {cs : List Value} {v : Val}, s.Rep w ok cs v → cs.length = s.size
  | .nil, _, _, h => by obtain ⟨rfl, _⟩ := h; rfl
  | .num, _, _, h => by obtain ⟨_, rfl, _⟩ := h; rfl
  | .flag, _, _, h => by obtain ⟨_, rfl, _⟩ := h; rfl
  | .raw, _, _, h => by obtain ⟨_, _, _, rfl, _⟩ := h; rfl
  | .list _, _, _, h => by obtain ⟨_, _, _, rfl, _⟩ := h; rfl
  | .pair s t, _, _, h => by obtain ⟨c1, c2, x, y, rfl, _, h1, h2⟩ := h; simp [Sch.size, h1.len, h2.len]
theorem Sch.Rep.one {w : World} {ok : Nat → Prop} : ∀ {s : Sch} {cs : List Value} {v : Val}, s.Rep w ok cs v → ∀ u ∈ cs, u.oneCell' = true
  | .nil, _, _, h => by obtain ⟨rfl, _⟩ := h; simp
  | .num, _, _, h => by obtain ⟨_, rfl, _⟩ := h; intro u hu; simp at hu; subst hu; rfl
  | .flag, _, _, h => by obtain ⟨_, rfl, _⟩ := h; intro u hu; simp at hu; subst hu; rfl
  | .raw, _, _, h => by obtain ⟨_, _, _, rfl, _⟩ := h; intro u hu; simp at hu; subst hu; rfl
  | .list _, _, _, h => by obtain ⟨_, _, _, rfl, _⟩ := h; intro u hu; simp at hu; subst hu; rfl
  | .pair s t, _, _, h => by
    obtain ⟨c1, c2, x, y, rfl, _, h1, h2⟩ := h
    intro u hu
    rcases List.mem_append.1 hu with hu | hu
    · exact h1.one u hu
    · exact h2.one u hu
theorem Sch.zc_one : ∀ s : Sch, ∀ u ∈ s.zc, u.oneCell' = true
  | .nil => by simp [Sch.zc]
  | .num => by intro u hu; simp [Sch.zc] at hu; subst hu; rfl
  | .flag => by intro u hu; simp [Sch.zc] at hu; subst hu; rfl
  | .raw => by intro u hu; simp [Sch.zc] at hu; subst hu; rfl
  | .list _ => by intro u hu; simp [Sch.zc] at hu; subst hu; rfl
  | .pair s t => by
    intro u hu
    rcases List.mem_append.1 hu with hu | hu
    · exact Sch.zc_one s u hu
    · exact Sch.zc_one t u hu
theorem Sch.Rep.zero (w : World) (ok : Nat → Prop) : ∀ s : Sch, s.Rep w ok s.zc s.zero
  | .nil => ⟨rfl, rfl⟩
  | .num => ⟨0, rfl, rfl⟩
  | .flag => ⟨false, rfl, rfl⟩
  | .raw => ⟨none, 0, [], rfl, rfl, fun i x h => by simp at h⟩
  | .list s => ⟨none, 0, [], rfl, rfl, fun i x h => by simp at h⟩
  | .pair s t => ⟨_, _, _, _, rfl, rfl, Sch.Rep.zero w ok s, Sch.Rep.zero w ok t⟩

theorem rangeAt_keep {w w' : World} {b o : Nat} {cs : List Value} (h : w.rangeAt b o cs) (hb : w'.heap[b]? = w.heap[b]?) : w'.rangeAt b o cs := fun j v hj => by
  rw [World.cell?_of_block (a := ⟨b, o + j, none⟩) hb]; exact h j v hj
theorem Bytes.keep {w w' : World} {ok ok' : Nat → Prop} (hk : ∀ b, ok b → b < w.heap.size → ok' b ∧ w'.heap[b]? = w.heap[b]?) (hs : w.heap.size ≤ w'.heap.size) {a : Option Addr} {l : List Nat} (h : Bytes w ok a l) : Bytes w' ok' a l := fun i x hx => by
  obtain ⟨h1, b, o, h2, h3, h4, h5⟩ := h i x hx
  obtain ⟨k1, k2⟩ := hk b h3 h4
  exact ⟨h1, b, o, h2, k1, by omega, by rw [World.cell?_of_block (a := ⟨b, o + i, none⟩) k2]; exact h5⟩
theorem Sch.Rep.keep {w w' : World} {ok ok' : Nat → Prop} (hk : ∀ b, ok b → b < w.heap.size → ok' b ∧ w'.heap[b]? = w.heap[b]?) (hs : w.heap.size ≤ w'.heap.size) : ∀ {s : Sch} {cs : List Value} {v : Val}, s.Rep w ok cs v → s.Rep w' ok' cs v
  | .nil, _, _, h => h
  | .num, _, _, h => h
  | .flag, _, _, h => h
  | .raw, _, _, h => by
    obtain ⟨a, c, l, h1, h2, h3⟩ := h
    exact ⟨a, c, l, h1, h2, h3.keep hk hs⟩
  | .list s, _, _, h => by
    obtain ⟨a, c, l, h1, h2, h3⟩ := h
    refine ⟨a, c, l, h1, h2, fun i x hx => ?_⟩
    obtain ⟨b, o, us, k1, k2, k3, k4, k5⟩ := h3 i x hx
    obtain ⟨m1, m2⟩ := hk b k2 k3
    exact ⟨b, o, us, k1, m1, by omega, rangeAt_keep k4 m2, Sch.Rep.keep hk hs k5⟩
  | .pair s t, _, _, h => by
    obtain ⟨c1, c2, x, y, h1, h2, h3, h4⟩ := h
    exact ⟨c1, c2, x, y, h1, h2, Sch.Rep.keep hk hs h3, Sch.Rep.keep hk hs h4⟩
theorem Sch.Rep.upd {F : List Nat} {w w' : World} {ok : Nat → Prop} {s : Sch} {cs : List Value} {v : Val} (h : s.Rep w ok cs v) (u : Upd F w w') (hF : ∀ b, ok b → b ∉ F) : s.Rep w' ok cs v :=
  h.keep (fun b hb hl => ⟨hb, u.block b hl (hF b hb)⟩) u.size
theorem Sch.Rep.mono {w : World} {ok ok' : Nat → Prop} {s : Sch} {cs : List Value} {v : Val} (h : s.Rep w ok cs v) (hk : ∀ b, ok b → b < w.heap.size → ok' b) : s.Rep w ok' cs v :=
  h.keep (fun b hb hl => ⟨hk b hb hl, rfl⟩) (Nat.le_refl _)
theorem Bytes.upd {F : List Nat} {w w' : World} {ok : Nat → Prop} {a : Option Addr} {l : List Nat} (h : Bytes w ok a l) (u : Upd F w w') (hF : ∀ b, ok b → b ∉ F) : Bytes w' ok a l :=
  h.keep (fun b hb hl => ⟨hb, u.block b hl (hF b hb)⟩) u.size
theorem Sch.Rep.updN {F : List Nat} {w w' : World} {n : Nat} {s : Sch} {cs : List Value} {v : Val} (h : s.Rep w (Nw n w) cs v) (u : Upd F w w') (hF : ∀ b, n ≤ b → b ∉ F) : s.Rep w' (Nw n w') cs v :=
  h.keep (fun b hb hl => ⟨hb.go (Nat.le_refl _) (u.block b hl (hF b hb.1)), u.block b hl (hF b hb.1)⟩) u.size
theorem Bytes.updN {F : List Nat} {w w' : World} {n : Nat} {a : Option Addr} {l : List Nat} (h : Bytes w (Nw n w) a l) (u : Upd F w w') (hF : ∀ b, n ≤ b → b ∉ F) : Bytes w' (Nw n w') a l :=
  h.keep (fun b hb hl => ⟨hb.go (Nat.le_refl _) (u.block b hl (hF b hb.1)), u.block b hl (hF b hb.1)⟩) u.size
theorem Bytes.nil (w : World) (ok : Nat → Prop) (a : Option Addr) : Bytes w ok a [] := fun i x h => by simp at h

theorem Sch.Rep.tup_nil {w : World} {ok : Nat → Prop} {cs : List Value} {v : Val} (h : (tup []).Rep w ok cs v) : cs = [] ∧ v = vtup [] := h
theorem Sch.Rep.tup_cons {w : World} {ok : Nat → Prop} {s : Sch} {l : List Sch} {cs : List Value} {v : Val} (h : (tup (s :: l)).Rep w ok cs v) : ∃ c1 c2 x y, cs = c1 ++ c2 ∧ v = .pair x y ∧ s.Rep w ok c1 x ∧ (tup l).Rep w ok c2 y := h
theorem Sch.Rep.tup_mk {w : World} {ok : Nat → Prop} {s : Sch} {l : List Sch} {c1 c2 : List Value} {x : Val} {y : List Val} (h : s.Rep w ok c1 x) (k : (tup l).Rep w ok c2 (vtup y)) : (tup (s :: l)).Rep w ok (c1 ++ c2) (vtup (x :: y)) := ⟨_, _, _, _, rfl, rfl, h, k⟩
theorem Sch.Rep.tup_end {w : World} {ok : Nat → Prop} : (tup []).Rep w ok [] (vtup []) := ⟨rfl, rfl⟩
theorem Sch.Rep.num_mk {w : World} {ok : Nat → Prop} (n : Int) : Sch.num.Rep w ok [.int .i64 n] (.num n) := ⟨n, rfl, rfl⟩
theorem Sch.Rep.flag_mk {w : World} {ok : Nat → Prop} (b : Bool) : Sch.flag.Rep w ok [.bool b] (.flag b) := ⟨b, rfl, rfl⟩

/-- A cell that is written as it was. -/
theorem setCell_same {w : World} {b : Nat} {t : TypeId} {vs : List Value} (h : Blk w b t vs) {o : Nat} {v : Value} (hv : vs[o]? = some v) : w.setCell ⟨b, o, none⟩ v = w := by
  have hl := (List.getElem?_eq_some_iff.1 hv).1
  have hx := (List.getElem?_eq_some_iff.1 hv).2
  have hb := h.lt
  have e : w.heap.modify b (fun | .cells c elem frozen => .cells (if (⟨b, o, none⟩ : Addr).spot.isSome then c else c.setIfInBounds o v) elem frozen | o => o) = w.heap := by
    refine Array.ext (by simp) fun i h1 h2 => ?_
    rw [Array.getElem_modify]
    split
    · rename_i e
      subst e
      have hh : w.heap[b] = .cells vs.toArray t (0, 0) := by
        unfold Blk at h
        rw [Array.getElem?_eq_getElem hb] at h
        exact Option.some.inj h
      rw [hh]
      simp only [Option.isSome_none, Bool.false_eq_true, if_false]
      congr 1
      refine Array.ext (by simp) fun j j1 j2 => ?_
      rw [Array.getElem_setIfInBounds (by simpa using j2)]
      split
      · rename_i e; subst e; simp [hx]
      · rfl
    · rfl
  exact congrArg (fun h => ({ w with heap := h } : World)) e

/-- What is kept: nothing below B and nothing in X has changed. -/
structure Kp (B : Nat) (X : List Nat) (w w' : World) : Prop where
  os : w'.os = w.os
  tape : w'.tape = w.tape
  output : w'.output = w.output
  size : w.heap.size ≤ w'.heap.size
  block : ∀ k, k < w.heap.size → (k < B ∨ k ∈ X) → w'.heap[k]? = w.heap[k]?
section
variable {B : Nat} {X : List Nat} {w w' w2 : World}
theorem Kp.refl (B : Nat) (X : List Nat) (w : World) : Kp B X w w := ⟨rfl, rfl, rfl, Nat.le_refl _, fun _ _ _ => rfl⟩
theorem Kp.trans (h : Kp B X w w') (k : Kp B X w' w2) : Kp B X w w2 :=
  ⟨k.os.trans h.os, k.tape.trans h.tape, k.output.trans h.output, Nat.le_trans h.size k.size, fun b hb hx => (k.block b (Nat.lt_of_lt_of_le hb h.size) hx).trans (h.block b hb hx)⟩
theorem Kp.of_upd {F : List Nat} (h : Upd F w w') (hF : ∀ k ∈ F, B ≤ k ∧ k ∉ X) : Kp B X w w' :=
  ⟨h.os, h.tape, h.output, h.size, fun k hk hx => h.block k hk (fun hf => by have := hF k hf; rcases hx with h1 | h1; omega; exact this.2 h1)⟩
theorem Kp.of_nil (h : Upd [] w w') : Kp B X w w' := Kp.of_upd h (by simp)
theorem Kp.weak {Y : List Nat} (h : Kp B Y w w') (hY : ∀ k ∈ X, k < w.heap.size → k ∈ Y ∨ k < B) : Kp B X w w' :=
  ⟨h.os, h.tape, h.output, h.size, fun k hk hx => h.block k hk (by rcases hx with h1 | h1; exact .inl h1; rcases hY k h1 hk with h2 | h2; exact .inr h2; exact .inl h2)⟩
theorem Kp.drop {x : Nat} (h : Kp B (x :: X) w w') : Kp B X w w' := h.weak (fun k hk _ => .inl (by simp [hk]))
theorem Kp.upd (h : Kp w.heap.size X w w') : Upd [] w w' := ⟨h.os, h.tape, h.output, h.size, fun k hk _ => h.block k hk (.inl hk)⟩
theorem Kp.blk (h : Kp B X w w') {b : Nat} {t : TypeId} {vs : List Value} (hb : Blk w b t vs) (hs : b < B ∨ b ∈ X) : Blk w' b t vs := (h.block b hb.lt hs).trans hb
theorem Kp.cell (h : Kp B X w w') {b o : Nat} (hb : b < w.heap.size) (hs : b < B ∨ b ∈ X) : w'.cell? ⟨b, o, none⟩ = w.cell? ⟨b, o, none⟩ := World.cell?_of_block (h.block b hb hs)
theorem Kp.rep (h : Kp B X w w') {s : Sch} {cs : List Value} {v : Val} {ok : Nat → Prop} (hr : s.Rep w ok cs v) (hok : ∀ b, ok b → b < B ∨ b ∈ X) : s.Rep w' ok cs v :=
  hr.keep (fun b hb hl => ⟨hb, h.block b hl (hok b hb)⟩) h.size
end

/-- Bytes that are being written: block f holds their slice and the mark; mk lays its cells. -/
structure OutAt (T U : TypeId) (mk : Value → Bool → List Value) (w : World) (f : Nat) (v : Value) (o : List Nat) (b : Bool) : Prop where
  blk : Blk w f T (mk v b)
  row : w.ownsRow 0 U 1 v o.length (o.map bv)
  ne : v.ownBlock ≠ some f
  byte : ∀ x ∈ o, x < 256
/-- So, apart from what lies below B and in X. -/
def St (T U : TypeId) (mk : Value → Bool → List Value) (B : Nat) (X : List Nat) (w : World) (f : Nat) (o : List Nat) (b : Bool) : Prop :=
  (∀ x ∈ X, x < w.heap.size) ∧ ∃ v, OutAt T U mk w f v o b ∧ ∀ k ∈ f :: v.ownBlock.toList, B ≤ k ∧ k ∉ X ∧ k < w.heap.size
section
variable {T U : TypeId} {mk : Value → Bool → List Value} {B : Nat} {X F : List Nat} {w w' : World} {f : Nat} {v : Value} {o : List Nat} {b : Bool}
theorem OutAt.upd (h : OutAt T U mk w f v o b) (u : Upd F w w') (hF : ∀ k ∈ f :: v.ownBlock.toList, k ∉ F) : OutAt T U mk w' f v o b :=
  ⟨u.blk h.blk (hF f (by simp)), u.row h.row (fun k hk => hF k (by simp [hk])), h.ne, h.byte⟩
theorem St.upd (h : St T U mk B X w f o b) (u : Upd F w w') (hF : ∀ k ∈ F, k ∈ X ∨ k < B) : St T U mk B X w' f o b := by
  obtain ⟨hX, v, h1, h2⟩ := h
  refine ⟨fun x hx => Nat.lt_of_lt_of_le (hX x hx) u.size, v, h1.upd u (fun k hk hf => ?_), fun k hk => ⟨(h2 k hk).1, (h2 k hk).2.1, Nat.lt_of_lt_of_le (h2 k hk).2.2 u.size⟩⟩
  have := h2 k hk
  rcases hF k hf with h3 | h3
  · exact this.2.1 h3
  · omega
theorem St.same (h : St T U mk B X w f o b) (u : Upd [] w w') : St T U mk B X w' f o b := h.upd u (by simp)
/-- A block that has come since is left alone from now on. -/
theorem St.new (h : St T U mk B X w f o b) (u : Upd [] w w') {x : Nat} (hx : w.heap.size ≤ x) (hx' : x < w'.heap.size) : St T U mk B (x :: X) w' f o b := by
  obtain ⟨hX, v, h1, h2⟩ := h
  refine ⟨fun y hy => ?_, v, h1.upd u (by simp), fun k hk => ⟨(h2 k hk).1, ?_, Nat.lt_of_lt_of_le (h2 k hk).2.2 u.size⟩⟩
  · rcases List.mem_cons.1 hy with rfl | hy
    · exact hx'
    · exact Nat.lt_of_lt_of_le (hX y hy) u.size
  · have := h2 k hk
    rw [List.mem_cons]
    rintro (h3 | h3)
    · omega
    · exact this.2.1 h3
theorem St.less {x : Nat} (h : St T U mk B (x :: X) w f o b) : St T U mk B X w f o b := by
  obtain ⟨hX, v, h1, h2⟩ := h
  exact ⟨fun y hy => hX y (by simp [hy]), v, h1, fun k hk => ⟨(h2 k hk).1, fun hx => (h2 k hk).2.1 (by simp [hx]), (h2 k hk).2.2⟩⟩
theorem St.fresh (h : St T U mk B X w f o b) : w.heap.size ∉ X := fun hx => absurd (h.1 _ hx) (by omega)
theorem St.base (h : St T U mk B X w f o b) : B ≤ w.heap.size := by
  obtain ⟨_, v, h1, h2⟩ := h
  have := h2 f (by simp); omega
end

/-- Bytes that are being read: block f holds their slice and the mark; mk lays its cells. What is read lies below B. -/
structure In (T : TypeId) (mk : Value → Bool → List Value) (B : Nat) (w : World) (f : Nat) (l : List Nat) (b : Bool) (a : Option Addr) (c : Nat) : Prop where
  blk : Blk w f T (mk (.slice a l.length c) b)
  byte : Bytes w (· < B) a l
  cap : l.length ≤ c ∧ c ≤ maxLen
  low : B ≤ f
def Rs (T : TypeId) (mk : Value → Bool → List Value) (B : Nat) (w : World) (f : Nat) (l : List Nat) (b : Bool) : Prop := ∃ a c, In T mk B w f l b a c
theorem In.upd {T : TypeId} {mk : Value → Bool → List Value} {B : Nat} {w w' : World} {f : Nat} {l : List Nat} {b : Bool} {a : Option Addr} {c : Nat} {F : List Nat} (h : In T mk B w f l b a c) (u : Upd F w w') (hF : ∀ k ∈ F, k ≠ f ∧ B ≤ k) : In T mk B w' f l b a c :=
  ⟨u.blk h.blk (fun hf => (hF f hf).1 rfl), h.byte.upd u (fun k hk hf => by have := (hF k hf).2; omega), h.cap, h.low⟩
theorem Rs.upd {T : TypeId} {mk : Value → Bool → List Value} {B : Nat} {w w' : World} {f : Nat} {l : List Nat} {b : Bool} {F : List Nat} (h : Rs T mk B w f l b) (u : Upd F w w') (hF : ∀ k ∈ F, k ≠ f ∧ B ≤ k) : Rs T mk B w' f l b := by
  obtain ⟨a, c, h⟩ := h
  exact ⟨a, c, h.upd u hF⟩

section
variable {P : Program} {w : World}
theorem exec_sliceAt {o : Oper} {a : Act} {t : TypeId} {x : Operand} {lo hi : Option Operand} {v u : Value} {l h : Option Value} (ho : o.op = .slice t x lo hi none) (hx : a.eval x = v) (hl : lo.map a.eval = l) (hh : hi.map a.eval = h) (hr : (Instr.sliceAt t v l h none).run P w = .ok u w) :
    (execOp a.eval o).run P w = .ok (.value u) w := by
  subst hx hl hh
  unfold execOp
  simp only [ho, Sem.run_bind, hr, Result.andThen_ok, Sem.run_pure, Option.map_none]
theorem sizeOf_run {e : TypeId} {i : TypeInfo} (hi : P.info? e = some i) : (Go.sizeOf e).run P w = .ok i.size w := by simp [Go.sizeOf, typeInfo, hi]
variable {ok : Nat → Prop} {t e : TypeId} {i : TypeInfo} (ht : P.underlying t = some (.slice (P.elem t))) (he : P.elem t = e) (hi : P.info? e = some i) (h1 : i.size = 1)
include ht he hi h1
/-- Bytes from place k on. -/
theorem bytes_from {a : Option Addr} {c : Nat} {l : List Nat} (h : Bytes w ok a l) (k : Nat) (hk : k ≤ l.length) (hc : l.length ≤ c) :
    ∃ a' c', (Instr.sliceAt t (.slice a l.length c) (some (.int .i64 (k : Int))) none none).run P w = .ok (.slice a' (l.length - k) c') w ∧ Bytes w ok a' (l.drop k) ∧ l.length - k ≤ c' ∧ c' ≤ c := by
  refine ⟨if c = k then a else a.map (·.add (k * 1)), c - k, ?_, ?_, by omega, by omega⟩
  · rw [run_sliceAt_slice _ _ _ _ _ _ ht, run_slice_l w t a l.length c ht .i64 (k : Int) (by omega) (by omega), he, sizeOf_run hi, h1]
    simp [Result.andThen, sliced]
  · intro j x hx
    rw [List.getElem?_drop] at hx
    have hj := (List.getElem?_eq_some_iff.1 hx).1
    obtain ⟨h1, b, o, h2, h3, h4, h5⟩ := h _ x hx
    rw [if_neg (by omega), h2]
    refine ⟨h1, b, o + k, ?_, h3, h4, ?_⟩
    · simp [Addr.add]
    · rw [← h5]; congr 2; omega
/-- The first k bytes. -/
theorem bytes_to {a : Option Addr} {c : Nat} {l : List Nat} (h : Bytes w ok a l) (k : Nat) (hk : k ≤ l.length) (hc : l.length ≤ c) :
    ∃ a', (Instr.sliceAt t (.slice a l.length c) none (some (.int .i64 (k : Int))) none).run P w = .ok (.slice a' k c) w ∧ Bytes w ok a' (l.take k) := by
  refine ⟨if c = 0 then a else a.map (·.add (0 * 1)), ?_, ?_⟩
  · rw [run_sliceAt_slice _ _ _ _ _ _ ht, run_slice_h w t a l.length c ht .i64 (k : Int) (by omega) (by omega), he, sizeOf_run hi, h1]
    simp [Result.andThen, sliced]
  · intro j x hx
    rw [List.getElem?_take] at hx
    split at hx
    · obtain ⟨h1, b, o, h2, h3, h4, h5⟩ := h _ x hx
      refine ⟨h1, b, o, ?_, h3, h4, h5⟩
      rw [h2]; split <;> simp [Addr.add]
    · cases hx
end
end Go.Rc
/- What the walks share: the program's types, the state of a form (codec), of an Out and an In (reference). -/
namespace Go.Proofs.Ythecincpejpmpaa
open Go.RowKit Go.Lb Go.Rc

theorem infoU8 : ∃ i, Try.prog.info? 5 = some i ∧ i.zero = some (.int .u8 0) ∧ i.size = 1 ∧ i.bytes = 1 := by
  obtain ⟨i, h1, h2, h3, h4⟩ := info_parts (show (Try.prog.info? 5).map (fun i => (i.zero, i.size, i.bytes)) = some (some (.int .u8 0), 1, 1) by kernel_rfl)
  exact ⟨i, h1, h2, h3, h4⟩
/-- A form's cells when it writes. -/
def cW (v : Value) (b : Bool) : List Value := [v, .bool false, .bool b]
def oW (v : Value) (b : Bool) : List Value := [v, .bool b]
/-- A form that writes. -/
abbrev Fw (B : Nat) (X : List Nat) (w : World) (f : Nat) (o : List Nat) (b : Bool) : Prop := St 113 5 cW B X w f o b
abbrev Ow (B : Nat) (X : List Nat) (w : World) (f : Nat) (o : List Nat) (b : Bool) : Prop := St 96 5 oW B X w f o b

def cR (v : Value) (b : Bool) : List Value := [v, .bool true, .bool b]
/-- A form that reads. -/
abbrev Fr (B : Nat) (w : World) (f : Nat) (l : List Nat) (b : Bool) : Prop := Rs 113 cR B w f l b
section
variable {w wA w1 w' : World} {base e n : Nat} {v v' : Value} {xs : List Value}
theorem own_shape (h : w.ownsRow base e 1 v n xs) : ∃ a c, v = .slice a n c := by
  rcases h.2 with ⟨rfl, rfl⟩ | ⟨g, cap, cur, rfl, _⟩
  · exact ⟨none, 0, rfl⟩
  · exact ⟨_, _, rfl⟩
theorem own_bd (h : w.ownsRow base e 1 v n xs) : v.ownBlock.toList.length ≤ 1 ∧ n ≤ maxLen := by
  rcases h.2 with ⟨rfl, rfl⟩ | ⟨g, cap, cur, rfl, h1, h2, h3, h4, _⟩
  · exact ⟨by simp [Value.ownBlock], by omega⟩
  · exact ⟨by simp [Value.ownBlock], by omega⟩
variable {T U : TypeId} {mk : Value → Bool → List Value} {B : Nat} {X : List Nat} {f : Nat} {o news : List Nat} {b b' : Bool}
/-- More bytes have been appended, and the slice stored. -/
theorem out_more (hmk : ∀ v v' b, (mk v b).set 0 v' = mk v' b) (h : OutAt T U mk wA f v o b) (hs : ∀ k ∈ f :: v.ownBlock.toList, B ≤ k ∧ k ∉ X ∧ k < wA.heap.size) (hX : ∀ k ∈ X, k < wA.heap.size)
    (hn : ∀ x ∈ news, x < 256) (hr : w1.ownsRow 0 U 1 v' (o.length + news.length) (o.map bv ++ news.map bv)) (g : wA.grownBy w1 v.ownBlock) (hv : v'.ownBlock = v.ownBlock ∨ v'.ownBlock = some wA.heap.size) :
    St T U mk B X (w1.setCell ⟨f, 0, none⟩ v') f (o ++ news) b ∧ Kp B X wA (w1.setCell ⟨f, 0, none⟩ v') := by
  have hf := hs f (by simp)
  have hB : B ≤ wA.heap.size := by omega
  have hb1 : Blk w1 f T (mk v b) := (g.block f hf.2.2 (fun e => h.ne e.symm)).trans h.blk
  have hne : v'.ownBlock ≠ some f := by
    rcases hv with hv | hv <;> rw [hv]
    · exact h.ne
    · intro e; simp at e; omega
  have uS : Upd [f] w1 (w1.setCell ⟨f, 0, none⟩ v') := (Upd.refl _ _).setCell (by simp) _
  have hl : ∀ k, v'.ownBlock = some k → k < w1.heap.size := fun k hk => by
    rcases hr.2 with ⟨rfl, _⟩ | ⟨g', cap, cur, rfl, _, hg, _⟩
    · simp [Value.ownBlock] at hk
    · simp [Value.ownBlock] at hk; subst hk; exact lt_of_block hg
  refine ⟨⟨fun x hx => by have := hX x hx; have := g.size; simp; omega, v', ⟨?_, ?_, hne, ?_⟩, fun k hk => ?_⟩, ?_⟩
  · have := hb1.set 0 v'
    rwa [hmk] at this
  · refine uS.row ?_ (fun k hk => ?_)
    · simpa using hr
    · simp only [List.mem_singleton]; rintro rfl; exact hne hk
  · intro x hx
    rcases List.mem_append.1 hx with hx | hx
    · exact h.byte x hx
    · exact hn x hx
  · have hsz := g.size
    rcases List.mem_cons.1 hk with rfl | hk
    · exact ⟨hf.1, hf.2.1, by simp; omega⟩
    · have hk' : v'.ownBlock = some k := by simpa using hk
      rcases hv with hv | hv
      · have := hs k (by rw [hv] at hk'; simp [hk'])
        exact ⟨this.1, this.2.1, by simp; omega⟩
      · rw [hv] at hk'
        obtain rfl : wA.heap.size = k := by simpa using hk'
        exact ⟨hB, fun hx => by have := hX _ hx; omega, by have := hl _ hv; simpa using this⟩
  · refine ⟨g.os, g.tape, g.output, by simpa using g.size, fun k hk hx => ?_⟩
    have h1 : k ≠ f := by rintro rfl; rcases hx with h2 | h2; omega; exact hf.2.1 h2
    rw [uS.block k (Nat.lt_of_lt_of_le hk g.size) (by simpa using h1)]
    refine g.block k hk (fun e => ?_)
    have := hs k (by simp [← e])
    rcases hx with h2 | h2
    · omega
    · exact this.2.1 h2
/-- The same, as a walk meets it. -/
theorem out_step (hmk : ∀ v v' b, (mk v b).set 0 v' = mk v' b) (hm0 : ∀ v b, (mk v b)[0]? = some v) (h : OutAt T U mk w f v o b) (hs : ∀ k ∈ f :: v.ownBlock.toList, B ≤ k ∧ k ∉ X ∧ k < w.heap.size) (hX : ∀ k ∈ X, k < w.heap.size) (u : Upd [] w wA)
    (hn : ∀ x ∈ news, x < 256) (hr : w1.ownsRow 0 U 1 v' (o.length + news.length) (o.map bv ++ news.map bv)) (g : wA.grownBy w1 v.ownBlock) (hv : v'.ownBlock = v.ownBlock ∨ v'.ownBlock = some wA.heap.size) :
    (St T U mk B X (w1.setCell ⟨f, 0, none⟩ v') f (o ++ news) b ∧ Kp B X w (w1.setCell ⟨f, 0, none⟩ v')) ∧ w1.cell? ⟨f, 0, none⟩ = some v ∧ w1.frozen? ⟨f, 0, none⟩ = false ∧ f < w1.heap.size := by
  have hA := h.upd u (by simp)
  obtain ⟨h1, h2⟩ := out_more hmk hA (fun k hk => ⟨(hs k hk).1, (hs k hk).2.1, Nat.lt_of_lt_of_le (hs k hk).2.2 u.size⟩) (fun k hk => Nat.lt_of_lt_of_le (hX k hk) u.size) hn hr g hv
  have hb1 : Blk w1 f T (mk v b) := (g.block f hA.blk.lt (fun e => h.ne e.symm)).trans hA.blk
  exact ⟨⟨h1, (Kp.of_nil u).trans h2⟩, hb1.cell (hm0 v b), hb1.frozen 0, hb1.lt⟩
/-- The mark is set. -/
theorem out_mark {i : Nat} (hmk : ∀ v b b', (mk v b).set i (.bool b') = mk v b') (h : St T U mk B X w f o b) (b' : Bool) : St T U mk B X (w.setCell ⟨f, i, none⟩ (.bool b')) f o b' ∧ Kp B X w (w.setCell ⟨f, i, none⟩ (.bool b')) := by
  obtain ⟨hX, v, h, hs⟩ := h
  have hf := hs f (by simp)
  have uS : Upd [f] w (w.setCell ⟨f, i, none⟩ (.bool b')) := (Upd.refl _ _).setCell (by simp) _
  refine ⟨⟨fun x hx => by simpa using hX x hx, v, ⟨?_, ?_, h.ne, h.byte⟩, fun k hk => ⟨(hs k hk).1, (hs k hk).2.1, by simpa using (hs k hk).2.2⟩⟩, Kp.of_upd uS (fun k hk => ?_)⟩
  · have := h.blk.set i (.bool b')
    rwa [hmk] at this
  · exact uS.row h.row (fun k hk => by simp only [List.mem_singleton]; rintro rfl; exact h.ne hk)
  · simp at hk; subst hk; exact ⟨hf.1, hf.2.1⟩
end
end Go.Proofs.Ythecincpejpmpaa
/- Small arithmetic of machine words, as the walks spell it. No program. -/
namespace Go.Rc
open Go

theorem xor_max (x : Nat) (hx : x < 18446744073709551616) : 18446744073709551615 ^^^ x = 18446744073709551615 - x := by
  have h : (BitVec.allOnes 64 ^^^ BitVec.ofNat 64 x).toNat = 2 ^ 64 - 1 - x := by
    rw [BitVec.allOnes_xor, BitVec.toNat_not, BitVec.toNat_ofNat, Nat.mod_eq_of_lt (by simpa using hx)]
  rw [BitVec.toNat_xor, BitVec.toNat_allOnes, BitVec.toNat_ofNat, Nat.mod_eq_of_lt (by simpa using hx)] at h
  simpa using h
theorem u64_max : IntKind.u64.max = ((18446744073709551615 : Nat) : Int) := by decide
theorem zig_neg {n : Int} (h : -maxN ≤ n) (h0 : n < 0) : bits .xor .u64 IntKind.u64.max (IntKind.u64.wrap (IntKind.u64.wrap n * 2)) = (zig n : Int) := by
  unfold maxN at h
  have e : IntKind.u64.wrap (IntKind.u64.wrap n * 2) = ((18446744073709551616 - (-2 * n).toNat : Nat) : Int) := by
    rw [IntKind.wrap_u64, IntKind.wrap_u64]; omega
  rw [e, u64_max, bits_xor_u64_nat _ _ (by decide) (by omega), xor_max _ (by omega)]
  unfold zig
  rw [if_neg (by omega)]
  omega
theorem zig_pos {n : Int} (h0 : ¬ n < 0) : n * 2 = (zig n : Int) := by
  unfold zig
  rw [if_pos (by omega)]; omega
theorem zig_le {n : Int} (h : -maxN ≤ n ∧ n ≤ maxN) : zig n ≤ 2199023255552 := by
  unfold maxN at h
  unfold zig
  split <;> omega
theorem or128 (u : Nat) : bits .or .u8 (IntKind.u8.wrap (u : Int)) 128 = ((128 + u % 128 : Nat) : Int) := by
  have e : IntKind.u8.wrap (u : Int) = ((u % 256 : Nat) : Int) := by
    simp [IntKind.wrap, IntKind.bits, IntKind.signed]
  have e2 : (128 : Int) = ((128 : Nat) : Int) := rfl
  rw [e, e2, u8_or_nat _ _ (by omega) (by decide)]
  congr 1
  have h1 : 128 ||| (u % 256) % 128 = 128 + (u % 256) % 128 := by
    have := Nat.shiftLeft_add_eq_or_of_lt (b := (u % 256) % 128) (i := 7) (by omega) 1
    simpa using this.symm
  have h2 : (u % 256) ||| 128 = 128 ||| (u % 256) % 128 := by
    apply Nat.eq_of_testBit_eq
    intro i
    rw [Nat.testBit_or, Nat.testBit_or]
    by_cases hi : i < 7
    · have : (u % 256 % 2 ^ 7).testBit i = (u % 256).testBit i := by rw [Nat.testBit_mod_two_pow]; simp [hi]
      rw [show (u % 256 % 128) = u % 256 % 2 ^ 7 by rfl, this, Bool.or_comm]
    · by_cases h7 : i = 7
      · subst h7
        have : (128 : Nat).testBit 7 = true := by decide
        rw [this]; simp
      · have : ((u % 256) % 128).testBit i = false := Nat.testBit_lt_two_pow (Nat.lt_of_lt_of_le (Nat.mod_lt _ (by decide)) (by have : 2 ^ 7 ≤ 2 ^ i := Nat.pow_le_pow_right (by decide) (by omega); simpa using this))
        have h3 : (u % 256).testBit i = false := Nat.testBit_lt_two_pow (Nat.lt_of_lt_of_le (Nat.mod_lt _ (by decide)) (by have : 2 ^ 8 ≤ 2 ^ i := Nat.pow_le_pow_right (by decide) (by omega); simpa using this))
        rw [this, h3]; simp
  rw [h2, h1]
  omega
theorem wrap_u8 (u : Int) : IntKind.u8.wrap u = u % 256 := by simp [IntKind.wrap, IntKind.bits, IntKind.signed]
theorem or128' (u : Nat) : bits .or .u8 ((u : Int) % 256) 128 = ((128 + u % 128 : Nat) : Int) := by rw [← wrap_u8]; exact or128 u
theorem and127 (x : Nat) (hx : x < 256) : bits .and .u8 (x : Int) 127 = ((x % 128 : Nat) : Int) := by
  have e2 : (127 : Int) = ((127 : Nat) : Int) := rfl
  rw [e2, u8_and_nat _ _ hx (by decide)]
  congr 1
  exact Nat.and_two_pow_sub_one_eq_mod x 7
theorem or_shift {u x i : Nat} (hu : u < 128 ^ i) (hx : x < 256) (hi : i < 6) :
    bits .or .u64 (u : Int) (IntKind.u64.wrap (IntKind.u64.wrap (bits .and .u8 (x : Int) 127) * 2 ^ (7 * i))) = ((u + x % 128 * 128 ^ i : Nat) : Int) := by
  have hp : (128 : Nat) ^ i = 2 ^ (7 * i) := by rw [Nat.pow_mul]
  have hle : (128 : Nat) ^ i ≤ 128 ^ 5 := Nat.pow_le_pow_right (by decide) (by omega)
  have h5 : (128 : Nat) ^ 5 = 34359738368 := by decide
  have hm : x % 128 < 128 := Nat.mod_lt _ (by decide)
  have hml : x % 128 * 128 ^ i ≤ 127 * 34359738368 := Nat.mul_le_mul (by omega) (by omega)
  have e1 : IntKind.u64.wrap (bits .and .u8 (x : Int) 127) = ((x % 128 : Nat) : Int) := by
    rw [and127 x hx, IntKind.wrap_u64]; omega
  have e2 : ((x % 128 : Nat) : Int) * 2 ^ (7 * i) = ((x % 128 * 128 ^ i : Nat) : Int) := by rw [hp]; simp
  rw [e1, e2]
  have e3 : IntKind.u64.wrap ((x % 128 * 128 ^ i : Nat) : Int) = ((x % 128 * 128 ^ i : Nat) : Int) := by rw [IntKind.wrap_u64]; omega
  rw [e3, bits_or_u64_nat _ _ (by omega) (by omega)]
  congr 1
  rw [hp] at hu ⊢
  have := Nat.shiftLeft_add_eq_or_of_lt hu (x % 128)
  rw [Nat.shiftLeft_eq] at this
  rw [Nat.or_comm, ← this, Nat.add_comm]
theorem not_i64 (a : Nat) (ha : a < 9223372036854775808) : bits .xor .i64 (-1) (a : Int) = -1 - (a : Int) := by
  have h1 : (BitVec.ofInt 64 (-1)) = BitVec.allOnes 64 := by decide
  have h2 : (BitVec.ofInt 64 (a : Int)).toNat = a := by
    rw [BitVec.ofInt_natCast, BitVec.toNat_ofNat]; exact Nat.mod_eq_of_lt (by omega)
  show IntKind.i64.wrap ((BitVec.ofInt 64 (-1) ^^^ BitVec.ofInt 64 (a : Int)).toNat : Int) = _
  rw [h1, BitVec.allOnes_xor, BitVec.toNat_not, h2, IntKind.wrap_i64]
  omega
theorem zag_odd {u : Nat} (h : u % 2 = 1) (hl : u ≤ 8796093022208) : bits .xor .i64 (-1) ((u : Int) / 2) = zag u := by
  have e : (u : Int) / 2 = ((u / 2 : Nat) : Int) := by omega
  rw [e]
  have h1 : bits .xor .i64 (-1) ((u / 2 : Nat) : Int) = -1 - ((u / 2 : Nat) : Int) := not_i64 (u / 2) (by omega)
  rw [h1]
  unfold zag
  rw [if_pos h]; omega
theorem zag_even {u : Nat} (h : u % 2 = 0) : (u : Int) / 2 = zag u := by
  unfold zag
  rw [if_neg (by omega)]
theorem and1 (u : Nat) (hl : u ≤ 8796093022208) : bits .and .u64 (u : Int) 1 = ((u % 2 : Nat) : Int) := by
  have e2 : (1 : Int) = ((1 : Nat) : Int) := rfl
  rw [e2, bits_and_u64_nat _ _ (by omega) (by decide)]
  congr 1
  exact Nat.and_two_pow_sub_one_eq_mod u 1
end Go.Rc
/- codec's form.read. -/
namespace Go.Proofs.Ythecincpejpmpaa
open Go.RowKit Go.Lb Go.Rc

theorem Try.elem22 : Try.prog.elem 22 = 5 := by kernel_rfl
def ReadPost (B f : Nat) (l : List Nat) (b : Bool) (w : World) (e : Ending) (w' : World) : Prop :=
  ∃ (n : Int) (l' : List Nat) (b' : Bool), e = .returned (.int .i64 n) ∧ Fr B w' f l' b' ∧ Upd [f] w w' ∧ ROk nget l b n l' b'

section
variable {B f : Nat} {l : List Nat} {b : Bool} {w : World} {a a' : Option Addr} {c c' i : Nat} {z : Int}
theorem read_none (h : In 113 cR B w f l b a c) (hn : nget l = none) : ReadPost B f l b w (.returned (.int .i64 0)) (w.setCell ⟨f, 2, none⟩ (.bool true)) := by
  have uS : Upd [f] w (w.setCell ⟨f, 2, none⟩ (.bool true)) := (Upd.refl _ _).setCell (by simp) _
  refine ⟨0, l, true, rfl, ⟨a, c, ⟨h.blk.set 2 (.bool true), h.byte.upd uS (fun k hk => ?_), h.cap, h.low⟩⟩, uS, ⟨fun h => (by cases h), fun _ => .inr hn⟩⟩
  have := h.low
  simp; omega
theorem read_some (h : In 113 cR B w f l b a c) (hB : Bytes w (· < B) a' (l.drop (i + 1))) (hc : l.length - (i + 1) ≤ c' ∧ c' ≤ c) (hn : nget l = some (z, l.drop (i + 1))) :
    ReadPost B f l b w (.returned (.int .i64 z)) (w.setCell ⟨f, 0, none⟩ (.slice a' (l.length - (i + 1)) c')) := by
  have uS : Upd [f] w (w.setCell ⟨f, 0, none⟩ (.slice a' (l.length - (i + 1)) c')) := (Upd.refl _ _).setCell (by simp) _
  refine ⟨z, l.drop (i + 1), b, rfl, ⟨a', c', ⟨?_, hB.upd uS (fun k hk => ?_), ?_, h.low⟩⟩, uS, ⟨fun h => ⟨h, hn⟩, .inl⟩⟩
  · rw [List.length_drop]; exact h.blk.set 0 _
  · have := h.low
    simp; omega
  · have := h.cap
    simp; omega
theorem read_cut (h : In 113 cR B w f l b a c) (hB : Bytes w (· < B) a' (l.drop (i + 1))) (hc : l.length - (i + 1) ≤ c' ∧ c' ≤ c) (hn : nget l = none) :
    ReadPost B f l b w (.returned (.int .i64 0)) ((w.setCell ⟨f, 0, none⟩ (.slice a' (l.length - (i + 1)) c')).setCell ⟨f, 2, none⟩ (.bool true)) := by
  have uS : Upd [f] w ((w.setCell ⟨f, 0, none⟩ (.slice a' (l.length - (i + 1)) c')).setCell ⟨f, 2, none⟩ (.bool true)) := ((Upd.refl _ _).setCell (by simp) _).setCell (by simp) _
  refine ⟨0, l.drop (i + 1), true, rfl, ⟨a', c', ⟨?_, hB.upd uS (fun k hk => ?_), ?_, h.low⟩⟩, uS, ⟨fun h => (by cases h), fun _ => .inr hn⟩⟩
  · rw [List.length_drop]; exact (h.blk.set 0 _).set 2 _
  · have := h.low
    simp; omega
  · have := h.cap
    simp; omega
end

set_option maxRecDepth 20000 in
set_option maxHeartbeats 4000000 in
theorem read_post (B f : Nat) (l : List Nat) (b : Bool) (w : World) (h : Fr B w f l b) :
    Calls Try.prog 95 #[.pointer (some ⟨f, 0, none⟩)] w (ReadPost B f l b w) := by
  obtain ⟨i5, hi5, hz0, hz1, hz2⟩ := infoU8
  obtain ⟨a, c, h⟩ := h
  have H := Lib.hid h
  have c0 := h.blk.cell (o := 0) rfl
  have c2 := h.blk.cell (o := 2) rfl
  have hfz := h.blk.frozen 0
  have hfz2 := h.blk.frozen 2
  have hlt := h.blk.lt
  obtain ⟨hc1, hc2⟩ := h.cap
  unfold maxLen at hc2
  clear h
  go_enter Try.func95, Try.ntmps95
  go_wp2_with fail
  go_loopg [3, 4] 6 (fun g s t wr => ∃ (i : Nat), t = .int .i64 i ∧ 6 - i = g ∧ i ≤ 6 ∧ i ≤ l.length ∧ s = .int .u64 (val (l.take i)) ∧ (∀ x ∈ l.take i, 128 ≤ x) ∧ wr = w)
  case atStart => exact ⟨0, rfl, rfl, by omega, by omega, by simp [val], by simp, rfl⟩
  case round =>
    obtain ⟨i, rfl, hg, hi6, hil, rfl, hall, rfl⟩ := hrel
    have HA := Lib.hid hall
    have HG := Lib.hid hg
    clear hall hg
    by_cases hlt6 : i < 6
    · have t6 : decide ((i : Int) < 6) = true := by simp; omega
      by_cases hll : i < l.length
      · have tl : decide (i < l.length) = true := by simp; omega
        obtain ⟨x, hx⟩ : ∃ x, l[i]? = some x := ⟨_, List.getElem?_eq_getElem hll⟩
        obtain ⟨hx2, d, o, rfl, hdB, hdl, hcell⟩ := H.out.byte i x hx
        have HX := Lib.hid hx
        have hv : val (l.take i) < 128 ^ i := by
          have := val_lt (l.take i)
          rwa [show (l.take i).length = i by simp; omega] at this
        have hor := or_shift (x := x) hv hx2 hlt6
        have hv2 : val (l.take i) + x % 128 * 128 ^ i < 128 ^ (i + 1) := by
          have h1 : x % 128 * 128 ^ i ≤ 127 * 128 ^ i := Nat.mul_le_mul_right _ (by omega)
          rw [Nat.pow_succ]; omega
        have hv3 : (128 : Nat) ^ (i + 1) ≤ 128 ^ 6 := Nat.pow_le_pow_right (by decide) (by omega)
        have h6 : (128 : Nat) ^ 6 = 4398046511104 := by decide
        have HS := Lib.hid (val_snoc (l.take i) x)
        have hsn : l.take (i + 1) = l.take i ++ [x] := take_snoc hx
        have HSN := Lib.hid hsn
        obtain ⟨u2, hu2⟩ : ∃ u2, u2 = val (l.take i) + x % 128 * 128 ^ i := ⟨_, rfl⟩
        rw [← hu2] at hor hv2
        have HU2 := Lib.hid hu2
        have hu2l : u2 ≤ 8796093022208 := by omega
        clear hx hu2 hv hv3 h6 hsn hv2
        unfold bv at hcell
        go_upto_if 36 with fail
        by_cases hx128 : x < 128
        · have tx : decide ((128 : Int) ≤ (x : Int)) = false := by simp; omega
          obtain ⟨a', c', hsl, hB', hcc⟩ := bytes_from (P := Try.prog) (t := 22) (by rw [Try.elem22]; exact Try.underlying22) Try.elem22 hi5 hz1 H.out.byte (i + 1) (by omega) H.out.cap.1
          rw [show ((i + 1 : Nat) : Int) = (i : Int) + 1 from by omega] at hsl
          have HSL := Lib.hid hsl
          have HB' := Lib.hid hB'
          clear hsl hB'
          have hng := nget_at HX.out HA.out hlt6 hx128
          rw [show x * 128 ^ i = x % 128 * 128 ^ i by rw [Nat.mod_eq_of_lt hx128], ← HU2.out] at hng
          have HNG := Lib.hid hng
          clear hng
          obtain ⟨z, hz⟩ : ∃ z, z = zag u2 := ⟨_, rfl⟩
          have hpar : (bits BinOp.and IntKind.u64 (u2 : Int) 1 = 1 ∧ bits .xor .i64 (-1) ((u2 : Int) / 2) = z) ∨ (bits BinOp.and IntKind.u64 (u2 : Int) 1 = 0 ∧ (u2 : Int) / 2 = z) := by
            rw [and1 u2 hu2l]
            rcases Nat.mod_two_eq_zero_or_one u2 with h | h
            · right; exact ⟨by rw [h]; rfl, by rw [hz, zag_even h]⟩
            · left; exact ⟨by rw [h]; rfl, by rw [hz, zag_odd h hu2l]⟩
          have HZ := Lib.hid hz
          clear hz
          have HP := Lib.hid hpar
          clear hpar
          go_upto_if 52 with (refine wpList_run (o := ⟨some 44, .slice 22 (.tmp 41) (some (.tmp 43)) none none, _, _, _, _⟩) rfl (exec_sliceAt (by rfl) (by rfl) (by rfl) (by rfl) HSL.out) ?_)
          rcases HP.out with ⟨p1, p2⟩ | ⟨p1, p2⟩
          all_goals
            clear hor c0 hcell tl t6 tx HP
            by_cases hxz : 0 < i ∧ x = 0
            · have HF := Lib.hid (read_cut (i := i) H.out HB'.out hcc (by rw [HNG.out, if_pos hxz]))
              obtain ⟨hi0, hx0⟩ := hxz
              have ti : decide ((0 : Int) < (i : Int)) = true := by simp; omega
              have ti2 : ((x : Int) == 0) = true := by rw [beq_iff_eq]; omega
              have ti3 : decide (x = 0) = true := by simpa using hx0
              have ti4 : decide (0 < i) = true := by simpa using hi0
              clear hx0
              subst p2
              go_wp2_with fail
              refine bodyPost_ret (results_tmp rfl _ _ _) rfl ?_
              exact HF.out
            · have ti : (decide ((0 : Int) < (i : Int)) = false ∧ decide (0 < i) = false ∧ ¬ 0 < i) ∨ (decide ((0 : Int) < (i : Int)) = true ∧ decide (0 < i) = true ∧ ((x : Int) == 0) = false ∧ ¬ x = 0) := by
                by_cases hi0 : 0 < i
                · right
                  refine ⟨by simpa using hi0, by simpa using hi0, ?_, by omega⟩
                  rw [beq_eq_false_iff_ne]; omega
                · left; exact ⟨by simp; omega, by simpa using hi0, hi0⟩
              by_cases hr : -maxN ≤ z ∧ z ≤ maxN
              · have HF := Lib.hid (read_some (i := i) H.out HB'.out hcc (by rw [HNG.out, if_neg hxz, ← HZ.out, if_pos hr]))
                unfold maxN at hr
                obtain ⟨hr1, hr2⟩ := hr
                have tz1 : decide (z < -1099511627776) = false := by simp; omega
                have tz2 : decide (1099511627776 < z) = false := by simp; omega
                clear hxz
                rcases ti with ⟨ti, ti2, ti3⟩ | ⟨ti, ti2, ti3, ti4⟩
                all_goals
                  subst p2
                  go_wp2_with fail
                  refine bodyPost_ret (results_tmp rfl _ _ _) rfl ?_
                  exact HF.out
              · have HF := Lib.hid (read_cut (i := i) H.out HB'.out hcc (by rw [HNG.out, if_neg hxz, ← HZ.out, if_neg hr]))
                unfold maxN at hr
                have tz : (decide (z < -1099511627776) = true) ∨ (decide (z < -1099511627776) = false ∧ decide (1099511627776 < z) = true) := by
                  by_cases h1 : z < -1099511627776
                  · left; simpa using h1
                  · right; refine ⟨by simpa using h1, by simp; omega⟩
                clear hxz hr
                rcases ti with ⟨ti, ti2, ti3⟩ | ⟨ti, ti2, ti3, ti4⟩ <;> rcases tz with tz | ⟨tz, tz2⟩
                all_goals
                  subst p2
                  go_wp2_with fail
                  all_goals first
                    | (refine bodyPost_ret (results_tmp rfl _ _ _) rfl ?_; exact HF.out)
                    | (exfalso; simp only [decide_eq_true_eq, decide_eq_false_iff_not] at *; omega)
        · have tx : decide ((128 : Int) ≤ (x : Int)) = true := by simp; omega
          go_wp2_with fail
          go_roundg (6 - (i + 1))
          case measure => have := HG.out; omega
          case rel => exact ⟨i + 1, by go_num, rfl, by omega, by omega, by rw [HSN.out, HS.out, show (l.take i).length = i by simp; omega, ← HU2.out], fun y hy => by
            rw [HSN.out] at hy
            rcases List.mem_append.1 hy with hy | hy
            · exact HA.out y hy
            · simp at hy; omega, rfl⟩
      · have tl : decide (i < l.length) = false := by simp; omega
        have HF := Lib.hid (read_none H.out (nget_end HA.out hi6 hil (.inr (by omega))))
        go_wp2_with fail
        refine bodyPost_ret (results_tmp rfl _ _ _) rfl ?_
        exact HF.out
    · have t6 : decide ((i : Int) < 6) = false := by simp; omega
      have HF := Lib.hid (read_none H.out (nget_end HA.out hi6 hil (.inl (by omega))))
      go_wp2_with fail
      refine bodyPost_ret (results_tmp rfl _ _ _) rfl ?_
      exact HF.out
end Go.Proofs.Ythecincpejpmpaa
/- codec's form.num, writing. -/
namespace Go.Proofs.Ythecincpejpmpaa
open Go.RowKit Go.Lb Go.Rc

set_option maxRecDepth 20000 in
set_option maxHeartbeats 1000000 in
theorem num_wb (B : Nat) (X : List Nat) (f p q : Nat) (n : Int) (o : List Nat) (b : Bool) (w : World) (h : Fw B X w f o b) (hp : w.cell? ⟨p, q, none⟩ = some (.int .i64 n)) (hn : ¬ (-maxN ≤ n ∧ n ≤ maxN)) :
    Calls Try.prog 80 #[.pointer (some ⟨f, 0, none⟩), .pointer (some ⟨p, q, none⟩)] w fun e w' => e = .returned (.tuple #[]) ∧ Fw B X w' f o true ∧ Kp B X w w' := by
  have HM := Lib.hid (out_mark (i := 2) (fun _ _ _ => rfl) h true)
  obtain ⟨hX, v, h, hs⟩ := h
  have c1 := h.blk.cell (o := 1) rfl
  have c2 := h.blk.cell (o := 2) rfl
  have hfz := h.blk.frozen 2
  have hlt := h.blk.lt
  unfold maxN at hn
  clear h hs hX
  by_cases h1 : n < -1099511627776
  · have d1 : decide (n < -1099511627776) = true := by simpa using h1
    clear hn h1
    go_enter Try.func80, Try.ntmps80
    go_wp2_with fail
    refine bodyPost_ret (results_none rfl _ _ _) rfl ?_
    exact ⟨rfl, HM.out⟩
  · have d1 : decide (n < -1099511627776) = false := by simpa using h1
    have d2 : decide (1099511627776 < n) = true := by simp; omega
    clear hn h1
    go_enter Try.func80, Try.ntmps80
    go_wp2_with fail
    refine bodyPost_ret (results_none rfl _ _ _) rfl ?_
    exact ⟨rfl, HM.out⟩

set_option maxRecDepth 20000 in
set_option maxHeartbeats 1000000 in
theorem num_wg (B : Nat) (X : List Nat) (f p q : Nat) (n : Int) (o : List Nat) (b : Bool) (w : World) (h : Fw B X w f o b) (hp : w.cell? ⟨p, q, none⟩ = some (.int .i64 n)) (hn : -maxN ≤ n ∧ n ≤ maxN) (hl : o.length + 6 ≤ 225000000000000) :
    Calls Try.prog 80 #[.pointer (some ⟨f, 0, none⟩), .pointer (some ⟨p, q, none⟩)] w fun e w' => e = .returned (.tuple #[]) ∧ Fw B X w' f (o ++ nput n) b ∧ Kp B X w w' := by
  obtain ⟨i5, hi5, hz0, hz1, hz2⟩ := infoU8
  have H := Lib.hid h
  obtain ⟨hX, v, h, hs⟩ := h
  have c0 := h.blk.cell (o := 0) rfl
  have c1 := h.blk.cell (o := 1) rfl
  have hfz := h.blk.frozen 0
  have hlt := h.blk.lt
  have hzl := zig_le hn
  have Hlen := Lib.hid (show (nput n).length ≤ 6 from nput_len hn)
  have HN := Lib.hid hn
  unfold maxN at hn
  clear h hs hX
  have d1 : decide (n < -1099511627776) = false := by simp; omega
  have d2 : decide (1099511627776 < n) = false := by simp; omega
  by_cases h0 : n < 0
  all_goals
    first | (have d3 : decide (n < 0) = true := by simpa using h0) | (have d3 : decide (n < 0) = false := by simpa using h0)
    first | (have hz := zig_neg HN.out.1 h0) | (have hz := zig_pos h0)
    go_enter Try.func80, Try.ntmps80
    go_wp2_with fail
    clear hz
    go_loopg [4] (zig n) (fun g s wr => ∃ (u : Nat) (o' : List Nat), s = .int .u64 u ∧ u ≤ 2199023255552 ∧ u = g ∧ o' ++ vput u = o ++ nput n ∧ Fw B X wr f o' b ∧ Kp B X w wr)
    case atStart => exact ⟨zig n, o, rfl, hzl, rfl, rfl, H.out, Kp.refl _ _ _⟩
    case round =>
      obtain ⟨u, o', rfl, hu, rfl, ho, hF, hK⟩ := hrel
      have HK := Lib.hid hK
      obtain ⟨hX, v, h, hs⟩ := hF
      have hlo : o'.length + (vput u).length = o.length + (nput n).length := by rw [← List.length_append, ho, List.length_append]
      have hlo2 : o'.length ≤ o.length + 6 := by have := Hlen.out; omega
      have k0 := h.blk.cell (o := 0) rfl
      have kfz := h.blk.frozen 0
      have klt := h.blk.lt
      have Hr := Lib.hid h.row
      obtain ⟨va, vc, rfl⟩ := own_shape h.row
      have HH := Lib.hid h
      have HS := Lib.hid hs
      have HX := Lib.hid hX
      by_cases hlt128 : u < 128
      · have ht : decide ((128 : Int) ≤ (u : Int)) = false := by simp; omega
        have hvp : vput u = [u] := by unfold vput; rw [if_pos hlt128]
        rw [hvp] at ho
        have HO := Lib.hid ho
        clear ho hK h hs hX hvp hlo
        go_wp2_with (at_builtin; refine wpList_append_wide rfl (.tmp 57) (.tmp 60) 22 rfl 0 5 i5 (.int .u8 0) 1 1 Try.underlying22 hi5 hz0 hz1 hz2 rfl (by decide) (.slice va o'.length vc) o'.length (o'.map bv) rfl (World.ownsRow.alloc Hr.out _) ⟨wr.heap.size, 0, none⟩ 1 1 [bv u] rfl rfl (Blk.news (Blk.new _ 5 [bv u])) (by simp [bv, Value.oneCell']) (by unfold maxLen; omega) (by omega) (by simp) ?_; intro v' w11 ho hg hgb; obtain ⟨va', vc', rfl⟩ := own_shape ho; have Hn := Lib.hid (out_step (mk := cW) (B := B) (X := X) (news := [u]) (fun _ _ _ => rfl) (fun _ _ => rfl) HH.out HS.out HX.out ((Upd.refl _ _).alloc _) (by simp; omega) ho hg hgb); have e0 := Hn.out.2.1; have e1 := Hn.out.2.2.1; have e2 := Hn.out.2.2.2; clear ho hg hgb)
        go_end0
        exact ⟨rfl, by rw [← HO.out]; exact Hn.out.1.1, HK.out.trans Hn.out.1.2⟩
      · have ht : decide ((128 : Int) ≤ (u : Int)) = true := by simp; omega
        have hvp : vput u = (128 + u % 128) :: vput (u / 128) := by conv => { lhs; unfold vput }; rw [if_neg hlt128]
        rw [hvp] at ho
        have HO := Lib.hid ho
        have hor := or128' u
        obtain ⟨m, hm⟩ : ∃ m, m = 128 + u % 128 := ⟨_, rfl⟩
        rw [← hm] at hor HO
        have hm2 : m < 256 := by omega
        clear hm
        clear ho hK h hs hX hvp hlo
        go_wp2_with (at_builtin; refine wpList_append_wide rfl (.tmp 45) (.tmp 49) 22 rfl 0 5 i5 (.int .u8 0) 1 1 Try.underlying22 hi5 hz0 hz1 hz2 rfl (by decide) (.slice va o'.length vc) o'.length (o'.map bv) rfl (World.ownsRow.alloc Hr.out _) ⟨wr.heap.size, 0, none⟩ 1 1 [bv m] rfl rfl (Blk.news (Blk.new _ 5 [bv m])) (by simp [bv, Value.oneCell']) (by unfold maxLen; omega) (by omega) (by simp) ?_; intro v' w11 ho hg hgb; obtain ⟨va', vc', rfl⟩ := own_shape ho; have Hn := Lib.hid (out_step (mk := cW) (B := B) (X := X) (news := [m]) (fun _ _ _ => rfl) (fun _ _ => rfl) HH.out HS.out HX.out ((Upd.refl _ _).alloc _) (by simp; omega) ho hg hgb); have e0 := Hn.out.2.1; have e1 := Hn.out.2.2.1; have e2 := Hn.out.2.2.2; clear ho hg hgb)
        go_roundg (u / 128)
        case measure => omega
        case rel => exact ⟨u / 128, o' ++ [m], by rw [Int.natCast_ediv]; rfl, by omega, rfl, by rw [← HO.out]; simp, Hn.out.1.1, HK.out.trans Hn.out.1.2⟩

theorem num_w (B : Nat) (X : List Nat) (f p q : Nat) (n : Int) (o : List Nat) (b : Bool) (w : World) (h : Fw B X w f o b) (hp : w.cell? ⟨p, q, none⟩ = some (.int .i64 n)) (hl : o.length + 6 ≤ 225000000000000) :
    Calls Try.prog 80 #[.pointer (some ⟨f, 0, none⟩), .pointer (some ⟨p, q, none⟩)] w fun e w' => e = .returned (.tuple #[]) ∧ ∃ o' b', Fw B X w' f o' b' ∧ Kp B X w w' ∧ Sch.num.Wc (.num n) o b o' b' := by
  by_cases hn : -maxN ≤ n ∧ n ≤ maxN
  · refine (num_wg B X f p q n o b w h hp hn hl).mono fun e w' ⟨he, h1, h2⟩ => ⟨he, _, _, h1, h2, ⟨by simp [Sch.good, hn], fun _ => rfl, ?_⟩⟩
    have := nput_len hn
    simp only [Sch.cmax, List.length_append]; omega
  · refine (num_wb B X f p q n o b w h hp hn).mono fun e w' ⟨he, h1, h2⟩ => ⟨he, _, _, h1, h2, ⟨by simp [Sch.good, hn], (fun h => by cases h), by omega⟩⟩
end Go.Proofs.Ythecincpejpmpaa
/- codec's form.num and form.many, reading; form.many writing. -/
namespace Go.Proofs.Ythecincpejpmpaa
open Go.RowKit Go.Lb Go.Rc

/-- What a thing's reading does: w' is w but for the form and the record at p. -/
def RdPost (s : Sch) (B f p : Nat) (tp : TypeId) (pre post : List Value) (l : List Nat) (b : Bool) (w : World) (e : Ending) (w' : World) : Prop :=
  e = .returned (.tuple #[]) ∧ ∃ v cs l' b', Fr B w' f l' b' ∧ Upd [f, p] w w' ∧ Blk w' p tp (pre ++ cs ++ post) ∧ s.Rep w' (Nw w.heap.size w') cs v ∧ s.Rd l b v l' b'
/-- Function K reads things of shape s: into a record's cells that are nothing's. -/
def Reads (K : Nat) (s : Sch) : Prop := ∀ (B f p q : Nat) (tp : TypeId) (pre post : List Value) (l : List Nat) (b : Bool) (w : World), Fr B w f l b → B ≤ p → p ≠ f → q = pre.length → Blk w p tp (pre ++ s.zc ++ post) →
  Calls Try.prog K #[.pointer (some ⟨f, 0, none⟩), .pointer (some ⟨p, q, none⟩)] w (RdPost s B f p tp pre post l b w)
/-- What a thing's writing does. -/
def WrPost (s : Sch) (B : Nat) (X : List Nat) (f : Nat) (v : Val) (o : List Nat) (b : Bool) (w : World) (e : Ending) (w' : World) : Prop :=
  e = .returned (.tuple #[]) ∧ ∃ o' b', Fw B X w' f o' b' ∧ Kp B X w w' ∧ s.Wc v o b o' b'
/-- Function K writes things of shape s: out of a record's cells. -/
def Writes (K : Nat) (s : Sch) : Prop := ∀ (B : Nat) (X : List Nat) (f p q : Nat) (tp : TypeId) (pre cs post : List Value) (v : Val) (o : List Nat) (b : Bool) (w : World), Fw B X w f o b → p ∈ X → q = pre.length → Blk w p tp (pre ++ cs ++ post) → s.Rep w (· < B) cs v → o.length + s.cmax v ≤ 225000000000000 →
  Calls Try.prog K #[.pointer (some ⟨f, 0, none⟩), .pointer (some ⟨p, q, none⟩)] w (WrPost s B X f v o b w)

theorem mid_at {α : Type} {pre post : List α} {x : α} : (pre ++ [x] ++ post)[pre.length]? = some x := by simp
theorem mid_set {α : Type} {pre post : List α} {x y : α} : (pre ++ [x] ++ post).set pre.length y = pre ++ [y] ++ post := by simp

set_option maxRecDepth 20000 in
set_option maxHeartbeats 1000000 in
/-- num reads into whatever cell there is. -/
theorem num_r' (B f p q : Nat) (tp : TypeId) (u : Value) (pre post : List Value) (l : List Nat) (b : Bool) (w : World) (h : Fr B w f l b) (hB : B ≤ p) (hpf : p ≠ f) (hq : q = pre.length) (hp : Blk w p tp (pre ++ [u] ++ post)) :
    Calls Try.prog 80 #[.pointer (some ⟨f, 0, none⟩), .pointer (some ⟨p, q, none⟩)] w fun e w' => e = .returned (.tuple #[]) ∧ ∃ (n : Int) (l' : List Nat) (b' : Bool), Fr B w' f l' b' ∧ Upd [f, p] w w' ∧ Blk w' p tp (pre ++ [.int .i64 n] ++ post) ∧ ROk nget l b n l' b' := by
  subst hq
  have H := Lib.hid h
  have HP := Lib.hid hp
  obtain ⟨a, c, h⟩ := h
  have c1 := h.blk.cell (o := 1) rfl
  clear h hp
  go_enter Try.func80, Try.ntmps80
  go_wp2_with fail
  refine (read_post B f l b _ H.out).mono ?_
  rintro e w1 ⟨n, l', b', rfl, h1, h2, h3⟩
  have hb1 := h2.blk HP.out (by simpa using hpf)
  have k1 := hb1.cell (o := pre.length) mid_at
  have k2 := hb1.frozen pre.length
  have k3 := hb1.lt
  have HR := Lib.hid h3
  have uS : Upd [p] w1 (w1.setCell ⟨p, pre.length, none⟩ (.int .i64 n)) := (Upd.refl _ _).setCell (by simp) _
  have HF : Hid (Fr B (w1.setCell ⟨p, pre.length, none⟩ (.int .i64 n)) f l' b' ∧ Upd [f, p] w (w1.setCell ⟨p, pre.length, none⟩ (.int .i64 n)) ∧ Blk (w1.setCell ⟨p, pre.length, none⟩ (.int .i64 n)) p tp (pre ++ [.int .i64 n] ++ post)) := by
    refine Lib.hid ⟨h1.upd uS (fun k hk => ?_), (h2.mono (by simp)).trans uS (by simp), ?_⟩
    · simp at hk; subst hk; exact ⟨hpf, hB⟩
    · have := hb1.set pre.length (.int .i64 n)
      rwa [mid_set] at this
  clear h1 h2 h3 hb1 uS
  go_wp2_with fail
  refine bodyPost_ret (results_none rfl _ _ _) rfl ?_
  exact ⟨rfl, n, l', b', HF.out.1, HF.out.2.1, HF.out.2.2, HR.out⟩

theorem num_reads : Reads 80 .num := fun B f p q tp pre post l b w h hB hpf hq hp => by
  refine (num_r' B f p q tp _ pre post l b w h hB hpf hq hp).mono fun e w' ⟨he, n, l', b', h1, h2, h3, h4⟩ => ?_
  exact ⟨he, .num n, [.int .i64 n], l', b', h1, h2, h3, Sch.Rep.num_mk n, Sch.Rd.num h4⟩
theorem num_writes : Writes 80 .num := fun B X f p q tp pre cs post v o b w h hX hq hp hr hl => by
  obtain ⟨n, rfl, rfl⟩ := hr
  subst hq
  exact num_w B X f p _ n o b w h (hp.cell mid_at) (by simpa [Sch.cmax] using hl)
end Go.Proofs.Ythecincpejpmpaa
/- codec's form.many, writing and reading. -/
namespace Go.Proofs.Ythecincpejpmpaa
open Go.RowKit Go.Lb Go.Rc

theorem fw_mark {B f : Nat} {X : List Nat} {o : List Nat} {b : Bool} {w : World} (h : Fw B X w f o b) : w.cell? ⟨f, 2, none⟩ = some (.bool b) ∧ w.frozen? ⟨f, 2, none⟩ = false ∧ w.cell? ⟨f, 1, none⟩ = some (.bool false) ∧ f < w.heap.size := by
  obtain ⟨_, v, h, _⟩ := h
  exact ⟨h.blk.cell rfl, h.blk.frozen 2, h.blk.cell rfl, h.blk.lt⟩
theorem fr_mark {B f : Nat} {l : List Nat} {b : Bool} {w : World} (h : Fr B w f l b) : w.cell? ⟨f, 2, none⟩ = some (.bool b) ∧ w.frozen? ⟨f, 2, none⟩ = false ∧ w.cell? ⟨f, 1, none⟩ = some (.bool true) ∧ f < w.heap.size ∧ B ≤ f := by
  obtain ⟨a, c, h⟩ := h
  exact ⟨h.blk.cell rfl, h.blk.frozen 2, h.blk.cell rfl, h.blk.lt, h.low⟩
/-- The mark is set while reading. -/
theorem fr_set {B f : Nat} {l : List Nat} {b : Bool} {w : World} (h : Fr B w f l b) (b' : Bool) : Fr B (w.setCell ⟨f, 2, none⟩ (.bool b')) f l b' ∧ Upd [f] w (w.setCell ⟨f, 2, none⟩ (.bool b')) := by
  obtain ⟨a, c, h⟩ := h
  have uS : Upd [f] w (w.setCell ⟨f, 2, none⟩ (.bool b')) := (Upd.refl _ _).setCell (by simp) _
  refine ⟨⟨a, c, ⟨h.blk.set 2 (.bool b'), h.byte.upd uS (fun k hk => ?_), h.cap, h.low⟩⟩, uS⟩
  have := h.low
  simp; omega

def ManyW (B : Nat) (X : List Nat) (f k most : Nat) (o : List Nat) (b : Bool) (w : World) (e : Ending) (w' : World) : Prop :=
  ∃ (r : Int) (o' : List Nat) (b' : Bool), e = .returned (.int .i64 r) ∧ Fw B X w' f o' b' ∧ Kp B X w w' ∧ WOk (k ≤ most) (nput k) 6 o b o' b'

set_option maxRecDepth 20000 in
set_option maxHeartbeats 1000000 in
theorem many_w (B : Nat) (X : List Nat) (f k most : Nat) (o : List Nat) (b : Bool) (w : World) (h : Fw B X w f o b) (hl : o.length + 6 ≤ 225000000000000) (hm : most ≤ 65536) :
    Calls Try.prog 84 #[.pointer (some ⟨f, 0, none⟩), .int .i64 k, .int .i64 most] w (ManyW B X f k most o b w) := by
  have hN := h.new ((Upd.refl [] w).alloc (.cells #[.int .i64 (k : Int)] 3)) (x := w.heap.size) (Nat.le_refl _) (by simp)
  have HN := Lib.hid hN
  have Hfresh := Lib.hid h.fresh
  have hB := h.base
  clear h hN
  go_enter Try.func84, Try.ntmps84
  go_wp2_with fail
  refine (num_w B (w.heap.size :: X) f _ _ k o b _ HN.out ((Blk.new w 3 [.int .i64 (k : Int)]).cell rfl) hl).mono ?_
  rintro e w1 ⟨rfl, o', b', h1, h2, h3⟩
  have hbn := h2.blk (Blk.new w 3 [.int .i64 (k : Int)]) (.inr (by simp))
  have c0 := hbn.cell (o := 0) rfl
  obtain ⟨m2, m3, _, m5⟩ := fw_mark h1
  have HM := Lib.hid (out_mark (i := 2) (fun _ _ _ => rfl) h1.less true)
  have hK : Kp B X w w1 := (Kp.of_nil ((Upd.refl [] w).alloc _)).trans h2.drop
  have HK := Lib.hid hK
  have H1 := Lib.hid h1.less
  have H3 := Lib.hid h3
  clear h1 h2 h3 hbn hK
  have t1 : decide ((k : Int) < 0) = false := by rw [decide_eq_false_iff_not]; omega
  by_cases hk : k ≤ most
  · have t2 : decide (most < k) = false := by simp; omega
    have HF : Hid (ManyW B X f k most o b w (.returned (.int .i64 k)) w1) := Lib.hid ⟨_, o', b', rfl, H1.out, HK.out, by
      refine ⟨?_, H3.out.out, H3.out.len⟩
      rw [H3.out.bad]
      simp only [Sch.good, maxN, hk, and_true]
      constructor
      · exact fun h => h.1
      · intro h; exact ⟨h, by omega, by omega⟩⟩
    clear hk
    go_wp2_with fail
    go_ret
    exact HF.out
  · have t2 : decide (most < k) = true := by simp; omega
    have HF : Hid (ManyW B X f k most o b w (.returned (.int .i64 0)) (w1.setCell ⟨f, 2, none⟩ (.bool true))) := Lib.hid ⟨_, o', true, rfl, HM.out.1, HK.out.trans HM.out.2, ⟨by simp [hk], fun h => (by cases h), H3.out.len⟩⟩
    clear hk
    go_wp2_with fail
    go_ret
    exact HF.out

/-- How many there are of something. -/
def mget (most : Nat) (l : List Nat) : Option (Nat × List Nat) := match nget l with
  | none => none
  | some (n, r) => if 0 ≤ n ∧ n ≤ most then some (n.toNat, r) else none
def ManyR (B f most : Nat) (l : List Nat) (b : Bool) (w : World) (e : Ending) (w' : World) : Prop :=
  ∃ (k : Nat) (l' : List Nat) (b' : Bool), e = .returned (.int .i64 k) ∧ k ≤ most ∧ Fr B w' f l' b' ∧ Upd [f] w w' ∧ ROk (mget most) l b k l' b'

set_option maxRecDepth 20000 in
set_option maxHeartbeats 1000000 in
theorem many_r (B f most : Nat) (n0 : Int) (l : List Nat) (b : Bool) (w : World) (h : Fr B w f l b) :
    Calls Try.prog 84 #[.pointer (some ⟨f, 0, none⟩), .int .i64 n0, .int .i64 most] w (ManyR B f most l b w) := by
  obtain ⟨_, _, _, hf, hBf⟩ := fr_mark h
  have HN := Lib.hid (h.upd ((Upd.refl [] w).alloc (.cells #[.int .i64 n0] 3)) (by simp))
  clear h
  go_enter Try.func84, Try.ntmps84
  go_wp2_with fail
  refine (num_r' B f w.heap.size 0 3 (.int .i64 n0) [] [] l b _ HN.out (by omega) (by omega) rfl (Blk.new w _ _)).mono ?_
  rintro e w1 ⟨rfl, n, l', b', h1, h2, h3, h4⟩
  have c0 := h3.cell (o := 0) rfl
  obtain ⟨m2, m3, _, m5, _⟩ := fr_mark h1
  have HM := Lib.hid (fr_set h1 true)
  have HU : Hid (Upd [f] w w1) := Lib.hid (((Upd.refl [f] w).alloc _).trans h2 (by intro x hx; simp at hx; rcases hx with rfl | rfl; simp; right; exact Nat.le_refl _))
  have H1 := Lib.hid h1
  have H4 := Lib.hid h4
  clear h1 h2 h3 h4
  by_cases hn : 0 ≤ n ∧ n ≤ most
  · obtain ⟨k, rfl⟩ := Int.eq_ofNat_of_zero_le hn.1
    have t1 : decide ((k : Int) < 0) = false := by rw [decide_eq_false_iff_not]; omega
    have t2 : decide (most < k) = false := by simp; omega
    have HF : Hid (ManyR B f most l b w (.returned (.int .i64 k)) w1) := Lib.hid ⟨k, l', b', rfl, by omega, H1.out, HU.out, ⟨fun e => ⟨(H4.out.good e).1, by simp only [mget, (H4.out.good e).2]; rw [if_pos hn]; simp⟩, fun e => (H4.out.bad e).imp id fun h => by simp only [mget, h]⟩⟩
    clear hn
    go_wp2_with fail
    go_ret
    exact HF.out
  · have HF : Hid (ManyR B f most l b w (.returned (.int .i64 0)) (w1.setCell ⟨f, 2, none⟩ (.bool true))) := Lib.hid ⟨0, l', true, rfl, by omega, HM.out.1, HU.out.trans HM.out.2 (by simp), ⟨fun e => (by cases e), fun _ => by
      cases b' with
      | true => exact (H4.out.bad rfl).imp id fun h => by simp only [mget, h]
      | false => right; simp only [mget, (H4.out.good rfl).2]; rw [if_neg hn]⟩⟩
    have t : (decide (n < 0) = true) ∨ (decide (n < 0) = false ∧ decide ((most : Int) < n) = true) := by
      by_cases h0 : n < 0
      · left; simpa using h0
      · right; exact ⟨by simpa using h0, by simp; omega⟩
    clear hn
    rcases t with t | ⟨t, t2⟩
    all_goals
      go_wp2_with fail
      go_ret
      exact HF.out
end Go.Proofs.Ythecincpejpmpaa
/- codec's form.nums, writing and reading: numbers one behind the other in a record. -/
namespace Go.Proofs.Ythecincpejpmpaa
open Go.RowKit Go.Lb Go.Rc

def iv (n : Int) : Value := .int .i64 n
def NumsW (B : Nat) (X : List Nat) (f : Nat) (ns : List Int) (o : List Nat) (b : Bool) (w : World) (e : Ending) (w' : World) : Prop :=
  e = .returned (.tuple #[]) ∧ ∃ o' b', Fw B X w' f o' b' ∧ Kp B X w w' ∧ CSeq (nums ns) o b o' b'
theorem wsum_nums (ns : List Int) : wsum (nums ns) = 6 * ns.length := by
  induction ns with
  | nil => rfl
  | cons n ns ih => simp only [nums, wsum, List.map_cons, List.sum_cons, Sch.wmax, List.length_cons] at ih ⊢; omega

theorem csum_nums (ns : List Int) : csum (nums ns) = 6 * ns.length := by
  induction ns with
  | nil => rfl
  | cons n ns ih => simp only [nums, csum, List.map_cons, List.sum_cons, Sch.cmax, List.length_cons] at ih ⊢; omega

set_option maxRecDepth 20000 in
set_option maxHeartbeats 1000000 in
theorem nums_w (B : Nat) (X : List Nat) (f ab p q k : Nat) (ns : List Int) (tp : TypeId) (pre post : List Value) (o : List Nat) (b : Bool) (w : World) (h : Fw B X w f o b) (hk : ns.length = k) (ha : ab ∈ X) (hX : p ∈ X) (hq : q = pre.length)
    (hpt : ∀ i, i < k → w.cell? ⟨ab, i, none⟩ = some (.pointer (some ⟨p, q + i, none⟩))) (hp : Blk w p tp (pre ++ ns.map iv ++ post)) (hl : o.length + 6 * k ≤ 225000000000000) :
    Calls Try.prog 50 #[.pointer (some ⟨f, 0, none⟩), .slice (some ⟨ab, 0, none⟩) k k] w (NumsW B X f ns o b w) := by
  subst hk hq
  have H := Lib.hid h
  have HX := Lib.hid hX
  have HA := Lib.hid ha
  have HP := Lib.hid hp
  have HPT := Lib.hid hpt
  have hal := h.1 ab ha
  clear h hX ha hp hpt
  go_enter Try.func50, Try.ntmps50
  go_wp2_with fail
  go_loopg [5, 8] ns.length (fun g s t wr => ∃ (i : Nat) (o' : List Nat) (b' : Bool), t = .int .i64 i ∧ ns.length - i = g ∧ i ≤ ns.length ∧ Fw B X wr f o' b' ∧ Kp B X w wr ∧ CSeq (nums (ns.take i)) o b o' b')
  case atStart => exact ⟨0, o, b, rfl, rfl, by omega, H.out, Kp.refl _ _ _, rfl, rfl⟩
  case round =>
    obtain ⟨i, o', b', rfl, hg, hi, hF, hK, hW⟩ := hrel
    have HG := Lib.hid hg
    have HF := Lib.hid hF
    have HK := Lib.hid hK
    have HW := Lib.hid hW
    clear hg hF hK hW
    by_cases hlt : i < ns.length
    · have t1 : decide (i < ns.length) = true := by simpa using hlt
      have c1 := (HK.out.cell (o := i) hal (.inr HA.out)).trans (HPT.out i hlt)
      obtain ⟨n, hn⟩ : ∃ n, ns[i]? = some n := ⟨_, List.getElem?_eq_getElem hlt⟩
      have HN := Lib.hid hn
      have hc : wr.cell? ⟨p, pre.length + i, none⟩ = some (.int .i64 n) := (HK.out.blk HP.out (.inr HX.out)).cell (by
        rw [List.append_assoc, List.getElem?_append_right (by omega), Nat.add_sub_cancel_left, List.getElem?_append_left (by simpa using hlt), List.getElem?_map, hn]; rfl)
      have HC := Lib.hid hc
      have hwl := HW.out.len
      rw [csum_nums, List.length_take] at hwl
      have hol : o'.length + 6 ≤ 225000000000000 := by omega
      clear hn hc hwl
      go_wp2_with fail
      refine (num_w B X f p _ n o' b' _ HF.out HC.out hol).mono ?_
      rintro e w1 ⟨rfl, o2, b2, h1, h2, h3⟩
      have H1 := Lib.hid h1
      have H2 := Lib.hid h2
      have H3 := Lib.hid h3
      clear h1 h2 h3
      go_wp2_with fail
      go_roundg (ns.length - (i + 1))
      case measure => have := HG.out; omega
      case rel => exact ⟨i + 1, o2, b2, by go_num, rfl, by omega, H1.out, HK.out.trans H2.out, by
        rw [take_snoc HN.out]
        simp only [nums, List.map_append, List.map_cons, List.map_nil]
        exact CSeq.snoc HW.out H3.out⟩
    · obtain rfl : i = ns.length := by omega
      go_wp2_with fail
      go_end0
      refine ⟨rfl, o', b', HF.out, HK.out, ?_⟩
      have := HW.out
      rwa [List.take_length] at this

def NumsR (B f p k : Nat) (tp : TypeId) (pre post : List Value) (l : List Nat) (b : Bool) (w : World) (e : Ending) (w' : World) : Prop :=
  e = .returned (.tuple #[]) ∧ ∃ (ns : List Int) (l' : List Nat) (b' : Bool), ns.length = k ∧ Fr B w' f l' b' ∧ Upd [f, p] w w' ∧ Blk w' p tp (pre ++ ns.map iv ++ post) ∧ RSeq (nums ns) l b l' b'

set_option maxRecDepth 20000 in
set_option maxHeartbeats 1000000 in
theorem nums_r (B f ab p q k : Nat) (us : List Value) (tp : TypeId) (pre post : List Value) (l : List Nat) (b : Bool) (w : World) (h : Fr B w f l b) (hk : us.length = k) (hB : B ≤ p) (hpf : p ≠ f) (haf : ab ≠ f) (hap : ab ≠ p) (hal : ab < w.heap.size) (hq : q = pre.length)
    (hpt : ∀ i, i < k → w.cell? ⟨ab, i, none⟩ = some (.pointer (some ⟨p, q + i, none⟩))) (hp : Blk w p tp (pre ++ us ++ post)) (hkl : k ≤ 100) :
    Calls Try.prog 50 #[.pointer (some ⟨f, 0, none⟩), .slice (some ⟨ab, 0, none⟩) k k] w (NumsR B f p k tp pre post l b w) := by
  subst hk hq
  have H := Lib.hid h
  have HP := Lib.hid hp
  have HPT := Lib.hid hpt
  clear h hp hpt
  go_enter Try.func50, Try.ntmps50
  go_wp2_with fail
  go_loopg [5, 8] us.length (fun g s t wr => ∃ (i : Nat) (ns : List Int) (l' : List Nat) (b' : Bool), t = .int .i64 i ∧ us.length - i = g ∧ i ≤ us.length ∧ ns.length = i ∧ Fr B wr f l' b' ∧ Upd [f, p] w wr ∧ Blk wr p tp (pre ++ ns.map iv ++ (us.drop i ++ post)) ∧ RSeq (nums ns) l b l' b')
  case atStart => exact ⟨0, [], l, b, rfl, rfl, by omega, rfl, H.out, Upd.refl _ _, by simpa using HP.out, rfl, rfl⟩
  case round =>
    obtain ⟨i, ns, l', b', rfl, hg, hi, hns, hF, hK, hbk, hW⟩ := hrel
    have HG := Lib.hid hg
    have HF := Lib.hid hF
    have HK := Lib.hid hK
    have HW := Lib.hid hW
    have HNS := Lib.hid hns
    have HBK := Lib.hid hbk
    clear hg hF hK hW hns hbk
    by_cases hlt : i < us.length
    · have t1 : decide (i < us.length) = true := by simpa using hlt
      have c1 := (HK.out.cell (a := ⟨ab, i, none⟩) hal (by simp; exact ⟨haf, hap⟩)).trans (HPT.out i hlt)
      have hb2 : Blk wr p tp ((pre ++ ns.map iv) ++ [us[i]] ++ (us.drop (i + 1) ++ post)) := by
        have e : (pre ++ ns.map iv) ++ [us[i]] ++ (us.drop (i + 1) ++ post) = pre ++ ns.map iv ++ (us.drop i ++ post) := by
          rw [List.drop_eq_getElem_cons hlt]
          simp only [List.append_assoc, List.cons_append, List.nil_append]
        rw [e]; exact HBK.out
      have HB2 := Lib.hid hb2
      clear hb2
      go_wp2_with fail
      refine (num_r' B f p _ tp _ (pre ++ ns.map iv) (us.drop (i + 1) ++ post) l' b' _ HF.out hB hpf (by simp [HNS.out]) HB2.out).mono ?_
      rintro e w1 ⟨rfl, n, l2, b2, h1, h2, h3, h4⟩
      have H1 := Lib.hid h1
      have H2 := Lib.hid h2
      have H3 := Lib.hid h3
      have H4 := Lib.hid h4
      clear h1 h2 h3 h4
      go_wp2_with fail
      go_roundg (us.length - (i + 1))
      case measure => have := HG.out; omega
      case rel => exact ⟨i + 1, ns ++ [n], l2, b2, by go_num, rfl, by omega, by simp [HNS.out], H1.out, HK.out.trans H2.out (by simp), by simpa [iv] using H3.out, by
        simp only [nums, List.map_append, List.map_cons, List.map_nil]
        exact RSeq.snoc HW.out (Sch.Rd.num H4.out)⟩
    · obtain rfl : i = us.length := by omega
      go_wp2_with fail
      go_end0
      exact ⟨rfl, ns, l', b', HNS.out, HF.out, HK.out, by simpa using HBK.out, HW.out⟩
end Go.Proofs.Ythecincpejpmpaa
/- A record's fields, one behind the other: where a writing or a reading stands. -/
namespace Go.Rc
open Go Go.RowKit Go.Lb
/-- How many cells fields have. -/
def fsize : List (Sch × Val) → Nat
  | [] => 0
  | x :: l => x.1.size + fsize l
theorem fsize_append : ∀ l m : List (Sch × Val), fsize (l ++ m) = fsize l + fsize m
  | [], m => by simp [fsize]
  | x :: l, m => by simp [fsize, fsize_append l m]; omega
theorem fsize_nums (ns : List Int) : fsize (nums ns) = ns.length := by
  induction ns with
  | nil => rfl
  | cons n ns ih => simp only [nums, List.map_cons, fsize, List.length_cons, Sch.size] at ih ⊢; omega
/-- Cells that read as fields. -/
def RepSeq (w : World) (ok : Nat → Prop) (l : List (Sch × Val)) (cs : List Value) : Prop := (tup (l.map (·.1))).Rep w ok cs (vtup (l.map (·.2)))
section
variable {w w' : World} {ok ok' : Nat → Prop} {l m : List (Sch × Val)} {cs c : List Value} {s : Sch} {v : Val}
theorem RepSeq.nil : RepSeq w ok [] [] := ⟨rfl, rfl⟩
theorem RepSeq.open (h : RepSeq w ok ((s, v) :: l) cs) : ∃ c r, cs = c ++ r ∧ s.Rep w ok c v ∧ RepSeq w ok l r := by
  obtain ⟨c1, c2, x, y, h1, h2, h3, h4⟩ := h
  simp only [List.map_cons, vtup, Val.pair.injEq] at h2
  obtain ⟨rfl, rfl⟩ := h2
  exact ⟨c1, c2, h1, h3, h4⟩
theorem RepSeq.cons {r : List Value} (h : s.Rep w ok c v) (k : RepSeq w ok l r) : RepSeq w ok ((s, v) :: l) (c ++ r) := ⟨_, _, _, _, rfl, rfl, h, k⟩
theorem RepSeq.append : ∀ {l : List (Sch × Val)} {cs : List Value}, RepSeq w ok l cs → RepSeq w ok m c → RepSeq w ok (l ++ m) (cs ++ c)
  | [], cs, h, k => by obtain ⟨rfl, _⟩ := h; exact k
  | (s, v) :: l, cs, h, k => by
    obtain ⟨c1, r, rfl, h1, h2⟩ := h.open
    rw [List.append_assoc]
    exact RepSeq.cons h1 (RepSeq.append h2 k)
theorem RepSeq.snoc (h : RepSeq w ok l cs) (k : s.Rep w ok c v) : RepSeq w ok (l ++ [(s, v)]) (cs ++ c) := by
  have h2 : RepSeq w ok [(s, v)] c := by
    have := RepSeq.cons (l := []) k RepSeq.nil
    rwa [List.append_nil] at this
  exact h.append h2
theorem RepSeq.len : ∀ {l : List (Sch × Val)} {cs : List Value}, RepSeq w ok l cs → cs.length = fsize l
  | [], cs, h => by obtain ⟨rfl, _⟩ := h; rfl
  | (s, v) :: l, cs, h => by
    obtain ⟨c1, r, rfl, h1, h2⟩ := h.open
    rw [List.length_append, h1.len, RepSeq.len h2, fsize]
theorem RepSeq.keep (hk : ∀ b, ok b → b < w.heap.size → ok' b ∧ w'.heap[b]? = w.heap[b]?) (hs : w.heap.size ≤ w'.heap.size) (h : RepSeq w ok l cs) : RepSeq w' ok' l cs := Sch.Rep.keep hk hs h
theorem RepSeq.opn : ∀ {ns : List Int} {r : List Value}, RepSeq w ok (nums ns ++ l) r → ∃ r', r = ns.map (fun n => Value.int .i64 n) ++ r' ∧ RepSeq w ok l r'
  | [], r, h => ⟨r, rfl, h⟩
  | n :: ns, r, h => by
    obtain ⟨c1, r1, rfl, ⟨k, rfl, hk⟩, h2⟩ := RepSeq.open (l := nums ns ++ l) h
    cases hk
    obtain ⟨r', rfl, h3⟩ := RepSeq.opn (ns := ns) h2
    exact ⟨r', rfl, h3⟩
theorem repseq_nums (ns : List Int) : RepSeq w ok (Rc.nums ns) (ns.map fun n => Value.int .i64 n) := by
  induction ns with
  | nil => exact RepSeq.nil
  | cons n ns ih => exact RepSeq.cons (c := [_]) (Sch.Rep.num_mk n) ih
end
theorem wsum_cons (x : Sch × Val) (l : List (Sch × Val)) : wsum (x :: l) = x.1.wmax x.2 + wsum l := by simp [wsum]
theorem wsum_append (l m : List (Sch × Val)) : wsum (l ++ m) = wsum l + wsum m := by simp [wsum]
theorem tup_wmax : ∀ l : List (Sch × Val), (tup (l.map (·.1))).wmax (vtup (l.map (·.2))) = wsum l
  | [] => rfl
  | x :: l => by rw [wsum_cons, ← tup_wmax l]; rfl

theorem csum_cons (x : Sch × Val) (l : List (Sch × Val)) : csum (x :: l) = x.1.cmax x.2 + csum l := by simp [csum]
theorem csum_append (l m : List (Sch × Val)) : csum (l ++ m) = csum l + csum m := by simp [csum]
theorem tup_cmax : ∀ l : List (Sch × Val), (tup (l.map (·.1))).cmax (vtup (l.map (·.2))) = csum l
  | [] => rfl
  | x :: l => by rw [csum_cons, ← tup_cmax l]; rfl

/-- Where a writing stands: done is written, rest stands in block p behind. -/
structure WrSt (T U : TypeId) (mk : Value → Bool → List Value) (B : Nat) (X : List Nat) (f p : Nat) (tp : TypeId) (q0 : Nat) (w wc : World) (o : List Nat) (b : Bool) (oc : List Nat) (bc : Bool) (done rest : List (Sch × Val)) : Prop where
  fw : St T U mk B X wc f oc bc
  kp : Kp B X w wc
  seq : CSeq done o b oc bc
  mem : p ∈ X
  blk : ∃ pre cr post, Blk wc p tp (pre ++ cr ++ post) ∧ pre.length = q0 + fsize done ∧ RepSeq wc (· < B) rest cr
  len : oc.length + csum rest ≤ 225000000000000
section
variable {T U tp : TypeId} {mk : Value → Bool → List Value} {B f p q0 : Nat} {X : List Nat} {w wc w' : World} {o oc o' : List Nat} {b bc b' : Bool} {done rest m : List (Sch × Val)}
theorem WrSt.start {pre cs post : List Value} (h : St T U mk B X w f o b) (hp : p ∈ X) (hb : Blk w p tp (pre ++ cs ++ post)) (hr : RepSeq w (· < B) rest cs) (hl : o.length + csum rest ≤ 225000000000000) : WrSt T U mk B X f p tp pre.length w w o b o b [] rest :=
  ⟨h, Kp.refl _ _ _, ⟨rfl, rfl⟩, hp, ⟨pre, cs, post, hb, rfl, hr⟩, hl⟩
theorem WrSt.upd (h : WrSt T U mk B X f p tp q0 w wc o b oc bc done rest) (u : Upd [] wc w') : WrSt T U mk B X f p tp q0 w w' o b oc bc done rest := by
  obtain ⟨pre, cr, post, h1, h2, h3⟩ := h.blk
  exact ⟨h.fw.same u, h.kp.trans (Kp.of_nil u), h.seq, h.mem, ⟨pre, cr, post, u.blk h1 (by simp), h2, h3.upd u (by simp)⟩, h.len⟩
/-- What comes next is written. -/
theorem WrSt.next (h : WrSt T U mk B X f p tp q0 w wc o b oc bc done (m ++ rest)) (h1 : St T U mk B X w' f o' b') (h2 : Kp B X wc w') (h3 : CSeq m oc bc o' b') : WrSt T U mk B X f p tp q0 w w' o b o' b' (done ++ m) rest := by
  obtain ⟨pre, cr, post, k1, k2, k3⟩ := h.blk
  have hm : ∃ c r, cr = c ++ r ∧ c.length = fsize m ∧ RepSeq wc (· < B) rest r := by
    clear k1 h h3
    induction m generalizing cr with
    | nil => exact ⟨[], cr, rfl, rfl, k3⟩
    | cons x m ih =>
      obtain ⟨c, r, rfl, j1, j2⟩ := RepSeq.open (s := x.1) (v := x.2) k3
      obtain ⟨c', r', rfl, j3, j4⟩ := ih r j2
      exact ⟨c ++ c', r', by simp, by simp [j1.len, j3, fsize], j4⟩
  obtain ⟨c, r, rfl, j1, j2⟩ := hm
  refine ⟨h1, h.kp.trans h2, h.seq.append h3, h.mem, ⟨pre ++ c, r, post, ?_, by rw [List.length_append, k2, j1, fsize_append]; omega, j2.keep (fun k hk hl => ⟨hk, h2.block k hl (.inl hk)⟩) h2.size⟩, ?_⟩
  · have := h2.blk k1 (.inr h.mem)
    simpa only [List.append_assoc] using this
  · have := h3.len
    have := h.len
    rw [csum_append] at this
    omega
/-- What comes next, in memory. -/
theorem WrSt.range {s : Sch} {v : Val} (h : WrSt T U mk B X f p tp q0 w wc o b oc bc done ((s, v) :: rest)) : ∃ c, s.Rep wc (· < B) c v ∧ wc.rangeAt p (q0 + fsize done) c := by
  obtain ⟨pre, cr, post, k1, k2, k3⟩ := h.blk
  obtain ⟨c, r, rfl, j1, j2⟩ := k3.open
  refine ⟨c, j1, fun j u hu => ?_⟩
  have hj := (List.getElem?_eq_some_iff.1 hu).1
  refine k1.cell ?_
  rw [← k2, List.append_assoc, List.getElem?_append_right (by omega), Nat.add_sub_cancel_left, List.append_assoc, List.getElem?_append_left hj, hu]
theorem WrSt.isNum {v : Val} (h : WrSt T U mk B X f p tp q0 w wc o b oc bc done ((.num, v) :: rest)) : ∃ n, v = .num n := by
  obtain ⟨c, ⟨n, _, rfl⟩, _⟩ := h.range
  exact ⟨n, rfl⟩
end

/-- Where a reading stands: the fields fs are read into block p, the rest of its cells are nothing's. -/
structure RdSt (T : TypeId) (mk : Value → Bool → List Value) (B f p : Nat) (tp : TypeId) (pre post : List Value) (w wc : World) (l : List Nat) (b : Bool) (lc : List Nat) (bc : Bool) (fs : List (Sch × Val)) (rest : List Sch) : Prop where
  fr : Rs T mk B wc f lc bc
  upd : Upd [f, p] w wc
  blk : ∃ cs, Blk wc p tp (pre ++ cs ++ ((tup rest).zc ++ post)) ∧ RepSeq wc (Nw w.heap.size wc) fs cs
  seq : RSeq fs l b lc bc
  low : B ≤ p ∧ p ≠ f ∧ p < w.heap.size ∧ f < w.heap.size
section
variable {T tp : TypeId} {mk : Value → Bool → List Value} {B f p : Nat} {w wc w' : World} {l lc l' : List Nat} {b bc b' : Bool} {fs m : List (Sch × Val)} {rest : List Sch} {pre post : List Value}
theorem RdSt.start (h : Rs T mk B w f l b) (hB : B ≤ p) (hpf : p ≠ f) (hb : Blk w p tp (pre ++ (tup rest).zc ++ post)) (hf : f < w.heap.size) : RdSt T mk B f p tp pre post w w l b l b [] rest :=
  ⟨h, Upd.refl _ _, ⟨[], by simpa using hb, RepSeq.nil⟩, ⟨rfl, rfl⟩, hB, hpf, hb.lt, hf⟩
theorem RdSt.same (h : RdSt T mk B f p tp pre post w wc l b lc bc fs rest) (u : Upd [] wc w') : RdSt T mk B f p tp pre post w w' l b lc bc fs rest := by
  obtain ⟨cs, h1, h2⟩ := h.blk
  exact ⟨h.fr.upd u (by simp), h.upd.trans u (by simp), ⟨cs, u.blk h1 (by simp), h2.updN u (by simp)⟩, h.seq, h.low⟩
theorem RdSt.next {c : List Value} {rest1 : List Sch} {q : Nat} (h : RdSt T mk B f p tp pre post w wc l b lc bc fs (m.map (·.1) ++ rest)) {cs : List Value} (hcs : RepSeq wc (Nw w.heap.size wc) fs cs) (h1 : Rs T mk B w' f l' b') (h2 : Upd [f, p] wc w') (h3 : Blk w' p tp (pre ++ cs ++ c ++ ((tup rest).zc ++ post)))
    (h4 : RepSeq w' (Nw wc.heap.size w') m c) (h5 : RSeq m lc bc l' b') : RdSt T mk B f p tp pre post w w' l b l' b' (fs ++ m) rest := by
  refine ⟨h1, h.upd.trans h2 (by simp), ⟨cs ++ c, by simpa only [List.append_assoc] using h3, ?_⟩, h.seq.append h5, h.low⟩
  refine RepSeq.append (Sch.Rep.updN hcs h2 (fun k hk => ?_)) (h4.keep (fun k hk hl => ⟨hk.go h.upd.size rfl, rfl⟩) (Nat.le_refl _))
  have := h.low
  simp; omega
end
end Go.Rc
namespace Go.Proofs.Ythecincpejpmpaa
open Go.RowKit Go.Lb Go.Rc
section
variable {tp : TypeId} {B f p q0 q : Nat} {X : List Nat} {w wc wd : World} {o oc : List Nat} {b bc : Bool} {done rest : List (Sch × Val)}
abbrev CWr (B : Nat) (X : List Nat) (f p : Nat) (tp : TypeId) (q0 : Nat) (w wc : World) (o : List Nat) (b : Bool) (oc : List Nat) (bc : Bool) (done rest : List (Sch × Val)) : Prop := WrSt 113 5 cW B X f p tp q0 w wc o b oc bc done rest
abbrev OWr (B : Nat) (X : List Nat) (f p : Nat) (tp : TypeId) (q0 : Nat) (w wc : World) (o : List Nat) (b : Bool) (oc : List Nat) (bc : Bool) (done rest : List (Sch × Val)) : Prop := WrSt 96 5 oW B X f p tp q0 w wc o b oc bc done rest
abbrev CRd (B f p : Nat) (tp : TypeId) (pre post : List Value) (w wc : World) (l : List Nat) (b : Bool) (lc : List Nat) (bc : Bool) (fs : List (Sch × Val)) (rest : List Sch) : Prop := RdSt 113 cR B f p tp pre post w wc l b lc bc fs rest
/-- The next field is written. -/
theorem CWr.go {K : Nat} {s : Sch} {v : Val} (C : Writes K s) (h : CWr B X f p tp q0 w wc o b oc bc done ((s, v) :: rest)) (hq : q = q0 + fsize done) :
    Calls Try.prog K #[.pointer (some ⟨f, 0, none⟩), .pointer (some ⟨p, q, none⟩)] wc fun e w' => e = .returned (.tuple #[]) ∧ ∃ o' b', CWr B X f p tp q0 w w' o b o' b' (done ++ [(s, v)]) rest := by
  obtain ⟨pre, cr, post, k1, k2, k3⟩ := h.blk
  obtain ⟨c, r, rfl, j1, j2⟩ := k3.open
  have hl := h.len
  rw [csum_cons] at hl
  refine (C B X f p q tp pre c (r ++ post) v oc bc wc h.fw h.mem (by omega) (by simpa only [List.append_assoc] using k1) j1 (by dsimp only at hl; omega)).mono fun e w' ⟨he, o', b', h1, h2, h3⟩ => ?_
  exact ⟨he, o', b', WrSt.next (m := [(s, v)]) h h1 h2 (CSeq.one h3)⟩
/-- The next numbers are written. -/
theorem CWr.goNums {ns : List Int} {ab k : Nat} {t : TypeId} {vs : List Value} (h : CWr B X f p tp q0 w wc o b oc bc done (nums ns ++ rest)) (hk : ns.length = k) (u : Upd [] wc wd) (ha : wc.heap.size ≤ ab) (hv : Blk wd ab t vs) (hvs : vs = (List.range k).map fun i => .pointer (some ⟨p, q0 + fsize done + i, none⟩)) :
    Calls Try.prog 50 #[.pointer (some ⟨f, 0, none⟩), .slice (some ⟨ab, 0, none⟩) k k] wd fun e w' => e = .returned (.tuple #[]) ∧ ∃ o' b', CWr B X f p tp q0 w w' o b o' b' (done ++ nums ns) rest := by
  have h' := h.upd u
  obtain ⟨pre, cr, post, k1, k2, k3⟩ := h'.blk
  obtain ⟨r, rfl, j2⟩ := k3.opn
  have hl := h.len
  rw [csum_append, csum_nums] at hl
  refine (nums_w B (ab :: X) f ab p (q0 + fsize done) k ns tp pre (r ++ post) oc bc wd (h.fw.new u ha hv.lt) hk (by simp) (by simp [h.mem]) (by omega) ?_ (by have e : ns.map iv = ns.map (fun n => Value.int .i64 n) := rfl; rw [e]; simpa only [List.append_assoc] using k1) (by omega)).mono ?_
  · intro i hi
    refine hv.cell ?_
    rw [hvs, List.getElem?_map, List.getElem?_range hi]; rfl
  · rintro e w' ⟨he, o', b', h1, h2, h3⟩
    exact ⟨he, o', b', h'.next h1.less h2.drop h3⟩
theorem CWr.fin {s : Sch} {v : Val} (h : CWr B X f p tp q0 w wc o b oc bc done []) (hs : s = tup (done.map (·.1))) (hv : v = vtup (done.map (·.2))) : WrPost s B X f v o b w (.returned (.tuple #[])) wc := by
  subst hs hv
  exact ⟨rfl, oc, bc, h.fw, h.kp, CSeq.tup h.seq⟩
end
section
variable {tp : TypeId} {B f p q : Nat} {w wc wd : World} {l lc : List Nat} {b bc : Bool} {fs : List (Sch × Val)} {rest : List Sch} {pre post : List Value}
/-- The next field is read. -/
theorem CRd.go {K : Nat} {s : Sch} (C : Reads K s) (h : CRd B f p tp pre post w wc l b lc bc fs (s :: rest)) (hq : q = pre.length + fsize fs) :
    Calls Try.prog K #[.pointer (some ⟨f, 0, none⟩), .pointer (some ⟨p, q, none⟩)] wc fun e w' => e = .returned (.tuple #[]) ∧ ∃ v l' b', CRd B f p tp pre post w w' l b l' b' (fs ++ [(s, v)]) rest := by
  obtain ⟨cs, k1, k2⟩ := h.blk
  have hz : pre ++ cs ++ ((tup (s :: rest)).zc ++ post) = (pre ++ cs) ++ s.zc ++ ((tup rest).zc ++ post) := by simp [tup, Sch.zc]
  rw [hz] at k1
  refine (C B f p q tp (pre ++ cs) ((tup rest).zc ++ post) lc bc wc h.fr h.low.1 h.low.2.1 (by rw [List.length_append, k2.len]; exact hq) k1).mono fun e w' ⟨he, v, c, l', b', h1, h2, h3, h4, h5⟩ => ?_
  refine ⟨he, v, l', b', RdSt.next (m := [(s, v)]) (rest1 := []) (q := 0) h k2 h1 h2 h3 ?_ (RSeq.one h5)⟩
  have := RepSeq.cons (l := []) h4 RepSeq.nil
  rwa [List.append_nil] at this
theorem num_zc : ∀ k, (tup (List.replicate k .num ++ rest)).zc = List.replicate k (.int .i64 0) ++ (tup rest).zc
  | 0 => rfl
  | k + 1 => by rw [List.replicate_succ, List.cons_append, tup, Sch.zc, num_zc k, List.replicate_succ]; rfl
theorem nums_fst (ns : List Int) : (nums ns).map (·.1) = List.replicate ns.length .num := by
  induction ns with
  | nil => rfl
  | cons n ns ih => simp only [nums, List.map_cons, List.length_cons, List.replicate_succ] at ih ⊢; rw [ih]
theorem CRd.goNums {ab k : Nat} {t : TypeId} {vs : List Value} (h : CRd B f p tp pre post w wc l b lc bc fs (List.replicate k .num ++ rest)) (u : Upd [] wc wd) (ha : wc.heap.size ≤ ab) (hv : Blk wd ab t vs) (hvs : vs = (List.range k).map fun i => .pointer (some ⟨p, pre.length + fsize fs + i, none⟩)) (hk : k ≤ 100) :
    Calls Try.prog 50 #[.pointer (some ⟨f, 0, none⟩), .slice (some ⟨ab, 0, none⟩) k k] wd fun e w' => e = .returned (.tuple #[]) ∧ ∃ ns l' b', ns.length = k ∧ CRd B f p tp pre post w w' l b l' b' (fs ++ nums ns) rest := by
  have h' := h.same u
  obtain ⟨cs, k1, k2⟩ := h'.blk
  rw [num_zc] at k1
  have hl := h.low
  have hsz := h.upd.size
  refine (nums_r B f ab p (pre.length + fsize fs) k (List.replicate k (.int .i64 0)) tp (pre ++ cs) ((tup rest).zc ++ post) lc bc wd h'.fr (by simp) hl.1 hl.2.1 (by omega) (by omega) hv.lt (by rw [List.length_append, k2.len]) ?_ (by simpa only [List.append_assoc] using k1) hk).mono ?_
  · intro i hi
    refine hv.cell ?_
    rw [hvs, List.getElem?_map, List.getElem?_range hi]; rfl
  · rintro e w' ⟨he, ns, l', b', hn, h1, h2, h3, h4⟩
    refine ⟨he, ns, l', b', hn, RdSt.next (m := nums ns) (rest1 := []) (q := 0) ?_ k2 h1 h2 h3 (repseq_nums ns) h4⟩
    rw [nums_fst, hn]; exact h'
theorem CRd.fin {s : Sch} (h : CRd B f p tp pre post w wc l b lc bc fs []) (hs : s = tup (fs.map (·.1))) : RdPost s B f p tp pre post l b w (.returned (.tuple #[])) wc := by
  subst hs
  obtain ⟨cs, k1, k2⟩ := h.blk
  exact ⟨rfl, vtup (fs.map fun x : Sch × Val => x.2), cs, lc, bc, h.fr, h.upd, by simpa [tup, Sch.zc] using k1, k2, RSeq.tup h.seq⟩
end
end Go.Proofs.Ythecincpejpmpaa
/- Lists in a record: what the walks of codec's list share. -/
namespace Go.Rc
open Go Go.RowKit Go.Lb
/-- The list so far. -/
abbrev LWk (s : Sch) (n : Nat) (l : List Val) (o : List Nat) (b : Bool) (o' : List Nat) (b' : Bool) : Prop :=
  WOk (n ≤ 64 ∧ ∀ x ∈ l, s.good x) (nput n ++ l.flatMap s.put) (6 + (l.map s.wmax).sum) o b o' b'
theorem sum_take (l : List Nat) (i : Nat) : (l.take i).sum ≤ l.sum := by
  have h : (l.take i ++ l.drop i).sum = l.sum := by rw [List.take_append_drop]
  rw [List.sum_append] at h
  omega
section
variable {s : Sch} {n : Nat} {l : List Val} {o o1 o2 : List Nat} {b b1 b2 : Bool} {x : Val}
theorem LWk.start (h : WOk (n ≤ 64) (nput n) 6 o b o1 b1) : LWk s n [] o b o1 b1 := h.cast (by simp) (by simp) (by simp)
theorem LWk.snoc (h : LWk s n l o b o1 b1) (k : s.Wr x o1 b1 o2 b2) : LWk s n (l ++ [x]) o b o2 b2 := by
  refine (WOk.seq h k).cast ?_ (fun _ => by simp) (by simp; omega)
  constructor
  · rintro ⟨⟨h1, h2⟩, h3⟩
    refine ⟨h1, fun y hy => ?_⟩
    rcases List.mem_append.1 hy with hy | hy
    · exact h2 y hy
    · simp at hy; subst hy; exact h3
  · rintro ⟨h1, h2⟩
    exact ⟨⟨h1, fun y hy => h2 y (by simp [hy])⟩, h2 x (by simp)⟩
theorem LWk.fin (h : LWk s l.length l o b o1 b1) : (Sch.list s).Wr (.list l) o b o1 b1 := h.cast Iff.rfl (fun _ => rfl) (Nat.le_refl _)
/-- Something was wrong already. -/
theorem LWk.early {i : Nat} (h : LWk s l.length (l.take i) o b o1 true) : (Sch.list s).Wr (.list l) o b o1 true := by
  refine ⟨⟨fun e => (by cases e), fun ⟨e1, e2⟩ => ?_⟩, fun e => (by cases e), ?_⟩
  · exact h.bad.2 ⟨e1, e2.1, fun x hx => e2.2 x (List.mem_of_mem_take hx)⟩
  · have h1 := h.len
    have h2 : ((l.take i).map s.wmax).sum ≤ (l.map s.wmax).sum := by rw [List.map_take]; exact sum_take _ _
    simp only [Sch.wmax]; omega
theorem LWk.room {i : Nat} (h : LWk s l.length (l.take i) o b o1 b1) (hx : l[i]? = some x) (hl : o.length + (Sch.list s).wmax (.list l) ≤ 1099511627776) : o1.length + s.wmax x ≤ 1099511627776 := by
  have h1 := h.len
  have h2 : ((l.take (i + 1)).map s.wmax).sum ≤ (l.map s.wmax).sum := by rw [List.map_take]; exact sum_take _ _
  rw [take_snoc hx] at h2
  simp only [Sch.wmax, List.map_append, List.sum_append, List.map_cons, List.map_nil, List.sum_cons, List.sum_nil] at hl h2
  omega
end
/-- The list so far, as codec writes it. -/
def LCk (s : Sch) (n : Nat) (l : List Val) (o : List Nat) (b : Bool) (o' : List Nat) (b' : Bool) : Prop :=
  WOk (n ≤ 64 ∧ ∀ x ∈ l, s.good x) (nput n ++ l.flatMap s.put) (6 + (l.map s.cmax).sum) o b o' b' ∧ (64 < n → l = [])
section
variable {s : Sch} {n : Nat} {l : List Val} {o o1 o2 : List Nat} {b b1 b2 : Bool} {x : Val}
theorem LCk.start (h : WOk (n ≤ 64) (nput n) 6 o b o1 b1) : LCk s n [] o b o1 b1 := ⟨h.cast (by simp) (by simp) (by simp), fun _ => rfl⟩
theorem LCk.short (h : LCk s n l o b o1 false) : n ≤ 64 := (h.1.bad.1 rfl).2.1
theorem LCk.snoc (h : LCk s n l o b o1 b1) (h64 : n ≤ 64) (k : s.Wc x o1 b1 o2 b2) : LCk s n (l ++ [x]) o b o2 b2 := by
  refine ⟨(WOk.seq h.1 k).cast ?_ (fun _ => by simp) (by simp; omega), fun h => by omega⟩
  constructor
  · rintro ⟨⟨h1, h2⟩, h3⟩
    refine ⟨h1, fun y hy => ?_⟩
    rcases List.mem_append.1 hy with hy | hy
    · exact h2 y hy
    · simp at hy; subst hy; exact h3
  · rintro ⟨h1, h2⟩
    exact ⟨⟨h1, fun y hy => h2 y (by simp [hy])⟩, h2 x (by simp)⟩
theorem LCk.fin (h : LCk s l.length l o b o1 b1) : (Sch.list s).Wc (.list l) o b o1 b1 := by
  refine h.1.cast Iff.rfl (fun _ => rfl) ?_
  simp only [Sch.cmax]
  by_cases h64 : l.length ≤ 64
  · rw [if_pos h64]; exact Nat.le_refl _
  · have := h.2 (by omega)
    subst this
    simp at h64
/-- Something was wrong already. -/
theorem LCk.early {i : Nat} (h : LCk s l.length (l.take i) o b o1 true) : (Sch.list s).Wc (.list l) o b o1 true := by
  refine ⟨⟨fun e => (by cases e), fun ⟨e1, e2⟩ => ?_⟩, fun e => (by cases e), ?_⟩
  · exact h.1.bad.2 ⟨e1, e2.1, fun x hx => e2.2 x (List.mem_of_mem_take hx)⟩
  · have h1 := h.1.len
    simp only [Sch.cmax]
    by_cases h64 : l.length ≤ 64
    · have h2 : ((l.take i).map s.cmax).sum ≤ (l.map s.cmax).sum := by rw [List.map_take]; exact sum_take _ _
      rw [if_pos h64]; omega
    · rw [h.2 (by omega)] at h1
      simp at h1
      omega
theorem LCk.room {i : Nat} (h : LCk s l.length (l.take i) o b o1 b1) (h64 : l.length ≤ 64) (hx : l[i]? = some x) (hl : o.length + (Sch.list s).cmax (.list l) ≤ 225000000000000) : o1.length + s.cmax x ≤ 225000000000000 := by
  have h1 := h.1.len
  have h2 : ((l.take (i + 1)).map s.cmax).sum ≤ (l.map s.cmax).sum := by rw [List.map_take]; exact sum_take _ _
  rw [take_snoc hx] at h2
  simp only [Sch.cmax, List.map_append, List.sum_append, List.map_cons, List.map_nil, List.sum_cons, List.sum_nil] at hl h2
  rw [if_pos h64] at hl
  omega
end
/-- Things that stand in a row that came in. -/
def Elems (w : World) (ok : Nat → Prop) (s : Sch) (k : Nat) (a : Option Addr) (l : List Val) : Prop := ∀ i x, l[i]? = some x → ∃ b o us, a = some ⟨b, o, none⟩ ∧ ok b ∧ b < w.heap.size ∧ w.rangeAt b (o + i * k) us ∧ s.Rep w ok us x
theorem Elems.keep {w w' : World} {ok ok' : Nat → Prop} (hk : ∀ b, ok b → b < w.heap.size → ok' b ∧ w'.heap[b]? = w.heap[b]?) (hs : w.heap.size ≤ w'.heap.size) {s : Sch} {k : Nat} {a : Option Addr} {l : List Val} (h : Elems w ok s k a l) : Elems w' ok' s k a l := fun i x hx => by
  obtain ⟨b, o, us, k1, k2, k3, k4, k5⟩ := h i x hx
  obtain ⟨m1, m2⟩ := hk b k2 k3
  exact ⟨b, o, us, k1, m1, by omega, rangeAt_keep k4 m2, k5.keep hk hs⟩
theorem run_buildSlice1 {P : Program} (w : World) (t e : TypeId) (ie : TypeInfo) (z : Value) (us : List Value) (n : Nat) (hu : P.underlying t = some (.slice e)) (hie : P.info? e = some ie) (hz : ie.zero = some z) (hs : ie.size = n) (hn : us.length = n) (h0 : 0 < n) (h9 : n ≤ 10000) :
    (Instr.buildSlice t 1 #[(0, .agg us.toArray)]).run P w = .ok (.slice (some ⟨w.heap.size, 0, none⟩) 1 1) (w.alloc (.cells us.toArray e)) := by
  subst hs
  refine Go.run_buildSlice w t e 1 _ us.toArray ie z hu hie hz (by omega) (by omega) ?_
  have := Go.Great.fill_whole h0 [.agg us.toArray] ((Array.range (1 * ie.size)).map (z.cells[· % z.cells.size]!)) (by simp [Value.cells, hn]) (by simp)
  simpa [Value.cells] using this
theorem own_lo {w : World} {base n sz : Nat} {e : TypeId} {v : Value} {xs : List Value} (h : w.ownsRow base e sz v n xs) {g : Nat} (hg : v.ownBlock = some g) : base ≤ g ∧ g < w.heap.size := by
  rcases h.2 with ⟨rfl, _⟩ | ⟨g', cap, cur, rfl, hb, h1, _⟩
  · simp [Value.ownBlock] at hg
  · simp [Value.ownBlock] at hg
    subst hg
    exact ⟨hb, lt_of_block h1⟩
theorem own_shape' {w : World} {base n sz : Nat} {e : TypeId} {v : Value} {xs : List Value} (h : w.ownsRow base e sz v n xs) : ∃ a c, v = .slice a n c := by
  rcases h.2 with ⟨rfl, rfl⟩ | ⟨g, cap, cur, rfl, _⟩
  · exact ⟨none, 0, rfl⟩
  · exact ⟨_, _, rfl⟩
theorem own_is {w : World} {base n sz : Nat} {e : TypeId} {v : Value} {xs : List Value} (h : w.ownsRow base e sz v n xs) : (v = .slice none 0 0 ∧ n = 0) ∨ ∃ g c, v = .slice (some ⟨g, 0, none⟩) n c ∧ base ≤ g ∧ g < w.heap.size ∧ n ≤ c ∧ c ≤ maxLen := by
  rcases h.2 with ⟨rfl, rfl⟩ | ⟨g', cap, cur, rfl, hb, h1, h2, h3, _⟩
  · exact .inl ⟨rfl, rfl⟩
  · exact .inr ⟨_, _, rfl, hb, lt_of_block h1, h2, h3⟩

/-- How many there are of something. -/
def lget (most : Nat) (l : List Nat) : Option (Nat × List Nat) := match nget l with
  | none => none
  | some (n, r) => if 0 ≤ n ∧ n ≤ most then some (n.toNat, r) else none
theorem list_get (s : Sch) (l : List Nat) : (Sch.list s).get l = match lget 64 l with
    | none => none
    | some (k, r) => match many s.get k r with
      | none => none
      | some (xs, r2) => some (.list xs, r2) := by
  unfold lget
  simp only [Sch.get]
  cases nget l with
  | none => rfl
  | some p =>
    obtain ⟨n, r⟩ := p
    dsimp only
    by_cases h : 0 ≤ n ∧ n ≤ 64
    · rw [if_pos h, if_pos (by omega)]
      rfl
    · rw [if_neg h, if_neg (by omega)]
/-- Where the reading of a list stands: i things of k are read, their cells stand in the row v. -/
structure LRdSt (s : Sch) (T : TypeId) (mk : Value → Bool → List Value) (F : List Nat) (B f : Nat) (el : TypeId) (sz : Nat) (w wc : World) (k : Nat) (l : List Nat) (b : Bool) (i : Nat) (lc : List Nat) (bc : Bool) (v : Value) (xss : List (List Value)) (xs : List Val) : Prop where
  fr : Rs T mk B wc f lc bc
  upd : Upd F w wc
  row : wc.ownsRow w.heap.size el sz v i xss.flatten
  wid : ∀ x ∈ xss, x.length = sz
  cnt : xss.length = i ∧ xs.length = i
  rep : ∀ (j : Nat) (us : List Value) (x : Val), xss[j]? = some us → xs[j]? = some x → s.Rep wc (fun b => Nw w.heap.size wc b ∧ v.ownBlock ≠ some b) us x
  good : bc = false → b = false ∧ ∃ r, lget 64 l = some (k, r) ∧ many s.get i r = some (xs, lc)
  bad : bc = true → b = true ∨ (Sch.list s).get l = none
  low : ∀ x ∈ F, x < w.heap.size
section
variable {s : Sch} {T el : TypeId} {mk : Value → Bool → List Value} {F : List Nat} {B f sz k i : Nat} {w wc w2 w3 w4 : World} {l lc l2 : List Nat} {b bc b2 : Bool} {v v' : Value} {xss : List (List Value)} {xs : List Val} {us : List Value} {x : Val}
theorem LRdSt.start (h : Rs T mk B wc f lc bc) (u : Upd F w wc) (hF : ∀ x ∈ F, x < w.heap.size) (hr : ROk (lget 64) l b k lc bc) : LRdSt s T mk F B f el sz w wc k l b 0 lc bc (.slice none 0 0) [] [] :=
  ⟨h, u, ⟨by simp, .inl ⟨rfl, rfl⟩⟩, by simp, ⟨rfl, rfl⟩, fun j us x hj => by simp at hj, fun e => ⟨(hr.good e).1, lc, (hr.good e).2, rfl⟩, fun e => (hr.bad e).imp id fun h => by rw [list_get, h], hF⟩
theorem LRdSt.upd' (h : LRdSt s T mk F B f el sz w wc k l b i lc bc v xss xs) (u : Upd [] wc w2) : LRdSt s T mk F B f el sz w w2 k l b i lc bc v xss xs :=
  ⟨h.fr.upd u (by simp), h.upd.trans u (by simp), u.row h.row (by simp), h.wid, h.cnt, fun j us x h1 h2 => (h.rep j us x h1 h2).keep (fun k hk hl => ⟨⟨hk.1.go (Nat.le_refl _) (u.block k hl (by simp)), hk.2⟩, u.block k hl (by simp)⟩) u.size, h.good, h.bad, h.low⟩
theorem LRdSt.next (h : LRdSt s T mk F B f el sz w wc k l b i lc bc v xss xs) (hik : i < k) (hU : Upd F wc w2) (hr : s.Rep w2 (Nw wc.heap.size w2) us x) (hus : us.length = sz) (hd : s.Rd lc bc x l2 b2)
    (hg : w2.grownBy w3 v.ownBlock) (hown : w3.ownsRow w.heap.size el sz v' (i + 1) (xss.flatten ++ us)) (hv : v'.ownBlock = v.ownBlock ∨ v'.ownBlock = some w2.heap.size) (u4 : Upd F w3 w4) (h1 : Rs T mk B w4 f l2 b2) :
    LRdSt s T mk F B f el sz w w4 k l b (i + 1) l2 b2 v' (xss ++ [us]) (xs ++ [x]) := by
  have hsz := h.upd.size
  have hsz2 := hU.size
  have hsz3 := hg.size
  have hob : ∀ g, v.ownBlock = some g → w.heap.size ≤ g ∧ g < wc.heap.size := fun g hg => own_lo h.row hg
  have hFn : ∀ g, w.heap.size ≤ g → g ∉ F := fun g h1 h2 => by have := h.low g h2; omega
  have step : ∀ j, j < w2.heap.size → w.heap.size ≤ j → v.ownBlock ≠ some j → w4.heap[j]? = w2.heap[j]? := fun j hj hw hne =>
    (u4.block j (Nat.lt_of_lt_of_le hj hsz3) (hFn j hw)).trans (hg.block j hj (fun e => hne e.symm))
  have hne' : ∀ j, j < w2.heap.size → v.ownBlock ≠ some j → v'.ownBlock ≠ some j := fun j hj hne => by
    rcases hv with h2 | h2 <;> rw [h2]
    · exact hne
    · intro e; simp at e; omega
  refine ⟨h1, ?_, ?_, ?_, ?_, ?_, ?_, ?_, h.low⟩
  · exact ((h.upd.trans hU (fun x hx => .inl hx)).grown hg (fun g hg => .inr (hob g hg).1)).trans u4 (fun x hx => .inl hx)
  · rw [List.flatten_append, List.flatten_singleton]
    exact u4.row hown (fun g hg => hFn g (own_lo hown hg).1)
  · intro y hy
    rcases List.mem_append.1 hy with hy | hy
    · exact h.wid y hy
    · simp at hy; subst hy; exact hus
  · simp [h.cnt.1, h.cnt.2]
  · intro j us' x' hj hx
    by_cases hji : j < i
    · rw [List.getElem?_append_left (by rw [h.cnt.1]; exact hji)] at hj
      rw [List.getElem?_append_left (by rw [h.cnt.2]; exact hji)] at hx
      refine (h.rep j us' x' hj hx).keep (fun k hk hl => ?_) (by have := u4.size; omega)
      have e := (step k (by omega) hk.1.1 hk.2).trans (hU.block k hl (hFn k hk.1.1))
      exact ⟨⟨hk.1.go (Nat.le_refl _) e, hne' k (by omega) hk.2⟩, e⟩
    · have hji2 : j = i := by
        have := (List.getElem?_eq_some_iff.1 hj).1
        rw [List.length_append, h.cnt.1] at this
        simp at this; omega
      subst hji2
      rw [List.getElem?_append_right (by rw [h.cnt.1]; exact Nat.le_refl _), h.cnt.1, Nat.sub_self] at hj
      rw [List.getElem?_append_right (by rw [h.cnt.2]; exact Nat.le_refl _), h.cnt.2, Nat.sub_self] at hx
      simp at hj hx
      subst hj hx
      refine hr.keep (fun k hk hl => ?_) (by have := u4.size; omega)
      have hk1 := hk.1
      have hne : v.ownBlock ≠ some k := fun e => by have := hob k e; omega
      have e := step k hl (by omega) hne
      exact ⟨⟨hk.go (by omega) e, hne' k hl hne⟩, e⟩
  · intro e
    obtain ⟨e0, hget⟩ := hd.good e
    obtain ⟨e1, r, e2, e3⟩ := h.good e0
    refine ⟨e1, r, e2, ?_⟩
    rw [many_snoc s.get i r xs lc e3, hget]
  · intro e
    cases bc with
    | true => exact h.bad rfl
    | false =>
      obtain ⟨e1, r, e2, e3⟩ := h.good rfl
      right
      rcases hd.bad e with h2 | h2
      · cases h2
      · have hm : many s.get (i + 1) r = none := by rw [many_snoc s.get i r xs lc e3, h2]
        rw [list_get, e2]
        dsimp only
        rw [many_fail s.get (i + 1) k r hm (by omega)]
theorem LRdSt.rd (h : LRdSt s T mk F B f el sz w wc k l b i lc bc v xss xs) (hi : bc = true ∨ i = k) : (Sch.list s).Rd l b (.list xs) lc bc := by
  refine ⟨fun e => ?_, h.bad⟩
  rcases hi with h1 | rfl
  · rw [h1] at e; cases e
  · obtain ⟨e1, r, e2, e3⟩ := h.good e
    refine ⟨e1, ?_⟩
    rw [list_get, e2]
    dsimp only
    rw [e3]
theorem LRdSt.isRep (h : LRdSt s T mk F B f el s.size w wc k l b i lc bc v xss xs) : (Sch.list s).Rep wc (Nw w.heap.size wc) [v] (.list xs) := by
  have hc := h.cnt
  rcases own_is h.row with ⟨rfl, h0⟩ | ⟨g, c, rfl, hg, hgl, hic, _⟩
  · have hx : xs = [] := List.eq_nil_of_length_eq_zero (by omega)
    subst hx
    exact ⟨none, 0, [], rfl, rfl, fun i x h => by simp at h⟩
  · refine ⟨_, c, xs, by rw [hc.2], rfl, fun j x hx => ?_⟩
    have hj := (List.getElem?_eq_some_iff.1 hx).1
    have hus : xss[j]? = some xss[j] := List.getElem?_eq_getElem (by omega)
    refine ⟨g, 0, xss[j], rfl, ⟨hg, own_soft h.row rfl⟩, hgl, ?_, (h.rep j _ x hus hx).mono (fun b hb _ => hb.1)⟩
    rw [Nat.zero_add]
    exact row_range h.row h.wid hus
end
end Go.Rc
namespace Go.Proofs.Ythecincpejpmpaa
open Go.RowKit Go.Lb Go.Rc
/-- Function L writes lists, of which function K writes each. -/
def LWrites (L K : Nat) (s : Sch) : Prop := ∀ (B : Nat) (X : List Nat) (f p q : Nat) (tp : TypeId) (pre cs post : List Value) (v : Val) (o : List Nat) (b : Bool) (w : World), Fw B X w f o b → p ∈ X → q = pre.length → Blk w p tp (pre ++ cs ++ post) → (Sch.list s).Rep w (· < B) cs v → o.length + (Sch.list s).cmax v ≤ 225000000000000 →
  Calls Try.prog L #[.pointer (some ⟨f, 0, none⟩), .pointer (some ⟨p, q, none⟩), .func (.func K) #[.pointer (some ⟨f, 0, none⟩)] #[]] w (WrPost (.list s) B X f v o b w)
def LReads (L K : Nat) (s : Sch) : Prop := ∀ (B f p q : Nat) (tp : TypeId) (pre post : List Value) (l : List Nat) (b : Bool) (w : World), Fr B w f l b → B ≤ p → p ≠ f → q = pre.length → Blk w p tp (pre ++ [.slice none 0 0] ++ post) →
  Calls Try.prog L #[.pointer (some ⟨f, 0, none⟩), .pointer (some ⟨p, q, none⟩), .func (.func K) #[.pointer (some ⟨f, 0, none⟩)] #[]] w (RdPost (.list s) B f p tp pre post l b w)
section
variable {tp : TypeId} {B f p q0 q : Nat} {X : List Nat} {w wc wd : World} {o oc : List Nat} {b bc : Bool} {done rest : List (Sch × Val)}
theorem CWr.goList {L K : Nat} {s : Sch} {v : Val} (C : LWrites L K s) (h : CWr B X f p tp q0 w wc o b oc bc done ((.list s, v) :: rest)) (hq : q = q0 + fsize done) :
    Calls Try.prog L #[.pointer (some ⟨f, 0, none⟩), .pointer (some ⟨p, q, none⟩), .func (.func K) #[.pointer (some ⟨f, 0, none⟩)] #[]] wc fun e w' => e = .returned (.tuple #[]) ∧ ∃ o' b', CWr B X f p tp q0 w w' o b o' b' (done ++ [(.list s, v)]) rest := by
  obtain ⟨pre, cr, post, k1, k2, k3⟩ := h.blk
  obtain ⟨c, r, rfl, j1, j2⟩ := k3.open
  have hl := h.len
  rw [csum_cons] at hl
  refine (C B X f p q tp pre c (r ++ post) v oc bc wc h.fw h.mem (by omega) (by simpa only [List.append_assoc] using k1) j1 (by dsimp only at hl; omega)).mono fun e w' ⟨he, o', b', h1, h2, h3⟩ => ?_
  exact ⟨he, o', b', WrSt.next (m := [(.list s, v)]) h h1 h2 (CSeq.one h3)⟩
end
section
variable {tp : TypeId} {B f p q : Nat} {w wc wd : World} {l lc : List Nat} {b bc : Bool} {fs : List (Sch × Val)} {rest : List Sch} {pre post : List Value}
theorem CRd.goList {L K : Nat} {s : Sch} (C : LReads L K s) (h : CRd B f p tp pre post w wc l b lc bc fs (.list s :: rest)) (hq : q = pre.length + fsize fs) :
    Calls Try.prog L #[.pointer (some ⟨f, 0, none⟩), .pointer (some ⟨p, q, none⟩), .func (.func K) #[.pointer (some ⟨f, 0, none⟩)] #[]] wc fun e w' => e = .returned (.tuple #[]) ∧ ∃ v l' b', CRd B f p tp pre post w w' l b l' b' (fs ++ [(.list s, v)]) rest := by
  obtain ⟨cs, k1, k2⟩ := h.blk
  have hz : pre ++ cs ++ ((tup (.list s :: rest)).zc ++ post) = (pre ++ cs) ++ [.slice none 0 0] ++ ((tup rest).zc ++ post) := by simp [tup, Sch.zc]
  rw [hz] at k1
  refine (C B f p q tp (pre ++ cs) ((tup rest).zc ++ post) lc bc wc h.fr h.low.1 h.low.2.1 (by rw [List.length_append, k2.len]; exact hq) k1).mono fun e w' ⟨he, v, c, l', b', h1, h2, h3, h4, h5⟩ => ?_
  refine ⟨he, v, l', b', RdSt.next (m := [(.list s, v)]) (rest1 := []) (q := 0) h k2 h1 h2 h3 ?_ (RSeq.one h5)⟩
  have := RepSeq.cons (l := []) h4 RepSeq.nil
  rwa [List.append_nil] at this
end
end Go.Proofs.Ythecincpejpmpaa
/- The shapes of the records. -/
namespace Go.Rc
def sRes : Sch := tup [.num, .num]
def sGroup : Sch := tup [.num, sRes]
def sJob : Sch := tup [.num, .num, .num, .num, .list sGroup, .num, .flag]
def sNode : Sch := tup [.num, sRes, .flag, .flag, .num, .num, .num]
def sAlloc : Sch := tup [.num, .num, .num, .num, .num, .num, .num, sRes, .flag, .num]
def sResult : Sch := tup [.num, .num, .list sAlloc]
def sConf : Sch := tup [.list .num, .list .num]
def sPlan : Sch := tup [.num, .num, .num, .list .num, .list sAlloc, .flag]
def sReport : Sch := tup [.num, .num]
def sCmd : Sch := tup [.num, .num, .num, sJob, sNode, .list sReport, sPlan, sConf]
def sEntry : Sch := tup [.num, .num, sCmd]
def sMsg : Sch := tup [.num, .num, .num, .num, .num, .num, .num, .flag, .num, .num, .num, .num, .list sEntry, sConf, .raw, sCmd, sResult]
def sSnapshot : Sch := tup [.num, .num, sConf, .raw]
def sEval : Sch := tup [.num, .num, .num, .num]
def sDeploy : Sch := tup [.num, .num, .num, .num]
def sSeen : Sch := tup [.num, .num, sResult]
def sStore : Sch := tup [.num, .num, .list sJob, .list sJob, .list sNode, .list sAlloc, .list sEval, .list sDeploy, .list sSeen]
end Go.Rc
