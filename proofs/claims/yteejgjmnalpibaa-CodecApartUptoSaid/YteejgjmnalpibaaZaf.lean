/- A part that several proofs lean on: texts one behind the other. No condition but those that each theorem states. -/
import Derived.Test.YteejgjmnalpibaaZae
import Derived.Test.YteejgjmnalpibaaRows
import Derived.DataShut
import Derived.ProofKit
import Derived.OpenShut
import Derived.ShutString
import Derived.ChangeOld
import Derived.JoinedCond
import Derived.Deep.Slices
import Derived.ChangeSame
set_option linter.unusedVariables false
set_option linter.unusedSimpArgs false
/- A record's fields, written by the reference one behind the other: where the writing stands; numbers written out of a new row. -/
namespace Go.Rc
open Go Go.RowKit Go.Lb
theorem rangeAt_split {w : World} {p q : Nat} {c r : List Value} (h : w.rangeAt p q (c ++ r)) : w.rangeAt p q c ∧ w.rangeAt p (q + c.length) r := by
  refine ⟨fun j v hj => h j v ?_, fun j v hj => ?_⟩
  · rw [List.getElem?_append_left (List.getElem?_eq_some_iff.1 hj).1]; exact hj
  · have := h (c.length + j) v (by rw [List.getElem?_append_right (by omega), Nat.add_sub_cancel_left]; exact hj)
    rwa [← Nat.add_assoc] at this
/-- Where a writing stands: done is written, rest stands in block p behind. -/
structure WrG (T U : TypeId) (mk : Value → Bool → List Value) (B : Nat) (X : List Nat) (f p q0 : Nat) (w wc : World) (o : List Nat) (b : Bool) (oc : List Nat) (bc : Bool) (done rest : List (Sch × Val)) : Prop where
  fw : St T U mk B X wc f oc bc
  kp : Kp B X w wc
  seq : WSeq done o b oc bc
  mem : p < B ∨ p ∈ X
  lt : p < w.heap.size
  src : ∃ cr, wc.rangeAt p (q0 + fsize done) cr ∧ RepSeq wc (· < B) rest cr
  len : oc.length + wsum rest ≤ 1099511627776
section
variable {T U : TypeId} {mk : Value → Bool → List Value} {B f p q0 q : Nat} {X : List Nat} {w wc w' : World} {o oc o' : List Nat} {b bc b' : Bool} {done rest m : List (Sch × Val)} {s : Sch} {v : Val}
theorem WrG.start {cs : List Value} (h : St T U mk B X w f o b) (hp : p < B ∨ p ∈ X) (hlt : p < w.heap.size) (hb : w.rangeAt p q0 cs) (hr : RepSeq w (· < B) rest cs) (hl : o.length + wsum rest ≤ 1099511627776) : WrG T U mk B X f p q0 w w o b o b [] rest :=
  ⟨h, Kp.refl _ _ _, ⟨rfl, rfl⟩, hp, hlt, ⟨cs, hb, hr⟩, hl⟩
theorem WrG.upd (h : WrG T U mk B X f p q0 w wc o b oc bc done rest) (u : Upd [] wc w') : WrG T U mk B X f p q0 w w' o b oc bc done rest := by
  obtain ⟨cr, h1, h2⟩ := h.src
  exact ⟨h.fw.same u, h.kp.trans (Kp.of_nil u), h.seq, h.mem, h.lt, ⟨cr, rangeAt_keep h1 (u.block p (Nat.lt_of_lt_of_le h.lt h.kp.size) (by simp)), h2.upd u (by simp)⟩, h.len⟩
/-- What comes next is written. -/
theorem WrG.next (h : WrG T U mk B X f p q0 w wc o b oc bc done (m ++ rest)) (h1 : St T U mk B X w' f o' b') (h2 : Kp B X wc w') (h3 : WSeq m oc bc o' b') : WrG T U mk B X f p q0 w w' o b o' b' (done ++ m) rest := by
  obtain ⟨cr, k1, k3⟩ := h.src
  have hm : ∃ c r, cr = c ++ r ∧ c.length = fsize m ∧ RepSeq wc (· < B) rest r := by
    clear k1 h h3
    induction m generalizing cr with
    | nil => exact ⟨[], cr, rfl, rfl, k3⟩
    | cons x m ih =>
      obtain ⟨c, r, rfl, j1, j2⟩ := RepSeq.open (s := x.1) (v := x.2) k3
      obtain ⟨c', r', rfl, j3, j4⟩ := ih r j2
      exact ⟨c ++ c', r', by simp, by simp [j1.len, j3, fsize], j4⟩
  obtain ⟨c, r, rfl, j1, j2⟩ := hm
  refine ⟨h1, h.kp.trans h2, h.seq.append h3, h.mem, h.lt, ⟨r, ?_, j2.keep (fun k hk hl => ⟨hk, h2.block k hl (.inl hk)⟩) h2.size⟩, ?_⟩
  · have := (rangeAt_split k1).2
    rw [j1] at this
    rw [fsize_append, ← Nat.add_assoc]
    exact rangeAt_keep this (h2.block p (Nat.lt_of_lt_of_le h.lt h.kp.size) h.mem)
  · have := h3.len
    have := h.len
    rw [wsum_append] at this
    omega
/-- What comes next, in memory. -/
theorem WrG.range (h : WrG T U mk B X f p q0 w wc o b oc bc done ((s, v) :: rest)) (hq : q = q0 + fsize done) : ∃ c, s.Rep wc (· < B) c v ∧ wc.rangeAt p q c := by
  subst hq
  obtain ⟨cr, k1, k3⟩ := h.src
  obtain ⟨c, r, rfl, j1, j2⟩ := k3.open
  exact ⟨c, j1, (rangeAt_split k1).1⟩
theorem WrG.numAt {n : Int} (h : WrG T U mk B X f p q0 w wc o b oc bc done ((.num, .num n) :: rest)) (hq : q = q0 + fsize done) : wc.cell? ⟨p, q, none⟩ = some (.int .i64 n) := by
  obtain ⟨c, ⟨k, rfl, hk⟩, hc⟩ := h.range hq
  cases hk
  exact hc 0 _ rfl
theorem WrG.flagAt {t : Bool} (h : WrG T U mk B X f p q0 w wc o b oc bc done ((.flag, .flag t) :: rest)) (hq : q = q0 + fsize done) : wc.cell? ⟨p, q, none⟩ = some (.bool t) := by
  obtain ⟨c, ⟨k, rfl, hk⟩, hc⟩ := h.range hq
  cases hk
  exact hc 0 _ rfl
theorem WrG.listAt {l : List Val} (h : WrG T U mk B X f p q0 w wc o b oc bc done ((.list s, .list l) :: rest)) (hq : q = q0 + fsize done) : ∃ a c, wc.cell? ⟨p, q, none⟩ = some (.slice a l.length c) ∧ (Sch.list s).Rep wc (· < B) [.slice a l.length c] (.list l) := by
  obtain ⟨c, hr, hc⟩ := h.range hq
  have hr' := hr
  obtain ⟨a, k, l', rfl, hl, _⟩ := hr
  cases hl
  exact ⟨a, k, hc 0 _ rfl, hr'⟩
theorem WrG.rawAt {l : List Nat} (h : WrG T U mk B X f p q0 w wc o b oc bc done ((.raw, .raw l) :: rest)) (hq : q = q0 + fsize done) : ∃ a c, wc.cell? ⟨p, q, none⟩ = some (.slice a l.length c) ∧ Sch.raw.Rep wc (· < B) [.slice a l.length c] (.raw l) := by
  obtain ⟨c, hr, hc⟩ := h.range hq
  have hr' := hr
  obtain ⟨a, k, l', rfl, hl, _⟩ := hr
  cases hl
  exact ⟨a, k, hc 0 _ rfl, hr'⟩
/-- The next numbers, in memory. -/
theorem WrG.numsAt {ns : List Int} (h : WrG T U mk B X f p q0 w wc o b oc bc done (nums ns ++ rest)) (hq : q = q0 + fsize done) : wc.rangeAt p q (ns.map fun n => Value.int .i64 n) := by
  subst hq
  obtain ⟨cr, k1, k3⟩ := h.src
  obtain ⟨r, rfl, _⟩ := k3.opn
  exact (rangeAt_split k1).1
theorem list_elems {w : World} {ok : Nat → Prop} {s : Sch} {a : Option Addr} {n c : Nat} {l : List Val} (h : (Sch.list s).Rep w ok [.slice a n c] (.list l)) : n = l.length ∧ Elems w ok s s.size a l := by
  obtain ⟨a', c', l', h1, h2, h3⟩ := h
  cases h2
  cases h1
  exact ⟨rfl, h3⟩
end
/-- Something of the record is written, whatever it is. -/
def Sch.wpos : Sch → Bool
  | .nil => false
  | .pair a b => a.wpos || b.wpos
  | _ => true
theorem Sch.Rep.wpos {w : World} {ok : Nat → Prop} : ∀ {s : Sch} {cs : List Value} {v : Val}, s.wpos = true → s.Rep w ok cs v → 1 ≤ s.wmax v
  | .nil, _, _, h, _ => by cases h
  | .num, _, _, _, h => by obtain ⟨n, _, rfl⟩ := h; simp [Sch.wmax]
  | .flag, _, _, _, h => by obtain ⟨n, _, rfl⟩ := h; simp [Sch.wmax]
  | .raw, _, _, _, h => by obtain ⟨_, _, l, _, rfl, _⟩ := h; simp only [Sch.wmax]; omega
  | .list s, _, _, _, h => by obtain ⟨_, _, l, _, rfl, _⟩ := h; simp only [Sch.wmax]; omega
  | .pair a b, _, _, h, hr => by
    obtain ⟨c1, c2, x, y, _, rfl, h1, h2⟩ := hr
    simp only [Sch.wpos, Bool.or_eq_true] at h
    simp only [Sch.wmax]
    rcases h with h | h
    · have := Sch.Rep.wpos h h1; omega
    · have := Sch.Rep.wpos h h2; omega
theorem sum_pos_len : ∀ (l : List Nat), (∀ x ∈ l, 1 ≤ x) → l.length ≤ l.sum
  | [], _ => by simp
  | x :: l, h => by
    have h1 := sum_pos_len l (fun y hy => h y (by simp [hy]))
    have h2 := h x (by simp)
    simp only [List.length_cons, List.sum_cons]; omega
theorem elems_len {w : World} {ok : Nat → Prop} {s : Sch} {k M m : Nat} {a : Option Addr} {l : List Val} (h : Elems w ok s k a l) (hl : m + (Sch.list s).wmax (.list l) ≤ M) (hs : s.wpos = true) : l.length ≤ M := by
  have h1 := sum_pos_len (l.map s.wmax) (fun x hx => by
    obtain ⟨y, hy, rfl⟩ := List.mem_map.1 hx
    obtain ⟨i, hi⟩ := List.mem_iff_getElem?.1 hy
    obtain ⟨_, _, _, _, _, _, _, hr⟩ := h i y hi
    exact hr.wpos hs)
  rw [List.length_map] at h1
  simp only [Sch.wmax] at hl
  omega
end Go.Rc
namespace Go.Proofs.Yteejgjmnalpibaa
open Go.RowKit Go.Lb Go.Rc
abbrev OWg (B : Nat) (X : List Nat) (f p q0 : Nat) (w wc : World) (o : List Nat) (b : Bool) (oc : List Nat) (bc : Bool) (done rest : List (Sch × Val)) : Prop := WrG 108 5 oW B X f p q0 w wc o b oc bc done rest
section
variable {tp : TypeId} {B f p q0 q : Nat} {X : List Nat} {w wc wd : World} {o oc : List Nat} {b bc : Bool} {done rest : List (Sch × Val)} {s : Sch} {v : Val}
/-- The record was handed over: it lies in a new block. -/
theorem OWg.start {cs : List Value} (h : Ow B X w f o b) (hr : RepSeq w (· < B) rest cs) (hl : o.length + wsum rest ≤ 1099511627776) (hb : Blk wd w.heap.size tp cs) (u : Upd [] w wd) : OWg B (w.heap.size :: X) f w.heap.size 0 wd wd o b o b [] rest :=
  WrG.start (h.new u (Nat.le_refl _) hb.lt) (.inr (by simp)) hb.lt hb.range (hr.upd u (by simp)) hl
theorem OWg.go {K : Nat} {c : List Value} (C : OWrites K s) (h : OWg B X f p q0 w wc o b oc bc done ((s, v) :: rest)) (hc : s.Rep wc (· < B) c v) :
    Calls Try.prog K #[.pointer (some ⟨f, 0, none⟩), argOf s c] wc fun e w' => e = .returned (.tuple #[]) ∧ ∃ o' b', OWg B X f p q0 w w' o b o' b' (done ++ [(s, v)]) rest := by
  have hl := h.len
  rw [wsum_cons] at hl
  refine (C B X f c v oc bc wc h.fw hc (by dsimp only at hl; omega)).mono fun e w' ⟨he, o', b', h1, h2, h3⟩ => ?_
  exact ⟨he, o', b', WrG.next (m := [(s, v)]) h h1 h2 (WSeq.one h3)⟩
theorem OWg.goNum {n : Int} (h : OWg B X f p q0 w wc o b oc bc done ((.num, .num n) :: rest)) :
    Calls Try.prog 67 #[.pointer (some ⟨f, 0, none⟩), .int .i64 n] wc fun e w' => e = .returned (.tuple #[]) ∧ ∃ o' b', OWg B X f p q0 w w' o b o' b' (done ++ [(.num, .num n)]) rest :=
  OWg.go (c := [.int .i64 n]) onum_writes h (Sch.Rep.num_mk n)
theorem OWg.goFlag {t : Bool} (h : OWg B X f p q0 w wc o b oc bc done ((.flag, .flag t) :: rest)) :
    Calls Try.prog 74 #[.pointer (some ⟨f, 0, none⟩), .bool t] wc fun e w' => e = .returned (.tuple #[]) ∧ ∃ o' b', OWg B X f p q0 w w' o b o' b' (done ++ [(.flag, .flag t)]) rest :=
  OWg.go (c := [.bool t]) oflag_writes h ⟨t, rfl, rfl⟩
/-- How many the next list has is written; the list's things come then. -/
theorem OWg.goCount {l : List Val} (h : OWg B X f p q0 w wc o b oc bc done ((.list s, .list l) :: rest)) :
    Calls Try.prog 70 #[.pointer (some ⟨f, 0, none⟩), .int .i64 (l.length : Int)] wc fun e w' => e = .returned (.tuple #[]) ∧ ∃ o' b', Ow B X w' f o' b' ∧ Kp B X wc w' ∧ LWk s l.length [] oc bc o' b' := by
  have hl := h.len
  rw [wsum_cons] at hl
  refine (ocount_w B X f l.length oc bc wc h.fw (by simp only [Sch.wmax] at hl; omega)).mono fun e w' ⟨he, o', b', h1, h2, h3⟩ => ⟨he, o', b', h1, h2, LWk.start h3⟩
theorem OWg.fin (h : OWg B (p :: X) f p 0 wd wc o b oc bc done []) (u : Upd [] w wd) (hs : s = tup (done.map (·.1))) (hv : v = vtup (done.map (·.2))) : OPost s B X f v o b w (.returned (.tuple #[])) wc := by
  subst hs hv
  exact ⟨rfl, oc, bc, h.fw.less, (Kp.of_nil u).trans h.kp.drop, WSeq.tup h.seq⟩
end

def ONumsW (B : Nat) (X : List Nat) (f : Nat) (ns : List Int) (o : List Nat) (b : Bool) (w : World) (e : Ending) (w' : World) : Prop :=
  e = .returned (.tuple #[]) ∧ ∃ o' b', Ow B X w' f o' b' ∧ Kp B X w w' ∧ WSeq (nums ns) o b o' b'

set_option maxRecDepth 20000 in
set_option maxHeartbeats 1000000 in
theorem onums16_w (B : Nat) (X : List Nat) (f ab k : Nat) (ns : List Int) (o : List Nat) (b : Bool) (w : World) (h : Ow B X w f o b) (hk : ns.length = k) (ha : ab ∈ X)
    (hpt : w.rangeAt ab 0 (ns.map iv)) (hl : o.length + 6 * k ≤ 1099511627776) :
    Calls Try.prog 73 #[.pointer (some ⟨f, 0, none⟩), .slice (some ⟨ab, 0, none⟩) k k] w (ONumsW B X f ns o b w) := by
  subst hk
  have H := Lib.hid h
  have HA := Lib.hid ha
  have HPT := Lib.hid hpt
  have hal := h.1 ab ha
  clear h ha hpt
  go_enter Try.func73, Try.ntmps73
  go_wp2_with fail
  go_loopg [4] ns.length (fun g t wr => ∃ (i : Nat) (o' : List Nat) (b' : Bool), t = .int .i64 i ∧ ns.length - i = g ∧ i ≤ ns.length ∧ Ow B X wr f o' b' ∧ Kp B X w wr ∧ WSeq (nums (ns.take i)) o b o' b')
  case atStart => exact ⟨0, o, b, rfl, rfl, by omega, H.out, Kp.refl _ _ _, rfl, rfl⟩
  case round =>
    obtain ⟨i, o', b', rfl, hg, hi, hF, hK, hW⟩ := hrel
    have HG := Lib.hid hg
    have HF := Lib.hid hF
    have HK := Lib.hid hK
    have HW := Lib.hid hW
    clear hg hF hK hW
    by_cases hlt : i < ns.length
    · have t1 : decide (i < ns.length) = true := by simpa using hlt
      obtain ⟨n, hn⟩ : ∃ n, ns[i]? = some n := ⟨_, List.getElem?_eq_getElem hlt⟩
      have HN := Lib.hid hn
      have c0 := HPT.out i (.int .i64 n) (by rw [List.getElem?_map, hn]; rfl)
      rw [Nat.zero_add] at c0
      have c1 : wr.cell? ⟨ab, i, none⟩ = some (.int .i64 n) := (HK.out.cell (o := i) hal (.inr HA.out)).trans c0
      have hwl := HW.out.len
      rw [wsum_nums, List.length_take] at hwl
      have hol : o'.length + 6 ≤ 1099511627776 := by omega
      clear hn c0 hwl
      go_wp2_with fail
      refine (onum_w B X f n o' b' _ HF.out hol).mono ?_
      rintro e w1 ⟨rfl, o2, b2, h1, h2, h3⟩
      have H1 := Lib.hid h1
      have H2 := Lib.hid h2
      have H3 := Lib.hid h3
      clear h1 h2 h3
      go_wp2_with fail
      go_roundg (ns.length - (i + 1))
      case measure => have := HG.out; omega
      case rel => exact ⟨i + 1, o2, b2, by go_num, rfl, by omega, H1.out, HK.out.trans H2.out, by rw [take_snoc HN.out, nums, List.map_append]; exact HW.out.snoc H3.out⟩
    · obtain rfl : i = ns.length := by omega
      go_wp2_with fail
      go_end0
      refine ⟨rfl, o', b', HF.out, HK.out, ?_⟩
      have := HW.out
      rwa [List.take_length] at this
section
variable {tp : TypeId} {B f p q0 q : Nat} {X : List Nat} {w wc wd : World} {o oc : List Nat} {b bc : Bool} {done rest : List (Sch × Val)} {s : Sch} {v : Val}
/-- The next numbers are written, out of a new row. -/
theorem OWg.goNums {ns : List Int} {ab k : Nat} {t : TypeId} {vs : List Value} (h : OWg B X f p q0 w wc o b oc bc done (nums ns ++ rest)) (hk : ns.length = k) (u : Upd [] wc wd) (ha : wc.heap.size ≤ ab) (hv : Blk wd ab t vs) (hvs : vs = ns.map iv) :
    Calls Try.prog 73 #[.pointer (some ⟨f, 0, none⟩), .slice (some ⟨ab, 0, none⟩) k k] wd fun e w' => e = .returned (.tuple #[]) ∧ ∃ o' b', OWg B X f p q0 w w' o b o' b' (done ++ nums ns) rest := by
  have h' := h.upd u
  have hl := h.len
  rw [wsum_append, wsum_nums] at hl
  subst hvs
  refine (onums16_w B (ab :: X) f ab k ns oc bc wd (h.fw.new u ha hv.lt) hk (by simp) hv.range (by omega)).mono ?_
  rintro e w' ⟨he, o', b', h1, h2, h3⟩
  exact ⟨he, o', b', h'.next h1.less h2.drop h3⟩
end
end Go.Proofs.Yteejgjmnalpibaa
/- The reference's Out.Bytes. -/
namespace Go.Proofs.Yteejgjmnalpibaa
open Go.RowKit Go.Lb Go.Rc

set_option maxRecDepth 20000 in
set_option maxHeartbeats 2000000 in
theorem obytes_writes : OWrites 76 .raw := fun B X f cs v o b w h hr hl => by
  obtain ⟨i5, hi5, hz0, hz1, hz2⟩ := infoU8
  obtain ⟨a, c, l, rfl, rfl, hby⟩ := hr
  have hl2 : o.length + (6 + l.length) ≤ 1099511627776 := hl
  obtain ⟨m1, m2, m3⟩ := ow_mark h
  obtain ⟨tt, htt⟩ : ∃ tt, decide ((65536 : Int) < (l.length : Int)) = tt := ⟨_, rfl⟩
  obtain ⟨b1, hb1⟩ : ∃ b1 : Bool, b1 = (b || tt) := ⟨_, rfl⟩
  have HM := Lib.hid (out_mark (i := 1) (fun _ _ _ => rfl) h b1)
  have HBY := Lib.hid hby
  have hB := h.base
  have fin : ∀ (o' : List Nat) (b' : Bool), Sch.num.Wr (.num (l.length : Int)) o b1 o' b' → Sch.raw.Wr (.raw l) o b (o' ++ l) b' := fun o' b' h => by
    refine ⟨?_, ?_, ?_⟩
    · rw [h.bad, hb1, ← htt]
      simp only [Bool.or_eq_false_iff, decide_eq_false_iff_not, Sch.good, maxN, and_assoc]
      constructor
      · rintro ⟨h1, h2, _⟩
        exact ⟨h1, by omega, fun x hx => by
          obtain ⟨i, hi⟩ := List.mem_iff_getElem?.1 hx
          exact (hby i x hi).1⟩
      · rintro ⟨h1, h2, _⟩
        exact ⟨h1, by omega, by omega, by omega⟩
    · intro e
      rw [h.out e, List.append_assoc]; rfl
    · have := h.len
      simp only [List.length_append, Sch.wmax] at this ⊢
      omega
  have HFIN := Lib.hid fin
  clear fin h hby hl
  show Calls Try.prog _ #[_, .slice a l.length c] _ _
  cases b
  all_goals
    simp only [Bool.false_or, Bool.true_or] at hb1
    subst hb1
    go_enter Try.func76, Try.ntmps76
    go_wp2_with fail
    refine (onum_w B X f _ o _ _ HM.out.1 (by omega)).mono ?_
    rintro e w1 ⟨rfl, o1, b1, h1, h2, h3⟩
    have ho1 := h3.len
    simp only [Sch.wmax] at ho1
    have H2 := Lib.hid (HM.out.2.trans h2)
    have HB1 : Hid (Bytes w1 (· < B) a l) := Lib.hid (HBY.out.keep (fun k hk hl => ⟨hk, (HM.out.2.trans h2).block k hl (.inl hk)⟩) (HM.out.2.trans h2).size)
    have H3 := Lib.hid (HFIN.out _ _ h3)
    obtain ⟨hX1, vb, hO, hs⟩ := h1
    obtain ⟨ga, gc, rfl⟩ := own_shape hO.row
    have e3 := hO.blk.cell (o := 0) rfl
    obtain ⟨v', w3, hrun, hown, hg, hv⟩ := append_bytes (P := Try.prog) (ty := 22) (c := c) Try.underlying22 hi5 hz0 hz1 hz2 rfl hO.row HB1.out (by omega) (Nat.zero_le _)
    have HF := Lib.hid (out_step (mk := oW) (B := B) (X := X) (news := l) (fun _ _ _ => rfl) (fun _ _ => rfl) hO hs hX1 (Upd.refl [] w1) (fun x hx => by
      obtain ⟨i, hi⟩ := List.mem_iff_getElem?.1 hx
      exact (HB1.out i x hi).1) hown hg hv)
    obtain ⟨va', vc', rfl⟩ := own_shape hown
    have e0 := HF.out.2.1
    have e1 := HF.out.2.2.1
    have e2 := HF.out.2.2.2
    have HRUN := Lib.hid hrun
    clear h2 h3 hO hs hX1 hrun hown hg hv
    go_wp2_with (at_builtin; refine wpList_run rfl (exec_append (by rfl) (by rfl) (by rfl) HRUN.out) ?_)
    go_end0
    exact ⟨rfl, o1 ++ l, b1, HF.out.1.1, H2.out.trans HF.out.1.2, H3.out⟩
end Go.Proofs.Yteejgjmnalpibaa
/- The reference's res, written. -/
namespace Go.Proofs.Yteejgjmnalpibaa
open Go.RowKit Go.Lb Go.Rc

set_option maxRecDepth 20000 in
set_option maxHeartbeats 4000000 in
theorem ores_writes : OWrites 107 sRes := fun B X f cs v o b w h hr hl => by
  have hlen : cs.length = 2 := hr.len
  have k0 : (tup [.num, .num]).Rep w (· < B) cs v := hr
  obtain ⟨_, _, v0, y1, -, rfl, ⟨n0, -, rfl⟩, k1⟩ := Sch.Rep.tup_cons k0
  obtain ⟨_, _, v1, y2, -, rfl, ⟨n1, -, rfl⟩, k2⟩ := Sch.Rep.tup_cons k1
  obtain ⟨-, rfl⟩ := Sch.Rep.tup_nil k2
  clear k1 k2
  have H0 := Lib.hid (OWg.start (tp := 38) (rest := [(.num, .num n0), (.num, .num n1)]) h hr (by have := tup_wmax [(.num, .num n0), (.num, .num n1)]; rw [← this]; exact hl) (Blk.new w 38 cs) ((Upd.refl _ _).alloc _))
  have hB := h.base
  clear h hr hl k0
  show Calls Try.prog _ #[_, .agg cs.toArray] _ _
  go_enter Try.func107, Try.ntmps107
  have e0 := WrG.numAt (q := 0) H0.out rfl
  go_wp2_with fail
  refine (OWg.goNum H0.out).mono ?_
  rintro e w1 ⟨rfl, o1, b1, h⟩
  have H1 := Lib.hid h
  clear h e0
  have e1 := WrG.numAt (q := 1) H1.out rfl
  go_wp2_with fail
  refine (OWg.goNum H1.out).mono ?_
  rintro e w2 ⟨rfl, o2, b2, h⟩
  have H2 := Lib.hid h
  clear h e1
  go_wp2_with fail
  go_end0
  exact OWg.fin H2.out ((Upd.refl _ _).alloc _) rfl rfl
end Go.Proofs.Yteejgjmnalpibaa
/- The reference's job, written. -/
namespace Go.Proofs.Yteejgjmnalpibaa
open Go.RowKit Go.Lb Go.Rc

set_option maxRecDepth 20000 in
set_option maxHeartbeats 4000000 in
theorem ojob_writes : OWrites 68 sJob := fun B X f cs v o b w h hr hl => by
  have hlen : cs.length = 7 := hr.len
  have k0 : (tup [.num, .num, .num, .num, .list sGroup, .num, .flag]).Rep w (· < B) cs v := hr
  obtain ⟨_, _, v0, y1, -, rfl, ⟨n0, -, rfl⟩, k1⟩ := Sch.Rep.tup_cons k0
  obtain ⟨_, _, v1, y2, -, rfl, ⟨n1, -, rfl⟩, k2⟩ := Sch.Rep.tup_cons k1
  obtain ⟨_, _, v2, y3, -, rfl, ⟨n2, -, rfl⟩, k3⟩ := Sch.Rep.tup_cons k2
  obtain ⟨_, _, v3, y4, -, rfl, ⟨n3, -, rfl⟩, k4⟩ := Sch.Rep.tup_cons k3
  obtain ⟨_, _, v4, y5, -, rfl, ⟨-, -, l4, -, rfl, -⟩, k5⟩ := Sch.Rep.tup_cons k4
  obtain ⟨_, _, v5, y6, -, rfl, ⟨n5, -, rfl⟩, k6⟩ := Sch.Rep.tup_cons k5
  obtain ⟨_, _, v6, y7, -, rfl, ⟨t6, -, rfl⟩, k7⟩ := Sch.Rep.tup_cons k6
  obtain ⟨-, rfl⟩ := Sch.Rep.tup_nil k7
  clear k1 k2 k3 k4 k5 k6 k7
  have H0 := Lib.hid (OWg.start (tp := 36) (rest := [(.num, .num n0), (.num, .num n1), (.num, .num n2), (.num, .num n3), (.list sGroup, .list l4), (.num, .num n5), (.flag, .flag t6)]) h hr (by have := tup_wmax [(.num, .num n0), (.num, .num n1), (.num, .num n2), (.num, .num n3), (.list sGroup, .list l4), (.num, .num n5), (.flag, .flag t6)]; rw [← this]; exact hl) (Blk.new w 36 cs) ((Upd.refl _ _).alloc _))
  have hB := h.base
  clear h hr hl k0
  show Calls Try.prog _ #[_, .agg cs.toArray] _ _
  go_enter Try.func68, Try.ntmps68
  have e0 := WrG.numAt (q := 0) H0.out rfl
  go_wp2_with fail
  refine (OWg.goNum H0.out).mono ?_
  rintro e w1 ⟨rfl, o1, b1, h⟩
  have H1 := Lib.hid h
  clear h e0
  have e1 := WrG.numAt (q := 1) H1.out rfl
  go_wp2_with fail
  refine (OWg.goNum H1.out).mono ?_
  rintro e w2 ⟨rfl, o2, b2, h⟩
  have H2 := Lib.hid h
  clear h e1
  have e2 := WrG.numAt (q := 2) H2.out rfl
  go_wp2_with fail
  refine (OWg.goNum H2.out).mono ?_
  rintro e w3 ⟨rfl, o3, b3, h⟩
  have H3 := Lib.hid h
  clear h e2
  have e3 := WrG.numAt (q := 3) H3.out rfl
  go_wp2_with fail
  refine (OWg.goNum H3.out).mono ?_
  rintro e w4 ⟨rfl, o4, b4, h⟩
  have H4 := Lib.hid h
  clear h e3
  obtain ⟨a4, c4, e4, r4⟩ := WrG.listAt (q := 4) H4.out rfl
  have HA4 : Hid (Elems w4 (· < B) sGroup 3 a4 l4) := Lib.hid (list_elems r4).2
  have hwl4 := H4.out.len
  rw [wsum_cons] at hwl4
  have HL4 : Hid (o4.length + (Sch.list sGroup).wmax (.list l4) ≤ 1099511627776) := Lib.hid (by dsimp only at hwl4; omega)
  have hps4 := H4.out.fw.1 w.heap.size (by simp)
  have hll4 : l4.length ≤ 1099511627776 := elems_len HA4.out HL4.out rfl
  clear r4 hwl4
  go_wp2_with fail
  refine (OWg.goCount H4.out).mono ?_
  rintro e w4x ⟨rfl, o4x, b4x, h1, h2, h3⟩
  have p4 := (h2.cell (o := 4) hps4 (.inr (by simp))).trans e4
  have H1x := Lib.hid h1
  have H2x := Lib.hid h2
  have H3x := Lib.hid h3
  clear h1 h2 h3
  go_wp2_with fail
  go_loopg [4] l4.length (fun g t wr => ∃ (i : Nat) (o' : List Nat) (b' : Bool), t = .int .i64 i ∧ l4.length - i = g ∧ i ≤ l4.length ∧ Ow B (w.heap.size :: X) wr f o' b' ∧ Kp B (w.heap.size :: X) w4 wr ∧ LWk sGroup l4.length (l4.take i) o4 b4 o' b')
  case atStart => exact ⟨0, o4x, b4x, rfl, rfl, by omega, H1x.out, H2x.out, H3x.out⟩
  case round =>
    obtain ⟨i, o', b', rfl, hg, hi, hF, hK, hW⟩ := hrel
    have HG := Lib.hid hg
    have HF := Lib.hid hF
    have HK := Lib.hid hK
    have HW := Lib.hid hW
    have r0 := (hK.cell (o := 4) hps4 (.inr (by simp))).trans e4
    clear hg hF hK hW p4
    by_cases hlt : i < l4.length
    · have t1 : decide (i < l4.length) = true := by simpa using hlt
      obtain ⟨x, hx⟩ : ∃ x, l4[i]? = some x := ⟨_, List.getElem?_eq_getElem hlt⟩
      obtain ⟨b0, o0, us, rfl, hb0, hbl, hrg, hrep⟩ := HA4.out i x hx
      have hrep := hrep.keep (ok' := (· < B)) (fun k hk hl => ⟨hk, HK.out.block k hl (.inl hk)⟩) HK.out.size
      have hrg : wr.rangeAt b0 (o0 + i * 3) us := rangeAt_keep hrg (HK.out.block b0 hbl (.inl hb0))
      have hblr : b0 < wr.heap.size := Nat.lt_of_lt_of_le hbl HK.out.size
      have HWL := Lib.hid (HW.out.room hx HL4.out)
      have Hx := Lib.hid hx
      clear hx
      have hrepc := hrep
      obtain ⟨_, _, zv0, zy1, -, rfl, ⟨zn0, -, rfl⟩, zk1⟩ := Sch.Rep.tup_cons hrepc
      obtain ⟨_, _, zv1, zy2, -, rfl, -, zk2⟩ := Sch.Rep.tup_cons zk1
      obtain ⟨-, rfl⟩ := Sch.Rep.tup_nil zk2
      clear zk1 zk2
      have hlw := HWL.out
      have G0 : Hid (OWg B (w.heap.size :: X) f b0 (o0 + i * 3) wr wr o' b' o' b' [] [(.num, .num zn0), (sRes, zv1)]) := Lib.hid (WrG.start HF.out (.inl hb0) hblr hrg hrep (by have := tup_wmax [(.num, .num zn0), (sRes, zv1)]; rw [← this]; exact hlw))
      clear hrg hrep hlw
      have u0 := WrG.numAt (q := o0 + i * 3) G0.out rfl
      go_wp2_with fail
      refine (OWg.goNum G0.out).mono ?_
      rintro e y1 ⟨rfl, o1', b1', h⟩
      have G1 := Lib.hid h
      clear h u0
      have r1 := (G1.out.kp.cell (o := 4) (b := w.heap.size) (by have := HK.out.size; omega) (.inr (by simp))).trans r0
      obtain ⟨c1z, r1z, g1z⟩ := WrG.range (q := o0 + i * 3 + 1) G1.out rfl
      have hl1z : c1z.length = 2 := r1z.len
      have RG := Lib.hid g1z
      have RR := Lib.hid r1z
      clear g1z r1z
      go_wp2_with (refine wpList_load_mid rfl 38 _ rfl b0 (o0 + i * 3 + 1) rfl c1z _ RG.out Try.underlying38 rfl (by rw [hl1z]; exact Try.size38) ?_)
      refine (OWg.go ores_writes G1.out RR.out).mono ?_
      rintro e y2 ⟨rfl, o2', b2', h⟩
      have G2 := Lib.hid h
      clear h
      clear r1
      have H1 := Lib.hid G2.out.fw
      have H2 := Lib.hid G2.out.kp
      have H3 := Lib.hid (HW.out.snoc (s := sGroup) (WSeq.tup G2.out.seq))
      go_wp2_with fail
      go_roundg (l4.length - (i + 1))
      case measure => have := HG.out; omega
      case rel => exact ⟨i + 1, o2', b2', by go_num, rfl, by omega, H1.out, HK.out.trans H2.out, by rw [take_snoc Hx.out]; exact H3.out⟩
    · obtain rfl : i = l4.length := by omega
      have t1 : decide (l4.length < l4.length) = false := by simp
      have hfin := HW.out
      rw [List.take_length] at hfin
      have H5 := Lib.hid (WrG.next (m := [(.list sGroup, .list l4)]) H4.out HF.out HK.out (WSeq.one (LWk.fin hfin)))
      clear hfin e4
      clear HF HW HG hlt hi
      obtain ⟨ws5, hz⟩ : ∃ z, z = wr := ⟨_, rfl⟩
      subst hz
      obtain ⟨os5, hz⟩ : ∃ z, z = o' := ⟨_, rfl⟩
      subst hz
      obtain ⟨bs5, hz⟩ : ∃ z, z = b' := ⟨_, rfl⟩
      subst hz
      clear HK
      have e5 := WrG.numAt (q := 5) H5.out rfl
      go_wp2_with fail
      refine (OWg.goNum H5.out).mono ?_
      rintro e w6 ⟨rfl, o6, b6, h⟩
      have H6 := Lib.hid h
      clear h e5
      have e6 := WrG.flagAt (q := 6) H6.out rfl
      go_wp2_with fail
      refine (OWg.goFlag H6.out).mono ?_
      rintro e w7 ⟨rfl, o7, b7, h⟩
      have H7 := Lib.hid h
      clear h e6
      go_wp2_with fail
      go_end0
      exact OWg.fin H7.out ((Upd.refl _ _).alloc _) rfl rfl
end Go.Proofs.Yteejgjmnalpibaa
/- The reference's node, written. -/
namespace Go.Proofs.Yteejgjmnalpibaa
open Go.RowKit Go.Lb Go.Rc

set_option maxRecDepth 20000 in
set_option maxHeartbeats 4000000 in
theorem onode_writes : OWrites 69 sNode := fun B X f cs v o b w h hr hl => by
  have hlen : cs.length = 8 := hr.len
  have k0 : (tup [.num, sRes, .flag, .flag, .num, .num, .num]).Rep w (· < B) cs v := hr
  obtain ⟨_, _, v0, y1, -, rfl, ⟨n0, -, rfl⟩, k1⟩ := Sch.Rep.tup_cons k0
  obtain ⟨_, _, v1, y2, -, rfl, -, k2⟩ := Sch.Rep.tup_cons k1
  obtain ⟨_, _, v2, y3, -, rfl, ⟨t2, -, rfl⟩, k3⟩ := Sch.Rep.tup_cons k2
  obtain ⟨_, _, v3, y4, -, rfl, ⟨t3, -, rfl⟩, k4⟩ := Sch.Rep.tup_cons k3
  obtain ⟨_, _, v4, y5, -, rfl, ⟨n4, -, rfl⟩, k5⟩ := Sch.Rep.tup_cons k4
  obtain ⟨_, _, v5, y6, -, rfl, ⟨n5, -, rfl⟩, k6⟩ := Sch.Rep.tup_cons k5
  obtain ⟨_, _, v6, y7, -, rfl, ⟨n6, -, rfl⟩, k7⟩ := Sch.Rep.tup_cons k6
  obtain ⟨-, rfl⟩ := Sch.Rep.tup_nil k7
  clear k1 k2 k3 k4 k5 k6 k7
  have H0 := Lib.hid (OWg.start (tp := 40) (rest := [(.num, .num n0), (sRes, v1), (.flag, .flag t2), (.flag, .flag t3), (.num, .num n4), (.num, .num n5), (.num, .num n6)]) h hr (by have := tup_wmax [(.num, .num n0), (sRes, v1), (.flag, .flag t2), (.flag, .flag t3), (.num, .num n4), (.num, .num n5), (.num, .num n6)]; rw [← this]; exact hl) (Blk.new w 40 cs) ((Upd.refl _ _).alloc _))
  have hB := h.base
  clear h hr hl k0
  show Calls Try.prog _ #[_, .agg cs.toArray] _ _
  go_enter Try.func69, Try.ntmps69
  have e0 := WrG.numAt (q := 0) H0.out rfl
  go_wp2_with fail
  refine (OWg.goNum H0.out).mono ?_
  rintro e w1 ⟨rfl, o1, b1, h⟩
  have H1 := Lib.hid h
  clear h e0
  obtain ⟨c1, r1, g1⟩ := WrG.range (q := 1) H1.out rfl
  have hl1 : c1.length = 2 := r1.len
  have G1 := Lib.hid g1
  have R1 := Lib.hid r1
  clear g1 r1
  go_wp2_with (refine wpList_load_mid rfl 38 _ rfl w.heap.size 1 rfl c1 _ G1.out Try.underlying38 rfl (by rw [hl1]; exact Try.size38) ?_)
  refine (OWg.go ores_writes H1.out R1.out).mono ?_
  rintro e w2 ⟨rfl, o2, b2, h⟩
  have H2 := Lib.hid h
  clear h
  have e2 := WrG.flagAt (q := 3) H2.out rfl
  go_wp2_with fail
  refine (OWg.goFlag H2.out).mono ?_
  rintro e w3 ⟨rfl, o3, b3, h⟩
  have H3 := Lib.hid h
  clear h e2
  have e3 := WrG.flagAt (q := 4) H3.out rfl
  go_wp2_with fail
  refine (OWg.goFlag H3.out).mono ?_
  rintro e w4 ⟨rfl, o4, b4, h⟩
  have H4 := Lib.hid h
  clear h e3
  have e4 := WrG.numAt (q := 5) H4.out rfl
  go_wp2_with fail
  refine (OWg.goNum H4.out).mono ?_
  rintro e w5 ⟨rfl, o5, b5, h⟩
  have H5 := Lib.hid h
  clear h e4
  have e5 := WrG.numAt (q := 6) H5.out rfl
  go_wp2_with fail
  refine (OWg.goNum H5.out).mono ?_
  rintro e w6 ⟨rfl, o6, b6, h⟩
  have H6 := Lib.hid h
  clear h e5
  have e6 := WrG.numAt (q := 7) H6.out rfl
  go_wp2_with fail
  refine (OWg.goNum H6.out).mono ?_
  rintro e w7 ⟨rfl, o7, b7, h⟩
  have H7 := Lib.hid h
  clear h e6
  go_wp2_with fail
  go_end0
  exact OWg.fin H7.out ((Upd.refl _ _).alloc _) rfl rfl
end Go.Proofs.Yteejgjmnalpibaa
/- The reference's Nums, writing. -/
namespace Go.Proofs.Yteejgjmnalpibaa
open Go.RowKit Go.Lb Go.Rc

set_option maxRecDepth 20000 in
set_option maxHeartbeats 2000000 in
theorem onums_writes : OWrites 108 (.list .num) := fun B X f cs v o b w h hr hl => by
  obtain ⟨a, c, l, rfl, rfl, hall⟩ := hr
  have HA : Hid (Elems w (· < B) .num 1 a l) := Lib.hid hall
  have H := Lib.hid h
  have HL := Lib.hid hl
  have hll : l.length ≤ 1099511627776 := elems_len hall hl rfl
  have hl1 : o.length + 6 ≤ 1099511627776 := by simp only [Sch.wmax] at hl; omega
  have hB := h.base
  clear h hall hl
  show Calls Try.prog _ #[_, .slice a l.length c] _ _
  go_enter Try.func108, Try.ntmps108
  go_wp2_with fail
  refine (ocount_w B X f l.length o b _ H.out hl1).mono ?_
  rintro e w1 ⟨rfl, o1, b1, h1, h2, h3⟩
  have H1 := Lib.hid h1
  have H2 := Lib.hid h2
  have H3 : Hid (LWk .num l.length [] o b o1 b1) := Lib.hid (LWk.start h3)
  clear h1 h2 h3
  go_wp2_with fail
  go_loopg [4] l.length (fun g t wr => ∃ (i : Nat) (o' : List Nat) (b' : Bool), t = .int .i64 i ∧ l.length - i = g ∧ i ≤ l.length ∧ Ow B X wr f o' b' ∧ Kp B X w wr ∧ LWk .num l.length (l.take i) o b o' b')
  case atStart => exact ⟨0, o1, b1, rfl, rfl, by omega, H1.out, H2.out, H3.out⟩
  case round =>
    obtain ⟨i, o', b', rfl, hg, hi, hF, hK, hW⟩ := hrel
    have HG := Lib.hid hg
    have HF := Lib.hid hF
    have HK := Lib.hid hK
    have HW := Lib.hid hW
    clear hg hF hK hW
    by_cases hlt : i < l.length
    · have t1 : decide (i < l.length) = true := by simpa using hlt
      obtain ⟨x, hx⟩ : ∃ x, l[i]? = some x := ⟨_, List.getElem?_eq_getElem hlt⟩
      obtain ⟨b0, o0, us, rfl, hb0, hbl, hrg, hrep⟩ := HA.out i x hx
      have hrep := hrep.keep (ok' := (· < B)) (fun k hk hl => ⟨hk, HK.out.block k hl (.inl hk)⟩) HK.out.size
      have hrg : wr.rangeAt b0 (o0 + i * 1) us := rangeAt_keep hrg (HK.out.block b0 hbl (.inl hb0))
      have HWL := Lib.hid (HW.out.room hx HL.out)
      have Hx := Lib.hid hx
      clear hx
      obtain ⟨nn, rfl, rfl⟩ := hrep
      have e0 := hrg 0 _ rfl
      rw [Nat.mul_one, Nat.add_zero] at e0
      clear hrg
      go_wp2_with fail
      refine (onum_writes B X f [.int .i64 nn] (.num nn) o' b' _ HF.out (Sch.Rep.num_mk nn) HWL.out).mono ?_
      rintro e w2 ⟨rfl, o2, b2, h1, h2, h3⟩
      have H1 := Lib.hid h1
      have H2 := Lib.hid h2
      have H3 := Lib.hid (HW.out.snoc h3)
      clear h1 h2 h3
      go_wp2_with fail
      go_roundg (l.length - (i + 1))
      case measure => have := HG.out; omega
      case rel => exact ⟨i + 1, o2, b2, by go_num, rfl, by omega, H1.out, HK.out.trans H2.out, by rw [take_snoc Hx.out]; exact H3.out⟩
    · obtain rfl : i = l.length := by omega
      have t1 : decide (l.length < l.length) = false := by simp
      go_wp2_with fail
      go_end0
      refine ⟨rfl, o', b', HF.out, HK.out, LWk.fin ?_⟩
      have := HW.out
      rwa [List.take_length] at this
end Go.Proofs.Yteejgjmnalpibaa
/- The reference's alloc, written. -/
namespace Go.Proofs.Yteejgjmnalpibaa
open Go.RowKit Go.Lb Go.Rc

set_option maxRecDepth 20000 in
set_option maxHeartbeats 4000000 in
theorem oalloc_writes : OWrites 118 sAlloc := fun B X f cs v o b w h hr hl => by
  have hlen : cs.length = 11 := hr.len
  have k0 : (tup [.num, .num, .num, .num, .num, .num, .num, sRes, .flag, .num]).Rep w (· < B) cs v := hr
  obtain ⟨_, _, v0, y1, -, rfl, ⟨n0, -, rfl⟩, k1⟩ := Sch.Rep.tup_cons k0
  obtain ⟨_, _, v1, y2, -, rfl, ⟨n1, -, rfl⟩, k2⟩ := Sch.Rep.tup_cons k1
  obtain ⟨_, _, v2, y3, -, rfl, ⟨n2, -, rfl⟩, k3⟩ := Sch.Rep.tup_cons k2
  obtain ⟨_, _, v3, y4, -, rfl, ⟨n3, -, rfl⟩, k4⟩ := Sch.Rep.tup_cons k3
  obtain ⟨_, _, v4, y5, -, rfl, ⟨n4, -, rfl⟩, k5⟩ := Sch.Rep.tup_cons k4
  obtain ⟨_, _, v5, y6, -, rfl, ⟨n5, -, rfl⟩, k6⟩ := Sch.Rep.tup_cons k5
  obtain ⟨_, _, v6, y7, -, rfl, ⟨n6, -, rfl⟩, k7⟩ := Sch.Rep.tup_cons k6
  obtain ⟨_, _, v7, y8, -, rfl, -, k8⟩ := Sch.Rep.tup_cons k7
  obtain ⟨_, _, v8, y9, -, rfl, ⟨t8, -, rfl⟩, k9⟩ := Sch.Rep.tup_cons k8
  obtain ⟨_, _, v9, y10, -, rfl, ⟨n9, -, rfl⟩, k10⟩ := Sch.Rep.tup_cons k9
  obtain ⟨-, rfl⟩ := Sch.Rep.tup_nil k10
  clear k1 k2 k3 k4 k5 k6 k7 k8 k9 k10
  have H0 := Lib.hid (OWg.start (tp := 84) (rest := [(.num, .num n0), (.num, .num n1), (.num, .num n2), (.num, .num n3), (.num, .num n4), (.num, .num n5), (.num, .num n6), (sRes, v7), (.flag, .flag t8), (.num, .num n9)]) h hr (by have := tup_wmax [(.num, .num n0), (.num, .num n1), (.num, .num n2), (.num, .num n3), (.num, .num n4), (.num, .num n5), (.num, .num n6), (sRes, v7), (.flag, .flag t8), (.num, .num n9)]; rw [← this]; exact hl) (Blk.new w 84 cs) ((Upd.refl _ _).alloc _))
  have hB := h.base
  clear h hr hl k0
  show Calls Try.prog _ #[_, .agg cs.toArray] _ _
  go_enter Try.func118, Try.ntmps118
  have e0 := WrG.numAt (q := 0) H0.out rfl
  go_wp2_with fail
  refine (OWg.goNum H0.out).mono ?_
  rintro e w1 ⟨rfl, o1, b1, h⟩
  have H1 := Lib.hid h
  clear h e0
  have e1 := WrG.numAt (q := 1) H1.out rfl
  go_wp2_with fail
  refine (OWg.goNum H1.out).mono ?_
  rintro e w2 ⟨rfl, o2, b2, h⟩
  have H2 := Lib.hid h
  clear h e1
  have e2 := WrG.numAt (q := 2) H2.out rfl
  go_wp2_with fail
  refine (OWg.goNum H2.out).mono ?_
  rintro e w3 ⟨rfl, o3, b3, h⟩
  have H3 := Lib.hid h
  clear h e2
  have e3 := WrG.numAt (q := 3) H3.out rfl
  go_wp2_with fail
  refine (OWg.goNum H3.out).mono ?_
  rintro e w4 ⟨rfl, o4, b4, h⟩
  have H4 := Lib.hid h
  clear h e3
  have e4 := WrG.numAt (q := 4) H4.out rfl
  go_wp2_with fail
  refine (OWg.goNum H4.out).mono ?_
  rintro e w5 ⟨rfl, o5, b5, h⟩
  have H5 := Lib.hid h
  clear h e4
  have e5 := WrG.numAt (q := 5) H5.out rfl
  go_wp2_with fail
  refine (OWg.goNum H5.out).mono ?_
  rintro e w6 ⟨rfl, o6, b6, h⟩
  have H6 := Lib.hid h
  clear h e5
  have e6 := WrG.numAt (q := 6) H6.out rfl
  go_wp2_with fail
  refine (OWg.goNum H6.out).mono ?_
  rintro e w7 ⟨rfl, o7, b7, h⟩
  have H7 := Lib.hid h
  clear h e6
  obtain ⟨c7, r7, g7⟩ := WrG.range (q := 7) H7.out rfl
  have hl7 : c7.length = 2 := r7.len
  have G7 := Lib.hid g7
  have R7 := Lib.hid r7
  clear g7 r7
  go_wp2_with (refine wpList_load_mid rfl 38 _ rfl w.heap.size 7 rfl c7 _ G7.out Try.underlying38 rfl (by rw [hl7]; exact Try.size38) ?_)
  refine (OWg.go ores_writes H7.out R7.out).mono ?_
  rintro e w8 ⟨rfl, o8, b8, h⟩
  have H8 := Lib.hid h
  clear h
  have e8 := WrG.flagAt (q := 9) H8.out rfl
  go_wp2_with fail
  refine (OWg.goFlag H8.out).mono ?_
  rintro e w9 ⟨rfl, o9, b9, h⟩
  have H9 := Lib.hid h
  clear h e8
  have e9 := WrG.numAt (q := 10) H9.out rfl
  go_wp2_with fail
  refine (OWg.goNum H9.out).mono ?_
  rintro e w10 ⟨rfl, o10, b10, h⟩
  have H10 := Lib.hid h
  clear h e9
  go_wp2_with fail
  go_end0
  exact OWg.fin H10.out ((Upd.refl _ _).alloc _) rfl rfl
end Go.Proofs.Yteejgjmnalpibaa
/- The reference's allocs, writing. -/
namespace Go.Proofs.Yteejgjmnalpibaa
open Go.RowKit Go.Lb Go.Rc

set_option maxRecDepth 20000 in
set_option maxHeartbeats 2000000 in
theorem oallocs_writes : OWrites 109 (.list sAlloc) := fun B X f cs v o b w h hr hl => by
  obtain ⟨a, c, l, rfl, rfl, hall⟩ := hr
  have HA : Hid (Elems w (· < B) sAlloc 11 a l) := Lib.hid hall
  have H := Lib.hid h
  have HL := Lib.hid hl
  have hll : l.length ≤ 1099511627776 := elems_len hall hl rfl
  have hl1 : o.length + 6 ≤ 1099511627776 := by simp only [Sch.wmax] at hl; omega
  have hB := h.base
  clear h hall hl
  show Calls Try.prog _ #[_, .slice a l.length c] _ _
  go_enter Try.func109, Try.ntmps109
  go_wp2_with fail
  refine (ocount_w B X f l.length o b _ H.out hl1).mono ?_
  rintro e w1 ⟨rfl, o1, b1, h1, h2, h3⟩
  have H1 := Lib.hid h1
  have H2 := Lib.hid h2
  have H3 : Hid (LWk sAlloc l.length [] o b o1 b1) := Lib.hid (LWk.start h3)
  clear h1 h2 h3
  go_wp2_with fail
  go_loopg [4] l.length (fun g t wr => ∃ (i : Nat) (o' : List Nat) (b' : Bool), t = .int .i64 i ∧ l.length - i = g ∧ i ≤ l.length ∧ Ow B X wr f o' b' ∧ Kp B X w wr ∧ LWk sAlloc l.length (l.take i) o b o' b')
  case atStart => exact ⟨0, o1, b1, rfl, rfl, by omega, H1.out, H2.out, H3.out⟩
  case round =>
    obtain ⟨i, o', b', rfl, hg, hi, hF, hK, hW⟩ := hrel
    have HG := Lib.hid hg
    have HF := Lib.hid hF
    have HK := Lib.hid hK
    have HW := Lib.hid hW
    clear hg hF hK hW
    by_cases hlt : i < l.length
    · have t1 : decide (i < l.length) = true := by simpa using hlt
      obtain ⟨x, hx⟩ : ∃ x, l[i]? = some x := ⟨_, List.getElem?_eq_getElem hlt⟩
      obtain ⟨b0, o0, us, rfl, hb0, hbl, hrg, hrep⟩ := HA.out i x hx
      have hrep := hrep.keep (ok' := (· < B)) (fun k hk hl => ⟨hk, HK.out.block k hl (.inl hk)⟩) HK.out.size
      have hrg : wr.rangeAt b0 (o0 + i * 11) us := rangeAt_keep hrg (HK.out.block b0 hbl (.inl hb0))
      have HWL := Lib.hid (HW.out.room hx HL.out)
      have Hx := Lib.hid hx
      clear hx
      have HRG := Lib.hid hrg
      have HREP := Lib.hid hrep
      have hus : us.length = 11 := hrep.len
      clear hrg hrep
      go_wp2_with (refine wpList_load_mid rfl 84 _ rfl b0 (o0 + i * 11) rfl us _ HRG.out Try.underlying84 rfl (by rw [hus]; exact Try.size84) ?_)
      refine (oalloc_writes B X f us x o' b' _ HF.out HREP.out HWL.out).mono ?_
      rintro e w2 ⟨rfl, o2, b2, h1, h2, h3⟩
      have H1 := Lib.hid h1
      have H2 := Lib.hid h2
      have H3 := Lib.hid (HW.out.snoc h3)
      clear h1 h2 h3
      go_wp2_with fail
      go_roundg (l.length - (i + 1))
      case measure => have := HG.out; omega
      case rel => exact ⟨i + 1, o2, b2, by go_num, rfl, by omega, H1.out, HK.out.trans H2.out, by rw [take_snoc Hx.out]; exact H3.out⟩
    · obtain rfl : i = l.length := by omega
      have t1 : decide (l.length < l.length) = false := by simp
      go_wp2_with fail
      go_end0
      refine ⟨rfl, o', b', HF.out, HK.out, LWk.fin ?_⟩
      have := HW.out
      rwa [List.take_length] at this
end Go.Proofs.Yteejgjmnalpibaa
/- The reference's plan, written. -/
namespace Go.Proofs.Yteejgjmnalpibaa
open Go.RowKit Go.Lb Go.Rc

set_option maxRecDepth 20000 in
set_option maxHeartbeats 4000000 in
theorem oplan_writes : OWrites 71 sPlan := fun B X f cs v o b w h hr hl => by
  have hlen : cs.length = 6 := hr.len
  have k0 : (tup [.num, .num, .num, .list .num, .list sAlloc, .flag]).Rep w (· < B) cs v := hr
  obtain ⟨_, _, v0, y1, -, rfl, ⟨n0, -, rfl⟩, k1⟩ := Sch.Rep.tup_cons k0
  obtain ⟨_, _, v1, y2, -, rfl, ⟨n1, -, rfl⟩, k2⟩ := Sch.Rep.tup_cons k1
  obtain ⟨_, _, v2, y3, -, rfl, ⟨n2, -, rfl⟩, k3⟩ := Sch.Rep.tup_cons k2
  obtain ⟨_, _, v3, y4, -, rfl, ⟨-, -, l3, -, rfl, -⟩, k4⟩ := Sch.Rep.tup_cons k3
  obtain ⟨_, _, v4, y5, -, rfl, ⟨-, -, l4, -, rfl, -⟩, k5⟩ := Sch.Rep.tup_cons k4
  obtain ⟨_, _, v5, y6, -, rfl, ⟨t5, -, rfl⟩, k6⟩ := Sch.Rep.tup_cons k5
  obtain ⟨-, rfl⟩ := Sch.Rep.tup_nil k6
  clear k1 k2 k3 k4 k5 k6
  have H0 := Lib.hid (OWg.start (tp := 45) (rest := [(.num, .num n0), (.num, .num n1), (.num, .num n2), (.list .num, .list l3), (.list sAlloc, .list l4), (.flag, .flag t5)]) h hr (by have := tup_wmax [(.num, .num n0), (.num, .num n1), (.num, .num n2), (.list .num, .list l3), (.list sAlloc, .list l4), (.flag, .flag t5)]; rw [← this]; exact hl) (Blk.new w 45 cs) ((Upd.refl _ _).alloc _))
  have hB := h.base
  clear h hr hl k0
  show Calls Try.prog _ #[_, .agg cs.toArray] _ _
  go_enter Try.func71, Try.ntmps71
  have e0 := WrG.numAt (q := 0) H0.out rfl
  go_wp2_with fail
  refine (OWg.goNum H0.out).mono ?_
  rintro e w1 ⟨rfl, o1, b1, h⟩
  have H1 := Lib.hid h
  clear h e0
  have e1 := WrG.numAt (q := 1) H1.out rfl
  go_wp2_with fail
  refine (OWg.goNum H1.out).mono ?_
  rintro e w2 ⟨rfl, o2, b2, h⟩
  have H2 := Lib.hid h
  clear h e1
  have e2 := WrG.numAt (q := 2) H2.out rfl
  go_wp2_with fail
  refine (OWg.goNum H2.out).mono ?_
  rintro e w3 ⟨rfl, o3, b3, h⟩
  have H3 := Lib.hid h
  clear h e2
  obtain ⟨a3, c3, e3, r3⟩ := WrG.listAt (q := 3) H3.out rfl
  have R3 := Lib.hid r3
  clear r3
  go_wp2_with fail
  refine (OWg.go (c := [.slice a3 l3.length c3]) onums_writes H3.out R3.out).mono ?_
  rintro e w4 ⟨rfl, o4, b4, h⟩
  have H4 := Lib.hid h
  clear h e3
  obtain ⟨a4, c4, e4, r4⟩ := WrG.listAt (q := 4) H4.out rfl
  have R4 := Lib.hid r4
  clear r4
  go_wp2_with fail
  refine (OWg.go (c := [.slice a4 l4.length c4]) oallocs_writes H4.out R4.out).mono ?_
  rintro e w5 ⟨rfl, o5, b5, h⟩
  have H5 := Lib.hid h
  clear h e4
  have e5 := WrG.flagAt (q := 5) H5.out rfl
  go_wp2_with fail
  refine (OWg.goFlag H5.out).mono ?_
  rintro e w6 ⟨rfl, o6, b6, h⟩
  have H6 := Lib.hid h
  clear h e5
  go_wp2_with fail
  go_end0
  exact OWg.fin H6.out ((Upd.refl _ _).alloc _) rfl rfl
end Go.Proofs.Yteejgjmnalpibaa
/- The reference's conf, written. -/
namespace Go.Proofs.Yteejgjmnalpibaa
open Go.RowKit Go.Lb Go.Rc

set_option maxRecDepth 20000 in
set_option maxHeartbeats 4000000 in
theorem oconf_writes : OWrites 72 sConf := fun B X f cs v o b w h hr hl => by
  have hlen : cs.length = 2 := hr.len
  have k0 : (tup [.list .num, .list .num]).Rep w (· < B) cs v := hr
  obtain ⟨_, _, v0, y1, -, rfl, ⟨-, -, l0, -, rfl, -⟩, k1⟩ := Sch.Rep.tup_cons k0
  obtain ⟨_, _, v1, y2, -, rfl, ⟨-, -, l1, -, rfl, -⟩, k2⟩ := Sch.Rep.tup_cons k1
  obtain ⟨-, rfl⟩ := Sch.Rep.tup_nil k2
  clear k1 k2
  have H0 := Lib.hid (OWg.start (tp := 47) (rest := [(.list .num, .list l0), (.list .num, .list l1)]) h hr (by have := tup_wmax [(.list .num, .list l0), (.list .num, .list l1)]; rw [← this]; exact hl) (Blk.new w 47 cs) ((Upd.refl _ _).alloc _))
  have hB := h.base
  clear h hr hl k0
  show Calls Try.prog _ #[_, .agg cs.toArray] _ _
  go_enter Try.func72, Try.ntmps72
  obtain ⟨a0, c0, e0, r0⟩ := WrG.listAt (q := 0) H0.out rfl
  have R0 := Lib.hid r0
  clear r0
  go_wp2_with fail
  refine (OWg.go (c := [.slice a0 l0.length c0]) onums_writes H0.out R0.out).mono ?_
  rintro e w1 ⟨rfl, o1, b1, h⟩
  have H1 := Lib.hid h
  clear h e0
  obtain ⟨a1, c1, e1, r1⟩ := WrG.listAt (q := 1) H1.out rfl
  have R1 := Lib.hid r1
  clear r1
  go_wp2_with fail
  refine (OWg.go (c := [.slice a1 l1.length c1]) onums_writes H1.out R1.out).mono ?_
  rintro e w2 ⟨rfl, o2, b2, h⟩
  have H2 := Lib.hid h
  clear h e1
  go_wp2_with fail
  go_end0
  exact OWg.fin H2.out ((Upd.refl _ _).alloc _) rfl rfl
end Go.Proofs.Yteejgjmnalpibaa
/- The reference's cmd, written. -/
namespace Go.Proofs.Yteejgjmnalpibaa
open Go.RowKit Go.Lb Go.Rc

set_option maxRecDepth 20000 in
set_option maxHeartbeats 4000000 in
theorem ocmd_writes : OWrites 44 sCmd := fun B X f cs v o b w h hr hl => by
  have hlen : cs.length = 27 := hr.len
  have k0 : (tup [.num, .num, .num, sJob, sNode, .list sReport, sPlan, sConf]).Rep w (· < B) cs v := hr
  obtain ⟨_, _, v0, y1, -, rfl, ⟨n0, -, rfl⟩, k1⟩ := Sch.Rep.tup_cons k0
  obtain ⟨_, _, v1, y2, -, rfl, ⟨n1, -, rfl⟩, k2⟩ := Sch.Rep.tup_cons k1
  obtain ⟨_, _, v2, y3, -, rfl, ⟨n2, -, rfl⟩, k3⟩ := Sch.Rep.tup_cons k2
  obtain ⟨_, _, v3, y4, -, rfl, -, k4⟩ := Sch.Rep.tup_cons k3
  obtain ⟨_, _, v4, y5, -, rfl, -, k5⟩ := Sch.Rep.tup_cons k4
  obtain ⟨_, _, v5, y6, -, rfl, ⟨-, -, l5, -, rfl, -⟩, k6⟩ := Sch.Rep.tup_cons k5
  obtain ⟨_, _, v6, y7, -, rfl, -, k7⟩ := Sch.Rep.tup_cons k6
  obtain ⟨_, _, v7, y8, -, rfl, -, k8⟩ := Sch.Rep.tup_cons k7
  obtain ⟨-, rfl⟩ := Sch.Rep.tup_nil k8
  clear k1 k2 k3 k4 k5 k6 k7 k8
  have H0 := Lib.hid (OWg.start (tp := 49) (rest := [(.num, .num n0), (.num, .num n1), (.num, .num n2), (sJob, v3), (sNode, v4), (.list sReport, .list l5), (sPlan, v6), (sConf, v7)]) h hr (by have := tup_wmax [(.num, .num n0), (.num, .num n1), (.num, .num n2), (sJob, v3), (sNode, v4), (.list sReport, .list l5), (sPlan, v6), (sConf, v7)]; rw [← this]; exact hl) (Blk.new w 49 cs) ((Upd.refl _ _).alloc _))
  have hB := h.base
  clear h hr hl k0
  show Calls Try.prog _ #[_, .agg cs.toArray] _ _
  go_enter Try.func44, Try.ntmps44
  have e0 := WrG.numAt (q := 0) H0.out rfl
  go_wp2_with fail
  refine (OWg.goNum H0.out).mono ?_
  rintro e w1 ⟨rfl, o1, b1, h⟩
  have H1 := Lib.hid h
  clear h e0
  have e1 := WrG.numAt (q := 1) H1.out rfl
  go_wp2_with fail
  refine (OWg.goNum H1.out).mono ?_
  rintro e w2 ⟨rfl, o2, b2, h⟩
  have H2 := Lib.hid h
  clear h e1
  have e2 := WrG.numAt (q := 2) H2.out rfl
  go_wp2_with fail
  refine (OWg.goNum H2.out).mono ?_
  rintro e w3 ⟨rfl, o3, b3, h⟩
  have H3 := Lib.hid h
  clear h e2
  obtain ⟨c3, r3, g3⟩ := WrG.range (q := 3) H3.out rfl
  have hl3 : c3.length = 7 := r3.len
  have G3 := Lib.hid g3
  have R3 := Lib.hid r3
  clear g3 r3
  go_wp2_with (refine wpList_load_mid rfl 36 _ rfl w.heap.size 3 rfl c3 _ G3.out Try.underlying36 rfl (by rw [hl3]; exact Try.size36) ?_)
  refine (OWg.go ojob_writes H3.out R3.out).mono ?_
  rintro e w4 ⟨rfl, o4, b4, h⟩
  have H4 := Lib.hid h
  clear h
  obtain ⟨c4, r4, g4⟩ := WrG.range (q := 10) H4.out rfl
  have hl4 : c4.length = 8 := r4.len
  have G4 := Lib.hid g4
  have R4 := Lib.hid r4
  clear g4 r4
  go_wp2_with (refine wpList_load_mid rfl 40 _ rfl w.heap.size 10 rfl c4 _ G4.out Try.underlying40 rfl (by rw [hl4]; exact Try.size40) ?_)
  refine (OWg.go onode_writes H4.out R4.out).mono ?_
  rintro e w5 ⟨rfl, o5, b5, h⟩
  have H5 := Lib.hid h
  clear h
  obtain ⟨a5, c5, e5, r5⟩ := WrG.listAt (q := 18) H5.out rfl
  have HA5 : Hid (Elems w5 (· < B) sReport 2 a5 l5) := Lib.hid (list_elems r5).2
  have hwl5 := H5.out.len
  rw [wsum_cons] at hwl5
  have HL5 : Hid (o5.length + (Sch.list sReport).wmax (.list l5) ≤ 1099511627776) := Lib.hid (by dsimp only at hwl5; omega)
  have hps5 := H5.out.fw.1 w.heap.size (by simp)
  have hll5 : l5.length ≤ 1099511627776 := elems_len HA5.out HL5.out rfl
  clear r5 hwl5
  go_wp2_with fail
  refine (OWg.goCount H5.out).mono ?_
  rintro e w5x ⟨rfl, o5x, b5x, h1, h2, h3⟩
  have p5 := (h2.cell (o := 18) hps5 (.inr (by simp))).trans e5
  have H1x := Lib.hid h1
  have H2x := Lib.hid h2
  have H3x := Lib.hid h3
  clear h1 h2 h3
  go_wp2_with fail
  go_loopg [4] l5.length (fun g t wr => ∃ (i : Nat) (o' : List Nat) (b' : Bool), t = .int .i64 i ∧ l5.length - i = g ∧ i ≤ l5.length ∧ Ow B (w.heap.size :: X) wr f o' b' ∧ Kp B (w.heap.size :: X) w5 wr ∧ LWk sReport l5.length (l5.take i) o5 b5 o' b')
  case atStart => exact ⟨0, o5x, b5x, rfl, rfl, by omega, H1x.out, H2x.out, H3x.out⟩
  case round =>
    obtain ⟨i, o', b', rfl, hg, hi, hF, hK, hW⟩ := hrel
    have HG := Lib.hid hg
    have HF := Lib.hid hF
    have HK := Lib.hid hK
    have HW := Lib.hid hW
    have r0 := (hK.cell (o := 18) hps5 (.inr (by simp))).trans e5
    clear hg hF hK hW p5
    by_cases hlt : i < l5.length
    · have t1 : decide (i < l5.length) = true := by simpa using hlt
      obtain ⟨x, hx⟩ : ∃ x, l5[i]? = some x := ⟨_, List.getElem?_eq_getElem hlt⟩
      obtain ⟨b0, o0, us, rfl, hb0, hbl, hrg, hrep⟩ := HA5.out i x hx
      have hrep := hrep.keep (ok' := (· < B)) (fun k hk hl => ⟨hk, HK.out.block k hl (.inl hk)⟩) HK.out.size
      have hrg : wr.rangeAt b0 (o0 + i * 2) us := rangeAt_keep hrg (HK.out.block b0 hbl (.inl hb0))
      have hblr : b0 < wr.heap.size := Nat.lt_of_lt_of_le hbl HK.out.size
      have HWL := Lib.hid (HW.out.room hx HL5.out)
      have Hx := Lib.hid hx
      clear hx
      have hrepc := hrep
      obtain ⟨_, _, zv0, zy1, -, rfl, ⟨zn0, -, rfl⟩, zk1⟩ := Sch.Rep.tup_cons hrepc
      obtain ⟨_, _, zv1, zy2, -, rfl, ⟨zn1, -, rfl⟩, zk2⟩ := Sch.Rep.tup_cons zk1
      obtain ⟨-, rfl⟩ := Sch.Rep.tup_nil zk2
      clear zk1 zk2
      have hlw := HWL.out
      have G0 : Hid (OWg B (w.heap.size :: X) f b0 (o0 + i * 2) wr wr o' b' o' b' [] [(.num, .num zn0), (.num, .num zn1)]) := Lib.hid (WrG.start HF.out (.inl hb0) hblr hrg hrep (by have := tup_wmax [(.num, .num zn0), (.num, .num zn1)]; rw [← this]; exact hlw))
      clear hrg hrep hlw
      have u0 := WrG.numAt (q := o0 + i * 2) G0.out rfl
      go_wp2_with fail
      refine (OWg.goNum G0.out).mono ?_
      rintro e y1 ⟨rfl, o1', b1', h⟩
      have G1 := Lib.hid h
      clear h u0
      have r1 := (G1.out.kp.cell (o := 18) (b := w.heap.size) (by have := HK.out.size; omega) (.inr (by simp))).trans r0
      have u1 := WrG.numAt (q := o0 + i * 2 + 1) G1.out rfl
      go_wp2_with fail
      refine (OWg.goNum G1.out).mono ?_
      rintro e y2 ⟨rfl, o2', b2', h⟩
      have G2 := Lib.hid h
      clear h u1
      clear r1
      have H1 := Lib.hid G2.out.fw
      have H2 := Lib.hid G2.out.kp
      have H3 := Lib.hid (HW.out.snoc (s := sReport) (WSeq.tup G2.out.seq))
      go_wp2_with fail
      go_roundg (l5.length - (i + 1))
      case measure => have := HG.out; omega
      case rel => exact ⟨i + 1, o2', b2', by go_num, rfl, by omega, H1.out, HK.out.trans H2.out, by rw [take_snoc Hx.out]; exact H3.out⟩
    · obtain rfl : i = l5.length := by omega
      have t1 : decide (l5.length < l5.length) = false := by simp
      have hfin := HW.out
      rw [List.take_length] at hfin
      have H6 := Lib.hid (WrG.next (m := [(.list sReport, .list l5)]) H5.out HF.out HK.out (WSeq.one (LWk.fin hfin)))
      clear hfin e5
      clear HF HW HG hlt hi
      obtain ⟨ws6, hz⟩ : ∃ z, z = wr := ⟨_, rfl⟩
      subst hz
      obtain ⟨os6, hz⟩ : ∃ z, z = o' := ⟨_, rfl⟩
      subst hz
      obtain ⟨bs6, hz⟩ : ∃ z, z = b' := ⟨_, rfl⟩
      subst hz
      clear HK
      obtain ⟨c6, r6, g6⟩ := WrG.range (q := 19) H6.out rfl
      have hl6 : c6.length = 6 := r6.len
      have G6 := Lib.hid g6
      have R6 := Lib.hid r6
      clear g6 r6
      go_wp2_with (refine wpList_load_mid rfl 45 _ rfl w.heap.size 19 rfl c6 _ G6.out Try.underlying45 rfl (by rw [hl6]; exact Try.size45) ?_)
      refine (OWg.go oplan_writes H6.out R6.out).mono ?_
      rintro e w7 ⟨rfl, o7, b7, h⟩
      have H7 := Lib.hid h
      clear h
      obtain ⟨c7, r7, g7⟩ := WrG.range (q := 25) H7.out rfl
      have hl7 : c7.length = 2 := r7.len
      have G7 := Lib.hid g7
      have R7 := Lib.hid r7
      clear g7 r7
      go_wp2_with (refine wpList_load_mid rfl 47 _ rfl w.heap.size 25 rfl c7 _ G7.out Try.underlying47 rfl (by rw [hl7]; exact Try.size47) ?_)
      refine (OWg.go oconf_writes H7.out R7.out).mono ?_
      rintro e w8 ⟨rfl, o8, b8, h⟩
      have H8 := Lib.hid h
      clear h
      go_wp2_with fail
      go_end0
      exact OWg.fin H8.out ((Upd.refl _ _).alloc _) rfl rfl
end Go.Proofs.Yteejgjmnalpibaa
/- The reference's PutCmd. -/
namespace Go.Proofs.Yteejgjmnalpibaa
open Go.RowKit Go.Lb Go.Rc

set_option maxRecDepth 20000 in
set_option maxHeartbeats 2000000 in
theorem rputCmd_puts : Puts 18 sCmd := by
  intro cs v w hr hl
  have hlen : cs.length = 27 := hr.len
  have uW : Upd [] w ((w.alloc (.cells cs.toArray 49)).alloc (.cells #[.slice none 0 0, .bool false] 108)) := ((Upd.refl _ _).alloc _).alloc _
  have HR := Lib.hid hr
  have HL := Lib.hid hl
  have HB := Lib.hid ((Blk.new w 49 cs).alloc (.cells #[.slice none 0 0, .bool false] 108))
  have hb0 := Try.prog.built 108 []
  have HBU : Hid (Try.prog.built 108 [] = some #[.slice none 0 0, .bool false]) := Lib.hid (by kernel_rfl)
  clear hr hl hb0
  go_enter Try.func18, Try.ntmps18
  go_wp2_with (first | (refine wpList_buildTo (o := ⟨some 5, .build 108 #[], _, _, _, _⟩) rfl 108 #[] rfl (some 5) rfl #[.slice none 0 0, .bool false] (by simpa using HBU.out) ?_) | (refine wpList_load_blk rfl 49 (.tmp 1) rfl w.heap.size rfl HB.out Try.underlying49 rfl (by rw [hlen]; exact Try.size49) ?_))
  refine (ocmd_writes w.heap.size [w.heap.size] (w.heap.size + 1) cs v [] false _ (fresh_out (mk := oW) rfl) (HR.out.upd uW (by simp)) (by simpa using HL.out)).mono ?_
  rintro e w1 ⟨rfl, o, b, h1, h2, h3⟩
  cases b with
  | true =>
    have HF := Lib.hid (putIs_bad h2 uW h3)
    have H1 := Lib.hid h1
    clear h1 h2 h3 uW
    go_wp2_with fail
    refine (told_bad H1.out).mono ?_
    rintro e w2 ⟨rfl, rfl⟩
    go_wp2_with fail
    go_ret2
    exact HF.out
  | false =>
    obtain ⟨a, c, e0, hF⟩ := putIs_good h1 h2 uW h3
    have e1 : w1.cell? ⟨w.heap.size + 1, 0, none⟩ = some (.slice a (sCmd.put v).length c) := e0
    have HF := Lib.hid hF
    have H1 := Lib.hid h1
    have E1 := Lib.hid e1
    clear h1 h2 h3 uW e0 hF e1
    go_wp2_with fail
    refine (told_good H1.out E1.out).mono ?_
    rintro e w2 ⟨rfl, rfl⟩
    go_wp2_with fail
    go_ret2
    exact HF.out
end Go.Proofs.Yteejgjmnalpibaa
/- What the frames of the statements share: the bound read off; bytes and records that came in, opened. -/
namespace Go.Proofs.Yteejgjmnalpibaa
open Go.ChangeShapes Go.WideShapes Go.ChangeAt Go.RowKit Go.Lb Go.Rc

instance : Inhabited Val := ⟨.unit⟩
theorem Try.own : ownKnob Try.prog.godebug = none := by kernel_rfl
theorem Try.laidOut : laidOutB Try.prog = true := by kernel_rfl

theorem bulk_one {H : Type} (x : DataW H) : 1 ≤ Rows.uptoBulk x := by
  cases x with
  | lit l => cases l <;> simp [Rows.uptoBulk]
  | _ => simp [Rows.uptoBulk]
theorem bulk_len {H : Type} (l : List (DataW H)) : l.length ≤ Rows.uptoBulkAll l := by
  induction l with
  | nil => simp [Rows.uptoBulkAll]
  | cons x r ih => have h1 := bulk_one x; simp only [Rows.uptoBulkAll, List.length_cons]; omega
theorem bulk_mem {H : Type} {l : List (DataW H)} {x : DataW H} (h : x ∈ l) : Rows.uptoBulk x ≤ Rows.uptoBulkAll l := by
  induction l with
  | nil => simp at h
  | cons y r ih =>
    simp only [Rows.uptoBulkAll]
    rcases List.mem_cons.1 h with rfl | h
    · omega
    · have := ih h; omega
theorem bulk_sum {H : Type} (l : List (DataW H)) : (l.map Rows.uptoBulk).sum = Rows.uptoBulkAll l := by
  induction l with
  | nil => rfl
  | cons y r ih => simp only [List.map_cons, List.sum_cons, Rows.uptoBulkAll, ih]
theorem bulk_of {H : Type} {l : List (DataW H)} (hk : Rows.uptoSmall H l = true) : Rows.uptoBulkAll l ≤ 1048576 := of_decide_eq_true hk
theorem pick_all {α : Type} [Inhabited α] {p : Nat → α → Prop} : ∀ n, (∀ i, i < n → ∃ v, p i v) → ∃ f : Nat → α, ∀ i, i < n → p i (f i)
  | 0, _ => ⟨fun _ => default, fun i h => by omega⟩
  | n + 1, h => by
    obtain ⟨f, hf⟩ := pick_all n (fun i hi => h i (by omega))
    obtain ⟨v, hv⟩ := h n (by omega)
    refine ⟨fun i => if i = n then v else f i, fun i hi => ?_⟩
    by_cases e : i = n
    · subst e; simpa using hv
    · simp only [if_neg e]; exact hf i (by omega)
theorem sum_le {f g : Nat → Nat} : ∀ n, (∀ i, i < n → f i ≤ g i) → ((List.range n).map f).sum ≤ ((List.range n).map g).sum
  | 0, _ => by simp
  | n + 1, h => by
    have h1 := sum_le n (fun i hi => h i (by omega))
    have h2 := h n (by omega)
    simp only [List.range_succ, List.map_append, List.sum_append, List.map_cons, List.map_nil, List.sum_cons, List.sum_nil]
    omega
theorem sum_mul6 (f : Nat → Nat) : ∀ n, ((List.range n).map fun i => 6 * f i).sum = 6 * ((List.range n).map f).sum
  | 0 => by simp
  | n + 1 => by
    have := sum_mul6 f n
    simp only [List.range_succ, List.map_append, List.sum_append, List.map_cons, List.map_nil, List.sum_cons, List.sum_nil, this]
    omega

section
variable {H : Type} {enc : TypeId × Value → H} {W : World} {n : Nat} {cs : List Value} {x : DataW H × List MemPlace} {P : Program}
/-- A slice that came in, opened at every place: all in one block. -/
theorem open_rows {t e : TypeId} {k : Nat} (ht : P.underlying t = some (.slice e)) (hk : P.cellsOf e = k) (h0 : 0 < k) {a : Option Addr} {len cap : Nat} {Q : List Value → DataW H → Prop}
    (hQ : ∀ n' cs x, n' < n → DataW.trod enc P W 0 (fun _ => true) true n' e cs = some x → Q cs x.1)
    (h : DataW.trod enc P W 0 (fun _ => true) true n t [.slice a len cap] = some x) :
    len ≤ cap ∧ cap ≤ maxLen ∧ len + 1 ≤ Rows.uptoBulk x.1 ∧ ∃ D : Nat → DataW H, ((List.range len).map fun i => Rows.uptoBulk (D i)).sum + 1 ≤ Rows.uptoBulk x.1 ∧ ∀ i, i < len → ∃ b o cs, a = some ⟨b, o, none⟩ ∧ b < W.heap.size ∧ W.rangeAt b (o + i * k) cs ∧ cs.length = k ∧ Q cs (D i) := by
  obtain ⟨n0, rfl⟩ : ∃ n0, n = n0 + 1 := by
    cases n with
    | zero => simp [DataW.trod] at h
    | succ n0 => exact ⟨n0, rfl⟩
  rcases DataW.trod_slice ht h with ⟨hcs, hx⟩ | ⟨y, l, c, elems, rest, m, hm0, hcs, hx, _, hl, hm, hlen, hel, _⟩
  · simp at hcs
    obtain ⟨rfl, rfl, rfl⟩ := hcs
    have := bulk_one x.1
    exact ⟨by omega, by omega, by omega, fun _ => .nil, by simpa using this, fun i hi => by omega⟩
  · obtain rfl : n0 = m := by omega
    simp at hcs
    obtain ⟨rfl, rfl, rfl⟩ := hcs
    have hD : ((List.range elems.length).map fun i => Rows.uptoBulk ((elems.map (·.1)).getD i .nil)).sum = Rows.uptoBulkAll (elems.map (·.1)) := by
      rw [← bulk_sum]
      congr 1
      refine List.ext_getElem (by simp) fun i h1 h2 => ?_
      simp at h1
      simp [h1]
    rw [hlen] at hD
    have h3 := bulk_len (elems.map (·.1))
    rw [List.length_map, hlen] at h3
    refine ⟨hl, hm, by rw [hx]; simp only [Rows.uptoBulk]; omega, fun i => (elems.map (·.1)).getD i .nil, by rw [hD, hx]; simp only [Rows.uptoBulk]; omega, fun i hi => ?_⟩
    have key : ∀ i, i < len → ∃ cs' z, W.cells? 0 (y.add (i * P.cellsOf e)) (P.cellsOf e) = some cs' ∧ DataW.trod enc P W 0 (fun _ => true) true n0 e cs' = some z ∧ elems[i]? = some z := fun i hi => by
      have h4 := hel i hi
      rw [List.getElem?_eq_getElem (by omega)] at h4
      obtain ⟨cs', h1, h2⟩ := Option.bind_eq_some_iff.1 h4
      exact ⟨cs', _, h1, h2, List.getElem?_eq_getElem (by omega)⟩
    obtain ⟨cs', z, h1, h2, h5⟩ := key i hi
    rw [hk] at h1
    obtain ⟨_, hlc, hc⟩ := World.cells?_some h1
    obtain ⟨b, off, spot⟩ := y
    have c0 := hc 0 (by omega)
    rw [List.getElem?_eq_getElem (by omega)] at c0
    have hspot : spot = none := by
      obtain ⟨cs0, _, h10, _⟩ := key 0 (by omega)
      rw [hk] at h10
      obtain ⟨_, hl0, hc0⟩ := World.cells?_some h10
      have z0 := hc0 0 (by omega)
      rw [List.getElem?_eq_getElem (by omega)] at z0
      simpa [Addr.add] using World.cell?_spot z0
    subst hspot
    simp only [Addr.add_lit, Nat.add_zero] at c0
    refine ⟨b, off, cs', rfl, block_lt_of_cell c0, fun j v hj => ?_, hlc, ?_⟩
    · have hjl := (List.getElem?_eq_some_iff.1 hj).1
      have := hc j (by omega)
      rw [hj] at this
      simpa [Addr.add_lit] using this
    · have h6 : (elems.map (·.1)).getD i .nil = z.1 := by simp [List.getD, h5]
      show Q cs' ((elems.map (·.1)).getD i .nil)
      rw [h6]
      exact hQ _ _ _ (by omega) h2

theorem open_u8 {t : TypeId} (ht : P.underlying t = some (.int .u8)) (h : DataW.trod enc P W 0 (fun _ => true) true n t cs = some x) : ∃ m : Nat, cs = [bv m] ∧ m < 256 := by
  obtain ⟨k, e, _, hw⟩ := DataW.trod_int ht h
  rw [Lit.wf_int_iff] at hw
  have h1 : (0 : Int) ≤ k := hw.1
  have h2 : k ≤ 255 := hw.2
  refine ⟨k.toNat, ?_, by omega⟩
  rw [e]
  simp [bv, Int.toNat_of_nonneg h1]
/-- Bytes that came in. -/
theorem open_bytes {t e : TypeId} (ht : P.underlying t = some (.slice e)) (he : P.underlying e = some (.int .u8)) (hk : P.cellsOf e = 1) {a : Option Addr} {len cap : Nat}
    (h : DataW.trod enc P W 0 (fun _ => true) true n t [.slice a len cap] = some x) : ∃ l : List Nat, l.length = len ∧ len ≤ cap ∧ cap ≤ maxLen ∧ len + 1 ≤ Rows.uptoBulk x.1 ∧ Bytes W (· < W.heap.size) a l := by
  obtain ⟨q1, q2, q3, D, q4, q5⟩ := open_rows (Q := fun cs _ => ∃ m : Nat, cs = [bv m] ∧ m < 256) ht hk (by omega) (fun n cs x _ hx => open_u8 he hx) h
  obtain ⟨f, hf⟩ := pick_all (α := Nat) (p := fun i m => m < 256 ∧ ∃ b o, a = some ⟨b, o, none⟩ ∧ b < W.heap.size ∧ W.rangeAt b (o + i) [bv m]) len (fun i hi => by
    obtain ⟨b, o, cs, h1, h2, h3, _, m, rfl, h4⟩ := q5 i hi
    exact ⟨m, h4, b, o, h1, h2, by simpa using h3⟩)
  refine ⟨(List.range len).map f, by simp, q1, q2, q3, fun i y hy => ?_⟩
  have hi := (List.getElem?_eq_some_iff.1 hy).1
  simp only [List.length_map, List.length_range] at hi
  rw [List.getElem?_map, List.getElem?_range hi] at hy
  obtain rfl : f i = y := by simpa using hy
  obtain ⟨k1, b, o, k2, k3, k4⟩ := hf i hi
  exact ⟨k1, b, o, k2, k3, k3, by simpa using k4 0 _ rfl⟩

/-- The shape of a type's values. -/
def foldO (f : TypeId → Option Sch) : List TypeId → Option (List Sch)
  | [] => some []
  | t :: r => match f t with
    | none => none
    | some s => match foldO f r with
      | none => none
      | some l => some (s :: l)
def offs (P : Program) : Nat → List Field → Bool
  | _, [] => true
  | o, f :: r => (f.offset == o) && offs P (o + P.cellsOf f.type) r
def schOf (P : Program) : Nat → TypeId → Option Sch
  | 0, _ => none
  | n + 1, t => match P.underlying t with
    | some (.int .i64) => some .num
    | some .bool => some .flag
    | some (.slice e) => match P.underlying e with
      | some (.int .u8) => if P.cellsOf e = 1 then some .raw else none
      | _ => match schOf P n e with
        | none => none
        | some s => if P.cellsOf e = s.size ∧ 0 < s.size then some (.list s) else none
    | some (.struct fs) => if offs P 0 fs.toList = true ∧ P.cellsOf t = (fs.toList.map fun g => P.cellsOf g.type).sum then (foldO (schOf P n) (fs.toList.map (·.type))).map tup else none
    | _ => none

/-- Fields one behind the other, opened. -/
theorem open_fields {k : Nat} {f : TypeId → Option Sch} (hf : ∀ t s cs x, f t = some s → DataW.trod enc P W 0 (fun _ => true) true k t cs = some x → ∃ v, s.Rep W (· < W.heap.size) cs v ∧ s.wmax v ≤ 6 * Rows.uptoBulk x.1) :
    ∀ (fs : List Field) (o : Nat) (cs : List Value) (xs : List (DataW H × List MemPlace)) (ss : List Sch), offs P o fs = true → foldO f (fs.map (·.type)) = some ss → xs.length = fs.length →
      (∀ (i : Nat) (g : Field), fs[i]? = some g → DataW.trod enc P W 0 (fun _ => true) true k g.type ((cs.drop g.offset).take (P.cellsOf g.type)) = xs[i]?) →
      cs.length = o + (fs.map fun g => P.cellsOf g.type).sum →
      ∃ v, (tup ss).Rep W (· < W.heap.size) (cs.drop o) v ∧ (tup ss).wmax v ≤ 6 * Rows.uptoBulkAll (xs.map (·.1))
  | [], o, cs, xs, ss, _, h2, h3, _, h5 => by
    simp only [List.map_nil, foldO, Option.some.injEq] at h2
    subst h2
    simp only [List.map_nil, List.sum_nil, Nat.add_zero] at h5
    refine ⟨.unit, ⟨by rw [List.drop_eq_nil_of_le (by omega)], rfl⟩, by simp [tup, Sch.wmax]⟩
  | g :: r, o, cs, xs, ss, h1, h2, h3, h4, h5 => by
    simp only [offs, Bool.and_eq_true, beq_iff_eq] at h1
    obtain ⟨h1, h1'⟩ := h1
    simp only [List.map_cons, foldO] at h2
    cases hs : f g.type with
    | none => simp [hs] at h2
    | some s =>
      cases hl : foldO f (r.map (·.type)) with
      | none => simp [hs, hl] at h2
      | some l =>
        obtain rfl : s :: l = ss := by simpa [hs, hl] using h2
        match xs, h3 with
        | x :: xr, h3 =>
          have h40 := h4 0 g rfl
          simp only [List.getElem?_cons_zero, h1] at h40
          obtain ⟨v, k1, k2⟩ := hf _ _ _ _ hs h40
          simp only [List.map_cons, List.sum_cons] at h5
          obtain ⟨v', m1, m2⟩ := open_fields hf r (o + P.cellsOf g.type) cs xr l h1' hl (by simpa using h3) (fun i g' hg' => by simpa using h4 (i + 1) g' (by simpa using hg')) (by omega)
          refine ⟨.pair v v', ⟨_, _, _, _, ?_, rfl, k1, m1⟩, ?_⟩
          · rw [← List.drop_drop, List.take_append_drop]
          · simp only [List.map_cons, Rows.uptoBulkAll]
            show s.wmax v + (tup l).wmax v' ≤ _
            omega

theorem open_sch : ∀ (m : Nat) (t : TypeId) (s : Sch) (n : Nat) (cs : List Value) (x : DataW H × List MemPlace), schOf P m t = some s →
    DataW.trod enc P W 0 (fun _ => true) true n t cs = some x → ∃ v, s.Rep W (· < W.heap.size) cs v ∧ s.wmax v ≤ 6 * Rows.uptoBulk x.1
  | 0, _, _, _, _, _, h, _ => by simp [schOf] at h
  | m + 1, t, s, n, cs, x, h, hx => by
    have b1 := bulk_one x.1
    unfold schOf at h
    split at h
    · rename_i hu
      obtain rfl : Sch.num = s := by simpa using h
      obtain ⟨k, rfl, _, _⟩ := DataW.trod_int hu hx
      exact ⟨_, ⟨k, rfl, rfl⟩, by simp only [Sch.wmax]; omega⟩
    · rename_i hu
      obtain rfl : Sch.flag = s := by simpa using h
      obtain ⟨k, rfl, _⟩ := DataW.trod_bool hu hx
      exact ⟨_, ⟨k, rfl, rfl⟩, by simp only [Sch.wmax]; omega⟩
    · rename_i e hu
      obtain ⟨a, len, cap, rfl⟩ : ∃ a len cap, cs = [.slice a len cap] := by
        rcases DataW.trod_slice hu hx with ⟨e, _⟩ | ⟨a, len, cap, _, _, _, _, e, _⟩
        · exact ⟨none, 0, 0, e⟩
        · exact ⟨some a, len, cap, e⟩
      split at h
      · rename_i he
        split at h
        · rename_i h1
          obtain rfl : Sch.raw = s := by simpa using h
          obtain ⟨l, rfl, _, _, q4, q5⟩ := open_bytes hu he h1 hx
          exact ⟨_, ⟨a, cap, l, rfl, rfl, q5⟩, by simp only [Sch.wmax]; omega⟩
        · cases h
      · split at h
        · cases h
        · rename_i s' hs'
          split at h
          · rename_i h1
            obtain rfl : Sch.list s' = s := by simpa using h
            obtain ⟨_, _, q3, D, q4, q5⟩ := open_rows (Q := fun cs x => ∃ v, s'.Rep W (· < W.heap.size) cs v ∧ s'.wmax v ≤ 6 * Rows.uptoBulk x) hu h1.1 h1.2 (fun n cs x _ hx => open_sch m e s' n cs x hs' hx) hx
            obtain ⟨f, hf⟩ := pick_all (α := Val) (p := fun i v => ∃ b o us, a = some ⟨b, o, none⟩ ∧ b < W.heap.size ∧ W.rangeAt b (o + i * s'.size) us ∧ s'.Rep W (· < W.heap.size) us v ∧ s'.wmax v ≤ 6 * Rows.uptoBulk (D i)) len (fun i hi => by
              obtain ⟨b, o, cs, h1, h2, h3, _, v, h4, h5⟩ := q5 i hi
              exact ⟨v, b, o, cs, h1, h2, h3, h4, h5⟩)
            refine ⟨.list ((List.range len).map f), ⟨a, cap, _, by simp, rfl, fun i y hy => ?_⟩, ?_⟩
            · have hi := (List.getElem?_eq_some_iff.1 hy).1
              simp only [List.length_map, List.length_range] at hi
              rw [List.getElem?_map, List.getElem?_range hi] at hy
              obtain rfl : f i = y := by simpa using hy
              obtain ⟨b, o, us, k1, k2, k3, k4, _⟩ := hf i hi
              exact ⟨b, o, us, k1, k2, k2, k3, k4⟩
            · have h6 := sum_le (f := fun i => s'.wmax (f i)) (g := fun i => 6 * Rows.uptoBulk (D i)) len (fun i hi => by
                obtain ⟨b, o, us, k1, k2, k3, k4, k5⟩ := hf i hi
                exact k5)
              rw [sum_mul6] at h6
              simp only [Sch.wmax, List.map_map]
              have : (List.map (s'.wmax ∘ f) (List.range len)).sum = ((List.range len).map fun i => s'.wmax (f i)).sum := rfl
              omega
          · cases h
    · rename_i fs hu
      split at h
      · rename_i ho
        obtain ⟨ss, hss, rfl⟩ := Option.map_eq_some_iff.1 h
        obtain ⟨xs, k, _, rfl, hl, hlen, hf⟩ := DataW.trod_struct hu hx
        obtain ⟨v, k1, k2⟩ := open_fields (fun t s cs x h1 h2 => open_sch m t s k cs x h1 h2) fs.toList 0 cs xs ss ho.1 hss (by simpa using hlen) (fun i g hg => hf i g (by simpa using hg)) (by rw [hl, ho.2]; omega)
        exact ⟨v, by simpa using k1, by simp only [Rows.uptoBulk]; omega⟩
      · cases h
    · cases h
/-- Bytes that were handed in. -/
theorem arg_bytes {t e : TypeId} (ht : P.underlying t = some (.slice e)) (he : P.underlying e = some (.int .u8)) (hk : P.cellsOf e = 1) {a : Option Addr} {len cap : Nat} {d : DataW H} {p : List MemPlace}
    (h : DataW.Trod enc P W 0 (fun _ => true) true t (.slice a len cap) d p) : ∃ l : List Nat, l.length = len ∧ len ≤ cap ∧ cap ≤ maxLen ∧ len + 1 ≤ Rows.uptoBulk d ∧ Bytes W (· < W.heap.size) a l := by
  obtain ⟨m, hm⟩ := h
  exact open_bytes ht he hk hm
/-- A record that was handed in. -/
theorem arg_sch {t : TypeId} {m : Nat} {s : Sch} (hs : schOf P m t = some s) {cs : Array Value} {d : DataW H} {p : List MemPlace} (h : DataW.Trod enc P W 0 (fun _ => true) true t (.agg cs) d p) :
    ∃ v, s.Rep W (· < W.heap.size) cs.toList v ∧ s.wmax v ≤ 6 * Rows.uptoBulk d := by
  obtain ⟨k, hk⟩ := h
  exact open_sch m t s k _ _ hs hk
end
end Go.Proofs.Yteejgjmnalpibaa
/- What the program's first words say, once for all statements. -/
namespace Go.Proofs.Yteejgjmnalpibaa
open Go.ChangeShapes Go.WideShapes Go.ChangeAt
theorem Try.words : (Try.prog.mayEnter, Try.prog.liftsFinal, Try.prog.make) = (true, false, some .cut) := by kernel_rfl
theorem Try.words1 : Try.prog.mayEnter = true := (Prod.mk.inj Try.words).1
theorem Try.words2 : Try.prog.liftsFinal = false := (Prod.mk.inj (Prod.mk.inj Try.words).2).1
theorem Try.words3 : Try.prog.make = some .cut := (Prod.mk.inj (Prod.mk.inj Try.words).2).2
end Go.Proofs.Yteejgjmnalpibaa
