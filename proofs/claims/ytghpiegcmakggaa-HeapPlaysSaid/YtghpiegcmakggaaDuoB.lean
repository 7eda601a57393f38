/- HeapPlays: peek, pop and remove of both heaps answer alike. -/
import Derived.Test.YtghpiegcmakggaaDuo
set_option linter.unusedVariables false
set_option linter.unusedSimpArgs false
namespace Go.Proofs.Ytghpiegcmakggaa
open Go.RowKit Go.Lb Go.Hp

theorem least_ex (A : List It) : ∀ n, 0 < n → ∃ m : Nat, LeastTo A n m ∧ m < n := by
  intro n
  induction n with
  | zero => intro h; omega
  | succ n ih =>
    intro _
    by_cases h0 : n = 0
    · subst h0; exact ⟨0, LeastTo.first A, by omega⟩
    · obtain ⟨m, hm, hlt⟩ := ih (by omega)
      by_cases hl : (A.getD n default).key < (A.getD m default).key
      · exact ⟨n, hm.less hlt hl, by omega⟩
      · exact ⟨m, hm.more hlt hl, by omega⟩
theorem least_one {A : List It} {n m m' : Nat} (h : LeastTo A n m) (h' : LeastTo A n m') : m = m' := by
  rcases h with ⟨_, e⟩ | ⟨j, e, h1, h2, h3⟩
  · omega
  rcases h' with ⟨_, e'⟩ | ⟨j', e', h1', h2', h3'⟩
  · omega
  obtain rfl : m = j := by omega
  obtain rfl : m' = j' := by omega
  rcases Nat.lt_trichotomy m m' with hlt | e | hlt
  · have := h3' m hlt; have := h2 m' h1'; omega
  · exact e
  · have := h3 m' hlt; have := h2' m h1; omega

def PeekPost (k t : Int) (p : Bool) (w : World) (e : Ending) (w' : World) : Prop := e = .returned (.tuple #[.agg #[.int .i64 k, .int .i64 t], .bool p]) ∧ Upd [] w w'

theorem both_peek {w wr : World} {b rb i : Nat} {A L : List It} {fp : List Nat} {v : Value} {born : Int} (h : Both w b rb i A L fp v born wr) (hi : i ≤ 5864062014635) :
    ∃ k t p, Calls Try.prog 17 #[.pointer (some ⟨b, 0, none⟩)] wr (PeekPost k t p wr) ∧
      ∀ wd, RefAt wd rb v A → Calls Try.prog 22 #[.pointer (some ⟨rb, 0, none⟩)] wd (PeekPost k t p wd) := by
  have hl := h.duo.len
  have ha := h.al
  by_cases hn : A = []
  · subst hn
    obtain rfl : L = [] := List.length_eq_zero_iff.1 (by simpa using hl)
    exact ⟨0, 0, false, hpeek_nil b fp born wr h.own.heap, fun wd hR => rpeek_nil rb v wd hR⟩
  · have hLn : L ≠ [] := by
      intro e; subst e
      exact hn (List.length_eq_zero_iff.1 (by simpa using hl.symm))
    obtain ⟨m, hm, hlt⟩ := least_ex A A.length (List.length_pos_iff.2 hn)
    obtain ⟨y, hy⟩ : ∃ y, A[m]? = some y := ⟨_, List.getElem?_eq_getElem hlt⟩
    refine ⟨y.key, y.tag, true, ?_, fun wd hR => ?_⟩
    · refine (hpeek b fp L born wr h.own.heap hLn).mono ?_
      rintro e w' ⟨x, he, hx, hle, _, hu⟩
      obtain rfl := h.duo.least hx hle hy hm
      exact ⟨he, hu⟩
    · refine (rpeek_some rb v A wd hR (by omega) hn).mono ?_
      rintro e w' ⟨m', y', hy', hm', he, hu⟩
      obtain rfl := least_one hm hm'
      obtain rfl : y = y' := by rw [hy] at hy'; exact Option.some.inj hy'
      exact ⟨he, hu⟩

theorem both_pop {w wr : World} {b rb i : Nat} {A L : List It} {fp : List Nat} {v : Value} {born : Int} (h : Both w b rb i A L fp v born wr) (hi : i ≤ 5864062014635) :
    ∃ k t p A', A'.length ≤ A.length ∧ Calls Try.prog 11 #[.pointer (some ⟨b, 0, none⟩)] wr (fun e w' => e = .returned (.tuple #[.agg #[.int .i64 k, .int .i64 t], .bool p]) ∧ ∃ L', HeapIs w' b fp L' born ∧ Duo A' L' born ∧ Upd fp wr w') ∧
      ∀ wd, RefAt wd rb v A → Calls Try.prog 19 #[.pointer (some ⟨rb, 0, none⟩)] wd (fun e w' => e = .returned (.tuple #[.agg #[.int .i64 k, .int .i64 t], .bool p]) ∧
        ∃ v', RefAt w' rb v' A' ∧ Upd (rb :: v.ownBlock.toList) wd w' ∧ ∀ s, v'.ownBlock = some s → v.ownBlock = some s ∨ wd.heap.size ≤ s) := by
  have hl := h.duo.len
  have ha := h.al
  by_cases hn : A = []
  · subst hn
    obtain rfl : L = [] := List.length_eq_zero_iff.1 (by simpa using hl)
    refine ⟨0, 0, false, [], Nat.le_refl _, ?_, fun wd hR => ?_⟩
    · refine (hpop_nil b fp born wr h.own.heap).mono ?_
      rintro e w' ⟨he, hu⟩
      exact ⟨he, [], h.own.heap.upd hu (by simp), h.duo, hu.mono (by simp)⟩
    · refine (rpop_nil rb v wd hR).mono ?_
      rintro e w' ⟨he, hu⟩
      exact ⟨he, v, hR.upd hu (by simp) (by simp), hu.mono (by simp), fun s hs => .inl hs⟩
  · have hLn : L ≠ [] := by
      intro e; subst e
      exact hn (List.length_eq_zero_iff.1 (by simpa using hl.symm))
    obtain ⟨m, hm, hlt⟩ := least_ex A A.length (List.length_pos_iff.2 hn)
    obtain ⟨y, hy⟩ : ∃ y, A[m]? = some y := ⟨_, List.getElem?_eq_getElem hlt⟩
    refine ⟨y.key, y.tag, true, A.take m ++ A.drop (m + 1), by simp; omega, ?_, fun wd hR => ?_⟩
    · refine (hpop b fp L born wr h.own.heap hLn (by omega)).mono ?_
      rintro e w' ⟨x, L', he, h1, hp, hle, hu, _⟩
      obtain ⟨rfl, hd⟩ := h.duo.pop hp hle hy hm
      exact ⟨he, L', h1, hd, hu⟩
    · refine (rpop_some rb v A wd hR (by omega) hn).mono ?_
      rintro e w' ⟨m', y', hy', hm', he, v', h1, hu, hf⟩
      obtain rfl := least_one hm hm'
      obtain rfl : y = y' := by rw [hy] at hy'; exact Option.some.inj hy'
      exact ⟨he, v', h1, hu.mono (by simp), fun s hs => .inr (hf s hs)⟩

/-- While one and the other heap removes, in either order. -/
structure RmSt (w : World) (b rb q : Nat) (A L : List It) (fp : List Nat) (born k x t : Int) (hd rd : Bool) (wd : World) : Prop where
  heap : ∃ L', HeapIs wd b fp L' born ∧ ((hd = false ∧ L' = L) ∨ (hd = true ∧ L'.Perm (L.filter fun y => !y.eqk x)))
  ref : ∃ v', RefAt wd rb v' (if rd then A.filter (fun y => !y.eqk x) else A) ∧ ∀ s, v'.ownBlock = some s → s ∉ fp ∧ w.heap.size ≤ s
  opb : Blk wd q 46 [.int .i64 k, .int .i64 x, .int .i64 t]
  upd : Upd [] w wd
  new : ∀ y ∈ fp, w.heap.size ≤ y
  rf : rb ∉ fp
  wr : w.heap.size ≤ rb
  qf : q ∉ fp
  qr : q ≠ rb

theorem RmSt.any {w wd w2 : World} {b rb q : Nat} {A L : List It} {fp : List Nat} {born k x t : Int} {hd rd : Bool} (h : RmSt w b rb q A L fp born k x t hd rd wd) (u : Upd [] wd w2) : RmSt w b rb q A L fp born k x t hd rd w2 := by
  obtain ⟨L', h1, h2⟩ := h.heap
  obtain ⟨v', h3, h4⟩ := h.ref
  exact ⟨⟨L', h1.upd u (by simp), h2⟩, ⟨v', h3.upd u (by simp) (by simp), h4⟩, u.blk h.opb (by simp), h.upd.trans u (by simp), h.new, h.rf, h.wr, h.qf, h.qr⟩

theorem rm_heap {w wd : World} {b rb q : Nat} {A L : List It} {fp : List Nat} {born k x t : Int} {rd : Bool} (h : RmSt w b rb q A L fp born k x t false rd wd) (hL : L.length ≤ 5864062014804) (r : Nat) (hr : r + (L.filter fun y => !y.eqk x).length = L.length) :
    Calls Try.prog 20 #[.pointer (some ⟨b, 0, none⟩), .agg #[.int .i64 x, .int .i64 t]] wd fun e w' => e = .returned (.int .i64 r) ∧ RmSt w b rb q A L fp born k x t true rd w' := by
  obtain ⟨L', h1, h2⟩ := h.heap
  obtain ⟨v', h3, h4⟩ := h.ref
  obtain rfl : L' = L := by
    rcases h2 with ⟨_, e⟩ | ⟨e, _⟩
    · exact e
    · cases e
  refine (hremove b fp L' born x t wd h1 hL r hr).mono ?_
  rintro e w' ⟨he, L2, g1, g2, u⟩
  exact ⟨he, ⟨L2, g1, .inr ⟨rfl, g2⟩⟩, ⟨v', h3.upd u h.rf (fun s hs => (h4 s hs).1), h4⟩, u.blk h.opb h.qf, h.upd.trans u (fun y hy => .inr (h.new y hy)), h.new, h.rf, h.wr, h.qf, h.qr⟩

theorem rm_ref {w wd : World} {b rb q : Nat} {A L : List It} {fp : List Nat} {born k x t : Int} {hd : Bool} (h : RmSt w b rb q A L fp born k x t hd false wd) (hA : A.length ≤ 5864062014804) (r : Nat) (hr : r + (A.filter fun y => !y.eqk x).length = A.length) :
    Calls Try.prog 21 #[.pointer (some ⟨rb, 0, none⟩), .int .i64 x] wd fun e w' => e = .returned (.int .i64 r) ∧ RmSt w b rb q A L fp born k x t hd true w' := by
  obtain ⟨L', h1, h2⟩ := h.heap
  obtain ⟨v', h3, h4⟩ := h.ref
  have hz := h.upd.size
  refine (rremove_any rb v' A x wd h3 hA r hr).mono ?_
  rintro e w' ⟨he, v2, g1, u, f⟩
  exact ⟨he, ⟨L', h1.upd u (fun y hy hm => by simp at hm; subst hm; exact h.rf hy), h2⟩, ⟨v2, g1, fun s hs => ⟨fun hx => by have := h1.lt s hx; have := f s hs; omega, by have := f s hs; omega⟩⟩,
    u.blk h.opb (by simp; exact h.qr), h.upd.trans u (fun y hy => by simp at hy; subst hy; exact .inr h.wr), h.new, h.rf, h.wr, h.qf, h.qr⟩

theorem rm_start {w wr : World} {b rb q i : Nat} {A L : List It} {fp : List Nat} {v : Value} {born k x t : Int} (h : Both w b rb i A L fp v born wr) (hq : Blk wr q 46 [.int .i64 k, .int .i64 x, .int .i64 t]) (qf : q ∉ fp) (qr : q ≠ rb) : RmSt w b rb q A L fp born k x t false false wr :=
  ⟨⟨L, h.own.heap, .inl ⟨rfl, rfl⟩⟩, ⟨v, h.ref, h.vf⟩, hq, h.own.upd, h.own.new, h.rf, h.wr, qf, qr⟩

theorem rm_end {w wr wd : World} {b rb q i : Nat} {A L : List It} {fp : List Nat} {v : Value} {born k x t : Int} (h0 : Both w b rb i A L fp v born wr) (h : RmSt w b rb q A L fp born k x t true true wd) : PlayRel w b rb (i + 1) wd := by
  obtain ⟨L', h1, h2⟩ := h.heap
  obtain ⟨v', h3, h4⟩ := h.ref
  obtain hp : L'.Perm (L.filter fun y => !y.eqk x) := by
    rcases h2 with ⟨e, _⟩ | ⟨_, e⟩
    · cases e
    · exact e
  simp only [if_true] at h3
  refine ⟨_, L', fp, v', born, h0.duo.filter _ hp, ⟨h1, h.upd, h.new⟩, h3, h.rf, h4, h.wr, ?_, h0.b0, ?_⟩
  · have := List.length_filter_le (fun y => !y.eqk x) A
    have := h0.al
    omega
  · have := h0.bi
    omega

end Go.Proofs.Ytghpiegcmakggaa
