/- A part that several proofs lean on: texts one behind the other. No condition but those that each theorem states. -/
import Derived.Test.YthecincpejpmpaaZff
import Derived.ArgAppend
set_option linter.unusedVariables false
set_option linter.unusedSimpArgs false
/- Packets under way: a row of slices of bytes, where it stands; a thing taken out of a row; slices that look at a part of a row. Over any program. -/
namespace Go.Lb
open Go Go.RowKit

/-- The slice v holds xs, one cell each, somewhere in a row of the call's own. -/
def Win (w : World) (e : TypeId) (v : Value) (xs : List Value) : Prop :=
  (v = .slice none 0 0 ∧ xs = []) ∨
  ∃ g o cap vs, v = .slice (some ⟨g, o, none⟩) xs.length cap ∧ Blk w g e vs ∧ xs.length ≤ cap ∧ cap ≤ maxLen ∧ o + cap ≤ vs.length ∧ ∀ i u, xs[i]? = some u → vs[o + i]? = some u

theorem Win.nil (w : World) (e : TypeId) : Win w e (.slice none 0 0) [] := .inl ⟨rfl, rfl⟩
theorem Win.shape {w : World} {e : TypeId} {v : Value} {xs : List Value} (h : Win w e v xs) : ∃ a c, v = .slice a xs.length c := by
  rcases h with ⟨rfl, rfl⟩ | ⟨g, o, cap, vs, rfl, _⟩
  · exact ⟨_, _, rfl⟩
  · exact ⟨_, _, rfl⟩
theorem Win.upd {w w' : World} {e : TypeId} {v : Value} {xs : List Value} (h : Win w e v xs) {F : List Nat} (u : Upd F w w') (hF : ∀ k, v.ownBlock = some k → k ∉ F) : Win w' e v xs := by
  rcases h with h | ⟨g, o, cap, vs, rfl, hb, r⟩
  · exact .inl h
  · exact .inr ⟨g, o, cap, vs, rfl, u.blk hb (hF g rfl), r⟩
theorem Win.lt {w : World} {e : TypeId} {v : Value} {xs : List Value} (h : Win w e v xs) : ∀ k, v.ownBlock = some k → k < w.heap.size := by
  intro k hk
  rcases h with ⟨rfl, _⟩ | ⟨g, o, cap, vs, rfl, hb, r⟩
  · cases hk
  · simp [Value.ownBlock] at hk; subst hk; exact hb.lt
theorem Win.head {w : World} {e : TypeId} {v x : Value} {xs : List Value} (h : Win w e v (x :: xs)) : ∃ g o cap, v = .slice (some ⟨g, o, none⟩) (xs.length + 1) cap ∧ w.cell? ⟨g, o, none⟩ = some x ∧ xs.length + 1 ≤ cap ∧ cap ≤ maxLen := by
  rcases h with ⟨_, h⟩ | ⟨g, o, cap, vs, rfl, hb, h1, h2, h3, h4⟩
  · cases h
  · exact ⟨g, o, cap, rfl, by have := h4 0 x rfl; exact hb.cell (by simpa using this), h1, h2⟩
theorem Win.tail {w : World} {e : TypeId} {x : Value} {xs : List Value} {g o cap : Nat} (h : Win w e (.slice (some ⟨g, o, none⟩) (xs.length + 1) cap) (x :: xs)) :
    Win w e (.slice (some ⟨g, if cap = 1 then o else o + 1, none⟩) xs.length (cap - 1)) xs := by
  rcases h with ⟨h, _⟩ | ⟨g', o', cap', vs, hv, hb, h1, h2, h3, h4⟩
  · cases h
  · simp at hv
    obtain ⟨⟨rfl, rfl⟩, rfl⟩ := hv
    simp at h1
    refine .inr ⟨g, _, cap - 1, vs, rfl, hb, by omega, by omega, by split <;> omega, fun i u hi => ?_⟩
    have hil := (List.getElem?_eq_some_iff.1 hi).1
    have := h4 (i + 1) u (by simpa using hi)
    rw [if_neg (by omega)]
    rw [show o + 1 + i = o + (i + 1) by omega]
    exact this

theorem arr_of_list (l : List Value) (a : Array Value) : l.toArray ++ a = (l ++ a.toList).toArray := by
  cases a; simp
theorem arr_of_list2 (l m : List Value) (a : Array Value) : l.toArray ++ m.toArray ++ a = (l ++ m ++ a.toList).toArray := by
  cases a; simp

section
variable {P : Program}
theorem run_append_win (w : World) (t ty e : TypeId) (i : TypeInfo) (z : Value) (bytes : Nat) (ht : P.underlying t = some (.slice e)) (hi : P.info? e = some i) (hz : i.zero = some z) (hsize : i.size = 1) (hby : i.bytes = bytes) (hzs : z.cells.size = 1)
    (v : Value) (xs : List Value) (hown : Win w e v xs) (a : Addr) (c : Nat) (x : Value) (hx : w.cell? a = some x) (ha : a.add 0 = a) (h1 : x.oneCell' = true) (h63 : xs.length + 1 ≤ maxLen) (hbytes : (xs.length + 1) * bytes ≤ 140737488355328) :
    ∃ v' w', (Builtin.append_ #[t, t] ty #[v, .slice (some a) 1 c]).run P w = .ok v' w' ∧ Win w' e v' (xs ++ [x]) ∧ w.grownBy w' v.ownBlock ∧ (v'.ownBlock = v.ownBlock ∨ v'.ownBlock = some w.heap.size) := by
  have hnews : ∀ j u, [x][j]? = some u → w.cell? (a.add j) = some u := by
    intro j u hj
    match j, hj with
    | 0, hj => simp at hj; subst hj; rw [ha]; exact hx
    | j + 1, hj => simp at hj
  have h63' : xs.length + 1 ≤ 9223372036854775807 := by simp only [maxLen] at h63; omega
  rcases hown with ⟨rfl, rfl⟩ | ⟨g, o, cap, vs, rfl, hb, g1, g2, g3, g4⟩
  · have hr := run_append_nil (P := P) w t ty e i z ht hi hz a 1 c [x] (by simp [hsize]) hnews (by omega) (by omega) (by rw [hby]; simp at hbytes; omega)
    have hge := grownCap_ge w 1 0 e
    have hcm : grownCap w 1 0 e ≤ maxLen := grownCap_le_maxLen w 1 0 e (by simpa using h63)
    refine ⟨_, _, hr, .inr ⟨w.heap.size, 0, _, [x] ++ (Builtin.zeroCells z.cells (grownCap w 1 0 e - 1)).toList, rfl, ?_, by simpa using hge, hcm, ?_, ?_⟩, ⟨rfl, rfl, rfl, by simp, fun k hk _ => Below.heap_alloc w.drew _ k hk⟩, .inr rfl⟩
    · rw [show ([x].toArray ++ Builtin.zeroCells z.cells (grownCap w 1 0 e - 1)) = ([x] ++ (Builtin.zeroCells z.cells (grownCap w 1 0 e - 1)).toList).toArray from arr_of_list _ _]
      exact Blk.new w.drew e _
    · simp [size_zeroCells, hzs]; omega
    · intro i u hi
      match i, hi with
      | 0, hi => simp at hi; subst hi; simp
      | i + 1, hi => simp at hi
  · by_cases hroom : xs.length + 1 ≤ cap
    · have hlt : o + xs.length < vs.length := by omega
      have hcl := hb.cell (o := o + xs.length) (List.getElem?_eq_getElem hlt)
      have hr := run_append_room_cells (P := P) w t ty e i ht hi g o xs.length cap a 1 c [x] (by simp [hsize]) hnews (by simp [h1]) hroom
        (by intro j hj; simp at hj; subst hj; rw [hsize, Nat.mul_one, Nat.add_zero, hcl]; rfl) (by intro j hj; exact hb.frozen _)
      rw [hsize, Nat.mul_one] at hr
      simp only [World.setCells] at hr
      refine ⟨_, _, hr, .inr ⟨g, o, cap, vs.set (o + xs.length) x, by simp, hb.set _ _, by simpa using hroom, g2, by simpa using g3, ?_⟩, ⟨rfl, rfl, rfl, by simp, fun k _ hk => Below.heap_setCell _ _ _ _ (fun e => hk (by simp [Value.ownBlock, e]))⟩, .inl rfl⟩
      intro i u hi
      by_cases e1 : i < xs.length
      · rw [List.getElem?_append_left e1] at hi
        rw [List.getElem?_set_ne (by omega)]
        exact g4 i u hi
      · have e2 : i = xs.length := by
          have := (List.getElem?_eq_some_iff.1 hi).1
          simp at this
          omega
        subst e2
        simp at hi
        subst hi
        simp [hlt]
    · have holds : ∀ j u, xs[j]? = some u → w.cell? ((⟨g, o, none⟩ : Addr).add j) = some u := by
        intro j u hj
        rw [Addr.add_lit]
        exact hb.cell (g4 j u hj)
      have hr := run_append_grow (P := P) w t ty e i z ht hi hz ⟨g, o, none⟩ xs.length cap xs (by simp [hsize]) holds a 1 c [x] (by simp [hsize]) hnews (by omega) (by omega) (growslice_fits (by omega) (by rw [hby]; exact hbytes))
      have hge := grownCap_ge w (xs.length + 1) cap e
      have hcm : grownCap w (xs.length + 1) cap e ≤ maxLen := grownCap_le_maxLen w (xs.length + 1) cap e h63
      refine ⟨_, _, hr, .inr ⟨w.heap.size, 0, _, xs ++ [x] ++ (Builtin.zeroCells z.cells (grownCap w (xs.length + 1) cap e - (xs.length + 1))).toList, by simp, ?_, by simpa using hge, hcm, ?_, ?_⟩, ⟨rfl, rfl, rfl, by simp, fun k hk _ => Below.heap_alloc w.drew _ k hk⟩, .inr rfl⟩
      · rw [arr_of_list2]
        exact Blk.new w.drew e _
      · simp [size_zeroCells, hzs]; omega
      · intro i u hi
        rw [Nat.zero_add, List.getElem?_append_left (by have := (List.getElem?_eq_some_iff.1 hi).1; exact this)]
        exact hi

theorem wpList_append_win {w : World} {ops : Array Oper} {rest : List Oper} {o : Oper} {a : Act} {Q : Exit → Act → World → Prop} (hgd : o.guard = none) (s x : Operand) (t : TypeId)
    (ho : o.op = .call { callee := .builtin .append, args := #[s, x], argTypes := #[t, t] })
    (e : TypeId) (i : TypeInfo) (z : Value) (bytes : Nat) (ht : P.underlying t = some (.slice e)) (hi : P.info? e = some i) (hz : i.zero = some z) (hsize : i.size = 1) (hby : i.bytes = bytes) (hzs : z.cells.size = 1)
    (v : Value) (xs : List Value) (hs : a.eval s = v) (hown : Win w e v xs) (ad : Addr) (c : Nat) (u : Value) (hx : a.eval x = .slice (some ad) 1 c) (hc : w.cell? ad = some u) (ha : ad.add 0 = ad) (h1 : u.oneCell' = true) (h63 : xs.length + 1 ≤ maxLen) (hbytes : (xs.length + 1) * bytes ≤ 140737488355328)
    (h : ∀ v' w', Win w' e v' (xs ++ [u]) → w.grownBy w' v.ownBlock → (v'.ownBlock = v.ownBlock ∨ v'.ownBlock = some w.heap.size) → wpList P ops Q rest (a.put o.dst v') w') : wpList P ops Q (o :: rest) a w := by
  refine wpList_plain hgd fun K hK => ?_
  obtain ⟨v', w', hr, h2, h3, h4⟩ := run_append_win (P := P) w t o.type e i z bytes ht hi hz hsize hby hzs v xs hown ad c u hc ha h1 h63 hbytes
  unfold Oper.wp execOp
  simp only [ho, resolve, invoke, builtin, Sem.run_bind, Sem.run_pure, Result.andThen_ok, List.map_toArray, List.map_cons, List.map_nil, hs, hx, hr]
  exact hK _ _ (h v' w' h2 h3 h4)
end
section
variable {P : Program} {w : World}
/-- append(s[:k], s[k+1:]...): the k-th is taken out of the row. -/
theorem run_append_mid {base g n cap k c2 : Nat} {t ty e : TypeId} {i : TypeInfo} {z : Value} {bytes : Nat} {xs : List Value} {ad : Addr} (ht : P.underlying t = some (.slice e)) (hi : P.info? e = some i) (hz : i.zero = some z)
    (hsize : i.size = 1) (hby : i.bytes = bytes) (hzs : z.cells.size = 1) (h : w.ownsRow base e 1 (.slice (some ⟨g, 0, none⟩) n cap) n xs) (hk : k < n) (h1 : ∀ u ∈ xs, u.oneCell' = true) (hb : n * bytes ≤ 140737488355328)
    (hbase : base ≤ w.heap.size) (ha : k + 1 < n → ad = ⟨g, k + 1, none⟩) :
    ∃ w', (Builtin.append_ #[t, t] ty #[.slice (some ⟨g, 0, none⟩) k cap, .slice (some ad) (n - (k + 1)) c2]).run P w = .ok (.slice (some ⟨g, 0, none⟩) (n - 1) cap) w' ∧
      w'.ownsRow base e 1 (.slice (some ⟨g, 0, none⟩) (n - 1) cap) (n - 1) (xs.eraseIdx k) ∧ w.grownBy w' (some g) := by
  have hl := h.1
  rw [Nat.mul_one] at hl
  have hcap : n ≤ cap ∧ cap ≤ maxLen := by
    rcases h.2 with ⟨h0, _⟩ | ⟨g', cap', cur, hv, hb, hg, hnc, hcm, hcs, htake⟩
    · cases h0
    · cases hv; exact ⟨hnc, hcm⟩
  have hnews : ∀ j u, (xs.drop (k + 1))[j]? = some u → w.cell? (ad.add j) = some u := fun j u hj => by
    have hjl := (List.getElem?_eq_some_iff.1 hj).1
    rw [List.length_drop] at hjl
    rw [List.getElem?_drop] at hj
    rw [ha (by omega), Addr.add_lit]
    rw [h.cellAt (k + 1 + j) (by omega)]; exact hj
  have hto := own_take h (Nat.le_of_lt hk)
  rw [Nat.mul_one] at hto
  have hd1 : ∀ u ∈ xs.drop (k + 1), u.oneCell' = true := fun u hu => h1 u (List.mem_of_mem_drop hu)
  have hmax : k + (n - (k + 1)) ≤ maxLen := by omega
  obtain ⟨v', w', hr, h2, h3, _⟩ := run_append_own (P := P) w base t ty e i z 1 bytes ht hi hz hsize hby hzs (by decide) _ k _ hto ad (n - (k + 1)) c2 (xs.drop (k + 1)) (by rw [List.length_drop]; omega) hnews hd1 hmax (Nat.le_trans (Nat.mul_le_mul_right _ (by omega)) hb) hbase
  rcases hto.2 with ⟨h0, _⟩ | ⟨g', cap', cur, hv, hbg, hg, hnc, hcm, hcs, htake⟩
  · cases h0
  cases hv
  have hr2 := run_append_room (P := P) w t ty e i ht hi g k cap cur hg ad (n - (k + 1)) c2 (xs.drop (k + 1)) (by rw [List.length_drop, hsize]; omega) hnews hd1 (by omega) (by rw [hsize, List.length_drop, hcs]; omega)
  have hr3 := hr
  rw [hr2] at hr3
  simp only [Result.ok.injEq] at hr3
  obtain ⟨rfl, rfl⟩ := hr3
  have e1 : k + (n - (k + 1)) = n - 1 := by omega
  have e2 : xs.take k ++ xs.drop (k + 1) = xs.eraseIdx k := (List.eraseIdx_eq_take_drop_succ xs k).symm
  rw [e1] at hr h2
  rw [e2] at h2
  exact ⟨_, hr, h2, h3⟩
end
end Go.Lb
namespace Go.Rc
open Go Go.RowKit Go.Lb
/-- A packet: a slice of the bytes of a message that may be written. -/
def Pk (w : World) (ok : Nat → Prop) (u : Value) (x : Val) : Prop := sMsg.good x ∧ ∃ a c, u = .slice a (sMsg.put x).length c ∧ (sMsg.put x).length ≤ c ∧ c ≤ maxLen ∧ Bytes w ok a (sMsg.put x)
theorem Pk.keep {w w' : World} {ok ok' : Nat → Prop} {u : Value} {x : Val} (h : Pk w ok u x) (hk : ∀ b, ok b → b < w.heap.size → ok' b ∧ w'.heap[b]? = w.heap[b]?) (hs : w.heap.size ≤ w'.heap.size) : Pk w' ok' u x := by
  obtain ⟨h1, a, c, h2, h3, h4, h5⟩ := h
  exact ⟨h1, a, c, h2, h3, h4, h5.keep hk hs⟩
structure Pks (w : World) (ok : Nat → Prop) (us : List Value) (L : List Val) : Prop where
  len : us.length = L.length
  at_ : ∀ (i : Nat) (u : Value) (x : Val), us[i]? = some u → L[i]? = some x → Pk w ok u x
section
variable {w w' : World} {ok ok' : Nat → Prop} {us : List Value} {L : List Val} {u : Value} {x : Val}
theorem Pks.nil : Pks w ok [] [] := ⟨rfl, fun i u x h => by simp at h⟩
theorem Pks.keep (h : Pks w ok us L) (hk : ∀ b, ok b → b < w.heap.size → ok' b ∧ w'.heap[b]? = w.heap[b]?) (hs : w.heap.size ≤ w'.heap.size) : Pks w' ok' us L := ⟨h.len, fun i u x h1 h2 => (h.at_ i u x h1 h2).keep hk hs⟩
theorem Pks.snoc (h : Pks w ok us L) (hx : Pk w ok u x) : Pks w ok (us ++ [u]) (L ++ [x]) := by
  refine ⟨by simp [h.len], fun i v y h1 h2 => ?_⟩
  by_cases hi : i < us.length
  · rw [List.getElem?_append_left hi] at h1
    rw [List.getElem?_append_left (by rw [← h.len]; exact hi)] at h2
    exact h.at_ i v y h1 h2
  · have hl := (List.getElem?_eq_some_iff.1 h1).1
    simp only [List.length_append, List.length_singleton] at hl
    obtain rfl : i = us.length := by omega
    rw [List.getElem?_append_right (Nat.le_refl _), Nat.sub_self] at h1
    rw [h.len, List.getElem?_append_right (Nat.le_refl _), Nat.sub_self] at h2
    simp at h1 h2
    subst h1 h2
    exact hx
theorem Pks.erase (h : Pks w ok us L) (k : Nat) : Pks w ok (us.eraseIdx k) (L.eraseIdx k) := by
  refine ⟨by rw [List.length_eraseIdx, List.length_eraseIdx, h.len], fun i v y h1 h2 => ?_⟩
  rw [List.getElem?_eraseIdx] at h1 h2
  split at h1
  · rename_i hi
    rw [if_pos hi] at h2
    exact h.at_ i v y h1 h2
  · rename_i hi
    rw [if_neg hi] at h2
    exact h.at_ _ v y h1 h2
theorem Pks.one (h : Pks w ok us L) : ∀ u ∈ us, u.oneCell' = true := fun u hu => by
  obtain ⟨i, hi⟩ := List.mem_iff_getElem?.1 hu
  have hl := (List.getElem?_eq_some_iff.1 hi).1
  obtain ⟨_, a, c, rfl, _⟩ := h.at_ i u _ hi (List.getElem?_eq_getElem (by rw [← h.len]; exact hl))
  rfl
end
/-- A net of room m at block p: its packets, in the slice v, are those of the messages L. Y: other blocks that will change. -/
structure NetV (T : TypeId) (own : World → Value → List Value → Prop) (w : World) (p m : Nat) (L : List Val) (Y : List Nat) (v : Value) (us : List Value) : Prop where
  blk : Blk w p T [.int .i64 (m : Int), v]
  own : own w v us
  ne : v.ownBlock ≠ some p
  low : ∀ k ∈ p :: v.ownBlock.toList, k ∉ Y ∧ k < w.heap.size
  ylow : ∀ k ∈ Y, k < w.heap.size
  pks : Pks w (fun b => b ∉ p :: v.ownBlock.toList ∧ b ∉ Y) us L
/-- .. X: the blocks that it may change. -/
def NetAt (T : TypeId) (own : World → Value → List Value → Prop) (w : World) (p m : Nat) (L : List Val) (X Y : List Nat) : Prop :=
  ∃ v us, X = p :: v.ownBlock.toList ∧ NetV T own w p m L Y v us
/-- What a call on a net changes. -/
structure NetTo (w : World) (X : List Nat) (w' : World) (X' : List Nat) : Prop where
  upd : Upd X w w'
  new : ∀ k ∈ X', k ∈ X ∨ w.heap.size ≤ k
theorem NetTo.refl (w : World) (X : List Nat) : NetTo w X w X := ⟨Upd.refl _ _, fun k hk => .inl hk⟩
theorem NetTo.trans {w w1 w2 : World} {X X1 X2 : List Nat} (h : NetTo w X w1 X1) (k : NetTo w1 X1 w2 X2) : NetTo w X w2 X2 :=
  ⟨h.upd.trans k.upd h.new, fun x hx => by
    rcases k.new x hx with h1 | h1
    · exact h.new x h1
    · have := h.upd.size; exact .inr (by omega)⟩
theorem NetTo.same {w w1 w2 : World} {X X1 : List Nat} (h : NetTo w X w1 X1) (u : Upd [] w1 w2) : NetTo w X w2 X1 := ⟨h.upd.trans u (by simp), h.new⟩
theorem NetTo.low {w w' : World} {X X' : List Nat} (h : NetTo w X w' X') {B : Nat} (hX : ∀ k ∈ X, B ≤ k) (hB : B ≤ w.heap.size) : ∀ k ∈ X', B ≤ k := fun k hk => by
  rcases h.new k hk with h1 | h1
  · exact hX k h1
  · omega
section
variable {T T2 : TypeId} {own own2 : World → Value → List Value → Prop} {w w' : World} {p q m m2 : Nat} {L L' : List Val} {X X' Y : List Nat}
/-- The next state: all packets were there before. -/
theorem NetV.next {v v' : Value} {us us' : List Value} (h : NetV T own w p m L Y v us) (u : Upd (p :: v.ownBlock.toList) w w') (hb : Blk w' p T [.int .i64 (m : Int), v']) (ho : own w' v' us') (hv : ∀ k, v'.ownBlock = some k → k ≠ p ∧ k < w'.heap.size ∧ (v.ownBlock = some k ∨ w.heap.size ≤ k)) (hp : Pks w (fun b => b ∉ p :: v.ownBlock.toList ∧ b ∉ Y) us' L') :
    NetTo w (p :: v.ownBlock.toList) w' (p :: v'.ownBlock.toList) ∧ NetV T own w' p m L' Y v' us' := by
  obtain ⟨h1, h2, h4, h5, h6, h7⟩ := h
  refine ⟨⟨u, fun k hk => ?_⟩, hb, ho, fun e => (hv p e).1 rfl, fun k hk => ?_, fun k hk => Nat.lt_of_lt_of_le (h6 k hk) u.size, hp.keep (fun b hb hl => ⟨⟨fun hm => ?_, hb.2⟩, u.block b hl hb.1⟩) u.size⟩
  · rcases List.mem_cons.1 hk with rfl | hk
    · exact .inl (by simp)
    · rcases (hv k (by simpa using hk)).2.2 with h8 | h8
      · exact .inl (by simp [h8])
      · exact .inr h8
  · rcases List.mem_cons.1 hk with rfl | hk
    · exact ⟨(h5 _ (by simp)).1, hb.lt⟩
    · obtain ⟨_, k1, k2⟩ := hv k (by simpa using hk)
      refine ⟨fun hy => ?_, k1⟩
      rcases k2 with k2 | k2
      · exact (h5 k (by simp [k2])).1 hy
      · have := h6 k hy; omega
  · rcases List.mem_cons.1 hm with rfl | hm
    · exact hb.1 (by simp)
    · rcases (hv b (by simpa using hm)).2.2 with h8 | h8
      · exact hb.1 (by simp [h8])
      · omega
/-- Another net stands by. -/
theorem NetAt.by (h : NetAt T own w p m L X Y) (n : NetTo w Y w' X') (hown : ∀ v us F, own w v us → Upd F w w' → (∀ k, v.ownBlock = some k → k ∉ F) → own w' v us) (hX : ∀ k ∈ X', k < w'.heap.size) : NetAt T own w' p m L X X' := by
  obtain ⟨v, us, rfl, h1, h2, h4, h5, h6, h7⟩ := h
  have hn : ∀ k, k < w.heap.size → k ∉ Y → k ∉ X' := fun k hk hy hx => by
    rcases n.new k hx with h8 | h8
    · exact hy h8
    · omega
  refine ⟨v, us, rfl, n.upd.blk h1 (h5 p (by simp)).1, hown v us Y h2 n.upd (fun k hk => (h5 k (by simp [hk])).1), h4, fun k hk => ⟨hn k (h5 k hk).2 (h5 k hk).1, Nat.lt_of_lt_of_le (h5 k hk).2 n.upd.size⟩, hX, h7.keep (fun b hb hl => ⟨⟨hb.1, hn b hl hb.2⟩, n.upd.block b hl hb.2⟩) n.upd.size⟩
/-- Nothing of it is changed. -/
theorem NetV.same {v : Value} {us : List Value} {F : List Nat} (h : NetV T own w p m L Y v us) (u : Upd F w w') (hF : ∀ k ∈ F, k ∈ Y) (hown : ∀ v us F, own w v us → Upd F w w' → (∀ k, v.ownBlock = some k → k ∉ F) → own w' v us) : NetV T own w' p m L Y v us := by
  obtain ⟨h1, h2, h4, h5, h6, h7⟩ := h
  have hn : ∀ k, k ∈ p :: v.ownBlock.toList → k ∉ F := fun k hk hf => (h5 k hk).1 (hF k hf)
  exact ⟨u.blk h1 (hn p (by simp)), hown v us F h2 u (fun k hk => hn k (by simp [hk])), h4, fun k hk => ⟨(h5 k hk).1, Nat.lt_of_lt_of_le (h5 k hk).2 u.size⟩, fun k hk => Nat.lt_of_lt_of_le (h6 k hk) u.size, h7.keep (fun b hb hl => ⟨hb, u.block b hl (fun hf => hb.2 (hF b hf))⟩) u.size⟩
theorem NetAt.same {F : List Nat} (h : NetAt T own w p m L X Y) (u : Upd F w w') (hF : ∀ k ∈ F, k ∈ Y) (hown : ∀ v us F, own w v us → Upd F w w' → (∀ k, v.ownBlock = some k → k ∉ F) → own w' v us) : NetAt T own w' p m L X Y := by
  obtain ⟨v, us, hX, h⟩ := h
  exact ⟨v, us, hX, h.same u hF hown⟩
theorem NetAt.lt (h : NetAt T own w p m L X Y) : (∀ k ∈ X, k < w.heap.size) ∧ (∀ k ∈ Y, k < w.heap.size) ∧ p ∈ X ∧ ∀ k ∈ X, k ∉ Y := by
  obtain ⟨v, us, rfl, h1, h2, h4, h5, h6, h7⟩ := h
  exact ⟨fun k hk => (h5 k hk).2, h6, by simp, fun k hk => (h5 k hk).1⟩
theorem NetAt.len (h : NetAt T own w p m L X Y) : ∀ x ∈ L, sMsg.good x := fun x hx => by
  obtain ⟨v, us, rfl, h1, h2, h4, h5, h6, h7⟩ := h
  obtain ⟨i, hi⟩ := List.mem_iff_getElem?.1 hx
  have hl := (List.getElem?_eq_some_iff.1 hi).1
  exact (h7.at_ i _ x (List.getElem?_eq_getElem (by rw [h7.len]; exact hl)) hi).1
/-- Fewer blocks that will change. -/
theorem NetAt.more (h : NetAt T own w p m L X Y) {Y' : List Nat} (hy : ∀ k ∈ Y', k ∈ Y) : NetAt T own w p m L X Y' := by
  obtain ⟨v, us, hX, h1, h2, h4, h5, h6, h7⟩ := h
  exact ⟨v, us, hX, h1, h2, h4, fun k hk => ⟨fun hm => (h5 k hk).1 (hy k hm), (h5 k hk).2⟩, fun k hk => h6 k (hy k hk), h7.keep (fun b hb hl => ⟨⟨hb.1, fun hm => hb.2 (hy b hm)⟩, rfl⟩) (Nat.le_refl _)⟩
/-- What comes to be in the net. -/
def came (m : Nat) (L : List Val) (x : Val) : List Val := if m < (L ++ [x]).length then (L ++ [x]).eraseIdx 0 else L ++ [x]
theorem came_len {x : Val} (h : L.length ≤ m) (hm : 1 ≤ m) : (came m L x).length ≤ m := by
  unfold came
  split
  · rw [List.length_eraseIdx]
    simp only [List.length_append, List.length_singleton] at *
    rw [if_pos (by omega)]; omega
  · omega
end
end Go.Rc
/- net.Net: New, Len, there, slices.Delete of one, came, Lose, Copy. -/
namespace Go.Proofs.Ythecincpejpmpaa
open Go.RowKit Go.Lb Go.Rc

theorem infoSl : ∃ i, Try.prog.info? 22 = some i ∧ i.zero = some (.slice none 0 0) ∧ i.size = 1 ∧ i.bytes = 24 := by
  obtain ⟨i, h1, h2, h3, h4⟩ := info_parts (show (Try.prog.info? 22).map (fun i => (i.zero, i.size, i.bytes)) = some (some (.slice none 0 0), 1, 24) by kernel_rfl)
  exact ⟨i, h1, h2, h3, h4⟩
theorem Try.elem99 : Try.prog.elem 99 = 22 := by kernel_rfl
/-- Its packets stand in a row of its own. -/
def ownN (w : World) (v : Value) (us : List Value) : Prop := w.ownsRow 0 22 1 v us.length us
theorem ownN_upd {w w' : World} : ∀ v us F, ownN w v us → Upd F w w' → (∀ k, v.ownBlock = some k → k ∉ F) → ownN w' v us := fun v us F h u hF => u.row h hF
abbrev PNet (w : World) (p m : Nat) (L : List Val) (X Y : List Nat) : Prop := NetAt 101 ownN w p m L X Y

set_option maxRecDepth 20000 in
theorem nnew_yes (m : Nat) (w : World) (h1 : 1 ≤ m) (h2 : m ≤ 256) : Calls Try.prog 19 #[.int .i64 (m : Int)] w fun e w' => e = .returned (.pointer (some ⟨w.heap.size, 0, none⟩)) ∧ Upd [] w w' ∧ PNet w' w.heap.size m [] [w.heap.size] [] := by
  have t1 : decide ((m : Int) < 1) = false := by simp; omega
  have t2 : decide ((256 : Int) < (m : Int)) = false := by simp; omega
  have HF : Hid (PNet (w.alloc (.cells #[.int .i64 (m : Int), .slice none 0 0] 101)) w.heap.size m [] [w.heap.size] []) := Lib.hid ⟨.slice none 0 0, [], rfl, Blk.new w 101 [.int .i64 (m : Int), .slice none 0 0], ⟨rfl, .inl ⟨rfl, rfl⟩⟩, by simp [Value.ownBlock], fun k hk => by simp [Value.ownBlock] at hk; subst hk; simp, by simp, Pks.nil⟩
  go_enter Try.func19, Try.ntmps19
  go_wp2_with fail
  refine bodyPost_ret (results_tmp rfl _ _ _) rfl ?_
  exact ⟨rfl, (Upd.refl _ _).alloc _, HF.out⟩
set_option maxRecDepth 20000 in
theorem nnew_no (m : Int) (w : World) (h : m < 1 ∨ 256 < m) : Calls Try.prog 19 #[.int .i64 m] w fun e w' => e = .returned (.pointer none) ∧ Upd [] w w' := by
  have ht : decide (m < 1) = true ∨ (decide (m < 1) = false ∧ decide (256 < m) = true) := by
    rcases h with h | h
    · exact .inl (by simpa using h)
    · exact .inr ⟨by simp; omega, by simpa using h⟩
  clear h
  rcases ht with t1 | ⟨t1, t2⟩
  all_goals
    go_enter Try.func19, Try.ntmps19
    go_wp2_with fail
    refine bodyPost_ret (results_tmp rfl _ _ _) rfl ?_
    exact ⟨rfl, Upd.refl _ _⟩
section
variable {p m : Nat} {L : List Val} {X Y : List Nat} {w : World}
set_option maxRecDepth 20000 in
theorem nlen_any (h : PNet w p m L X Y) : Calls Try.prog 22 #[.pointer (some ⟨p, 0, none⟩)] w fun e w' => e = .returned (.int .i64 (L.length : Int)) ∧ Upd [] w w' := by
  obtain ⟨v, us, _, hb, ho, _, _, _, hp⟩ := h
  obtain ⟨a, c, rfl⟩ := own_shape' ho
  rw [hp.len] at hb
  have c1 := hb.cell (o := 1) rfl
  have c2 := hb.lt
  clear hb ho hp
  go_enter Try.func22, Try.ntmps22
  go_wp2_with fail
  refine bodyPost_ret (results_tmp rfl _ _ _) rfl ?_
  exact ⟨rfl, Upd.refl _ _⟩
set_option maxRecDepth 20000 in
theorem nthere_any (h : PNet w p m L X Y) (k : Int) (r : Bool) (hr : decide (0 ≤ k ∧ k < (L.length : Int)) = r) : Calls Try.prog 42 #[.pointer (some ⟨p, 0, none⟩), .int .i64 k] w fun e w' => e = .returned (.bool r) ∧ Upd [] w w' := by
  obtain ⟨v, us, _, hb, ho, _, _, _, hp⟩ := h
  obtain ⟨a, c, rfl⟩ := own_shape' ho
  rw [hp.len] at hb
  have c1 := hb.cell (o := 1) rfl
  have c2 := hb.lt
  have HR := Lib.hid hr
  clear hb ho hp hr
  by_cases h0 : 0 ≤ k
  · have t1 : decide (0 ≤ k) = true := by simpa using h0
    obtain ⟨q, hq⟩ : ∃ q, decide (k < (L.length : Int)) = q := ⟨_, rfl⟩
    have HQ : Hid (q = r) := Lib.hid (by rw [← HR.out, ← hq]; simp [h0])
    go_enter Try.func42, Try.ntmps42
    go_wp2_with fail
    refine bodyPost_ret (results_tmp rfl _ _ _) rfl ?_
    exact ⟨by rw [← HQ.out]; rfl, Upd.refl _ _⟩
  · have t1 : decide (0 ≤ k) = false := by simpa using h0
    have HQ : Hid (r = false) := Lib.hid (by rw [← HR.out]; simp; omega)
    go_enter Try.func42, Try.ntmps42
    go_wp2_with fail
    refine bodyPost_ret (results_tmp rfl _ _ _) rfl ?_
    exact ⟨by rw [HQ.out]; rfl, Upd.refl _ _⟩
end

set_option maxRecDepth 20000 in
set_option maxHeartbeats 2000000 in
/-- One is taken out of a row. -/
theorem delete_any (g cap k n : Nat) (x y : Int) (us : List Value) (w : World) (h : w.ownsRow 0 22 1 (.slice (some ⟨g, 0, none⟩) n cap) n us) (h1 : ∀ u ∈ us, u.oneCell' = true) (hk : k < n) (hn : n ≤ 100000) (hx : x = (k : Int)) (hy : y = (k : Int) + 1) :
    Calls Try.prog 44 #[.slice (some ⟨g, 0, none⟩) n cap, .int .i64 x, .int .i64 y] w fun e w' => e = .returned (.slice (some ⟨g, 0, none⟩) (n - 1) cap) ∧
      w'.ownsRow 0 22 1 (.slice (some ⟨g, 0, none⟩) (n - 1) cap) (n - 1) (us.eraseIdx k) ∧ Upd [g] w w' := by
  subst hx hy
  obtain ⟨iS, hiS, hzS0, hzS1, hzS2⟩ := infoSl
  have HTT : Hid (Try.prog.underlying 99 = some (.slice (Try.prog.elem 99))) := Lib.hid <| by rw [Try.elem99]; exact Try.underlying99
  have hcap : n ≤ cap ∧ cap ≤ maxLen := by
    rcases h.2 with ⟨h0, _⟩ | ⟨g', cap', cur, hv, hb, hg, hnc, hcm, hcs, htake⟩
    · cases h0
    · cases hv; exact ⟨hnc, hcm⟩
  obtain ⟨hnc, hcm⟩ := hcap
  unfold maxLen at hcm
  obtain ⟨w1, hrun, hown, hg⟩ := run_append_mid (P := Try.prog) (t := 99) (ty := 99) (c2 := cap - (k + 1)) (ad := if cap = k + 1 then ⟨g, 0, none⟩ else ⟨g, k + 1, none⟩) Try.underlying99 hiS hzS0 hzS1 hzS2 rfl (World.ownsRow.drew h) hk h1 (by omega) (Nat.zero_le _) (fun e => by rw [if_neg (by omega)])
  have es0 : suba (some ⟨g, 0, none⟩) 0 cap = some ⟨g, 0, none⟩ := by rw [suba, if_neg (by omega)]; rfl
  have es1 : suba (some ⟨g, 0, none⟩) (k + 1) cap = some (if cap = k + 1 then ⟨g, 0, none⟩ else ⟨g, k + 1, none⟩) := by
    rw [suba]
    split
    · rfl
    · simp [Addr.add]
  have es2 : suba (some ⟨g, 0, none⟩) (n - 1) cap = some ⟨g, n - 1, none⟩ := by rw [suba, if_neg (by omega)]; simp [Addr.add]; omega
  rw [← es1] at hrun
  have HRUN : Hid ((Builtin.append_ #[99, 99] 99 #[.slice (suba (some ⟨g, 0, none⟩) 0 cap) k cap, .slice (suba (some ⟨g, 0, none⟩) (k + 1) cap) (n - (k + 1)) (cap - (k + 1))]).run Try.prog w.drew = .ok (.slice (some ⟨g, 0, none⟩) (n - 1) cap) w1) := Lib.hid (by rw [es0]; exact hrun)
  have HOWN := Lib.hid hown
  have U1 : Hid (Upd [g] w w1) := Lib.hid ((Upd.refl _ _).drew.grown hg (by simp))
  have HS2 := Lib.hid es2
  have tne : ((k : Int) == (k : Int) + 1) = false := by rw [beq_eq_false_iff_ne]; omega
  have hn1 : (((n - 1 : Nat) : Int)) = (n : Int) - 1 := by omega
  have HN1 := Lib.hid hn1
  clear hrun hown hg es0 es1 es2 h h1 hn1
  go_enter Try.func44, Try.ntmps44
  go_wp2_with fail
  refine wp_region_lex (fun _ => True) 99 [(0, true), (1, true), (2, true), (3, true), (4, true), (5, true), (6, false), (7, false)] (by kernel_rfl) (by kernel_rfl) (by kernel_rfl) (by kernel_rfl) (fun _ _ d _ _ h => by cases d <;> exact h) ?_
  simp only [lexOps, List.map_cons, List.map_nil, List.getD_cons_zero, List.getD_cons_succ]
  iterate 2 (refine lex_read rfl trivial (v := ?_) (fun w' _ => ?_) ?_; rotate_left; (focus (go_simp; try with_reducible rfl)); simp only [Act.put, List.setIfInBounds_toArray, List.set_cons_zero, List.set_cons_succ])
  refine lex_read rfl trivial (fun w' hw => exec_sliceAt (by rfl) (by rfl) (by rfl) (by rfl) (sub_h HTT.out Try.elem99 hiS hzS1 (up := k) rfl (by omega))) ?_
  simp only [Act.put, List.setIfInBounds_toArray, List.set_cons_zero, List.set_cons_succ]
  iterate 2 (refine lex_read rfl trivial (v := ?_) (fun w' _ => ?_) ?_; rotate_left; (focus (go_simp; try with_reducible rfl)); simp only [Act.put, List.setIfInBounds_toArray, List.set_cons_zero, List.set_cons_succ])
  refine lex_read rfl trivial (fun w' hw => exec_sliceAt (by rfl) (by rfl) (by rfl) (by rfl) (sub_l HTT.out Try.elem99 hiS hzS1 (lo := k + 1) (by omega) (by omega))) ?_
  simp only [Act.put, List.setIfInBounds_toArray, List.set_cons_zero, List.set_cons_succ]
  refine lex_run rfl (exec_append (by rfl) (by rfl) (by rfl) HRUN.out) (fun _ => trivial) ?_
  try simp only [Act.put, List.setIfInBounds_toArray, List.set_cons_zero, List.set_cons_succ]
  refine lex_do rfl (fun K hK => ?_)
  go_simp
  refine hK _ _ (fun _ => trivial) ?_
  clear hK K
  try simp only [Act.put, List.setIfInBounds_toArray, List.set_cons_zero, List.set_cons_succ]
  refine lex_nil ?_
  go_wp2_with (first | (refine wpList_run (o := ⟨some 31, .slice 99 (.tmp 27) (some (.tmp 29)) (some (.tmp 30)) none, _, _, _, _⟩) rfl (exec_sliceAt (by rfl) (by rfl) (by rfl) (by rfl) (sub_lh HTT.out Try.elem99 hiS hzS1 (lo := n - 1) (k := 1) (by first | rfl | (have := HN1.out; omega)) (by have := HN1.out; omega) (by omega))) ?_; rw [HS2.out]) | (refine wpList_clear_tail rfl (.tmp 31) 99 rfl 0 22 iS _ 1 Try.underlying99 hiS hzS0 rfl (by simp [Value.cells, Value.oneCell']) g (n - 1) cap 1 _ _ _ rfl HOWN.out (by omega) (by omega) ?_; intro w2 ho2 hg2; have HO2 := Lib.hid ho2; have U2 : Hid (Upd [g] w w2) := Lib.hid (U1.out.trans ((Upd.refl _ _).grown hg2 (by simp)) (fun k hk => .inl hk)); clear ho2 hg2))
  go_ret
  exact ⟨rfl, HO2.out, U2.out⟩
end Go.Proofs.Ythecincpejpmpaa
/- net.Net: came, Lose, Copy, Send, Deliver. -/
namespace Go.Proofs.Ythecincpejpmpaa
open Go.RowKit Go.Lb Go.Rc
section
variable {p m : Nat} {L : List Val} {X Y : List Nat} {w : World}

/-- A net at v, from where its calls start. -/
abbrev PNetV (w : World) (p m : Nat) (L : List Val) (Y : List Nat) (v : Value) (us : List Value) : Prop := NetV 101 ownN w p m L Y v us
theorem own_some {w : World} {base n sz : Nat} {e : TypeId} {v : Value} {xs : List Value} (h : w.ownsRow base e sz v n xs) (hn : 0 < n) : ∃ g c, v = .slice (some ⟨g, 0, none⟩) n c ∧ n ≤ c ∧ c ≤ maxLen := by
  rcases own_is h with ⟨_, h0⟩ | ⟨g, c, h1, _, _, h2, h3⟩
  · omega
  · exact ⟨g, c, h1, h2, h3⟩
/-- One more stands in the row. -/
theorem ncame_put {w1 : World} {us : List Value} {a0 : Option Addr} {c0 g1 c1 : Nat} {u : Value} {x : Val} (H : PNetV w p m L Y (.slice a0 us.length c0) us) (hx : Pk w (fun b => b ∉ p :: (Value.slice a0 us.length c0).ownBlock.toList ∧ b ∉ Y) u x) (o : Obj)
    (ho : w1.ownsRow 0 22 1 (.slice (some ⟨g1, 0, none⟩) (us.length + 1) c1) (us.length + 1) (us ++ [u])) (hg : (w.alloc o).grownBy w1 (Value.slice a0 us.length c0).ownBlock)
    (hv : (Value.slice (some ⟨g1, 0, none⟩) (us.length + 1) c1).ownBlock = (Value.slice a0 us.length c0).ownBlock ∨ (Value.slice (some ⟨g1, 0, none⟩) (us.length + 1) c1).ownBlock = some (w.alloc o).heap.size) :
    Blk w1 p 101 [.int .i64 (m : Int), .slice a0 us.length c0] ∧ g1 ≠ p ∧ g1 < w1.heap.size ∧
    NetTo w (p :: (Value.slice a0 us.length c0).ownBlock.toList) (w1.setCell ⟨p, 1, none⟩ (.slice (some ⟨g1, 0, none⟩) (us.length + 1) c1)) [p, g1] ∧
    PNetV (w1.setCell ⟨p, 1, none⟩ (.slice (some ⟨g1, 0, none⟩) (us.length + 1) c1)) p m (L ++ [x]) Y (.slice (some ⟨g1, 0, none⟩) (us.length + 1) c1) (us ++ [u]) := by
  have hb1 : Blk w1 p 101 [.int .i64 (m : Int), .slice a0 us.length c0] := (hg.block p (H.blk.alloc _).lt (fun e => H.ne e.symm)).trans (H.blk.alloc _)
  have hlt : g1 < w1.heap.size := (own_lo ho rfl).2
  have hpl := H.blk.lt
  have hnp : g1 ≠ p := by
    rintro rfl
    rcases hv with h1 | h1
    · exact H.ne h1.symm
    · simp [Value.ownBlock] at h1; omega
  have hgx : (Value.slice a0 us.length c0).ownBlock = some g1 ∨ w.heap.size ≤ g1 := by
    rcases hv with h1 | h1
    · exact .inl h1.symm
    · simp [Value.ownBlock] at h1; exact .inr (by omega)
  have hu : Upd (p :: (Value.slice a0 us.length c0).ownBlock.toList) w (w1.setCell ⟨p, 1, none⟩ (.slice (some ⟨g1, 0, none⟩) (us.length + 1) c1)) := by
    refine Upd.setCell ?_ (.inl (by simp)) _
    exact ((Upd.refl _ w).alloc _).grown hg (fun k hk => .inl (by simp [hk]))
  have hb2 : Blk (w1.setCell ⟨p, 1, none⟩ (.slice (some ⟨g1, 0, none⟩) (us.length + 1) c1)) p 101 [.int .i64 (m : Int), .slice (some ⟨g1, 0, none⟩) (us.length + 1) c1] := hb1.set 1 _
  have ho2 : ownN (w1.setCell ⟨p, 1, none⟩ (.slice (some ⟨g1, 0, none⟩) (us.length + 1) c1)) (.slice (some ⟨g1, 0, none⟩) (us.length + 1) c1) (us ++ [u]) := by
    unfold ownN
    rw [List.length_append, List.length_singleton]
    exact Upd.row (F := [p]) ((Upd.refl _ _).setCell (by simp) _) ho (fun k hk => by simp [Value.ownBlock] at hk; subst hk; simpa using hnp)
  obtain ⟨n1, n2⟩ := NetV.next H hu hb2 ho2 (fun k hk => by simp [Value.ownBlock] at hk; subst hk; exact ⟨hnp, by simpa using hlt, hgx⟩) (H.pks.snoc hx)
  exact ⟨hb1, hnp, hlt, n1, n2⟩
/-- One stands in the row no more. -/
theorem nlose_put {w1 : World} {us us' : List Value} {g n n1 c k : Nat} (H : PNetV w p m L Y (.slice (some ⟨g, 0, none⟩) n c) us) (hu : us' = us.eraseIdx k) (hn : us'.length = n1) (u : Upd [g] w w1) (ho : w1.ownsRow 0 22 1 (.slice (some ⟨g, 0, none⟩) n1 c) n1 us') :
    Blk w1 p 101 [.int .i64 (m : Int), .slice (some ⟨g, 0, none⟩) n c] ∧
    NetTo w [p, g] (w1.setCell ⟨p, 1, none⟩ (.slice (some ⟨g, 0, none⟩) n1 c)) [p, g] ∧
    PNetV (w1.setCell ⟨p, 1, none⟩ (.slice (some ⟨g, 0, none⟩) n1 c)) p m (L.eraseIdx k) Y (.slice (some ⟨g, 0, none⟩) n1 c) us' := by
  have hnp : g ≠ p := fun e => H.ne (by rw [e]; rfl)
  have hb1 : Blk w1 p 101 [.int .i64 (m : Int), .slice (some ⟨g, 0, none⟩) n c] := u.blk H.blk (by simpa using fun e => hnp e.symm)
  have ho2 : ownN (w1.setCell ⟨p, 1, none⟩ (.slice (some ⟨g, 0, none⟩) n1 c)) (.slice (some ⟨g, 0, none⟩) n1 c) us' := by
    unfold ownN
    rw [hn]
    exact Upd.row (F := [p]) ((Upd.refl _ _).setCell (by simp) _) ho (fun k hk => by simp [Value.ownBlock] at hk; subst hk; simpa using hnp)
  obtain ⟨n1', n2'⟩ := NetV.next H (((u.mono (fun k hk => .inl (by simp [Value.ownBlock] at hk ⊢; simp [hk]))).setCell (.inl (by simp)) _)) (hb1.set 1 _) ho2 (fun k hk => by simp [Value.ownBlock] at hk; subst hk; exact ⟨hnp, by have := (own_lo ho rfl).2; simpa using this, .inl rfl⟩) (by rw [hu]; exact H.pks.erase k)
  exact ⟨hb1, n1', n2'⟩

set_option maxRecDepth 20000 in
set_option maxHeartbeats 2000000 in
theorem ncame_any (a : Option Addr) (n c : Nat) (x : Val) (h : PNet w p m L X Y) (hx : Pk w (fun b => b ∉ X ∧ b ∉ Y) (.slice a n c) x) (hm : 1 ≤ m) (hm2 : m ≤ 256) (hl : L.length ≤ m) :
    Calls Try.prog 41 #[.pointer (some ⟨p, 0, none⟩), .slice a n c] w fun e w' => e = .returned (.tuple #[]) ∧ ∃ X', NetTo w X w' X' ∧ PNet w' p m (came m L x) X' Y := by
  obtain ⟨iS, hiS, hzS0, hzS1, hzS2⟩ := infoSl
  obtain ⟨v, us, rfl, h⟩ := h
  obtain ⟨a0, c0, rfl⟩ := own_shape' h.own
  have HUL := Lib.hid h.pks.len
  have hul : us.length ≤ 256 := by rw [h.pks.len]; omega
  have c1 := h.blk.cell (o := 1) rfl
  have c2 := h.blk.lt
  have H := Lib.hid h
  have HPX := Lib.hid hx
  have HONE := Lib.hid (h.pks.snoc hx).one
  have HCAME : Hid (m < us.length + 1 → came m L x = (L ++ [x]).eraseIdx 0) := Lib.hid (fun e => by unfold came; rw [if_pos (by simpa [h.pks.len] using e)])
  have HCAME2 : Hid (¬ m < us.length + 1 → came m L x = L ++ [x]) := Lib.hid (fun e => by unfold came; rw [if_neg (by simpa [h.pks.len] using e)])
  clear h hx
  go_enter Try.func41, Try.ntmps41
  go_wp2_with (at_builtin; refine wpList_append_mine rfl (.tmp 8) (.tmp 10) 99 rfl 0 22 iS _ 1 24 Try.underlying99 hiS hzS0 hzS1 hzS2 rfl (by decide) (.slice a0 us.length c0) us.length us rfl (World.ownsRow.alloc H.out.own _) ⟨w.heap.size, 0, none⟩ 1 1 [.slice a n c] rfl rfl (Blk.news (Blk.new _ 22 [.slice a n c])) (by simp [Value.oneCell']) (by unfold maxLen; omega) (by omega) (Nat.zero_le _) ?_; intro v1 w1 ho1 hg1 hv1; obtain ⟨g1, c1', rfl, _, _⟩ := own_some ho1 (by omega); obtain ⟨hbA, hnp, hlt1, n1, h1⟩ := ncame_put H.out HPX.out _ ho1 hg1 hv1; have q1 := hbA.cell (o := 1) rfl; have q2 := hbA.frozen 1; have q3 := hbA.lt; have HO1 := Lib.hid ho1; have N1 := Lib.hid n1; have H1 := Lib.hid h1; clear hbA ho1 hg1 hv1 n1 h1)
  have k0 := H1.out.blk.cell (o := 0) rfl
  have k1 := H1.out.blk.cell (o := 1) rfl
  have k2 := H1.out.blk.lt
  generalize hw2 : (w1.setCell ⟨p, 1, none⟩ (.slice (some ⟨g1, 0, none⟩) (us.length + 1) c1')) = w2 at *
  clear q1 q2 q3 c1 hw2
  by_cases hov : m < us.length + 1
  · have t1 : decide ((m : Int) < (us.length : Int) + 1) = true := by simp; omega
    have t2 : decide (m < us.length + 1) = true := by simp; omega
    have H1d := Lib.hid (H1.out.same ((Upd.refl [] _).drew) (by simp) ownN_upd)
    have hod : w2.drew.ownsRow 0 22 1 (.slice (some ⟨g1, 0, none⟩) (us.length + 1) c1') (us.length + 1) (us ++ [.slice a n c]) := by
      have := H1d.out.own
      unfold ownN at this
      rwa [List.length_append, List.length_singleton] at this
    have HOD := Lib.hid hod
    clear hod
    go_wp2_with fail
    go_region
    go_wp2_with fail
    refine (delete_any g1 c1' 0 (us.length + 1) 0 1 _ _ HOD.out HONE.out (by omega) (by omega) rfl rfl).mono ?_
    rintro e w3 ⟨rfl, ho3, u3⟩
    obtain ⟨hb3, n3, h3⟩ := nlose_put H1d.out rfl (by rw [List.length_eraseIdx]; simp) u3 ho3
    have q1 := hb3.cell (o := 1) rfl
    have q2 := hb3.frozen 1
    have q3 := hb3.lt
    have N3 := Lib.hid n3
    have H3 := Lib.hid h3
    clear ho3 u3 hb3 n3 h3
    go_wp2_with fail
    go_end0
    exact ⟨rfl, [p, g1], (N1.out.same ((Upd.refl [] _).drew)).trans N3.out, .slice (some ⟨g1, 0, none⟩) (us.length + 1 - 1) c1', (us ++ [Value.slice a n c]).eraseIdx 0, rfl, by rw [HCAME.out hov]; exact H3.out⟩
  · have t1 : decide ((m : Int) < (us.length : Int) + 1) = false := by simp; omega
    have t2 : decide (m < us.length + 1) = false := by simp; omega
    go_wp2_with fail
    go_region
    go_wp2_with fail
    go_end0
    exact ⟨rfl, [p, g1], N1.out.same ((Upd.refl [] _).drew), .slice (some ⟨g1, 0, none⟩) (us.length + 1) c1', us ++ [.slice a n c], rfl, by rw [HCAME2.out hov]; exact H1.out.same ((Upd.refl [] _).drew) (by simp) ownN_upd⟩

set_option maxRecDepth 20000 in
set_option maxHeartbeats 2000000 in
theorem nlose_yes (k : Nat) (h : PNet w p m L X Y) (hk : k < L.length) (hl : L.length ≤ 100000) :
    Calls Try.prog 25 #[.pointer (some ⟨p, 0, none⟩), .int .i64 (k : Int)] w fun e w' => e = .returned (.bool true) ∧ ∃ X', NetTo w X w' X' ∧ PNet w' p m (L.eraseIdx k) X' Y := by
  have HTH := Lib.hid h
  obtain ⟨v, us, rfl, h⟩ := h
  have hul := h.pks.len
  have ho0 : w.ownsRow 0 22 1 v us.length us := h.own
  obtain ⟨g, c, rfl, _, _⟩ := own_some ho0 (by omega)
  have c1 := h.blk.cell (o := 1) rfl
  have c2 := h.blk.lt
  have H := Lib.hid h
  have HO := Lib.hid ho0
  have HONE := Lib.hid h.pks.one
  have HKB : Hid (decide (0 ≤ (k : Int) ∧ (k : Int) < (L.length : Int)) = true) := Lib.hid (by simp; omega)
  have hku : k < us.length := by omega
  have hn2 : us.length ≤ 100000 := by omega
  clear h ho0 hul
  go_enter Try.func25, Try.ntmps25
  go_wp2_with fail
  refine (nthere_any HTH.out (k : Int) true HKB.out).mono ?_
  rintro e w1 ⟨rfl, u1⟩
  have H1 := Lib.hid (H.out.same u1 (by simp) ownN_upd)
  have HO1 := Lib.hid (u1.row HO.out (by simp))
  have c1 := H1.out.blk.cell (o := 1) rfl
  have c2 := H1.out.blk.lt
  have U1 := Lib.hid u1
  clear u1
  go_wp2_with fail
  refine (delete_any g c k us.length _ _ _ _ HO1.out HONE.out hku hn2 rfl rfl).mono ?_
  rintro e w3 ⟨rfl, ho3, u3⟩
  obtain ⟨hb3, n3, h3⟩ := nlose_put H1.out rfl (by rw [List.length_eraseIdx, if_pos hku]) u3 ho3
  have q1 := hb3.cell (o := 1) rfl
  have q2 := hb3.frozen 1
  have q3 := hb3.lt
  have N3 := Lib.hid n3
  have H3 := Lib.hid h3
  clear ho3 u3 hb3 n3 h3
  go_wp2_with fail
  refine bodyPost_ret (results_tmp rfl _ _ _) rfl ?_
  exact ⟨rfl, [p, g], ((NetTo.refl _ _).same U1.out).trans N3.out, .slice (some ⟨g, 0, none⟩) (us.length - 1) c, us.eraseIdx k, rfl, H3.out⟩
set_option maxRecDepth 20000 in
set_option maxHeartbeats 2000000 in
theorem nlose_no (k : Int) (h : PNet w p m L X Y) (hk : ¬ (0 ≤ k ∧ k < (L.length : Int))) :
    Calls Try.prog 25 #[.pointer (some ⟨p, 0, none⟩), .int .i64 k] w fun e w' => e = .returned (.bool false) ∧ Upd [] w w' := by
  have HTH := Lib.hid h
  have HKB : Hid (decide (0 ≤ k ∧ k < (L.length : Int)) = false) := Lib.hid (by simpa using hk)
  clear h hk
  go_enter Try.func25, Try.ntmps25
  go_wp2_with fail
  refine (nthere_any HTH.out k false HKB.out).mono ?_
  rintro e w1 ⟨rfl, u1⟩
  have U1 := Lib.hid u1
  clear u1
  go_wp2_with fail
  refine bodyPost_ret (results_tmp rfl _ _ _) rfl ?_
  exact ⟨rfl, U1.out⟩
set_option maxRecDepth 20000 in
set_option maxHeartbeats 2000000 in
theorem ncopy_yes (k : Nat) (x : Val) (h : PNet w p m L X Y) (hx : L[k]? = some x) (hm : 1 ≤ m) (hm2 : m ≤ 256) (hl : L.length ≤ m) :
    Calls Try.prog 39 #[.pointer (some ⟨p, 0, none⟩), .int .i64 (k : Int)] w fun e w' => e = .returned (.bool true) ∧ ∃ X', NetTo w X w' X' ∧ PNet w' p m (came m L x) X' Y := by
  have HTH := Lib.hid h
  obtain ⟨v, us, rfl, h⟩ := h
  have hkl := (List.getElem?_eq_some_iff.1 hx).1
  have hul := h.pks.len
  have ho0 : w.ownsRow 0 22 1 v us.length us := h.own
  obtain ⟨g, c, rfl, _, _⟩ := own_some ho0 (by omega)
  have hus : us[k]? = some (us[k]'(by omega)) := List.getElem?_eq_getElem (by omega)
  have hpk := h.pks.at_ k _ x hus hx
  have hcel := ho0.cellAt k (by omega)
  rw [hus] at hcel
  generalize us[k]'(by omega) = pk at *
  obtain ⟨hgx, pa, pc, rfl, hp1, hp2, hp3⟩ := hpk
  have HU := Lib.hid (show Upd [] w w from Upd.refl _ _)
  have H := Lib.hid h
  have HKB : Hid (decide (0 ≤ (k : Int) ∧ (k : Int) < (L.length : Int)) = true) := Lib.hid (by simp; omega)
  have hku : k < us.length := by omega
  have HCL := Lib.hid hcel
  have hgl := block_lt_of_cell hcel
  obtain ⟨pl, hpl⟩ : ∃ pl, pl = (sMsg.put x).length := ⟨_, rfl⟩
  rw [← hpl] at HCL
  have HPK : Hid (Pk w (fun b => b ∉ p :: (Value.slice (some ⟨g, 0, none⟩) us.length c).ownBlock.toList ∧ b ∉ Y) (.slice pa pl pc) x) := Lib.hid ⟨hgx, pa, pc, by rw [hpl], hp1, hp2, hp3⟩
  clear h ho0 hul hp1 hp2 hp3 hgx hpl hcel hus hkl hx
  go_enter Try.func39, Try.ntmps39
  go_wp2_with fail
  refine (nthere_any HTH.out (k : Int) true HKB.out).mono ?_
  rintro e w1 ⟨rfl, u1⟩
  have H1 := Lib.hid (H.out.same u1 (by simp) ownN_upd)
  have c1 := H1.out.blk.cell (o := 1) rfl
  have c2 := H1.out.blk.lt
  have c3 : w1.cell? ⟨g, k, none⟩ = some (.slice pa pl pc) := (u1.cell (a := ⟨g, k, none⟩) hgl (by simp)).trans HCL.out
  have HPK1 := Lib.hid (HPK.out.keep (fun b hb hl => ⟨hb, u1.block b hl (by simp)⟩) u1.size)
  have U1 := Lib.hid u1
  clear u1
  go_wp2_with fail
  refine (ncame_any (X := [p, g]) pa pl pc x ⟨_, _, rfl, H1.out⟩ HPK1.out hm hm2 hl).mono ?_
  rintro e w2 ⟨rfl, X2, n2, h2⟩
  have N2 := Lib.hid n2
  have H2 := Lib.hid h2
  clear n2 h2
  go_wp2_with fail
  refine bodyPost_ret (results_tmp rfl _ _ _) rfl ?_
  exact ⟨rfl, X2, ((NetTo.refl _ _).same U1.out).trans N2.out, H2.out⟩
set_option maxRecDepth 20000 in
set_option maxHeartbeats 2000000 in
theorem ncopy_no (k : Int) (h : PNet w p m L X Y) (hk : ¬ (0 ≤ k ∧ k < (L.length : Int))) :
    Calls Try.prog 39 #[.pointer (some ⟨p, 0, none⟩), .int .i64 k] w fun e w' => e = .returned (.bool false) ∧ Upd [] w w' := by
  have HTH := Lib.hid h
  have HKB : Hid (decide (0 ≤ k ∧ k < (L.length : Int)) = false) := Lib.hid (by simpa using hk)
  clear h hk
  go_enter Try.func39, Try.ntmps39
  go_wp2_with fail
  refine (nthere_any HTH.out k false HKB.out).mono ?_
  rintro e w1 ⟨rfl, u1⟩
  have U1 := Lib.hid u1
  clear u1
  go_wp2_with fail
  refine bodyPost_ret (results_tmp rfl _ _ _) rfl ?_
  exact ⟨rfl, U1.out⟩
end
end Go.Proofs.Ythecincpejpmpaa
/- Records that were read are their reader's own: what of them may be written. -/
namespace Go.Rc
open Go Go.RowKit Go.Lb
/-- A block of F that may be written. -/
def Mut (F : List Nat) (w : World) (b : Nat) : Prop := b ∈ F ∧ Soft w b
theorem Soft.set {w : World} {b : Nat} (h : Soft w b) (a : Addr) (v : Value) : Soft (w.setCell a v) b := by
  obtain ⟨c, t, h⟩ := h
  by_cases e : a.block = b
  · subst e
    refine ⟨if a.spot.isSome then c else c.setIfInBounds a.off v, t, ?_⟩
    simp [World.setCell, Array.getElem?_modify, h]
  · exact ⟨c, t, by rw [Below.heap_setCell _ _ _ _ (fun e2 => e e2.symm)]; exact h⟩
theorem cell_set {w : World} {a b : Addr} {u v : Value} (h : w.cell? a = some u) : ∃ u', (w.setCell b v).cell? a = some u' := by
  by_cases e : b.block = a.block
  · unfold World.cell? at h ⊢
    simp only [World.setCell, Array.getElem?_modify, e, if_true]
    cases hh : w.heap[a.block]? with
    | none => simp [hh] at h
    | some o =>
      cases o with
      | cells c t f =>
        simp only [hh, Option.map_some] at h ⊢
        split
        · rename_i hs; simp [hs] at h
        · rename_i hs
          rw [if_neg hs] at h
          split
          · exact ⟨u, h⟩
          · obtain ⟨hi, _⟩ := Array.getElem?_eq_some_iff.1 h
            exact ⟨_, Array.getElem?_eq_getElem (by simpa using hi)⟩
      | _ => simp [hh] at h
  · refine ⟨u, ?_⟩
    rw [← h]
    exact World.cell?_of_block (Below.heap_setCell _ _ _ _ (fun e2 => e e2.symm))
/-- n things of k cells each; the first cell of each may be written. -/
def Heads (F : List Nat) (w : World) (a : Option Addr) (k n : Nat) : Prop := ∀ i, i < n → ∃ b o v, a = some ⟨b, o, none⟩ ∧ b ∈ F ∧ Soft w b ∧ w.cell? ⟨b, o + i * k, none⟩ = some v
section
variable {F : List Nat} {w w' : World} {a : Option Addr} {k n : Nat}
theorem Heads.set (h : Heads F w a k n) (ad : Addr) (v : Value) : Heads F (w.setCell ad v) a k n := fun i hi => by
  obtain ⟨b, o, u, h1, h2, h3, h4⟩ := h i hi
  obtain ⟨u', h5⟩ := cell_set (b := ad) (v := v) h4
  exact ⟨b, o, u', h1, h2, h3.set ad v, h5⟩
theorem Heads.drew (h : Heads F w a k n) : Heads F w.drew a k n := h
theorem Heads.upd {G : List Nat} (h : Heads F w a k n) (u : Upd G w w') (hG : ∀ b ∈ F, b ∉ G) : Heads F w' a k n := fun i hi => by
  obtain ⟨b, o, v, h1, h2, h3, h4⟩ := h i hi
  have e := u.block b (block_lt_of_cell h4) (hG b h2)
  exact ⟨b, o, v, h1, h2, h3.keep e, by rw [World.cell?_of_block (a := ⟨b, o + i * k, none⟩) e]; exact h4⟩
theorem heads_of {s : Sch} {c : List Value} {v : Val} (h : (Sch.list s).Rep w (Mut F w) c v) (hs : 0 < s.size) : ∃ a n k, c = [.slice a n k] ∧ Heads F w a s.size n ∧ ((Sch.list s).good v → n ≤ 64) := by
  obtain ⟨a, k, l, rfl, rfl, h⟩ := h
  refine ⟨a, l.length, k, rfl, fun i hi => ?_, fun hg => hg.1⟩
  obtain ⟨b, o, us, h1, h2, h3, h4, h5⟩ := h i _ (List.getElem?_eq_getElem hi)
  have hl := h5.len
  exact ⟨b, o, us[0]'(by omega), h1, h2.1, h2.2, by have := h4 0 _ (List.getElem?_eq_getElem (by omega)); simpa using this⟩
theorem Bytes.set {l : List Nat} {b o i y : Nat} (h : Bytes w (Mut F w) a l) (ha : a = some ⟨b, o, none⟩) (hi : i < l.length) (hy : y < 256) : Bytes (w.setCell ⟨b, o + i, none⟩ (bv y)) (Mut F (w.setCell ⟨b, o + i, none⟩ (bv y))) a (l.set i y) := fun j x hx => by
  have hjl := (List.getElem?_eq_some_iff.1 hx).1
  rw [List.length_set] at hjl
  obtain ⟨h1, b', o', h2, h3, h4, h5⟩ := h j _ (List.getElem?_eq_getElem hjl)
  rw [ha] at h2
  cases h2
  by_cases e : j = i
  · subst e
    rw [List.getElem?_set_self hi] at hx
    cases hx
    refine ⟨hy, b, o, ha, ⟨h3.1, h3.2.set _ _⟩, by simpa using h4, ?_⟩
    have h6 : ∃ c t f, w.heap[b]? = some (.cells c t f) ∧ o + j < c.size := by
      unfold World.cell? at h5
      cases hh : w.heap[b]? with
      | none => simp [hh] at h5
      | some ob =>
        cases ob with
        | cells c t f => exact ⟨c, t, f, rfl, by simp [hh] at h5; exact (Array.getElem?_eq_some_iff.1 h5).1⟩
        | _ => simp [hh] at h5
    obtain ⟨c, t, f, h7, h8⟩ := h6
    simp [World.cell?, World.setCell, Array.getElem?_modify, h7, h8]
  · rw [List.getElem?_set_ne (fun e2 => e e2.symm)] at hx
    rw [List.getElem?_eq_getElem hjl] at hx
    cases hx
    refine ⟨h1, b, o, ha, ⟨h3.1, h3.2.set _ _⟩, by simpa using h4, ?_⟩
    exact (World.cell?_setCell_other _ _ _ _ (fun e2 => e (by simp at e2 <;> omega))).trans h5
end
theorem Bytes.heads {F : List Nat} {w : World} {a : Option Addr} {l : List Nat} (h : Bytes w (Mut F w) a l) : Heads F w a 1 l.length := fun i hi => by
  obtain ⟨_, b, o, h2, h3, h4, h5⟩ := h i _ (List.getElem?_eq_getElem hi)
  exact ⟨b, o, _, h2, h3.1, h3.2, by rw [Nat.mul_one]; exact h5⟩
/-- The blocks that came from n on. -/
def since (n m : Nat) : List Nat := List.range' n (m - n)
theorem mem_since {n m k : Nat} : k ∈ since n m ↔ n ≤ k ∧ k < m := by
  unfold since
  rw [List.mem_range'_1]; omega
theorem Sch.Rep.mut {w : World} {n : Nat} {s : Sch} {cs : List Value} {v : Val} (h : s.Rep w (Nw n w) cs v) : s.Rep w (Mut (since n w.heap.size) w) cs v :=
  h.mono (fun b hb hl => ⟨mem_since.2 ⟨hb.1, hl⟩, hb.2⟩)
theorem Sch.Rep.updM {F G : List Nat} {w w' : World} {s : Sch} {cs : List Value} {v : Val} (h : s.Rep w (Mut F w) cs v) (u : Upd G w w') (hG : ∀ b ∈ F, b ∉ G) : s.Rep w' (Mut F w') cs v :=
  h.keep (fun b hb hl => ⟨⟨hb.1, hb.2.keep (u.block b hl (hG b hb.1))⟩, u.block b hl (hG b hb.1)⟩) u.size
/-- What a message points to. -/
theorem msg_fields {F : List Nat} {w : World} {cs : List Value} {x : Val} (h : sMsg.Rep w (Mut F w) cs x) (hg : sMsg.good x) :
    ∃ aE nE cE aV nV cV aD lD cD aA nA cA, cs[12]? = some (.slice aE nE cE) ∧ cs[13]? = some (.slice aV nV cV) ∧ cs[15]? = some (.slice aD (List.length lD) cD) ∧ cs[45]? = some (.slice aA nA cA) ∧
      Heads F w aE sEntry.size nE ∧ Heads F w aV 1 nV ∧ Bytes w (Mut F w) aD lD ∧ Heads F w aA sAlloc.size nA ∧ nE ≤ 64 ∧ nV ≤ 64 ∧ lD.length ≤ 65536 ∧ nA ≤ 64 := by
  have k0 : (tup [.num, .num, .num, .num, .num, .num, .num, .flag, .num, .num, .num, .num, .list sEntry, sConf, .raw, sCmd, sResult]).Rep w (Mut F w) cs x := h
  obtain ⟨_, _, _, _, rfl, rfl, ⟨_, rfl, rfl⟩, k0_1⟩ := Sch.Rep.tup_cons k0
  obtain ⟨_, _, _, _, rfl, rfl, ⟨_, rfl, rfl⟩, k0_2⟩ := Sch.Rep.tup_cons k0_1
  obtain ⟨_, _, _, _, rfl, rfl, ⟨_, rfl, rfl⟩, k0_3⟩ := Sch.Rep.tup_cons k0_2
  obtain ⟨_, _, _, _, rfl, rfl, ⟨_, rfl, rfl⟩, k0_4⟩ := Sch.Rep.tup_cons k0_3
  obtain ⟨_, _, _, _, rfl, rfl, ⟨_, rfl, rfl⟩, k0_5⟩ := Sch.Rep.tup_cons k0_4
  obtain ⟨_, _, _, _, rfl, rfl, ⟨_, rfl, rfl⟩, k0_6⟩ := Sch.Rep.tup_cons k0_5
  obtain ⟨_, _, _, _, rfl, rfl, ⟨_, rfl, rfl⟩, k0_7⟩ := Sch.Rep.tup_cons k0_6
  obtain ⟨_, _, _, _, rfl, rfl, ⟨_, rfl, rfl⟩, k0_8⟩ := Sch.Rep.tup_cons k0_7
  obtain ⟨_, _, _, _, rfl, rfl, ⟨_, rfl, rfl⟩, k0_9⟩ := Sch.Rep.tup_cons k0_8
  obtain ⟨_, _, _, _, rfl, rfl, ⟨_, rfl, rfl⟩, k0_10⟩ := Sch.Rep.tup_cons k0_9
  obtain ⟨_, _, _, _, rfl, rfl, ⟨_, rfl, rfl⟩, k0_11⟩ := Sch.Rep.tup_cons k0_10
  obtain ⟨_, _, _, _, rfl, rfl, ⟨_, rfl, rfl⟩, k0_12⟩ := Sch.Rep.tup_cons k0_11
  obtain ⟨_, _, _, _, rfl, rfl, kE, k0_13⟩ := Sch.Rep.tup_cons k0_12
  obtain ⟨aE, nE, cE, rfl, hE, gE⟩ := heads_of kE (by decide)
  obtain ⟨_, _, _, _, rfl, rfl, kC, k0_14⟩ := Sch.Rep.tup_cons k0_13
  change (tup [.list .num, .list .num]).Rep w (Mut F w) _ _ at kC
  obtain ⟨_, _, _, _, rfl, rfl, kV, kC_1⟩ := Sch.Rep.tup_cons kC
  obtain ⟨aV, nV, cV, rfl, hV, gV⟩ := heads_of kV (by decide)
  obtain ⟨_, _, _, _, rfl, rfl, kL, kC_2⟩ := Sch.Rep.tup_cons kC_1
  obtain ⟨aL, nL, cL, rfl, _, _⟩ := heads_of kL (by decide)
  obtain ⟨rfl, _⟩ := Sch.Rep.tup_nil kC_2
  obtain ⟨_, _, _, _, rfl, rfl, ⟨aD, cD, lD, rfl, rfl, hD⟩, k0_15⟩ := Sch.Rep.tup_cons k0_14
  obtain ⟨cC, _, _, _, rfl, rfl, kK, k0_16⟩ := Sch.Rep.tup_cons k0_15
  have hk : cC.length = 27 := kK.len
  obtain ⟨_, _, _, _, rfl, rfl, kR, k0_17⟩ := Sch.Rep.tup_cons k0_16
  obtain ⟨rfl, _⟩ := Sch.Rep.tup_nil k0_17
  change (tup [.num, .num, .list sAlloc]).Rep w (Mut F w) _ _ at kR
  obtain ⟨_, _, _, _, rfl, rfl, ⟨_, rfl, rfl⟩, kR_1⟩ := Sch.Rep.tup_cons kR
  obtain ⟨_, _, _, _, rfl, rfl, ⟨_, rfl, rfl⟩, kR_2⟩ := Sch.Rep.tup_cons kR_1
  obtain ⟨_, _, _, _, rfl, rfl, kA, kR_3⟩ := Sch.Rep.tup_cons kR_2
  obtain ⟨aA, nA, cA, rfl, hA, gA⟩ := heads_of kA (by decide)
  obtain ⟨rfl, _⟩ := Sch.Rep.tup_nil kR_3
  refine ⟨aE, nE, cE, aV, nV, cV, aD, lD, cD, aA, nA, cA, rfl, rfl, rfl, ?_, hE, hV, hD, hA, gE hg.2.2.2.2.2.2.2.2.2.2.2.2.1, gV hg.2.2.2.2.2.2.2.2.2.2.2.2.2.1.1, hg.2.2.2.2.2.2.2.2.2.2.2.2.2.2.1.1, gA hg.2.2.2.2.2.2.2.2.2.2.2.2.2.2.2.2.1.2.2.1⟩
  simp [List.getElem?_append, hk]
end Go.Rc
/- codec's form.entry, writing. -/
namespace Go.Proofs.Ythecincpejpmpaa
open Go.RowKit Go.Lb Go.Rc

set_option maxRecDepth 20000 in
set_option maxHeartbeats 2000000 in
theorem entry_writes : Writes 67 sEntry := by
  intro B X f p q tp pre cs post v o b w h hX hq hp hr hl
  have k0 : (tup [.num, .num, sCmd]).Rep w (· < B) cs v := hr
  obtain ⟨_, _, v0, y0, _, rfl, ⟨n0, _, rfl⟩, k1⟩ := Sch.Rep.tup_cons k0
  obtain ⟨_, _, v1, y1, _, rfl, ⟨n1, _, rfl⟩, k2⟩ := Sch.Rep.tup_cons k1
  obtain ⟨_, _, v2, y2, _, rfl, _, k3⟩ := Sch.Rep.tup_cons k2
  obtain ⟨_, rfl⟩ := Sch.Rep.tup_nil k3
  subst hq
  have H0 := Lib.hid (WrSt.start (rest := ([(.num, .num n0), (.num, .num n1), (sCmd, v2)] : List (Sch × Val))) h hX hp hr (by have := tup_cmax ([(.num, .num n0), (.num, .num n1), (sCmd, v2)] : List (Sch × Val)); rw [← this]; exact hl))
  clear h hX hp hr hl k0 k1 k2 k3
  go_enter Try.func67, Try.ntmps67
  go_wp2_with fail
  refine wp_region_lex (fun _ => True) 99 [(0, true), (1, true), (2, true), (3, true), (4, true), (5, true), (6, true), (7, false), (8, false)] (by kernel_rfl) (by kernel_rfl) (by kernel_rfl) (by kernel_rfl) (fun _ _ d _ _ h => by cases d <;> exact h) ?_
  simp only [lexOps, List.map_cons, List.map_nil, List.getD_cons_zero, List.getD_cons_succ]
  iterate 7 (refine lex_read rfl trivial (v := ?_) (fun w' _ => ?_) ?_; rotate_left; (focus (go_simp; try with_reducible rfl)); simp only [Act.put, List.setIfInBounds_toArray, List.set_cons_zero, List.set_cons_succ])
  refine lex_do rfl (fun K hK => ?_)
  go_simp
  refine hK _ _ (fun _ => trivial) ?_
  clear hK K
  refine lex_do rfl (fun K hK => ?_)
  go_simp
  refine (CWr.goNums (ns := [n0, n1]) (rest := [(sCmd, v2)]) (k := 2) H0.out rfl ((Upd.refl _ _).alloc _).drew (Nat.le_refl _) (Blk.drew (Blk.new _ _ [_, _])) rfl).mono ?_
  rintro e w1 ⟨rfl, o1, b1, h⟩
  have H1 := Lib.hid h
  refine hK _ _ (fun _ => trivial) ?_
  clear hK K h
  refine lex_nil ?_
  go_wp2_with fail
  refine (CWr.go cmd_writes H1.out rfl).mono ?_
  rintro e w2 ⟨rfl, o2, b2, h⟩
  have H2 := Lib.hid h
  clear h
  go_wp2_with fail
  go_end0
  exact CWr.fin H2.out rfl rfl
end Go.Proofs.Ythecincpejpmpaa
/- codec's list[Entry], writing. -/
namespace Go.Proofs.Ythecincpejpmpaa
open Go.RowKit Go.Lb Go.Rc

set_option maxRecDepth 20000 in
set_option maxHeartbeats 2000000 in
theorem listEntry_writes : LWrites 66 67 sEntry := by
  intro B X f p q tp pre cs post v o b w h hX hq hp hr hl
  obtain ⟨a, c, l, rfl, rfl, hall⟩ := hr
  have HA : Hid (Elems w (· < B) sEntry 29 a l) := Lib.hid hall
  subst hq
  have H := Lib.hid h
  have HL := Lib.hid hl
  have HX := Lib.hid hX
  have HP := Lib.hid hp
  have hl1 : o.length + 6 ≤ 225000000000000 := by simp only [Sch.cmax] at hl; omega
  have c0 := hp.cell (o := pre.length) mid_at
  have hB := h.base
  clear h hX hall hl hp
  go_enter Try.func66, Try.ntmps66
  go_wp2_with fail
  refine (many_w B X f l.length 64 o b _ H.out hl1 (by decide)).mono ?_
  rintro e w1 ⟨r, o1, b1, rfl, h1, h2, h3⟩
  obtain ⟨m2, m3, m4, m5⟩ := fw_mark h1
  have p0 := (h2.blk HP.out (.inr HX.out)).cell (o := pre.length) mid_at
  have H1 := Lib.hid h1
  have H2 := Lib.hid h2
  have H3 : Hid (LCk sEntry l.length [] o b o1 b1) := Lib.hid (LCk.start h3)
  clear h1 h2 h3
  go_wp2_with fail
  go_loopg [7, 8, 25] l.length (fun g u v t wr => ∃ (i : Nat) (o' : List Nat) (b' : Bool), t = .int .i64 i ∧ l.length - i = g ∧ i ≤ l.length ∧ Fw B X wr f o' b' ∧ Kp B X w wr ∧ LCk sEntry l.length (l.take i) o b o' b')
  case atStart => exact ⟨0, o1, b1, rfl, rfl, by omega, H1.out, H2.out, H3.out⟩
  case round =>
    obtain ⟨i, o', b', rfl, hg, hi, hF, hK, hW⟩ := hrel
    have HG := Lib.hid hg
    have HF := Lib.hid hF
    have HK := Lib.hid hK
    have HW := Lib.hid hW
    obtain ⟨n2, n3, n4, n5⟩ := fw_mark hF
    have r0 := (hK.blk HP.out (.inr HX.out)).cell (o := pre.length) mid_at
    clear hg hF hK hW m2 m3 m4 m5 p0
    by_cases hlt : i < l.length
    · have t1 : decide (i < l.length) = true := by simpa using hlt
      cases b' with
      | true =>
        have HE := Lib.hid HW.out.early
        go_wp2_with fail
        go_end0
        exact ⟨rfl, o', true, HF.out, HK.out, HE.out⟩
      | false =>
      obtain ⟨x, hx⟩ : ∃ x, l[i]? = some x := ⟨_, List.getElem?_eq_getElem hlt⟩
      obtain ⟨b0, o0, us, rfl, hb0, hbl, hrg, hrep⟩ := HA.out i x hx
      have hrep := hrep.keep (ok' := (· < B)) (fun k hk hl => ⟨hk, HK.out.block k hl (.inl hk)⟩) HK.out.size
      have hrg : wr.rangeAt b0 (o0 + i * 29) us := rangeAt_keep hrg (HK.out.block b0 hbl (.inl hb0))
      have h64 : l.length ≤ 64 := HW.out.short
      have hwl := HW.out.room h64 hx HL.out
      have HWL := Lib.hid hwl
      have Hx := Lib.hid hx
      have hus : us.length = 29 := hrep.len
      have HONE : Hid (∀ u ∈ us, u.oneCell' = true) := Lib.hid hrep.one
      clear hx hwl
      have HREP := Lib.hid hrep
      have HRG := Lib.hid hrg
      clear hrep hrg
      go_wp2_with (first | (refine wpList_load_mid rfl 142 (.tmp 36) rfl b0 (o0 + i * 29) rfl us _ HRG.out Try.underlying142 rfl (by rw [hus]; exact Try.size142) ?_) | (refine wpList_alloc_blk rfl 142 rfl sEntry.zc (zero142 _) ?_; intro wA hbA huA) | (refine wpList_store_blk (o := ⟨none, .store 142 (.tmp 8) (.tmp 37), _, _, _, _⟩) rfl 142 (.tmp 8) (.tmp 37) rfl wr.heap.size us rfl rfl hbA (by rw [hus]; exact Try.size142) (by rw [hus]; rfl) HONE.out ?_; intro wB hb huB))
      have hu : Upd [] wr wB := huA.trans huB (by simp)
      clear huA hbA huB
      refine (entry_writes B (wr.heap.size :: X) f wr.heap.size 0 142 [] us [] x o' false wB (HF.out.new hu (Nat.le_refl _) hb.lt) (by simp) rfl (by simpa using hb) (HREP.out.upd hu (by simp)) HWL.out).mono ?_
      rintro e w2 ⟨rfl, o2, b2, h1, h2, h3⟩
      have H1 := Lib.hid h1.less
      have H2 := Lib.hid ((Kp.of_nil hu).trans h2.drop)
      have H3 := Lib.hid (HW.out.snoc h64 h3)
      clear h1 h2 h3
      go_wp2_with fail
      go_roundg (l.length - (i + 1))
      case measure => have := HG.out; omega
      case rel => exact ⟨i + 1, o2, b2, by go_num, rfl, by omega, H1.out, HK.out.trans H2.out, by rw [take_snoc Hx.out]; exact H3.out⟩
    · obtain rfl : i = l.length := by omega
      go_wp2_with fail
      go_end0
      refine ⟨rfl, o', b', HF.out, HK.out, LCk.fin ?_⟩
      have := HW.out
      rwa [List.take_length] at this
end Go.Proofs.Ythecincpejpmpaa
/- codec's form.result, writing. -/
namespace Go.Proofs.Ythecincpejpmpaa
open Go.RowKit Go.Lb Go.Rc

set_option maxRecDepth 20000 in
set_option maxHeartbeats 2000000 in
theorem result_writes : Writes 69 sResult := by
  intro B X f p q tp pre cs post v o b w h hX hq hp hr hl
  have k0 : (tup [.num, .num, .list sAlloc]).Rep w (· < B) cs v := hr
  obtain ⟨_, _, v0, y0, _, rfl, ⟨n0, _, rfl⟩, k1⟩ := Sch.Rep.tup_cons k0
  obtain ⟨_, _, v1, y1, _, rfl, ⟨n1, _, rfl⟩, k2⟩ := Sch.Rep.tup_cons k1
  obtain ⟨_, _, v2, y2, _, rfl, _, k3⟩ := Sch.Rep.tup_cons k2
  obtain ⟨_, rfl⟩ := Sch.Rep.tup_nil k3
  subst hq
  have H0 := Lib.hid (WrSt.start (rest := ([(.num, .num n0), (.num, .num n1), (.list sAlloc, v2)] : List (Sch × Val))) h hX hp hr (by have := tup_cmax ([(.num, .num n0), (.num, .num n1), (.list sAlloc, v2)] : List (Sch × Val)); rw [← this]; exact hl))
  clear h hX hp hr hl k0 k1 k2 k3
  go_enter Try.func69, Try.ntmps69
  go_wp2_with fail
  refine (CWr.go code_writes H0.out rfl).mono ?_
  rintro e w1 ⟨rfl, o1, b1, h⟩
  have H1 := Lib.hid h
  clear h
  go_wp2_with fail
  refine (CWr.go num_writes H1.out rfl).mono ?_
  rintro e w2 ⟨rfl, o2, b2, h⟩
  have H2 := Lib.hid h
  clear h
  go_wp2_with fail
  refine (CWr.goList listAlloc_writes H2.out rfl).mono ?_
  rintro e w3 ⟨rfl, o3, b3, h⟩
  have H3 := Lib.hid h
  clear h
  go_wp2_with fail
  go_end0
  exact CWr.fin H3.out rfl rfl
end Go.Proofs.Ythecincpejpmpaa
/- codec's form.msg, writing. -/
namespace Go.Proofs.Ythecincpejpmpaa
open Go.RowKit Go.Lb Go.Rc

set_option maxRecDepth 20000 in
set_option maxHeartbeats 2000000 in
theorem msg_writes : Writes 46 sMsg := by
  intro B X f p q tp pre cs post v o b w h hX hq hp hr hl
  have k0 : (tup [.num, .num, .num, .num, .num, .num, .num, .flag, .num, .num, .num, .num, .list sEntry, sConf, .raw, sCmd, sResult]).Rep w (· < B) cs v := hr
  obtain ⟨_, _, v0, y0, _, rfl, ⟨n0, _, rfl⟩, k1⟩ := Sch.Rep.tup_cons k0
  obtain ⟨_, _, v1, y1, _, rfl, ⟨n1, _, rfl⟩, k2⟩ := Sch.Rep.tup_cons k1
  obtain ⟨_, _, v2, y2, _, rfl, ⟨n2, _, rfl⟩, k3⟩ := Sch.Rep.tup_cons k2
  obtain ⟨_, _, v3, y3, _, rfl, ⟨n3, _, rfl⟩, k4⟩ := Sch.Rep.tup_cons k3
  obtain ⟨_, _, v4, y4, _, rfl, ⟨n4, _, rfl⟩, k5⟩ := Sch.Rep.tup_cons k4
  obtain ⟨_, _, v5, y5, _, rfl, ⟨n5, _, rfl⟩, k6⟩ := Sch.Rep.tup_cons k5
  obtain ⟨_, _, v6, y6, _, rfl, ⟨n6, _, rfl⟩, k7⟩ := Sch.Rep.tup_cons k6
  obtain ⟨_, _, v7, y7, _, rfl, _, k8⟩ := Sch.Rep.tup_cons k7
  obtain ⟨_, _, v8, y8, _, rfl, ⟨n8, _, rfl⟩, k9⟩ := Sch.Rep.tup_cons k8
  obtain ⟨_, _, v9, y9, _, rfl, ⟨n9, _, rfl⟩, k10⟩ := Sch.Rep.tup_cons k9
  obtain ⟨_, _, v10, y10, _, rfl, ⟨n10, _, rfl⟩, k11⟩ := Sch.Rep.tup_cons k10
  obtain ⟨_, _, v11, y11, _, rfl, ⟨n11, _, rfl⟩, k12⟩ := Sch.Rep.tup_cons k11
  obtain ⟨_, _, v12, y12, _, rfl, _, k13⟩ := Sch.Rep.tup_cons k12
  obtain ⟨_, _, v13, y13, _, rfl, _, k14⟩ := Sch.Rep.tup_cons k13
  obtain ⟨_, _, v14, y14, _, rfl, _, k15⟩ := Sch.Rep.tup_cons k14
  obtain ⟨_, _, v15, y15, _, rfl, _, k16⟩ := Sch.Rep.tup_cons k15
  obtain ⟨_, _, v16, y16, _, rfl, _, k17⟩ := Sch.Rep.tup_cons k16
  obtain ⟨_, rfl⟩ := Sch.Rep.tup_nil k17
  subst hq
  have H0 := Lib.hid (WrSt.start (rest := ([(.num, .num n0), (.num, .num n1), (.num, .num n2), (.num, .num n3), (.num, .num n4), (.num, .num n5), (.num, .num n6), (.flag, v7), (.num, .num n8), (.num, .num n9), (.num, .num n10), (.num, .num n11), (.list sEntry, v12), (sConf, v13), (.raw, v14), (sCmd, v15), (sResult, v16)] : List (Sch × Val))) h hX hp hr (by have := tup_cmax ([(.num, .num n0), (.num, .num n1), (.num, .num n2), (.num, .num n3), (.num, .num n4), (.num, .num n5), (.num, .num n6), (.flag, v7), (.num, .num n8), (.num, .num n9), (.num, .num n10), (.num, .num n11), (.list sEntry, v12), (sConf, v13), (.raw, v14), (sCmd, v15), (sResult, v16)] : List (Sch × Val)); rw [← this]; exact hl))
  clear h hX hp hr hl k0 k1 k2 k3 k4 k5 k6 k7 k8 k9 k10 k11 k12 k13 k14 k15 k16 k17
  go_enter Try.func46, Try.ntmps46
  go_wp2_with fail
  refine wp_region_lex (fun _ => True) 99 [(0, true), (1, true), (2, true), (3, true), (4, true), (5, true), (6, true), (7, true), (8, true), (9, true), (10, true), (11, true), (12, true), (13, true), (14, true), (15, true), (16, true), (17, true), (18, true), (19, true), (20, true), (21, true), (22, false), (23, false)] (by kernel_rfl) (by kernel_rfl) (by kernel_rfl) (by kernel_rfl) (fun _ _ d _ _ h => by cases d <;> exact h) ?_
  simp only [lexOps, List.map_cons, List.map_nil, List.getD_cons_zero, List.getD_cons_succ]
  iterate 22 (refine lex_read rfl trivial (v := ?_) (fun w' _ => ?_) ?_; rotate_left; (focus (go_simp; try with_reducible rfl)); simp only [Act.put, List.setIfInBounds_toArray, List.set_cons_zero, List.set_cons_succ])
  refine lex_do rfl (fun K hK => ?_)
  go_simp
  refine hK _ _ (fun _ => trivial) ?_
  clear hK K
  refine lex_do rfl (fun K hK => ?_)
  go_simp
  refine (CWr.goNums (ns := [n0, n1, n2, n3, n4, n5, n6]) (rest := [(.flag, v7), (.num, .num n8), (.num, .num n9), (.num, .num n10), (.num, .num n11), (.list sEntry, v12), (sConf, v13), (.raw, v14), (sCmd, v15), (sResult, v16)]) (k := 7) H0.out rfl ((Upd.refl _ _).alloc _).drew (Nat.le_refl _) (Blk.drew (Blk.new _ _ [_, _, _, _, _, _, _])) rfl).mono ?_
  rintro e w1 ⟨rfl, o1, b1, h⟩
  have H1 := Lib.hid h
  refine hK _ _ (fun _ => trivial) ?_
  clear hK K h
  refine lex_nil ?_
  go_wp2_with fail
  refine (CWr.go flag_writes H1.out rfl).mono ?_
  rintro e w2 ⟨rfl, o2, b2, h⟩
  have H2 := Lib.hid h
  clear h
  go_wp2_with fail
  refine wp_region_lex (fun _ => True) 99 [(0, true), (1, true), (2, true), (3, true), (4, true), (5, true), (6, true), (7, true), (8, true), (9, true), (10, true), (11, true), (12, true), (13, false), (14, false)] (by kernel_rfl) (by kernel_rfl) (by kernel_rfl) (by kernel_rfl) (fun _ _ d _ _ h => by cases d <;> exact h) ?_
  simp only [lexOps, List.map_cons, List.map_nil, List.getD_cons_zero, List.getD_cons_succ]
  iterate 13 (refine lex_read rfl trivial (v := ?_) (fun w' _ => ?_) ?_; rotate_left; (focus (go_simp; try with_reducible rfl)); simp only [Act.put, List.setIfInBounds_toArray, List.set_cons_zero, List.set_cons_succ])
  refine lex_do rfl (fun K hK => ?_)
  go_simp
  refine hK _ _ (fun _ => trivial) ?_
  clear hK K
  refine lex_do rfl (fun K hK => ?_)
  go_simp
  refine (CWr.goNums (ns := [n8, n9, n10, n11]) (rest := [(.list sEntry, v12), (sConf, v13), (.raw, v14), (sCmd, v15), (sResult, v16)]) (k := 4) H2.out rfl ((Upd.refl _ _).alloc _).drew (Nat.le_refl _) (Blk.drew (Blk.new _ _ [_, _, _, _])) rfl).mono ?_
  rintro e w3 ⟨rfl, o3, b3, h⟩
  have H3 := Lib.hid h
  refine hK _ _ (fun _ => trivial) ?_
  clear hK K h
  refine lex_nil ?_
  go_wp2_with fail
  refine (CWr.goList listEntry_writes H3.out rfl).mono ?_
  rintro e w4 ⟨rfl, o4, b4, h⟩
  have H4 := Lib.hid h
  clear h
  go_wp2_with fail
  refine (CWr.go conf_writes H4.out rfl).mono ?_
  rintro e w5 ⟨rfl, o5, b5, h⟩
  have H5 := Lib.hid h
  clear h
  go_wp2_with fail
  refine (CWr.go raw_writes H5.out rfl).mono ?_
  rintro e w6 ⟨rfl, o6, b6, h⟩
  have H6 := Lib.hid h
  clear h
  go_wp2_with fail
  refine (CWr.go cmd_writes H6.out rfl).mono ?_
  rintro e w7 ⟨rfl, o7, b7, h⟩
  have H7 := Lib.hid h
  clear h
  go_wp2_with fail
  refine (CWr.go result_writes H7.out rfl).mono ?_
  rintro e w8 ⟨rfl, o8, b8, h⟩
  have H8 := Lib.hid h
  clear h
  go_wp2_with fail
  go_end0
  exact CWr.fin H8.out rfl rfl
end Go.Proofs.Ythecincpejpmpaa
/- codec's put[Msg] and PutMsg. -/
namespace Go.Proofs.Ythecincpejpmpaa
open Go.RowKit Go.Lb Go.Rc

set_option maxRecDepth 20000 in
set_option maxHeartbeats 2000000 in
theorem putMsg_any (cs : List Value) (v : Val) (w : World) (hr : Sch.Rep w (· < w.heap.size) sMsg cs v) (hl : sMsg.cmax v ≤ 225000000000000) :
    Calls Try.prog 63 #[.agg cs.toArray, .func (.func 46) #[] #[]] w (PutIs sMsg v w) := by
  have hlen : cs.length = 46 := hr.len
  have HR := Lib.hid hr
  have HL := Lib.hid hl
  clear hr hl
  go_enter Try.func63, Try.ntmps63
  go_wp2_with fail
  have uW : Upd [] w ((w.alloc (.cells cs.toArray 58)).alloc (.cells #[.slice none 0 0, .bool false, .bool false] 113)) := ((Upd.refl _ _).alloc _).alloc _
  refine (msg_writes w.heap.size [w.heap.size] (w.heap.size + 1) w.heap.size 0 58 [] cs [] v [] false _ (fresh_out (mk := cW) rfl) (by simp) rfl (by simpa using (Blk.new w 58 cs).alloc _) (HR.out.upd uW (by simp)) (by simpa using HL.out)).mono ?_
  rintro e w1 ⟨rfl, o, b, h1, h2, h3⟩
  obtain ⟨m2, m3, m4, m5⟩ := fw_mark h1
  cases b with
  | true =>
    have HF := Lib.hid (putIs_bad h2 uW h3)
    clear h1 h2 h3 uW
    go_wp2_with fail
    go_ret2
    exact HF.out
  | false =>
    obtain ⟨a, c, e0, hF⟩ := putIs_good h1 h2 uW h3
    have e1 : w1.cell? ⟨w.heap.size + 1, 0, none⟩ = some (.slice a (sMsg.put v).length c) := e0
    have HF := Lib.hid hF
    clear h1 h2 h3 uW e0 hF
    go_wp2_with fail
    go_ret2
    exact HF.out

set_option maxRecDepth 20000 in
set_option maxHeartbeats 2000000 in
theorem putMsg_puts : PutsC 40 sMsg := by
  intro cs v w hr hl
  have hlen : cs.length = 46 := hr.len
  have uW : Upd [] w (w.alloc (.cells cs.toArray 58)) := (Upd.refl _ _).alloc _
  have HR := Lib.hid hr
  have HL := Lib.hid hl
  have hb := Blk.new w 58 cs
  have HB := Lib.hid hb
  clear hr hl hb
  go_enter Try.func40, Try.ntmps40
  go_wp2_with (refine wpList_load_blk rfl 58 (.tmp 1) rfl w.heap.size rfl HB.out Try.underlying58 rfl (by rw [hlen]; exact Try.size58) ?_)
  refine (putMsg_any cs v _ ((HR.out.upd uW (by simp)).mono (fun b hb hl => hl)) HL.out).mono ?_
  rintro e w1 ⟨u1, ⟨hg, a, c, rfl, hown⟩ | ⟨hg, rfl⟩⟩
  · have HF : Hid (PutIs sMsg v w (.returned (.tuple #[.slice a (sMsg.put v).length c, .int .i64 0])) w1) := Lib.hid ⟨uW.trans u1 (by simp), .inl ⟨hg, a, c, rfl, own_rebase hown (fun k hk => by have := own_lo hown hk; have := uW.size; omega)⟩⟩
    clear u1 hg hown uW
    go_wp2_with fail
    go_ret2
    exact HF.out
  · have HF : Hid (PutIs sMsg v w (.returned (.tuple #[.slice none 0 0, .int .i64 1])) w1) := Lib.hid ⟨uW.trans u1 (by simp), .inr ⟨hg, rfl⟩⟩
    clear u1 hg uW
    go_wp2_with fail
    go_ret2
    exact HF.out
end Go.Proofs.Ythecincpejpmpaa
/- net.Net: Send, Deliver. -/
namespace Go.Proofs.Ythecincpejpmpaa
open Go.RowKit Go.Lb Go.Rc
section
variable {p m : Nat} {L : List Val} {X Y : List Nat} {w : World}
set_option maxRecDepth 20000 in
set_option maxHeartbeats 4000000 in
theorem nsend_any (cs : List Value) (x : Val) (g : Bool) (h : PNet w p m L X Y) (hr : sMsg.Rep w (· < w.heap.size) cs x) (hwm : sMsg.cmax x ≤ 225000000000000) (hg : g = true ↔ sMsg.good x) (hm : 1 ≤ m) (hm2 : m ≤ 256) (hl : L.length ≤ m) :
    Calls Try.prog 21 #[.pointer (some ⟨p, 0, none⟩), .agg cs.toArray] w fun e w' => e = .returned (.int .i64 (errOf g)) ∧ ∃ X', NetTo w X w' X' ∧ PNet w' p m (bif g then came m L x else L) X' Y := by
  have hlen : cs.length = 46 := hr.len
  have uW : Upd [] w (w.alloc (.cells cs.toArray 58)) := (Upd.refl _ _).alloc _
  have HB := Lib.hid (Blk.new w 58 cs)
  have HR := Lib.hid (rep_all hr uW)
  have H := Lib.hid (h.same uW (by simp) ownN_upd)
  have HLT := Lib.hid h.lt
  have UW := Lib.hid uW
  have HG := Lib.hid hg
  obtain ⟨pb, hpb⟩ : ∃ pb, pb = bytesOf g sMsg x := ⟨_, rfl⟩
  have HPB := Lib.hid hpb
  clear h hr uW hg hpb
  go_enter Try.func21, Try.ntmps21
  go_wp2_with (refine wpList_load_blk rfl 58 (.tmp 3) rfl w.heap.size rfl HB.out Try.underlying58 rfl (by rw [hlen]; exact Try.size58) ?_)
  refine (puts_c putMsg_puts HR.out hwm HG.out HPB.out).mono ?_
  rintro e w1 ⟨a1, c1, rfl, uu, b, hc⟩
  have U1 := Lib.hid (UW.out.trans uu (by simp))
  have H1 := Lib.hid (H.out.same uu (by simp) ownN_upd)
  cases g with
  | true =>
    have HPK : Hid (Pk w1 (fun b => b ∉ X ∧ b ∉ Y) (.slice a1 pb.length c1) x) := Lib.hid ⟨HG.out.1 rfl, a1, c1, by rw [HPB.out]; rfl, by have := hc.1; rw [HPB.out] at this; exact this, hc.2, by
      have hb2 := b
      rw [HPB.out] at hb2
      exact hb2.keep (fun k hk hl => ⟨⟨fun hx => by have := HLT.out.1 k hx; simp at hk; omega, fun hx => by have := HLT.out.2.1 k hx; simp at hk; omega⟩, rfl⟩) (Nat.le_refl _)⟩
    have et : errOf true = 0 := rfl
    rw [et]
    clear uu b hc et
    go_wp2_with fail
    refine (ncame_any (X := X) a1 pb.length c1 x H1.out HPK.out hm hm2 hl).mono ?_
    rintro e w2 ⟨rfl, X2, n2, h2⟩
    have N2 := Lib.hid n2
    have H2 := Lib.hid h2
    clear n2 h2
    go_wp2_with fail
    refine bodyPost_ret (results_tmp rfl _ _ _) rfl ?_
    exact ⟨rfl, X2, ((NetTo.refl _ _).same U1.out).trans N2.out, H2.out⟩
  | false =>
    have et : errOf false = 1 := rfl
    rw [et]
    clear uu b hc et
    go_wp2_with fail
    refine bodyPost_ret (results_tmp rfl _ _ _) rfl ?_
    exact ⟨rfl, X, (NetTo.refl _ _).same U1.out, H1.out⟩

set_option maxRecDepth 20000 in
set_option maxHeartbeats 4000000 in
theorem ndeliver_no (k : Int) (h : PNet w p m L X Y) (hk : ¬ (0 ≤ k ∧ k < (L.length : Int))) :
    Calls Try.prog 23 #[.pointer (some ⟨p, 0, none⟩), .int .i64 k] w fun e w' => e = .returned (.tuple #[.agg sMsg.zc.toArray, .bool false]) ∧ Upd [] w w' := by
  have HKB : Hid (decide (0 ≤ k ∧ k < (L.length : Int)) = false) := Lib.hid (by simpa using hk)
  have HTH := Lib.hid h
  have HBZ : Hid (Try.prog.built 58 [] = some sMsg.zc.toArray) := Lib.hid (by kernel_rfl)
  clear h hk
  go_enter Try.func23, Try.ntmps23
  go_wp2_with (refine wpList_alloc_blk rfl 58 rfl sMsg.zc (zero58 _) ?_; intro wA hA uA; have HA := Lib.hid hA; have UA := Lib.hid uA; clear hA uA)
  refine (nthere_any (HTH.out.same UA.out (by simp) ownN_upd) k false HKB.out).mono ?_
  rintro e w1 ⟨rfl, u1⟩
  have U1 := Lib.hid (UA.out.trans u1 (by simp))
  have HA1 := Lib.hid (u1.blk HA.out (by simp))
  clear u1
  go_wp2_with (first | (refine wpList_store_blk rfl 58 (.tmp 4) (.tmp 12) rfl w.heap.size sMsg.zc rfl rfl HA1.out (by exact Try.size58) rfl (Sch.zc_one _) ?_; intro wz hz uz) | (refine wpList_buildTo rfl 58 #[] rfl (some 12) rfl sMsg.zc.toArray (by have h := HBZ.out; simp; with_reducible exact h) ?_))
  have hld := run_loadVar_blk (P := Try.prog) hz 58 _ Try.underlying58 rfl (by exact Try.size58)
  refine bodyPost_ret (v := .tuple #[.agg sMsg.zc.toArray, .bool false]) ?_ rfl ⟨rfl, U1.out.trans uz (by simp)⟩
  rw [results_cell_tmp Try.results23]; simp [asAddr, Act.put, hld]

set_option maxRecDepth 20000 in
set_option maxHeartbeats 4000000 in
theorem ndeliver_yes (k : Nat) (x : Val) (h : PNet w p m L X Y) (hx : L[k]? = some x) (hl : L.length ≤ 100000) :
    Calls Try.prog 23 #[.pointer (some ⟨p, 0, none⟩), .int .i64 (k : Int)] w fun e w' => ∃ cs X' F, e = .returned (.tuple #[.agg cs.toArray, .bool true]) ∧ NetTo w X w' X' ∧ PNet w' p m (L.eraseIdx k) X' (F ++ Y) ∧ sMsg.Rep w' (Mut F w') cs x ∧ ∀ b ∈ F, w.heap.size ≤ b ∧ b < w'.heap.size := by
  have HTH := Lib.hid h
  have HLT := Lib.hid h.lt
  obtain ⟨v, us, hX, h⟩ := h
  have hkl := (List.getElem?_eq_some_iff.1 hx).1
  have hul := h.pks.len
  have ho0 : w.ownsRow 0 22 1 v us.length us := h.own
  obtain ⟨g, c, rfl, _, _⟩ := own_some ho0 (by omega)
  have hus : us[k]? = some (us[k]'(by omega)) := List.getElem?_eq_getElem (by omega)
  have hpk := h.pks.at_ k _ x hus hx
  have hcel := ho0.cellAt k (by omega)
  rw [hus] at hcel
  generalize us[k]'(by omega) = pk at *
  obtain ⟨hgx, pa, pc, rfl, hp1, hp2, hp3⟩ := hpk
  have HGX := Lib.hid hgx
  have HKB : Hid (decide (0 ≤ (k : Int) ∧ (k : Int) < (L.length : Int)) = true) := Lib.hid (by simp; omega)
  have hku : k < us.length := by omega
  have hkL : k < L.length := hkl
  have hgl := block_lt_of_cell hcel
  obtain ⟨pl, hpl⟩ : ∃ pl, pl = sMsg.put x := ⟨_, rfl⟩
  have HGET : Hid (sMsg.get pl = some (x, [])) := Lib.hid (by
    have := Sch.get_put sMsg x [] hgx
    rw [List.append_nil] at this
    rw [hpl]; exact this)
  rw [← hpl] at hcel hp1 hp3
  have HCL := Lib.hid hcel
  have HB := Lib.hid h.blk
  have HBY := Lib.hid hp3
  have HPC : Hid (pl.length ≤ pc ∧ pc ≤ maxLen) := Lib.hid ⟨hp1, hp2⟩
  clear h ho0 hul hp1 hp2 hp3 hgx hpl hcel hus hkl hx hX
  go_enter Try.func23, Try.ntmps23
  go_wp2_with (refine wpList_alloc_blk rfl 58 rfl sMsg.zc (zero58 _) ?_; intro wA hA uA; have HA := Lib.hid hA; have UA := Lib.hid uA; clear hA uA)
  have HTA : Hid (PNet wA p m L X (w.heap.size :: Y)) := Lib.hid (HTH.out.by (X' := w.heap.size :: Y) ⟨UA.out.mono (by simp), fun k hk => by
    rcases List.mem_cons.1 hk with rfl | hk
    · exact .inr (Nat.le_refl _)
    · exact .inl hk⟩ ownN_upd (fun k hk => by
    rcases List.mem_cons.1 hk with rfl | hk
    · exact HA.out.lt
    · exact Nat.lt_of_lt_of_le (HLT.out.2.1 k hk) UA.out.size))
  refine (nthere_any HTA.out (k : Int) true HKB.out).mono ?_
  rintro e w1 ⟨rfl, u1⟩
  have U1 := Lib.hid (UA.out.trans u1 (by simp))
  have HA1 := Lib.hid (u1.blk HA.out (by simp))
  have H1 := Lib.hid (HTA.out.same u1 (by simp) ownN_upd)
  have hB1 := U1.out.blk HB.out (by simp)
  have c1 := hB1.cell (o := 1) rfl
  have c2 := hB1.lt
  have c3 : w1.cell? ⟨g, k, none⟩ = some (.slice pa pl.length pc) := (U1.out.cell (a := ⟨g, k, none⟩) hgl (by simp)).trans HCL.out
  have hs1 := U1.out.size
  have HBY1 : Hid (Bytes w1 (· < w1.heap.size) pa pl) := Lib.hid (HBY.out.keep (fun b hb hl => ⟨Nat.lt_of_lt_of_le hl hs1, U1.out.block b hl (by simp)⟩) hs1)
  clear u1 hB1
  go_wp2_with fail
  refine (gets_u (g := true) (v := x) getMsg_gets HBY1.out HPC.out (fun _ => HGET.out) (fun h => by cases h)).mono ?_
  rintro e w2 ⟨cs, x2, rfl, u2, hr2, hx2, _⟩
  obtain rfl : x2 = x := hx2 rfl
  have hcl : cs.length = 46 := hr2.len
  have HONE := Lib.hid hr2.one
  have HR2 := Lib.hid hr2
  have U2 := Lib.hid (U1.out.trans u2 (by simp))
  have HA2 := Lib.hid (u2.blk HA1.out (by simp))
  obtain ⟨F, hF⟩ : ∃ F, F = since w1.heap.size w2.heap.size := ⟨_, rfl⟩
  have HFM : Hid (∀ k, k ∈ F ↔ w1.heap.size ≤ k ∧ k < w2.heap.size) := Lib.hid (fun k => by rw [hF]; exact mem_since)
  have hrm := hr2.mut
  rw [← hF] at hrm
  have HRM := Lib.hid hrm
  have H2 : Hid (PNet w2 p m L X (w.heap.size :: (F ++ Y))) := Lib.hid (H1.out.by (X' := w.heap.size :: (F ++ Y)) ⟨u2.mono (by simp), fun k hk => by
    rcases List.mem_cons.1 hk with rfl | hk
    · exact .inl (by simp)
    · rcases List.mem_append.1 hk with hk | hk
      · exact .inr ((HFM.out k).1 hk).1
      · exact .inl (by simp [hk])⟩ ownN_upd (fun k hk => by
    rcases List.mem_cons.1 hk with rfl | hk
    · exact HA2.out.lt
    · rcases List.mem_append.1 hk with hk | hk
      · exact ((HFM.out k).1 hk).2
      · exact Nat.lt_of_lt_of_le (HLT.out.2.1 k hk) U2.out.size))
  have hs2 := u2.size
  have hAl := HA2.out.lt
  have hAl1 := HA1.out.lt
  clear u2 hr2 hx2 c1 c2 c3 hrm hF
  go_wp2_with (first | (refine wpList_alloc_blk rfl 58 rfl sMsg.zc (zero58 _) ?_; intro wP hP uP; have HPb := Lib.hid hP; have UP := Lib.hid uP; clear hP uP) | (refine wpList_store_blk rfl 58 (.tmp 6) (.tmp 22) rfl w2.heap.size cs rfl rfl HPb.out (by rw [hcl]; exact Try.size58) (by rw [hcl]; rfl) HONE.out ?_; intro w3 hd ud; have HD := Lib.hid hd; have U3 : Hid (Upd [] w2 w3) := Lib.hid (UP.out.trans ud (by simp)); clear hd ud))
  have H3 := Lib.hid (H2.out.same U3.out (by simp) ownN_upd)
  have HA3 := Lib.hid (U3.out.blk HA2.out (by simp))
  have hs3 := U3.out.size
  refine (nlose_yes k H3.out hkL hl).mono ?_
  rintro e w4 ⟨rfl, X4, n4, h4⟩
  have hXn : ∀ b, w.heap.size ≤ b → b ∉ X := fun b hb hx => by have := HLT.out.1 b hx; omega
  have HA4 := Lib.hid (n4.upd.blk HA3.out (hXn _ (Nat.le_refl _)))
  have HD4 := Lib.hid (n4.upd.blk HD.out (hXn _ (by omega)))
  have HR4 : Hid (sMsg.Rep w4 (Mut F w4) cs x2) := Lib.hid ((HRM.out.updM U3.out (by simp)).updM n4.upd (fun b hb => hXn b (by have := (HFM.out b).1 hb; omega)))
  have N4 := Lib.hid n4
  have H4 := Lib.hid h4
  have hs4 := n4.upd.size
  have HXN := Lib.hid hXn
  clear n4 h4 hXn
  go_wp2_with (first | (refine wpList_load_blk rfl 58 (.tmp 6) rfl w2.heap.size rfl HD4.out Try.underlying58 rfl (by rw [hcl]; exact Try.size58) ?_) | (refine wpList_store_blk rfl 58 (.tmp 4) (.tmp 27) rfl w.heap.size cs rfl rfl HA4.out (by rw [hcl]; exact Try.size58) (by rw [hcl]; rfl) HONE.out ?_; intro wz hz uz))
  have hld := run_loadVar_blk (P := Try.prog) hz 58 _ Try.underlying58 rfl (by rw [hcl]; exact Try.size58)
  have uN : NetTo w X w4 X4 := (((NetTo.refl w X).same U2.out).same U3.out).trans N4.out
  have HBIG : NetTo w X wz X4 := ⟨uN.upd.trans uz (by simp), uN.new⟩
  refine bodyPost_ret (v := .tuple #[.agg cs.toArray, .bool true]) ?_ rfl ⟨cs, X4, F, rfl, HBIG, ?_, ?_, fun b hb => ?_⟩
  · rw [results_cell_tmp Try.results23]; simp [asAddr, Act.put, hld]
  · exact (NetAt.same H4.out uz (fun b hb => by simp at hb; simp [hb]) ownN_upd).more (fun k hk => by simp [hk])
  · exact HR4.out.updM uz (fun b hb => by have := (HFM.out b).1 hb; simp; omega)
  · have := (HFM.out b).1 hb; have := uz.size; omega
end
end Go.Proofs.Ythecincpejpmpaa
/- The reference's entry, written. -/
namespace Go.Proofs.Ythecincpejpmpaa
open Go.RowKit Go.Lb Go.Rc

set_option maxRecDepth 20000 in
set_option maxHeartbeats 4000000 in
theorem oentry_writes : OWrites 91 sEntry := fun B X f cs v o b w h hr hl => by
  have hlen : cs.length = 29 := hr.len
  have k0 : (tup [.num, .num, sCmd]).Rep w (· < B) cs v := hr
  obtain ⟨_, _, v0, y1, -, rfl, ⟨n0, -, rfl⟩, k1⟩ := Sch.Rep.tup_cons k0
  obtain ⟨_, _, v1, y2, -, rfl, ⟨n1, -, rfl⟩, k2⟩ := Sch.Rep.tup_cons k1
  obtain ⟨_, _, v2, y3, -, rfl, -, k3⟩ := Sch.Rep.tup_cons k2
  obtain ⟨-, rfl⟩ := Sch.Rep.tup_nil k3
  clear k1 k2 k3
  have H0 := Lib.hid (OWg.start (tp := 142) (rest := [(.num, .num n0), (.num, .num n1), (sCmd, v2)]) h hr (by have := tup_wmax [(.num, .num n0), (.num, .num n1), (sCmd, v2)]; rw [← this]; exact hl) (Blk.new w 142 cs) ((Upd.refl _ _).alloc _))
  have hB := h.base
  clear h hr hl k0
  show Calls Try.prog _ #[_, .agg cs.toArray] _ _
  go_enter Try.func91, Try.ntmps91
  have e0 := WrG.numAt (q := 0) H0.out rfl
  go_wp2_with fail
  refine (OWg.goNum H0.out).mono ?_
  rintro e w1 ⟨rfl, o1, b1, h⟩
  have H1 := Lib.hid h
  clear h e0
  have e1 := WrG.numAt (q := 1) H1.out rfl
  go_wp2_with fail
  refine (OWg.goNum H1.out).mono ?_
  rintro e w2 ⟨rfl, o2, b2, h⟩
  have H2 := Lib.hid h
  clear h e1
  obtain ⟨c2, r2, g2⟩ := WrG.range (q := 2) H2.out rfl
  have hl2 : c2.length = 27 := r2.len
  have G2 := Lib.hid g2
  have R2 := Lib.hid r2
  clear g2 r2
  go_wp2_with (refine wpList_load_mid rfl 48 _ rfl w.heap.size 2 rfl c2 _ G2.out Try.underlying48 rfl (by rw [hl2]; exact Try.size48) ?_)
  refine (OWg.go ocmd_writes H2.out R2.out).mono ?_
  rintro e w3 ⟨rfl, o3, b3, h⟩
  have H3 := Lib.hid h
  clear h
  go_wp2_with fail
  go_end0
  exact OWg.fin H3.out ((Upd.refl _ _).alloc _) rfl rfl
end Go.Proofs.Ythecincpejpmpaa
/- The reference's result, written. -/
namespace Go.Proofs.Ythecincpejpmpaa
open Go.RowKit Go.Lb Go.Rc

set_option maxRecDepth 20000 in
set_option maxHeartbeats 4000000 in
theorem oresult_writes : OWrites 93 sResult := fun B X f cs v o b w h hr hl => by
  have hlen : cs.length = 3 := hr.len
  have k0 : (tup [.num, .num, .list sAlloc]).Rep w (· < B) cs v := hr
  obtain ⟨_, _, v0, y1, -, rfl, ⟨n0, -, rfl⟩, k1⟩ := Sch.Rep.tup_cons k0
  obtain ⟨_, _, v1, y2, -, rfl, ⟨n1, -, rfl⟩, k2⟩ := Sch.Rep.tup_cons k1
  obtain ⟨_, _, v2, y3, -, rfl, ⟨-, -, l2, -, rfl, -⟩, k3⟩ := Sch.Rep.tup_cons k2
  obtain ⟨-, rfl⟩ := Sch.Rep.tup_nil k3
  clear k1 k2 k3
  have H0 := Lib.hid (OWg.start (tp := 56) (rest := [(.num, .num n0), (.num, .num n1), (.list sAlloc, .list l2)]) h hr (by have := tup_wmax [(.num, .num n0), (.num, .num n1), (.list sAlloc, .list l2)]; rw [← this]; exact hl) (Blk.new w 56 cs) ((Upd.refl _ _).alloc _))
  have hB := h.base
  clear h hr hl k0
  show Calls Try.prog _ #[_, .agg cs.toArray] _ _
  go_enter Try.func93, Try.ntmps93
  have e0 := WrG.numAt (q := 0) H0.out rfl
  go_wp2_with fail
  refine (OWg.goNum H0.out).mono ?_
  rintro e w1 ⟨rfl, o1, b1, h⟩
  have H1 := Lib.hid h
  clear h e0
  have e1 := WrG.numAt (q := 1) H1.out rfl
  go_wp2_with fail
  refine (OWg.goNum H1.out).mono ?_
  rintro e w2 ⟨rfl, o2, b2, h⟩
  have H2 := Lib.hid h
  clear h e1
  obtain ⟨a2, c2, e2, r2⟩ := WrG.listAt (q := 2) H2.out rfl
  have R2 := Lib.hid r2
  clear r2
  go_wp2_with fail
  refine (OWg.go (c := [.slice a2 l2.length c2]) oallocs_writes H2.out R2.out).mono ?_
  rintro e w3 ⟨rfl, o3, b3, h⟩
  have H3 := Lib.hid h
  clear h e2
  go_wp2_with fail
  go_end0
  exact OWg.fin H3.out ((Upd.refl _ _).alloc _) rfl rfl
end Go.Proofs.Ythecincpejpmpaa
/- The reference's msg, written. -/
namespace Go.Proofs.Ythecincpejpmpaa
open Go.RowKit Go.Lb Go.Rc

set_option maxRecDepth 20000 in
set_option maxHeartbeats 4000000 in
theorem omsg_writes : OWrites 64 sMsg := fun B X f cs v o b w h hr hl => by
  have hlen : cs.length = 46 := hr.len
  have k0 : (tup [.num, .num, .num, .num, .num, .num, .num, .flag, .num, .num, .num, .num, .list sEntry, sConf, .raw, sCmd, sResult]).Rep w (· < B) cs v := hr
  obtain ⟨_, _, v0, y1, -, rfl, ⟨n0, -, rfl⟩, k1⟩ := Sch.Rep.tup_cons k0
  obtain ⟨_, _, v1, y2, -, rfl, ⟨n1, -, rfl⟩, k2⟩ := Sch.Rep.tup_cons k1
  obtain ⟨_, _, v2, y3, -, rfl, ⟨n2, -, rfl⟩, k3⟩ := Sch.Rep.tup_cons k2
  obtain ⟨_, _, v3, y4, -, rfl, ⟨n3, -, rfl⟩, k4⟩ := Sch.Rep.tup_cons k3
  obtain ⟨_, _, v4, y5, -, rfl, ⟨n4, -, rfl⟩, k5⟩ := Sch.Rep.tup_cons k4
  obtain ⟨_, _, v5, y6, -, rfl, ⟨n5, -, rfl⟩, k6⟩ := Sch.Rep.tup_cons k5
  obtain ⟨_, _, v6, y7, -, rfl, ⟨n6, -, rfl⟩, k7⟩ := Sch.Rep.tup_cons k6
  obtain ⟨_, _, v7, y8, -, rfl, ⟨t7, -, rfl⟩, k8⟩ := Sch.Rep.tup_cons k7
  obtain ⟨_, _, v8, y9, -, rfl, ⟨n8, -, rfl⟩, k9⟩ := Sch.Rep.tup_cons k8
  obtain ⟨_, _, v9, y10, -, rfl, ⟨n9, -, rfl⟩, k10⟩ := Sch.Rep.tup_cons k9
  obtain ⟨_, _, v10, y11, -, rfl, ⟨n10, -, rfl⟩, k11⟩ := Sch.Rep.tup_cons k10
  obtain ⟨_, _, v11, y12, -, rfl, ⟨n11, -, rfl⟩, k12⟩ := Sch.Rep.tup_cons k11
  obtain ⟨_, _, v12, y13, -, rfl, ⟨-, -, l12, -, rfl, -⟩, k13⟩ := Sch.Rep.tup_cons k12
  obtain ⟨_, _, v13, y14, -, rfl, -, k14⟩ := Sch.Rep.tup_cons k13
  obtain ⟨_, _, v14, y15, -, rfl, ⟨-, -, l14, -, rfl, -⟩, k15⟩ := Sch.Rep.tup_cons k14
  obtain ⟨_, _, v15, y16, -, rfl, -, k16⟩ := Sch.Rep.tup_cons k15
  obtain ⟨_, _, v16, y17, -, rfl, -, k17⟩ := Sch.Rep.tup_cons k16
  obtain ⟨-, rfl⟩ := Sch.Rep.tup_nil k17
  clear k1 k2 k3 k4 k5 k6 k7 k8 k9 k10 k11 k12 k13 k14 k15 k16 k17
  have H0 := Lib.hid (OWg.start (tp := 58) (rest := [(.num, .num n0), (.num, .num n1), (.num, .num n2), (.num, .num n3), (.num, .num n4), (.num, .num n5), (.num, .num n6), (.flag, .flag t7), (.num, .num n8), (.num, .num n9), (.num, .num n10), (.num, .num n11), (.list sEntry, .list l12), (sConf, v13), (.raw, .raw l14), (sCmd, v15), (sResult, v16)]) h hr (by have := tup_wmax [(.num, .num n0), (.num, .num n1), (.num, .num n2), (.num, .num n3), (.num, .num n4), (.num, .num n5), (.num, .num n6), (.flag, .flag t7), (.num, .num n8), (.num, .num n9), (.num, .num n10), (.num, .num n11), (.list sEntry, .list l12), (sConf, v13), (.raw, .raw l14), (sCmd, v15), (sResult, v16)]; rw [← this]; exact hl) (Blk.new w 58 cs) ((Upd.refl _ _).alloc _))
  have hB := h.base
  clear h hr hl k0
  show Calls Try.prog _ #[_, .agg cs.toArray] _ _
  go_enter Try.func64, Try.ntmps64
  have e0_0 := WrG.numsAt (ns := [n0, n1, n2, n3, n4, n5, n6]) (rest := [(.flag, .flag t7), (.num, .num n8), (.num, .num n9), (.num, .num n10), (.num, .num n11), (.list sEntry, .list l12), (sConf, v13), (.raw, .raw l14), (sCmd, v15), (sResult, v16)]) (q := 0) H0.out rfl 0 _ rfl
  have e0_1 := WrG.numsAt (ns := [n0, n1, n2, n3, n4, n5, n6]) (rest := [(.flag, .flag t7), (.num, .num n8), (.num, .num n9), (.num, .num n10), (.num, .num n11), (.list sEntry, .list l12), (sConf, v13), (.raw, .raw l14), (sCmd, v15), (sResult, v16)]) (q := 0) H0.out rfl 1 _ rfl
  have e0_2 := WrG.numsAt (ns := [n0, n1, n2, n3, n4, n5, n6]) (rest := [(.flag, .flag t7), (.num, .num n8), (.num, .num n9), (.num, .num n10), (.num, .num n11), (.list sEntry, .list l12), (sConf, v13), (.raw, .raw l14), (sCmd, v15), (sResult, v16)]) (q := 0) H0.out rfl 2 _ rfl
  have e0_3 := WrG.numsAt (ns := [n0, n1, n2, n3, n4, n5, n6]) (rest := [(.flag, .flag t7), (.num, .num n8), (.num, .num n9), (.num, .num n10), (.num, .num n11), (.list sEntry, .list l12), (sConf, v13), (.raw, .raw l14), (sCmd, v15), (sResult, v16)]) (q := 0) H0.out rfl 3 _ rfl
  have e0_4 := WrG.numsAt (ns := [n0, n1, n2, n3, n4, n5, n6]) (rest := [(.flag, .flag t7), (.num, .num n8), (.num, .num n9), (.num, .num n10), (.num, .num n11), (.list sEntry, .list l12), (sConf, v13), (.raw, .raw l14), (sCmd, v15), (sResult, v16)]) (q := 0) H0.out rfl 4 _ rfl
  have e0_5 := WrG.numsAt (ns := [n0, n1, n2, n3, n4, n5, n6]) (rest := [(.flag, .flag t7), (.num, .num n8), (.num, .num n9), (.num, .num n10), (.num, .num n11), (.list sEntry, .list l12), (sConf, v13), (.raw, .raw l14), (sCmd, v15), (sResult, v16)]) (q := 0) H0.out rfl 5 _ rfl
  have e0_6 := WrG.numsAt (ns := [n0, n1, n2, n3, n4, n5, n6]) (rest := [(.flag, .flag t7), (.num, .num n8), (.num, .num n9), (.num, .num n10), (.num, .num n11), (.list sEntry, .list l12), (sConf, v13), (.raw, .raw l14), (sCmd, v15), (sResult, v16)]) (q := 0) H0.out rfl 6 _ rfl
  simp only [Nat.reduceAdd] at e0_0 e0_1 e0_2 e0_3 e0_4 e0_5 e0_6
  go_wp2_with fail
  refine (OWg.goNums (ns := [n0, n1, n2, n3, n4, n5, n6]) (rest := [(.flag, .flag t7), (.num, .num n8), (.num, .num n9), (.num, .num n10), (.num, .num n11), (.list sEntry, .list l12), (sConf, v13), (.raw, .raw l14), (sCmd, v15), (sResult, v16)]) (k := 7) H0.out rfl ((Upd.refl _ _).alloc _) (by simp) (Blk.new2 w (.cells cs.toArray 58) 3 [_, _, _, _, _, _, _]) rfl).mono ?_
  rintro e w1 ⟨rfl, o1, b1, h⟩
  have H1 := Lib.hid h
  clear h e0_0 e0_1 e0_2 e0_3 e0_4 e0_5 e0_6
  have e1 := WrG.flagAt (q := 7) H1.out rfl
  go_wp2_with fail
  refine (OWg.goFlag H1.out).mono ?_
  rintro e w2 ⟨rfl, o2, b2, h⟩
  have H2 := Lib.hid h
  clear h e1
  have e2_0 := WrG.numsAt (ns := [n8, n9, n10, n11]) (rest := [(.list sEntry, .list l12), (sConf, v13), (.raw, .raw l14), (sCmd, v15), (sResult, v16)]) (q := 8) H2.out rfl 0 _ rfl
  have e2_1 := WrG.numsAt (ns := [n8, n9, n10, n11]) (rest := [(.list sEntry, .list l12), (sConf, v13), (.raw, .raw l14), (sCmd, v15), (sResult, v16)]) (q := 8) H2.out rfl 1 _ rfl
  have e2_2 := WrG.numsAt (ns := [n8, n9, n10, n11]) (rest := [(.list sEntry, .list l12), (sConf, v13), (.raw, .raw l14), (sCmd, v15), (sResult, v16)]) (q := 8) H2.out rfl 2 _ rfl
  have e2_3 := WrG.numsAt (ns := [n8, n9, n10, n11]) (rest := [(.list sEntry, .list l12), (sConf, v13), (.raw, .raw l14), (sCmd, v15), (sResult, v16)]) (q := 8) H2.out rfl 3 _ rfl
  simp only [Nat.reduceAdd] at e2_0 e2_1 e2_2 e2_3
  go_wp2_with fail
  refine (OWg.goNums (ns := [n8, n9, n10, n11]) (rest := [(.list sEntry, .list l12), (sConf, v13), (.raw, .raw l14), (sCmd, v15), (sResult, v16)]) (k := 4) H2.out rfl ((Upd.refl _ _).alloc _) (Nat.le_refl _) (Blk.new _ 3 [_, _, _, _]) rfl).mono ?_
  rintro e w3 ⟨rfl, o3, b3, h⟩
  have H3 := Lib.hid h
  clear h e2_0 e2_1 e2_2 e2_3
  obtain ⟨a3, c3, e3, r3⟩ := WrG.listAt (q := 12) H3.out rfl
  have HA3 : Hid (Elems w3 (· < B) sEntry 29 a3 l12) := Lib.hid (list_elems r3).2
  have hwl3 := H3.out.len
  rw [wsum_cons] at hwl3
  have HL3 : Hid (o3.length + (Sch.list sEntry).wmax (.list l12) ≤ 1099511627776) := Lib.hid (by dsimp only at hwl3; omega)
  have hps3 := H3.out.fw.1 w.heap.size (by simp)
  have hll3 : l12.length ≤ 1099511627776 := elems_len HA3.out HL3.out rfl
  clear r3 hwl3
  go_wp2_with fail
  refine (OWg.goCount H3.out).mono ?_
  rintro e w3x ⟨rfl, o3x, b3x, h1, h2, h3⟩
  have p3 := (h2.cell (o := 12) hps3 (.inr (by simp))).trans e3
  have H1x := Lib.hid h1
  have H2x := Lib.hid h2
  have H3x := Lib.hid h3
  clear h1 h2 h3
  go_wp2_with fail
  go_loopg [4] l12.length (fun g t wr => ∃ (i : Nat) (o' : List Nat) (b' : Bool), t = .int .i64 i ∧ l12.length - i = g ∧ i ≤ l12.length ∧ Ow B (w.heap.size :: X) wr f o' b' ∧ Kp B (w.heap.size :: X) w3 wr ∧ LWk sEntry l12.length (l12.take i) o3 b3 o' b')
  case atStart => exact ⟨0, o3x, b3x, rfl, rfl, by omega, H1x.out, H2x.out, H3x.out⟩
  case round =>
    obtain ⟨i, o', b', rfl, hg, hi, hF, hK, hW⟩ := hrel
    have HG := Lib.hid hg
    have HF := Lib.hid hF
    have HK := Lib.hid hK
    have HW := Lib.hid hW
    have r0 := (hK.cell (o := 12) hps3 (.inr (by simp))).trans e3
    clear hg hF hK hW p3
    by_cases hlt : i < l12.length
    · have t1 : decide (i < l12.length) = true := by simpa using hlt
      obtain ⟨x, hx⟩ : ∃ x, l12[i]? = some x := ⟨_, List.getElem?_eq_getElem hlt⟩
      obtain ⟨b0, o0, us, rfl, hb0, hbl, hrg, hrep⟩ := HA3.out i x hx
      have hrep := hrep.keep (ok' := (· < B)) (fun k hk hl => ⟨hk, HK.out.block k hl (.inl hk)⟩) HK.out.size
      have hrg : wr.rangeAt b0 (o0 + i * 29) us := rangeAt_keep hrg (HK.out.block b0 hbl (.inl hb0))
      have hblr : b0 < wr.heap.size := Nat.lt_of_lt_of_le hbl HK.out.size
      have HWL := Lib.hid (HW.out.room hx HL3.out)
      have Hx := Lib.hid hx
      clear hx
      have HRG := Lib.hid hrg
      have HREP := Lib.hid hrep
      have hus : us.length = 29 := hrep.len
      clear hrg hrep
      go_wp2_with (refine wpList_load_mid rfl 142 _ rfl b0 (o0 + i * 29) rfl us _ HRG.out Try.underlying142 rfl (by rw [hus]; exact Try.size142) ?_)
      refine (oentry_writes B (w.heap.size :: X) f us x o' b' _ HF.out HREP.out HWL.out).mono ?_
      rintro e w2 ⟨rfl, o2, b2, h1, h2, h3⟩
      have H1 := Lib.hid h1
      have H2 := Lib.hid h2
      have H3 := Lib.hid (HW.out.snoc h3)
      clear h1 h2 h3
      go_wp2_with fail
      go_roundg (l12.length - (i + 1))
      case measure => have := HG.out; omega
      case rel => exact ⟨i + 1, o2, b2, by go_num, rfl, by omega, H1.out, HK.out.trans H2.out, by rw [take_snoc Hx.out]; exact H3.out⟩
    · obtain rfl : i = l12.length := by omega
      have t1 : decide (l12.length < l12.length) = false := by simp
      have hfin := HW.out
      rw [List.take_length] at hfin
      have H4 := Lib.hid (WrG.next (m := [(.list sEntry, .list l12)]) H3.out HF.out HK.out (WSeq.one (LWk.fin hfin)))
      clear hfin e3
      clear HF HW HG hlt hi
      obtain ⟨ws4, hz⟩ : ∃ z, z = wr := ⟨_, rfl⟩
      subst hz
      obtain ⟨os4, hz⟩ : ∃ z, z = o' := ⟨_, rfl⟩
      subst hz
      obtain ⟨bs4, hz⟩ : ∃ z, z = b' := ⟨_, rfl⟩
      subst hz
      clear HK
      obtain ⟨c4, r4, g4⟩ := WrG.range (q := 13) H4.out rfl
      have hl4 : c4.length = 2 := r4.len
      have G4 := Lib.hid g4
      have R4 := Lib.hid r4
      clear g4 r4
      go_wp2_with (refine wpList_load_mid rfl 46 _ rfl w.heap.size 13 rfl c4 _ G4.out Try.underlying46 rfl (by rw [hl4]; exact Try.size46) ?_)
      refine (OWg.go oconf_writes H4.out R4.out).mono ?_
      rintro e w5 ⟨rfl, o5, b5, h⟩
      have H5 := Lib.hid h
      clear h
      obtain ⟨a5, c5, e5, r5⟩ := WrG.rawAt (q := 15) H5.out rfl
      have R5 := Lib.hid r5
      clear r5
      go_wp2_with fail
      refine (OWg.go (c := [.slice a5 l14.length c5]) obytes_writes H5.out R5.out).mono ?_
      rintro e w6 ⟨rfl, o6, b6, h⟩
      have H6 := Lib.hid h
      clear h e5
      obtain ⟨c6, r6, g6⟩ := WrG.range (q := 16) H6.out rfl
      have hl6 : c6.length = 27 := r6.len
      have G6 := Lib.hid g6
      have R6 := Lib.hid r6
      clear g6 r6
      go_wp2_with (refine wpList_load_mid rfl 48 _ rfl w.heap.size 16 rfl c6 _ G6.out Try.underlying48 rfl (by rw [hl6]; exact Try.size48) ?_)
      refine (OWg.go ocmd_writes H6.out R6.out).mono ?_
      rintro e w7 ⟨rfl, o7, b7, h⟩
      have H7 := Lib.hid h
      clear h
      obtain ⟨c7, r7, g7⟩ := WrG.range (q := 43) H7.out rfl
      have hl7 : c7.length = 3 := r7.len
      have G7 := Lib.hid g7
      have R7 := Lib.hid r7
      clear g7 r7
      go_wp2_with (refine wpList_load_mid rfl 56 _ rfl w.heap.size 43 rfl c7 _ G7.out Try.underlying56 rfl (by rw [hl7]; exact Try.size56) ?_)
      refine (OWg.go oresult_writes H7.out R7.out).mono ?_
      rintro e w8 ⟨rfl, o8, b8, h⟩
      have H8 := Lib.hid h
      clear h
      go_wp2_with fail
      go_end0
      exact OWg.fin H8.out ((Upd.refl _ _).alloc _) rfl rfl
end Go.Proofs.Ythecincpejpmpaa
/- The reference's PutMsg. -/
namespace Go.Proofs.Ythecincpejpmpaa
open Go.RowKit Go.Lb Go.Rc

set_option maxRecDepth 20000 in
set_option maxHeartbeats 2000000 in
theorem rputMsg_puts : Puts 43 sMsg := by
  intro cs v w hr hl
  have hlen : cs.length = 46 := hr.len
  have uW : Upd [] w ((w.alloc (.cells cs.toArray 58)).alloc (.cells #[.slice none 0 0, .bool false] 96)) := ((Upd.refl _ _).alloc _).alloc _
  have HR := Lib.hid hr
  have HL := Lib.hid hl
  have HB := Lib.hid ((Blk.new w 58 cs).alloc (.cells #[.slice none 0 0, .bool false] 96))
  have hb0 := Try.prog.built 96 []
  have HBU : Hid (Try.prog.built 96 [] = some #[.slice none 0 0, .bool false]) := Lib.hid (by kernel_rfl)
  clear hr hl hb0
  go_enter Try.func43, Try.ntmps43
  go_wp2_with (first | (refine wpList_buildTo (o := ⟨some 5, .build 96 #[], _, _, _, _⟩) rfl 96 #[] rfl (some 5) rfl #[.slice none 0 0, .bool false] (by simpa using HBU.out) ?_) | (refine wpList_load_blk rfl 58 (.tmp 1) rfl w.heap.size rfl HB.out Try.underlying58 rfl (by rw [hlen]; exact Try.size58) ?_))
  refine (omsg_writes w.heap.size [w.heap.size] (w.heap.size + 1) cs v [] false _ (fresh_out (mk := oW) rfl) (HR.out.upd uW (by simp)) (by simpa using HL.out)).mono ?_
  rintro e w1 ⟨rfl, o, b, h1, h2, h3⟩
  cases b with
  | true =>
    have HF := Lib.hid (putIs_bad h2 uW h3)
    have H1 := Lib.hid h1
    clear h1 h2 h3 uW
    go_wp2_with fail
    refine (told_bad H1.out).mono ?_
    rintro e w2 ⟨rfl, rfl⟩
    go_wp2_with fail
    go_ret2
    exact HF.out
  | false =>
    obtain ⟨a, c, e0, hF⟩ := putIs_good h1 h2 uW h3
    have e1 : w1.cell? ⟨w.heap.size + 1, 0, none⟩ = some (.slice a (sMsg.put v).length c) := e0
    have HF := Lib.hid hF
    have H1 := Lib.hid h1
    have E1 := Lib.hid e1
    clear h1 h2 h3 uW e0 hF e1
    go_wp2_with fail
    refine (told_good H1.out E1.out).mono ?_
    rintro e w2 ⟨rfl, rfl⟩
    go_wp2_with fail
    go_ret2
    exact HF.out
end Go.Proofs.Ythecincpejpmpaa
/- law03's same and known. -/
namespace Go.Proofs.Ythecincpejpmpaa
open Go.RowKit Go.Lb Go.Rc

set_option maxRecDepth 20000 in
set_option maxHeartbeats 4000000 in
theorem nsame_eq (cs ds : List Value) (x : Val) (w : World) (hr : sMsg.Rep w (· < w.heap.size) cs x) (hr2 : sMsg.Rep w (· < w.heap.size) ds x) (hwm : sMsg.wmax x ≤ 1099511627776) :
    Calls Try.prog 24 #[.agg cs.toArray, .agg ds.toArray] w fun e w' => e = .returned (.bool true) ∧ Upd [] w w' := by
  obtain ⟨g, hg⟩ := good_dec sMsg x
  have hlen : cs.length = 46 := hr.len
  have hlen2 : ds.length = 46 := hr2.len
  have uW : Upd [] w ((w.alloc (.cells cs.toArray 58)).alloc (.cells ds.toArray 58)) := ((Upd.refl _ _).alloc _).alloc _
  have HB1 := Lib.hid ((Blk.new w 58 cs).alloc (.cells ds.toArray 58))
  have HB2 := Lib.hid (Blk.new2 w (.cells cs.toArray 58) 58 ds)
  have HR := Lib.hid (rep_all hr uW)
  have HR2 := Lib.hid (rep_all hr2 uW)
  have UW := Lib.hid uW
  have HG := Lib.hid hg
  obtain ⟨pb, hpb⟩ : ∃ pb, pb = bytesOf g sMsg x := ⟨_, rfl⟩
  have HPB := Lib.hid hpb
  have HPL : Hid (pb.length ≤ 225000000000000) := Lib.hid (by rw [hpb]; exact Nat.le_trans (bytesOf_len hg hwm) (by decide))
  clear hr hr2 uW hg hpb
  go_enter Try.func24, Try.ntmps24
  go_wp2_with (refine wpList_load_blk rfl 58 (.tmp 2) rfl w.heap.size rfl HB1.out Try.underlying58 rfl (by rw [hlen]; exact Try.size58) ?_)
  refine (puts_u rputMsg_puts HR.out hwm HG.out HPB.out).mono ?_
  rintro e w1 ⟨a1, c1, rfl, uu, b, hc⟩
  have U1 := Lib.hid (UW.out.trans uu (by simp))
  have D1 := Lib.hid (bytes_all b (Upd.refl _ _))
  have HB21 := Lib.hid (uu.blk HB2.out (by simp))
  have HR21 := Lib.hid (rep_all HR2.out uu)
  clear uu b hc
  go_wp2_with (refine wpList_load_blk rfl 58 (.tmp 3) rfl (w.heap.size + 1) rfl HB21.out Try.underlying58 rfl (by rw [hlen2]; exact Try.size58) ?_)
  refine (puts_u rputMsg_puts HR21.out hwm HG.out HPB.out).mono ?_
  rintro e w2 ⟨a2, c2, rfl, uu, b, hc⟩
  have U2 := Lib.hid (U1.out.trans uu (by simp))
  have D12 := Lib.hid (bytes_all D1.out uu)
  have D2 := Lib.hid (bytes_all b (Upd.refl _ _))
  clear uu b hc
  have te : ((errOf g) == (errOf g)) = true := by simp
  go_wp2_with fail
  refine (same_any _ _ a1 a2 c1 c2 pb pb _ D12.out D2.out HPL.out).mono ?_
  rintro e w3 ⟨rfl, uu⟩
  have U3 := Lib.hid (U2.out.trans uu (by simp))
  rw [show (pb == pb) = true by simp]
  clear uu
  go_wp2_with fail
  refine bodyPost_ret (results_tmp rfl _ _ _) rfl ?_
  exact ⟨rfl, U3.out⟩

/-- A message of kind 1 to 2. -/
def msg12 : Val := .pair (.num 1) (.pair (.num 0) (.pair (.num 2) (match sMsg.zero with
  | .pair _ (.pair _ (.pair _ r)) => r
  | _ => .unit)))
def cells12 : List Value := .int .i64 1 :: .int .i64 0 :: .int .i64 2 :: sMsg.zc.drop 3
theorem msg12_good : sMsg.good msg12 :=
  ⟨(show -maxN ≤ (1 : Int) ∧ (1 : Int) ≤ maxN by unfold maxN; omega), (show -maxN ≤ (0 : Int) ∧ (0 : Int) ≤ maxN by unfold maxN; omega), (show -maxN ≤ (2 : Int) ∧ (2 : Int) ≤ maxN by unfold maxN; omega), Sch.good_zero (tup [.num, .num, .num, .num, .flag, .num, .num, .num, .num, .list sEntry, sConf, .raw, sCmd, sResult])⟩
theorem msg12_rep (w : World) (ok : Nat → Prop) : sMsg.Rep w ok cells12 msg12 :=
  ⟨[.int .i64 1], _, _, _, rfl, rfl, Sch.Rep.num_mk 1, [.int .i64 0], _, _, _, rfl, rfl, Sch.Rep.num_mk 0, [.int .i64 2], _, _, _, rfl, rfl, Sch.Rep.num_mk 2, Sch.Rep.zero w ok (tup [.num, .num, .num, .num, .flag, .num, .num, .num, .num, .list sEntry, sConf, .raw, sCmd, sResult])⟩
theorem msg12_to {w : World} {ok : Nat → Prop} {cs : List Value} (h : sMsg.Rep w ok cs msg12) : cs[2]? = some (.int .i64 2) := by
  obtain ⟨_, _, _, _, rfl, h1, ⟨_, rfl, e1⟩, _, _, _, _, rfl, h2, ⟨_, rfl, e2⟩, _, _, _, _, rfl, h3, ⟨n, rfl, e3⟩, _⟩ := h
  simp only [msg12, Val.pair.injEq] at h1
  obtain ⟨rfl, rfl⟩ := h1
  simp only [Val.pair.injEq] at h2
  obtain ⟨rfl, rfl⟩ := h2
  simp only [Val.pair.injEq] at h3
  obtain ⟨rfl, rfl⟩ := h3
  cases e3
  rfl

set_option maxRecDepth 20000 in
set_option maxHeartbeats 4000000 in
theorem nknown_true (w : World) : Calls Try.prog 20 #[] w fun e w' => e = .returned (.bool true) ∧ Upd [] w w' := by
  have HBU : Hid (Try.prog.built 58 [(0, .int .i64 1), (2, .int .i64 2)] = some cells12.toArray) := Lib.hid (by kernel_rfl)
  have HGOOD := Lib.hid msg12_good
  have HWM : Hid (sMsg.cmax msg12 ≤ 225000000000000) := Lib.hid (Nat.le_trans (Sch.cmax_le _ _ msg12_good) (of_decide_eq_true (by kernel_rfl)))
  go_enter Try.func20, Try.ntmps20
  go_wp2_with fail
  refine (nnew_yes 2 w (by decide) (by decide)).mono ?_
  rintro e w1 ⟨rfl, u1, h1⟩
  have U1 := Lib.hid u1
  have H1 := Lib.hid h1
  clear u1 h1
  go_wp2_with (refine wpList_buildTo rfl 58 _ rfl (some 10) rfl cells12.toArray (by have h := HBU.out; simp [Act.eval]; with_reducible exact h) ?_)
  refine (nsend_any cells12 msg12 true H1.out (msg12_rep _ _) HWM.out (by simp [HGOOD.out]) (by decide) (by decide) (by simp)).mono ?_
  rintro e w2 ⟨rfl, X2, n2, h2⟩
  have e2 : (bif true then came 2 [] msg12 else []) = [msg12] := rfl
  rw [e2] at h2
  have N2 := Lib.hid n2
  have H2 := Lib.hid h2
  have et : errOf true = 0 := rfl
  rw [et]
  clear n2 h2 e2 et
  go_wp2_with fail
  refine (ncopy_yes 0 msg12 H2.out rfl (by decide) (by decide) (by simp)).mono ?_
  rintro e w3 ⟨rfl, X3, n3, h3⟩
  have e3 : came 2 [msg12] msg12 = [msg12, msg12] := rfl
  rw [e3] at h3
  have N3 := Lib.hid (N2.out.trans n3)
  have H3 := Lib.hid h3
  clear n3 h3 e3
  go_wp2_with fail
  refine (ndeliver_yes 1 msg12 H3.out rfl (by simp)).mono ?_
  rintro e w4 ⟨cs, X4, F4, rfl, n4, h4, hr4, _⟩
  have hcl : cs.length = 46 := hr4.len
  have HONE := Lib.hid hr4.one
  have HTO := Lib.hid (msg12_to hr4)
  have e4 : [msg12, msg12].eraseIdx 1 = [msg12] := rfl
  rw [e4] at h4
  replace h4 := h4.more (Y' := []) (by simp)
  have N4 := Lib.hid (N3.out.trans n4)
  have H4 := Lib.hid h4
  clear n4 h4 e4 hr4
  go_wp2_with (first | (refine wpList_alloc_blk rfl 58 rfl sMsg.zc (zero58 _) ?_; intro wP hP uP; have HPb := Lib.hid hP; have UP := Lib.hid uP; clear hP uP) | (refine wpList_store_blk rfl 58 (.tmp 4) (.tmp 17) rfl w4.heap.size cs rfl rfl HPb.out (by rw [hcl]; exact Try.size58) (by rw [hcl]; rfl) HONE.out ?_; intro w5 hd ud; have k1 := hd.cell (o := 2) HTO.out; have k2 := hd.lt; have U5 : Hid (Upd [] w4 w5) := Lib.hid (UP.out.trans ud (by simp)); clear hd ud))
  have H5 := Lib.hid (H4.out.same U5.out (by simp) ownN_upd)
  have N5 := Lib.hid (N4.out.same U5.out)
  refine (nlen_any H5.out).mono ?_
  rintro e w6 ⟨rfl, u6⟩
  have H6 := Lib.hid (H5.out.same u6 (by simp) ownN_upd)
  have N6 := Lib.hid (N5.out.same u6)
  clear u6 k1 k2
  go_wp2_with fail
  refine (nlose_yes 0 H6.out (by simp) (by simp)).mono ?_
  rintro e w7 ⟨rfl, X7, n7, h7⟩
  have e7 : [msg12].eraseIdx 0 = [] := rfl
  rw [e7] at h7
  have N7 := Lib.hid (N6.out.trans n7)
  have H7 := Lib.hid h7
  clear n7 h7 e7
  go_wp2_with fail
  refine (nlose_no 0 H7.out (by simp)).mono ?_
  rintro e w8 ⟨rfl, u8⟩
  have N8 := Lib.hid (N7.out.same u8)
  clear u8
  go_wp2_with fail
  refine bodyPost_ret (results_tmp rfl _ _ _) rfl ?_
  exact ⟨rfl, U1.out.trans N8.out.upd (fun k hk => by simp at hk; exact .inr (by omega))⟩
end Go.Proofs.Ythecincpejpmpaa
/- A whole block is loaded where a guard lets it. Over any program. -/
namespace Go.Lb
open Go Go.RowKit
variable {P : Program}
theorem wpList_want {ops : Array Oper} {rest : List Oper} {o : Oper} {a : Act} {w : World} {Q : Exit → Act → World → Prop} (hw : Region.wanted o (yielded ops a.tmps) = true)
    (h : ∀ K : Act → World → Prop, (∀ a w, wpList P ops Q rest a w → K a w) → o.wp P a w K Q) : wpList P ops Q (o :: rest) a w :=
  wpList_step fun K hK => by rw [if_pos hw]; exact h K hK
theorem wpList_load_g {ops : Array Oper} {rest : List Oper} {op : Oper} {a : Act} {w : World} {Q : Exit → Act → World → Prop} (hgd : Region.wanted op (yielded ops a.tmps) = true) (ty : TypeId) (x : Operand) (ho : op.op = .load ty x) (b : Nat) (hx : a.eval x = .pointer (some ⟨b, 0, none⟩))
    {t : TypeId} {vs : List Value} (hB : Blk w b t vs) {d : TypeDesc} (hu : P.underlying ty = some d) (hd : d.isRow = true) (hi : (P.info? ty).map (·.size) = some vs.length)
    (h : wpList P ops Q rest (a.put op.dst (.agg vs.toArray)) w) : wpList P ops Q (op :: rest) a w :=
  wpList_want hgd fun K hK => wp_load_blk ty x ho b hx hB hu hd hi (hK _ _ h)
end Go.Lb
