/- A set of numbers kept as a map; the closures of Update and Ack. -/
import Derived.Test.YtlebhaobfheocaaDelF
import Derived.MapKept
import Derived.LaidEqlPtr
set_option linter.unusedVariables false
set_option linter.unusedSimpArgs false
namespace Go.Lb
open Go Go.RowKit Go.ChangeMaps
variable {P : Program}
theorem map_modify_same {α β : Type} (g : α → β) (f : α → α) : ∀ (l : List α) (i : Nat), (∀ e, l[i]? = some e → g (f e) = g e) → (l.modify i f).map g = l.map g
  | [], i, _ => by simp
  | x :: l, 0, h => by simp [h x (by simp)]
  | x :: l, i + 1, h => by
    have := map_modify_same g f l i (fun e he => h e (by simpa using he))
    simp [this]

section
variable {w : World} {m : Nat} {es : List (Int × Value)} {t kt et : TypeId}
theorem run_mapUpdate_same {A B : List (Int × Value)} {v : Value} {k : Int} (h : MapIs w m (A ++ (k, v) :: B)) (ht : P.underlying t = some (.map kt et)) (hk : P.underlying kt = some (.int .i64)) (hn : ∀ p ∈ A, p.1 ≠ k) :
    ∃ w', (Instr.mapUpdate t (.map (some m)) (.int .i64 k) v).run P w = .ok () w' ∧ MapIs w' m (A ++ (k, v) :: B) ∧ Upd [m] w w' := by
  obtain ⟨E, ck, h1, h2⟩ := h
  have hf := find_some (q := .i64) E.toList A B 0 h2 hn
  rw [Nat.zero_add] at hf
  have hg : E[A.length]?.map (fun e => (e.key, e.val)) = some (Value.int .i64 k, v) := by
    have := congrArg (fun l => l[A.length]?) h2
    simpa using this
  have hkey : (E[A.length]?.map (·.key)).getD (Value.int .i64 k) = Value.int .i64 k := by
    cases he : E[A.length]? with
    | none => rfl
    | some e => rw [he] at hg; simp at hg; simp [hg.1]
  have hst : (Instr.keyThatStays (Value.int .i64 k) (Value.int .i64 k)).run P w = .ok (Value.int .i64 k) w := by simp [Instr.keyThatStays, Instr.sameBits]
  refine ⟨setBlock w m (.map (E.modify A.length fun e => { e with key := .int .i64 k, val := v }) ck), ?_, ⟨_, _, heap_setBlock_same h1 _, ?_⟩, ?_⟩
  · simp [Instr.mapUpdate, run_underlying ht, Sem.run_bind, MapKept.run_getObj_map h1, run_checkKey_int w _ kt hk k, Instr.findKey, run_underlying hk, hf, hkey, hst, MapKept.run_setObj_map _ h1, setBlock]
  · rw [Array.toList_modify, map_modify_same, h2]
    intro e he
    have : E[A.length]? = some e := by simpa using he
    rw [this] at hg
    simp at hg
    simp [hg.1, hg.2]
  · exact ⟨rfl, rfl, rfl, by simp [setBlock], fun x hx hF => heap_setBlock_other h1 _ (by simpa using hF)⟩

/-- Block m is a map that holds just the numbers of js, each with true. -/
def SetIs (w : World) (m : Nat) (js : Int → Bool) : Prop := ∃ es : List (Int × Value), MapIs w m es ∧ (∀ k, js k = true ↔ ∃ p ∈ es, p.1 = k) ∧ ∀ p ∈ es, p.2 = .bool true
theorem SetIs.upd {F : List Nat} {w w' : World} {m : Nat} {js : Int → Bool} (h : SetIs w m js) (u : Upd F w w') (hm : m ∉ F) : SetIs w' m js := by
  obtain ⟨es, h1, h2⟩ := h
  exact ⟨es, h1.upd u hm, h2⟩
theorem SetIs.lt {w : World} {m : Nat} {js : Int → Bool} (h : SetIs w m js) : m < w.heap.size := by obtain ⟨es, h1, _⟩ := h; exact h1.lt
theorem SetIs.new (w : World) : SetIs (w.alloc (.map #[] 0)) w.heap.size (fun _ => false) := ⟨[], MapIs.new w, by simp, by simp⟩
theorem split_at (k : Int) : ∀ es : List (Int × Value), (∀ p ∈ es, p.1 ≠ k) ∨ ∃ A v B, es = A ++ (k, v) :: B ∧ ∀ p ∈ A, p.1 ≠ k
  | [] => .inl (by simp)
  | (k', v) :: es => by
    by_cases hk : k' = k
    · subst hk; exact .inr ⟨[], v, es, rfl, by simp⟩
    · rcases split_at k es with h | ⟨A, v', B, rfl, h⟩
      · exact .inl (by simpa [hk] using h)
      · exact .inr ⟨(k', v) :: A, v', B, rfl, by simpa [hk] using h⟩
theorem set_insert {js : Int → Bool} (h : SetIs w m js) (ht : P.underlying t = some (.map kt et)) (hk : P.underlying kt = some (.int .i64)) (k : Int) :
    ∃ w', (Instr.mapUpdate t (.map (some m)) (.int .i64 k) (.bool true)).run P w = .ok () w' ∧ SetIs w' m (fun j => js j || j == k) ∧ Upd [m] w w' := by
  obtain ⟨es, h1, h2, h3⟩ := h
  rcases split_at k es with hn | ⟨A, v, B, rfl, hA⟩
  · obtain ⟨w', r1, r2, r3⟩ := run_mapUpdate_new h1 ht hk k (.bool true) hn
    refine ⟨w', r1, ⟨_, r2, fun j => ?_, fun p hp => ?_⟩, r3⟩
    · simp only [Bool.or_eq_true, h2, beq_iff_eq, List.mem_append, List.mem_singleton]
      constructor
      · rintro (⟨p, hp, rfl⟩ | rfl)
        · exact ⟨p, .inl hp, rfl⟩
        · exact ⟨_, .inr rfl, rfl⟩
      · rintro ⟨p, hp | hp, rfl⟩
        · exact .inl ⟨p, hp, rfl⟩
        · exact .inr (by rw [hp])
    · rcases List.mem_append.1 hp with h | h
      · exact h3 p h
      · simp at h; rw [h]
  · obtain rfl : v = .bool true := h3 (k, v) (by simp)
    obtain ⟨w', r1, r2, r3⟩ := run_mapUpdate_same h1 ht hk hA
    refine ⟨w', r1, ⟨_, r2, fun j => ?_, h3⟩, r3⟩
    simp only [Bool.or_eq_true, h2, beq_iff_eq]
    constructor
    · rintro (h | rfl)
      · exact h
      · exact ⟨(j, .bool true), by simp, rfl⟩
    · exact .inl
theorem set_lookup {js : Int → Bool} (h : SetIs w m js) (ht : P.underlying t = some (.map kt et)) (hk : P.underlying kt = some (.int .i64)) (hz : (zeroValue et).run P w = .ok (.bool false) w) (k : Int) :
    (Instr.lookup t (.map (some m)) (.int .i64 k) false).run P w = .ok (.bool (js k)) w := by
  obtain ⟨es, h1, h2, h3⟩ := h
  rcases split_at k es with hn | ⟨A, v, B, rfl, hA⟩
  · have e : js k = false := by
      cases hj : js k
      · rfl
      · obtain ⟨p, hp, e⟩ := (h2 k).1 hj
        exact absurd e (hn p hp)
    obtain ⟨E, ck, h1, h4⟩ := h1
    have hf := find_none (q := .i64) E.toList es 0 h4 hn
    rw [e]
    simp [Instr.lookup, run_underlying ht, Sem.run_bind, MapKept.run_getObj_map h1, run_checkKey_int w _ kt hk k, Instr.findKey, run_underlying hk, hf, hz]
  · obtain rfl : v = .bool true := h3 (k, v) (by simp)
    have e : js k = true := (h2 k).2 ⟨(k, .bool true), by simp, rfl⟩
    obtain ⟨E, ck, h1, h4⟩ := h1
    have hf := find_some (q := .i64) E.toList A B 0 h4 hA
    rw [e]
    simp [Instr.lookup, run_underlying ht, Sem.run_bind, MapKept.run_getObj_map h1, run_checkKey_int w _ kt hk k, Instr.findKey, run_underlying hk, hf]
end
theorem wpList_set_insert {ops : Array Oper} {rest : List Oper} {o : Oper} {a : Act} {w : World} {Q : Exit → Act → World → Prop} {m : Nat} {js : Int → Bool} {t kt et : TypeId} (hgd : o.guard = none) (x k v : Operand) (ho : o.op = .mapUpdate t x k v) (k' : Int)
    (hx : a.eval x = .map (some m)) (hk' : a.eval k = .int .i64 k') (hv : a.eval v = .bool true) (hm : SetIs w m js) (ht : P.underlying t = some (.map kt et)) (hk : P.underlying kt = some (.int .i64))
    (h : ∀ w', SetIs w' m (fun j => js j || j == k') → Upd [m] w w' → wpList P ops Q rest (a.put o.dst undef) w') : wpList P ops Q (o :: rest) a w := by
  refine wpList_plain hgd fun _ hK => ?_
  obtain ⟨w', hr, h1, h2⟩ := set_insert hm ht hk k'
  unfold Oper.wp execOp
  simp only [ho, hx, hk', hv, Sem.run_bind, hr, Result.andThen_ok, Sem.run_pure]
  exact hK _ _ (h w' h1 h2)
end Go.Lb
namespace Go.Proofs.Ytlebhaobfheocaa
open Go.RowKit Go.Lb Go.Hp

theorem clo24 (x : Im) (q : Nat) (e : Ev) (w : World) (hx : EvAt w x.p x.ev) (hq : EvAt w q e) :
    Calls Try.prog 24 #[x.ptr, .pointer (some ⟨q, 0, none⟩)] w fun r w' => r = .returned (.bool (x.ev.job == e.job)) ∧ Upd [] w w' := by
  obtain ⟨p, ⟨j, pr, st, ix⟩, cnt, off, had, wk, tk⟩ := x
  obtain ⟨p0, p1, _, _, _⟩ := hx
  obtain ⟨q0, q1, _, _, _⟩ := hq
  obtain ⟨ej, epr, est, eix⟩ := e
  simp only [Im.ptr]
  dsimp only at p0 p1 q0 q1
  go_enter Try.func24, Try.ntmps24
  go_wp2_with (go_quiet (fail))
  go_ret
  exact ⟨rfl, (Upd.refl _ _).drewN _⟩

theorem eql_ptrs {w : World} {p t : Nat} {xs ys : List Value} (hx : Blk w p 60 xs) (ht : Blk w t 60 ys) : (binOp .eql 58 (.pointer (some ⟨p, 0, none⟩)) (.pointer (some ⟨t, 0, none⟩))).run Try.prog w = .ok (.bool (p == t)) w := by
  obtain ⟨j, hj, hjs⟩ := Option.map_eq_some_iff.1 (show (Try.prog.info? 60).map (·.size) = some 9 by kernel_rfl)
  by_cases h : p = t
  · subst h
    have := run_eql_ptr_same (P := Try.prog) w (⟨p, 0, none⟩ : Addr) Try.underlying58 hj
    rw [this]
    simp
  · have := run_eql_ptr_other (P := Try.prog) w (a := ⟨p, 0, none⟩) (b := ⟨t, 0, none⟩) Try.underlying58 hj (by rw [hjs]; decide) (fun e => h (congrArg Addr.block e)) hx ht
    rw [this]
    have : (p == t) = false := beq_eq_false_iff_ne.2 h
    rw [this]
theorem clo31 (x : Im) (q t : Nat) (ys : List Value) (w : World) (hx : Blk w x.p 60 x.vals) (ht : Blk w t 60 ys) (hq : w.cell? ⟨q, 0, none⟩ = some (.pointer (some ⟨t, 0, none⟩))) :
    Calls Try.prog 31 #[x.ptr, .pointer (some ⟨q, 0, none⟩)] w fun r w' => r = .returned (.bool (x.p == t)) ∧ Upd [] w w' := by
  have he := eql_ptrs hx ht
  obtain ⟨p, ev, cnt, off, had, wk, tk⟩ := x
  simp only [Im.ptr]
  dsimp only at he
  clear hx ht
  go_enter Try.func31, Try.ntmps31
  go_wp2_with fail
  go_ret
  exact ⟨rfl, Upd.refl _ _⟩

set_option maxHeartbeats 1000000 in
theorem clo26 (x : Im) (q m : Nat) (js : Int → Bool) (w : World) (hx : Blk w x.p 60 x.vals) (hq : w.cell? ⟨q, 0, none⟩ = some (.map (some m))) (hm : SetIs w m js) :
    Calls Try.prog 26 #[x.ptr, .pointer (some ⟨q, 0, none⟩)] w fun r w' => r = .returned (.bool (!x.had && !js x.ev.job)) ∧ Upd [] w w' := by
  obtain ⟨p, ⟨j, pr, st, ix⟩, cnt, off, had, wk, tk⟩ := x
  obtain ⟨i0, i1, _, _, _, _, _, i6, _, _, _⟩ := imAt_of hx
  have hlk : ∀ n, (Instr.lookup 56 (.map (some m)) (.int .i64 j) false).run Try.prog (w.drewN n) = .ok (.bool (js j)) (w.drewN n) := fun n =>
    set_lookup (hm.upd ((Upd.refl [] w).drewN n) (by simp)) Try.underlying56 Try.underlying3 (by kernel_rfl) j
  obtain ⟨r, hr⟩ : ∃ r, js j = r := ⟨_, rfl⟩
  rw [hr] at hlk
  have Hr := Lib.hid hr
  simp only [Im.ptr]
  dsimp only at i0 i1 i6
  clear hx hm hr
  cases had
  · cases r
    · go_enter Try.func26, Try.ntmps26
      go_wp2_with (go_quiet (fail))
      go_ret
      exact ⟨by simp [Hr.out], (Upd.refl _ _).drewN _⟩
    · go_enter Try.func26, Try.ntmps26
      go_wp2_with (go_quiet (fail))
      go_ret
      exact ⟨by simp [Hr.out], (Upd.refl _ _).drewN _⟩
  · go_enter Try.func26, Try.ntmps26
    go_wp2_with (go_quiet (fail))
    go_ret
    exact ⟨by simp, (Upd.refl _ _).drewN _⟩
end Go.Proofs.Ytlebhaobfheocaa
