/- What stays so whatever is asked of a broker; pick. -/
import Derived.Test.YtlebhaobfheocaaRf
set_option linter.unusedVariables false
set_option linter.unusedSimpArgs false
namespace Go.Proofs.Ytlebhaobfheocaa
open Go.RowKit Go.Lb Go.Hp

theorem pick_any (c n : Int) (w : World) (hc : (Lit.int .i64 c).wf = true) (hn : 0 < n) : Calls Try.prog 13 #[.int .i64 c, .int .i64 n] w fun e w' => ∃ r : Int, e = .returned (.int .i64 r) ∧ 0 ≤ r ∧ r < n ∧ w = w' := by
  have h1 : -9223372036854775808 ≤ c ∧ c ≤ 9223372036854775807 := by simpa [Lit.wf, IntKind.min, IntKind.max, IntKind.bits, IntKind.signed] using hc
  have hn0 : n ≠ 0 := by omega
  by_cases h : c < 0
  · have hd : decide (c < 0) = true := by simpa using h
    go_enter Try.func13, Try.ntmps13
    go_wp2
    go_ret
    have e : -(c + 1).tmod n = (-(c + 1)) % n := by rw [← Int.neg_tmod, Int.tmod_eq_emod_of_nonneg (by omega)]
    exact ⟨_, rfl, by rw [e]; exact Int.emod_nonneg _ hn0, by rw [e]; exact Int.emod_lt_of_pos _ hn, rfl⟩
  · have hd : decide (c < 0) = false := by simpa using h
    go_enter Try.func13, Try.ntmps13
    go_wp2
    go_ret
    exact ⟨_, rfl, Int.emod_nonneg _ hn0, Int.emod_lt_of_pos _ hn, rfl⟩

def jobs (R : List Rf) : List Int := R.map fun x => x.ev.job
theorem upFirst_jobs {p : Rf → Bool} {f : Rf → Rf} (h : ∀ x, p x = true → (f x).ev.job = x.ev.job) : ∀ R, jobs (upFirst p f R) = jobs R
  | [] => rfl
  | x :: r => by
    simp only [upFirst]
    cases hp : p x
    · simp only [Bool.false_eq_true, if_false, jobs, List.map_cons]
      have := upFirst_jobs h r
      simp only [jobs] at this
      rw [this]
    · simp [jobs, h x hp]
theorem mem_upFirst {p : Rf → Bool} {f : Rf → Rf} {y : Rf} : ∀ {R : List Rf}, y ∈ upFirst p f R → y ∈ R ∨ ∃ x ∈ R, p x = true ∧ y = f x
  | [], h => by simp [upFirst] at h
  | x :: r, h => by
    simp only [upFirst] at h
    cases hp : p x
    · rw [hp] at h
      simp only [Bool.false_eq_true, if_false, List.mem_cons] at h
      rcases h with rfl | h
      · exact .inl (by simp)
      · rcases mem_upFirst h with h | ⟨z, hz, h1, h2⟩
        · exact .inl (by simp [h])
        · exact .inr ⟨z, by simp [hz], h1, h2⟩
    · rw [hp] at h
      simp only [if_true, List.mem_cons] at h
      rcases h with rfl | h
      · exact .inr ⟨x, by simp, hp, rfl⟩
      · exact .inl (by simp [h])
theorem upFirst_len {p : Rf → Bool} {f : Rf → Rf} : ∀ R, (upFirst p f R).length = R.length
  | [] => rfl
  | x :: r => by
    simp only [upFirst]
    cases p x
    · simp [upFirst_len r]
    · simp

/-- No job twice, all counts in bounds. -/
structure Inv (R : List Rf) : Prop where
  jd : JD R
  good : ∀ x ∈ R, GoodX x
theorem Inv.nil : Inv [] := ⟨by simp [JD], by simp⟩
theorem good_new (e : Ev) : GoodX (rNew e) := ⟨by simp [rNew], by simp [rNew], by simp [rNew]⟩
theorem good_put {x : Rf} (e : Ev) (h : GoodX x) : GoodX (rPut e x) := by
  unfold rPut
  split
  · exact h
  · exact ⟨h.off, h.cnt, h.tk⟩
theorem good_back {x : Rf} (h : GoodX x) : GoodX (rBack x) := by
  obtain ⟨h1, h2, h3⟩ := h
  unfold rBack
  split
  · exact ⟨by simp, by simp, ⟨h3.1, h3.2.1, by simp⟩⟩
  · exact ⟨h1, ⟨h2.1, h2.2.1, fun _ => by show x.cnt ≤ 2; omega⟩, ⟨h3.1, h3.2.1, by simp⟩⟩
theorem good_dq {x : Rf} (wk : Int) (h : GoodX x) (he : x.had = false) : GoodX (rDq wk x) := by
  obtain ⟨h1, h2, h3⟩ := h
  have := h2.2.2 he
  exact ⟨h1, ⟨by show 0 ≤ x.cnt + 1; omega, by show x.cnt + 1 ≤ 3; omega, by simp [rDq]⟩, by simp [rDq]⟩
theorem good_tick {x : Rf} (h : GoodX x) : GoodX (rT2 (rT1 x)) := by
  obtain ⟨h1, h2, h3⟩ := h
  unfold rT2
  cases hh : x.had
  · have e : (rT1 x).had = false := hh
    rw [e]
    simp only [Bool.false_and, Bool.false_eq_true, if_false]
    refine ⟨⟨by show 0 ≤ max 0 (x.off - 1); omega, by show max 0 (x.off - 1) ≤ 6; omega⟩, h2, ?_⟩
    have e2 : (rT1 x).tk = x.tk := by simp [rT1, hh]
    rw [e2, e]
    exact ⟨h3.1, h3.2.1, by simp⟩
  · have e : (rT1 x).had = true := hh
    have e2 : (rT1 x).tk = x.tk + 1 := by simp [rT1, hh]
    have e3 := h3.2.2 hh
    rw [e, e2]
    simp only [Bool.true_and, decide_eq_true_eq]
    split
    · unfold rBack
      split
      · refine ⟨by simp, by simp, ?_⟩
        show 0 ≤ (rT1 x).tk ∧ (rT1 x).tk ≤ 12 ∧ _
        rw [e2]
        exact ⟨by omega, by omega, by simp⟩
      · rename_i hc
        refine ⟨⟨by show 0 ≤ max 0 (x.off - 1); omega, by show max 0 (x.off - 1) ≤ 6; omega⟩, ⟨h2.1, h2.2.1, fun _ => ?_⟩, ?_⟩
        · have : (rT1 x).cnt = x.cnt := rfl
          rw [this] at hc
          show x.cnt ≤ 2
          omega
        · show 0 ≤ (rT1 x).tk ∧ (rT1 x).tk ≤ 12 ∧ _
          rw [e2]
          exact ⟨by omega, by omega, by simp⟩
    · refine ⟨⟨by show 0 ≤ max 0 (x.off - 1); omega, by show max 0 (x.off - 1) ≤ 6; omega⟩, ⟨h2.1, h2.2.1, fun h => by rw [e] at h; cases h⟩, ?_⟩
      rw [e2]
      exact ⟨by omega, by omega, fun _ => by omega⟩

theorem Inv.u1 {R : List Rf} (h : Inv R) (e : Ev) : Inv (u1 R e) := by
  unfold Ytlebhaobfheocaa.u1
  split
  · split
    · refine ⟨?_, fun y hy => ?_⟩
      · have := upFirst_jobs (p := rJob e.job) (f := rPut e) (fun x hx => by
          unfold rPut
          split
          · rfl
          · simp only [rJob, beq_iff_eq] at hx; exact hx.symm) R
        unfold JD
        rw [show (upFirst (rJob e.job) (rPut e) R).map (fun x => x.ev.job) = jobs R from this]
        exact h.jd
      · rcases mem_upFirst hy with h1 | ⟨x, hx, _, rfl⟩
        · exact h.good y h1
        · exact good_put e (h.good x hx)
    · rename_i ha
      refine ⟨?_, fun y hy => ?_⟩
      · unfold JD
        rw [List.map_append, List.nodup_append]
        refine ⟨h.jd, by simp, fun a ha' c hc => ?_⟩
        obtain ⟨x, hx, rfl⟩ := List.mem_map.1 ha'
        simp at hc
        subst hc
        intro e2
        exact ha (List.any_eq_true.2 ⟨x, hx, by simpa [rJob, rNew] using e2⟩)
      · rcases List.mem_append.1 hy with h1 | h1
        · exact h.good y h1
        · obtain rfl : y = rNew e := by simpa using h1
          exact good_new e
  · exact h
theorem u1_len (R : List Rf) (e : Ev) : (u1 R e).length ≤ R.length + 1 := by
  unfold u1
  split
  · split
    · rw [upFirst_len]; omega
    · simp
  · omega
theorem Inv.fold {R : List Rf} : ∀ (es : List Ev), Inv R → Inv (es.foldl Ytlebhaobfheocaa.u1 R)
  | [], h => h
  | e :: es, h => Inv.fold es (h.u1 e)
theorem fold_len : ∀ (es : List Ev) (R : List Rf), (es.foldl u1 R).length ≤ R.length + es.length
  | [], R => by simp
  | e :: es, R => by
    have h1 := fold_len es (u1 R e)
    have h2 := u1_len R e
    simp only [List.foldl_cons, List.length_cons]
    omega
theorem Inv.sub {R R' : List Rf} (h : Inv R) (hs : R'.Sublist R) : Inv R' := ⟨h.jd.sublist (hs.map _), fun x hx => h.good x (hs.subset hx)⟩
theorem Inv.upd {R : List Rf} (h : Inv R) (es : List Ev) : Inv (rUpd R es) := (h.fold es).sub List.filter_sublist
theorem upd_len (R : List Rf) (es : List Ev) : (rUpd R es).length ≤ R.length + es.length := Nat.le_trans (List.length_filter_le _ _) (fold_len es R)
theorem Inv.ack {R : List Rf} (h : Inv R) (wk : Int) : Inv (rAck R wk) := h.sub List.eraseP_sublist
theorem ack_len (R : List Rf) (wk : Int) : (rAck R wk).length ≤ R.length := List.eraseP_sublist.length_le
theorem Inv.nack {R : List Rf} (h : Inv R) (wk : Int) : Inv (rNack R wk) := by
  refine ⟨?_, fun y hy => ?_⟩
  · have := upFirst_jobs (p := rHad wk) (f := rBack) (fun x _ => by unfold rBack; split <;> rfl) R
    unfold JD rNack
    rw [show (upFirst (rHad wk) rBack R).map (fun x => x.ev.job) = jobs R from this]
    exact h.jd
  · rcases mem_upFirst hy with h1 | ⟨x, hx, _, rfl⟩
    · exact h.good y h1
    · exact good_back (h.good x hx)
theorem nack_len (R : List Rf) (wk : Int) : (rNack R wk).length = R.length := upFirst_len R
theorem tick_job (x : Rf) : (rT2 (rT1 x)).ev = x.ev := by
  unfold rT2 rBack
  split
  · split <;> rfl
  · rfl
theorem Inv.tick {R : List Rf} (h : Inv R) : Inv (rTick R) := by
  refine ⟨?_, fun y hy => ?_⟩
  · unfold JD rTick
    rw [List.map_map, List.map_map]
    have : ((fun x : Rf => x.ev.job) ∘ rT2) ∘ rT1 = fun x => x.ev.job := funext fun x => by simp only [Function.comp, tick_job]
    rw [this]
    exact h.jd
  · unfold rTick at hy
    rw [List.map_map] at hy
    obtain ⟨x, hx, rfl⟩ := List.mem_map.1 hy
    exact good_tick (h.good x hx)
theorem tick_len (R : List Rf) : (rTick R).length = R.length := by simp [rTick]

/-- What Dequeue does, in these terms. -/
theorem deq_cases (R : List Rf) (wk : Int) : ((R.any (rHad wk) = true ∨ ∀ y ∈ R, rElig y = false) ∧ rDeq R wk = (none, R)) ∨
    (R.any (rHad wk) = false ∧ ∃ k x, R[k]? = some x ∧ rElig x = true ∧ (∀ y ∈ R, rElig y = true → y.ev.ls x.ev = false) ∧ rDeq R wk = (some x.ev, R.set k (rDq wk x))) := by
  unfold rDeq
  cases ha : R.any (rHad wk) with
  | true => exact .inl ⟨.inl rfl, rfl⟩
  | false =>
    rcases best_spec R R.length with ⟨h1, h2⟩ | ⟨k, x, h1, h2, h3, h4, h5⟩
    · refine .inl ⟨.inr fun y hy => ?_, by simp [h1]⟩
      obtain ⟨j, hj, rfl⟩ := List.getElem_of_mem hy
      exact h2 j _ hj (by simp)
    · refine .inr ⟨rfl, k, x, h3, h4, fun y hy he => ?_, by simp [h1, h3]⟩
      obtain ⟨j, hj, rfl⟩ := List.getElem_of_mem hy
      exact h5 j _ hj (by simp) he
theorem Inv.deq {R : List Rf} (h : Inv R) (wk : Int) : Inv (rDeq R wk).2 := by
  rcases deq_cases R wk with ⟨_, e⟩ | ⟨_, k, x, hx, he, _, e⟩
  · rw [e]; exact h
  · rw [e]
    have hh : x.had = false := by simp only [rElig, Bool.and_eq_true, Bool.not_eq_true'] at he; exact he.1
    refine ⟨?_, fun y hy => ?_⟩
    · unfold JD
      rw [List.map_set]
      have : (R.map fun x => x.ev.job).set k (rDq wk x).ev.job = R.map fun x => x.ev.job := by
        refine List.ext_getElem? fun j => ?_
        rw [List.getElem?_set]
        split
        · rename_i e; subst e
          have := (List.getElem?_eq_some_iff.1 hx).1
          have hk : R[k] = x := by rw [List.getElem?_eq_getElem this] at hx; simpa using hx
          simp [this, rDq, hk]
        · rfl
      rw [this]
      exact h.jd
    · rcases List.mem_or_eq_of_mem_set hy with h1 | rfl
      · exact h.good y h1
      · exact good_dq wk (h.good x (List.mem_of_getElem? hx)) hh
theorem deq_len (R : List Rf) (wk : Int) : (rDeq R wk).2.length = R.length := by
  rcases deq_cases R wk with ⟨_, e⟩ | ⟨_, k, x, hx, he, _, e⟩
  · rw [e]
  · rw [e]; simp

/-- A broker that was made since w0. -/
structure St (w0 : World) (b : Nat) (F : List Nat) (R : List Rf) (wr : World) : Prop where
  br : BrR wr b F R
  upd : Upd [] w0 wr
  new : ∀ k ∈ F, w0.heap.size ≤ k
  lt : ∀ k ∈ F, k < wr.heap.size
  inv : Inv R
theorem BrR.foot {w : World} {b : Nat} {F : List Nat} {R : List Rf} (h : BrR w b F R) : ∃ F', BrR w b F' R ∧ ∀ k ∈ F', k ∈ F ∧ k < w.heap.size := by
  obtain ⟨L, ⟨v, h1, h2⟩, e⟩ := h
  exact ⟨Ytlebhaobfheocaa.foot b v L, ⟨L, ⟨v, h1, fun k hk => ⟨hk, (h2 k hk).2⟩⟩, e⟩, h2⟩
theorem St.start {w0 wr : World} {b : Nat} {F : List Nat} {R : List Rf} (h : BrR wr b F R) (u : Upd [] w0 wr) (n : ∀ k ∈ F, w0.heap.size ≤ k) (i : Inv R) : ∃ F', St w0 b F' R wr := by
  obtain ⟨F', h1, h2⟩ := h.foot
  exact ⟨F', h1, u, fun k hk => n k (h2 k hk).1, fun k hk => (h2 k hk).2, i⟩
theorem St.go {w0 wr w' : World} {b : Nat} {F : List Nat} {R R' : List Rf} (h : St w0 b F R wr) (k : RPost wr b F R' w') (i : Inv R') : ∃ F', St w0 b F' R' w' ∧ Upd F wr w' ∧ ∀ k, k < wr.heap.size → k ∉ F → k ∉ F' := by
  obtain ⟨F', h0, h2, h3⟩ := k
  obtain ⟨F2, h1, h4⟩ := h0.foot
  refine ⟨F2, ⟨h1, h.upd.trans h2 (fun k hk => .inr (h.new k hk)), fun k hk => ?_, fun k hk => (h4 k hk).2, i⟩, h2, fun k hk hn hm => ?_⟩
  · rcases h3 k (h4 k hk).1 with h5 | h5
    · exact h.new k h5
    · have := h.upd.size; omega
  · rcases h3 k (h4 k hm).1 with h5 | h5
    · exact hn h5
    · omega
theorem St.any {w0 wr w' : World} {b : Nat} {F : List Nat} {R : List Rf} (h : St w0 b F R wr) (u : Upd [] wr w') : St w0 b F R w' := ⟨h.br.any u, h.upd.trans u (by simp), h.new, fun k hk => Nat.lt_of_lt_of_le (h.lt k hk) u.size, h.inv⟩
theorem St.free {w0 wr : World} {b : Nat} {F : List Nat} {R : List Rf} (h : St w0 b F R wr) : wr.heap.size ∉ F := fun hm => Nat.lt_irrefl _ (h.lt _ hm)
theorem BrR.upd {w w' : World} {b : Nat} {F G : List Nat} {R : List Rf} (h : BrR w b F R) (u : Upd G w w') (hF : ∀ k ∈ F, k ∉ G) : BrR w' b F R := by
  obtain ⟨L, h1, h2⟩ := h
  exact ⟨L, h1.upd u hF, h2⟩
theorem St.other {w0 wr w' : World} {b : Nat} {F G : List Nat} {R : List Rf} (h : St w0 b F R wr) (u : Upd G wr w') (h1 : ∀ k ∈ F, k ∉ G) (h2 : ∀ k ∈ G, w0.heap.size ≤ k) : St w0 b F R w' :=
  ⟨h.br.upd u h1, h.upd.trans u (fun k hk => .inr (h2 k hk)), h.new, fun k hk => Nat.lt_of_lt_of_le (h.lt k hk) u.size, h.inv⟩
end Go.Proofs.Ytlebhaobfheocaa
