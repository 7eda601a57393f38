/- BrokerFirst: the plain law and the walk. Condition: at most 2^20 evaluations. -/
import Derived.Test.YtlebhaobfheocaaLives
set_option linter.unusedVariables false
set_option linter.unusedSimpArgs false
namespace Go.Proofs.Ytlebhaobfheocaa
open Go.RowKit Go.Lb Go.Hp

/-- The i-th evaluation, of a job of its own. -/
def ownE (es : List Ev) (i : Nat) : Ev := ⟨i, (es.getD i Ev.zero).pr, 1, (es.getD i Ev.zero).ix⟩
def owns (es : List Ev) (n : Nat) : List Ev := (List.range n).map (ownE es)
theorem owns_snoc (es : List Ev) (n : Nat) : owns es n ++ [ownE es n] = owns es (n + 1) := by simp [owns, List.range_succ]
theorem owns_len (es : List Ev) (n : Nat) : (owns es n).length = n := by simp [owns]
theorem owns_jobs (es : List Ev) (n : Nat) : ((owns es n).map Ev.job).Nodup := by
  unfold owns
  rw [List.map_map]
  refine List.pairwise_map.2 (List.nodup_range.imp fun {i j} h e => h ?_)
  simp [ownE] at e
  omega
theorem fold_new : ∀ (es : List Ev) (R : List Rf), (∀ e ∈ es, e.st = 1) → (jobs R ++ es.map Ev.job).Nodup → es.foldl u1 R = R ++ es.map rNew
  | [], R, _, _ => by simp
  | e :: es, R, h1, h2 => by
    have hs := h1 e (by simp)
    have hn : R.any (rJob e.job) = false := List.any_eq_false.2 (fun x hx => by
      simp only [rJob, beq_iff_eq]
      intro e2
      rw [List.nodup_append] at h2
      exact h2.2.2 x.ev.job (List.mem_map.2 ⟨x, hx, rfl⟩) e.job (by simp) e2)
    have hu : u1 R e = R ++ [rNew e] := by simp [u1, hs, hn]
    simp only [List.foldl_cons, hu]
    rw [fold_new es (R ++ [rNew e]) (fun x hx => h1 x (by simp [hx])) (by simpa [jobs, rNew] using h2)]
    simp
theorem upd_owns (es : List Ev) (n : Nat) : rUpd [] (owns es n) = (owns es n).map rNew := by
  unfold rUpd
  rw [fold_new (owns es n) [] (fun e he => by obtain ⟨i, _, rfl⟩ := List.mem_map.1 he; rfl) (by simpa [jobs] using owns_jobs es n), List.nil_append, List.filter_eq_self]
  intro x hx
  obtain ⟨e, he, rfl⟩ := List.mem_map.1 hx
  have : pend (owns es n) e.job = true := by
    unfold pend
    refine List.any_eq_true.2 ⟨e, he, ?_⟩
    obtain ⟨i, _, rfl⟩ := List.mem_map.1 he
    simp [ownE]
  simp [rNew, this]

/-- Nobody has one, all may be handed out. -/
def Free (R : List Rf) : Prop := ∀ x ∈ R, x.had = false ∧ x.off = 0
theorem free_owns (es : List Ev) (n : Nat) : Free ((owns es n).map rNew) := by
  intro x hx
  obtain ⟨e, _, rfl⟩ := List.mem_map.1 hx
  exact ⟨rfl, rfl⟩
theorem Free.none {R : List Rf} (h : Free R) (wk : Int) : R.any (rHad wk) = false := List.any_eq_false.2 (fun x hx => by simp [rHad, (h x hx).1])
/-- One is handed out, and let go. -/
theorem Free.step {R : List Rf} (h : Free R) (hn : R ≠ []) (wk : Int) : ∃ x R2, x ∈ R ∧ rDeq R wk = (some x.ev, R2) ∧ R2.any (rHad wk) = true ∧ Free (rAck R2 wk) ∧ (rAck R2 wk).length + 1 = R.length ∧ (∀ y ∈ R, y.ev.ls x.ev = false) ∧ (∀ y ∈ rAck R2 wk, y ∈ R) ∧ (∀ y ∈ R, y = x ∨ y ∈ rAck R2 wk) := by
  rcases deq_cases R wk with ⟨h1 | h1, _⟩ | ⟨h1, k, x, hx, he, hm, e⟩
  · rw [h.none] at h1; cases h1
  · obtain ⟨y, hy⟩ := List.exists_mem_of_ne_nil R hn
    have := h1 y hy
    simp [rElig, h y hy] at this
  · obtain ⟨hk, hx'⟩ := List.getElem?_eq_some_iff.1 hx
    have hs : R = R.take k ++ x :: R.drop (k + 1) := by rw [← hx', ← List.drop_eq_getElem_cons hk, List.take_append_drop]
    have hset : R.set k (rDq wk x) = R.take k ++ rDq wk x :: R.drop (k + 1) := by rw [List.set_eq_take_append_cons_drop, if_pos hk]
    have hA : ∀ a ∈ R.take k, rHad wk a = false := fun a ha => by simp [rHad, (h a (List.mem_of_mem_take ha)).1]
    have hq : rHad wk (rDq wk x) = true := by simp [rHad, rDq]
    have hack : rAck (R.set k (rDq wk x)) wk = R.take k ++ R.drop (k + 1) := by
      unfold rAck
      rw [hset, List.eraseP_append_right _ (fun a ha => by simp [hA a ha]), List.eraseP_cons_of_pos hq]
    refine ⟨x, _, List.mem_of_getElem? hx, e, ?_, ?_, ?_, fun y hy => hm y hy (by simp [rElig, h y hy]), ?_, ?_⟩
    · rw [hset]
      exact List.any_eq_true.2 ⟨rDq wk x, by simp, hq⟩
    · rw [hack]
      intro y hy
      rcases List.mem_append.1 hy with h1 | h1
      · exact h y (List.mem_of_mem_take h1)
      · exact h y (List.mem_of_mem_drop h1)
    · rw [hack]; simp; omega
    · rw [hack]
      intro y hy
      rcases List.mem_append.1 hy with h1 | h1
      · exact List.mem_of_mem_take h1
      · exact List.mem_of_mem_drop h1
    · rw [hack]
      intro y hy
      rw [hs] at hy
      rcases List.mem_append.1 hy with h1 | h1
      · exact .inr (by simp [h1])
      · rcases List.mem_cons.1 h1 with rfl | h1
        · exact .inl rfl
        · exact .inr (by simp [h1])
theorem deq_nil (wk : Int) : rDeq [] wk = (none, []) := rfl

def evs (L : List Ev) : List (List Value) := L.map Ev.vals
theorem evs_len (L : List Ev) : ∀ x ∈ evs L, x.length = 4 := by
  intro x hx
  obtain ⟨y, _, rfl⟩ := List.mem_map.1 hx
  rfl
theorem evRow_own {w : World} {base n : Nat} {v : Value} {L : List Ev} (h : w.ownsRow base 26 4 v n (evs L).flatten) (hn : L.length = n) : ∃ a c, v = .slice a n c ∧ EvRow w a L ∧ ∀ ad, a = some ad → v.ownBlock = some ad.block := by
  rcases h.2 with ⟨rfl, h0⟩ | ⟨g, cap, cur, rfl, _, hg, _⟩
  · refine ⟨none, 0, by rw [h0], fun i e he => ?_, by simp⟩
    have := (List.getElem?_eq_some_iff.1 he).1
    omega
  · refine ⟨_, _, rfl, fun i e he => ⟨g, 0, rfl, lt_of_block hg, fun j v hj => ?_⟩, fun ad e => by rw [← Option.some.inj e]; rfl⟩
    have := row_cell (j := j) h (evs_len L) (show (evs L)[i]? = some e.vals by simp [evs, he]) hj
    simpa using this
theorem info26 : ∃ i, Try.prog.info? 26 = some i ∧ i.zero = some (.agg Ev.zero.vals.toArray) ∧ i.size = 4 ∧ i.bytes = 32 := by
  obtain ⟨i, h1, h2, h3, h4⟩ := info_parts (show (Try.prog.info? 26).map (fun i => (i.zero, i.size, i.bytes)) = some (some (.agg Ev.zero.vals.toArray), 4, 32) by kernel_rfl)
  exact ⟨i, h1, h2, h3, h4⟩
theorem buildSlice22 (e : Ev) (w : World) : (Instr.buildSlice 22 1 #[(0, .agg e.vals.toArray)]).run Try.prog w = .ok (.slice (some ⟨w.heap.size, 0, none⟩) 1 1) (w.alloc (.cells e.vals.toArray 26)) := by kernel_rfl

theorem own_lt {w : World} {base e size n : Nat} {v : Value} {xs : List Value} (h : w.ownsRow base e size v n xs) {k : Nat} (hk : v.ownBlock = some k) : base ≤ k ∧ k < w.heap.size := by
  rcases h.2 with ⟨rfl, _⟩ | ⟨g, cap, cur, rfl, hb, hg, _⟩
  · simp [Value.ownBlock] at hk
  · simp [Value.ownBlock] at hk; subst hk; exact ⟨hb, lt_of_block hg⟩
/-- A broker, and a row beside it. -/
structure Br2 (w : World) (b : Nat) (F : List Nat) (R : List Rf) (e size n : Nat) (v : Value) (xs : List Value) (wr : World) : Prop where
  st : St w b F R wr
  row : wr.ownsRow w.heap.size e size v n xs
  out : ∀ k, v.ownBlock = some k → k ∉ F
section
variable {w w1 w2 w3 : World} {b e size n m : Nat} {F : List Nat} {R R' : List Rf} {v v' : Value} {xs ys : List Value}
theorem Br2.any (h : Br2 w b F R e size n v xs w1) (u : Upd [] w1 w2) : Br2 w b F R e size n v xs w2 := ⟨h.st.any u, u.row h.row (by simp), h.out⟩
theorem Br2.go (h : Br2 w b F R e size n v xs w1) (k : RPost w1 b F R' w2) (i : Inv R') : ∃ F', Br2 w b F' R' e size n v xs w2 ∧ Upd F w1 w2 ∧ ∀ k, k < w1.heap.size → k ∉ F → k ∉ F' := by
  obtain ⟨F', h1, h2, h3⟩ := h.st.go k i
  exact ⟨F', ⟨h1, h2.row h.row h.out, fun k hk => h3 k (own_lt h.row hk).2 (h.out k hk)⟩, h2, h3⟩
theorem Br2.app (h : Br2 w b F R e size n v xs w1) (u : Upd [] w1 w2) (ho : w3.ownsRow w.heap.size e size v' m ys) (hg : w2.grownBy w3 v.ownBlock) (hv : v'.ownBlock = v.ownBlock ∨ v'.ownBlock = some w2.heap.size) : Br2 w b F R e size m v' ys w3 := by
  have h2 := h.any u
  have u3 : Upd v.ownBlock.toList w2 w3 := (Upd.refl _ _).grown hg (by intro k hk; simp [hk])
  refine ⟨h2.st.other u3 ?_ ?_, ho, fun k hk => ?_⟩
  · intro k hk hm
    exact h2.out k (by simpa using hm) hk
  · intro k hk
    exact (own_lt h2.row (by simpa using hk)).1
  · rcases hv with e | e
    · exact h2.out k (e ▸ hk)
    · rw [hk] at e
      simp at e
      subst e
      exact h2.st.free
end

/-- What is so when j have been handed out; the last of them stands in block q. -/
structure Fst (w : World) (b q : Nat) (F : List Nat) (R : List Rf) (last : Ev) (j n : Nat) (wr : World) : Prop where
  st : St w b F R wr
  blk : Blk wr q 26 last.vals
  out : q ∉ F
  free : Free R
  len : R.length + j = n
  le : 0 < j → ∀ y ∈ R, y.ev.ls last = false
  ge : w.heap.size ≤ q

set_option maxRecDepth 100000 in
set_option maxHeartbeats 3000000 in
theorem first_ok (a0 : Option Addr) (len cap : Nat) (es : List Ev) (w : World) (hrow : EvRow w a0 es) (hlen : es.length = len) (hl : len ≤ 4398046510976) :
    Calls Try.prog 3 #[.slice a0 len cap] w fun e w' => e = .returned (.bool true) ∧ Upd [] w w' := by
  obtain ⟨i26, hi26, hz0, hz1, hz2⟩ := info26
  have Hrow := Lib.hid hrow
  have Hlen := Lib.hid hlen
  have b34 := build34
  have b26z := build26z
  clear hrow hlen
  go_enter Try.func3, Try.ntmps3
  go_wp2_with fail
  refine (rnew _).mono ?_
  rintro e w1 ⟨b, rfl, h1, u1, n1⟩
  obtain ⟨F1, g1⟩ := St.start h1 u1 (by simpa using n1) Inv.nil
  have K1 := Lib.hid (show Br2 w b F1 [] 26 4 0 (.slice none 0 0) (evs (owns es 0)).flatten w1 from ⟨g1, World.ownsRow_nil _ _ _ _, by simp [Value.ownBlock]⟩)
  clear h1 u1 n1 g1
  go_wp2_with fail
  go_loopg [4, 5] len (fun g v u wr => ∃ i : Nat, u = .int .i64 i ∧ i ≤ len ∧ g = len - i ∧ Br2 w b F1 [] 26 4 i v (evs (owns es i)).flatten wr)
  case atStart => exact ⟨0, rfl, Nat.zero_le _, rfl, K1.out⟩
  case round =>
    obtain ⟨i, rfl, hi, rfl, hS⟩ := hrel
    have K2 := Lib.hid hS
    clear hS K1
    by_cases hlt : i < len
    · obtain ⟨⟨ej, ep, est, eix⟩, he⟩ : ∃ e, es[i]? = some e := ⟨_, List.getElem?_eq_getElem (by have := Hlen.out; omega)⟩
      obtain ⟨k, o, rfl, hkl, hrg⟩ := (Hrow.out.upd K2.out.st.upd (by simp)) i _ he
      have Hrg := Lib.hid hrg
      have Hoe : Hid (ownE es i = ⟨i, ep, 1, eix⟩) := Lib.hid (by simp [ownE, List.getD, he])
      clear hrg he hkl
      go_wp2_with (first | (refine wpList_load_mid rfl 26 (.tmp 25) rfl k (o + i * 4) rfl (Ev.vals ⟨ej, ep, est, eix⟩) _ Hrg.out Try.underlying26 rfl Try.size26 ?_) | (refine wpList_load_mid rfl 26 (.tmp 24) rfl k (o + i * 4) rfl (Ev.vals ⟨ej, ep, est, eix⟩) _ Hrg.out Try.underlying26 rfl Try.size26 ?_) | (refine wpList_alloc_blk rfl 26 rfl Ev.zero.vals (zero26 _) ?_; intro w2 hb2 hu2) | (refine wpList_store_blk (o := ⟨none, .store 26 (.tmp 6) (.tmp 25), _, _, _, _⟩) rfl 26 (.tmp 6) (.tmp 25) rfl _ (Ev.vals ⟨ej, ep, est, eix⟩) rfl rfl hb2 Try.size26 rfl (Ev.one _) ?_; intro w3 hb3 hu3; have y0 := hb3.cell (o := 0) (v := .int .i64 ej) rfl; have y2 := hb3.cell (o := 2) (v := .int .i64 est) rfl; have z0 := hb3.frozen 0; have z2 := hb3.frozen 2; have hb5 : Blk ((w3.setCell ⟨wr.heap.size, 0, none⟩ (.int .i64 i)).setCell ⟨wr.heap.size, 2, none⟩ (.int .i64 1)) wr.heap.size 26 (Ev.vals ⟨i, ep, 1, eix⟩) := (hb3.set 0 _).set 2 _; have K5 := Lib.hid (K2.out.any (((hu2.trans hu3 (by simp)).setCell (a := ⟨wr.heap.size, 0, none⟩) (.inr (Nat.le_refl _)) (.int .i64 i)).setCell (a := ⟨wr.heap.size, 2, none⟩) (.inr (Nat.le_refl _)) (.int .i64 1))); have HB5 := Lib.hid hb5; have hls := hb3.lt; clear hb5 hb2 hu2 hu3 hb3) | (refine wpList_load_blk rfl 26 (.tmp 6) rfl _ rfl HB5.out Try.underlying26 rfl Try.size26 ?_) | (refine wpList_run (o := ⟨some 31, .buildSlice 22 1 #[(0, .tmp 30)], _, _, _, _⟩) rfl (exec_buildSlice (by rfl) (by simp [Act.eval, Act.put]) (buildSlice22 ⟨i, ep, 1, eix⟩ _)) ?_) | (at_builtin; refine wpList_append_mine rfl (.tmp 29) (.tmp 31) 22 rfl w.heap.size 26 i26 _ 4 32 Try.underlying22 hi26 hz0 hz1 hz2 rfl (by decide) u4 i (evs (owns es i)).flatten rfl (World.ownsRow.alloc K5.out.row _) ⟨((w3.setCell ⟨wr.heap.size, 0, none⟩ (.int .i64 i)).setCell ⟨wr.heap.size, 2, none⟩ (.int .i64 1)).heap.size, 0, none⟩ 1 1 (Ev.vals ⟨i, ep, 1, eix⟩) rfl rfl (Blk.news (Blk.new _ 26 (Ev.vals ⟨i, ep, 1, eix⟩))) (Ev.one _) (by unfold maxLen; omega) (by omega) (by have := K5.out.st.upd.size; simp at this ⊢; omega) ?_; intro v' w11 ho hg hgb; have K11 := Lib.hid (K5.out.app (ys := (evs (owns es (i + 1))).flatten) ((Upd.refl _ _).alloc _) (by rw [← owns_snoc, Hoe.out]; simpa [evs] using ho) hg (by simpa using hgb)); clear ho hg hgb K5 y0 y2 z0 z2))
      go_roundg (len - (i + 1))
      case measure => omega
      case rel => exact ⟨i + 1, by go_num, by omega, rfl, K11.out⟩
    · obtain rfl : i = len := by omega
      obtain ⟨a4, c4, hv, hER, hblk⟩ := evRow_own K2.out.row (owns_len es i)
      subst hv
      have HER := Lib.hid hER
      have Hblk := Lib.hid hblk
      clear hER hblk
      go_wp2_with fail
      refine (rupdate K2.out.st.br (owns es i) a4 i c4 _ _ _ _ _ _ _ _ HER.out (owns_len es i) (fun _ ad h => K2.out.out _ (Hblk.out ad h)) (by simp; omega)).mono ?_
      rintro e w4 ⟨rfl, h4⟩
      obtain ⟨F4, g4, _, _⟩ := K2.out.st.go h4 (Inv.nil.upd _)
      rw [upd_owns] at g4
      have K4 := Lib.hid g4
      clear h4 g4 K2 HER Hblk b34
      go_wp2_with (first | (refine wpList_alloc_blk rfl 26 rfl Ev.zero.vals (zero26 _) ?_; intro w5 hb5 hu5) | (refine wpList_store_blk (o := ⟨none, .store 26 (.tmp 7) (.tmp 37), _, _, _, _⟩) rfl 26 (.tmp 7) (.tmp 37) rfl _ Ev.zero.vals rfl rfl hb5 Try.size26 rfl (Ev.one _) ?_; intro w6 hb6 hu6; have K6 := Lib.hid (⟨K4.out.any (hu5.trans hu6 (by simp)), hb6, K4.out.free, free_owns es i, by simp [owns_len], fun h => absurd h (by omega), K4.out.upd.size⟩ : Fst w b w4.heap.size F4 ((owns es i).map rNew) Ev.zero 0 i w6); clear hb5 hu5 hb6 hu6 K4))
      generalize w4.heap.size = q at *
      go_loopg [8] i (fun g u wr => ∃ (j : Nat) (R : List Rf) (last : Ev) (F : List Nat), u = .int .i64 j ∧ j ≤ i ∧ g = i - j ∧ Fst w b q F R last j i wr)
      case atStart => exact ⟨0, _, _, _, rfl, Nat.zero_le _, rfl, K6.out⟩
      case round =>
        clear K6
        obtain ⟨j, R, ⟨lj, lp, ls, li⟩, F, rfl, hj, rfl, hS⟩ := hrel
        have K6 := Lib.hid hS
        have K6g := Lib.hid hS.ge
        have hRl := hS.len
        clear hS
        by_cases hlt : j < i
        · have hne : R ≠ [] := by intro e; rw [e] at hRl; simp at hRl; omega
          obtain ⟨⟨⟨xj, xp, xs, xi⟩, xc, xo, xh, xw, xt⟩, R2, hx, hd, hany, hfree, hlen2, hmin, hsub, _⟩ := K6.out.free.step hne 7
          have Hx := Lib.hid hx
          have Hfree := Lib.hid hfree
          have Hmin := Lib.hid hmin
          have Hsub := Lib.hid hsub
          have Hle := Lib.hid (fun h : 0 < j => K6.out.le h _ hx)
          dsimp only at hd
          clear hx hfree hmin hsub hne
          go_wp2_with fail
          refine (rdeq K6.out.st.br (by omega) K6.out.st.inv.good K6.out.st.inv.jd 7).mono ?_
          rintro e w7 ⟨rfl, h7⟩
          obtain ⟨F7, g7, u7, f7⟩ := K6.out.st.go h7 (K6.out.st.inv.deq 7)
          obtain ⟨hb7, ho7⟩ := St.keep (w0 := w) (b := b) u7 f7 K6.out.blk K6.out.out
          have hl7 : (rDeq R 7).2.length = R.length := deq_len R 7
          rw [hd] at g7 hl7
          rw [hd]
          dsimp only at g7 hl7
          simp only [deqV]
          have K7 := Lib.hid g7
          have HB7 := Lib.hid (⟨hb7, ho7⟩ : Blk w7 q 26 (Ev.vals ⟨lj, lp, ls, li⟩) ∧ q ∉ F7)
          have Hany := Lib.hid hany
          clear h7 g7 u7 f7 hb7 ho7 hany hd K6
          go_wp2_with (first | (refine wpList_alloc_blk rfl 26 rfl Ev.zero.vals (zero26 _) ?_; intro w8 hb8 hu8) | (refine wpList_store_blk (o := ⟨none, .store 26 (.tmp 9) (.tmp 47), _, _, _, _⟩) rfl 26 (.tmp 9) (.tmp 47) rfl _ (Ev.vals ⟨xj, xp, xs, xi⟩) rfl rfl hb8 Try.size26 rfl (Ev.one _) ?_; intro w9 hb9 hu9))
          have K9 := Lib.hid (K7.out.any (hu8.trans hu9 (by simp)))
          have HB9 := Lib.hid (⟨(hu8.trans hu9 (by simp)).blk HB7.out.1 (by simp), HB7.out.2⟩ : Blk w9 q 26 (Ev.vals ⟨lj, lp, ls, li⟩) ∧ q ∉ F7)
          have HX9 := Lib.hid (⟨hb9, K7.out.free⟩ : Blk w9 w7.heap.size 26 (Ev.vals ⟨xj, xp, xs, xi⟩) ∧ w7.heap.size ∉ F7)
          have hqx : q ≠ w7.heap.size := fun e => by have := HB7.out.1.lt; omega
          clear hb8 hu8 hb9 hu9 K7 HB7
          generalize w7.heap.size = qx at *
          refine (rack K9.out.br (by omega) 7).mono ?_
          rintro e w10 ⟨rfl, h10⟩
          obtain ⟨F10, g10, u10, f10⟩ := K9.out.go h10 (K9.out.inv.ack 7)
          obtain ⟨hb10, ho10⟩ := St.keep (w0 := w) (b := b) u10 f10 HB9.out.1 HB9.out.2
          obtain ⟨hx10, hy10⟩ := St.keep (w0 := w) (b := b) u10 f10 HX9.out.1 HX9.out.2
          rw [Hany.out]
          simp only [if_true]
          have l1 := hb10.cell (o := 1) (v := .int .i64 lp) rfl
          have l3 := hb10.cell (o := 3) (v := .int .i64 li) rfl
          have x1 := hx10.cell (o := 1) (v := .int .i64 xp) rfl
          have x3 := hx10.cell (o := 3) (v := .int .i64 xi) rfl
          have K10 := Lib.hid g10
          have HB10 := Lib.hid (⟨hb10, ho10⟩ : Blk w10 q 26 (Ev.vals ⟨lj, lp, ls, li⟩) ∧ q ∉ F10)
          have HX10 := Lib.hid hx10
          clear h10 g10 u10 f10 hb10 ho10 hx10 hy10 K9 HB9 HX9
          have hge := K6g.out
          have hfin : ∀ w11, Blk w11 q 26 (Ev.vals ⟨xj, xp, xs, xi⟩) → Upd [q] w10 w11 → Fst w b q F10 (rAck R2 7) ⟨xj, xp, xs, xi⟩ (j + 1) i w11 := fun w11 k1 k2 =>
            ⟨K10.out.other k2 (fun k hk => by simp; rintro rfl; exact HB10.out.2 hk) (fun k hk => by simp at hk; subst hk; exact hge), k1, HB10.out.2, Hfree.out, by omega, fun _ y hy => Hmin.out y (Hsub.out y hy), hge⟩
          have Hfin := Lib.hid hfin
          clear hfin
          by_cases hj0 : j = 0
          · have d0 : decide ((0 : Int) < (j : Int)) = false := by simp; omega
            have d0' : decide (0 < j) = false := by simp; omega
            clear hj0
            go_upto_region 22 with fail
            clear l1 l3 x1 x3
            go_wp2_with (first | (refine wpList_load_blk rfl 26 (.tmp 9) rfl qx rfl HX10.out Try.underlying26 rfl Try.size26 ?_) | (refine wpList_store_blk (o := ⟨none, .store 26 (.tmp 7) (.tmp 79), _, _, _, _⟩) rfl 26 (.tmp 7) (.tmp 79) rfl q (Ev.vals ⟨xj, xp, xs, xi⟩) rfl rfl HB10.out.1 Try.size26 rfl (Ev.one _) ?_; intro w11 hb11 hu11; have HF := Lib.hid (Hfin.out w11 hb11 hu11); clear hb11 hu11))
            go_roundg (i - (j + 1))
            case measure => omega
            case rel => exact ⟨j + 1, rAck R2 7, ⟨xj, xp, xs, xi⟩, F10, by go_num, by omega, rfl, HF.out⟩
          · have hls := Hle.out (by omega)
            rw [ls_iff'] at hls
            dsimp only at hls
            have d0 : decide ((0 : Int) < (j : Int)) = true := by simp; omega
            have d0' : decide (0 < j) = true := by simp; omega
            have d1 : decide (lp < xp) = false := by simp; omega
            by_cases heq : xp = lp
            · subst heq
              have d3 : decide (xi < li) = false := by simp; omega
              clear hls
              go_upto_region 22 with fail
              clear l1 l3 x1 x3
              go_wp2_with (first | (refine wpList_load_blk rfl 26 (.tmp 9) rfl qx rfl HX10.out Try.underlying26 rfl Try.size26 ?_) | (refine wpList_store_blk (o := ⟨none, .store 26 (.tmp 7) (.tmp 79), _, _, _, _⟩) rfl 26 (.tmp 7) (.tmp 79) rfl q (Ev.vals ⟨xj, xp, xs, xi⟩) rfl rfl HB10.out.1 Try.size26 rfl (Ev.one _) ?_; intro w11 hb11 hu11; have HF := Lib.hid (Hfin.out w11 hb11 hu11); clear hb11 hu11))
              go_roundg (i - (j + 1))
              case measure => omega
              case rel => exact ⟨j + 1, rAck R2 7, ⟨xj, xp, xs, xi⟩, F10, by go_num, by omega, rfl, HF.out⟩
            · have d2 : (xp == lp) = false := beq_eq_false_iff_ne.2 heq
              clear hls heq
              go_upto_region 22 with fail
              clear l1 l3 x1 x3
              go_wp2_with (first | (refine wpList_load_blk rfl 26 (.tmp 9) rfl qx rfl HX10.out Try.underlying26 rfl Try.size26 ?_) | (refine wpList_store_blk (o := ⟨none, .store 26 (.tmp 7) (.tmp 79), _, _, _, _⟩) rfl 26 (.tmp 7) (.tmp 79) rfl q (Ev.vals ⟨xj, xp, xs, xi⟩) rfl rfl HB10.out.1 Try.size26 rfl (Ev.one _) ?_; intro w11 hb11 hu11; have HF := Lib.hid (Hfin.out w11 hb11 hu11); clear hb11 hu11))
              go_roundg (i - (j + 1))
              case measure => omega
              case rel => exact ⟨j + 1, rAck R2 7, ⟨xj, xp, xs, xi⟩, F10, by go_num, by omega, rfl, HF.out⟩
        · obtain rfl : j = i := by omega
          have hnil : R = [] := List.length_eq_zero_iff.1 (by omega)
          subst hnil
          have K7 := Lib.hid K6.out.st
          clear K6
          go_wp2_with fail
          refine (rdeq K7.out.br (by simp) K7.out.inv.good K7.out.inv.jd 7).mono ?_
          rintro e w7 ⟨rfl, h7⟩
          obtain ⟨F7, g7, u7, f7⟩ := K7.out.go h7 (K7.out.inv.deq 7)
          rw [deq_nil] at g7
          rw [deq_nil]
          simp only [deqV]
          have K8 := Lib.hid g7
          clear h7 g7 u7 f7 K7
          go_wp2_with (first | (refine wpList_alloc_blk rfl 26 rfl Ev.zero.vals (zero26 _) ?_; intro w8 hb8 hu8) | (refine wpList_store_blk (o := ⟨none, .store 26 (.tmp 11) (.tmp 83), _, _, _, _⟩) rfl 26 (.tmp 11) (.tmp 83) rfl _ Ev.zero.vals rfl rfl hb8 Try.size26 rfl (Ev.one _) ?_; intro w9 hb9 hu9; have K9 := Lib.hid (K8.out.any (hu8.trans hu9 (by simp))); clear hb8 hu8 hb9 hu9 K8))
          refine (rlen K9.out.br).mono ?_
          rintro e w10 ⟨rfl, rfl⟩
          rw [show ((([] : List Rf).length : Nat) : Int) = 0 from rfl]
          go_wp2_with fail
          refine (lives_any _).mono ?_
          rintro e w12 ⟨rfl, u12⟩
          go_wp2_with fail
          go_ret
          exact ⟨rfl, (K9.out.any u12).upd⟩
end Go.Proofs.Ytlebhaobfheocaa
