/- heap.Heap's up. -/
import Derived.Test.YtlebhaobfheocaaHeap
set_option linter.unusedVariables false
set_option linter.unusedSimpArgs false
namespace Go.Proofs.Ytlebhaobfheocaa
open Go.RowKit Go.Lb Go.Hp

theorem ahead_int (b : Nat) (v : Value) (L : List It) (born : Int) (w : World) (h : HeapAt w b v L born) (I J : Int) (i j : Nat) (hI : I = i) (hJ : J = j) (hi : i < L.length) (hj : j < L.length) (hL : L.length ≤ 17592186044414) (r : Bool) (hr : (L.getD i default).ah (L.getD j default) = r) :
    Calls Try.prog 40 #[.pointer (some ⟨b, 0, none⟩), .int .i64 I, .int .i64 J] w fun e w' => e = .returned (.bool r) ∧ Upd [] w w' := by
  subst hI; subst hJ; subst hr
  exact ahead_any b v L born w h i j _ _ (by simp [List.getD, hi]) (by simp [List.getD, hj]) hL

theorem HeapAt.len {w : World} {b s n c : Nat} {L : List It} {born : Int} (h : HeapAt w b (.slice (some ⟨s, 0, none⟩) n c) L born) : n = L.length := by
  rcases h.row.2 with ⟨h1, _⟩ | ⟨_, _, _, h1, _⟩
  · cases h1
  · cases h1; rfl
theorem HeapAt.row' {w : World} {b s n c : Nat} {L : List It} {born : Int} (h : HeapAt w b (.slice (some ⟨s, 0, none⟩) n c) L born) : w.ownsRow 0 77 2 (.slice (some ⟨s, 0, none⟩) n c) n (vals L).flatten := by
  have := h.row; rwa [← h.len] at this
theorem HeapAt.froz {w : World} {b s n c : Nat} {L : List It} {born : Int} (h : HeapAt w b (.slice (some ⟨s, 0, none⟩) n c) L born) (j : Nat) : w.frozen? ⟨s, j, none⟩ = false := h.row'.frozenAt j

theorem HeapAt.upd {w w' : World} {b : Nat} {v : Value} {L : List It} {born : Int} (h : HeapAt w b v L born) {F : List Nat} (hu : Upd F w w') (hb : b ∉ F) (hv : ∀ k, v.ownBlock = some k → k ∉ F) (hp : ∀ x ∈ L, x.p ∉ F) : HeapAt w' b v L born :=
  ⟨hu.blk h.blk hb, hu.row h.row hv, h.ne, fun x hx => ⟨(h.ev x hx).1.upd hu (hp x hx), (h.ev x hx).2⟩⟩
theorem HeapAt.any {w w' : World} {b : Nat} {v : Value} {L : List It} {born : Int} (h : HeapAt w b v L born) (hu : Upd [] w w') : HeapAt w' b v L born := h.upd hu (by simp) (by simp) (by simp)
theorem HeapAt.set2 {w : World} {b s n c : Nat} {L : List It} {born : Int} (h : HeapAt w b (.slice (some ⟨s, 0, none⟩) n c) L born) {i : Nat} (hi : i < L.length) (x : It) (hx : EvAt w x.p x.ev ∧ x.p ≠ b ∧ s ≠ x.p) :
    HeapAt ((w.setCell ⟨s, i * 2, none⟩ (.pointer (some ⟨x.p, 0, none⟩))).setCell ⟨s, i * 2 + 1, none⟩ (.int .i64 x.born)) b (.slice (some ⟨s, 0, none⟩) n c) (L.set i x) born := by
  have hsb : b ≠ s := fun e => h.ne (by simp [Value.ownBlock, e])
  have u : Upd [s] w ((w.setCell ⟨s, i * 2, none⟩ (.pointer (some ⟨x.p, 0, none⟩))).setCell ⟨s, i * 2 + 1, none⟩ (.int .i64 x.born)) := ((Upd.refl _ _).setCell (by simp) _).setCell (by simp) _
  refine ⟨(h.blk.other hsb _).other hsb _, ?_, h.ne, fun y hy => ?_⟩
  · have hr := ((h.row'.stored (i * 2) (.pointer (some ⟨x.p, 0, none⟩))).1.stored (i * 2 + 1) (.int .i64 x.born)).1
    rw [flatten_set2 (vals L) (vals_len L) i (by simpa [vals] using hi)] at hr
    have hn := h.len
    subst hn
    simpa [vals, List.map_set, It.vals] using hr
  · have hy' : EvAt w y.p y.ev ∧ y.p ≠ b ∧ s ≠ y.p := by
      rcases List.mem_or_eq_of_mem_set hy with h1 | rfl
      · have := h.ev y h1; simpa [Value.ownBlock] using this
      · exact hx
    exact ⟨hy'.1.upd u (by simpa using Ne.symm hy'.2.2), hy'.2.1, by simpa [Value.ownBlock] using hy'.2.2⟩
theorem HeapAt.mem {w : World} {b s n c : Nat} {L : List It} {born : Int} (h : HeapAt w b (.slice (some ⟨s, 0, none⟩) n c) L born) {x : It} (hx : x ∈ L) : EvAt w x.p x.ev ∧ x.p ≠ b ∧ s ≠ x.p := by simpa [Value.ownBlock] using h.ev x hx

theorem ls_iff (x y : Ev) : x.ls y = true ↔ (y.pr < x.pr ∨ (x.pr = y.pr ∧ (x.ix < y.ix ∨ (x.ix = y.ix ∧ x.job < y.job)))) := by
  unfold Ev.ls
  split
  · split
    · simp; omega
    · simp; omega
  · simp; omega
theorem ls_iff' (x y : Ev) : x.ls y = false ↔ ¬ (y.pr < x.pr ∨ (x.pr = y.pr ∧ (x.ix < y.ix ∨ (x.ix = y.ix ∧ x.job < y.job)))) := by
  rw [← ls_iff]; simp

def leI (x y : It) : Prop := y.ah x = false

theorem leI_iff (x y : It) : leI x y ↔ (y.ev.pr < x.ev.pr ∨ (x.ev.pr = y.ev.pr ∧ (x.ev.ix < y.ev.ix ∨ (x.ev.ix = y.ev.ix ∧ (x.ev.job < y.ev.job ∨ (x.ev.job = y.ev.job ∧ x.born ≤ y.born)))))) := by
  unfold leI It.ah
  simp only [Bool.or_eq_false_iff, Bool.and_eq_false_iff, Bool.not_eq_false', decide_eq_false_iff_not, ls_iff, ls_iff']
  omega
theorem leI_ord : Ordd leI := by
  refine ⟨fun x => ?_, fun x y z h1 h2 => ?_, fun x y => ?_⟩
  · rw [leI_iff]; omega
  · rw [leI_iff] at *; omega
  · rw [leI_iff, leI_iff]; omega
theorem leI_of_ah {x y : It} (h : x.ah y = true) : leI x y := by
  rw [leI_iff]
  unfold It.ah at h
  simp only [Bool.or_eq_true, Bool.and_eq_true, Bool.not_eq_true', decide_eq_true_eq, ls_iff, ls_iff'] at h
  omega

structure UpRel (b s : Nat) (L : List It) (born : Int) (v : Value) (w0 : World) (k : Nat) (w : World) : Prop where
  ex : ∃ L' : List It, HeapAt w b v L' born ∧ L'.Perm L ∧ UpI leI L.length (fun m => L'.getD m default) k ∧ Upd [s] w0 w

/-- Two things exchanged, cell by cell. -/
theorem HeapAt.swap {w : World} {b s n c : Nat} {L : List It} {born : Int} (h : HeapAt w b (.slice (some ⟨s, 0, none⟩) n c) L born) {i j : Nat} {xp yp : Nat} {xe ye : Ev} {xb yb : Int} (hx : L[i]? = some ⟨xp, xe, xb⟩) (hy : L[j]? = some ⟨yp, ye, yb⟩) :
    HeapAt ((((w.setCell ⟨s, i * 2, none⟩ (.pointer (some ⟨yp, 0, none⟩))).setCell ⟨s, i * 2 + 1, none⟩ (.int .i64 yb)).setCell ⟨s, j * 2, none⟩ (.pointer (some ⟨xp, 0, none⟩))).setCell ⟨s, j * 2 + 1, none⟩ (.int .i64 xb))
      b (.slice (some ⟨s, 0, none⟩) n c) (swp L i j) born := by
  have hi := (List.getElem?_eq_some_iff.1 hx).1
  have hj := (List.getElem?_eq_some_iff.1 hy).1
  have e : swp L i j = (L.set i ⟨yp, ye, yb⟩).set j ⟨xp, xe, xb⟩ := by simp [swp, List.getD, hx, hy]
  rw [e]
  have h1 := h.set2 hi ⟨yp, ye, yb⟩ (h.mem (List.mem_of_getElem? hy))
  have u : Upd [s] w ((w.setCell ⟨s, i * 2, none⟩ (.pointer (some ⟨yp, 0, none⟩))).setCell ⟨s, i * 2 + 1, none⟩ (.int .i64 yb)) := ((Upd.refl _ _).setCell (by simp) _).setCell (by simp) _
  have hm := h.mem (List.mem_of_getElem? hx)
  exact h1.set2 (by simpa using hj) ⟨xp, xe, xb⟩ ⟨hm.1.upd u (by simpa using Ne.symm hm.2.2), hm.2⟩
theorem HeapAt.drew {w : World} {b : Nat} {v : Value} {L : List It} {born : Int} (h : HeapAt w b v L born) : HeapAt w.drew b v L born := h.any (Upd.refl _ _).drew
theorem upd4 {F : List Nat} {w0 w : World} (h : Upd F w0 w) {s : Nat} (hs : s ∈ F) (i j : Nat) (a b c d : Value) :
    Upd F w0 ((((w.setCell ⟨s, i * 2, none⟩ a).setCell ⟨s, i * 2 + 1, none⟩ b).setCell ⟨s, j * 2, none⟩ c).setCell ⟨s, j * 2 + 1, none⟩ d) :=
  Upd.setCell (Upd.setCell (Upd.setCell (Upd.setCell h (.inl hs) _) (.inl hs) _) (.inl hs) _) (.inl hs) _

theorem up_round {b s c gk p : Nat} {L L' : List It} {born : Int} {w w1 : World} (hP : L'.Perm L) (hU : UpI leI L.length (fun m => L'.getD m default) gk) (h0 : 0 < gk) (hi : gk < L.length)
    (hp : p = par gk) (hr : (L'.getD gk default).ah (L'.getD p default) = true) (hH : HeapAt w1 b (.slice (some ⟨s, 0, none⟩) L.length c) L' born) (hW : Upd [s] w w1)
    {xp yp : Nat} {xe ye : Ev} {xb yb : Int} (hx : L'[gk]? = some ⟨xp, xe, xb⟩) (hy : L'[p]? = some ⟨yp, ye, yb⟩) :
    UpRel b s L born (.slice (some ⟨s, 0, none⟩) L.length c) w p
      ((((w1.setCell ⟨s, gk * 2, none⟩ (.pointer (some ⟨yp, 0, none⟩))).setCell ⟨s, gk * 2 + 1, none⟩ (.int .i64 yb)).setCell ⟨s, p * 2, none⟩ (.pointer (some ⟨xp, 0, none⟩))).setCell ⟨s, p * 2 + 1, none⟩ (.int .i64 xb)).drew := by
  have hl := hP.length_eq
  have hpk : p < gk := by unfold par at hp; omega
  have h2 := hH.swap hx hy
  refine ⟨swp L' gk p, h2.drew, (swp_perm L' gk p (by omega) (by omega)).trans hP, ?_, (upd4 hW (by simp) gk p _ _ _ _).drew⟩
  have hs : (fun m => (swp L' gk p).getD m default) = swf (fun x => L'.getD x default) gk p := funext (swp_at L' gk p (by omega) (by omega))
  rw [hs, hp]
  rw [hp] at hr
  exact upI_step leI_ord hU hi h0 (leI_of_ah hr)

set_option maxHeartbeats 1000000 in
theorem up_any (b : Nat) (v : Value) (L : List It) (born : Int) (w : World) (h : HeapAt w b v L born) (k : Nat) (hk : k < L.length) (hL : L.length ≤ 17592186044414)
    (hu : UpI leI L.length (fun m => L.getD m default) k) :
    Calls Try.prog 36 #[.pointer (some ⟨b, 0, none⟩), .int .i64 k] w fun e w' => e = .returned (.tuple #[]) ∧
      ∃ L', HeapAt w' b v L' born ∧ L'.Perm L ∧ Heaped leI L.length 0 (fun m => L'.getD m default) ∧ Upd v.ownBlock.toList w w' := by
  obtain ⟨s, c, rfl, hlc, hcm, hs, hsb⟩ := h.isSome (by omega)
  go_enter Try.func36, Try.ntmps36
  go_wp2_with fail
  go_loopg [1] k (fun i t wr => t = .int .i64 i ∧ i < L.length ∧ UpRel b s L born (.slice (some ⟨s, 0, none⟩) L.length c) w i wr)
  case atStart => exact ⟨rfl, hk, ⟨L, h, List.Perm.refl _, hu, Upd.refl _ _⟩⟩
  case round =>
    obtain ⟨rfl, hi, L', hH, hP, hU, hW⟩ := hrel
    have hlen := hP.length_eq
    clear h hu hk hs
    by_cases h0 : gk = 0
    · subst h0
      have hd : decide ((0 : Int) < ((0 : Nat) : Int)) = false := rfl
      go_wp2_with fail
      go_end0
      exact ⟨rfl, L', hH, hP, upI_done hU hi (.inl rfl), by simpa [Value.ownBlock] using hW⟩
    · have h1 : (0 : Int) < gk := by omega
      obtain ⟨p, hp⟩ : ∃ p, p = par gk := ⟨_, rfl⟩
      have hpk : p < gk := by unfold par at hp; omega
      have hpI : ((gk : Int) - 1) / 2 = (p : Int) := by unfold par at hp; omega
      have Hp := Lib.hid hp
      clear hp h0
      obtain ⟨r, hr⟩ : ∃ r, (L'.getD gk default).ah (L'.getD p default) = r := ⟨_, rfl⟩
      have Hr := Lib.hid hr
      clear hr
      cases r
      · go_wp2_with (go_at_call 40; refine (ahead_int b _ L' born _ hH _ _ gk p rfl rfl (by omega) (by omega) (by omega) false Hr.out).mono ?_; rintro e w1 ⟨rfl, hu1⟩)
        go_end0
        refine ⟨rfl, L', hH.any hu1, hP, upI_done hU hi (.inr ?_), by simpa [Value.ownBlock] using hW.trans hu1 (by simp)⟩
        rw [← Hp.out]; exact Hr.out
      · go_wp2_with (go_at_call 40; refine (ahead_int b _ L' born _ hH _ _ gk p rfl rfl (by omega) (by omega) (by omega) true Hr.out).mono ?_; rintro e w1 ⟨rfl, hu1⟩)
        have hH1 : HeapAt w1 b (.slice (some ⟨s, 0, none⟩) L.length c) L' born := hH.any hu1
        have hW1 := hW.trans hu1 (by simp)
        clear hH hW hu1
        obtain ⟨⟨xp, xe, xb⟩, hx⟩ : ∃ x, L'[gk]? = some x := ⟨_, List.getElem?_eq_getElem (by omega)⟩
        obtain ⟨⟨yp, ye, yb⟩, hy⟩ : ∃ y, L'[p]? = some y := ⟨_, List.getElem?_eq_getElem (by omega)⟩
        obtain ⟨hi0, hi1⟩ := hH1.at hx
        obtain ⟨hj0, hj1⟩ := hH1.at hy
        have hb0 := hH1.blk.cell (o := 0) rfl
        have hf0 := hH1.froz (gk * 2)
        have hf1 := hH1.froz (gk * 2 + 1)
        have hg0 := hH1.froz (p * 2)
        have hg1 := hH1.froz (p * 2 + 1)
        have Hx := Lib.hid hx
        have Hy := Lib.hid hy
        have Hn := Lib.hid hlen
        dsimp only at hi0 hi1 hj0 hj1
        have hpn : p < L.length := by omega
        clear hx hy hlen
        go_region
        go_wp2_with fail
        go_roundg p
        case measure => exact hpk
        case rel =>
          clear hi0 hi1 hj0 hj1 hb0 hf0 hf1 hg0 hg1
          exact ⟨by rw [hpI], hpn, up_round hP hU (by omega) hi Hp.out Hr.out hH1 hW1 Hx.out Hy.out⟩

end Go.Proofs.Ytlebhaobfheocaa
