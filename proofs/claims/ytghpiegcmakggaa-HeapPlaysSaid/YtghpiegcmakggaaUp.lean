/- heap.Heap's up. -/
import Derived.Test.YtghpiegcmakggaaHeap
set_option linter.unusedVariables false
set_option linter.unusedSimpArgs false
namespace Go.Proofs.Ytghpiegcmakggaa
open Go.RowKit Go.Lb Go.Hp

theorem ahead_int (b : Nat) (v : Value) (L : List It) (born : Int) (w : World) (h : HeapAt w b v L born) (I J : Int) (i j : Nat) (hI : I = i) (hJ : J = j) (hi : i < L.length) (hj : j < L.length) (hL : L.length ≤ 11728124029612) (r : Bool) (hr : (L.getD i default).ah (L.getD j default) = r) :
    Calls Try.prog 29 #[.pointer (some ⟨b, 0, none⟩), .int .i64 I, .int .i64 J] w fun e w' => e = .returned (.bool r) ∧ Upd [] w w' := by
  subst hI; subst hJ; subst hr
  exact ahead_any b v L born w h i j _ _ (by simp [List.getD, hi]) (by simp [List.getD, hj]) hL

theorem HeapAt.len {w : World} {b s n c : Nat} {L : List It} {born : Int} (h : HeapAt w b (.slice (some ⟨s, 0, none⟩) n c) L born) : n = L.length := by
  rcases h.row.2 with ⟨h1, _⟩ | ⟨_, _, _, h1, _⟩
  · cases h1
  · cases h1; rfl
theorem HeapAt.row' {w : World} {b s n c : Nat} {L : List It} {born : Int} (h : HeapAt w b (.slice (some ⟨s, 0, none⟩) n c) L born) : w.ownsRow 0 55 3 (.slice (some ⟨s, 0, none⟩) n c) n (vals L).flatten := by
  have := h.row; rwa [← h.len] at this
theorem HeapAt.froz {w : World} {b s n c : Nat} {L : List It} {born : Int} (h : HeapAt w b (.slice (some ⟨s, 0, none⟩) n c) L born) (j : Nat) : w.frozen? ⟨s, j, none⟩ = false := h.row'.frozenAt j

theorem HeapAt.set3 {w : World} {b s n c : Nat} {L : List It} {born : Int} (h : HeapAt w b (.slice (some ⟨s, 0, none⟩) n c) L born) {i : Nat} (hi : i < L.length) (k t bo : Int) :
    HeapAt (((w.setCell ⟨s, i * 3, none⟩ (.int .i64 k)).setCell ⟨s, i * 3 + 1, none⟩ (.int .i64 t)).setCell ⟨s, i * 3 + 2, none⟩ (.int .i64 bo)) b (.slice (some ⟨s, 0, none⟩) n c) (L.set i ⟨k, t, bo⟩) born := by
  have hsb : b ≠ s := fun e => h.ne (by simp [Value.ownBlock, e])
  refine ⟨((h.blk.other hsb _).other hsb _).other hsb _, ?_, h.ne⟩
  have hr := (((h.row'.stored (i * 3) (.int .i64 k)).1.stored (i * 3 + 1) (.int .i64 t)).1.stored (i * 3 + 2) (.int .i64 bo)).1
  rw [flatten_set3 (vals L) (vals_len L) i (by simpa [vals] using hi)] at hr
  have hn := h.len
  subst hn
  simpa [vals, List.map_set, It.vals] using hr

def leI (x y : It) : Prop := y.ah x = false

theorem leI_iff (x y : It) : leI x y ↔ (x.key < y.key ∨ (x.key = y.key ∧ x.born ≤ y.born)) := by
  unfold leI It.ah
  simp only [Bool.or_eq_false_iff, Bool.and_eq_false_iff, Bool.not_eq_false', decide_eq_true_eq, decide_eq_false_iff_not]
  omega
theorem leI_ord : Ordd leI := by
  refine ⟨fun x => ?_, fun x y z h1 h2 => ?_, fun x y => ?_⟩
  · rw [leI_iff]; omega
  · rw [leI_iff] at *; omega
  · rw [leI_iff, leI_iff]; omega
theorem leI_of_ah {x y : It} (h : x.ah y = true) : leI x y := by
  rw [leI_iff]
  unfold It.ah at h
  simp only [Bool.or_eq_true, Bool.and_eq_true, Bool.not_eq_true', decide_eq_true_eq, decide_eq_false_iff_not] at h
  omega

structure UpRel (b s : Nat) (L : List It) (born : Int) (v : Value) (w0 : World) (k : Nat) (w : World) : Prop where
  ex : ∃ L' : List It, HeapAt w b v L' born ∧ L'.Perm L ∧ UpI leI L.length (fun m => L'.getD m default) k ∧ Upd [s] w0 w

/-- Two things exchanged, cell by cell. -/
theorem HeapAt.swap {w : World} {b s n c : Nat} {L : List It} {born : Int} (h : HeapAt w b (.slice (some ⟨s, 0, none⟩) n c) L born) {i j : Nat} {xk xt xb yk yt yb : Int} (hx : L[i]? = some ⟨xk, xt, xb⟩) (hy : L[j]? = some ⟨yk, yt, yb⟩) :
    HeapAt ((((((w.setCell ⟨s, i * 3, none⟩ (.int .i64 yk)).setCell ⟨s, i * 3 + 1, none⟩ (.int .i64 yt)).setCell ⟨s, i * 3 + 2, none⟩ (.int .i64 yb)).setCell ⟨s, j * 3, none⟩ (.int .i64 xk)).setCell ⟨s, j * 3 + 1, none⟩ (.int .i64 xt)).setCell ⟨s, j * 3 + 2, none⟩ (.int .i64 xb))
      b (.slice (some ⟨s, 0, none⟩) n c) (swp L i j) born := by
  have hi := (List.getElem?_eq_some_iff.1 hx).1
  have hj := (List.getElem?_eq_some_iff.1 hy).1
  have e : swp L i j = (L.set i ⟨yk, yt, yb⟩).set j ⟨xk, xt, xb⟩ := by simp [swp, List.getD, hx, hy]
  rw [e]
  exact (h.set3 hi yk yt yb).set3 (by simpa using hj) xk xt xb
theorem HeapAt.drew {w : World} {b : Nat} {v : Value} {L : List It} {born : Int} (h : HeapAt w b v L born) : HeapAt w.drew b v L born := ⟨h.blk.drew, h.row.drew, h.ne⟩
theorem upd6 {F : List Nat} {w0 w : World} (h : Upd F w0 w) {s : Nat} (hs : s ∈ F) (i j : Nat) (a b c d e f : Value) :
    Upd F w0 ((((((w.setCell ⟨s, i * 3, none⟩ a).setCell ⟨s, i * 3 + 1, none⟩ b).setCell ⟨s, i * 3 + 2, none⟩ c).setCell ⟨s, j * 3, none⟩ d).setCell ⟨s, j * 3 + 1, none⟩ e).setCell ⟨s, j * 3 + 2, none⟩ f) :=
  Upd.setCell (Upd.setCell (Upd.setCell (Upd.setCell (Upd.setCell (Upd.setCell h (.inl hs) _) (.inl hs) _) (.inl hs) _) (.inl hs) _) (.inl hs) _) (.inl hs) _

theorem up_round {b s c gk p : Nat} {L L' : List It} {born : Int} {w w1 : World} (hP : L'.Perm L) (hU : UpI leI L.length (fun m => L'.getD m default) gk) (h0 : 0 < gk) (hi : gk < L.length)
    (hp : p = par gk) (hr : (L'.getD gk default).ah (L'.getD p default) = true) (hH : HeapAt w1 b (.slice (some ⟨s, 0, none⟩) L.length c) L' born) (hW : Upd [s] w w1)
    {xk xt xb yk yt yb : Int} (hx : L'[gk]? = some ⟨xk, xt, xb⟩) (hy : L'[p]? = some ⟨yk, yt, yb⟩) :
    UpRel b s L born (.slice (some ⟨s, 0, none⟩) L.length c) w p
      ((((((w1.setCell ⟨s, gk * 3, none⟩ (.int .i64 yk)).setCell ⟨s, gk * 3 + 1, none⟩ (.int .i64 yt)).setCell ⟨s, gk * 3 + 2, none⟩ (.int .i64 yb)).setCell ⟨s, p * 3, none⟩ (.int .i64 xk)).setCell ⟨s, p * 3 + 1, none⟩ (.int .i64 xt)).setCell ⟨s, p * 3 + 2, none⟩ (.int .i64 xb)).drew := by
  have hl := hP.length_eq
  have hpk : p < gk := by unfold par at hp; omega
  have h2 := hH.swap hx hy
  refine ⟨swp L' gk p, h2.drew, (swp_perm L' gk p (by omega) (by omega)).trans hP, ?_, (upd6 hW (by simp) gk p _ _ _ _ _ _).drew⟩
  have hs : (fun m => (swp L' gk p).getD m default) = swf (fun x => L'.getD x default) gk p := funext (swp_at L' gk p (by omega) (by omega))
  rw [hs, hp]
  rw [hp] at hr
  exact upI_step leI_ord hU hi h0 (leI_of_ah hr)

set_option maxHeartbeats 1000000 in
theorem up_any (b : Nat) (v : Value) (L : List It) (born : Int) (w : World) (h : HeapAt w b v L born) (k : Nat) (hk : k < L.length) (hL : L.length ≤ 11728124029612)
    (hu : UpI leI L.length (fun m => L.getD m default) k) :
    Calls Try.prog 23 #[.pointer (some ⟨b, 0, none⟩), .int .i64 k] w fun e w' => e = .returned (.tuple #[]) ∧
      ∃ L', HeapAt w' b v L' born ∧ L'.Perm L ∧ Heaped leI L.length 0 (fun m => L'.getD m default) ∧ Upd v.ownBlock.toList w w' := by
  obtain ⟨s, c, rfl, hlc, hcm, hs, hsb⟩ := h.isSome (by omega)
  go_enter Try.func23, Try.ntmps23
  go_wp2_with fail
  go_loopg [1] k (fun i t wr => t = .int .i64 i ∧ i < L.length ∧ UpRel b s L born (.slice (some ⟨s, 0, none⟩) L.length c) w i wr)
  case atStart => exact ⟨rfl, hk, ⟨L, h, List.Perm.refl _, hu, Upd.refl _ _⟩⟩
  case round =>
    obtain ⟨rfl, hi, L', hH, hP, hU, hW⟩ := hrel
    have hlen := hP.length_eq
    clear h hu hk hs
    by_cases h0 : gk = 0
    · subst h0
      have hd : decide ((0 : Int) < ((0 : Nat) : Int)) = false := rfl
      go_wp2_with fail
      go_end0
      exact ⟨rfl, L', hH, hP, upI_done hU hi (.inl rfl), by simpa [Value.ownBlock] using hW⟩
    · have h1 : (0 : Int) < gk := by omega
      obtain ⟨p, hp⟩ : ∃ p, p = par gk := ⟨_, rfl⟩
      have hpk : p < gk := by unfold par at hp; omega
      have hpI : ((gk : Int) - 1) / 2 = (p : Int) := by unfold par at hp; omega
      have Hp := Lib.hid hp
      clear hp h0
      obtain ⟨r, hr⟩ : ∃ r, (L'.getD gk default).ah (L'.getD p default) = r := ⟨_, rfl⟩
      have Hr := Lib.hid hr
      clear hr
      cases r
      · go_wp2_with (go_at_call 29; refine (ahead_int b _ L' born _ hH _ _ gk p rfl rfl (by omega) (by omega) (by omega) false Hr.out).mono ?_; rintro e w1 ⟨rfl, hu1⟩)
        go_end0
        refine ⟨rfl, L', ⟨hu1.blk hH.blk (by simp), hu1.row hH.row (by simp), hH.ne⟩, hP, upI_done hU hi (.inr ?_), by simpa [Value.ownBlock] using hW.trans hu1 (by simp)⟩
        rw [← Hp.out]; exact Hr.out
      · go_wp2_with (go_at_call 29; refine (ahead_int b _ L' born _ hH _ _ gk p rfl rfl (by omega) (by omega) (by omega) true Hr.out).mono ?_; rintro e w1 ⟨rfl, hu1⟩)
        have hH1 : HeapAt w1 b (.slice (some ⟨s, 0, none⟩) L.length c) L' born := ⟨hu1.blk hH.blk (by simp), hu1.row hH.row (by simp), hH.ne⟩
        have hW1 := hW.trans hu1 (by simp)
        clear hH hW hu1
        obtain ⟨⟨xk, xt, xb⟩, hx⟩ : ∃ x, L'[gk]? = some x := ⟨_, List.getElem?_eq_getElem (by omega)⟩
        obtain ⟨⟨yk, yt, yb⟩, hy⟩ : ∃ y, L'[p]? = some y := ⟨_, List.getElem?_eq_getElem (by omega)⟩
        obtain ⟨hi0, hi1, hi2⟩ := hH1.at hx
        obtain ⟨hj0, hj1, hj2⟩ := hH1.at hy
        have hb0 := hH1.blk.cell (o := 0) rfl
        have hf0 := hH1.froz (gk * 3)
        have hf1 := hH1.froz (gk * 3 + 1)
        have hf2 := hH1.froz (gk * 3 + 2)
        have hg0 := hH1.froz (p * 3)
        have hg1 := hH1.froz (p * 3 + 1)
        have hg2 := hH1.froz (p * 3 + 2)
        have Hx := Lib.hid hx
        have Hy := Lib.hid hy
        have Hn := Lib.hid hlen
        dsimp only at hi0 hi1 hi2 hj0 hj1 hj2
        have hpn : p < L.length := by omega
        clear hx hy hlen
        go_region
        go_wp2_with fail
        go_roundg p
        case measure => exact hpk
        case rel =>
          clear hi0 hi1 hi2 hj0 hj1 hj2 hb0 hf0 hf1 hf2 hg0 hg1 hg2
          exact ⟨by rw [hpI], hpn, up_round hP hU (by omega) hi Hp.out Hr.out hH1 hW1 Hx.out Hy.out⟩

end Go.Proofs.Ytghpiegcmakggaa
