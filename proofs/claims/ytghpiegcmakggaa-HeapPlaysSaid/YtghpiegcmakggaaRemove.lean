/- heap.Heap's Remove. -/
import Derived.Test.YtghpiegcmakggaaDelF
import Derived.Test.YtghpiegcmakggaaKnown
set_option linter.unusedVariables false
set_option linter.unusedSimpArgs false
namespace Go.Proofs.Ytghpiegcmakggaa
open Go.RowKit Go.Lb Go.Hp

theorem heaped_half {L : List It} : Heaped leI L.length (L.length / 2) (fun x => L.getD x default) := by
  intro i h0 hi hm
  unfold par at hm
  omega

/-- While places from m on are in order. -/
def RemRel (w : World) (b : Nat) (v : Value) (L : List It) (born : Int) (m : Nat) (wr : World) : Prop :=
  ∃ L', HeapAt wr b v L' born ∧ L'.Perm L ∧ Heaped leI L.length m (fun x => L'.getD x default) ∧ Upd (b :: v.ownBlock.toList) w wr

theorem rem_step {w wr w2 : World} {b : Nat} {v : Value} {L L' L2 : List It} {born : Int} {m : Nat} (hP : L'.Perm L) (hU : Upd (b :: v.ownBlock.toList) w wr) (h2 : HeapAt w2 b v L2 born) (hP2 : L2.Perm L') (hh : Heaped leI L'.length m (fun x => L2.getD x default)) (u : Upd v.ownBlock.toList wr w2) :
    RemRel w b v L born m w2 := ⟨L2, h2, hP2.trans hP, by rw [← hP.length_eq]; exact hh, hU.trans u (fun x hx => .inl (by simp at hx; simp [hx]))⟩

theorem down_int (b : Nat) (v : Value) (L : List It) (born : Int) (w : World) (h : HeapAt w b v L born) (I : Int) (m : Nat) (hI : I = m) (hi : m < L.length) (hL : L.length ≤ 5864062014805)
    (hu : Heaped leI L.length (m + 1) (fun x => L.getD x default)) :
    Calls Try.prog 25 #[.pointer (some ⟨b, 0, none⟩), .int .i64 I] w fun e w' => e = .returned (.tuple #[]) ∧
      ∃ L', HeapAt w' b v L' born ∧ L'.Perm L ∧ Heaped leI L.length m (fun x => L'.getD x default) ∧ Upd v.ownBlock.toList w w' := by
  subst hI
  exact down_some b v L born w h m m hi (Nat.le_refl _) hL (downI_start hu)

set_option maxHeartbeats 2000000 in
theorem remove_any (b : Nat) (v : Value) (L : List It) (born : Int) (xk xt : Int) (w : World) (h : HeapAt w b v L born) (hL : L.length ≤ 5864062014804) :
    Calls Try.prog 20 #[.pointer (some ⟨b, 0, none⟩), .agg #[.int .i64 xk, .int .i64 xt]] w fun e w' => ∃ v' L', e = .returned (.int .i64 ((L.length : Int) - L'.length)) ∧
      HeapAt w' b v' L' born ∧ L'.Perm (L.filter fun x => !x.eqk xk) ∧ Heaped leI L'.length 0 (fun x => L'.getD x default) ∧ Upd (b :: v.ownBlock.toList) w w' ∧ v'.ownBlock = v.ownBlock := by
  obtain ⟨a, c, rfl⟩ := h.shape
  have h0 := h.blk.cell (o := 0) rfl
  have hb := h.blk.lt
  have hne : (Value.slice a L.length c).ownBlock ≠ some w.heap.size := fun e => by have := (h.row.lt _ e).2; omega
  have H := Lib.hid h
  clear h
  go_enter Try.func20, Try.ntmps20
  go_wp2_with fail
  refine (delf_any _ L w.heap.size xk xt _ (World.ownsRow.alloc H.out.row _) (by omega) (Blk.new w 26 [.int .i64 xk, .int .i64 xt]) hne).mono ?_
  rintro e w1 ⟨v1, rfl, hR, hU, hv⟩
  have hB1 : Blk w1 b 53 [.slice a L.length c, .int .i64 born] := hU.blk (H.out.blk.alloc _) (by intro hx; simp at hx; exact H.out.ne hx)
  have g0 := hB1.cell (o := 0) rfl
  have gf := hB1.frozen 0
  obtain ⟨a1, c1, rfl⟩ := hR.shape
  have hH1 : HeapAt (w1.setCell ⟨b, 0, none⟩ (.slice a1 (L.filter fun x => !x.eqk xk).length c1)) b (.slice a1 (L.filter fun x => !x.eqk xk).length c1) (L.filter fun x => !x.eqk xk) born :=
    ⟨hB1.set 0 _, ownsRow_setCell_other hR (by rw [hv]; exact H.out.ne) _, by rw [hv]; exact H.out.ne⟩
  have hU1 : Upd (b :: (Value.slice a L.length c).ownBlock.toList) w (w1.setCell ⟨b, 0, none⟩ (.slice a1 (L.filter fun x => !x.eqk xk).length c1)) :=
    (((Upd.refl _ w).alloc _).trans hU (fun x hx => .inl (List.mem_cons_of_mem _ hx))).setCell (by simp) _
  have hlen : (L.filter fun x => !x.eqk xk).length ≤ L.length := List.length_filter_le _ _
  have HH1 := Lib.hid hH1
  have HU1 := Lib.hid hU1
  have Hv := Lib.hid hv
  clear hH1 hU1 hR hU hB1 hne hv
  generalize hF : (L.filter fun x => !x.eqk xk) = F at *
  have HF := Lib.hid hF
  clear hF
  go_upto_block 0 with fail
  have hR0 : RemRel (w1.setCell ⟨b, 0, none⟩ (.slice a1 F.length c1)) b (.slice a1 F.length c1) F born (F.length / 2) (w1.setCell ⟨b, 0, none⟩ (.slice a1 F.length c1)) := ⟨F, HH1.out, List.Perm.refl _, heaped_half, Upd.refl _ _⟩
  have HR0 := Lib.hid hR0
  clear hR0 g0 gf h0 hb
  generalize w1.setCell ⟨b, 0, none⟩ (.slice a1 F.length c1) = w2 at *
  go_cut [6] (fun _ wc => RemRel w2 b (.slice a1 F.length c1) F born 0 wc)
  case first =>
    go_wp2_with fail
    go_loopg [6] (F.length / 2) (fun g u wr => u = .int .i64 ((g : Int) - 1) ∧ g ≤ F.length / 2 ∧ RemRel w2 b (.slice a1 F.length c1) F born g wr)
    case atStart => exact ⟨by go_num, Nat.le_refl _, HR0.out⟩
    case round =>
      obtain ⟨rfl, hg, hR⟩ := hrel
      have HR := Lib.hid hR
      clear hR HR0
      obtain ⟨L', hH, hP, hh, hU⟩ := HR.out
      have HH := Lib.hid hH
      have HP := Lib.hid hP
      have Hh := Lib.hid hh
      have HU := Lib.hid hU
      clear hH hP hh hU HR
      by_cases h0 : gk = 0
      · subst h0
        have hd : decide ((0 : Int) ≤ ((0 : Nat) : Int) - 1) = false := rfl
        go_wp2_with fail
        go_meet
        exact ⟨L', HH.out, HP.out, Hh.out, HU.out⟩
      · have h1 : (1 : Int) ≤ gk := by omega
        have hd : decide ((0 : Int) ≤ (gk : Int) - 1) = true := by simp; omega
        have hgn : gk - 1 < L'.length := by have := HP.out.length_eq; omega
        clear h0
        go_wp2_with fail
        refine (down_int b _ L' born _ HH.out _ (gk - 1) (by omega) hgn (by have := HP.out.length_eq; omega) (by rw [show gk - 1 + 1 = gk by omega, HP.out.length_eq]; exact Hh.out)).mono ?_
        rintro e w3 ⟨rfl, L3, hH3, hP3, hh3, hU3⟩
        have H3 := Lib.hid (rem_step HP.out HU.out hH3 hP3 hh3 hU3)
        clear hH3 hP3 hh3 hU3
        go_wp2_with fail
        go_roundg (gk - 1)
        case measure => omega
        case rel => exact ⟨by congr 1; omega, by omega, H3.out⟩
  case rest =>
    obtain ⟨L', hH, hP, hh, hU⟩ := hcut
    have k0 := hH.blk.cell (o := 0) rfl
    have HH := Lib.hid hH
    have HP := Lib.hid hP
    have Hh := Lib.hid hh
    have HU := Lib.hid hU
    clear hH hP hh hU HR0
    have hFl : F.length ≤ L.length := hlen
    go_wp2_with fail
    go_ret
    refine ⟨_, L', by rw [HP.out.length_eq]; rfl, HH.out, by rw [HF.out]; exact HP.out, by rw [HP.out.length_eq]; exact Hh.out, HU1.out.trans HU.out ?_, by rw [Hv.out]⟩
    intro x hx
    rw [← Hv.out]
    exact .inl hx

theorem hremove (b : Nat) (fp : List Nat) (L : List It) (born : Int) (xk xt : Int) (w : World) (h : HeapIs w b fp L born) (hL : L.length ≤ 5864062014804) (r : Nat) (hr : r + (L.filter fun x => !x.eqk xk).length = L.length) :
    Calls Try.prog 20 #[.pointer (some ⟨b, 0, none⟩), .agg #[.int .i64 xk, .int .i64 xt]] w fun e w' => e = .returned (.int .i64 r) ∧ ∃ L', HeapIs w' b fp L' born ∧ L'.Perm (L.filter fun x => !x.eqk xk) ∧ Upd fp w w' := by
  obtain ⟨v, h1, h2, rfl⟩ := h
  refine (remove_any b v L born xk xt w h1 hL).mono ?_
  rintro e w' ⟨v', L', rfl, g1, g2, g3, g4, g5⟩
  refine ⟨?_, L', ⟨v', g1, g3, by rw [g5]⟩, g2, g4⟩
  have := g2.length_eq
  congr 2
  omega

end Go.Proofs.Ytghpiegcmakggaa
