/- heap.Heap's down. -/
import Derived.Test.YtlebhaobfheocaaUp
import Derived.Deep.CutBlock
set_option linter.unusedVariables false
set_option linter.unusedSimpArgs false
namespace Go.Proofs.Ytlebhaobfheocaa
open Go.RowKit Go.Lb Go.Hp

def DownRel (b s : Nat) (L : List It) (born : Int) (v : Value) (w0 : World) (m i : Nat) (w : World) : Prop :=
  ∃ L' : List It, HeapAt w b v L' born ∧ L'.Perm L ∧ DownI leI L.length m (fun x => L'.getD x default) i ∧ Upd [s] w0 w

def InRel (b : Nat) (L' : List It) (born : Int) (v : Value) (wr : World) (i k c : Nat) (w : World) : Prop :=
  HeapAt w b v L' born ∧ Upd [] wr w ∧ 2 * i + 1 ≤ c ∧ c ≤ 2 * i + 3 ∧ (k = i ∨ (par k = i ∧ 0 < k ∧ k < L'.length)) ∧ leI (L'.getD k default) (L'.getD i default) ∧
    ∀ d, 2 * i + 1 ≤ d → d < c → d < L'.length → leI (L'.getD k default) (L'.getD d default)

/-- behind the inner loop: k is the least of j and its children -/
def FinRel (b : Nat) (L' : List It) (born : Int) (v : Value) (wr : World) (i : Nat) (kv : Value) (w : World) : Prop :=
  ∃ k : Nat, kv = .int .i64 k ∧ HeapAt w b v L' born ∧ Upd [] wr w ∧ (k = i ∨ (par k = i ∧ 0 < k ∧ k < L'.length)) ∧ leI (L'.getD k default) (L'.getD i default) ∧
    ∀ d, 0 < d → d < L'.length → par d = i → leI (L'.getD k default) (L'.getD d default)

theorem fin_of_in {b : Nat} {L' : List It} {born : Int} {v : Value} {wr : World} {i k c : Nat} {w : World} (h : InRel b L' born v wr i k c w) (hc : 2 * i + 2 < c ∨ L'.length ≤ c) :
    FinRel b L' born v wr i (.int .i64 k) w := by
  obtain ⟨h1, h2, h3, h4, h5, h6, h7⟩ := h
  exact ⟨k, rfl, h1, h2, h5, h6, fun d hd hdn hp => h7 d (by unfold par at hp; omega) (by unfold par at hp; omega) hdn⟩

theorem in_step {b : Nat} {L' : List It} {born : Int} {v : Value} {wr : World} {i k c : Nat} {w w1 : World} (h : InRel b L' born v wr i k c w) (hu : Upd [] w w1) (hc : c ≤ 2 * i + 2) (hcn : c < L'.length) :
    (((L'.getD c default).ah (L'.getD k default) = true → InRel b L' born v wr i c (c + 1) w1)) ∧ ((L'.getD c default).ah (L'.getD k default) = false → InRel b L' born v wr i k (c + 1) w1) := by
  obtain ⟨h1, h2, h3, h4, h5, h6, h7⟩ := h
  have hH : HeapAt w1 b v L' born := h1.any hu
  have hU := h2.trans hu (by simp)
  refine ⟨fun ha => ?_, fun ha => ?_⟩
  · have hle : leI (L'.getD c default) (L'.getD k default) := leI_of_ah ha
    refine ⟨hH, hU, by omega, by omega, .inr ⟨by unfold par; omega, by omega, hcn⟩, leI_ord.trans _ _ _ hle h6, fun d hd hdc hdn => ?_⟩
    by_cases e : d = c
    · subst e; exact leI_ord.refl _
    · exact leI_ord.trans _ _ _ hle (h7 d hd (by omega) hdn)
  · refine ⟨hH, hU, by omega, by omega, h5, h6, fun d hd hdc hdn => ?_⟩
    by_cases e : d = c
    · subst e; exact ha
    · exact h7 d hd (by omega) hdn

theorem down_round {b s c j k m : Nat} {L L' : List It} {born : Int} {w wo w1 : World} (hP : L'.Perm L) (hU : DownI leI L.length m (fun x => L'.getD x default) j) (hmj : m ≤ j) (hj : j < L.length)
    (hW : Upd [s] w wo) (hk : par k = j ∧ 0 < k ∧ k < L'.length) (hki : leI (L'.getD k default) (L'.getD j default)) (hmin : ∀ d, 0 < d → d < L'.length → par d = j → leI (L'.getD k default) (L'.getD d default))
    (hH : HeapAt w1 b (.slice (some ⟨s, 0, none⟩) L.length c) L' born) (hu : Upd [] wo w1)
    {xp yp : Nat} {xe ye : Ev} {xb yb : Int} (hx : L'[j]? = some ⟨xp, xe, xb⟩) (hy : L'[k]? = some ⟨yp, ye, yb⟩) :
    DownRel b s L born (.slice (some ⟨s, 0, none⟩) L.length c) w m k
      ((((w1.setCell ⟨s, j * 2, none⟩ (.pointer (some ⟨yp, 0, none⟩))).setCell ⟨s, j * 2 + 1, none⟩ (.int .i64 yb)).setCell ⟨s, k * 2, none⟩ (.pointer (some ⟨xp, 0, none⟩))).setCell ⟨s, k * 2 + 1, none⟩ (.int .i64 xb)).drew := by
  have hl := hP.length_eq
  have h2 := hH.swap hx hy
  refine ⟨swp L' j k, h2.drew, (swp_perm L' j k (by omega) (by omega)).trans hP, ?_, (upd4 (hW.trans hu (by simp)) (by simp) j k _ _ _ _).drew⟩
  have hs : (fun x => (swp L' j k).getD x default) = swf (fun x => L'.getD x default) j k := funext (swp_at L' j k (by omega) (by omega))
  rw [hs]
  exact downI_step leI_ord hU hk.1 hk.2.1 (by omega) hmj hki (fun d h1 h2 h3 => hmin d h1 (by omega) h3)

set_option maxHeartbeats 1000000 in
theorem down_some (b : Nat) (v : Value) (L : List It) (born : Int) (w : World) (h : HeapAt w b v L born) (m i : Nat) (hi : i < L.length) (hmi : m ≤ i) (hL : L.length ≤ 8796093022207)
    (hu : DownI leI L.length m (fun x => L.getD x default) i) :
    Calls Try.prog 39 #[.pointer (some ⟨b, 0, none⟩), .int .i64 i] w fun e w' => e = .returned (.tuple #[]) ∧
      ∃ L', HeapAt w' b v L' born ∧ L'.Perm L ∧ Heaped leI L.length m (fun x => L'.getD x default) ∧ Upd v.ownBlock.toList w w' := by
  obtain ⟨s, c, rfl, hlc, hcm, hs, hsb⟩ := h.isSome (by omega)
  go_enter Try.func39, Try.ntmps39
  go_wp2_with fail
  go_loopg [1] (L.length - i) (fun g t wr => ∃ j : Nat, t = .int .i64 j ∧ m ≤ j ∧ j < L.length ∧ g = L.length - j ∧ DownRel b s L born (.slice (some ⟨s, 0, none⟩) L.length c) w m j wr)
  case atStart => exact ⟨i, rfl, hmi, hi, rfl, L, h, List.Perm.refl _, hu, Upd.refl _ _⟩
  case round =>
    obtain ⟨j, rfl, hmj, hj, rfl, L', hH, hP, hU, hW⟩ := hrel
    have Hlen := Lib.hid hP.length_eq
    have hjn : j < L'.length := by have := Hlen.out; omega
    have hLn : L'.length ≤ 8796093022207 := by have := Hlen.out; omega
    clear h hu hs hi hmi
    go_upto_block 2 with fail
    obtain ⟨wo, rfl⟩ : ∃ wo : World, wo = wr := ⟨_, rfl⟩
    go_cut [4, 5] (fun kv cv wi => FinRel b L' born (.slice (some ⟨s, 0, none⟩) L.length c) wo j kv wi)
    case first =>
      go_wp2_with fail
      go_loopg [4, 5] 2 (fun g t u wi => ∃ k c' : Nat, t = .int .i64 k ∧ u = .int .i64 c' ∧ g = 2 * j + 3 - c' ∧ InRel b L' born (.slice (some ⟨s, 0, none⟩) L.length c) wo j k c' wi)
      case atStart =>
        exact ⟨j, 2 * j + 1, rfl, by go_num, by omega, hH, Upd.refl _ _, by omega, by omega, .inl rfl, leI_ord.refl _, fun d h1 h2 => by omega⟩
      case round =>
        obtain ⟨k, c', rfl, rfl, rfl, hI⟩ := hrel
        have HI := Lib.hid hI
        obtain ⟨hHi, hu1, hc1, hc2, hk, -, -⟩ := hI
        have hkn : k < L'.length := by omega
        have hb0 := hHi.blk.cell (o := 0) rfl
        have hlen2 : (L'.length : Int) = L.length := by have := Hlen.out; omega
        clear hk hH hlen2
        by_cases hc : c' ≤ 2 * j + 2
        · by_cases hcn : c' < L.length
          · have hcn2 : c' < L'.length := by have := Hlen.out; omega
            obtain ⟨r, hr⟩ : ∃ r, (L'.getD c' default).ah (L'.getD k default) = r := ⟨_, rfl⟩
            have Hr := Lib.hid hr
            clear hr
            cases r
            · go_wp2_with (go_at_call 40; refine (ahead_int b _ L' born _ hHi _ _ c' k rfl rfl (by omega) (by omega) (by omega) false Hr.out).mono ?_; rintro e w1 ⟨rfl, hu2⟩)
              go_roundg (2 * j + 3 - (c' + 1))
              case measure => omega
              case rel => exact ⟨k, c' + 1, rfl, by go_num, rfl, (in_step HI.out hu2 hc hcn2).2 Hr.out⟩
            · go_wp2_with (go_at_call 40; refine (ahead_int b _ L' born _ hHi _ _ c' k rfl rfl (by omega) (by omega) (by omega) true Hr.out).mono ?_; rintro e w1 ⟨rfl, hu2⟩)
              go_roundg (2 * j + 3 - (c' + 1))
              case measure => omega
              case rel => exact ⟨c', c' + 1, rfl, by go_num, rfl, (in_step HI.out hu2 hc hcn2).1 Hr.out⟩
          · go_wp2_with fail
            go_meet
            exact fin_of_in HI.out (.inr (by have := Hlen.out; omega))
        · go_wp2_with fail
          go_meet
          exact fin_of_in HI.out (.inl (by omega))
    case rest =>
      obtain ⟨k, rfl, hH1, hu1, hk, hki, hmin⟩ := hcut
      by_cases hkj : k = j
      · subst hkj
        go_wp2_with fail
        go_returns
        exact ⟨rfl, L', hH1, hP, downI_done hU (fun d h1 h2 h3 => hmin d h1 (by have := Hlen.out; omega) h3), by simpa [Value.ownBlock] using hW.trans hu1 (by simp)⟩
      · have hkk : par k = j ∧ 0 < k ∧ k < L'.length := hk.resolve_left hkj
        have HK := Lib.hid hkk
        have hjk : j < k := by obtain ⟨h1, h2, _⟩ := hkk; unfold par at h1; omega
        have hkn : k < L.length := by have := Hlen.out; omega
        have hkL : k < L'.length := hkk.2.2
        clear hk hkk hkj
        obtain ⟨⟨xp, xe, xb⟩, hx⟩ : ∃ x, L'[j]? = some x := ⟨_, List.getElem?_eq_getElem (by omega)⟩
        obtain ⟨⟨yp, ye, yb⟩, hy⟩ : ∃ y, L'[k]? = some y := ⟨_, List.getElem?_eq_getElem (by omega)⟩
        obtain ⟨hi0, hi1⟩ := hH1.at hx
        obtain ⟨hj0, hj1⟩ := hH1.at hy
        have hb0 := hH1.blk.cell (o := 0) rfl
        have hf0 := hH1.froz (k * 2)
        have hf1 := hH1.froz (k * 2 + 1)
        have hg0 := hH1.froz (j * 2)
        have hg1 := hH1.froz (j * 2 + 1)
        have Hx := Lib.hid hx
        have Hy := Lib.hid hy
        dsimp only at hi0 hi1 hj0 hj1
        clear hx hy
        have Hm := Lib.hid hmin
        have Hki := Lib.hid hki
        clear hmin hki hH
        have hne : ((k : Int) == (j : Int)) = false := by simp; omega
        go_wp2_with fail
        go_region
        go_wp2_with fail
        go_roundg (L.length - k)
        case measure => omega
        case rel =>
          clear hi0 hi1 hj0 hj1 hb0 hf0 hf1 hg0 hg1
          exact ⟨k, rfl, by omega, hkn, rfl, down_round hP hU hmj hj hW HK.out Hki.out Hm.out hH1 hu1 Hx.out Hy.out⟩

end Go.Proofs.Ytlebhaobfheocaa
