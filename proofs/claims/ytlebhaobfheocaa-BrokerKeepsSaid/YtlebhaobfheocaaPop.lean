/- heap.Heap's Pop. -/
import Derived.Test.YtlebhaobfheocaaDel
import Derived.Test.YtlebhaobfheocaaPush
import Derived.Test.YtlebhaobfheocaaDown
set_option linter.unusedVariables false
set_option linter.unusedSimpArgs false
namespace Go.Proofs.Ytlebhaobfheocaa
open Go.RowKit Go.Lb Go.Hp

theorem pop_nil (b : Nat) (v : Value) (born : Int) (w : World) (h : HeapAt w b v [] born) :
    Calls Try.prog 30 #[.pointer (some ⟨b, 0, none⟩)] w fun e w' => e = .returned (.tuple #[.pointer none, .bool false]) ∧ Upd [] w w' := by
  go_enter Try.func30, Try.ntmps30
  go_wp2_with fail
  refine (peek_nil b v born _ h).mono ?_
  rintro e w1 ⟨rfl, hu⟩
  have Hu := Lib.hid hu
  clear hu
  go_wp2_with fail
  refine bodyPost_ret (v := .tuple #[.pointer none, .bool false]) ?_ rfl ⟨rfl, Hu.out⟩
  simp [results, Try.results30, go_sem, *]

structure PopMid (w : World) (b : Nat) (v : Value) (L : List It) (born : Int) (wc : World) : Prop where
  heap : HeapAt wc b v L born
  upd : Upd (b :: v.ownBlock.toList) w wc

/-- The last thing in the place of the first. -/
def popL (L : List It) (m : Nat) : List It := (L.set 0 (L.getD m default)).take m

theorem popL_len {L : List It} {m : Nat} (h : L.length = m + 1) : (popL L m).length = m := by simp [popL, h]

theorem popL_perm {L : List It} {m : Nat} (h : L.length = m + 1) : (L.getD 0 default :: popL L m).Perm L := by
  match L, h with
  | x :: t, h =>
    have ht : t.length = m := by simpa using h
    unfold popL
    cases m with
    | zero => simp [List.length_eq_zero_iff.1 ht]
    | succ m =>
      have hne : t ≠ [] := by intro e; subst e; simp at ht
      have hl : (x :: t).getD (m + 1) default = t.getLast hne := by
        rw [List.getLast_eq_getElem]
        simp [List.getD, ht]
      rw [hl]
      simp only [List.set_cons_zero, List.take_succ_cons]
      have hd : t.take m = t.dropLast := by rw [List.dropLast_eq_take, ht]; rfl
      rw [hd]
      refine List.Perm.cons x ?_
      have := List.dropLast_concat_getLast hne
      conv => rhs; rw [← this]
      exact (List.perm_append_singleton _ _).symm

theorem popL_down {L : List It} {m : Nat} (h : L.length = m + 1) (hh : Heaped leI L.length 0 (fun x => L.getD x default)) : DownI leI (popL L m).length 0 (fun x => (popL L m).getD x default) 0 := by
  rw [popL_len h]
  refine downI_root (g := fun x => L.getD x default) (fun i hi hin hm => hh i hi (by omega) hm) _ fun i hi hin => ?_
  simp only [popL, List.getD_eq_getElem?_getD, List.getElem?_take]
  rw [if_pos hin, List.getElem?_set_ne (by omega)]

theorem popMid_set {w wc : World} {b s c m : Nat} {L : List It} {born : Int} {yp : Nat} {ye : Ev} {yb : Int} (h : PopMid w b (.slice (some ⟨s, 0, none⟩) (m + 1) c) L born wc) (hy : L[m]? = some ⟨yp, ye, yb⟩) :
    PopMid w b (.slice (some ⟨s, 0, none⟩) (m + 1) c) (L.set 0 (L.getD m default)) born ((wc.setCell ⟨s, 0, none⟩ (.pointer (some ⟨yp, 0, none⟩))).setCell ⟨s, 1, none⟩ (.int .i64 yb)).drew := by
  have hm := (List.getElem?_eq_some_iff.1 hy).1
  have h3 := h.heap.set2 (i := 0) (by omega) ⟨yp, ye, yb⟩ (h.heap.mem (List.mem_of_getElem? hy))
  simp only [Nat.zero_mul, Nat.zero_add] at h3
  have e : L.getD m default = ⟨yp, ye, yb⟩ := by simp [List.getD, hy]
  rw [e]
  have hin : s ∈ b :: (Value.slice (some ⟨s, 0, none⟩) (m + 1) c).ownBlock.toList := by simp [Value.ownBlock]
  exact ⟨h3.drew, ((h.upd.setCell (.inl hin) _).setCell (.inl hin) _).drew⟩

theorem popMid_del {w wc w2 : World} {b s c m : Nat} {L : List It} {born : Int} (h : PopMid w b (.slice (some ⟨s, 0, none⟩) (m + 1) c) L born wc)
    (ho : w2.ownsRow 0 77 2 (.slice (some ⟨s, 0, none⟩) m c) m (vals (L.take m)).flatten) (hu : Upd [s] wc w2) :
    PopMid w b (.slice (some ⟨s, 0, none⟩) m c) (L.take m) born (w2.setCell ⟨b, 0, none⟩ (.slice (some ⟨s, 0, none⟩) m c)) ∧ Blk w2 b 75 [.slice (some ⟨s, 0, none⟩) (m + 1) c, .int .i64 born] := by
  have hsb : b ≠ s := fun e => h.heap.ne (by simp [Value.ownBlock, e])
  have hl := h.heap.len
  have hB : Blk w2 b 75 [.slice (some ⟨s, 0, none⟩) (m + 1) c, .int .i64 born] := hu.blk h.heap.blk (by simp [hsb])
  have hlt : (L.take m).length = m := by simp; omega
  have uS : Upd [b] w2 (w2.setCell ⟨b, 0, none⟩ (.slice (some ⟨s, 0, none⟩) m c)) := (Upd.refl _ _).setCell (by simp) _
  refine ⟨⟨⟨hB.set 0 _, ?_, by simp [Value.ownBlock, Ne.symm hsb], fun x hx => ?_⟩, ?_⟩, hB⟩
  · rw [hlt]
    exact ownsRow_setCell_other ho (by simp [Value.ownBlock, Ne.symm hsb]) _
  · have hm := h.heap.mem (List.mem_of_mem_take hx)
    exact ⟨(hm.1.upd hu (by simpa using Ne.symm hm.2.2)).upd uS (by simpa using hm.2.1), hm.2.1, by simpa [Value.ownBlock] using hm.2.2⟩
  · refine (Upd.trans (h.upd.mono (G := b :: (Value.slice (some ⟨s, 0, none⟩) m c).ownBlock.toList) (by simp [Value.ownBlock])) hu (by simp [Value.ownBlock])).setCell (by simp) _

theorem down_root (b : Nat) (v : Value) (L : List It) (born : Int) (w : World) (h : HeapAt w b v L born) (hL : L.length ≤ 8796093022207) (hu : DownI leI L.length 0 (fun x => L.getD x default) 0) :
    Calls Try.prog 39 #[.pointer (some ⟨b, 0, none⟩), .int .i64 0] w fun e w' => e = .returned (.tuple #[]) ∧
      ∃ L', HeapAt w' b v L' born ∧ L'.Perm L ∧ Heaped leI L.length 0 (fun x => L'.getD x default) ∧ Upd v.ownBlock.toList w w' := by
  by_cases hn : L = []
  · subst hn
    refine (down_nil b v born w h).mono ?_
    rintro e w' ⟨rfl, rfl⟩
    exact ⟨rfl, [], h, List.Perm.refl _, fun i h1 h2 => by simp at h2, Upd.refl _ _⟩
  · exact down_some b v L born w h 0 0 (List.length_pos_iff.2 hn) (Nat.le_refl _) hL hu

set_option maxHeartbeats 1000000 in
theorem pop_some (b : Nat) (v : Value) (L : List It) (x : It) (born : Int) (w : World) (h : HeapAt w b v L born) (hx : L[0]? = some x) (hL : L.length ≤ 8796093022206) (hh : Heaped leI L.length 0 (fun x => L.getD x default)) :
    Calls Try.prog 30 #[.pointer (some ⟨b, 0, none⟩)] w fun e w' => e = .returned (.tuple #[.pointer (some ⟨x.p, 0, none⟩), .bool true]) ∧
      ∃ v' L', HeapAt w' b v' L' born ∧ (x :: L').Perm L ∧ Heaped leI L'.length 0 (fun i => L'.getD i default) ∧ Upd (b :: v.ownBlock.toList) w w' ∧ v'.ownBlock = v.ownBlock := by
  obtain ⟨m, hm⟩ : ∃ m, L.length = m + 1 := ⟨L.length - 1, by have := (List.getElem?_eq_some_iff.1 hx).1; omega⟩
  obtain ⟨s, c, rfl, hlc, hcm, hs, hsb⟩ := h.isSome (by omega)
  obtain ⟨xp, xe, xb⟩ := x
  have hbw := h.blk.lt
  rw [hm] at h
  have H := Lib.hid h
  clear h
  go_enter Try.func30, Try.ntmps30
  go_wp2_with fail
  refine (peek_some b _ L _ born _ H.out hx).mono ?_
  rintro e w1 ⟨rfl, hu⟩
  have hH1 : HeapAt w1 b (.slice (some ⟨s, 0, none⟩) (m + 1) c) L born := H.out.any hu
  have h0 := hH1.blk.cell (o := 0) rfl
  have hb1 := hH1.blk.lt
  have hs1 : s < w1.heap.size := Nat.lt_of_lt_of_le hs hu.size
  have Hx := Lib.hid hx
  have Hh := Lib.hid hh
  have Hm := Lib.hid hm
  have HH1 := Lib.hid hH1
  have HU1 := Lib.hid hu
  have hm2 : m + 1 ≤ 8796093022206 := by omega
  clear hu hlc hx hh hm hH1 hL H
  dsimp only
  go_upto_region 4 with fail
  have hx := Hx.out
  obtain ⟨⟨yp, ye, yb⟩, hy⟩ : ∃ y, L[m]? = some y := ⟨_, List.getElem?_eq_getElem (by have := Hm.out; omega)⟩
  obtain ⟨hi0, hi1⟩ := HH1.out.at hx
  obtain ⟨hj0, hj1⟩ := HH1.out.at hy
  have hf0 := HH1.out.froz 0
  have hf1 := HH1.out.froz 1
  simp only [Nat.zero_mul, Nat.zero_add] at hi0 hi1
  dsimp only at hi0 hi1 hj0 hj1
  have Hc : Hid (PopMid w b (.slice (some ⟨s, 0, none⟩) (m + 1) c) L born w1) := Lib.hid ⟨HH1.out, HU1.out.mono (by simp)⟩
  have Hy := Lib.hid hy
  unfold maxLen at hcm
  clear hx hy
  go_cut [22] (fun _ wd => PopMid w b (.slice (some ⟨s, 0, none⟩) (m + 1) c) (L.set 0 (L.getD m default)) born wd)
  case first =>
    go_region
    all_goals
      go_wp2_with fail
      go_meet
      exact popMid_set Hc.out Hy.out
  case rest =>
    clear hi0 hi1 hj0 hj1 h0 hf0 hf1 Hc HH1 HU1
    have hb0 := hcut.heap.blk.cell (o := 0) rfl
    have Hc2 := Lib.hid hcut
    clear hcut
    go_wp2_with fail
    refine (delete_last b s c _ m born _ Hc2.out.heap (by have := Hm.out; simp; omega)).mono ?_
    rintro e w2 ⟨rfl, ho, hu2⟩
    obtain ⟨hM, hB⟩ := popMid_del Hc2.out ho hu2
    have g0 := hB.cell (o := 0) rfl
    have gf := hB.frozen 0
    have HM := Lib.hid hM
    clear hM hB ho hu2 hb0
    go_wp2_with fail
    refine (down_root b _ (popL L m) born _ HM.out.heap (by rw [popL_len Hm.out]; omega) (popL_down Hm.out Hh.out)).mono ?_
    rintro e w3 ⟨rfl, L', hH3, hP3, hh3, hU3⟩
    have HE := Lib.hid hH3
    have HP := Lib.hid hP3
    have Hhh := Lib.hid hh3
    have HU3 := Lib.hid hU3
    clear hH3 hU3 hP3 hh3 g0 gf
    go_wp2_with fail
    refine bodyPost_ret (v := .tuple #[.pointer (some ⟨xp, 0, none⟩), .bool true]) ?_ rfl ?_
    · simp [results, Try.results30, go_sem, *]
    · have hL0 : L.getD 0 default = ⟨xp, xe, xb⟩ := by have := Hx.out; simp [List.getD, this]
      refine ⟨rfl, _, L', HE.out, ?_, by rw [HP.out.length_eq]; exact Hhh.out, ?_, rfl⟩
      · rw [← hL0]
        exact (List.Perm.cons _ HP.out).trans (popL_perm Hm.out)
      · exact (HM.out.upd.trans HU3.out (by simp [Value.ownBlock])).mono (by simp [Value.ownBlock])

/-- The heap at b lies in the blocks fp and holds L, the least one first. -/
def HeapIs (w : World) (b : Nat) (fp : List Nat) (L : List It) (born : Int) : Prop :=
  ∃ v, HeapAt w b v L born ∧ Heaped leI L.length 0 (fun i => L.getD i default) ∧ fp = b :: v.ownBlock.toList

theorem HeapIs.lt {w : World} {b : Nat} {fp : List Nat} {L : List It} {born : Int} (h : HeapIs w b fp L born) : ∀ x ∈ fp, x < w.heap.size := by
  obtain ⟨v, h1, h2, rfl⟩ := h
  intro x hx
  rcases List.mem_cons.1 hx with rfl | hx
  · exact h1.blk.lt
  · simp only [Option.mem_toList, Option.mem_def] at hx
    exact (h1.row.lt x hx).2

theorem hnew (w : World) : Calls Try.prog 28 #[] w fun e w' => ∃ b, e = .returned (.pointer (some ⟨b, 0, none⟩)) ∧ HeapIs w' b [b] [] 0 ∧ Upd [] w w' ∧ w.heap.size ≤ b :=
  (new_any w).mono fun e w' ⟨b, h1, h2, h3, h4⟩ => ⟨b, h1, ⟨_, h2, fun i _ hi => by simp at hi, by simp [Value.ownBlock]⟩, h3, h4⟩

theorem hpush (b : Nat) (fp : List Nat) (L : List It) (born : Int) (p : Nat) (ev : Ev) (w : World) (h : HeapIs w b fp L born) (hp : EvAt w p ev) (hpf : p ∉ fp) (hL : L.length ≤ 8796093022206) (hb0 : 0 ≤ born) (hb1 : born ≤ 8796093022206) :
    Calls Try.prog 29 #[.pointer (some ⟨b, 0, none⟩), .pointer (some ⟨p, 0, none⟩)] w fun e w' => e = .returned (.tuple #[]) ∧
      ∃ fp' L', HeapIs w' b fp' L' (born + 1) ∧ L'.Perm (L ++ [⟨p, ev, born + 1⟩]) ∧ Upd fp w w' ∧ ∀ x ∈ fp', x ∈ fp ∨ w.heap.size ≤ x := by
  obtain ⟨v, h1, h2, rfl⟩ := h
  simp only [List.mem_cons, Option.mem_toList, Option.mem_def, not_or] at hpf
  refine (push_any b v L born p ev w h1 ⟨hp, hpf⟩ hL hb0 hb1 h2).mono ?_
  rintro e w' ⟨he, v', L', g1, g2, g3, g4, g5⟩
  refine ⟨he, _, L', ⟨v', g1, g3, rfl⟩, g2, g4, fun x hx => ?_⟩
  rcases List.mem_cons.1 hx with rfl | hx
  · exact .inl (by simp)
  · rcases g5 x (by simpa using hx) with h | h
    · exact .inl (by simp [h])
    · exact .inr h
theorem hpop_nil (b : Nat) (fp : List Nat) (born : Int) (w : World) (h : HeapIs w b fp [] born) :
    Calls Try.prog 30 #[.pointer (some ⟨b, 0, none⟩)] w fun e w' => e = .returned (.tuple #[.pointer none, .bool false]) ∧ Upd [] w w' :=
  let ⟨v, h1, _⟩ := h
  pop_nil b v born w h1
theorem hpop (b : Nat) (fp : List Nat) (L : List It) (born : Int) (w : World) (h : HeapIs w b fp L born) (hn : L ≠ []) (hL : L.length ≤ 8796093022206) :
    Calls Try.prog 30 #[.pointer (some ⟨b, 0, none⟩)] w fun e w' => ∃ x, e = .returned (.tuple #[.pointer (some ⟨x.p, 0, none⟩), .bool true]) ∧ x ∈ L ∧ (∀ y ∈ L, leI x y) ∧ Upd fp w w' := by
  obtain ⟨v, h1, h2, rfl⟩ := h
  have hp : 0 < L.length := List.length_pos_iff.2 hn
  obtain ⟨x, hx⟩ : ∃ x, L[0]? = some x := ⟨_, List.getElem?_eq_getElem hp⟩
  refine (pop_some b v L x born w h1 hx hL h2).mono ?_
  rintro e w' ⟨he, v', L', g1, g2, g3, g4, g5⟩
  refine ⟨x, he, List.mem_of_getElem? hx, fun y hy => ?_, g4⟩
  obtain ⟨i, hi, rfl⟩ := List.getElem_of_mem hy
  have := heaped_least leI_ord h2 i hi
  simpa [List.getD, hx, hi] using this
end Go.Proofs.Ytlebhaobfheocaa
