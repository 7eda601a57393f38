/- slices.IndexFunc and DeleteFunc at the items, for each closure, of which one knows what it answers. -/
import Derived.Test.YtlebhaobfheocaaBase
set_option linter.unusedVariables false
set_option linter.unusedSimpArgs false
namespace Go.Proofs.Ytlebhaobfheocaa
open Go.RowKit Go.Lb Go.Hp

def RowP (w : World) (v : Value) (L : List Im) : Prop := w.ownsRow 0 58 1 v L.length (ptrs L)
theorem RowP.isSome {w : World} {v : Value} {L : List Im} (h : RowP w v L) (hn : 0 < L.length) : ∃ s c, v = .slice (some ⟨s, 0, none⟩) L.length c ∧ L.length ≤ c ∧ c ≤ maxLen ∧ s < w.heap.size := by
  rcases h.2 with ⟨_, h0⟩ | ⟨g, cap, cur, rfl, _, hg, hnc, hc, _⟩
  · omega
  · exact ⟨g, cap, rfl, hnc, hc, lt_of_block hg⟩
theorem RowP.cell {w : World} {s n c : Nat} {L : List Im} (h : RowP w (.slice (some ⟨s, 0, none⟩) n c) L) (hn : L.length = n) {i : Nat} {x : Im} (hx : L[i]? = some x) : w.cell? ⟨s, i, none⟩ = some x.ptr := by
  have hi := (List.getElem?_eq_some_iff.1 hx).1
  subst hn
  rw [World.ownsRow.cellAt h i (by omega)]
  simp [ptrs, hx]
theorem RowP.set {w : World} {s n c : Nat} {L : List Im} (h : RowP w (.slice (some ⟨s, 0, none⟩) n c) L) (hn : L.length = n) (i : Nat) (x : Im) : RowP (w.setCell ⟨s, i, none⟩ x.ptr) (.slice (some ⟨s, 0, none⟩) n c) (L.set i x) := by
  subst hn
  have := (World.ownsRow.stored h i x.ptr).1
  unfold RowP
  simpa [ptrs, List.map_set] using this
theorem info58 : ∃ i, Try.prog.info? 58 = some i ∧ i.zero = some (.pointer none) ∧ i.size = 1 ∧ i.bytes = 8 := by
  obtain ⟨i, h1, h2, h3, h4⟩ := info_parts (show (Try.prog.info? 58).map (fun i => (i.zero, i.size, i.bytes)) = some (some (.pointer none), 1, 8) by kernel_rfl)
  exact ⟨i, h1, h2, h3, h4⟩

structure DelRel (I : World → Prop) (P : Im → Bool) (w : World) (s n c : Nat) (L : List Im) (i j : Nat) (wr : World) : Prop where
  ex : ∃ L', DelInv (fun x => !P x) L L' i j ∧ RowP wr (.slice (some ⟨s, 0, none⟩) n c) L'
  upd : Upd [s] w wr
  inv : I wr

/-- What is known of the closure: it answers P, while I holds. -/
structure Clo24 (I : World → Prop) (P : Im → Bool) (v : Value) (L : List Im) (cap : Nat) : Prop where
  call : ∀ x ∈ L, ∀ w, I w → Calls Try.prog 24 #[x.ptr, .pointer (some ⟨cap, 0, none⟩)] w fun e w' => e = .returned (.bool (P x)) ∧ Upd [] w w'
  stable : ∀ w w', I w → Upd v.ownBlock.toList w w' → I w'

set_option maxHeartbeats 1000000 in
theorem index24_any {I : World → Prop} {P : Im → Bool} {cap : Nat} (v : Value) (L : List Im) (w : World) (h : RowP w v L) (hL : L.length ≤ 8796093022207) (hc : Clo24 I P v L cap) (hI : I w) :
    Calls Try.prog 23 #[v, .func (.func 24) #[] #[.pointer (some ⟨cap, 0, none⟩)]] w fun e w' => ∃ r : Int, e = .returned (.int .i64 r) ∧ Upd [] w w' ∧
      ((r = -1 ∧ ∀ x ∈ L, P x = false) ∨ (∃ (i : Nat) (x : Im), r = i ∧ L[i]? = some x ∧ P x = true ∧ ∀ j y, j < i → L[j]? = some y → P y = false)) := by
  obtain ⟨a, c, rfl⟩ := own_shape h
  have H := Lib.hid h
  have Hc := Lib.hid hc
  have HI := Lib.hid hI
  clear h hc hI
  go_enter Try.func23, Try.ntmps23
  go_wp2_with fail
  go_loopg [8] L.length (fun g u wr => ∃ i : Nat, u = .int .i64 i ∧ i ≤ L.length ∧ g = L.length - i ∧ Upd [] w wr ∧ ∀ j y, j < i → L[j]? = some y → P y = false)
  case atStart => exact ⟨0, rfl, Nat.zero_le _, rfl, Upd.refl _ _, fun j y hj => by omega⟩
  case round =>
    obtain ⟨i, rfl, hi, rfl, hu, hj⟩ := hrel
    have Hu := Lib.hid hu
    have Hj := Lib.hid hj
    clear hu hj
    by_cases hlt : i < L.length
    · have hR : RowP wr (.slice a L.length c) L := Hu.out.row H.out (by simp)
      obtain ⟨s, c', e, hlc, hcm, hs⟩ := hR.isSome (by omega)
      obtain ⟨rfl, rfl⟩ : a = some ⟨s, 0, none⟩ ∧ c = c' := by simpa using e
      obtain ⟨x, hx⟩ : ∃ x, L[i]? = some x := ⟨_, List.getElem?_eq_getElem hlt⟩
      have hcl := hR.cell rfl hx
      have Hx := Lib.hid hx
      clear e hx hR
      unfold maxLen at hcm
      simp only [Im.ptr] at hcl
      obtain ⟨r, hr⟩ : ∃ r, P x = r := ⟨_, rfl⟩
      have Hp := Lib.hid hr
      clear hr
      go_wp2_with fail
      refine (Hc.out.call x (List.mem_of_getElem? Hx.out) _ (Hc.out.stable _ _ HI.out (Hu.out.mono (by simp)))).mono ?_
      rintro e w1 ⟨rfl, u1⟩
      rw [Hp.out]
      have Hu1 := Lib.hid (Hu.out.trans u1 (by simp))
      clear u1 hcl
      cases r
      · go_wp2_with fail
        go_roundg (L.length - (i + 1))
        case measure => omega
        case rel =>
          refine ⟨i + 1, by go_num, by omega, rfl, Hu1.out, fun j y hj hy => ?_⟩
          by_cases e : j = i
          · subst e
            obtain rfl : x = y := by have := Hx.out.symm.trans hy; simpa using this
            exact Hp.out
          · exact Hj.out j y (by omega) hy
      · go_wp2_with fail
        go_ret
        exact ⟨_, rfl, Hu1.out, .inr ⟨i, x, rfl, Hx.out, Hp.out, Hj.out⟩⟩
    · obtain rfl : i = L.length := by omega
      go_wp2_with fail
      go_ret
      refine ⟨-1, rfl, Hu.out, .inl ⟨rfl, fun x hx => ?_⟩⟩
      obtain ⟨j, hj, rfl⟩ := List.getElem_of_mem hx
      exact Hj.out j _ hj (by simp)

/-- What is known of the closure: it answers P, while I holds. -/
structure Clo26 (I : World → Prop) (P : Im → Bool) (v : Value) (L : List Im) (cap : Nat) : Prop where
  call : ∀ x ∈ L, ∀ w, I w → Calls Try.prog 26 #[x.ptr, .pointer (some ⟨cap, 0, none⟩)] w fun e w' => e = .returned (.bool (P x)) ∧ Upd [] w w'
  stable : ∀ w w', I w → Upd v.ownBlock.toList w w' → I w'

set_option maxHeartbeats 1000000 in
theorem index26_any {I : World → Prop} {P : Im → Bool} {cap : Nat} (v : Value) (L : List Im) (w : World) (h : RowP w v L) (hL : L.length ≤ 8796093022207) (hc : Clo26 I P v L cap) (hI : I w) :
    Calls Try.prog 23 #[v, .func (.func 26) #[] #[.pointer (some ⟨cap, 0, none⟩)]] w fun e w' => ∃ r : Int, e = .returned (.int .i64 r) ∧ Upd [] w w' ∧
      ((r = -1 ∧ ∀ x ∈ L, P x = false) ∨ (∃ (i : Nat) (x : Im), r = i ∧ L[i]? = some x ∧ P x = true ∧ ∀ j y, j < i → L[j]? = some y → P y = false)) := by
  obtain ⟨a, c, rfl⟩ := own_shape h
  have H := Lib.hid h
  have Hc := Lib.hid hc
  have HI := Lib.hid hI
  clear h hc hI
  go_enter Try.func23, Try.ntmps23
  go_wp2_with fail
  go_loopg [8] L.length (fun g u wr => ∃ i : Nat, u = .int .i64 i ∧ i ≤ L.length ∧ g = L.length - i ∧ Upd [] w wr ∧ ∀ j y, j < i → L[j]? = some y → P y = false)
  case atStart => exact ⟨0, rfl, Nat.zero_le _, rfl, Upd.refl _ _, fun j y hj => by omega⟩
  case round =>
    obtain ⟨i, rfl, hi, rfl, hu, hj⟩ := hrel
    have Hu := Lib.hid hu
    have Hj := Lib.hid hj
    clear hu hj
    by_cases hlt : i < L.length
    · have hR : RowP wr (.slice a L.length c) L := Hu.out.row H.out (by simp)
      obtain ⟨s, c', e, hlc, hcm, hs⟩ := hR.isSome (by omega)
      obtain ⟨rfl, rfl⟩ : a = some ⟨s, 0, none⟩ ∧ c = c' := by simpa using e
      obtain ⟨x, hx⟩ : ∃ x, L[i]? = some x := ⟨_, List.getElem?_eq_getElem hlt⟩
      have hcl := hR.cell rfl hx
      have Hx := Lib.hid hx
      clear e hx hR
      unfold maxLen at hcm
      simp only [Im.ptr] at hcl
      obtain ⟨r, hr⟩ : ∃ r, P x = r := ⟨_, rfl⟩
      have Hp := Lib.hid hr
      clear hr
      go_wp2_with fail
      refine (Hc.out.call x (List.mem_of_getElem? Hx.out) _ (Hc.out.stable _ _ HI.out (Hu.out.mono (by simp)))).mono ?_
      rintro e w1 ⟨rfl, u1⟩
      rw [Hp.out]
      have Hu1 := Lib.hid (Hu.out.trans u1 (by simp))
      clear u1 hcl
      cases r
      · go_wp2_with fail
        go_roundg (L.length - (i + 1))
        case measure => omega
        case rel =>
          refine ⟨i + 1, by go_num, by omega, rfl, Hu1.out, fun j y hj hy => ?_⟩
          by_cases e : j = i
          · subst e
            obtain rfl : x = y := by have := Hx.out.symm.trans hy; simpa using this
            exact Hp.out
          · exact Hj.out j y (by omega) hy
      · go_wp2_with fail
        go_ret
        exact ⟨_, rfl, Hu1.out, .inr ⟨i, x, rfl, Hx.out, Hp.out, Hj.out⟩⟩
    · obtain rfl : i = L.length := by omega
      go_wp2_with fail
      go_ret
      refine ⟨-1, rfl, Hu.out, .inl ⟨rfl, fun x hx => ?_⟩⟩
      obtain ⟨j, hj, rfl⟩ := List.getElem_of_mem hx
      exact Hj.out j _ hj (by simp)

set_option maxHeartbeats 2000000 in
theorem del26_any {I : World → Prop} {P : Im → Bool} {cap : Nat} (v : Value) (L : List Im) (w : World) (h : RowP w v L) (hL : L.length ≤ 8796093022207) (hc : Clo26 I P v L cap) (hI : I w) :
    Calls Try.prog 25 #[v, .func (.func 26) #[] #[.pointer (some ⟨cap, 0, none⟩)]] w fun e w' => ∃ v', e = .returned v' ∧ RowP w' v' (L.filter fun x => !P x) ∧ Upd v.ownBlock.toList w w' ∧ v'.ownBlock = v.ownBlock := by
  obtain ⟨i0, hi, hz0, hz1, hz2⟩ := info58
  obtain ⟨a, c, rfl⟩ := own_shape h
  have H := Lib.hid h
  have Hc := Lib.hid hc
  have HI := Lib.hid hI
  clear h hc hI
  go_enter Try.func25, Try.ntmps25
  go_wp2_with fail
  refine (index26_any _ L _ H.out hL Hc.out HI.out).mono ?_
  rintro e w1 ⟨r, rfl, u1, hr⟩
  rcases hr with ⟨rfl, hall⟩ | ⟨i, x0, rfl, hx0, hp0, hif⟩
  · have Hall := Lib.hid hall
    clear hall
    go_wp2_with fail
    go_ret
    refine ⟨_, rfl, ?_, u1.mono (by simp), rfl⟩
    rw [List.filter_eq_self.2 (fun x hx => by simp [Hall.out x hx])]
    exact u1.row H.out (by simp)
  · have hin := (List.getElem?_eq_some_iff.1 hx0).1
    obtain ⟨s, c', e, hlc, hcm, hs⟩ := H.out.isSome (by omega)
    obtain ⟨rfl, rfl⟩ : a = some ⟨s, 0, none⟩ ∧ c = c' := by simpa using e
    have hS : DelRel I P w s L.length c L i (i + 1) w1 := ⟨⟨L, DelInv.start hx0 (fun j y hj hy => by simp [hif j y hj hy]) (by simp [hp0]), u1.row H.out (by simp)⟩, u1.mono (by simp), Hc.out.stable _ _ HI.out (u1.mono (by simp))⟩
    have HS := Lib.hid hS
    have hne : ((i : Int) == -1) = false := by rw [beq_eq_false_iff_ne]; omega
    clear hS u1 hx0 hp0 hif e
    unfold maxLen at hcm
    go_upto_block 0 with fail
    go_cut [5, 6] (fun u t wc => ∃ m : Nat, u = .int .i64 m ∧ m < L.length ∧ DelRel I P w s L.length c L m L.length wc)
    case first =>
      go_wp2_with fail
      go_loopg [5, 6] (L.length - (i + 1)) (fun g u t wr => ∃ m j : Nat, u = .int .i64 m ∧ t = .int .i64 j ∧ j ≤ L.length ∧ m < j ∧ g = L.length - j ∧ DelRel I P w s L.length c L m j wr)
      case atStart => exact ⟨i, i + 1, rfl, by go_num, by omega, by omega, by omega, HS.out⟩
      case round =>
        obtain ⟨m, j, rfl, rfl, hj, hmj, rfl, hS⟩ := hrel
        have HS2 := Lib.hid hS
        clear hS HS
        by_cases hlt : j < L.length
        · obtain ⟨L', hD, hR⟩ := HS2.out.ex
          obtain ⟨x, hx⟩ : ∃ x, L[j]? = some x := ⟨_, List.getElem?_eq_getElem hlt⟩
          have hcl := hR.cell hD.len ((hD.at hlt).trans hx)
          simp only [Im.ptr] at hcl
          have Hx := Lib.hid hx
          have hsl : s < wr.heap.size := (hR.isSome (by have := hD.len; omega)).elim fun _ ⟨_, e, _, _, h⟩ => by simp at e; rw [e.1]; exact h
          obtain ⟨r, hr⟩ : ∃ r, P x = r := ⟨_, rfl⟩
          have Hp := Lib.hid hr
          clear hr hx hD hR
          go_wp2_with fail
          refine (Hc.out.call x (List.mem_of_getElem? Hx.out) _ HS2.out.inv).mono ?_
          rintro e w4 ⟨rfl, u4⟩
          rw [Hp.out]
          have HI4 := Lib.hid (Hc.out.stable _ _ HS2.out.inv (u4.mono (by simp)))
          have HU4 := Lib.hid (HS2.out.upd.trans u4 (by simp))
          have HX4 : Hid (∃ L', DelInv (fun x => !P x) L L' m j ∧ RowP w4 (.slice (some ⟨s, 0, none⟩) L.length c) L') := Lib.hid (by
            obtain ⟨L', hD, hR⟩ := HS2.out.ex
            exact ⟨L', hD, u4.row hR (by simp)⟩)
          clear u4 HS2 hcl
          cases r
          · obtain ⟨L4, hD4, hR4⟩ := HX4.out
            obtain ⟨y, hy⟩ : ∃ y, L4[m]? = some y := ⟨_, List.getElem?_eq_getElem (by have := hD4.len; omega)⟩
            have hcm4 := hR4.cell hD4.len hy
            have hfr : w4.frozen? ⟨s, m, none⟩ = false := by
              have h1 := hR4; unfold RowP at h1; rw [hD4.len] at h1; exact h1.frozenAt m
            have hrow4 : RowP (w4.setCell ⟨s, m, none⟩ (.pointer (some ⟨x.p, 0, none⟩))) (.slice (some ⟨s, 0, none⟩) L.length c) (L4.set m x) := hR4.set hD4.len m x
            have HR5 := Lib.hid hrow4
            have HD4 := Lib.hid hD4
            clear hD4 hR4 hrow4 hy
            simp only [Im.ptr] at hcm4
            go_wp2_with fail
            go_roundg (L.length - (j + 1))
            case measure => omega
            case rel => exact ⟨m + 1, j + 1, by go_num, by go_num, by omega, by omega, rfl, ⟨_, HD4.out.keep Hx.out (by simp [Hp.out]), HR5.out⟩, HU4.out.setCell (by simp) _, Hc.out.stable _ _ HI4.out ((Upd.refl _ _).setCell (by simp [Value.ownBlock]) _)⟩
          · go_wp2_with fail
            go_roundg (L.length - (j + 1))
            case measure => omega
            case rel =>
              obtain ⟨L3, hD3, hR3⟩ := HX4.out
              exact ⟨m, j + 1, rfl, by go_num, by omega, by omega, rfl, ⟨L3, hD3.skip Hx.out (by simp [Hp.out]), hR3⟩, HU4.out, HI4.out⟩
        · obtain rfl : j = L.length := by omega
          go_wp2_with fail
          go_meet
          exact ⟨m, rfl, hmj, HS2.out⟩
    case rest =>
      obtain ⟨m, rfl, hm, hS⟩ := hcut
      obtain ⟨L', hD, hR⟩ := hS.ex
      have hrow : wc.ownsRow 0 58 1 (.slice (some ⟨s, 0, none⟩) m c) m ((ptrs L').take m) := by
        have h1 := hR; unfold RowP at h1; rw [hD.len] at h1; have := own_take h1 (k := m) (by omega); simpa using this
      have Hrow := Lib.hid hrow
      have HS2 := Lib.hid hS
      have HD := Lib.hid hD
      clear hrow hS hD hR HS
      go_wp2_with (refine wpList_clear_tail rfl (.tmp 38) 53 rfl 0 58 i0 _ 1 Try.underlying53 hi hz0 rfl (by simp [Value.cells, Value.oneCell']) s m _ (L.length - m) _ _ _ rfl Hrow.out (by simp) (by omega) ?_; intro w2 ho2 hg2)
      go_ret
      refine ⟨_, rfl, ?_, (HS2.out.upd.grown hg2 (by simp)).mono (by simp [Value.ownBlock]), rfl⟩
      have e1 := HD.out.done
      have e2 : (L.filter fun x => !P x).length = m := by rw [← e1]; simp; have := HD.out.len; omega
      unfold RowP
      rw [e2, ← e1]
      simpa [ptrs, List.map_take] using ho2

/-- What is known of the closure: it answers P, while I holds. -/
structure Clo31 (I : World → Prop) (P : Im → Bool) (v : Value) (L : List Im) (cap : Nat) : Prop where
  call : ∀ x ∈ L, ∀ w, I w → Calls Try.prog 31 #[x.ptr, .pointer (some ⟨cap, 0, none⟩)] w fun e w' => e = .returned (.bool (P x)) ∧ Upd [] w w'
  stable : ∀ w w', I w → Upd v.ownBlock.toList w w' → I w'

set_option maxHeartbeats 1000000 in
theorem index31_any {I : World → Prop} {P : Im → Bool} {cap : Nat} (v : Value) (L : List Im) (w : World) (h : RowP w v L) (hL : L.length ≤ 8796093022207) (hc : Clo31 I P v L cap) (hI : I w) :
    Calls Try.prog 23 #[v, .func (.func 31) #[] #[.pointer (some ⟨cap, 0, none⟩)]] w fun e w' => ∃ r : Int, e = .returned (.int .i64 r) ∧ Upd [] w w' ∧
      ((r = -1 ∧ ∀ x ∈ L, P x = false) ∨ (∃ (i : Nat) (x : Im), r = i ∧ L[i]? = some x ∧ P x = true ∧ ∀ j y, j < i → L[j]? = some y → P y = false)) := by
  obtain ⟨a, c, rfl⟩ := own_shape h
  have H := Lib.hid h
  have Hc := Lib.hid hc
  have HI := Lib.hid hI
  clear h hc hI
  go_enter Try.func23, Try.ntmps23
  go_wp2_with fail
  go_loopg [8] L.length (fun g u wr => ∃ i : Nat, u = .int .i64 i ∧ i ≤ L.length ∧ g = L.length - i ∧ Upd [] w wr ∧ ∀ j y, j < i → L[j]? = some y → P y = false)
  case atStart => exact ⟨0, rfl, Nat.zero_le _, rfl, Upd.refl _ _, fun j y hj => by omega⟩
  case round =>
    obtain ⟨i, rfl, hi, rfl, hu, hj⟩ := hrel
    have Hu := Lib.hid hu
    have Hj := Lib.hid hj
    clear hu hj
    by_cases hlt : i < L.length
    · have hR : RowP wr (.slice a L.length c) L := Hu.out.row H.out (by simp)
      obtain ⟨s, c', e, hlc, hcm, hs⟩ := hR.isSome (by omega)
      obtain ⟨rfl, rfl⟩ : a = some ⟨s, 0, none⟩ ∧ c = c' := by simpa using e
      obtain ⟨x, hx⟩ : ∃ x, L[i]? = some x := ⟨_, List.getElem?_eq_getElem hlt⟩
      have hcl := hR.cell rfl hx
      have Hx := Lib.hid hx
      clear e hx hR
      unfold maxLen at hcm
      simp only [Im.ptr] at hcl
      obtain ⟨r, hr⟩ : ∃ r, P x = r := ⟨_, rfl⟩
      have Hp := Lib.hid hr
      clear hr
      go_wp2_with fail
      refine (Hc.out.call x (List.mem_of_getElem? Hx.out) _ (Hc.out.stable _ _ HI.out (Hu.out.mono (by simp)))).mono ?_
      rintro e w1 ⟨rfl, u1⟩
      rw [Hp.out]
      have Hu1 := Lib.hid (Hu.out.trans u1 (by simp))
      clear u1 hcl
      cases r
      · go_wp2_with fail
        go_roundg (L.length - (i + 1))
        case measure => omega
        case rel =>
          refine ⟨i + 1, by go_num, by omega, rfl, Hu1.out, fun j y hj hy => ?_⟩
          by_cases e : j = i
          · subst e
            obtain rfl : x = y := by have := Hx.out.symm.trans hy; simpa using this
            exact Hp.out
          · exact Hj.out j y (by omega) hy
      · go_wp2_with fail
        go_ret
        exact ⟨_, rfl, Hu1.out, .inr ⟨i, x, rfl, Hx.out, Hp.out, Hj.out⟩⟩
    · obtain rfl : i = L.length := by omega
      go_wp2_with fail
      go_ret
      refine ⟨-1, rfl, Hu.out, .inl ⟨rfl, fun x hx => ?_⟩⟩
      obtain ⟨j, hj, rfl⟩ := List.getElem_of_mem hx
      exact Hj.out j _ hj (by simp)

set_option maxHeartbeats 2000000 in
theorem del31_any {I : World → Prop} {P : Im → Bool} {cap : Nat} (v : Value) (L : List Im) (w : World) (h : RowP w v L) (hL : L.length ≤ 8796093022207) (hc : Clo31 I P v L cap) (hI : I w) :
    Calls Try.prog 25 #[v, .func (.func 31) #[] #[.pointer (some ⟨cap, 0, none⟩)]] w fun e w' => ∃ v', e = .returned v' ∧ RowP w' v' (L.filter fun x => !P x) ∧ Upd v.ownBlock.toList w w' ∧ v'.ownBlock = v.ownBlock := by
  obtain ⟨i0, hi, hz0, hz1, hz2⟩ := info58
  obtain ⟨a, c, rfl⟩ := own_shape h
  have H := Lib.hid h
  have Hc := Lib.hid hc
  have HI := Lib.hid hI
  clear h hc hI
  go_enter Try.func25, Try.ntmps25
  go_wp2_with fail
  refine (index31_any _ L _ H.out hL Hc.out HI.out).mono ?_
  rintro e w1 ⟨r, rfl, u1, hr⟩
  rcases hr with ⟨rfl, hall⟩ | ⟨i, x0, rfl, hx0, hp0, hif⟩
  · have Hall := Lib.hid hall
    clear hall
    go_wp2_with fail
    go_ret
    refine ⟨_, rfl, ?_, u1.mono (by simp), rfl⟩
    rw [List.filter_eq_self.2 (fun x hx => by simp [Hall.out x hx])]
    exact u1.row H.out (by simp)
  · have hin := (List.getElem?_eq_some_iff.1 hx0).1
    obtain ⟨s, c', e, hlc, hcm, hs⟩ := H.out.isSome (by omega)
    obtain ⟨rfl, rfl⟩ : a = some ⟨s, 0, none⟩ ∧ c = c' := by simpa using e
    have hS : DelRel I P w s L.length c L i (i + 1) w1 := ⟨⟨L, DelInv.start hx0 (fun j y hj hy => by simp [hif j y hj hy]) (by simp [hp0]), u1.row H.out (by simp)⟩, u1.mono (by simp), Hc.out.stable _ _ HI.out (u1.mono (by simp))⟩
    have HS := Lib.hid hS
    have hne : ((i : Int) == -1) = false := by rw [beq_eq_false_iff_ne]; omega
    clear hS u1 hx0 hp0 hif e
    unfold maxLen at hcm
    go_upto_block 0 with fail
    go_cut [5, 6] (fun u t wc => ∃ m : Nat, u = .int .i64 m ∧ m < L.length ∧ DelRel I P w s L.length c L m L.length wc)
    case first =>
      go_wp2_with fail
      go_loopg [5, 6] (L.length - (i + 1)) (fun g u t wr => ∃ m j : Nat, u = .int .i64 m ∧ t = .int .i64 j ∧ j ≤ L.length ∧ m < j ∧ g = L.length - j ∧ DelRel I P w s L.length c L m j wr)
      case atStart => exact ⟨i, i + 1, rfl, by go_num, by omega, by omega, by omega, HS.out⟩
      case round =>
        obtain ⟨m, j, rfl, rfl, hj, hmj, rfl, hS⟩ := hrel
        have HS2 := Lib.hid hS
        clear hS HS
        by_cases hlt : j < L.length
        · obtain ⟨L', hD, hR⟩ := HS2.out.ex
          obtain ⟨x, hx⟩ : ∃ x, L[j]? = some x := ⟨_, List.getElem?_eq_getElem hlt⟩
          have hcl := hR.cell hD.len ((hD.at hlt).trans hx)
          simp only [Im.ptr] at hcl
          have Hx := Lib.hid hx
          have hsl : s < wr.heap.size := (hR.isSome (by have := hD.len; omega)).elim fun _ ⟨_, e, _, _, h⟩ => by simp at e; rw [e.1]; exact h
          obtain ⟨r, hr⟩ : ∃ r, P x = r := ⟨_, rfl⟩
          have Hp := Lib.hid hr
          clear hr hx hD hR
          go_wp2_with fail
          refine (Hc.out.call x (List.mem_of_getElem? Hx.out) _ HS2.out.inv).mono ?_
          rintro e w4 ⟨rfl, u4⟩
          rw [Hp.out]
          have HI4 := Lib.hid (Hc.out.stable _ _ HS2.out.inv (u4.mono (by simp)))
          have HU4 := Lib.hid (HS2.out.upd.trans u4 (by simp))
          have HX4 : Hid (∃ L', DelInv (fun x => !P x) L L' m j ∧ RowP w4 (.slice (some ⟨s, 0, none⟩) L.length c) L') := Lib.hid (by
            obtain ⟨L', hD, hR⟩ := HS2.out.ex
            exact ⟨L', hD, u4.row hR (by simp)⟩)
          clear u4 HS2 hcl
          cases r
          · obtain ⟨L4, hD4, hR4⟩ := HX4.out
            obtain ⟨y, hy⟩ : ∃ y, L4[m]? = some y := ⟨_, List.getElem?_eq_getElem (by have := hD4.len; omega)⟩
            have hcm4 := hR4.cell hD4.len hy
            have hfr : w4.frozen? ⟨s, m, none⟩ = false := by
              have h1 := hR4; unfold RowP at h1; rw [hD4.len] at h1; exact h1.frozenAt m
            have hrow4 : RowP (w4.setCell ⟨s, m, none⟩ (.pointer (some ⟨x.p, 0, none⟩))) (.slice (some ⟨s, 0, none⟩) L.length c) (L4.set m x) := hR4.set hD4.len m x
            have HR5 := Lib.hid hrow4
            have HD4 := Lib.hid hD4
            clear hD4 hR4 hrow4 hy
            simp only [Im.ptr] at hcm4
            go_wp2_with fail
            go_roundg (L.length - (j + 1))
            case measure => omega
            case rel => exact ⟨m + 1, j + 1, by go_num, by go_num, by omega, by omega, rfl, ⟨_, HD4.out.keep Hx.out (by simp [Hp.out]), HR5.out⟩, HU4.out.setCell (by simp) _, Hc.out.stable _ _ HI4.out ((Upd.refl _ _).setCell (by simp [Value.ownBlock]) _)⟩
          · go_wp2_with fail
            go_roundg (L.length - (j + 1))
            case measure => omega
            case rel =>
              obtain ⟨L3, hD3, hR3⟩ := HX4.out
              exact ⟨m, j + 1, rfl, by go_num, by omega, by omega, rfl, ⟨L3, hD3.skip Hx.out (by simp [Hp.out]), hR3⟩, HU4.out, HI4.out⟩
        · obtain rfl : j = L.length := by omega
          go_wp2_with fail
          go_meet
          exact ⟨m, rfl, hmj, HS2.out⟩
    case rest =>
      obtain ⟨m, rfl, hm, hS⟩ := hcut
      obtain ⟨L', hD, hR⟩ := hS.ex
      have hrow : wc.ownsRow 0 58 1 (.slice (some ⟨s, 0, none⟩) m c) m ((ptrs L').take m) := by
        have h1 := hR; unfold RowP at h1; rw [hD.len] at h1; have := own_take h1 (k := m) (by omega); simpa using this
      have Hrow := Lib.hid hrow
      have HS2 := Lib.hid hS
      have HD := Lib.hid hD
      clear hrow hS hD hR HS
      go_wp2_with (refine wpList_clear_tail rfl (.tmp 38) 53 rfl 0 58 i0 _ 1 Try.underlying53 hi hz0 rfl (by simp [Value.cells, Value.oneCell']) s m _ (L.length - m) _ _ _ rfl Hrow.out (by simp) (by omega) ?_; intro w2 ho2 hg2)
      go_ret
      refine ⟨_, rfl, ?_, (HS2.out.upd.grown hg2 (by simp)).mono (by simp [Value.ownBlock]), rfl⟩
      have e1 := HD.out.done
      have e2 : (L.filter fun x => !P x).length = m := by rw [← e1]; simp; have := HD.out.len; omega
      unfold RowP
      rw [e2, ← e1]
      simpa [ptrs, List.map_take] using ho2
end Go.Proofs.Ytlebhaobfheocaa
