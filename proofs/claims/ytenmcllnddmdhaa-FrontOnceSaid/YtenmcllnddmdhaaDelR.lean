/- slices.IndexFunc and DeleteFunc at those who wait for a read, for any closure of which one knows what it answers and what it keeps. -/
import Derived.Test.YtenmcllnddmdhaaClo
import Derived.Test.YtenmcllnddmdhaaRow
set_option linter.unusedVariables false
set_option linter.unusedSimpArgs false
namespace Go.Proofs.Ytenmcllnddmdhaa
open Go.RowKit Go.Lb Go.Conc

theorem info88 : ∃ i, Try.prog.info? 88 = some i ∧ i.zero = some (.agg (Rd.vals ⟨0, 0, 0, 0, false⟩).toArray) ∧ i.size = 34 ∧ i.bytes = 360 := by
  obtain ⟨i, h1, h2, h3, h4⟩ := info_parts (show (Try.prog.info? 88).map (fun i => (i.zero, i.size, i.bytes)) = some (some (.agg (Rd.vals ⟨0, 0, 0, 0, false⟩).toArray), 34, 360) by kernel_rfl)
  exact ⟨i, h1, h2, h3, h4⟩
theorem Try.size88 : (Try.prog.info? 88).map (·.size) = some 34 := by kernel_rfl

theorem zero88 (w : World) : (zeroValue 88).run Try.prog w = .ok (.agg (Rd.vals ⟨0, 0, 0, 0, false⟩).toArray) w := by kernel_rfl

theorem Rd.sizeA (x : Rd) : (Try.prog.info? 88).map (·.size) = some x.vals.toArray.size := Try.size88
theorem Rd.oneA (x : Rd) : x.vals.toArray.all (·.oneCell') = true := all_oneCell_toArray x.one

/-- What is known of the closure: it answers p, goes on from I s to I (st s x), and writes but into G and what is new. -/
structure CloR {σ : Type} (I : σ → World → Prop) (st : σ → Rd → σ) (p : Rd → Bool) (G : List Nat) (v : Value) (p1 p2 : Nat) : Prop where
  call : ∀ s x w, I s w → Calls Try.prog 26 #[.agg x.vals.toArray, .pointer (some ⟨p1, 0, none⟩), .pointer (some ⟨p2, 0, none⟩)] w fun e w' => e = .returned (.bool (p x)) ∧ I (st s x) w' ∧ Upd G w w'
  stable : ∀ s w w', I s w → Upd v.ownBlock.toList w w' → I s w'
  apart : ∀ k, v.ownBlock = some k → k ∉ G

theorem RowRd.range {w : World} {g n cap : Nat} {L : List Rd} (h : RowRd w (.slice (some ⟨g, 0, none⟩) n cap) L) (hn : n = L.length) {i : Nat} {x : Rd} (hi : L[i]? = some x) : w.rangeAt g (i * 34) x.vals := by
  subst hn
  exact row_range h (rdsL_len L) (by simp [rdsL, hi])
theorem RowRd.isSome {w : World} {v : Value} {L : List Rd} (h : RowRd w v L) (hn : 0 < L.length) : ∃ s c, v = .slice (some ⟨s, 0, none⟩) L.length c ∧ L.length ≤ c ∧ c ≤ maxLen ∧ s < w.heap.size := by
  rcases h.2 with ⟨_, h0⟩ | ⟨g, cap, cur, rfl, _, hg, hnc, hc, _⟩
  · omega
  · exact ⟨g, cap, rfl, hnc, hc, lt_of_block hg⟩

section
variable {σ : Type} {I : σ → World → Prop} {st : σ → Rd → σ} {p : Rd → Bool} {G : List Nat} {p1 p2 : Nat}

set_option maxRecDepth 20000 in
set_option maxHeartbeats 1000000 in
theorem indexR_any (v : Value) (L : List Rd) (s0 : σ) (w : World) (h : RowRd w v L) (hL : L.length ≤ 1073741823) (hc : CloR I st p G v p1 p2) (hI : I s0 w) :
    Calls Try.prog 29 #[v, .func (.func 26) #[] #[.pointer (some ⟨p1, 0, none⟩), .pointer (some ⟨p2, 0, none⟩)]] w fun e w' => ∃ r : Int, e = .returned (.int .i64 r) ∧ Upd G w w' ∧
      ((r = -1 ∧ (∀ x ∈ L, p x = false) ∧ I (L.foldl st s0) w') ∨ (∃ (i : Nat) (x : Rd), r = i ∧ L[i]? = some x ∧ p x = true ∧ (∀ j y, j < i → L[j]? = some y → p y = false) ∧ I ((L.take (i + 1)).foldl st s0) w')) := by
  obtain ⟨a, c, rfl⟩ := own_shape h
  have H := Lib.hid h
  have Hc := Lib.hid hc
  have HI := Lib.hid hI
  clear h hc hI
  go_enter Try.func29, Try.ntmps29
  go_wp2_with fail
  go_loopg [8] L.length (fun g u wr => ∃ i : Nat, u = .int .i64 i ∧ i ≤ L.length ∧ g = L.length - i ∧ Upd G w wr ∧ I ((L.take i).foldl st s0) wr ∧ ∀ j y, j < i → L[j]? = some y → p y = false)
  case atStart => exact ⟨0, rfl, Nat.zero_le _, rfl, Upd.refl _ _, HI.out, fun j y hj => by omega⟩
  case round =>
    obtain ⟨i, rfl, hi, rfl, hu, hI, hj⟩ := hrel
    have Hu := Lib.hid hu
    have Hj := Lib.hid hj
    have HI := Lib.hid hI
    clear hu hj hI
    by_cases hlt : i < L.length
    · have hR := Lib.hid (Upd.row Hu.out H.out (fun k hk => Hc.out.apart k hk))
      obtain ⟨s, c', e, hlc, hcm, hs⟩ := RowRd.isSome hR.out (by omega)
      obtain ⟨rfl, rfl⟩ : a = some ⟨s, 0, none⟩ ∧ c = c' := by simpa using e
      obtain ⟨x, hx⟩ : ∃ x, L[i]? = some x := ⟨_, List.getElem?_eq_getElem hlt⟩
      have Hx := Lib.hid hx
      have Hr := Lib.hid (RowRd.range hR.out rfl hx)
      clear e hx
      unfold maxLen at hcm
      obtain ⟨r, hr⟩ : ∃ r, p x = r := ⟨_, rfl⟩
      have Hp := Lib.hid hr
      clear hr
      go_wp2_with (refine wpList_load_mid rfl 88 (.tmp 14) rfl s (i * 34) rfl x.vals _ Hr.out Try.underlying88 rfl Try.size88 ?_)
      refine (Hc.out.call _ x _ HI.out).mono ?_
      rintro e w1 ⟨rfl, hI1, u1⟩
      rw [Hp.out]
      have HI1 := Lib.hid hI1
      have Hu1 := Lib.hid (Hu.out.trans u1 (fun k hk => .inl hk))
      clear hI1 u1
      cases r
      · go_wp2_with fail
        go_roundg (L.length - (i + 1))
        case measure => omega
        case rel =>
          refine ⟨i + 1, by go_num, by omega, rfl, Hu1.out, by rw [take_snoc Hx.out, List.foldl_append]; exact HI1.out, fun j y hj hy => ?_⟩
          by_cases e : j = i
          · subst e
            obtain rfl : x = y := by have := Hx.out.symm.trans hy; simpa using this
            exact Hp.out
          · exact Hj.out j y (by omega) hy
      · go_wp2_with fail
        go_ret
        exact ⟨_, rfl, Hu1.out, .inr ⟨i, x, rfl, Hx.out, Hp.out, Hj.out, by rw [take_snoc Hx.out, List.foldl_append]; exact HI1.out⟩⟩
    · obtain rfl : i = L.length := by omega
      go_wp2_with fail
      go_ret
      refine ⟨-1, rfl, Hu.out, .inl ⟨rfl, fun x hx => ?_, by have := HI.out; rwa [List.take_length] at this⟩⟩
      obtain ⟨j, hj, rfl⟩ := List.getElem_of_mem hx
      exact Hj.out j _ hj (by simp)

structure DelRelR (I : σ → World → Prop) (st : σ → Rd → σ) (p : Rd → Bool) (G : List Nat) (w : World) (s n c : Nat) (L : List Rd) (s0 : σ) (i j : Nat) (wr : World) : Prop where
  ex : ∃ L', DelInv (fun x => !p x) L L' i j ∧ RowRd wr (.slice (some ⟨s, 0, none⟩) n c) L'
  upd : Upd (s :: G) w wr
  inv : I ((L.take j).foldl st s0) wr

theorem delR_keep {w w1 w2 : World} {s c : Nat} {x : Rd} {L L' : List Rd} {s0 : σ} {i j : Nat} (hc : CloR I st p G (.slice (some ⟨s, 0, none⟩) L.length c) p1 p2)
    (hD : DelInv (fun x => !p x) L L' i j) (hupd : Upd (s :: G) w w1) (hI : I ((L.take (j + 1)).foldl st s0) w1) (hx : L[j]? = some x) (hq : p x = false)
    (hr : w2.ownsRow 0 88 34 (.slice (some ⟨s, 0, none⟩) L.length c) L.length ((rdsL L').set i x.vals).flatten) (hu : Upd [s] w1 w2) :
    DelRelR I st p G w s L.length c L s0 (i + 1) (j + 1) w2 := by
  have hl := hD.len
  refine ⟨⟨_, hD.keep hx (by simp [hq]), ?_⟩, hupd.trans hu (by simp), hc.stable _ _ _ hI (hu.mono (by simp [Value.ownBlock]))⟩
  unfold RowRd
  simpa [hl, rdsL, List.map_set] using hr

set_option maxRecDepth 20000 in
set_option maxHeartbeats 2000000 in
theorem delR_any (v : Value) (L : List Rd) (s0 : σ) (w : World) (h : RowRd w v L) (hL : L.length ≤ 1073741823) (hc : CloR I st p G v p1 p2) (hG : ∀ k ∈ G, k < w.heap.size) (hI : I s0 w) :
    Calls Try.prog 25 #[v, .func (.func 26) #[] #[.pointer (some ⟨p1, 0, none⟩), .pointer (some ⟨p2, 0, none⟩)]] w fun e w' => ∃ v', e = .returned v' ∧ RowRd w' v' (L.filter fun x => !p x) ∧ Upd (v.ownBlock.toList ++ G) w w' ∧ v'.ownBlock = v.ownBlock ∧ I (L.foldl st s0) w' := by
  obtain ⟨i0, hi, hz0, hz1, hz2⟩ := info88
  obtain ⟨a, c, rfl⟩ := own_shape h
  have H := Lib.hid h
  have Hc := Lib.hid hc
  have HI := Lib.hid hI
  clear h hc hI
  go_enter Try.func25, Try.ntmps25
  go_wp2_with fail
  refine (indexR_any _ L s0 _ H.out hL Hc.out HI.out).mono ?_
  rintro e w1 ⟨r, rfl, u1, hr⟩
  rcases hr with ⟨rfl, hall, hI1⟩ | ⟨i, x0, rfl, hx0, hp0, hif, hI1⟩
  · have Hall := Lib.hid hall
    have HI1 := Lib.hid hI1
    clear hall hI1
    go_wp2_with fail
    go_ret
    refine ⟨_, rfl, ?_, u1.mono (by simp +contextual), rfl, HI1.out⟩
    rw [List.filter_eq_self.2 (fun x hx => by simp [Hall.out x hx])]
    exact u1.row H.out (fun k hk => Hc.out.apart k hk)
  · have hin := (List.getElem?_eq_some_iff.1 hx0).1
    obtain ⟨s, c', e, hlc, hcm, hs⟩ := RowRd.isSome H.out (by omega)
    obtain ⟨rfl, rfl⟩ : a = some ⟨s, 0, none⟩ ∧ c = c' := by simpa using e
    have hsG : s ∉ G := Hc.out.apart s rfl
    have hS : DelRelR I st p G w s L.length c L s0 i (i + 1) w1 := ⟨⟨L, DelInv.start hx0 (fun j y hj hy => by simp [hif j y hj hy]) (by simp [hp0]), u1.row H.out (fun k hk => Hc.out.apart k hk)⟩, u1.mono (by simp +contextual), hI1⟩
    have HS := Lib.hid hS
    have HsG := Lib.hid hsG
    have hne : ((i : Int) == -1) = false := by rw [beq_eq_false_iff_ne]; omega
    clear hS u1 hx0 hp0 hif hI1 e hsG
    unfold maxLen at hcm
    go_upto_block 0 with fail
    go_cut [5, 6] (fun u t wc => ∃ m : Nat, u = .int .i64 m ∧ m < L.length ∧ DelRelR I st p G w s L.length c L s0 m L.length wc)
    case first =>
      go_wp2_with fail
      go_loopg [5, 6] (L.length - (i + 1)) (fun g u t wr => ∃ m j : Nat, u = .int .i64 m ∧ t = .int .i64 j ∧ j ≤ L.length ∧ m < j ∧ g = L.length - j ∧ DelRelR I st p G w s L.length c L s0 m j wr)
      case atStart => exact ⟨i, i + 1, rfl, by go_num, by omega, by omega, by omega, HS.out⟩
      case round =>
        obtain ⟨m, j, rfl, rfl, hj, hmj, rfl, hS⟩ := hrel
        have HS2 := Lib.hid hS
        clear hS HS
        by_cases hlt : j < L.length
        · obtain ⟨L', hD, hR⟩ := HS2.out.ex
          obtain ⟨x, hx⟩ : ∃ x, L[j]? = some x := ⟨_, List.getElem?_eq_getElem hlt⟩
          have Hr := Lib.hid (hR.range hD.len.symm ((hD.at hlt).trans hx))
          have Hx := Lib.hid hx
          have hsl : s < wr.heap.size := (hR.isSome (by have := hD.len; omega)).elim fun _ ⟨_, e, _, _, h⟩ => by simp at e; rw [e.1]; exact h
          obtain ⟨r, hr⟩ : ∃ r, p x = r := ⟨_, rfl⟩
          have Hp := Lib.hid hr
          clear hr hx hD hR
          go_wp2_with (first | (refine wpList_load_mid rfl 88 (.tmp 24) rfl s (j * 34) rfl x.vals _ Hr.out Try.underlying88 rfl Try.size88 ?_) | (refine wpList_alloc_blk rfl 88 rfl (Rd.vals ⟨0, 0, 0, 0, false⟩) (zero88 _) ?_; intro w2 hb2 hu2) | (refine wpList_store_blk rfl 88 (.tmp 7) (.tmp 25) rfl _ x.vals rfl rfl hb2 Try.size88 rfl x.one ?_; intro w3 hb3 hu3) | (refine wpList_load_blk rfl 88 (.tmp 7) rfl _ rfl hb3 Try.underlying88 rfl Try.size88 ?_))
          have hu := hu2.trans hu3 (by simp)
          have hI3 := Hc.out.stable _ _ _ HS2.out.inv (hu.mono (by simp))
          refine (Hc.out.call _ x _ hI3).mono ?_
          rintro e w4 ⟨rfl, hI4, u4⟩
          rw [Hp.out]
          have hws := HS2.out.upd.size
          have hb4 := Lib.hid (u4.blk hb3 (fun h => by have := hG _ h; omega))
          have hI4' : I ((L.take (j + 1)).foldl st s0) w4 := by rw [take_snoc Hx.out, List.foldl_append]; exact hI4
          have HI4 := Lib.hid hI4'
          have HU4 := Lib.hid ((HS2.out.upd.trans (hu.mono (G := []) (by simp)) (by simp)).trans u4 (fun k hk => .inl (by simp [hk])))
          have HX4 : Hid (∃ L', DelInv (fun x => !p x) L L' m j ∧ RowRd w4 (.slice (some ⟨s, 0, none⟩) L.length c) L') := Lib.hid (by
            obtain ⟨L', hD, hR⟩ := HS2.out.ex
            exact ⟨L', hD, u4.row (hu.row hR (by simp)) (fun k hk => Hc.out.apart k hk)⟩)
          clear hI4 hI4' hI3 u4 hu hu2 hu3 hb3 hb2 HS2
          cases r
          · obtain ⟨L4, hD4, hR4⟩ := HX4.out
            have Ht : Hid (w4.ownsRow 0 88 34 (.slice (some ⟨s, 0, none⟩) L.length c) L.length (rdsL L4).flatten) := Lib.hid (by
              have h1 := hR4; unfold RowRd at h1; rwa [hD4.len] at h1)
            have Hm : Hid (m < (rdsL L4).length) := Lib.hid (by have := hD4.len; simp [rdsL]; omega)
            have HD4 := Lib.hid hD4
            clear hD4 hR4
            go_wp2_with (first | (refine wpList_load_blk rfl 88 (.tmp 7) rfl wr.heap.size rfl hb4.out Try.underlying88 rfl Try.size88 ?_) | (refine wpList_store_rowX (o := ⟨none, .store 88 (.tmp 33) (.tmp 32), _, _, _, _⟩) rfl 88 (.tmp 33) (.tmp 32) rfl s m x.vals rfl rfl Ht.out (rdsL_len L4) Hm.out x.sizeA rfl x.oneA ?_; intro w5 hr5 hu5; have Hr5 := Lib.hid hr5; have Hu5 := Lib.hid hu5; clear hr5 hu5 hb4))
            go_roundg (L.length - (j + 1))
            case measure => omega
            case rel => exact ⟨m + 1, j + 1, by go_num, by go_num, by omega, by omega, rfl, delR_keep Hc.out HD4.out HU4.out HI4.out Hx.out Hp.out Hr5.out Hu5.out⟩
          · go_wp2_with fail
            go_roundg (L.length - (j + 1))
            case measure => omega
            case rel =>
              obtain ⟨L3, hD3, hR3⟩ := HX4.out
              exact ⟨m, j + 1, rfl, by go_num, by omega, by omega, rfl, ⟨L3, hD3.skip Hx.out (by simp [Hp.out]), hR3⟩, HU4.out, HI4.out⟩
        · obtain rfl : j = L.length := by omega
          go_wp2_with fail
          go_meet
          exact ⟨m, rfl, hmj, HS2.out⟩
    case rest =>
      obtain ⟨m, rfl, hm, hS⟩ := hcut
      obtain ⟨L', hD, hR⟩ := hS.ex
      have hrow : wc.ownsRow 0 88 34 (.slice (some ⟨s, 0, none⟩) m c) m ((rdsL L').flatten.take (m * 34)) := by
        have h1 := hR; unfold RowRd at h1; rw [hD.len] at h1; exact own_take h1 (by omega)
      have Hrow := Lib.hid hrow
      have HS2 := Lib.hid hS
      have HD := Lib.hid hD
      clear hrow hS hD hR HS
      go_wp2_with (refine wpList_clear_tail rfl (.tmp 38) 77 rfl 0 88 i0 _ 34 Try.underlying77 hi hz0 rfl (fun v hv => Rd.one _ v (by simpa [Value.cells] using hv)) s m _ (L.length - m) _ _ _ rfl Hrow.out rfl (by omega) ?_; intro w2 ho2 hg2)
      go_ret
      refine ⟨_, rfl, ?_, (HS2.out.upd.grown hg2 (by simp)).mono (fun k hk => .inl (by simpa [Value.ownBlock] using hk)), rfl, ?_⟩
      · have e1 := HD.out.done
        have e2 : (L.filter fun x => !p x).length = m := by rw [← e1]; simp; have := HD.out.len; omega
        unfold RowRd
        rw [e2, ← e1]
        rw [flatten_take (rdsL L') (rdsL_len L'), show (rdsL L').take m = rdsL (L'.take m) by simp [rdsL, List.map_take]] at ho2
        exact ho2
      · have := HS2.out.inv
        rw [List.take_length] at this
        exact Hc.out.stable _ _ _ this ((Upd.refl _ _).grown hg2 (by simp [Value.ownBlock]))
end
end Go.Proofs.Ytenmcllnddmdhaa
