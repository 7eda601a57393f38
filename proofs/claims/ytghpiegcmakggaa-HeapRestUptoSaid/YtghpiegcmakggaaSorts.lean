/- HeapSorts: the walk. Condition: at most 2^20 numbers. -/
import Derived.Test.YtghpiegcmakggaaPeeks
set_option linter.unusedVariables false
set_option linter.unusedSimpArgs false
namespace Go.Proofs.Ytghpiegcmakggaa
open Go.RowKit Go.Lb Go.Hp

theorem Try.info4 : (Try.prog.info? 4).map (fun i => (i.zero, i.size, i.bytes)) = some (some (.bool false), 1, 1) := by kernel_rfl

/-- After i pops: R was popped, L is left, the tags of R are marked; the last one popped is at p. -/
structure SortInv (n i : Nat) (zs : List Int) (R L : List It) (sn : List Bool) (lk lt : Int) : Prop where
  perm : (R ++ L).Perm (its zs n)
  len : R.length = i
  sl : sn.length = n
  sn : ∀ t, t < n → (sn.getD t false = true ↔ ∃ x ∈ R, x.tag = t)
  last : 0 < i → ∃ x, x ∈ R ∧ x.key = lk ∧ x.tag = lt ∧ ∀ y ∈ L, leI x y

theorem SortInv.start (zs : List Int) (n : Nat) (L : List It) (h : L.Perm (its zs n)) : SortInv n 0 zs [] L (List.replicate n false) 0 0 :=
  ⟨by simpa using h, rfl, by simp, fun t ht => by simp [List.getD, ht], fun h => absurd h (by omega)⟩

theorem its_tag_inj {zs : List Int} {n : Nat} {x y : It} (hx : x ∈ its zs n) (hy : y ∈ its zs n) (h : x.tag = y.tag) : x = y := by
  obtain ⟨i, hi, rfl⟩ := its_mem.1 hx
  obtain ⟨j, hj, rfl⟩ := its_mem.1 hy
  simp at h
  have h2 : i = j := by omega
  subst h2; rfl

theorem its_nodup (zs : List Int) (n : Nat) : (its zs n).Nodup := by
  unfold its
  refine List.pairwise_map.2 (List.nodup_range.imp fun {i j} h e => h ?_)
  simp at e
  omega

/-- What is told of the next one popped. -/
theorem SortInv.next {n i : Nat} {zs : List Int} {R L L' : List It} {sn : List Bool} {lk lt : Int} {x : It} (h : SortInv n i zs R L sn lk lt) (hp : (x :: L').Perm L) (hm : ∀ y ∈ L, leI x y) :
    ∃ t : Nat, x.tag = t ∧ t < n ∧ zs.getD t 0 = x.key ∧ sn.getD t false = false ∧ (0 < i → lk < x.key ∨ (lk = x.key ∧ lt ≤ x.tag)) ∧
      SortInv n (i + 1) zs (R ++ [x]) L' (sn.set t true) x.key x.tag := by
  have hxL : x ∈ L := hp.mem_iff.1 List.mem_cons_self
  have hxI : x ∈ its zs n := h.perm.mem_iff.1 (by simp [hxL])
  obtain ⟨t, ht, hxe⟩ := its_mem.1 hxI
  have htag : x.tag = t := by rw [hxe]
  have hnd : (R ++ L).Nodup := h.perm.nodup_iff.2 (its_nodup zs n)
  have hnR : ∀ y ∈ R, y.tag ≠ t := by
    intro y hy e
    have hyI : y ∈ its zs n := h.perm.mem_iff.1 (by simp [hy])
    have := its_tag_inj hyI hxI (by rw [e, htag])
    subst this
    exact (List.nodup_append.1 hnd).2.2 y hy y hxL rfl
  have hsn : sn.getD t false = false := by
    cases hb : sn.getD t false with
    | false => rfl
    | true =>
      obtain ⟨y, hy, e⟩ := (h.sn t ht).1 hb
      exact absurd e (hnR y hy)
  refine ⟨t, htag, ht, by rw [hxe], hsn, fun hi => ?_, ?_⟩
  · obtain ⟨y, hy, rfl, rfl, hle⟩ := h.last hi
    have := (leI_iff _ _).1 (hle x hxL)
    have hyI : y ∈ its zs n := h.perm.mem_iff.1 (by simp [hy])
    obtain ⟨s, hs, hye⟩ := its_mem.1 hyI
    rw [hye, hxe] at this ⊢
    simp only at this ⊢
    omega
  · refine ⟨?_, by simp [h.len], by simp [h.sl], fun s hs => ?_, fun _ => ⟨x, by simp, rfl, rfl, fun y hy => hm y (hp.mem_iff.1 (by simp [hy]))⟩⟩
    · rw [List.append_assoc, List.singleton_append]
      exact (hp.append_left R).trans h.perm
    · simp only [List.getD_eq_getElem?_getD, List.getElem?_set]
      by_cases e : t = s
      · subst e
        rw [if_pos rfl, if_pos (by rw [h.sl]; exact ht)]
        simp
        exact .inr htag
      · rw [if_neg e]
        have := h.sn s hs
        simp only [List.getD_eq_getElem?_getD] at this
        rw [this]
        constructor
        · rintro ⟨y, hy, e2⟩; exact ⟨y, by simp [hy], e2⟩
        · rintro ⟨y, hy, e2⟩
          rcases List.mem_append.1 hy with hy | hy
          · exact ⟨y, hy, e2⟩
          · simp at hy; subst hy; rw [htag] at e2; omega

def SortRel (w : World) (b p s n i : Nat) (zs : List Int) (wr : World) : Prop :=
  ∃ fp R L sn lk lt born, SortInv n i zs R L sn lk lt ∧ Own w b fp L born wr ∧ Blk wr p 26 [.int .i64 lk, .int .i64 lt] ∧ wr.ownsRow 0 4 1 (.slice (some ⟨s, 0, none⟩) n n) n (sn.map Value.bool) ∧
    p ∉ fp ∧ s ∉ fp ∧ p ≠ s ∧ w.heap.size ≤ p ∧ w.heap.size ≤ s

structure SortMid (w : World) (b p s q n : Nat) (fp : List Nat) (L : List It) (sn : List Bool) (lk lt xk : Int) (t : Nat) (born : Int) (wr : World) : Prop where
  own : Own w b fp L born wr
  bp : Blk wr p 26 [.int .i64 lk, .int .i64 lt]
  bq : Blk wr q 26 [.int .i64 xk, .int .i64 t]
  row : wr.ownsRow 0 4 1 (.slice (some ⟨s, 0, none⟩) n n) n (sn.map Value.bool)
  pf : p ∉ fp
  sf : s ∉ fp
  ps : p ≠ s
  qp : q ≠ p
  qs : q ≠ s
  wp : w.heap.size ≤ p
  ws : w.heap.size ≤ s

theorem SortMid.drew {w : World} {b p s q n : Nat} {fp : List Nat} {L : List It} {sn : List Bool} {lk lt xk : Int} {t : Nat} {born : Int} {wr : World} (h : SortMid w b p s q n fp L sn lk lt xk t born wr) (m : Nat) : SortMid w b p s q n fp L sn lk lt xk t born (wr.drewN m) :=
  ⟨h.own.any ((Upd.refl [] wr).drewN m), ((Upd.refl [] wr).drewN m).blk h.bp (by simp), ((Upd.refl [] wr).drewN m).blk h.bq (by simp), ((Upd.refl [] wr).drewN m).row h.row (by simp), h.pf, h.sf, h.ps, h.qp, h.qs, h.wp, h.ws⟩

theorem sort_mid {w : World} {b p s n : Nat} {wr w5 : World} {fp : List Nat} {L L' : List It} {sn : List Bool} {lk lt xk born : Int} {t : Nat} (hO : Own w b fp L born wr) (hB : Blk wr p 26 [.int .i64 lk, .int .i64 lt])
    (hr : wr.ownsRow 0 4 1 (.slice (some ⟨s, 0, none⟩) n n) n (sn.map Value.bool)) (hp : p ∉ fp) (hs : s ∉ fp) (hps : p ≠ s) (wp : w.heap.size ≤ p) (ws : w.heap.size ≤ s) (h5 : HeapIs w5 b fp L' born) (u5 : Upd fp wr w5) :
    SortMid w b p s w5.heap.size n fp L' sn lk lt xk t born (w5.alloc (.cells #[.int .i64 xk, .int .i64 t] 26)) := by
  have hB5 := u5.blk hB hp
  have hr5 := u5.row hr (fun k hk => by simp [Value.ownBlock] at hk; subst hk; exact hs)
  have hsl := (hr5.lt s rfl).2
  have hpl := hB5.lt
  exact ⟨(hO.go h5 u5 (fun x hx => .inl hx)).any ((Upd.refl [] w5).alloc _), hB5.alloc _, Blk.new w5 26 [.int .i64 xk, .int .i64 t], hr5.alloc _, hp, hs, hps, by omega, by omega, wp, ws⟩

theorem sort_out {w : World} {b p s q n i : Nat} {zs : List Int} {fp : List Nat} {R L : List It} {sn : List Bool} {lk lt xk xt : Int} {t : Nat} {born : Int} {wr : World} (h : SortMid w b p s q n fp L sn lk lt xk t born wr) (hxt : xt = t) (hi : SortInv n (i + 1) zs R L (sn.set t true) xk xt) :
    SortRel w b p s n (i + 1) zs (((wr.setCell ⟨s, t, none⟩ (.bool true)).setCell ⟨p, 0, none⟩ (.int .i64 xk)).setCell ⟨p, 1, none⟩ (.int .i64 t)) := by
  subst hxt
  have hU : Upd [p, s] wr (((wr.setCell ⟨s, t, none⟩ (.bool true)).setCell ⟨p, 0, none⟩ (.int .i64 xk)).setCell ⟨p, 1, none⟩ (.int .i64 t)) :=
    Upd.setCell (Upd.setCell (Upd.setCell (Upd.refl _ _) (by simp) _) (by simp) _) (by simp) _
  refine ⟨fp, R, L, sn.set t true, xk, t, born, hi, ⟨h.own.heap.upd hU ?_, h.own.upd.trans hU ?_, h.own.new⟩, ?_, ?_, h.pf, h.sf, h.ps, h.wp, h.ws⟩
  · intro x hx hm
    simp at hm
    rcases hm with rfl | rfl
    · exact h.pf hx
    · exact h.sf hx
  · intro x hx
    simp at hx
    rcases hx with rfl | rfl
    · exact .inr h.wp
    · exact .inr h.ws
  · exact ((h.bp.other h.ps _).set 0 _).set 1 _
  · have := (h.row.stored t (.bool true)).1
    rw [← List.map_set] at this
    exact ownsRow_setCell_other (ownsRow_setCell_other this (by simp [Value.ownBlock]; exact fun e => h.ps e.symm) _) (by simp [Value.ownBlock]; exact fun e => h.ps e.symm) _

set_option maxHeartbeats 4000000 in
set_option maxRecDepth 100000 in
theorem sorts_walk (a0 : Option Addr) (len cap : Nat) (zs : List Int) (w : World) (hrow : RowAt w a0 len zs) (hlen : len ≤ 1048576) :
    Calls Try.prog 3 #[.slice a0 len cap] w fun e w' => e = .returned (.bool true) ∧ Upd [] w w' := by
  obtain ⟨i4, hi4, hz40, hz41, hz42⟩ := info_parts Try.info4
  have Hrow := Lib.hid hrow
  clear hrow
  go_enter Try.func3, Try.ntmps3
  go_wp2_with fail
  refine (hnew _).mono ?_
  rintro e w1 ⟨b, rfl, h1, u1, hb⟩
  have K1 := Lib.hid (show Own w b [b] [] 0 w1 from ⟨h1, u1, by simpa using hb⟩)
  clear h1 u1 hb
  go_wp2_with fail
  refine (known_any _).mono ?_
  rintro e w2 ⟨rfl, u2⟩
  have K2 := Lib.hid (K1.out.any u2)
  clear u2 K1
  go_upto_block 0 with fail
  go_cut [4] (fun _ wc => PushRel w b zs len wc)
  case first =>
    go_wp2_with fail
    go_loopg [4] len (fun g t wr => ∃ i : Nat, t = .int .i64 i ∧ i ≤ len ∧ g = len - i ∧ PushRel w b zs i wr)
    case atStart => exact ⟨0, rfl, Nat.zero_le _, rfl, [b], [], K2.out, by simp [its]⟩
    case round =>
      obtain ⟨i, rfl, hi, rfl, fp, L, hO, hP⟩ := hrel
      have HO := Lib.hid hO
      have HP := Lib.hid hP
      clear hO hP K2
      by_cases hlt : i < len
      · obtain ⟨xb, xo, rfl, hxb, hc⟩ := (Hrow.out.upd HO.out.upd) i hlt
        have HL : L.length = i := by rw [HP.out.length_eq, its_len]
        have HLn := Lib.hid HL
        clear HL
        go_wp2_with fail
        refine (hpush b fp L _ _ _ _ HO.out.heap (by rw [HLn.out]; omega) (by omega) (by omega)).mono ?_
        rintro e w3 ⟨rfl, fp3, L3, h3, p3, u3, f3⟩
        have K3 := Lib.hid (HO.out.go h3 u3 f3)
        have hp3 : L3.Perm (its zs (i + 1)) := by rw [its_succ]; exact p3.trans (HP.out.append_right _)
        have P3 := Lib.hid hp3
        clear h3 p3 u3 f3 hc hxb HO hp3
        go_wp2_with fail
        go_roundg (len - (i + 1))
        case measure => omega
        case rel => exact ⟨i + 1, by go_num, by omega, rfl, fp3, L3, K3.out, P3.out⟩
      · obtain rfl : i = len := by omega
        go_wp2_with fail
        go_meet
        exact ⟨fp, L, HO.out, HP.out⟩
  case rest =>
    obtain ⟨fp, L, hO, hP⟩ := hcut
    have HO := Lib.hid hO
    have HP := Lib.hid hP
    clear hO hP K2
    go_upto_block 2 with (at_make; refine wpList_make_full _ rfl _ _ 29 rfl 0 4 i4 _ 1 Try.underlying29 hi4 hz40 hz41 .i64 .i64 _ _ len rfl rfl rfl rfl (by rw [hz42]; omega) (by unfold maxLen; omega) (Nat.zero_le _) ?_; intro w3 ho3 hg3)
    have hsl := (ho3.lt wc.heap.size rfl).2
    have hR0 : SortRel w b w3.heap.size wc.heap.size len 0 zs (w3.alloc (.cells #[.int .i64 0, .int .i64 0] 26)) := by
      have u3 : Upd [] wc w3 := (Upd.refl [] wc).grown hg3 (by simp)
      have hsn := toList_madeCells_one (.bool false) len
      have hO3 := HO.out.any u3
      refine ⟨fp, [], L, List.replicate len false, 0, 0, len, SortInv.start zs len L HP.out, hO3.any ((Upd.refl _ _).alloc _), Blk.new _ _ _, ?_, ?_, ?_, by omega, ?_, ?_⟩
      · have := ho3.alloc (.cells #[.int .i64 0, .int .i64 0] 26)
        simp only [Nat.mul_one, Value.cells] at this
        rw [hsn] at this
        simpa using this
      · intro hx; have := hO3.heap.lt _ hx; omega
      · intro hx; have := HO.out.heap.lt _ hx; omega
      · have := hO3.upd.size; omega
      · exact HO.out.upd.size
    have HR0 := Lib.hid hR0
    clear hR0 hsl ho3 hg3 HO HP
    generalize w3.alloc (.cells #[.int .i64 0, .int .i64 0] 26) = w4 at *
    generalize w3.heap.size = p at *
    generalize wc.heap.size = s at *
    go_cut [7] (fun _ wd => SortRel w b p s len len zs wd)
    case first =>
      go_wp2_with fail
      go_loopg [7] len (fun g u wr => ∃ i : Nat, u = .int .i64 i ∧ i ≤ len ∧ g = len - i ∧ SortRel w b p s len i zs wr)
      case atStart => exact ⟨0, rfl, Nat.zero_le _, rfl, HR0.out⟩
      case round =>
        obtain ⟨i, rfl, hi, rfl, hSR⟩ := hrel
        have HSR := Lib.hid hSR
        clear hSR HR0
        by_cases hlt : i < len
        · obtain ⟨fp5, R, L5, sn, lk, lt, bo, hS, hO, hB, hr, hpf, hsf, hps, hwp, hws⟩ := HSR.out
          have hne : L5 ≠ [] := by
            intro e
            have h1 := hS.perm.length_eq
            rw [e, List.append_nil, hS.len, its_len] at h1
            omega
          have hl5 : L5.length ≤ 1073741822 := by
            have h1 := hS.perm.length_eq
            rw [List.length_append, its_len] at h1
            omega
          have HA := Lib.hid (And.intro hS (And.intro hO (And.intro hB (And.intro hr (And.intro hpf (And.intro hsf hps))))))
          have HW := Lib.hid (And.intro hwp hws)
          have Hne := Lib.hid hne
          clear hS hO hB hr hpf hsf hps hwp hws HSR hne
          go_wp2_with fail
          refine (hpop b fp5 L5 _ _ HA.out.2.1.heap Hne.out hl5).mono ?_
          rintro e w5 ⟨x, L6, rfl, h5, p5, m5, u5, -⟩
          obtain ⟨xk, xt, xo'⟩ := x
          obtain ⟨t, hxt, htn, hzk, hsn, hcmp, hnext⟩ := HA.out.1.next p5 m5
          dsimp only at hxt hzk hcmp hnext ⊢
          have hM := sort_mid (xk := xk) (t := t) HA.out.2.1 HA.out.2.2.1 HA.out.2.2.2.1 HA.out.2.2.2.2.1 HA.out.2.2.2.2.2.1 HA.out.2.2.2.2.2.2 HW.out.1 HW.out.2 h5 u5
          subst hxt
          have HM := Lib.hid hM
          have Hn := Lib.hid hnext
          have Hc := Lib.hid hcmp
          clear hM hnext hcmp h5 u5 p5 m5 hl5
          go_wp2_with fail
          generalize w5.alloc (.cells #[.int .i64 xk, .int .i64 t] 26) = wA at *
          generalize w5.heap.size = q at *
          have hM := HM.out
          have cq0 := hM.bq.cell (o := 0) rfl
          have cq1 := hM.bq.cell (o := 1) rfl
          have cs : wA.cell? ⟨s, t, none⟩ = some (.bool false) := by
            rw [hM.row.cellAt t (by omega)]
            have h1 := HA.out.1.sl
            have h2 : t < sn.length := by omega
            simp only [List.getElem?_map]
            rw [List.getElem?_eq_getElem h2]
            simp [List.getD, h2] at hsn
            simp [hsn]
          obtain ⟨xb, xo, rfl, hxb, hcx⟩ := (Hrow.out.upd hM.own.upd) t htn
          simp only [List.getD_eq_getElem?_getD] at hcx hzk
          rw [hzk] at hcx
          have d1 : decide ((t : Int) < 0) = false := by simp
          have d2 : decide ((len : Int) ≤ (t : Int)) = false := by simp; omega
          clear hM hsn hzk
          go_upto_region 16 with (go_quiet (fail))
          have HM2 := Lib.hid (HM.out.drew nq)
          clear d1 d2 cq0 cq1 cs hcx hxb HM
          generalize wA.drewN nq = wB at *
          have hM := HM2.out
          have cq0 := hM.bq.cell (o := 0) rfl
          have cq1 := hM.bq.cell (o := 1) rfl
          have cp0 := hM.bp.cell (o := 0) rfl
          have cp1 := hM.bp.cell (o := 1) rfl
          have fp0 := hM.bp.frozen 0
          have fp1 := hM.bp.frozen 1
          have fs := hM.row.frozenAt t
          obtain ⟨sv, cs⟩ : ∃ sv, wB.cell? ⟨s, t, none⟩ = some sv := by
            rw [hM.row.cellAt t (by omega)]
            have h1 := HA.out.1.sl
            exact ⟨_, List.getElem?_eq_getElem (by simp; omega)⟩
          have hps := hM.ps
          have hqp := hM.qp
          have hqs := hM.qs
          clear hM
          go_cut [101] (fun v wd => v = .bool false ∧ wd = wB)
          case first =>
            by_cases h0 : i = 0
            · subst h0
              go_wp2_with fail
              go_meet
              exact ⟨rfl, rfl⟩
            · have hpos : (0 : Int) < i := by omega
              rcases Hc.out (by omega) with h1 | ⟨rfl, h2⟩
              · have e1 : decide (xk < lk) = false := by simp; omega
                have e2 : (xk == lk) = false := by simp; omega
                clear h0
                go_wp2_with fail
                go_meet
                exact ⟨rfl, rfl⟩
              · have e1 : decide ((t : Int) < lt) = false := by simp; omega
                clear h0
                go_wp2_with fail
                go_meet
                exact ⟨rfl, rfl⟩
          case rest =>
            obtain ⟨rfl, rfl⟩ := hcut
            go_wp2_with fail
            go_roundg (len - (i + 1))
            case measure => omega
            case rel =>
              refine ⟨i + 1, by go_num, by omega, rfl, ?_⟩
              exact sort_out HM2.out rfl Hn.out
        · obtain rfl : i = len := by omega
          go_wp2_with fail
          go_meet
          exact HSR.out
    case rest =>
      obtain ⟨fp5, R, L5, sn, lk, lt, bo, hS, hO, -⟩ := hcut
      have hL0 : L5 = [] := by
        have h1 := hS.perm.length_eq
        rw [List.length_append, its_len, hS.len] at h1
        exact List.length_eq_zero_iff.1 (by omega)
      subst hL0
      have HO5 := Lib.hid hO
      clear hO hS HR0
      go_wp2_with fail
      refine (hpop_nil b fp5 bo _ HO5.out.heap).mono ?_
      rintro e w5 ⟨rfl, u5⟩
      have K5 := Lib.hid (HO5.out.any u5)
      clear u5 HO5
      go_wp2_with fail
      refine (hlen' b fp5 [] bo 0 _ (K5.out.any ((Upd.refl _ _).alloc _)).heap rfl).mono ?_
      rintro e w6 ⟨rfl, rfl⟩
      go_wp2_with fail
      go_ret
      exact ⟨rfl, (K5.out.any ((Upd.refl _ _).alloc _)).upd⟩

end Go.Proofs.Ytghpiegcmakggaa
