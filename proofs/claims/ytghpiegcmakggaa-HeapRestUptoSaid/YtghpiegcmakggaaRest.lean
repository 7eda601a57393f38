/- HeapRest: the walk. Condition: at most 2^20 numbers. -/
import Derived.Test.YtghpiegcmakggaaRemove
import Derived.Test.YtghpiegcmakggaaSorts
set_option linter.unusedVariables false
set_option linter.unusedSimpArgs false
namespace Go.Proofs.Ytghpiegcmakggaa
open Go.RowKit Go.Lb Go.Hp

/-- What stays of the first n. -/
def stay (zs : List Int) (key : Int) (n : Nat) : List It := (its zs n).filter fun x => !x.eqk key

theorem stay_succ (zs : List Int) (key : Int) (n : Nat) : (stay zs key (n + 1)).length = (stay zs key n).length + if zs.getD n 0 = key then 0 else 1 := by
  unfold stay
  rw [its_succ, List.filter_append, List.length_append]
  congr 1
  by_cases h : zs.getD n 0 = key
  · rw [if_pos h, List.filter_cons_of_neg (by simp only [Bool.not_eq_true, Bool.not_eq_false']; exact (It.eqk_iff _ _).2 h)]
    rfl
  · rw [if_neg h, List.filter_cons_of_pos]
    · rfl
    · have : (⟨zs.getD n 0, n, (n : Int) + 1⟩ : It).eqk key = false := by
        cases hb : (⟨zs.getD n 0, n, (n : Int) + 1⟩ : It).eqk key with
        | false => rfl
        | true => exact absurd ((It.eqk_iff _ _).1 hb) h
      simpa [List.getD] using this

theorem stay_mem {zs : List Int} {key : Int} {n : Nat} {x : It} : x ∈ stay zs key n ↔ x ∈ its zs n ∧ x.key ≠ key := by
  unfold stay
  rw [List.mem_filter]
  constructor
  · rintro ⟨h1, h2⟩
    exact ⟨h1, fun e => by rw [(It.eqk_iff _ _).2 e] at h2; simp at h2⟩
  · rintro ⟨h1, h2⟩
    refine ⟨h1, ?_⟩
    cases hb : x.eqk key with
    | false => rfl
    | true => exact absurd ((It.eqk_iff _ _).1 hb) h2

structure RestInv (n i : Nat) (zs : List Int) (key : Int) (R L : List It) (lk lt : Int) : Prop where
  perm : (R ++ L).Perm (stay zs key n)
  len : R.length = i
  last : 0 < i → ∃ x, x ∈ R ∧ x.key = lk ∧ x.tag = lt ∧ ∀ y ∈ L, leI x y

theorem RestInv.next {n i : Nat} {zs : List Int} {key : Int} {R L L' : List It} {lk lt : Int} {x : It} (h : RestInv n i zs key R L lk lt) (hp : (x :: L').Perm L) (hm : ∀ y ∈ L, leI x y) :
    ∃ t : Nat, x.tag = t ∧ t < n ∧ zs.getD t 0 = x.key ∧ x.key ≠ key ∧ (0 < i → lk < x.key ∨ (lk = x.key ∧ lt < x.tag)) ∧ RestInv n (i + 1) zs key (R ++ [x]) L' x.key x.tag := by
  have hxL : x ∈ L := hp.mem_iff.1 List.mem_cons_self
  have hxS : x ∈ stay zs key n := h.perm.mem_iff.1 (by simp [hxL])
  have hxI := (stay_mem.1 hxS).1
  obtain ⟨t, ht, hxe⟩ := its_mem.1 hxI
  have htag : x.tag = t := by rw [hxe]
  have hnd : (R ++ L).Nodup := h.perm.nodup_iff.2 (List.Pairwise.filter _ (its_nodup zs n))
  refine ⟨t, htag, ht, by rw [hxe], (stay_mem.1 hxS).2, fun hi => ?_, ?_⟩
  · obtain ⟨y, hy, rfl, rfl, hle⟩ := h.last hi
    have hl := (leI_iff _ _).1 (hle x hxL)
    have hyI : y ∈ its zs n := (stay_mem.1 (h.perm.mem_iff.1 (by simp [hy]))).1
    have hne : y.tag ≠ x.tag := fun e => by
      have := its_tag_inj hyI hxI e
      subst this
      exact (List.nodup_append.1 hnd).2.2 y hy y hxL rfl
    obtain ⟨s, hs, hye⟩ := its_mem.1 hyI
    rw [hye, hxe] at hl hne ⊢
    simp only at hl hne ⊢
    omega
  · refine ⟨?_, by simp [h.len], fun _ => ⟨x, by simp, rfl, rfl, fun y hy => hm y (hp.mem_iff.1 (by simp [hy]))⟩⟩
    rw [List.append_assoc, List.singleton_append]
    exact (hp.append_left R).trans h.perm

def RestRel (w : World) (b p n i : Nat) (zs : List Int) (key : Int) (wr : World) : Prop :=
  ∃ fp R L lk lt born, RestInv n i zs key R L lk lt ∧ Own w b fp L born wr ∧ Blk wr p 26 [.int .i64 lk, .int .i64 lt] ∧ p ∉ fp ∧ w.heap.size ≤ p

structure RestMid (w : World) (b p q : Nat) (fp : List Nat) (L : List It) (lk lt xk xt born : Int) (wr : World) : Prop where
  own : Own w b fp L born wr
  bp : Blk wr p 26 [.int .i64 lk, .int .i64 lt]
  bq : Blk wr q 26 [.int .i64 xk, .int .i64 xt]
  pf : p ∉ fp
  wp : w.heap.size ≤ p
  qp : q ≠ p

theorem RestMid.drew {w : World} {b p q : Nat} {fp : List Nat} {L : List It} {lk lt xk xt born : Int} {wr : World} (h : RestMid w b p q fp L lk lt xk xt born wr) (m : Nat) : RestMid w b p q fp L lk lt xk xt born (wr.drewN m) :=
  ⟨h.own.any ((Upd.refl [] wr).drewN m), ((Upd.refl [] wr).drewN m).blk h.bp (by simp), ((Upd.refl [] wr).drewN m).blk h.bq (by simp), h.pf, h.wp, h.qp⟩

theorem rest_mid {w wr w5 : World} {b p : Nat} {fp : List Nat} {L L' : List It} {lk lt xk xt born : Int} (hO : Own w b fp L born wr) (hB : Blk wr p 26 [.int .i64 lk, .int .i64 lt]) (hp : p ∉ fp) (wp : w.heap.size ≤ p) (h5 : HeapIs w5 b fp L' born) (u5 : Upd fp wr w5) :
    RestMid w b p w5.heap.size fp L' lk lt xk xt born (w5.alloc (.cells #[.int .i64 xk, .int .i64 xt] 26)) := by
  have hB5 := u5.blk hB hp
  have hpl := hB5.lt
  exact ⟨(hO.go h5 u5 (fun x hx => .inl hx)).any ((Upd.refl [] w5).alloc _), hB5.alloc _, Blk.new w5 26 [.int .i64 xk, .int .i64 xt], hp, wp, by omega⟩

theorem rest_out {w wr : World} {b p q n i : Nat} {zs : List Int} {key : Int} {fp : List Nat} {R L : List It} {lk lt xk xt born : Int} (h : RestMid w b p q fp L lk lt xk xt born wr) (hi : RestInv n (i + 1) zs key R L xk xt) :
    RestRel w b p n (i + 1) zs key ((wr.setCell ⟨p, 0, none⟩ (.int .i64 xk)).setCell ⟨p, 1, none⟩ (.int .i64 xt)) := by
  have hU : Upd [p] wr ((wr.setCell ⟨p, 0, none⟩ (.int .i64 xk)).setCell ⟨p, 1, none⟩ (.int .i64 xt)) := Upd.setCell (Upd.setCell (Upd.refl _ _) (by simp) _) (by simp) _
  refine ⟨fp, R, L, xk, xt, born, hi, ⟨h.own.heap.upd hU ?_, h.own.upd.trans hU ?_, h.own.new⟩, (h.bp.set 0 _).set 1 _, h.pf, h.wp⟩
  · intro x hx hm
    simp at hm
    subst hm
    exact h.pf hx
  · intro x hx
    simp at hx
    subst hx
    exact .inr h.wp

/-- the numbers pushed, and how many of them go -/
def GoneRel (w : World) (b : Nat) (zs : List Int) (key : Int) (g i : Nat) (wr : World) : Prop := ∃ fp L, Own w b fp L i wr ∧ L.Perm (its zs i) ∧ g + (stay zs key i).length = i

set_option maxHeartbeats 4000000 in
set_option maxRecDepth 100000 in
theorem rest_walk (a0 : Option Addr) (len cap : Nat) (zs : List Int) (key : Int) (w : World) (hrow : RowAt w a0 len zs) (hlen : len ≤ 1048576) :
    Calls Try.prog 7 #[.slice a0 len cap, .int .i64 key] w fun e w' => e = .returned (.bool true) ∧ Upd [] w w' := by
  have Hrow := Lib.hid hrow
  clear hrow
  go_enter Try.func7, Try.ntmps7
  go_wp2_with fail
  refine (hnew _).mono ?_
  rintro e w1 ⟨b, rfl, h1, u1, hb⟩
  have K1 := Lib.hid (show Own w b [b] [] 0 w1 from ⟨h1, u1, by simpa using hb⟩)
  clear h1 u1 hb
  go_wp2_with fail
  refine (known_any _).mono ?_
  rintro e w2 ⟨rfl, u2⟩
  have K2 := Lib.hid (K1.out.any u2)
  clear u2 K1
  go_upto_block 0 with fail
  go_cut [6, 7] (fun g _ wc => ∃ m : Nat, g = .int .i64 m ∧ GoneRel w b zs key m len wc)
  case first =>
    go_wp2_with fail
    go_loopg [6, 7] len (fun g u t wr => ∃ m i : Nat, u = .int .i64 m ∧ t = .int .i64 i ∧ i ≤ len ∧ m ≤ i ∧ g = len - i ∧ GoneRel w b zs key m i wr)
    case atStart => exact ⟨0, 0, rfl, rfl, Nat.zero_le _, Nat.le_refl _, rfl, [b], [], K2.out, by simp [its], by simp [stay, its]⟩
    case round =>
      obtain ⟨m, i, rfl, rfl, hi, hmi, rfl, fp, L, hO, hP, hS⟩ := hrel
      have HO := Lib.hid hO
      have HP := Lib.hid hP
      have HS := Lib.hid hS
      clear hO hP hS K2
      by_cases hlt : i < len
      · obtain ⟨xb, xo, rfl, hxb, hc⟩ := (Hrow.out.upd HO.out.upd) i hlt
        have HL : L.length = i := by rw [HP.out.length_eq, its_len]
        have HLn := Lib.hid HL
        clear HL
        obtain ⟨z, hz⟩ : ∃ z, zs.getD i 0 = z := ⟨_, rfl⟩
        have Hz := Lib.hid hz
        rw [hz] at hc
        clear hz
        go_wp2_with fail
        refine (hpush b fp L _ _ _ _ HO.out.heap (by rw [HLn.out]; omega) (by omega) (by omega)).mono ?_
        rintro e w3 ⟨rfl, fp3, L3, h3, p3, u3, f3⟩
        have K3 := Lib.hid (HO.out.go h3 u3 f3)
        have hp3 : L3.Perm (its zs (i + 1)) := by rw [its_succ, Hz.out]; exact p3.trans (HP.out.append_right _)
        have P3 := Lib.hid hp3
        have hc3 := ((show RowAt w (some ⟨xb, xo, none⟩) len zs from Hrow.out).upd K3.out.upd) i hlt
        obtain ⟨xb', xo', e, hxb3, hc3⟩ := hc3
        obtain ⟨rfl, rfl⟩ : xb' = xb ∧ xo' = xo := by simp at e; exact ⟨e.1.symm, e.2.symm⟩
        rw [Hz.out] at hc3
        clear h3 p3 u3 f3 hc hxb HO hp3 e
        by_cases hk : z = key
        · have hk2 : (z == key) = true := beq_iff_eq.2 hk
          have Hk := Lib.hid hk
          clear hk
          go_wp2_with fail
          go_roundg (len - (i + 1))
          case measure => omega
          case rel => exact ⟨m + 1, i + 1, by go_num, by go_num, by omega, by omega, rfl, fp3, L3, K3.out, P3.out, by have h1 := stay_succ zs key i; rw [Hz.out, if_pos Hk.out] at h1; have := HS.out; omega⟩
        · have hk2 : (z == key) = false := beq_eq_false_iff_ne.2 hk
          have Hk := Lib.hid hk
          clear hk
          go_wp2_with fail
          go_roundg (len - (i + 1))
          case measure => omega
          case rel => exact ⟨m, i + 1, rfl, by go_num, by omega, by omega, rfl, fp3, L3, K3.out, P3.out, by have h1 := stay_succ zs key i; rw [Hz.out, if_neg Hk.out] at h1; have := HS.out; omega⟩
      · obtain rfl : i = len := by omega
        go_wp2_with fail
        go_meet
        exact ⟨m, rfl, fp, L, HO.out, HP.out, HS.out⟩
  case rest =>
    obtain ⟨m, rfl, fp, L, hO, hP, hS⟩ := hcut
    have HO := Lib.hid hO
    have HP := Lib.hid hP
    have HS := Lib.hid hS
    have hml : m ≤ len := by omega
    have hLl : L.length = len := by rw [hP.length_eq, its_len]
    have HLl := Lib.hid hLl
    have hfl : (L.filter fun x => !x.eqk key).length = (stay zs key len).length := by unfold stay; exact (hP.filter _).length_eq
    have Hfl := Lib.hid hfl
    clear hO hP hS hLl hfl K2
    go_wp2_with fail
    have KA := Lib.hid (HO.out.any ((Upd.refl [] wc).alloc (.cells #[.int .i64 key, .int .i64 (-1)] 26)))
    have hpA := Blk.new wc 26 [.int .i64 key, .int .i64 (-1)]
    have hfp : ∀ x ∈ fp, x ≠ wc.heap.size := fun x hx e => by have := HO.out.heap.lt x hx; omega
    refine (hremove b fp L _ key (-1) _ KA.out.heap (by rw [HLl.out]; omega) m (by rw [Hfl.out, HLl.out]; exact HS.out)).mono ?_
    rintro e w3 ⟨rfl, L3, h3, p3, u3⟩
    have K3 := Lib.hid (KA.out.go h3 u3 (fun x hx => .inl hx))
    have hB3 := u3.blk hpA (fun hx => hfp _ hx rfl)
    have c0 := hB3.cell (o := 0) rfl
    have c1 := hB3.cell (o := 1) rfl
    have hl3 : L3.length = len - m := by have h1 := p3.length_eq; rw [Hfl.out] at h1; have := HS.out; omega
    have Hl3 := Lib.hid hl3
    have P3 := Lib.hid p3
    clear h3 u3 p3 hl3 hpA hfp hB3
    go_wp2_with fail
    refine (hlen' b fp L3 _ (len - m) _ K3.out.heap Hl3.out).mono ?_
    rintro e w4 ⟨rfl, rfl⟩
    have hsub : (((len - m : Nat) : Int)) = (len : Int) - m := by omega
    rw [hsub]
    clear hsub
    go_wp2_with fail
    refine (hremove b fp L3 _ key (-1) _ K3.out.heap (by rw [Hl3.out]; omega) 0 (by
      rw [Nat.zero_add, List.filter_eq_self.2]
      intro x hx
      have := P3.out.mem_iff.1 hx
      exact (List.mem_filter.1 this).2)).mono ?_
    rintro e w4 ⟨rfl, L4, h4, p4, u4⟩
    have K4 := Lib.hid (K3.out.go h4 u4 (fun x hx => .inl hx))
    have hp4 : L4.Perm (stay zs key len) := by
      refine (p4.trans ((P3.out.filter _).trans ?_))
      unfold stay
      rw [List.filter_filter]
      simp only [Bool.and_self]
      exact HP.out.filter _
    have P4 := Lib.hid hp4
    clear h4 p4 u4 hp4 c0 c1 K3 KA
    go_upto_block 2 with fail
    have hR0 : RestRel w b w4.heap.size len 0 zs key (w4.alloc (.cells #[.int .i64 0, .int .i64 0] 26)) := by
      refine ⟨fp, [], L4, 0, 0, len, ⟨by simpa using P4.out, rfl, fun h => absurd h (by omega)⟩, K4.out.any ((Upd.refl _ _).alloc _), Blk.new w4 26 _, ?_, K4.out.upd.size⟩
      intro hx; have := K4.out.heap.lt _ hx; omega
    have HR0 := Lib.hid hR0
    have hst : (stay zs key len).length = len - m := by have := HS.out; omega
    have Hst := Lib.hid hst
    clear hR0 K4 P4 P3 HS HP HO Hfl HLl Hl3 hst
    generalize w4.alloc (.cells #[.int .i64 0, .int .i64 0] 26) = w5 at *
    generalize w4.heap.size = p at *
    go_cut [10] (fun _ wd => RestRel w b p len (len - m) zs key wd)
    case first =>
      go_wp2_with fail
      go_loopg [10] (len - m) (fun g u wr => ∃ i : Nat, u = .int .i64 i ∧ i ≤ len - m ∧ g = len - m - i ∧ RestRel w b p len i zs key wr)
      case atStart => exact ⟨0, rfl, Nat.zero_le _, rfl, HR0.out⟩
      case round =>
        obtain ⟨i, rfl, hi, rfl, hSR⟩ := hrel
        have HSR := Lib.hid hSR
        clear hSR HR0
        by_cases hlt : i < len - m
        · obtain ⟨fp5, R, L5, lk, lt, bo, hS, hO, hB, hpf, hwp⟩ := HSR.out
          have hll : L5.length = len - m - i := by
            have h1 := hS.perm.length_eq
            rw [List.length_append, hS.len, Hst.out] at h1
            omega
          have hne : L5 ≠ [] := by intro e; rw [e] at hll; simp at hll; omega
          have hl5 : L5.length ≤ 1073741822 := by omega
          have HA := Lib.hid (And.intro hS (And.intro hO (And.intro hB (And.intro hpf hwp))))
          have Hne := Lib.hid hne
          have hlt2 : (i : Int) < (len : Int) - m := by omega
          clear hS hO hB hpf hwp HSR hne hll
          go_wp2_with fail
          refine (hpop b fp5 L5 _ _ HA.out.2.1.heap Hne.out hl5).mono ?_
          rintro e w6 ⟨x, L6, rfl, h5, p5, m5, u5, -⟩
          obtain ⟨xk, xt, xo'⟩ := x
          obtain ⟨t, hxt, htn, hzk, hkey, hcmp, hnext⟩ := HA.out.1.next p5 m5
          dsimp only at hxt hzk hkey hcmp hnext ⊢
          have hM := rest_mid (xk := xk) (xt := xt) HA.out.2.1 HA.out.2.2.1 HA.out.2.2.2.1 HA.out.2.2.2.2 h5 u5
          subst hxt
          have HM := Lib.hid hM
          have Hn := Lib.hid hnext
          have Hc := Lib.hid hcmp
          clear hM hnext hcmp h5 u5 p5 m5 hl5
          go_upto_region 19 with fail
          generalize w6.alloc (.cells #[.int .i64 xk, .int .i64 t] 26) = wA at *
          generalize w6.heap.size = q at *
          have hM := HM.out
          have cq0 := hM.bq.cell (o := 0) rfl
          have cq1 := hM.bq.cell (o := 1) rfl
          have cp0 := hM.bp.cell (o := 0) rfl
          have cp1 := hM.bp.cell (o := 1) rfl
          obtain ⟨xb, xo, rfl, hxb, hcx⟩ := (Hrow.out.upd hM.own.upd) t htn
          simp only [List.getD_eq_getElem?_getD] at hcx hzk
          rw [hzk] at hcx
          have d1 : decide ((t : Int) < 0) = false := by simp
          have d2 : decide ((len : Int) ≤ (t : Int)) = false := by simp; omega
          have d2n : decide (len ≤ t) = false := by simp; omega
          have d3 : (xk == key) = false := beq_eq_false_iff_ne.2 hkey
          clear hM hzk hkey
          go_cut [138] (fun v wd => v = .bool false ∧ ∃ nq, wd = wA.drewN nq)
          case first =>
            by_cases h0 : i = 0
            · subst h0
              have d4 : decide ((0 : Int) < ((0 : Nat) : Int)) = false := rfl
              go_quiet (fail)
              go_wp2_with fail
              go_meet
              exact ⟨by simp, _, rfl⟩
            · have hpos : (0 : Int) < (i : Int) := by omega
              have hposn : 0 < i := by omega
              rcases Hc.out (by omega) with h1 | ⟨rfl, h2⟩
              · have e1 : decide (xk < lk) = false := by simp; omega
                have e2 : (xk == lk) = false := by rw [beq_eq_false_iff_ne]; omega
                clear h0 h1
                go_quiet (fail)
                go_wp2_with fail
                go_meet
                exact ⟨by simp, _, rfl⟩
              · have e1 : decide ((t : Int) ≤ lt) = false := by simp; omega
                clear h0 h2
                go_quiet (fail)
                go_wp2_with fail
                go_meet
                exact ⟨by simp, _, rfl⟩
          case rest =>
            obtain ⟨rfl, nq, rfl⟩ := hcut
            have HM2 := Lib.hid (HM.out.drew nq)
            clear cq0 cq1 cp0 cp1 hcx hxb HM d1 d2 d2n d3
            generalize wA.drewN nq = wB at *
            have hM := HM2.out
            have cq0 := hM.bq.cell (o := 0) rfl
            have cq1 := hM.bq.cell (o := 1) rfl
            have cp0 := hM.bp.cell (o := 0) rfl
            have cp1 := hM.bp.cell (o := 1) rfl
            have fp0 := hM.bp.frozen 0
            have fp1 := hM.bp.frozen 1
            have hqp := hM.qp
            clear hM
            go_wp2_with fail
            go_roundg (len - m - (i + 1))
            case measure => omega
            case rel => exact ⟨i + 1, by go_num, by omega, rfl, rest_out HM2.out Hn.out⟩
        · obtain rfl : i = len - m := by omega
          have hsub : ((len - m : Nat) : Int) = (len : Int) - m := by omega
          rw [hsub]
          go_wp2_with fail
          go_meet
          exact HSR.out
    case rest =>
      obtain ⟨fp5, R, L5, lk, lt, bo, hS, hO, -⟩ := hcut
      have hL0 : L5 = [] := by
        have h1 := hS.perm.length_eq
        rw [List.length_append, hS.len, Hst.out] at h1
        exact List.length_eq_zero_iff.1 (by omega)
      subst hL0
      have HO5 := Lib.hid hO
      clear hO hS HR0
      go_wp2_with fail
      refine (hpop_nil b fp5 bo _ HO5.out.heap).mono ?_
      rintro e w6 ⟨rfl, u5⟩
      have K5 := Lib.hid (HO5.out.any u5)
      clear u5 HO5
      go_wp2_with fail
      go_ret
      exact ⟨rfl, (K5.out.any ((Upd.refl _ _).alloc _)).upd⟩

end Go.Proofs.Ytghpiegcmakggaa
