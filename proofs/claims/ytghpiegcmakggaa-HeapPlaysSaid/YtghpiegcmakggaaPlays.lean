/- HeapPlays: the walk. Condition: at most 5864062014634 steps (as many as the reach lets). -/
import Derived.Test.YtghpiegcmakggaaDuoB
import Derived.Deep.RegionWith
set_option linter.unusedVariables false
set_option linter.unusedSimpArgs false
namespace Go.Proofs.Ytghpiegcmakggaa
open Go.RowKit Go.Lb Go.Hp

set_option maxHeartbeats 4000000 in
set_option maxRecDepth 100000 in
theorem plays_walk (a0 : Option Addr) (len cap : Nat) (w : World) (hrow : OpAt w a0 len) (hlen : len ≤ 5864062014634) :
    Calls Try.prog 6 #[.slice a0 len cap] w fun e w' => e = .returned (.bool true) ∧ Upd [] w w' := by
  have Hrow := Lib.hid hrow
  clear hrow
  go_enter Try.func6, Try.ntmps6
  go_wp2_with fail
  refine (hnew _).mono ?_
  rintro e w1 ⟨b, rfl, h1, u1, hb⟩
  have hbl := h1.lt b (by simp)
  have K1 := Lib.hid (show Own w b [b] [] 0 w1 from ⟨h1, u1, by simpa using hb⟩)
  have HB1 := Lib.hid (Blk.new w1 44 [.slice none 0 0])
  clear h1 u1 hb
  go_wp2_with fail
  refine (known_any _).mono ?_
  rintro e w2 ⟨rfl, u2⟩
  have hB : Both w b w1.heap.size 0 [] [] [b] (.slice none 0 0) 0 w2 := by
    have U := ((Upd.refl [] w1).alloc (.cells #[.slice none 0 0] 44)).trans u2 (by simp)
    refine ⟨Duo.nil, K1.out.any U, ⟨u2.blk HB1.out (by simp), World.ownsRow_nil _ _ _ _, by simp [Value.ownBlock]⟩, by simp; omega, by intro s hs; simp [Value.ownBlock] at hs, K1.out.upd.size, by simp, by omega, by simp⟩
  have HB := Lib.hid (show PlayRel w b w1.heap.size 0 w2 from ⟨_, _, _, _, _, hB⟩)
  clear hB u2 K1 HB1 hbl
  generalize w1.heap.size = rb at *
  go_wp2_with fail
  go_loopg [5] len (fun g u wr => ∃ i : Nat, u = .int .i64 i ∧ i ≤ len ∧ g = len - i ∧ PlayRel w b rb i wr)
  case atStart => exact ⟨0, rfl, Nat.zero_le _, rfl, HB.out⟩
  case round =>
    obtain ⟨i, rfl, hi, rfl, hR⟩ := hrel
    clear HB
    have HR := Lib.hid hR
    clear hR
    by_cases hlt : i < len
    · obtain ⟨A, L, fp, v, born, hB⟩ := HR.out
      obtain ⟨bk, o, k, x, t, rfl, hbk, c0, c1, c2⟩ := (Hrow.out.upd hB.own.upd) i hlt
      have HB := Lib.hid hB
      clear hB HR
      go_upto_block 2 with fail
      have hql : ∀ y ∈ fp, y ≠ wr.heap.size := fun y hy e => by have := HB.out.own.heap.lt y hy; omega
      have hqr : rb ≠ wr.heap.size := fun e => by have := HB.out.ref.blk.lt; omega
      have hBA := HB.out.any ((Upd.refl [] wr).alloc (.cells #[.int .i64 k, .int .i64 x, .int .i64 t] 46))
      have HBA := Lib.hid hBA
      have HQ := Lib.hid (Blk.new wr 46 [.int .i64 k, .int .i64 x, .int .i64 t])
      have Hql := Lib.hid (show wr.heap.size ∉ fp from fun hx => hql _ hx rfl)
      have Hqr := Lib.hid (show wr.heap.size ≠ rb from fun e => hqr e.symm)
      clear hql hqr hBA c0 c1 c2 hbk HB
      generalize wr.alloc (.cells #[.int .i64 k, .int .i64 x, .int .i64 t] 46) = wA at *
      generalize wr.heap.size = q at *
      go_cut [7] (fun ok wd => ok = .bool true ∧ PlayRel w b rb (i + 1) wd)
      case first =>
        have hal := HBA.out.al
        have hLl := HBA.out.duo.len
        have hb0 := HBA.out.b0
        have hbi := HBA.out.bi
        by_cases hk0 : k = 0
        · subst hk0
          have c1 := HQ.out.cell (o := 1) rfl
          have c2 := HQ.out.cell (o := 2) rfl
          go_wp2_with fail
          refine (hpush b fp L born x t _ HBA.out.own.heap (by omega) hb0 (by omega)).mono ?_
          rintro e w3 ⟨rfl, fp', L', h3, p3, u3, f3⟩
          have hq3 := u3.blk HQ.out Hql.out
          have d1 := hq3.cell (o := 1) rfl
          have d2 := hq3.cell (o := 2) rfl
          have H3 := Lib.hid h3
          have P3 := Lib.hid p3
          have U3 := Lib.hid u3
          have F3 := Lib.hid f3
          clear h3 p3 u3 f3 hq3 c1 c2
          go_wp2_with fail
          refine (rpush_any rb v A x t (born + 1) _ (HBA.out.refIn U3.out) (by omega)).mono ?_
          rintro e w4 ⟨rfl, v', h4, u4, f4⟩
          have hE : PlayRel w b rb (i + 1) w4 := ⟨_, _, _, _, _, HBA.out.both (HBA.out.duo.push P3.out) H3.out U3.out F3.out h4 u4 f4 (by simp; omega) (by omega) (by omega)⟩
          have HE := Lib.hid hE
          clear h4 u4 f4 hE d1 d2
          go_wp2_with fail
          go_meet
          exact ⟨rfl, HE.out⟩
        · have e0 : (k == 0) = false := beq_eq_false_iff_ne.2 hk0
          by_cases hk1 : k = 1
          · subst hk1
            obtain ⟨yk, yt, yp, A', hA', hh, hr⟩ := both_pop HBA.out (by omega)
            have Hr := Lib.hid hr
            have Hh := Lib.hid hh
            clear hr hh hk0 e0
            go_wp2_with fail
            refine Hh.out.mono ?_
            rintro e w3 ⟨rfl, L', h3, p3, u3⟩
            have hR3 := HBA.out.refIn u3
            have hHc := HBA.out.heapIn (w2 := w3)
            have H3 := Lib.hid h3
            have P3 := Lib.hid p3
            have U3 := Lib.hid u3
            have R3 := Lib.hid (hR3.upd ((Upd.refl [] w3).alloc (.cells #[.int .i64 yk, .int .i64 yt] 26)) (by simp) (by simp))
            clear h3 p3 u3 hR3 Hh hHc
            go_wp2_with fail
            refine (Hr.out _ R3.out).mono ?_
            rintro e w4 ⟨rfl, v', h4, u4, f4⟩
            have g0 := u4.blk (Blk.new w3 26 [.int .i64 yk, .int .i64 yt]) (by
              intro hm
              have hrl := HBA.out.ref.blk.lt
              have hz := U3.out.size
              rcases List.mem_cons.1 hm with e | hm
              · omega
              · simp only [Option.mem_toList, Option.mem_def] at hm
                have := (HBA.out.ref.row.lt _ hm).2
                omega)
            have g1 := g0.cell (o := 0) rfl
            have g2 := g0.cell (o := 1) rfl
            have gl := g0.lt
            have hE : PlayRel w b rb (i + 1) w4 := ⟨_, _, _, _, _, HBA.out.both P3.out (H3.out.upd ((Upd.refl [] w3).alloc (.cells #[.int .i64 yk, .int .i64 yt] 26)) (by simp)) (U3.out.alloc _) (fun y hy => .inl hy) h4 u4 f4 (by omega) hb0 (by omega)⟩
            have HE := Lib.hid hE
            clear h4 u4 f4 hE g0 R3 Hr
            go_wp2_with (go_quiet (fail))
            go_meet
            obtain ⟨A9, L9, fp9, v9, born9, hB9⟩ := HE.out
            exact ⟨rfl, A9, L9, fp9, v9, born9, hB9.any ((Upd.refl [] _).alloc _)⟩
          · have e1 : (k == 1) = false := beq_eq_false_iff_ne.2 hk1
            by_cases hk3 : k = 3
            · subst hk3
              have hS := rm_start (w := w) (k := 3) (x := x) (t := t) HBA.out HQ.out Hql.out Hqr.out
              have HS := Lib.hid (hS.any ((Upd.refl [] wA).drew))
              have c1 := HQ.out.cell (o := 1) rfl
              have c2 := HQ.out.cell (o := 2) rfl
              obtain ⟨r, hr⟩ : ∃ r, r + (A.filter fun y => !y.eqk x).length = A.length := ⟨A.length - (A.filter fun y => !y.eqk x).length, by have := List.length_filter_le (fun y => !y.eqk x) A; omega⟩
              have hrL : r + (L.filter fun y => !y.eqk x).length = L.length := by rw [(HBA.out.duo.perm.filter _).length_eq, hLl]; exact hr
              have hA1 : A.length ≤ 5864062014804 := by omega
              have hL1 : L.length ≤ 5864062014804 := by omega
              have HrA := Lib.hid hr
              have HrL := Lib.hid hrL
              clear hS hr hrL hk0 hk1 e0 e1
              go_upto_region 19 with fail
              go_region_with (first
                | (go_at_call 20; refine (rm_heap HS.out hL1 r HrL.out).mono ?_; rintro e w5 ⟨rfl, s5⟩; have m1 := s5.opb.cell (o := 1) rfl; have S5 := Lib.hid s5; clear s5)
                | (go_at_call 20; refine (rm_heap S6.out hL1 r HrL.out).mono ?_; rintro e w7 ⟨rfl, s7⟩; have S7 := Lib.hid s7; clear s7)
                | (go_at_call 21; refine (rm_ref HS.out hA1 r HrA.out).mono ?_; rintro e w6 ⟨rfl, s6⟩; have m1 := s6.opb.cell (o := 1) rfl; have m2 := s6.opb.cell (o := 2) rfl; have S6 := Lib.hid s6; clear s6)
                | (go_at_call 21; refine (rm_ref S5.out hA1 r HrA.out).mono ?_; rintro e w7 ⟨rfl, s7⟩; have S7 := Lib.hid s7; clear s7))
              all_goals
                have HE := Lib.hid (rm_end HBA.out S7.out)
                go_wp2_with fail
                go_meet
                exact ⟨by simp, HE.out⟩
            · have e3 : (k == 3) = false := beq_eq_false_iff_ne.2 hk3
              clear hk0 hk1 hk3
              have HE := Lib.hid (show PlayRel w b rb (i + 1) wA from ⟨_, _, _, _, _, HBA.out.succ⟩)
              go_wp2_with fail
              go_meet
              exact ⟨rfl, HE.out⟩
      case rest =>
        obtain ⟨rfl, A2, L2, fp2, v2, born2, hB2⟩ := hcut
        obtain ⟨yk, yt, yp, hh, hr⟩ := both_peek hB2 (by omega)
        have HB2 := Lib.hid hB2
        have Hh := Lib.hid hh
        have Hr := Lib.hid hr
        clear hB2 hh hr HBA HQ Hql Hqr
        go_wp2_with fail
        refine Hh.out.mono ?_
        rintro e w3 ⟨rfl, u3⟩
        have HB3 := Lib.hid (HB2.out.any (u3.alloc (.cells #[.int .i64 yk, .int .i64 yt] 26)))
        clear Hh HB2 u3
        go_wp2_with fail
        refine (Hr.out _ HB3.out.ref).mono ?_
        rintro e w4 ⟨rfl, u4⟩
        have HB5 := Lib.hid ((HB3.out.any u4).any ((Upd.refl [] w4).alloc (.cells #[.int .i64 yk, .int .i64 yt] 26)))
        have hP := u4.blk (Blk.new w3 26 [.int .i64 yk, .int .i64 yt]) (by simp)
        have HP := Lib.hid (hP.alloc (.cells #[.int .i64 yk, .int .i64 yt] 26))
        have HQ2 := Lib.hid (Blk.new w4 26 [.int .i64 yk, .int .i64 yt])
        clear HB3 u4 hP Hr
        go_upto_region 22 with fail
        generalize w4.alloc (.cells #[.int .i64 yk, .int .i64 yt] 26) = w5 at *
        generalize w4.heap.size = q2 at *
        generalize w3.heap.size = q1 at *
        obtain ⟨va, vc, hv2⟩ := HB5.out.ref.shape
        subst hv2
        have c0 := HP.out.cell (o := 0) rfl
        have c1 := HP.out.cell (o := 1) rfl
        have k0 := HQ2.out.cell (o := 0) rfl
        have k1 := HQ2.out.cell (o := 1) rfl
        have r0 := HB5.out.ref.blk.cell (o := 0) rfl
        have hlen2 := HB5.out.duo.len
        have Hl := Lib.hid hlen2
        clear hlen2
        go_cut [110] (fun s wd => s = .bool false ∧ PlayRel w b rb (i + 1) wd)
        case first =>
          go_quiet ((go_at_call 12; exact Calls.quiet_of_same ((hlen' b fp2 L2 born2 A2.length _ (HB5.out.own.heap.upd ((Upd.refl [] _).drewN _) (by simp)) Hl.out).mono fun e w' h => ⟨h.1, h.2.symm⟩)))
          go_wp2_with fail
          go_meet
          exact ⟨rfl, A2, L2, fp2, _, born2, HB5.out.any ((Upd.refl [] w5).drewN nq)⟩
        case rest =>
          obtain ⟨rfl, hR3⟩ := hcut
          have HR3 := Lib.hid hR3
          clear hR3 c0 c1 k0 k1 r0 HP HQ2 HB5
          go_wp2_with fail
          go_roundg (len - (i + 1))
          case measure => omega
          case rel => exact ⟨i + 1, by go_num, by omega, rfl, HR3.out⟩
    · obtain rfl : i = len := by omega
      obtain ⟨A, L, fp, v, born, hB⟩ := HR.out
      have HU := Lib.hid hB.own.upd
      clear hB HR
      go_wp2_with fail
      go_ret
      exact ⟨rfl, HU.out⟩

end Go.Proofs.Ytghpiegcmakggaa
