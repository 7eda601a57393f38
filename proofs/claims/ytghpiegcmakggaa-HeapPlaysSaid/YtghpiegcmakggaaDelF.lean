/- slices.DeleteFunc by key. -/
import Derived.Test.YtghpiegcmakggaaRem
set_option linter.unusedVariables false
set_option linter.unusedSimpArgs false
namespace Go.Proofs.Ytghpiegcmakggaa
open Go.RowKit Go.Lb Go.Hp

structure DelRel (w : World) (s n c p : Nat) (xk xt : Int) (L : List It) (i j : Nat) (wr : World) : Prop where
  ex : ∃ L', DelInv (fun x => !x.eqk xk) L L' i j ∧ RowIt wr (.slice (some ⟨s, 0, none⟩) n c) L'
  upd : Upd [s] w wr
  bp : Blk wr p 26 [.int .i64 xk, .int .i64 xt]

theorem RowIt.set3 {w : World} {s n c : Nat} {L : List It} (h : RowIt w (.slice (some ⟨s, 0, none⟩) n c) L) (hn : L.length = n) {i : Nat} (hi : i < L.length) (k t bo : Int) :
    RowIt (((w.setCell ⟨s, i * 3, none⟩ (.int .i64 k)).setCell ⟨s, i * 3 + 1, none⟩ (.int .i64 t)).setCell ⟨s, i * 3 + 2, none⟩ (.int .i64 bo)) (.slice (some ⟨s, 0, none⟩) n c) (L.set i ⟨k, t, bo⟩) := by
  subst hn
  have hr := (((World.ownsRow.stored h (i * 3) (.int .i64 k)).1.stored (i * 3 + 1) (.int .i64 t)).1.stored (i * 3 + 2) (.int .i64 bo)).1
  rw [flatten_set3 (vals L) (vals_len L) i (by simpa [vals] using hi)] at hr
  unfold RowIt
  simpa [vals, List.map_set, It.vals] using hr

theorem del_keep {w w1 : World} {s n c p : Nat} {xk xt k t b : Int} {L : List It} {i j : Nat} (h : DelRel w s n c p xk xt L i j w1) (hsp : s ≠ p) (hn : L.length = n) (hx : L[j]? = some ⟨k, t, b⟩) (hq : (⟨k, t, b⟩ : It).eqk xk = false) :
    DelRel w s n c p xk xt L (i + 1) (j + 1) (((w1.setCell ⟨s, i * 3, none⟩ (.int .i64 k)).setCell ⟨s, i * 3 + 1, none⟩ (.int .i64 t)).setCell ⟨s, i * 3 + 2, none⟩ (.int .i64 b)) := by
  obtain ⟨L', hD, hR⟩ := h.ex
  have hj := (List.getElem?_eq_some_iff.1 hx).1
  have := hD.ij
  have hl := hD.len
  exact ⟨⟨_, hD.keep hx (by simp [hq]), hR.set3 (by omega) (by omega) k t b⟩, ((h.upd.setCell (by simp) _).setCell (by simp) _).setCell (by simp) _, ((h.bp.other (Ne.symm hsp) _).other (Ne.symm hsp) _).other (Ne.symm hsp) _⟩

theorem DelRel.any {w w1 w2 : World} {s n c p : Nat} {xk xt : Int} {L : List It} {i j : Nat} (h : DelRel w s n c p xk xt L i j w1) (u : Upd [] w1 w2) : DelRel w s n c p xk xt L i j w2 := by
  obtain ⟨L', hD, hR⟩ := h.ex
  exact ⟨⟨L', hD, hR.upd u (by simp)⟩, h.upd.trans u (by simp), u.blk h.bp (by simp)⟩

set_option maxHeartbeats 2000000 in
theorem delf_any (v : Value) (L : List It) (p : Nat) (xk xt : Int) (w : World) (h : RowIt w v L) (hL : L.length ≤ 5864062014805) (hp : Blk w p 26 [.int .i64 xk, .int .i64 xt]) (hvp : v.ownBlock ≠ some p) :
    Calls Try.prog 27 #[v, .func (.func 28) #[] #[.pointer (some ⟨p, 0, none⟩)]] w fun e w' => ∃ v', e = .returned v' ∧ RowIt w' v' (L.filter fun x => !x.eqk xk) ∧ Upd v.ownBlock.toList w w' ∧ v'.ownBlock = v.ownBlock := by
  obtain ⟨i0, hi, hz0, hz1, hz2⟩ := info_parts (show (Try.prog.info? 55).map (fun i => (i.zero, i.size, i.bytes)) = some (some (.agg #[.int .i64 0, .int .i64 0, .int .i64 0]), 3, 24) by kernel_rfl)
  obtain ⟨a, c, rfl⟩ := h.shape
  have H := Lib.hid h
  have Hp := Lib.hid hp
  have Hv := Lib.hid hvp
  clear h hp hvp
  go_enter Try.func27, Try.ntmps27
  go_wp2_with fail
  refine (index_any _ L p xk xt _ H.out hL Hp.out).mono ?_
  rintro e w1 ⟨r, rfl, u1, hr⟩
  rcases hr with ⟨rfl, hall⟩ | ⟨i, rfl, hin, hit, hif⟩
  · have Hall := Lib.hid hall
    clear hall
    go_wp2_with fail
    go_ret
    refine ⟨_, rfl, ?_, u1.mono (by simp), rfl⟩
    rw [List.filter_eq_self.2 (fun x hx => by simp [Hall.out x hx])]
    exact H.out.upd u1 (by simp)
  · obtain ⟨s, c', e, hlc, hcm, hs⟩ := H.out.isSome (by omega)
    obtain ⟨rfl, rfl⟩ : a = some ⟨s, 0, none⟩ ∧ c = c' := by simpa using e
    have hsp : s ≠ p := fun e => Hv.out (by simp [Value.ownBlock, e])
    have hS : DelRel w s L.length c p xk xt L i (i + 1) w1 := ⟨⟨L, DelInv.start hin (fun j hj => by show (!(L.getD j default).eqk xk) = true; rw [hif j hj]; rfl) (by show (!(L.getD i default).eqk xk) = false; rw [hit]; rfl), H.out.upd u1 (by simp)⟩, u1.mono (by simp), u1.blk Hp.out (by simp)⟩
    have HS := Lib.hid hS
    have hne : ((i : Int) == -1) = false := by rw [beq_eq_false_iff_ne]; omega
    clear hS u1 hit hif e Hv
    unfold maxLen at hcm
    go_upto_block 0 with fail
    go_cut [5, 6] (fun u t wc => ∃ m : Nat, u = .int .i64 m ∧ m < L.length ∧ DelRel w s L.length c p xk xt L m L.length wc)
    case first =>
      go_wp2_with fail
      go_loopg [5, 6] (L.length - (i + 1)) (fun g u t wr => ∃ m j : Nat, u = .int .i64 m ∧ t = .int .i64 j ∧ j ≤ L.length ∧ m < j ∧ g = L.length - j ∧ DelRel w s L.length c p xk xt L m j wr)
      case atStart => exact ⟨i, i + 1, rfl, by go_num, by omega, by omega, by omega, HS.out⟩
      case round =>
        obtain ⟨m, j, rfl, rfl, hj, hmj, rfl, hS⟩ := hrel
        have HS2 := Lib.hid hS
        clear hS HS
        by_cases hlt : j < L.length
        · obtain ⟨L', hD, hR⟩ := HS2.out.ex
          obtain ⟨⟨k, t, b⟩, hx⟩ : ∃ x, L[j]? = some x := ⟨_, List.getElem?_eq_getElem hlt⟩
          obtain ⟨h0, h1, h2⟩ := hR.at hD.len.symm ((hD.at hlt).trans hx)
          dsimp only at h0 h1 h2
          have Hx := Lib.hid hx
          have hsl := (hR.lt s rfl).2
          obtain ⟨r, hr⟩ : ∃ r, (⟨k, t, b⟩ : It).eqk xk = r := ⟨_, rfl⟩
          have Hr := Lib.hid hr
          clear hr hx hD hR
          cases r
          · go_wp2_with fail
            refine (closure_any p k t b xk xt false _ (HS2.out.bp.alloc _) Hr.out).mono ?_
            rintro e w3 ⟨rfl, u3⟩
            have hq := u3.blk (Blk.new wr 55 [.int .i64 k, .int .i64 t, .int .i64 b]) (by simp)
            have q0 := hq.cell (o := 0) rfl
            have q1 := hq.cell (o := 1) rfl
            have q2 := hq.cell (o := 2) rfl
            have hql := hq.lt
            have HS3 := Lib.hid ((HS2.out.any ((Upd.refl _ _).alloc _)).any u3)
            obtain ⟨L3, hD3, hR3⟩ := HS3.out.ex
            obtain ⟨⟨mk, mt, mb⟩, hm⟩ : ∃ x, L3[m]? = some x := ⟨_, List.getElem?_eq_getElem (by have := hD3.len; omega)⟩
            obtain ⟨m0, m1, m2⟩ := hR3.at hD3.len.symm hm
            dsimp only at m0 m1 m2
            have e0 := (hR3.upd (Upd.refl [] _) (by simp))
            have hrow : w3.ownsRow 0 55 3 (.slice (some ⟨s, 0, none⟩) L.length c) L.length (vals L3).flatten := by have := hR3; unfold RowIt at this; rwa [hD3.len] at this
            have f0 := hrow.frozenAt (m * 3)
            have f1 := hrow.frozenAt (m * 3 + 1)
            have f2 := hrow.frozenAt (m * 3 + 2)
            clear hq hD3 hR3 hm e0 hrow u3 h0 h1 h2 HS2 hsl
            go_wp2_with fail
            go_roundg (L.length - (j + 1))
            case measure => omega
            case rel => exact ⟨m + 1, j + 1, by go_num, by go_num, by omega, by omega, rfl, del_keep HS3.out hsp rfl Hx.out Hr.out⟩
          · go_wp2_with fail
            refine (closure_any p k t b xk xt true _ (HS2.out.bp.alloc _) Hr.out).mono ?_
            rintro e w3 ⟨rfl, u3⟩
            have HS3 := Lib.hid ((HS2.out.any ((Upd.refl _ _).alloc _)).any u3)
            go_wp2_with fail
            go_roundg (L.length - (j + 1))
            case measure => omega
            case rel =>
              obtain ⟨L3, hD3, hR3⟩ := HS3.out.ex
              exact ⟨m, j + 1, rfl, by go_num, by omega, by omega, rfl, ⟨L3, hD3.skip Hx.out (by show (!(⟨k, t, b⟩ : It).eqk xk) = false; rw [Hr.out]; rfl), hR3⟩, HS3.out.upd, HS3.out.bp⟩
        · obtain rfl : j = L.length := by omega
          go_wp2_with fail
          go_meet
          exact ⟨m, rfl, hmj, HS2.out⟩
    case rest =>
      obtain ⟨m, rfl, hm, hS⟩ := hcut
      obtain ⟨L', hD, hR⟩ := hS.ex
      have hrow : wc.ownsRow 0 55 3 (.slice (some ⟨s, 0, none⟩) m c) m ((vals L').flatten.take (m * 3)) := by
        have h1 := hR; unfold RowIt at h1; rw [hD.len] at h1; exact own_take h1 (by omega)
      have Hrow := Lib.hid hrow
      have HS2 := Lib.hid hS
      have HD := Lib.hid hD
      clear hrow hS hD hR HS
      go_wp2_with (refine wpList_clear_tail rfl (.tmp 38) 51 rfl 0 55 i0 _ 3 Try.underlying51 hi hz0 rfl (by simp [Value.cells, Value.oneCell']) s m _ (L.length - m) _ _ _ rfl Hrow.out rfl (by omega) ?_; intro w2 ho2 hg2)
      go_ret
      refine ⟨_, rfl, ?_, (HS2.out.upd.grown hg2 (by simp)).mono (by simp [Value.ownBlock]), rfl⟩
      have e1 := HD.out.done
      have e2 : (L.filter fun x => !x.eqk xk).length = m := by rw [← e1]; simp; have := HD.out.len; omega
      unfold RowIt
      rw [e2, ← e1]
      rw [flatten_take (vals L') (vals_len L'), ← vals_take] at ho2
      exact ho2

end Go.Proofs.Ytghpiegcmakggaa
