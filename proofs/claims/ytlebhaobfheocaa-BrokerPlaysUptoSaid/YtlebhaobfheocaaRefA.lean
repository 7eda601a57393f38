/- coxswainref15.Broker's Ack. -/
import Derived.Test.YtlebhaobfheocaaRef
set_option linter.unusedVariables false
set_option linter.unusedSimpArgs false
namespace Go.Proofs.Ytlebhaobfheocaa
open Go.RowKit Go.Lb Go.Hp

theorem Rf.one (x : Rf) : ∀ u ∈ x.vals, u.oneCell' = true := by
  intro u hu
  simp only [Rf.vals, Ev.vals, List.mem_append, List.mem_cons, List.not_mem_nil, or_false] at hu
  rcases hu with (h | h | h | h) | (h | h | h | h | h) <;> subst h <;> rfl
theorem Try.size71 : (Try.prog.info? 71).map (·.size) = some 9 := by kernel_rfl
theorem info71 : ∃ i, Try.prog.info? 71 = some i ∧ i.zero = some (.agg (Rf.vals (rNew Ev.zero)).toArray) ∧ i.size = 9 ∧ i.bytes = 72 := by
  obtain ⟨i, h1, h2, h3, h4⟩ := info_parts (show (Try.prog.info? 71).map (fun i => (i.zero, i.size, i.bytes)) = some (some (.agg (Rf.vals (rNew Ev.zero)).toArray), 9, 72) by kernel_rfl)
  exact ⟨i, h1, h2, h3, h4⟩
theorem buildSlice49 (x : Rf) (w : World) : (Instr.buildSlice 49 1 #[(0, .agg x.vals.toArray)]).run Try.prog w = .ok (.slice (some ⟨w.heap.size, 0, none⟩) 1 1) (w.alloc (.cells x.vals.toArray 71)) := by kernel_rfl

/-- A new row of items. -/
def RowR (base : Nat) (w : World) (v : Value) (L : List Rf) : Prop := w.ownsRow base 71 9 v L.length (rvals L).flatten
theorem own_zero {w : World} {base e size n : Nat} {v : Value} {xs : List Value} (h : w.ownsRow base e size v n xs) : w.ownsRow 0 e size v n xs :=
  ⟨h.1, h.2.imp id fun ⟨g, cap, cur, h1, _, h2⟩ => ⟨g, cap, cur, h1, Nat.zero_le _, h2⟩⟩
/-- The new row is the broker's now. -/
theorem new_post {w wr : World} {r : Nat} {v v' : Value} {F : List Nat} {R L : List Rf} (h : RbAt w r v R) (hr : r ∈ F) (hlt : r < w.heap.size) (u : Upd [] w wr) (hl : RowR w.heap.size wr v' L) : RbPost w r F L (wr.setCell ⟨r, 0, none⟩ v') := by
  have hv : ∀ k, v'.ownBlock = some k → w.heap.size ≤ k ∧ k < wr.heap.size := fun k hk => own_lt hl hk
  have uS : Upd [r] wr (wr.setCell ⟨r, 0, none⟩ v') := (Upd.refl _ _).setCell (by simp) _
  refine ⟨rfoot r v', ⟨v', ⟨(u.blk h.blk (by simp)).set 0 _, ?_, fun e => by have := (hv r e).1; omega⟩, fun k hk => ⟨hk, ?_⟩⟩, (u.mono (by simp)).trans uS (fun k hk => .inl (by simp at hk; subst hk; exact hr)), fun k hk => ?_⟩
  · exact uS.row (own_zero hl) (by intro k hk; simp; rintro rfl; have := (hv _ hk).1; omega)
  · simp only [World.size_setCell]
    simp only [rfoot, List.mem_cons, Option.mem_toList] at hk
    rcases hk with rfl | hk
    · exact Nat.lt_of_lt_of_le hlt u.size
    · exact (hv k hk).2
  · simp only [rfoot, List.mem_cons, Option.mem_toList] at hk
    rcases hk with rfl | hk
    · exact .inl hr
    · exact .inr (hv k hk).1

/-- All but one, of the first i. -/
def butTo (R : List Rf) (a i : Nat) : List Rf := (R.take i).eraseIdx a
theorem but_keep {R : List Rf} {a i : Nat} {x : Rf} (hx : R[i]? = some x) (h : i ≠ a) : butTo R a (i + 1) = butTo R a i ++ [x] := by
  have hi := (List.getElem?_eq_some_iff.1 hx).1
  have hl : (R.take i).length = i := by simp; omega
  unfold butTo
  rw [take_snoc hx]
  by_cases hlt : a < i
  · rw [List.eraseIdx_append_of_lt_length (by omega)]
  · rw [List.eraseIdx_of_length_le (by simp; omega), List.eraseIdx_of_length_le (by omega)]
theorem but_skip {R : List Rf} {a : Nat} {x : Rf} (hx : R[a]? = some x) : butTo R a (a + 1) = butTo R a a := by
  have hi := (List.getElem?_eq_some_iff.1 hx).1
  have hl : (R.take a).length = a := by simp; omega
  unfold butTo
  have e1 : (R.take a).eraseIdx a = R.take a := List.eraseIdx_of_length_le (by omega)
  rw [take_snoc hx, List.eraseIdx_append_of_length_le (by omega), hl, e1]
  simp
theorem but_len (R : List Rf) (a i : Nat) : (butTo R a i).length ≤ i := by
  unfold butTo
  have := List.length_eraseIdx_le (R.take i) a
  have := List.length_take_le i R
  omega
theorem IdxR.erase {p : Rf → Bool} {R : List Rf} {i : Nat} {x : Rf} (hx : R[i]? = some x) (hp : p x = true) (hb : ∀ j y, j < i → R[j]? = some y → p y = false) : R.eraseP p = R.eraseIdx i := by
  obtain ⟨h1, h2⟩ := idx_split hx hb
  have hi := (List.getElem?_eq_some_iff.1 hx).1
  have hl : (R.take i).length = i := by simp; omega
  conv => lhs; rw [h1]
  rw [List.eraseP_append_right _ (fun a ha => by simp [h2 a ha]), List.eraseP_cons_of_pos hp]
  conv => rhs; rw [h1]
  rw [List.eraseIdx_append_of_length_le (by omega), hl]
  simp

set_option maxRecDepth 20000 in
set_option maxHeartbeats 2000000 in
theorem ack_ref' (r : Nat) (F : List Nat) (R : List Rf) (wk rv : Int) (w : World) (h : RbIs w r F R) (hL : R.length ≤ 1073741822) (hrv : (if R.any (rHad wk) then (0 : Int) else 3) = rv) :
    Calls Try.prog 18 #[.pointer (some ⟨r, 0, none⟩), .int .i64 wk] w fun e w' => e = .returned (.int .i64 rv) ∧ RbPost w r F (rAck R wk) w' := by
  obtain ⟨i71, hi7, hz0, hz1, hz2⟩ := info71
  have Hrv := Lib.hid hrv
  have HI := Lib.hid h
  obtain ⟨v, h, hF⟩ := h
  have H := Lib.hid h
  have HF := Lib.hid hF
  clear h hF hrv
  go_enter Try.func18, Try.ntmps18
  go_wp2_with fail
  refine (rof r v R wk _ H.out (by omega)).mono ?_
  rintro e w' ⟨z, rfl, hz, rfl⟩
  have hany := hz.any
  rcases hz with ⟨rfl, hall⟩ | ⟨a, xa, rfl, hxa, hp, hb⟩
  · have Hall := Lib.hid hall
    have Hany := Lib.hid hany
    clear hall hany
    go_wp2_with fail
    go_ret
    refine ⟨by rw [← Hrv.out, Hany.out]; rfl, ?_⟩
    unfold rAck
    rw [List.eraseP_of_forall_not (fun x hx => by simp [Hall.out x hx])]
    exact RbPost.same HI.out (Upd.refl _ _)
  · have hail := (List.getElem?_eq_some_iff.1 hxa).1
    obtain ⟨s, c, rfl, hlc, hcm, hs, hsr⟩ := H.out.isSome (by omega)
    have hack : rAck R wk = R.eraseIdx a := IdxR.erase hxa hp hb
    have Hack := Lib.hid hack
    have Hany := Lib.hid (show R.any (rHad wk) = true by rw [hany]; simp)
    have Hxa := Lib.hid hxa
    have hrlt := H.out.blk.lt
    unfold maxLen at hcm
    clear hxa hp hb hack hany
    go_wp2_with fail
    go_loopg [6, 7] R.length (fun g v u wr => ∃ i : Nat, u = .int .i64 i ∧ i ≤ R.length ∧ g = R.length - i ∧ Upd [] w wr ∧ RowR w.heap.size wr v (butTo R a i))
    case atStart => exact ⟨0, rfl, Nat.zero_le _, rfl, Upd.refl _ _, by simp [butTo, RowR, rvals]; exact World.ownsRow_nil _ _ _ _⟩
    case round =>
      obtain ⟨i, rfl, hi, rfl, hU, hrow⟩ := hrel
      have HU := Lib.hid hU
      have Hrow := Lib.hid hrow
      have h0 := (hU.blk H.out.blk (by simp)).cell (o := 0) rfl
      have hszu := hU.size
      clear hU hrow
      by_cases hlt : i < R.length
      · obtain ⟨x, hx⟩ : ∃ x, R[i]? = some x := ⟨_, List.getElem?_eq_getElem hlt⟩
        have hc := (H.out.any HU.out).at hx
        have Hrg := Lib.hid hc.rg
        have Hx := Lib.hid hx
        have hbl := but_len R a i
        clear hc hx
        by_cases hia : i = a
        · subst hia
          have hbe : ((i : Int) == (i : Int)) = true := by simp
          go_wp2_with fail
          go_roundg (R.length - (i + 1))
          case measure => omega
          case rel => exact ⟨i + 1, by go_num, by omega, rfl, HU.out, by rw [but_skip Hx.out]; exact Hrow.out⟩
        · have hne : ((i : Int) == (a : Int)) = false := by rw [beq_eq_false_iff_ne]; omega
          have Hia := Lib.hid hia
          clear hia
          go_wp2_with (first | (refine wpList_load_mid rfl 71 (.tmp 31) rfl s (i * 9) rfl x.vals _ Hrg.out Try.underlying71 rfl Try.size71 ?_) | (refine wpList_run (o := ⟨some 33, .buildSlice 49 1 #[(0, .tmp 32)], _, _, _, _⟩) rfl (exec_buildSlice (by rfl) (by simp [Act.eval, Act.put]) (buildSlice49 x _)) ?_) | (at_builtin; refine wpList_append_mine rfl (.tmp 25) (.tmp 33) 49 rfl w.heap.size 71 i71 _ 9 72 Try.underlying49 hi7 hz0 hz1 hz2 rfl (by decide) u6 (butTo R a i).length (rvals (butTo R a i)).flatten rfl (World.ownsRow.alloc Hrow.out _) ⟨wr.heap.size, 0, none⟩ 1 1 x.vals rfl rfl (Blk.news (Blk.new _ 71 x.vals)) (Rf.one _) (by unfold maxLen; omega) (by omega) (by simp; omega) ?_; intro v' w11 ho hg hgb; have Hn := Lib.hid (⟨(HU.out.alloc _).grown hg (fun k hk => .inr (own_lt Hrow.out hk).1), by rw [but_keep Hx.out Hia.out]; simpa [RowR, rvals] using ho⟩ : Upd [] w w11 ∧ RowR w.heap.size w11 v' (butTo R a (i + 1))); clear ho hg hgb))
          go_roundg (R.length - (i + 1))
          case measure => omega
          case rel => exact ⟨i + 1, by go_num, by omega, rfl, Hn.out.1, Hn.out.2⟩
      · obtain rfl : i = R.length := by omega
        obtain ⟨ua, uc, rfl⟩ := own_shape Hrow.out
        have hfz := (HU.out.blk H.out.blk (by simp)).frozen 0
        have hrw := (HU.out.blk H.out.blk (by simp)).lt
        have HP := Lib.hid (new_post (F := F) H.out (HF.out r (by simp [rfoot])).1 hrlt HU.out (v' := .slice ua (butTo R a R.length).length uc) (L := rAck R wk) (by rw [Hack.out, show R.eraseIdx a = butTo R a R.length by simp [butTo]]; exact Hrow.out))
        go_wp2_with fail
        go_ret
        exact ⟨by rw [← Hrv.out, Hany.out]; rfl, HP.out⟩
theorem ack_ref (r : Nat) (F : List Nat) (R : List Rf) (wk : Int) (w : World) (h : RbIs w r F R) (hL : R.length ≤ 1073741822) :
    Calls Try.prog 18 #[.pointer (some ⟨r, 0, none⟩), .int .i64 wk] w fun e w' => e = .returned (.int .i64 (if R.any (rHad wk) then 0 else 3)) ∧ RbPost w r F (rAck R wk) w' := ack_ref' r F R wk _ w h hL rfl
end Go.Proofs.Ytlebhaobfheocaa
