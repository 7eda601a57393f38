/- Ready: up to where a read must see. -/
import Derived.Test.YtenmcllnddmdhaaRead
set_option linter.unusedVariables false
set_option linter.unusedSimpArgs false
namespace Go.Lb
open Go Go.RowKit
theorem flatten_set {k : Nat} (v : Value) : ∀ (xss : List (List Value)) (h : ∀ x ∈ xss, x.length = k) (i j : Nat) (x : List Value), xss[i]? = some x → j < k → xss.flatten.set (i * k + j) v = (xss.set i (x.set j v)).flatten
  | [], h, i, j, x, hx, hj => by simp at hx
  | y :: r, h, 0, j, x, hx, hj => by
    obtain rfl : y = x := by simpa using hx
    have := h y (by simp)
    simp [List.set_append, this, hj]
  | y :: r, h, i + 1, j, x, hx, hj => by
    have hy := h y (by simp)
    have := flatten_set v r (fun x hx => h x (by simp [hx])) i j x (by simpa using hx) hj
    have h1 : ¬ ((i + 1) * k + j < k) := by rw [Nat.add_mul]; omega
    have h2 : (i + 1) * k + j - k = i * k + j := by rw [Nat.add_mul]; omega
    simp only [List.flatten_cons, List.set_append, hy, h1, if_false, h2, this, List.set_cons_succ]
end Go.Lb
namespace Go.Proofs.Ytenmcllnddmdhaa
open Go.RowKit Go.Lb Go.Conc

def rdyd (ctx ix : Int) (x : Rd) : Rd := if x.ctx == ctx then { x with ix := ix, rdy := true } else x
def rdys (ctx ix : Int) (R : List Rd) (i : Nat) : List Rd := (R.take i).map (rdyd ctx ix) ++ R.drop i
theorem rdys_len (ctx ix : Int) (R : List Rd) (i : Nat) : (rdys ctx ix R i).length = R.length := by simp [rdys]; omega
theorem rdys_at {ctx ix : Int} {R : List Rd} {i : Nat} {x : Rd} (h : R[i]? = some x) : (rdys ctx ix R i)[i]? = some x := by
  have hi := (List.getElem?_eq_some_iff.1 h).1
  unfold rdys
  rw [List.getElem?_append_right (by simp; omega)]
  simp
  rw [show min i R.length = i by omega]
  simpa using h
theorem rdys_next {ctx ix : Int} {R : List Rd} {i : Nat} {x : Rd} (h : R[i]? = some x) : rdys ctx ix R (i + 1) = (rdys ctx ix R i).set i (rdyd ctx ix x) := by
  have hi := (List.getElem?_eq_some_iff.1 h).1
  unfold rdys
  rw [take_snoc h, List.map_append, List.set_append]
  have e : (List.map (rdyd ctx ix) (List.take i R)).length = i := by simp; omega
  rw [e, if_neg (by omega), Nat.sub_self, List.drop_eq_getElem_cons hi]
  simp only [List.set_cons_zero, List.map_cons, List.map_nil, List.append_assoc, List.cons_append, List.nil_append]
theorem rdys_skip {ctx ix : Int} {R : List Rd} {i : Nat} {x : Rd} (h : R[i]? = some x) (hx : (x.ctx == ctx) = false) : rdys ctx ix R (i + 1) = rdys ctx ix R i := by
  have hi := (List.getElem?_eq_some_iff.1 h).1
  unfold rdys
  rw [take_snoc h, List.map_append, List.drop_eq_getElem_cons hi]
  obtain rfl : R[i] = x := by rw [List.getElem?_eq_getElem hi] at h; simpa using h
  simp [rdyd, hx]
theorem rdys_all (ctx ix : Int) (R : List Rd) : rdys ctx ix R R.length = R.map (rdyd ctx ix) := by simp [rdys]

theorem row_two {w : World} {g cap i : Nat} {L : List Rd} {x : Rd} {ctx ix : Int} (h : RowRd w (.slice (some ⟨g, 0, none⟩) L.length cap) L) (hi : L[i]? = some x) (hx : (x.ctx == ctx) = true) :
    RowRd ((w.setCell ⟨g, i * 34 + 32, none⟩ (.int .i64 ix)).setCell ⟨g, i * 34 + 33, none⟩ (.bool true)) (.slice (some ⟨g, 0, none⟩) L.length cap) (L.set i (rdyd ctx ix x)) := by
  have hlt := (List.getElem?_eq_some_iff.1 hi).1
  have h1 := (h.stored (i * 34 + 32) (.int .i64 ix)).1
  have e1 := flatten_set (k := 34) (.int .i64 ix) (rdsL L) (rdsL_len L) i 32 x.vals (by simp [rdsL, hi]) (by omega)
  rw [e1] at h1
  have h2 := (h1.stored (i * 34 + 33) (.bool true)).1
  have e2 := flatten_set (k := 34) (.bool true) ((rdsL L).set i (x.vals.set 32 (.int .i64 ix))) (by
    intro y hy
    rcases List.mem_or_eq_of_mem_set hy with h | rfl
    · exact rdsL_len L _ h
    · simp [Rd.len]) i 33 (x.vals.set 32 (.int .i64 ix)) (by simp [rdsL, hlt]) (by omega)
  rw [e2] at h2
  have e3 : (x.vals.set 32 (.int .i64 ix)).set 33 (.bool true) = (rdyd ctx ix x).vals := by
    unfold rdyd
    rw [if_pos hx]
    rfl
  rw [e3, List.set_set] at h2
  unfold RowRd
  simpa [rdsL, List.map_set] using h2

theorem rows_post {w w1 : World} {f : Nat} {F : List Nat} {p : Parts} {s : Said} {R' : List Rd} (h : FrontAt w f p s) (hF : ∀ k ∈ foot f p, k ∈ F ∧ k < w.heap.size)
    (hr : RowRd w1 p.rv R') (hu : Upd p.rv.ownBlock.toList w w1) : FPost w f F { s with R := R' } w1 := by
  have ar : ∀ k ∈ [f, p.m, p.b, p.c], k ∉ p.rv.ownBlock.toList := by
    intro k hk hk2
    exact (h.ar k (by simpa using hk2)).1 hk
  refine ⟨foot f p, ⟨p, ⟨hu.blk h.blk (ar _ (by simp)), ?_, hr, h.map.upd hu (ar _ (by simp)), h.box.upd hu (ar _ (by simp)) (ar _ (by simp)), h.nd, h.av, h.ar⟩, ?_⟩, ?_, ?_⟩
  · exact hu.row h.rowL (by intro k hk hk2; exact (h.ar k (by simpa using hk2)).2 hk)
  · intro k hk; exact ⟨hk, Nat.lt_of_lt_of_le (hF k hk).2 hu.size⟩
  · refine hu.mono (fun k hk => .inl ?_)
    have hk' : p.rv.ownBlock = some k := by simpa using hk
    exact (hF k (by simp [foot, hk'])).1
  · intro k hk; exact .inl (hF k hk).1

set_option maxRecDepth 100000 in
set_option maxHeartbeats 3200000 in
theorem ready_ok (f : Nat) (F : List Nat) (s : Said) (ctx ix : Int) (w : World) (h : FrontIs w f F s) (hl : s.R.length ≤ 64) :
    Calls Try.prog 15 #[.pointer (some ⟨f, 0, none⟩), .int .i64 ctx, .int .i64 ix] w fun e w' => e = .returned (.tuple #[]) ∧ FPost w f F { s with R := s.R.map (rdyd ctx ix) } w' := by
  obtain ⟨p, hA, hF⟩ := h
  obtain ⟨a, c, hv⟩ := own_shape hA.rowR
  have h1 := hA.blk.cell (o := 1) rfl
  rw [hv] at h1
  have HA := Lib.hid hA
  have HF := Lib.hid hF
  have HR : Hid (∀ w', Upd p.rv.ownBlock.toList w w' → w'.cell? ⟨f, 1, none⟩ = some (.slice a s.R.length c)) := by
    refine Lib.hid fun w' u => ?_
    have n2 : f ∉ p.rv.ownBlock.toList := fun hm => (hA.ar _ (by simpa using hm)).1 (by simp)
    rw [← hv]
    exact (u.blk hA.blk n2).cell rfl
  clear hA hF
  go_enter Try.func15, Try.ntmps15
  go_wp2_with fail
  clear h1
  go_loopg [12] s.R.length (fun g u wr => ∃ i : Nat, u = .int .i64 i ∧ i ≤ s.R.length ∧ g = s.R.length - i ∧ Upd p.rv.ownBlock.toList w wr ∧ RowRd wr p.rv (rdys ctx ix s.R i))
  case atStart => exact ⟨0, rfl, Nat.zero_le _, rfl, Upd.refl _ _, by simpa [rdys] using HA.out.rowR⟩
  case round =>
    obtain ⟨i, rfl, hi, rfl, hU, hR⟩ := hrel
    have HU := Lib.hid hU
    have HRow := Lib.hid hR
    have hc1 := HR.out _ hU
    clear hU hR
    by_cases hlt : i < s.R.length
    · obtain ⟨x, hx⟩ : ∃ x, s.R[i]? = some x := ⟨_, List.getElem?_eq_getElem hlt⟩
      obtain ⟨g, c', e, hlc, hcm, hs⟩ := RowRd.isSome HRow.out (by rw [rdys_len]; omega)
      obtain ⟨rfl, rfl⟩ : a = some ⟨g, 0, none⟩ ∧ c = c' := by rw [hv, rdys_len] at e; simpa using e
      have hv' : p.rv = .slice (some ⟨g, 0, none⟩) (rdys ctx ix s.R i).length c := by rw [hv, rdys_len]
      have Hr : wr.rangeAt g (i * 34) x.vals := RowRd.range (hv' ▸ HRow.out) rfl (rdys_at hx)
      have h31 := Hr 31 (.int .i64 x.ctx) rfl
      have h32 := Hr 32 (.int .i64 x.ix) rfl
      have h33 := Hr 33 (.bool x.rdy) rfl
      have hfz : ∀ o, wr.frozen? ⟨g, o, none⟩ = false := fun o => (show wr.ownsRow 0 88 34 _ _ _ from (hv' ▸ HRow.out)).frozenAt o
      have f32 := hfz (i * 34 + 32)
      have f33 := hfz (i * 34 + 33)
      have hg : p.rv.ownBlock = some g := by rw [hv]; rfl
      have Hx := Lib.hid hx
      have Hg := Lib.hid hg
      have Hv' := Lib.hid hv'
      clear e hx Hr hfz hv hg hv'
      by_cases hc : x.ctx = ctx
      · have hcb : (x.ctx == ctx) = true := by simpa using hc
        have hd : decide (i < s.R.length) = true := by simpa using hlt
        have hrow : RowRd ((wr.drew.setCell ⟨g, i * 34 + 32, none⟩ (.int .i64 ix)).setCell ⟨g, i * 34 + 33, none⟩ (.bool true)) p.rv (rdys ctx ix s.R (i + 1)) := by
          have := row_two (w := wr.drew) (ctx := ctx) (ix := ix) (Hv'.out ▸ HRow.out) (rdys_at (ctx := ctx) (ix := ix) Hx.out) hcb
          rw [rdys_next Hx.out, Hv'.out]
          exact this
        have uS0 : Upd [g] wr wr.drew := (Upd.refl _ _).drew
        have uS1 : Upd [g] wr (wr.drew.setCell ⟨g, i * 34 + 32, none⟩ (.int .i64 ix)) := uS0.setCell (by simp) _
        have uS2 : Upd [g] wr ((wr.drew.setCell ⟨g, i * 34 + 32, none⟩ (.int .i64 ix)).setCell ⟨g, i * 34 + 33, none⟩ (.bool true)) := uS1.setCell (by simp) _
        have HX := Lib.hid hrow
        have HU2 : Hid (∀ w', Upd [g] wr w' → Upd p.rv.ownBlock.toList w w') := Lib.hid fun w' u => HU.out.trans u (by rw [Hg.out]; simp)
        clear hrow
        subst hc
        go_wp2_with fail
        clear hc1 h31
        refine wp_region_lex (fun w' => Upd [g] wr w') 99 [(0, true), (1, true), (2, true), (3, true), (4, true), (5, true), (6, true), (7, true), (8, true), (9, true), (10, true), (11, true), (12, true), (13, false), (14, true), (15, true), (16, false)] (by kernel_rfl) (by kernel_rfl) (by kernel_rfl) (by kernel_rfl) (fun _ _ d _ _ h => by cases d <;> exact h) ?_
        simp only [lexOps, List.map_cons, List.map_nil, List.getD_cons_zero, List.getD_cons_succ]
        iterate 13 (refine lex_read rfl (by exact uS0) (v := ?_) (fun w' hw => ?_) ?_; rotate_left; (focus (have k1 := HR.out w' (HU2.out w' hw); go_simp; try with_reducible rfl)); simp only [Act.put, List.setIfInBounds_toArray, List.set_cons_zero, List.set_cons_succ])
        refine lex_do rfl (fun K hK => ?_)
        go_simp
        refine hK _ _ (fun _ => uS1) ?_
        clear hK K
        try simp only [Act.put, List.setIfInBounds_toArray, List.set_cons_zero, List.set_cons_succ]
        iterate 2 (refine lex_read rfl (by exact uS1) (v := ?_) (fun w' hw => ?_) ?_; rotate_left; (focus (have k1 := HR.out w' (HU2.out w' hw); go_simp; try with_reducible rfl)); simp only [Act.put, List.setIfInBounds_toArray, List.set_cons_zero, List.set_cons_succ])
        refine lex_do rfl (fun K hK => ?_)
        go_simp
        refine hK _ _ (fun _ => uS2) ?_
        clear hK K
        try simp only [Act.put, List.setIfInBounds_toArray, List.set_cons_zero, List.set_cons_succ]
        refine lex_nil ?_
        have HU3 := Lib.hid (HU2.out _ uS2)
        clear uS0 uS1 uS2
        go_wp2_with fail
        go_roundg (s.R.length - (i + 1))
        case measure => omega
        case rel => exact ⟨i + 1, by go_num, by omega, rfl, HU3.out, HX.out⟩
      · have hcb : (x.ctx == ctx) = false := by simpa using hc
        go_wp2_with fail
        go_roundg (s.R.length - (i + 1))
        case measure => omega
        case rel => exact ⟨i + 1, by go_num, by omega, rfl, HU.out, by rw [rdys_skip Hx.out hcb]; exact HRow.out⟩
    · obtain rfl : i = s.R.length := by omega
      go_wp2_with fail
      go_end0
      exact ⟨rfl, rows_post HA.out HF.out (by rw [← rdys_all]; exact HRow.out) HU.out⟩
end Go.Proofs.Ytenmcllnddmdhaa
