/- Applied: who waits for that entry is answered, in order; all who wait for that place go. -/
import Derived.Test.YtenmcllnddmdhaaDelW
set_option linter.unusedVariables false
set_option linter.unusedSimpArgs false
namespace Go.Proofs.Ytenmcllnddmdhaa
open Go.RowKit Go.Lb Go.Conc

theorem clo_off (pe pf pr f b c : Nat) (ix tm val : Int) (n cl xi xt : Int) (w : World) (h : Env w pe pf pr f b c ix tm val) (hx : ¬ (xi = ix ∧ xt = tm)) :
    Calls Try.prog 21 #[.agg (Wt.vals ⟨n, cl, xi, xt⟩).toArray, .pointer (some ⟨pe, 0, none⟩), .pointer (some ⟨pf, 0, none⟩), .pointer (some ⟨pr, 0, none⟩)] w fun e w' =>
      e = .returned (.bool (xi == ix)) ∧ Upd [] w w' := by
  have HX := Blk.new w 81 (Wt.vals ⟨n, cl, xi, xt⟩)
  have hu := (Upd.refl [] w).alloc (.cells (Wt.vals ⟨n, cl, xi, xt⟩).toArray 81)
  have hE := h.upd hu (by simp) (by simp) (by simp) (by simp)
  have x31 := HX.cell (o := 31) rfl
  have x32 := HX.cell (o := 32) rfl
  have e0 := hE.be.cell (o := 0) rfl
  have e1 := hE.be.cell (o := 1) rfl
  have HU := Lib.hid hu
  have Hx := Lib.hid hx
  clear h hE hu HX hx
  by_cases hi : xi = ix
  · subst hi
    have ht : (xt == tm) = false := by have := Hx.out; simp at this; simpa using this
    go_enter Try.func21, Try.ntmps21
    go_wp2_with fail
    go_ret
    exact ⟨by simp, HU.out⟩
  · have ht : (xi == ix) = false := by simpa using hi
    go_enter Try.func21, Try.ntmps21
    go_wp2_with fail
    go_ret
    exact ⟨by simp [ht], HU.out⟩

def hitW (ix tm : Int) (x : Wt) : Bool := x.ix == ix && x.tm == tm
def dnOf (ix val : Int) (x : Wt) : Dn := ⟨x.n, x.c, ix, val, .slice none 0 0⟩
def stepW (ix tm val : Int) (q : List Dn) (x : Wt) : List Dn := if hitW ix tm x then putQ 256 q (dnOf ix val x) else q

theorem clo_any (pe pf pr f b c : Nat) (ix tm val : Int) (q : List Dn) (x : Wt) (w : World) (h : Env w pe pf pr f b c ix tm val) (hb : BoxAt w b c 256 (q.map Dn.val')) :
    Calls Try.prog 21 #[.agg x.vals.toArray, .pointer (some ⟨pe, 0, none⟩), .pointer (some ⟨pf, 0, none⟩), .pointer (some ⟨pr, 0, none⟩)] w fun e w' =>
      e = .returned (.bool (x.ix == ix)) ∧ BoxAt w' b c 256 ((stepW ix tm val q x).map Dn.val') ∧ Upd [c] w w' := by
  obtain ⟨n, cl, xi, xt⟩ := x
  by_cases hx : xi = ix ∧ xt = tm
  · obtain ⟨rfl, rfl⟩ := hx
    refine (clo_put pe pf pr f b c xi xt val _ n cl w h hb).mono ?_
    rintro e w' ⟨rfl, h1, h2⟩
    refine ⟨by simp, ?_, h2⟩
    simp only [stepW, hitW, dnOf, beq_self_eq_true, Bool.and_self, if_true, putQ_map]
    exact h1
  · refine (clo_off pe pf pr f b c ix tm val n cl xi xt w h hx).mono ?_
    rintro e w' ⟨rfl, h2⟩
    have e1 : hitW ix tm ⟨n, cl, xi, xt⟩ = false := by simpa [hitW] using hx
    refine ⟨rfl, ?_, h2.mono (by simp)⟩
    simp only [stepW, e1]
    exact hb.upd h2 (by simp) (by simp)

/-- Where those stand who are left, and what is in the mailbox. -/
def AppI (pe pf pr f b c : Nat) (ix tm val : Int) (q : List Dn) (w : World) : Prop := Env w pe pf pr f b c ix tm val ∧ BoxAt w b c 256 (q.map Dn.val') ∧ b ≠ c

theorem cloW_of (pe pf pr f b c : Nat) (ix tm val : Int) (v : Value) (hv : ∀ k, v.ownBlock = some k → k ∉ [pe, pf, pr, f, b, c]) :
    CloW (AppI pe pf pr f b c ix tm val) (stepW ix tm val) (fun x => x.ix == ix) [c] v pe pf pr := by
  refine ⟨?_, ?_, ?_⟩
  · rintro s x w ⟨h1, h2, h3⟩
    refine (clo_any pe pf pr f b c ix tm val s x w h1 h2).mono ?_
    rintro e w' ⟨rfl, k1, k2⟩
    obtain ⟨n1, n2, n3, n4⟩ := h1.ne
    exact ⟨rfl, ⟨h1.upd k2 (by simpa using Ne.symm n1) (by simpa using Ne.symm n2) (by simpa using Ne.symm n3) (by simpa using Ne.symm n4), k1, h3⟩, k2⟩
  · rintro s w w' ⟨h1, h2, h3⟩ u
    have hn : ∀ k ∈ [pe, pf, pr, f, b, c], k ∉ v.ownBlock.toList := fun k hk hm => hv k (by simpa using hm) hk
    exact ⟨h1.upd u (hn _ (by simp)) (hn _ (by simp)) (hn _ (by simp)) (hn _ (by simp)), h2.upd u (hn _ (by simp)) (hn _ (by simp)), h3⟩
  · intro k hk hc
    exact hv k hk (by simp at hc; simp [hc])

def Said.applied (s : Said) (ix tm val : Int) : Said := { s with L := s.L.filter fun x => !(x.ix == ix), q := s.L.foldl (stepW ix tm val) s.q }

theorem FrontAt.mem {w : World} {f : Nat} {p : Parts} {s : Said} {F : List Nat} (h : FrontAt w f p s) (hF : ∀ k ∈ foot f p, k ∈ F ∧ k < w.heap.size) : f ∈ F ∧ p.m ∈ F ∧ p.b ∈ F ∧ p.c ∈ F ∧ (∀ k, p.v.ownBlock = some k → k ∈ F) ∧ (∀ k, p.rv.ownBlock = some k → k ∈ F) :=
  ⟨(hF _ (by simp [foot])).1, (hF _ (by simp [foot])).1, (hF _ (by simp [foot])).1, (hF _ (by simp [foot])).1, fun k hk => (hF k (by simp [foot, hk])).1, fun k hk => (hF k (by simp [foot, hk])).1⟩

/-- What is so when the row of those who wait has been taken apart and written back. -/
theorem app_post {w wA w1 : World} {f : Nat} {F : List Nat} {p : Parts} {s : Said} {v' : Value} {L' : List Wt} {q' : List Dn} (h : FrontAt wA f p s) (hF : ∀ k ∈ foot f p, k ∈ F ∧ k < w.heap.size) (hU : Upd [] w wA)
    (hr : RowWt w1 v' L') (hv : v'.ownBlock = p.v.ownBlock) (hu : Upd (p.v.ownBlock.toList ++ [p.c]) wA w1) (hb : BoxAt w1 p.b p.c 256 (q'.map Dn.val')) :
    FPost w f F { s with L := L', q := q' } (w1.setCell ⟨f, 0, none⟩ v') := by
  have mem : ∀ k ∈ [f, p.m, p.b, p.c], k ∈ foot f p := by intro k hk; simp only [foot, List.mem_append]; exact .inl (.inl hk)
  have hs := hU.size
  have nd := h.nd
  simp only [List.nodup_cons, List.mem_cons, List.not_mem_nil, or_false, not_or, not_false_eq_true, List.nodup_nil, and_true] at nd
  have av : ∀ k ∈ [f, p.m, p.b, p.c], k ∉ p.v.ownBlock.toList := by
    intro k hk hk2
    exact h.av k (by simpa using hk2) hk
  have out : ∀ k ∈ [f, p.m, p.b], k ∉ p.v.ownBlock.toList ++ [p.c] := by
    intro k hk
    simp only [List.mem_append, List.mem_singleton, not_or]
    refine ⟨av k (by simp at hk ⊢; rcases hk with rfl | rfl | rfl <;> simp), ?_⟩
    simp at hk
    rcases hk with rfl | rfl | rfl
    · exact nd.1.2.2
    · exact nd.2.1.2
    · exact nd.2.2
  have uS : Upd [f] w1 (w1.setCell ⟨f, 0, none⟩ v') := (Upd.refl _ _).setCell (by simp) _
  have ar1 : ∀ k, p.rv.ownBlock = some k → k ∉ p.v.ownBlock.toList ++ [p.c] := by
    intro k hk
    have := h.ar k hk
    simp only [List.mem_append, List.mem_singleton, not_or, Option.mem_toList]
    exact ⟨this.2, fun e => this.1 (by simp [e])⟩
  refine ⟨foot f p, ⟨⟨v', p.rv, p.m, p.b, p.c⟩, ⟨(hu.blk h.blk (out _ (by simp))).set 0 _, ?_, ?_, ?_, ?_, h.nd, ?_, ?_⟩, ?_⟩, ?_, ?_⟩
  · exact uS.row hr (by intro k hk; rw [hv] at hk; have := h.av k hk; simp at this ⊢; exact this.1)
  · exact uS.row (hu.row h.rowR ar1) (by intro k hk; have := (h.ar k hk).1; simp at this; simp [this.1])
  · exact (h.map.upd hu (out _ (by simp))).upd uS (by simpa using fun e => nd.1.1 e.symm)
  · exact hb.upd uS (by simpa using fun e => nd.1.2.1 e.symm) (by simpa using fun e => nd.1.2.2 e.symm)
  · intro k hk; exact h.av k (by rw [← hv]; exact hk)
  · intro k hk; have := h.ar k hk; exact ⟨this.1, by show v'.ownBlock ≠ _; rw [hv]; exact this.2⟩
  · intro k hk
    have e : foot f ⟨v', p.rv, p.m, p.b, p.c⟩ = foot f p := by simp [foot, hv]
    rw [e] at hk
    exact ⟨hk, by have := (hF k hk).2; have := hu.size; simp; omega⟩
  · refine ((hU.mono (by simp)).trans hu (fun k hk => .inl ?_)).trans uS (fun k hk => .inl ?_)
    · simp only [List.mem_append, List.mem_singleton] at hk
      rcases hk with hk | rfl
      · have hk' : p.v.ownBlock = some k := by simpa using hk
        exact (hF k (by simp [foot, hk'])).1
      · exact (hF _ (mem _ (by simp))).1
    · simp only [List.mem_singleton] at hk
      subst hk
      exact (hF _ (mem _ (by simp))).1
  · intro k hk; exact .inl (hF k hk).1

set_option maxRecDepth 100000 in
set_option maxHeartbeats 3200000 in
theorem applied_ok (f : Nat) (F : List Nat) (s : Said) (ix tm val : Int) (w : World) (h : FrontIs w f F s) (hl : s.L.length ≤ 64) :
    Calls Try.prog 8 #[.pointer (some ⟨f, 0, none⟩), .agg (entL ix tm).toArray, .agg #[.int .i64 0, .int .i64 val, .slice none 0 0]] w fun e w' => e = .returned (.tuple #[]) ∧ FPost w f F (s.applied ix tm val) w' := by
  have B1 := Blk.new w 23 [.pointer (some ⟨f, 0, none⟩)]
  have B2 := Blk.new2 w (.cells #[.pointer (some ⟨f, 0, none⟩)] 23) 47 (entL ix tm)
  have B3 := Blk.new2 (w.alloc (.cells #[.pointer (some ⟨f, 0, none⟩)] 23)) (.cells (entL ix tm).toArray 47) 49 [.int .i64 0, .int .i64 val, .slice none 0 0]
  simp only [World.size_alloc] at B3
  have HU := Lib.hid ((((Upd.refl [] w).alloc (.cells #[.pointer (some ⟨f, 0, none⟩)] 23)).alloc (.cells (entL ix tm).toArray 47)).alloc (.cells #[.int .i64 0, .int .i64 val, .slice none 0 0] 49))
  have HB1 := Lib.hid ((B1.alloc (.cells (entL ix tm).toArray 47)).alloc (.cells #[.int .i64 0, .int .i64 val, .slice none 0 0] 49))
  have HB2 := Lib.hid (B2.alloc (.cells #[.int .i64 0, .int .i64 val, .slice none 0 0] 49))
  have HB3 := Lib.hid B3
  have H := Lib.hid h
  clear h B1 B2 B3
  go_enter Try.func8, Try.ntmps8
  go_wp2_with fail
  generalize ((w.alloc (.cells #[.pointer (some ⟨f, 0, none⟩)] 23)).alloc (.cells (entL ix tm).toArray 47)).alloc (.cells #[.int .i64 0, .int .i64 val, .slice none 0 0] 49) = wA at *
  obtain ⟨p, hA0, hF⟩ := H.out
  have hA := hA0.upd HU.out (by simp)
  have hM := FrontAt.mem hA0 hF
  have hlt : ∀ k ∈ foot f p, k < w.heap.size := fun k hk => (hF k hk).2
  have lf := hlt f (by simp [foot])
  have lb := hlt p.b (by simp [foot])
  have lc := hlt p.c (by simp [foot])
  have nd := hA.nd
  simp only [List.nodup_cons, List.mem_cons, List.not_mem_nil, or_false, not_or, not_false_eq_true, List.nodup_nil, and_true] at nd
  have hv6 : ∀ k, p.v.ownBlock = some k → k ∉ [w.heap.size + 1, w.heap.size, w.heap.size + 1 + 1, f, p.b, p.c] := by
    intro k hk
    have h1 := hA.av k hk
    have h2 := hlt k (by simp [foot, hk])
    simp at h1 ⊢
    refine ⟨by omega, by omega, by omega, h1.1, h1.2.2.1, h1.2.2.2⟩
  have hE : AppI (w.heap.size + 1) w.heap.size (w.heap.size + 1 + 1) f p.b p.c ix tm val s.q wA :=
    ⟨⟨⟨by omega, by omega, by omega, Ne.symm nd.1.2.2⟩, HB2.out, HB1.out, HB3.out, ⟨_, _, _, _, _, hA.blk⟩⟩, hA.box, nd.2.2⟩
  have HE := Lib.hid hE
  have HC := Lib.hid (cloW_of (w.heap.size + 1) w.heap.size (w.heap.size + 1 + 1) f p.b p.c ix tm val p.v hv6)
  have HF := Lib.hid hF
  have HA := Lib.hid hA
  have HR : Hid (∀ w', Upd (p.v.ownBlock.toList ++ [p.c]) wA w' → w'.cell? ⟨w.heap.size, 0, none⟩ = some (.pointer (some ⟨f, 0, none⟩)) ∧ w'.cell? ⟨f, 0, none⟩ = some p.v ∧ w'.frozen? ⟨f, 0, none⟩ = false) := by
    refine Lib.hid fun w' u => ?_
    have n1 : w.heap.size ∉ p.v.ownBlock.toList ++ [p.c] := by
      simp; exact ⟨fun e => (hv6 _ e) (by simp), by omega⟩
    have n2 : f ∉ p.v.ownBlock.toList ++ [p.c] := by
      simp; exact ⟨fun e => (hv6 _ e) (by simp), nd.1.2.2⟩
    exact ⟨(u.blk HB1.out n1).cell rfl, (u.blk HA.out.blk n2).cell rfl, (u.blk HA.out.blk n2).frozen 0⟩
  clear hA hA0 hE hF hv6 nd hM hlt
  refine wp_region_lex (fun w' => Upd (p.v.ownBlock.toList ++ [p.c]) wA w') 9 [(0, true), (1, true), (2, true), (3, true), (4, true), (5, false), (6, false), (7, false), (8, false), (9, false)] (by kernel_rfl) (by kernel_rfl) (by kernel_rfl) (by kernel_rfl) (fun _ _ d _ _ h => by cases d <;> exact h) ?_
  simp only [lexOps, List.map_cons, List.map_nil, List.getD_cons_zero, List.getD_cons_succ]
  have hS0 : Upd (p.v.ownBlock.toList ++ [p.c]) wA wA.drew := (Upd.refl _ _).drew
  iterate 5 (refine lex_read rfl (by assumption) (v := ?_) (fun w' hw => ?_) ?_; rotate_left; (focus (obtain ⟨k1, k2, k3⟩ := HR.out w' hw; go_simp; try with_reducible rfl)); simp only [Act.put, List.setIfInBounds_toArray, List.set_cons_zero, List.set_cons_succ])
  refine lex_do rfl (fun K hK => ?_)
  go_simp
  refine hK _ _ (fun _ => hS0) ?_
  clear hK K
  try simp only [Act.put, List.setIfInBounds_toArray, List.set_cons_zero, List.set_cons_succ]
  refine lex_do rfl (fun K hK => ?_)
  go_simp
  have u0 : Upd [] wA wA.drew := (Upd.refl _ _).drew
  refine (delW_any (G := [p.c]) (p1 := w.heap.size + 1) (p2 := w.heap.size) (p3 := w.heap.size + 1 + 1) p.v s.L s.q _ (u0.row HA.out.rowL (by simp)) (by omega) HC.out ?_ ?_).mono ?_
  · intro k hk
    simp at hk
    have := HU.out.size
    simp; omega
  · exact HC.out.stable _ _ _ HE.out (u0.mono (by simp))
  rintro e w1 ⟨v', rfl, hr, hu, hv, hI⟩
  have hu1 : Upd (p.v.ownBlock.toList ++ [p.c]) wA w1 := (u0.mono (by simp)).trans hu (fun k hk => .inl hk)
  obtain ⟨a', c', rfl⟩ := own_shape hr
  have Hx := Lib.hid (app_post HA.out HF.out HU.out hr hv hu1 hI.2.1)
  obtain ⟨q0, q1, q2⟩ := HR.out w1 hu1
  have hlf := HU.out.size
  have hls := hu1.size
  refine hK _ _ (fun _ => hu1) ?_
  clear hK K hr hu hv hI u0 hS0
  try simp only [Act.put, List.setIfInBounds_toArray, List.set_cons_zero, List.set_cons_succ]
  iterate 2 (refine lex_do rfl (fun K hK => ?_); go_simp; refine hK _ _ (fun _ => hu1) ?_; clear hK K; try simp only [Act.put, List.setIfInBounds_toArray, List.set_cons_zero, List.set_cons_succ])
  refine lex_do rfl (fun K hK => ?_)
  go_simp
  refine hK _ _ (fun h => absurd rfl h) ?_
  clear hK K
  try simp only [Act.put, List.setIfInBounds_toArray, List.set_cons_zero, List.set_cons_succ]
  refine lex_nil ?_
  go_wp2_with fail
  go_end0
  exact ⟨rfl, Hx.out⟩
end Go.Proofs.Ytenmcllnddmdhaa
