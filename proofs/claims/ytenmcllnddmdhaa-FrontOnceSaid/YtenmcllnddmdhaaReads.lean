/- Reads: who waits for a read that may be answered is answered, and goes. -/
import Derived.Test.YtenmcllnddmdhaaRdsC
import Derived.Test.YtenmcllnddmdhaaRead
set_option linter.unusedVariables false
set_option linter.unusedSimpArgs false
namespace Go.Proofs.Ytenmcllnddmdhaa
open Go.RowKit Go.Lb Go.Conc

def stR (ix : Int) (s : List Int) (x : Rd) : List Int := if hitR ix x then (if s.length < 256 then s ++ [x.n] else s) else s

/-- What the closure keeps: where things stand, and whose answers are in the mailbox. -/
def RdI (B pst pf f b c : Nat) (ix : Int) (a : Option Addr) (len cap : Nat) (s : List Int) (w : World) : Prop :=
  ∃ q : List Dn, q.map Dn.n = s ∧ (∀ d ∈ q, d.al.oneCell' = true) ∧ EnvR B w pst pf f b c ix a len cap ∧ BoxAt w b c 256 (q.map Dn.val') ∧ B ≤ w.heap.size ∧ b ≠ c

theorem cloR_of (B pst pf f b c : Nat) (ix : Int) (a : Option Addr) (len cap : Nat) (v : Value) (hlen : len ≤ 1599289640354) (hv : ∀ k, v.ownBlock = some k → k ∉ [pst, pf, f, b, c] ∧ B ≤ k) :
    CloR (RdI B pst pf f b c ix a len cap) (stR ix) (hitR ix) [c] v pst pf := by
  refine ⟨?_, ?_, ?_⟩
  · rintro s ⟨n, cl, ctx, xi, rdy⟩ w ⟨q, rfl, hq, hE, hb, hB, hbc⟩
    obtain ⟨n1, n2, n3⟩ := hE.ne
    by_cases hx : hitR ix ⟨n, cl, ctx, xi, rdy⟩ = true
    · have hx' := hx
      simp only [hitR, Bool.and_eq_true, decide_eq_true_eq] at hx'
      obtain ⟨rfl, hxi⟩ := hx'
      refine (cloR_put B pst pf f b c ix a len cap q n cl ctx xi w hE hb hB hlen hxi).mono ?_
      rintro e w' ⟨rfl, u, al, ha, hb'⟩
      refine ⟨by rw [hx], ⟨putQ 256 q ⟨n, cl, ix, 0, al⟩, ?_, ?_, hE.upd u (by simpa using Ne.symm n1) (by simpa using Ne.symm n2) (by simpa using Ne.symm n3) (by simpa using hE.cB), hb', Nat.le_trans hB u.size, hbc⟩, u⟩
      · unfold stR putQ
        rw [hx]
        simp only [if_true, List.length_map]
        split <;> simp
      · intro d hd
        unfold putQ at hd
        split at hd
        · rcases List.mem_append.1 hd with h | h
          · exact hq d h
          · simp at h; subst h; exact ha
        · exact hq d hd
    · have hx : hitR ix ⟨n, cl, ctx, xi, rdy⟩ = false := by simpa using hx
      refine (cloR_off B pst pf f b c ix a len cap n cl ctx xi rdy w hE hx).mono ?_
      rintro e w' ⟨rfl, u⟩
      refine ⟨by rw [hx], ⟨q, ?_, hq, hE.upd u (by simp) (by simp) (by simp) (by simp), hb.upd u (by simp) (by simp), Nat.le_trans hB u.size, hbc⟩, u.mono (by simp)⟩
      simp [stR, hx]
  · rintro s w w' ⟨q, h1, hq, hE, hb, hB, hbc⟩ u
    have hn : ∀ k ∈ [pst, pf, f, b, c], k ∉ v.ownBlock.toList := fun k hk hm => (hv k (by simpa using hm)).1 hk
    exact ⟨q, h1, hq, hE.upd u (hn _ (by simp)) (hn _ (by simp)) (hn _ (by simp)) (fun k hk => (hv k (by simpa using hk)).2), hb.upd u (hn _ (by simp)) (hn _ (by simp)), Nat.le_trans hB u.size, hbc⟩
  · intro k hk hc
    exact (hv k hk).1 (by simp at hc; simp [hc])

set_option maxRecDepth 100000 in
set_option maxHeartbeats 3200000 in
theorem reads_ok (B f : Nat) (F : List Nat) (s : Said) (ix : Int) (x1 x2 x3 x4 x6 x7 x8 : Value) (a : Option Addr) (len cap : Nat) (w : World) (h : FrontIs w f F s) (hl : s.R.length ≤ 64) (hq : ∀ d ∈ s.q, d.al.oneCell' = true)
    (hals : AlsAt B w a len) (hlen : len ≤ 1599289640354) (hFB : ∀ k ∈ F, B ≤ k) (hB : B ≤ w.heap.size) :
    Calls Try.prog 16 #[.pointer (some ⟨f, 0, none⟩), .agg (stL ix x1 x2 x3 x4 (.slice a len cap) x6 x7 x8).toArray] w fun e w' => e = .returned (.tuple #[]) ∧
      ∃ q', q'.map Dn.n = s.R.foldl (stR ix) (s.q.map Dn.n) ∧ (∀ d ∈ q', d.al.oneCell' = true) ∧ FPost w f F { s with R := s.R.filter (fun x => !hitR ix x), q := q' } w' := by
  have B1 := Blk.new w 23 [.pointer (some ⟨f, 0, none⟩)]
  have B2 := Blk.new2 w (.cells #[.pointer (some ⟨f, 0, none⟩)] 23) 67 (stL ix x1 x2 x3 x4 (.slice a len cap) x6 x7 x8)
  have HU := Lib.hid (((Upd.refl [] w).alloc (.cells #[.pointer (some ⟨f, 0, none⟩)] 23)).alloc (.cells (stL ix x1 x2 x3 x4 (.slice a len cap) x6 x7 x8).toArray 67))
  have HB1 := Lib.hid (B1.alloc (.cells (stL ix x1 x2 x3 x4 (.slice a len cap) x6 x7 x8).toArray 67))
  have HB2 := Lib.hid B2
  have H := Lib.hid h
  have Hq := Lib.hid hq
  have Hals := Lib.hid hals
  have HFB := Lib.hid hFB
  clear h B1 B2 hq hals hFB
  go_enter Try.func16, Try.ntmps16
  go_wp2_with fail
  generalize (w.alloc (.cells #[.pointer (some ⟨f, 0, none⟩)] 23)).alloc (.cells (stL ix x1 x2 x3 x4 (.slice a len cap) x6 x7 x8).toArray 67) = wA at *
  obtain ⟨p, hA0, hF⟩ := H.out
  have hA := hA0.upd HU.out (by simp)
  have hM := FrontAt.mem hA0 hF
  have hlt : ∀ k ∈ foot f p, k < w.heap.size := fun k hk => (hF k hk).2
  have lf := hlt f (by simp [foot])
  have lb := hlt p.b (by simp [foot])
  have lc := hlt p.c (by simp [foot])
  have nd := hA.nd
  simp only [List.nodup_cons, List.mem_cons, List.not_mem_nil, or_false, not_or, not_false_eq_true, List.nodup_nil, and_true] at nd
  have hv6 : ∀ k, p.rv.ownBlock = some k → k ∉ [w.heap.size + 1, w.heap.size, f, p.b, p.c] ∧ B ≤ k := by
    intro k hk
    have h1 := (hA.ar k hk).1
    have h2 := hlt k (by simp [foot, hk])
    refine ⟨?_, HFB.out k (hF k (by simp [foot, hk])).1⟩
    simp at h1 ⊢
    refine ⟨by omega, by omega, h1.1, h1.2.2.1, h1.2.2.2⟩
  have hE : RdI B (w.heap.size + 1) w.heap.size f p.b p.c ix a len cap (s.q.map Dn.n) wA :=
    ⟨s.q, rfl, Hq.out, ⟨⟨by omega, by omega, Ne.symm nd.1.2.2⟩, HFB.out _ (hF p.c (by simp [foot])).1, ⟨_, _, _, _, _, _, _, HB2.out⟩, HB1.out, ⟨_, _, _, _, _, hA.blk⟩, Hals.out.upd HU.out (by simp)⟩, hA.box, Nat.le_trans hB HU.out.size, nd.2.2⟩
  have HE := Lib.hid hE
  have HC := Lib.hid (cloR_of B (w.heap.size + 1) w.heap.size f p.b p.c ix a len cap p.rv hlen hv6)
  have HF := Lib.hid hF
  have HA := Lib.hid hA
  have HR : Hid (∀ w', Upd (p.rv.ownBlock.toList ++ [p.c]) wA w' → w'.cell? ⟨w.heap.size, 0, none⟩ = some (.pointer (some ⟨f, 0, none⟩)) ∧ w'.cell? ⟨f, 1, none⟩ = some p.rv ∧ w'.frozen? ⟨f, 1, none⟩ = false) := by
    refine Lib.hid fun w' u => ?_
    have n1 : w.heap.size ∉ p.rv.ownBlock.toList ++ [p.c] := by
      simp; exact ⟨fun e => (hv6 _ e).1 (by simp), by omega⟩
    have n2 : f ∉ p.rv.ownBlock.toList ++ [p.c] := by
      simp; exact ⟨fun e => (hv6 _ e).1 (by simp), nd.1.2.2⟩
    exact ⟨(u.blk HB1.out n1).cell rfl, (u.blk HA.out.blk n2).cell rfl, (u.blk HA.out.blk n2).frozen 1⟩
  clear hA hA0 hE hF hv6 nd hM hlt
  refine wp_region_lex (fun w' => Upd (p.rv.ownBlock.toList ++ [p.c]) wA w') 9 [(0, true), (1, true), (2, true), (3, true), (4, true), (5, false), (6, false), (7, false), (8, false), (9, false)] (by kernel_rfl) (by kernel_rfl) (by kernel_rfl) (by kernel_rfl) (fun _ _ d _ _ h => by cases d <;> exact h) ?_
  simp only [lexOps, List.map_cons, List.map_nil, List.getD_cons_zero, List.getD_cons_succ]
  have hS0 : Upd (p.rv.ownBlock.toList ++ [p.c]) wA wA.drew := (Upd.refl _ _).drew
  iterate 5 (refine lex_read rfl (by assumption) (v := ?_) (fun w' hw => ?_) ?_; rotate_left; (focus (obtain ⟨k1, k2, k3⟩ := HR.out w' hw; go_simp; try with_reducible rfl)); simp only [Act.put, List.setIfInBounds_toArray, List.set_cons_zero, List.set_cons_succ])
  refine lex_do rfl (fun K hK => ?_)
  go_simp
  refine hK _ _ (fun _ => hS0) ?_
  clear hK K
  try simp only [Act.put, List.setIfInBounds_toArray, List.set_cons_zero, List.set_cons_succ]
  refine lex_do rfl (fun K hK => ?_)
  go_simp
  have u0 : Upd [] wA wA.drew := (Upd.refl _ _).drew
  refine (delR_any (G := [p.c]) (p1 := w.heap.size + 1) (p2 := w.heap.size) p.rv s.R (s.q.map Dn.n) _ (u0.row HA.out.rowR (by simp)) (by omega) HC.out ?_ ?_).mono ?_
  · intro k hk
    simp at hk
    have := HU.out.size
    simp; omega
  · exact HC.out.stable _ _ _ HE.out (u0.mono (by simp))
  rintro e w1 ⟨v', rfl, hr, hu, hv, hI⟩
  have hu1 : Upd (p.rv.ownBlock.toList ++ [p.c]) wA w1 := (u0.mono (by simp)).trans hu (fun k hk => .inl hk)
  obtain ⟨a', c', rfl⟩ := own_shape hr
  obtain ⟨q', hq', ho', _, hbx, _, _⟩ := hI
  have Hx := Lib.hid (rv_post (F1 := []) (s := s) (q' := q') HA.out HF.out (HU.out.mono (by simp)) hr (fun k hk => .inl (hv ▸ hk)) hu1 hbx)
  have Hq' := Lib.hid hq'
  have Ho' := Lib.hid ho'
  obtain ⟨q0, q1, q2⟩ := HR.out w1 hu1
  have hlf := HU.out.size
  have hls := hu1.size
  refine hK _ _ (fun _ => hu1) ?_
  clear hK K hr hu hv hbx hq' ho' u0 hS0
  try simp only [Act.put, List.setIfInBounds_toArray, List.set_cons_zero, List.set_cons_succ]
  iterate 2 (refine lex_do rfl (fun K hK => ?_); go_simp; refine hK _ _ (fun _ => hu1) ?_; clear hK K; try simp only [Act.put, List.setIfInBounds_toArray, List.set_cons_zero, List.set_cons_succ])
  refine lex_do rfl (fun K hK => ?_)
  go_simp
  refine hK _ _ (fun h => absurd rfl h) ?_
  clear hK K
  try simp only [Act.put, List.setIfInBounds_toArray, List.set_cons_zero, List.set_cons_succ]
  refine lex_nil ?_
  go_wp2_with fail
  go_end0
  exact ⟨rfl, q', Hq'.out, Ho'.out, Hx.out⟩
end Go.Proofs.Ytenmcllnddmdhaa
