/- The reference's heap: Pop. -/
import Derived.Test.YtghpiegcmakggaaRefB
set_option linter.unusedVariables false
set_option linter.unusedSimpArgs false
namespace Go.Proofs.Ytghpiegcmakggaa
open Go.RowKit Go.Lb Go.Hp

theorem rpop_nil (b : Nat) (v : Value) (w : World) (h : RefAt w b v []) :
    Calls Try.prog 19 #[.pointer (some ⟨b, 0, none⟩)] w fun e w' => e = .returned (.tuple #[.agg #[.int .i64 0, .int .i64 0], .bool false]) ∧ Upd [] w w' := by
  go_enter Try.func19, Try.ntmps19
  go_wp2_with fail
  refine (least_any b v [] _ (h.upd (F := []) ((Upd.refl _ _).alloc _) (by simp) (by simp)) (by simp)).mono ?_
  rintro e w1 ⟨r, rfl, hr, u1⟩
  obtain rfl : r = -1 := by
    rcases hr with ⟨_, e⟩ | ⟨m, _, h1, _⟩
    · exact e
    · simp at h1
  have hB := u1.blk (Blk.new w 26 [.int .i64 0, .int .i64 0]) (by simp)
  have c0 := hB.cell (o := 0) rfl
  have c1 := hB.cell (o := 1) rfl
  have f0 := hB.frozen 0
  have f1 := hB.frozen 1
  have U := Lib.hid (((Upd.refl [] w).alloc (.cells #[.int .i64 0, .int .i64 0] 26)).trans u1 (by simp))
  clear hB u1 hr h
  go_wp2_with fail
  refine bodyPost_ret (v := .tuple #[.agg #[.int .i64 0, .int .i64 0], .bool false]) ?_ rfl ?_
  · simp [results, Try.results19, go_sem, *]
  · exact ⟨rfl, (U.out.setCell (.inr (Nat.le_refl _)) _).setCell (.inr (Nat.le_refl _)) _⟩

theorem prs_take (A : List It) (m : Nat) : (prs (A.take m)).flatten = (prs A).flatten.take (m * 2) := by
  rw [flatten_take (prs A) (prs_len A)]; simp [prs, List.map_take]
theorem prs_drop (A : List It) (m : Nat) : (prs (A.drop m)).flatten = (prs A).flatten.drop (m * 2) := by
  have h1 : (prs A).flatten = (prs (A.take m)).flatten ++ (prs (A.drop m)).flatten := by
    rw [← List.flatten_append]; simp [prs, ← List.map_append]
  by_cases hm : m ≤ A.length
  · have h2 := prs_flat_len (A.take m)
    rw [List.length_take, Nat.min_eq_left hm] at h2
    rw [h1, List.drop_left' h2]
  · rw [List.drop_of_length_le (show A.length ≤ m by omega), List.drop_of_length_le (by rw [prs_flat_len]; omega)]
    rfl

theorem own_shape {w : World} {base e k n : Nat} {v : Value} {xs : List Value} (h : w.ownsRow base e k v n xs) : ∃ a c, v = .slice a n c := by
  rcases h.2 with ⟨h1, h0⟩ | ⟨g, cap, cur, rfl, _⟩
  · exact ⟨none, 0, by rw [h1, h0]⟩
  · exact ⟨_, _, rfl⟩

theorem RefAt.news {w : World} {b s n c : Nat} {A : List It} (h : RefAt w b (.slice (some ⟨s, 0, none⟩) n c) A) (m : Nat) : ∀ j u, (prs (A.drop m)).flatten[j]? = some u → w.cell? ((⟨s, m * 2, none⟩ : Addr).add j) = some u := by
  intro j u hj
  have hn : n = A.length := by
    rcases h.row.2 with ⟨h1, _⟩ | ⟨_, _, _, h1, _⟩
    · cases h1
    · cases h1; rfl
  subst hn
  rw [prs_drop, List.getElem?_drop] at hj
  rw [Addr.add_lit]
  have hlt : m * 2 + j < A.length * 2 := by
    have := (List.getElem?_eq_some_iff.1 hj).1
    rw [prs_flat_len] at this
    exact this
  rw [h.row.cellAt _ hlt]
  exact hj
theorem RefAt.newsT {w : World} {b s n c : Nat} {A : List It} (h : RefAt w b (.slice (some ⟨s, 0, none⟩) n c) A) (m : Nat) : ∀ j u, (prs (A.take m)).flatten[j]? = some u → w.cell? ((⟨s, 0, none⟩ : Addr).add j) = some u := by
  intro j u hj
  have h0 := h.news 0 j u
  simp only [List.drop_zero, Nat.zero_mul] at h0
  refine h0 ?_
  rw [prs_take, List.getElem?_take] at hj
  split at hj
  · exact hj
  · cases hj

set_option maxHeartbeats 1000000 in
theorem rpop_some (b : Nat) (v : Value) (A : List It) (w : World) (h : RefAt w b v A) (hA : A.length ≤ 5864062014804) (hn : A ≠ []) :
    Calls Try.prog 19 #[.pointer (some ⟨b, 0, none⟩)] w fun e w' => ∃ (m : Nat) (x : It), A[m]? = some x ∧ LeastTo A A.length m ∧ e = .returned (.tuple #[.agg #[.int .i64 x.key, .int .i64 x.tag], .bool true]) ∧
      ∃ v', RefAt w' b v' (A.take m ++ A.drop (m + 1)) ∧ Upd [b] w w' ∧ ∀ s, v'.ownBlock = some s → w.heap.size ≤ s := by
  obtain ⟨i0, hi, hz0, hz1, hz2⟩ := info_parts Try.info26
  have hbw := h.blk.lt
  go_enter Try.func19, Try.ntmps19
  go_wp2_with fail
  refine (least_any b v A _ (h.upd (F := []) ((Upd.refl _ _).alloc _) (by simp) (by simp)) (by omega)).mono ?_
  rintro e w1 ⟨r, rfl, hr, u1⟩
  have hp : 0 < A.length := List.length_pos_iff.2 hn
  obtain ⟨m, rfl, hm⟩ : ∃ m : Nat, r = m ∧ m < A.length := by
    rcases hr with ⟨e, _⟩ | ⟨m, e, h1, _⟩
    · omega
    · exact ⟨m, e, h1⟩
  have hB := Lib.hid (u1.blk (Blk.new w 26 [.int .i64 0, .int .i64 0]) (by simp))
  have U := Lib.hid (((Upd.refl [] w).alloc (.cells #[.int .i64 0, .int .i64 0] 26)).trans u1 (by simp))
  have hR := (h.upd (F := []) ((Upd.refl _ _).alloc (.cells #[.int .i64 0, .int .i64 0] 26)) (by simp) (by simp)).upd u1 (by simp) (by simp)
  have hsz1 := u1.size
  simp only [World.size_alloc] at hsz1
  obtain ⟨s, c', rfl, hlc, hcm, hs, hsb⟩ := hR.isSome hp
  have hsw : s < w.heap.size := (h.row.lt s rfl).2
  obtain ⟨⟨k, t, bo⟩, hx⟩ : ∃ x, A[m]? = some x := ⟨_, List.getElem?_eq_getElem hm⟩
  obtain ⟨x0, x1⟩ := hR.at hx
  have b0 := hR.blk.cell (o := 0) rfl
  have hbl := hR.blk.lt
  have Hx := Lib.hid hx
  have Hr := Lib.hid hr
  have HR := Lib.hid hR
  have d1 : decide ((m : Int) < 0) = false := by simp
  unfold maxLen at hcm
  dsimp only at x0
  clear u1 hr h hR hx hn
  have hlt : (A.take m).length = m := by simp; omega
  have hld : (A.drop (m + 1)).length = A.length - (m + 1) := by simp
  have Hlt := Lib.hid hlt
  have Hld := Lib.hid hld
  clear hlt hld
  go_upto_region 7 with (refine wpList_append_mine rfl (.tmp 19) (.tmp 25) 42 rfl 0 26 i0 _ 2 16 Try.underlying42 hi hz0 hz1 hz2 rfl (by decide) (.slice none 0 0) 0 [] rfl (World.ownsRow_nil _ _ _ _) ⟨s, 0, none⟩ m _ (prs (A.take m)).flatten rfl (by rw [prs_flat_len, Hlt.out]) ((HR.out.upd (F := []) ((Upd.refl _ _).alloc _) (by simp) (by simp)).newsT m) (prs_one _) (by unfold maxLen; omega) (by omega) (Nat.zero_le _) ?_; intro v2 w2 ho2 hg2 hv2)
  have u2 : Upd [] w1 w2 := ((Upd.refl [] w1).alloc _).grown hg2 (by intro x hx; cases hx)
  have hq2 : Blk w2 w1.heap.size 26 [.int .i64 k, .int .i64 t] := (((Upd.refl [] _).grown hg2 (by intro x hx; cases hx)).blk (Blk.new w1 26 [.int .i64 k, .int .i64 t]) (by simp))
  have HR2 := Lib.hid (HR.out.upd u2 (by simp) (by simp))
  have HB2 := Lib.hid (u2.blk hB.out (by simp))
  have U2 := Lib.hid (U.out.trans u2 (by simp))
  have Hq2 := Lib.hid hq2
  have b2 := HR2.out.blk.cell (o := 0) rfl
  have hs2 : s < w2.heap.size := by have := u2.size; omega
  have hv2' : ∀ x, v2.ownBlock = some x → w1.heap.size < x ∧ x < w2.heap.size := by
    intro x hx
    refine ⟨?_, (ho2.lt x hx).2⟩
    rcases hv2 with e | e
    · rw [e] at hx; cases hx
    · rw [e] at hx; simp at hx; omega
  rw [Nat.zero_add, List.nil_append] at ho2
  have Hv2 := Lib.hid hv2'
  have Ho2 := Lib.hid ho2
  clear u2 hq2 hg2 hv2 hv2' ho2 x0 x1 b0 HR hB U
  have hfin : ∀ (v3 : Value) (w3 : World), w3.ownsRow 0 26 2 v3 (m + (A.length - (m + 1))) ((prs (A.take m)).flatten ++ (prs (A.drop (m + 1))).flatten) → w2.grownBy w3 v2.ownBlock → (v3.ownBlock = v2.ownBlock ∨ v3.ownBlock = some w2.heap.size) →
      Blk w3 b 44 [.slice (some ⟨s, 0, none⟩) A.length c'] ∧ Blk w3 w.heap.size 26 [.int .i64 0, .int .i64 0] ∧ Blk w3 w1.heap.size 26 [.int .i64 k, .int .i64 t] ∧
        (RefAt ((((w3.setCell ⟨b, 0, none⟩ v3).setCell ⟨w.heap.size, 0, none⟩ (.int .i64 k)).setCell ⟨w.heap.size, 1, none⟩ (.int .i64 t))) b v3 (A.take m ++ A.drop (m + 1)) ∧
        Upd [b] w ((((w3.setCell ⟨b, 0, none⟩ v3).setCell ⟨w.heap.size, 0, none⟩ (.int .i64 k)).setCell ⟨w.heap.size, 1, none⟩ (.int .i64 t))) ∧ ∀ x, v3.ownBlock = some x → w.heap.size ≤ x ∧ x ≠ b) := by
    intro v3 w3 ho3 hg3 hv3
    have h3 : ∀ x, v3.ownBlock = some x → w1.heap.size < x := by
      intro x hx
      rcases hv3 with e | e
      · exact (Hv2.out x (by rw [← e, hx])).1
      · rw [e] at hx; simp at hx; have := Hq2.out.lt; omega
    have keep : ∀ y, y ≤ w1.heap.size → some y ≠ v2.ownBlock := fun y hy e => by have := (Hv2.out y e.symm).1; omega
    have k1 := HR2.out.blk.lt
    have k2 := HB2.out.lt
    have k3 := Hq2.out.lt
    have j1 : Blk w3 b 44 [.slice (some ⟨s, 0, none⟩) A.length c'] := (hg3.block b k1 (keep b (by omega))).trans HR2.out.blk
    have j2 : Blk w3 w.heap.size 26 [.int .i64 0, .int .i64 0] := (hg3.block _ k2 (keep _ (by omega))).trans HB2.out
    have j3 : Blk w3 w1.heap.size 26 [.int .i64 k, .int .i64 t] := (hg3.block _ k3 (keep _ (by omega))).trans Hq2.out
    have u3 : Upd [] w w3 := (U2.out.mono (G := v2.ownBlock.toList) (by simp)).grown hg3 (by intro x hx; simp [hx]) |>.mono (by intro x hx; simp at hx; have := (Hv2.out x hx).1; exact .inr (by omega))
    have hlen : (A.take m ++ A.drop (m + 1)).length = m + (A.length - (m + 1)) := by rw [List.length_append, Hlt.out, Hld.out]
    have nb : ∀ x, v3.ownBlock = some x → x ≠ b ∧ x ≠ w.heap.size := fun x hx => ⟨by have := h3 x hx; omega, by have := h3 x hx; omega⟩
    refine ⟨j1, j2, j3, ⟨((j1.set 0 _).other (by simp; omega) _).other (by simp; omega) _, ?_, fun e => (nb b e).1 rfl⟩, (((u3.mono (by simp)).setCell (by simp) _).setCell (.inr (Nat.le_refl _)) _).setCell (.inr (Nat.le_refl _)) _, fun x hx => ⟨by have := h3 x hx; omega, (nb x hx).1⟩⟩
    rw [hlen]
    have e : (prs (A.take m ++ A.drop (m + 1))).flatten = (prs (A.take m)).flatten ++ (prs (A.drop (m + 1))).flatten := by simp [prs]
    rw [e]
    exact ownsRow_setCell_other (ownsRow_setCell_other (ownsRow_setCell_other ho3 (fun e => (nb b e).1 rfl) _) (fun e => (nb _ e).2 rfl) _) (fun e => (nb _ e).2 rfl) _
  have Hfin := Lib.hid hfin
  clear hfin
  by_cases hcap : c' = m + 1
  · subst hcap
    have hAl : A.length = m + 1 := by omega
    have HAl := Lib.hid hAl
    clear hAl
    have hdrop : (prs (A.drop (m + 1))).flatten = [] := by rw [List.drop_of_length_le (by rw [HAl.out]; omega)]; rfl
    have Hdrop := Lib.hid hdrop
    clear hdrop
    go_upto_region 8 with (refine wpList_append_mine rfl (.tmp 27) (.tmp 34) 42 rfl 0 26 i0 _ 2 16 Try.underlying42 hi hz0 hz1 hz2 rfl (by decide) v2 m _ rfl Ho2.out ⟨s, 0, none⟩ 0 0 [] rfl rfl (by intro j u hj; simp at hj) (by intro u hu; cases hu) (by unfold maxLen; omega) (by omega) (Nat.zero_le _) ?_; intro v3 w3 ho3 hg3 hv3)
    obtain ⟨j1, j2, j3, j4, j5, j6⟩ := Hfin.out v3 w3 (by rw [Hdrop.out, show A.length - (m + 1) = 0 by have := HAl.out; omega]; exact ho3) hg3 hv3
    obtain ⟨a3, c3, rfl⟩ := own_shape ho3
    have q0 := j3.cell (o := 0) rfl
    have q1 := j3.cell (o := 1) rfl
    have p0 := j2.cell (o := 0) rfl
    have p1 := j2.cell (o := 1) rfl
    have e0 := j1.cell (o := 0) rfl
    have g0 := j1.frozen 0
    have r0 := j2.frozen 0
    have r1 := j2.frozen 1
    have hbp : b ≠ w.heap.size := by omega
    have hbq : b ≠ w1.heap.size := by omega
    have hpq : w.heap.size ≠ w1.heap.size := by omega
    have J4 := Lib.hid j4
    have J5 := Lib.hid j5
    have J6 := Lib.hid j6
    clear j1 j2 j3 j4 j5 j6 ho3 hg3 hv3 b2 hs2
    go_wp2_with fail
    refine bodyPost_ret (v := .tuple #[.agg #[.int .i64 k, .int .i64 t], .bool true]) ?_ rfl ?_
    · simp [results, Try.results19, go_sem, *]
    · exact ⟨m, _, Hx.out, Hr.out, rfl, _, J4.out, J5.out, fun x hx => (J6.out x hx).1⟩

  · have hcap2 : m + 1 < c' := by omega
    clear hcap
    go_upto_region 8 with (refine wpList_append_mine rfl (.tmp 27) (.tmp 34) 42 rfl 0 26 i0 _ 2 16 Try.underlying42 hi hz0 hz1 hz2 rfl (by decide) v2 m _ rfl Ho2.out ⟨s, (m + 1) * 2, none⟩ (A.length - (m + 1)) _ (prs (A.drop (m + 1))).flatten rfl (by rw [prs_flat_len, Hld.out]) (HR2.out.news (m + 1)) (prs_one _) (by unfold maxLen; omega) (by omega) (Nat.zero_le _) ?_; intro v3 w3 ho3 hg3 hv3)
    obtain ⟨j1, j2, j3, j4, j5, j6⟩ := Hfin.out v3 w3 ho3 hg3 hv3
    obtain ⟨a3, c3, rfl⟩ := own_shape ho3
    have q0 := j3.cell (o := 0) rfl
    have q1 := j3.cell (o := 1) rfl
    have p0 := j2.cell (o := 0) rfl
    have p1 := j2.cell (o := 1) rfl
    have e0 := j1.cell (o := 0) rfl
    have g0 := j1.frozen 0
    have r0 := j2.frozen 0
    have r1 := j2.frozen 1
    have hbp : b ≠ w.heap.size := by omega
    have hbq : b ≠ w1.heap.size := by omega
    have hpq : w.heap.size ≠ w1.heap.size := by omega
    have J4 := Lib.hid j4
    have J5 := Lib.hid j5
    have J6 := Lib.hid j6
    clear j1 j2 j3 j4 j5 j6 ho3 hg3 hv3 b2 hs2
    go_wp2_with fail
    refine bodyPost_ret (v := .tuple #[.agg #[.int .i64 k, .int .i64 t], .bool true]) ?_ rfl ?_
    · simp [results, Try.results19, go_sem, *]
    · exact ⟨m, _, Hx.out, Hr.out, rfl, _, J4.out, J5.out, fun x hx => (J6.out x hx).1⟩

end Go.Proofs.Ytghpiegcmakggaa
