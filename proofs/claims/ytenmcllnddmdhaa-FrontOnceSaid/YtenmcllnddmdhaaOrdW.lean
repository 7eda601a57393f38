/- FrontOrder: the walk. No condition. -/
import Derived.Test.YtenmcllnddmdhaaOrdP
set_option linter.unusedVariables false
set_option linter.unusedSimpArgs false
namespace Go.Proofs.Ytenmcllnddmdhaa
open Go.RowKit Go.Lb Go.Conc

theorem Try.info3 : (Try.prog.info? 3).map (fun i => (i.zero, i.size, i.bytes)) = some (some (.int .i64 0), 1, 8) := by kernel_rfl

/-- The numbers that were given. -/
def nums (i : Nat) : List Value := (List.range i).map fun j : Nat => .int .i64 ((j : Int) + 1)
theorem nums_snoc (i : Nat) : nums i ++ [.int .i64 ((i : Int) + 1)] = nums (i + 1) := by simp [nums, List.range_succ]

/-- A front, and a row of numbers beside it. -/
structure Wd (w : World) (f : Nat) (F : List Nat) (s : Said) (v : Value) (n : Nat) (wr : World) : Prop where
  st : St w f F s wr
  row : wr.ownsRow w.heap.size 3 1 v n (nums n)
  out : ∀ k, v.ownBlock = some k → k ∉ F
theorem own_lt {w : World} {base e size n : Nat} {v : Value} {xs : List Value} (h : w.ownsRow base e size v n xs) {k : Nat} (hk : v.ownBlock = some k) : base ≤ k ∧ k < w.heap.size := by
  rcases h.2 with ⟨rfl, _⟩ | ⟨g, cap, cur, rfl, hb, hg, _⟩
  · simp [Value.ownBlock] at hk
  · simp [Value.ownBlock] at hk; subst hk; exact ⟨hb, lt_of_block hg⟩
theorem own_some {w : World} {base e size n : Nat} {v : Value} {xs : List Value} (h : w.ownsRow base e size v n xs) (hn : 0 < n) : ∃ g c, v = .slice (some ⟨g, 0, none⟩) n c := by
  rcases h.2 with ⟨_, h0⟩ | ⟨g, cap, cur, rfl, _⟩
  · omega
  · exact ⟨g, cap, rfl⟩
theorem Wd.any {w w1 w2 : World} {f : Nat} {F : List Nat} {s : Said} {v : Value} {n : Nat} (h : Wd w f F s v n w1) (u : Upd [] w1 w2) : Wd w f F s v n w2 := ⟨h.st.any u, u.row h.row (by simp), h.out⟩
theorem Wd.go {w w1 w2 : World} {f : Nat} {F : List Nat} {s s' : Said} {v : Value} {n : Nat} (h : Wd w f F s v n w1) (k : FPost w1 f F s' w2) :
    ∃ F', Wd w f F' s' v n w2 ∧ Upd F w1 w2 ∧ ∀ k, k < w1.heap.size → k ∉ F → k ∉ F' := by
  obtain ⟨F', h1, h2, h3⟩ := h.st.go k
  exact ⟨F', ⟨h1, h2.row h.row h.out, fun k hk => h3 k (own_lt h.row hk).2 (h.out k hk)⟩, h2, h3⟩
theorem Wd.app {w w1 w2 w3 : World} {f : Nat} {F : List Nat} {s : Said} {v v' : Value} {n : Nat} (h : Wd w f F s v n w1) (u : Upd [] w1 w2) (ho : w3.ownsRow w.heap.size 3 1 v' (n + 1) (nums n ++ [.int .i64 ((n : Int) + 1)])) (hg : w2.grownBy w3 v.ownBlock)
    (hv : v'.ownBlock = v.ownBlock ∨ v'.ownBlock = some w2.heap.size) : Wd w f F s v' (n + 1) w3 := by
  have h2 := h.any u
  have u3 : Upd v.ownBlock.toList w2 w3 := (Upd.refl _ _).grown hg (by intro k hk; simp [hk])
  refine ⟨h2.st.other u3 ?_ ?_, by rw [← nums_snoc]; exact ho, fun k hk => ?_⟩
  · intro k hk hm
    exact h2.out k (by simpa using hm) hk
  · intro k hk
    exact (own_lt h2.row (by simpa using hk)).1
  · rcases hv with e | e
    · exact h2.out k (e ▸ hk)
    · rw [hk] at e
      simp at e
      subst e
      exact h2.st.free
theorem Wd.cell {w w1 : World} {f : Nat} {F : List Nat} {s : Said} {g cap : Nat} {n : Nat} (h : Wd w f F s (.slice (some ⟨g, 0, none⟩) n cap) n w1) {k : Nat} (hk : k < n) : w1.cell? ⟨g, k, none⟩ = some (.int .i64 ((k : Int) + 1)) := by
  rw [h.row.cellAt k (by omega)]
  simp [nums, hk]

theorem Dn.c0 (d : Dn) : d.cells[0]? = some (.int .i64 d.n) := rfl
theorem Dn.c31 (d : Dn) : d.cells[31]? = some (.int .i64 d.ix) := rfl
theorem Dn.c33 (d : Dn) : d.cells[33]? = some (.int .i64 d.val) := rfl

set_option maxRecDepth 100000 in
set_option maxHeartbeats 8000000 in
theorem order_ok (x0 : Int) (a1 : Option Addr) (len cap : Nat) (zs : List Int) (w : World) (hx0 : (Lit.int .i64 x0).wf = true) (hrow : RowAt w a1 len zs) (hlen : len ≤ 9223372036854775807) :
    Calls Try.prog 3 #[.int .i64 x0, .slice a1 len cap] w fun e w' => e = .returned (.bool true) ∧ Upd [] w w' := by
  obtain ⟨i3, hi3, hz30, hz31, hz32⟩ := info_parts Try.info3
  have Hrow := Lib.hid hrow
  have Hx0 := Lib.hid hx0
  clear hrow hx0
  go_enter Try.func3, Try.ntmps3
  go_wp2_with fail
  refine (new_ok _).mono ?_
  rintro e w1 ⟨f, F, rfl, h1, u1, n1⟩
  obtain ⟨F1, g1⟩ := St.start h1 u1 n1
  have K1 := Lib.hid g1
  clear h1 u1 n1 g1
  go_wp2_with fail
  refine (pick_any x0 60 _ Hx0.out (by decide)).mono ?_
  rintro e w1' ⟨r, rfl, hr0, hr1, rfl⟩
  obtain ⟨n, rfl⟩ := Int.eq_ofNat_of_zero_le hr0
  have hn : n < 60 := by omega
  clear hr0 hr1 Hx0
  go_wp2_with fail
  go_loopg [6] n (fun g u wr => ∃ i : Nat, u = .int .i64 i ∧ i ≤ n ∧ g = n - i ∧ ∃ F, St w f F ⟨wtsN i, [], [], 0, 0, []⟩ wr)
  case atStart => exact ⟨0, rfl, Nat.zero_le _, rfl, _, K1.out⟩
  case round =>
    obtain ⟨i, rfl, hi, rfl, F2, hS⟩ := hrel
    have K2 := Lib.hid hS
    clear hS K1
    by_cases hlt : i < n
    · have bA := build44n i
      go_wp2_with fail
      refine (wait_ok f F2 _ 5 2 i 0 _ K2.out.front (by show (wtsN i).length < 64; rw [wtsN_len]; omega)).mono ?_
      rintro e w3 ⟨rfl, h3⟩
      obtain ⟨F3, g3, _, _⟩ := K2.out.go h3
      have K3 : Hid (St w f F3 ⟨wtsN (i + 1), [], [], 0, 0, []⟩ w3) := Lib.hid (by rw [← wtsN_snoc]; exact g3)
      clear h3 g3 bA K2
      go_wp2_with fail
      go_roundg (n - (i + 1))
      case measure => omega
      case rel => exact ⟨i + 1, by go_num, by omega, rfl, F3, K3.out⟩
    · obtain rfl : i = n := by omega
      have bA := build47 5 2
      have bB := build49v 3
      go_wp2_with fail
      refine (applied_ok f F2 _ 5 2 3 _ K2.out.front (by show (wtsN i).length ≤ 64; rw [wtsN_len]; omega)).mono ?_
      rintro e w4 ⟨rfl, h4⟩
      obtain ⟨F4, g4, _, _⟩ := K2.out.go h4
      have K4 : Hid (St w f F4 ⟨[], [], [], 0, 0, dnsN 0 i⟩ w4) := Lib.hid (by rw [← applied_all i hn]; exact g4)
      clear h4 g4 K2 bA bB
      go_wp2_with fail
      go_loopg [7] i (fun g u wr => ∃ j : Nat, u = .int .i64 j ∧ j ≤ i ∧ g = i - j ∧ ∃ F, St w f F ⟨[], [], [], 0, 0, dnsN j i⟩ wr)
      case atStart => exact ⟨0, rfl, Nat.zero_le _, rfl, _, K4.out⟩
      case round =>
        obtain ⟨j, rfl, hj, rfl, F5, hS⟩ := hrel
        have K5 := Lib.hid hS
        clear hS K4
        by_cases hlt : j < i
        · go_wp2_with fail
          refine (take_some f F5 _ (dnN j) (dnsN (j + 1) i) _ K5.out.front (dnsN_cons hlt) rfl).mono ?_
          rintro e w6 ⟨rfl, h6⟩
          obtain ⟨F6, g6, _, _⟩ := K5.out.go h6
          have K6 : Hid (St w f F6 ⟨[], [], [], 0, 0, dnsN (j + 1) i⟩ w6) := Lib.hid g6
          clear h6 g6 K5
          go_wp2_with (first | (refine wpList_alloc_blk rfl 51 rfl zDone (zeroVal51 _) ?_; intro w7 hb7 hu7) | (refine wpList_store_blk (o := ⟨none, .store 51 (.tmp 8) (.tmp 48), _, _, _, _⟩) rfl 51 (.tmp 8) (.tmp 48) rfl _ (dnN j).cells rfl rfl hb7 Try.size51 rfl (Dn.one _ rfl) ?_; intro w8 hb8 hu8; have K8 := Lib.hid (K6.out.any (hu7.trans hu8 (by simp))); have x0 := hb8.cell (Dn.c0 (dnN j)); have x31 := hb8.cell (Dn.c31 (dnN j)); have x33 := hb8.cell (Dn.c33 (dnN j)); simp only [dnN] at x0 x31 x33; clear hb7 hu7 hb8 hu8))
          go_roundg (i - (j + 1))
          case measure => omega
          case rel => exact ⟨j + 1, by go_num, by omega, rfl, F6, K8.out⟩
        · obtain rfl : j = i := by omega
          have K6 : Hid (St w f F5 ⟨[], [], esN 0, 0, (0 : Nat), []⟩ wr) := Lib.hid (by have := K5.out; rwa [dnsN_nil] at this)
          clear K5
          go_wp2_with fail
          go_loopg [10, 11] j (fun g v u wr => ∃ k : Nat, u = .int .i64 k ∧ k ≤ j ∧ g = j - k ∧ ∃ F, Wd w f F ⟨[], [], esN k, 0, k, []⟩ v k wr)
          case atStart => exact ⟨0, rfl, Nat.zero_le _, rfl, F5, ⟨K6.out, World.ownsRow_nil _ _ _ _, by simp [Value.ownBlock]⟩⟩
          case round =>
            obtain ⟨k, rfl, hk, rfl, F7, hS⟩ := hrel
            have K7 := Lib.hid hS
            clear hS K6
            by_cases hlt : k < j
            · have bA := build44n k
              go_wp2_with fail
              refine (pass_ok f F7 _ k 0 _ K7.out.st.front (by show (esN k).length < 64; rw [esN_len]; omega) (by show (0 : Int) ≤ (k : Int); omega) (by show (k : Int) < 9223372036854775807; omega) (esN_ne k)).mono ?_
              rintro e w9 ⟨rfl, h9⟩
              obtain ⟨F9, g9, _, _⟩ := K7.out.go h9
              have K9 : Hid (Wd w f F9 ⟨[], [], esN (k + 1), 0, ((k + 1 : Nat) : Int), []⟩ u10 k w9) := Lib.hid (by rw [← esN_snoc]; exact g9)
              clear h9 g9 bA K7
              go_wp2_with (at_builtin; refine wpList_append_mine rfl (.tmp 84) (.tmp 86) 22 rfl w.heap.size 3 i3 _ 1 8 Try.underlying22 hi3 hz30 hz31 hz32 rfl (by decide) u10 k (nums k) rfl (World.ownsRow.alloc K9.out.row _) ⟨w9.heap.size, 0, none⟩ 1 1 [.int .i64 ((k : Int) + 1)] rfl rfl (Blk.news (Blk.new _ 3 [.int .i64 ((k : Int) + 1)])) (by simp [Value.oneCell']) (by unfold maxLen; omega) (by omega) (by have := K9.out.st.upd.size; simp; omega) ?_; intro v' w11 ho hg hgb; have K11 := Lib.hid (K9.out.app ((Upd.refl _ _).alloc _) ho hg (by simpa using hgb)); clear ho hg hgb K9)
              go_roundg (j - (k + 1))
              case measure => omega
              case rel => exact ⟨k + 1, by go_num, by omega, rfl, F9, K11.out⟩
            · obtain rfl : k = j := by omega
              go_wp2_with fail
              go_loopg [14, 15] len (fun g lf u wr => ∃ (i : Nat) (es : List (Int × Int × Int)), u = .int .i64 i ∧ i ≤ len ∧ g = len - i ∧ lf = .int .i64 es.length ∧ Left k es ∧ ∃ F, Wd w f F ⟨[], [], es, 0, k, []⟩ u10 k wr)
              case atStart => exact ⟨0, esN k, rfl, Nat.zero_le _, rfl, by rw [esN_len], Left.start k, F7, K7.out⟩
              case round =>
                obtain ⟨i, es, rfl, hi, rfl, rfl, hL, F8, hS⟩ := hrel
                have K8 := Lib.hid hS
                have HL := Lib.hid hL
                have hle := hL.len
                clear hS K7 hL
                by_cases hk0 : k = 0
                · subst hk0
                  by_cases hlt : i < len
                  · go_wp2_with fail
                    refine (lives_any _).mono ?_
                    rintro e w12 ⟨rfl, u12⟩
                    go_wp2_with fail
                    go_ret
                    exact ⟨rfl, (K8.out.any u12).st.upd⟩
                  · go_wp2_with fail
                    refine (lives_any _).mono ?_
                    rintro e w12 ⟨rfl, u12⟩
                    go_wp2_with fail
                    go_ret
                    exact ⟨rfl, (K8.out.any u12).st.upd⟩
                · have hk1 : 0 < k := by omega
                  have hk2 : decide ((0 : Int) < (k : Int)) = true := by simp; omega
                  by_cases hlt : i < len
                  · -- a pick
                    obtain ⟨xb, xo, rfl, hxb, hc, hwf⟩ := (Hrow.out.upd K8.out.st.upd) i hlt
                    obtain ⟨gg, gc, rfl⟩ := own_some K8.out.row hk1
                    have Hwf := Lib.hid hwf
                    clear hwf
                    go_wp2_with fail
                    refine (pick_any _ (k : Int) _ Hwf.out (by omega)).mono ?_
                    rintro e w9' ⟨r, rfl, hr0, hr1, rfl⟩
                    obtain ⟨p, rfl⟩ := Int.eq_ofNat_of_zero_le hr0
                    have hp : p < k := by omega
                    clear hr0 hr1 Hwf hc hxb
                    have bV := build49v p
                    have hcA := K8.out.cell hp
                    have hgA := (own_lt K8.out.row (k := gg) rfl).2
                    rcases HL.out.split (k := p) with hno | ⟨A, B, hes, hA, hAB, hLB⟩
                    · have Hno := Lib.hid hno
                      clear hno
                      go_wp2_with fail
                      refine (passed_none f F8 _ ((p : Int) + 1) p _ K8.out.st.front Hno.out).mono ?_
                      rintro e w10 ⟨rfl, h10⟩
                      obtain ⟨F10, g10, _, _⟩ := K8.out.go h10
                      have K10 := Lib.hid g10
                      clear h10 g10 K8 bV hcA hgA
                      go_wp2_with fail
                      refine (take_none f F10 _ _ K10.out.st.front rfl).mono ?_
                      rintro e w11 ⟨rfl, h11⟩
                      obtain ⟨F11, g11, _, _⟩ := K10.out.go h11
                      have K11 : Hid (Wd w f F11 ⟨[], [], es, 0, k, []⟩ (.slice (some ⟨gg, 0, none⟩) k gc) k w11) := Lib.hid g11
                      clear h11 g11 K10
                      have bZ := build49z
                      go_wp2_with (first | (refine wpList_alloc_blk rfl 51 rfl zDone (zeroVal51 _) ?_; intro w12a hb12 hu12) | (refine wpList_store_blk (o := ⟨none, .store 51 (.tmp 17) (.tmp 116), _, _, _, _⟩) rfl 51 (.tmp 17) (.tmp 116) rfl _ zDone rfl rfl hb12 Try.size51 rfl zDone_one ?_; intro w12b hc12 hv12; have K12 := Lib.hid (K11.out.any (hu12.trans hv12 (by simp))); have hcB := K12.out.cell hp; have hgB := (own_lt K12.out.row (k := gg) rfl).2; clear hb12 hu12 hc12 hv12 K11))
                      refine (passed_none f F11 _ ((p : Int) + 1) 0 _ K12.out.st.front Hno.out).mono ?_
                      rintro e w20 ⟨rfl, h20⟩
                      obtain ⟨F20, g20, _, _⟩ := K12.out.go h20
                      have K20 := Lib.hid g20
                      clear h20 g20 K12 bZ hcB hgB
                      go_wp2_with fail
                      refine (take_none f F20 _ _ K20.out.st.front rfl).mono ?_
                      rintro e w21 ⟨rfl, h21⟩
                      obtain ⟨F21, g21, _, _⟩ := K20.out.go h21
                      have K21 : Hid (Wd w f F21 ⟨[], [], es, 0, k, []⟩ (.slice (some ⟨gg, 0, none⟩) k gc) k w21) := Lib.hid g21
                      clear h21 g21 K20
                      go_wp2_with (first | (refine wpList_alloc_blk rfl 51 rfl zDone (zeroVal51 _) ?_; intro w22a hb22 hu22) | (refine wpList_store_blk (o := ⟨none, .store 51 (.tmp 19) (.tmp 143), _, _, _, _⟩) rfl 51 (.tmp 19) (.tmp 143) rfl _ zDone rfl rfl hb22 Try.size51 rfl zDone_one ?_; intro w22b hc22 hv22; have K22 := Lib.hid (K21.out.any (hu22.trans hv22 (by simp))); clear hb22 hu22 hc22 hv22))
                      refine (len_any f F21 _ _ K22.out.st.front (by show (([] : List Wt).length + ([] : List Rd).length + (es).length) ≤ _; simp only [List.length_nil]; have := hle; omega)).mono ?_
                      rintro e w23 ⟨rfl, u23⟩
                      have K23 := Lib.hid (K22.out.any u23)
                      clear K22 u23
                      simp only [List.length_nil, Nat.zero_add]
                      go_wp2_with fail
                      go_roundg (len - (i + 1))
                      case measure => omega
                      case rel => exact ⟨i + 1, es, by go_num, by omega, rfl, rfl, HL.out, F21, K23.out⟩
                    · have hlB := hLB.len
                      obtain ⟨es2, he2⟩ : ∃ x, A ++ B = x := ⟨_, rfl⟩
                      have hle2 : es.length = es2.length + 1 := by rw [hes, ← he2]; simp; omega
                      have hpos : 1 ≤ es.length := by omega
                      have He2 := Lib.hid he2
                      rw [he2] at hAB hLB hlB
                      have Hes := Lib.hid hes
                      have HA := Lib.hid hA
                      have HAB := Lib.hid hAB
                      have HLB := Lib.hid hLB
                      have Hle2 := Lib.hid hle2
                      clear hA hAB hLB hes he2 hle2
                      go_wp2_with fail
                      refine (passed_some f F8 _ A B ((p : Int) + 1) p 0 p _ K8.out.st.front Hes.out HA.out).mono ?_
                      rintro e w10 ⟨rfl, h10⟩
                      obtain ⟨F10, g10, _, _⟩ := K8.out.go h10
                      have K10 : Hid (Wd w f F10 ⟨[], [], es2, 0, k, [⟨p, 0, 0, p, .slice none 0 0⟩]⟩ (.slice (some ⟨gg, 0, none⟩) k gc) k w10) := Lib.hid (by rw [← He2.out]; exact g10)
                      clear h10 g10 K8 bV hcA hgA
                      go_wp2_with fail
                      refine (take_some f F10 _ ⟨p, 0, 0, p, .slice none 0 0⟩ [] _ K10.out.st.front rfl rfl).mono ?_
                      rintro e w11 ⟨rfl, h11⟩
                      obtain ⟨F11, g11, _, _⟩ := K10.out.go h11
                      have K11 : Hid (Wd w f F11 ⟨[], [], es2, 0, k, []⟩ (.slice (some ⟨gg, 0, none⟩) k gc) k w11) := Lib.hid g11
                      clear h11 g11 K10
                      have bZ := build49z
                      go_wp2_with (first | (refine wpList_alloc_blk rfl 51 rfl zDone (zeroVal51 _) ?_; intro w12a hb12 hu12) | (refine wpList_store_blk (o := ⟨none, .store 51 (.tmp 17) (.tmp 116), _, _, _, _⟩) rfl 51 (.tmp 17) (.tmp 116) rfl _ (Dn.cells ⟨p, 0, 0, p, .slice none 0 0⟩) rfl rfl hb12 Try.size51 rfl (Dn.one _ rfl) ?_; intro w12b hc12 hv12; have K12 := Lib.hid (K11.out.any (hu12.trans hv12 (by simp))); have hcB := K12.out.cell hp; have hgB := (own_lt K12.out.row (k := gg) rfl).2; have x0 := hc12.cell (Dn.c0 ⟨p, 0, 0, p, .slice none 0 0⟩); have x33 := hc12.cell (Dn.c33 ⟨p, 0, 0, p, .slice none 0 0⟩); dsimp only at x0 x33; clear hb12 hu12 hc12 hv12 K11))
                      clear x0 x33
                      refine (passed_none f F11 _ ((p : Int) + 1) 0 _ K12.out.st.front HAB.out).mono ?_
                      rintro e w20 ⟨rfl, h20⟩
                      obtain ⟨F20, g20, _, _⟩ := K12.out.go h20
                      have K20 := Lib.hid g20
                      clear h20 g20 K12 bZ hcB hgB
                      go_wp2_with fail
                      refine (take_none f F20 _ _ K20.out.st.front rfl).mono ?_
                      rintro e w21 ⟨rfl, h21⟩
                      obtain ⟨F21, g21, _, _⟩ := K20.out.go h21
                      have K21 : Hid (Wd w f F21 ⟨[], [], es2, 0, k, []⟩ (.slice (some ⟨gg, 0, none⟩) k gc) k w21) := Lib.hid g21
                      clear h21 g21 K20
                      go_wp2_with (first | (refine wpList_alloc_blk rfl 51 rfl zDone (zeroVal51 _) ?_; intro w22a hb22 hu22) | (refine wpList_store_blk (o := ⟨none, .store 51 (.tmp 19) (.tmp 143), _, _, _, _⟩) rfl 51 (.tmp 19) (.tmp 143) rfl _ zDone rfl rfl hb22 Try.size51 rfl zDone_one ?_; intro w22b hc22 hv22; have K22 := Lib.hid (K21.out.any (hu22.trans hv22 (by simp))); clear hb22 hu22 hc22 hv22))
                      refine (len_any f F21 _ _ K22.out.st.front (by show (([] : List Wt).length + ([] : List Rd).length + es2.length) ≤ _; simp only [List.length_nil]; have := hlB; omega)).mono ?_
                      rintro e w23 ⟨rfl, u23⟩
                      have K23 := Lib.hid (K22.out.any u23)
                      clear K22 u23
                      simp only [List.length_nil, Nat.zero_add]
                      have hle3 : (es.length : Int) - 1 = (es2.length : Int) := by have := Hle2.out; omega
                      rw [hle3]
                      clear hle3
                      go_wp2_with fail
                      go_roundg (len - (i + 1))
                      case measure => omega
                      case rel => exact ⟨i + 1, es2, by go_num, by omega, rfl, rfl, HLB.out, F21, K23.out⟩
                  · go_wp2_with fail
                    refine (lives_any _).mono ?_
                    rintro e w12 ⟨rfl, u12⟩
                    go_wp2_with fail
                    go_ret
                    exact ⟨rfl, (K8.out.any u12).st.upd⟩
end Go.Proofs.Ytenmcllnddmdhaa
