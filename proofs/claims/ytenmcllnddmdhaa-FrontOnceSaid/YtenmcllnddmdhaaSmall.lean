/- The small functions: pick, own (of an answer without places), Clone (of nothing). -/
import Derived.Test.YtenmcllnddmdhaaBox
import Derived.Lib.SliceRun
set_option linter.unusedVariables false
set_option linter.unusedSimpArgs false
namespace Go.Proofs.Ytenmcllnddmdhaa
open Go.RowKit Go.Lb Go.Conc

theorem pick_any (c n : Int) (w : World) (hc : (Lit.int .i64 c).wf = true) (hn : 0 < n) : Calls Try.prog 6 #[.int .i64 c, .int .i64 n] w fun e w' => ∃ r : Int, e = .returned (.int .i64 r) ∧ 0 ≤ r ∧ r < n ∧ w = w' := by
  have h1 : -9223372036854775808 ≤ c ∧ c ≤ 9223372036854775807 := by simpa [Lit.wf, IntKind.min, IntKind.max, IntKind.bits, IntKind.signed] using hc
  have hn0 : n ≠ 0 := by omega
  by_cases h : c < 0
  · have hd : decide (c < 0) = true := by simpa using h
    go_enter Try.func6, Try.ntmps6
    go_wp2
    go_ret
    have e : -(c + 1).tmod n = (-(c + 1)) % n := by rw [← Int.neg_tmod, Int.tmod_eq_emod_of_nonneg (by omega)]
    exact ⟨_, rfl, by rw [e]; exact Int.emod_nonneg _ hn0, by rw [e]; exact Int.emod_lt_of_pos _ hn, rfl⟩
  · have hd : decide (c < 0) = false := by simpa using h
    go_enter Try.func6, Try.ntmps6
    go_wp2
    go_ret
    exact ⟨_, rfl, Int.emod_nonneg _ hn0, Int.emod_lt_of_pos _ hn, rfl⟩

set_option maxRecDepth 20000 in
theorem clone_nil (w : World) : Calls Try.prog 28 #[.slice none 0 0] w fun e w' => e = .returned (.slice none 0 0) ∧ w = w' := by
  have he := Go.Lib.run_eql_slice_nil (P := Try.prog) w 36 91 none 0 0 0 0 Try.underlying36
  go_enter Try.func28, Try.ntmps28
  go_wp2
  go_ret
  exact ⟨rfl, rfl⟩

theorem own_nil (k v : Int) (w : World) : Calls Try.prog 23 #[.agg #[.int .i64 k, .int .i64 v, .slice none 0 0]] w fun e w' => e = .returned (.agg #[.int .i64 k, .int .i64 v, .slice none 0 0]) ∧ Upd [] w w' := by
  go_enter Try.func23, Try.ntmps23
  go_wp2_with fail
  refine (clone_nil _).mono ?_
  rintro e w1 ⟨rfl, rfl⟩
  go_wp2_with fail
  refine bodyPost_ret (v := .agg #[.int .i64 k, .int .i64 v, .slice none 0 0]) ?_ rfl ?_
  · simp [results, Try.results23, go_sem]
  · exact ⟨rfl, ((Upd.refl _ _).alloc _).alloc _⟩

end Go.Proofs.Ytenmcllnddmdhaa
