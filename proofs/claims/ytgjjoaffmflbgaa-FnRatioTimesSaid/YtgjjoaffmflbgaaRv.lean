/- The contracts of RatioValid, of the program and of the reference: for every pair of numbers and every world. -/
import Derived.Test.YtgjjoaffmflbgaaGcd
namespace Go.Proofs.Ytgjjoaffmflbgaa
set_option linter.unusedSimpArgs false
set_option linter.unusedVariables false
open Go.RowKit


/-- the test of a ratio -/
def rvB (n d : Int) : Bool := decide (1 ≤ n ∧ n ≤ 2000000 ∧ 1 ≤ d ∧ d ≤ 2000000 ∧ G n d = 1)
theorem rvB_in {n d : Int} (h1 : 1 ≤ n) (h2 : n ≤ 2000000) (h3 : 1 ≤ d) (h4 : d ≤ 2000000) : rvB n d = (G n d == 1) := by
  unfold rvB; by_cases h : G n d = 1 <;> simp [h, h1, h2, h3, h4]
theorem rvB_out {n d : Int} (h : ¬ (1 ≤ n ∧ n ≤ 2000000 ∧ 1 ≤ d ∧ d ≤ 2000000)) : rvB n d = false := by
  unfold rvB; apply decide_eq_false; rintro ⟨a, b, c, e, _⟩; exact h ⟨a, b, c, e⟩
theorem rvB_bd {n d : Int} (h : rvB n d = true) : 1 ≤ n ∧ n ≤ 2000000 ∧ 1 ≤ d ∧ d ≤ 2000000 ∧ G n d = 1 := of_decide_eq_true h

set_option maxHeartbeats 400000 in
theorem rv_any (n d : Int) (w : World) :
    Calls Try.prog 22 #[.agg #[.int .i64 n, .int .i64 d]] w fun e w' => e = .returned (.bool (rvB n d)) ∧ Below w.heap.size w w' := by
  have k : (1 ≤ n ∧ n ≤ 2000000 ∧ 1 ≤ d ∧ d ≤ 2000000) ∨ (1 ≤ n ∧ n ≤ 2000000 ∧ d < 1) ∨ (1 ≤ n ∧ n ≤ 2000000 ∧ 1 ≤ d ∧ 2000000 < d) ∨ n < 1 ∨ (1 ≤ n ∧ 2000000 < n) := by omega
  rcases k with ⟨h1, h2, h3, h4⟩ | ⟨h1, h2, h3⟩ | ⟨h1, h2, h3, h4⟩ | h1 | ⟨h1, h2⟩
  all_goals
    go_enter Try.func22, Try.ntmps22
    go_wp2_with (first | (go_at_call 48; refine (gcd_any _ _ _ (by omega) (by omega) (by omega) (by omega)).mono ?_; rintro e w1 ⟨rfl, hb⟩) | go_in)
    go_ret
  · exact ⟨ret_bool (by rw [rvB_in h1 h2 h3 h4]), bel_alloc hb⟩
  all_goals exact ⟨ret_bool (by rw [rvB_out (by omega)]), bel_new _ _⟩

set_option maxHeartbeats 400000 in
theorem srv_any (n d : Int) (w : World) :
    Calls Try.prog 45 #[.agg #[.int .i64 n, .int .i64 d]] w fun e w' => e = .returned (.bool (rvB n d)) ∧ Below w.heap.size w w' := by
  have k : (1 ≤ n ∧ n ≤ 2000000 ∧ 1 ≤ d ∧ d ≤ 2000000) ∨ (1 ≤ n ∧ n ≤ 2000000 ∧ d < 1) ∨ (1 ≤ n ∧ n ≤ 2000000 ∧ 1 ≤ d ∧ 2000000 < d) ∨ n < 1 ∨ (1 ≤ n ∧ 2000000 < n) := by omega
  rcases k with ⟨h1, h2, h3, h4⟩ | ⟨h1, h2, h3⟩ | ⟨h1, h2, h3, h4⟩ | h1 | ⟨h1, h2⟩
  all_goals
    go_enter Try.func45, Try.ntmps45
    go_wp2_with (first | (go_at_call 54; refine (sgcd_any _ _ _ (by omega) (by omega) (by omega) (by omega)).mono ?_; rintro e w1 ⟨rfl, hb⟩) | go_in)
    go_ret
  · exact ⟨ret_bool (by rw [rvB_in h1 h2 h3 h4]), bel_alloc hb⟩
  all_goals exact ⟨ret_bool (by rw [rvB_out (by omega)]), bel_new _ _⟩

end Go.Proofs.Ytgjjoaffmflbgaa
