/- The contracts of ratios, with the values that the caller knows. -/
import Derived.Test.YtgjjoaffmflbgaaDr2
import Derived.Test.YtgjjoaffmflbgaaLater
namespace Go.Proofs.Ytgjjoaffmflbgaa
set_option linter.unusedSimpArgs false
set_option linter.unusedVariables false
open Go.RowKit

theorem tm_val {a : Int} {b : Int} {c : Int} {d : Int} {n : Int} {m : Int} {v : Bool} (h0 : tmN a b c d = n) (h1 : tmD a b c d = m) (h2 : tmB a b c d = v) (w : World) : Calls Try.prog 19 #[.agg #[.int .i64 a, .int .i64 b], .agg #[.int .i64 c, .int .i64 d]] w fun e w' => e = .returned (.tuple #[.agg #[.int .i64 n, .int .i64 m], .bool v]) ∧ Below w.heap.size w w' := by
  subst h0 h1 h2; exact tm_any _ _ _ _ w
theorem rv_val {a : Int} {b : Int} {v : Bool} (h0 : rvB a b = v) (w : World) : Calls Try.prog 22 #[.agg #[.int .i64 a, .int .i64 b]] w fun e w' => e = .returned (.bool v) ∧ Below w.heap.size w w' := by
  subst h0; exact rv_any _ _ w
theorem spr_val {x : Int} {n : Int} {d : Int} {b : Bool} (h0 : piN x = n) (h1 : piD x = d) (h2 : piB x = b) (w : World) : Calls Try.prog 52 #[.int .i64 x] w fun e w' => e = .returned (.tuple #[.agg #[.int .i64 n, .int .i64 d], .bool b]) ∧ Below w.heap.size w w' := by
  subst h0 h1 h2; exact spr_any _ w
theorem sfi_val {x : Int} {n : Int} {d : Int} {b : Bool} (h0 : fiN x = n) (h1 : fiD x = d) (h2 : fiB x = b) (w : World) : Calls Try.prog 53 #[.int .i64 x] w fun e w' => e = .returned (.tuple #[.agg #[.int .i64 n, .int .i64 d], .bool b]) ∧ Below w.heap.size w w' := by
  subst h0 h1 h2; exact sfi_any _ w
theorem stm_val {a : Int} {b : Int} {c : Int} {d : Int} {n : Int} {m : Int} {v : Bool} (h0 : tmN a b c d = n) (h1 : tmD a b c d = m) (h2 : tmB a b c d = v) (w : World) : Calls Try.prog 20 #[.agg #[.int .i64 a, .int .i64 b], .agg #[.int .i64 c, .int .i64 d]] w fun e w' => e = .returned (.tuple #[.agg #[.int .i64 n, .int .i64 m], .bool v]) ∧ Below w.heap.size w w' := by
  subst h0 h1 h2; exact stm_any _ _ _ _ w
theorem srv_val {a : Int} {b : Int} {v : Bool} (h0 : rvB a b = v) (w : World) : Calls Try.prog 45 #[.agg #[.int .i64 a, .int .i64 b]] w fun e w' => e = .returned (.bool v) ∧ Below w.heap.size w w' := by
  subst h0; exact srv_any _ _ w
end Go.Proofs.Ytgjjoaffmflbgaa
