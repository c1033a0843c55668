/- Intervals copied by the laws. -/
import Derived.Test.YtelbmiplmbgcdaaTrn
import Derived.Test.YtelbmiplmbgcdaaBlk
namespace Go.Proofs.Ytelbmiplmbgcdaa
set_option linter.unusedSimpArgs false
set_option linter.unusedVariables false
open Go.RowKit

set_option maxHeartbeats 1000000 in
theorem toI_any (st ha : Int) (w : World) :
    Calls Try.prog 14 #[.agg #[.int .i64 st, .int .i64 ha]] w fun e w' => e = .returned (.agg #[.int .i64 st, .int .i64 ha]) ∧ Below w.heap.size w w' := by
  go_enter Try.func14, Try.ntmps14
  go_wp2
  exact bodyPost_ret (v := .agg #[.int .i64 st, .int .i64 ha]) (by simp [results, Try.results14, go_sem]) rfl ⟨rfl, by repeat (first | (with_reducible assumption) | (exact bel_undr (by with_reducible assumption)) | (with_reducible exact bel_refl _) | (with_reducible refine bel_dr ?_) | (with_reducible refine bel_drN ?_ _) | (with_reducible refine bel_al ?_ _) | (refine bel_set ?_ (by first | (simp; done) | (simp; exact Below.size (by assumption)) | (simp; omega)) _) | (with_reducible refine bel_tr ?_ (by assumption)))⟩
theorem Blk.trn {w w' : World} {P n : Nat} {A : Option Addr} {cs : Array Value} {T : TypeId} (h : Blk w P cs T) (t : Trn A n w w') (hne : ∀ a : Addr, 0 < n → A = some a → a.block ≠ P) : Blk w' P cs T :=
  (t.block P h.lt fun hn a ha => hne a hn ha).trans h
end Go.Proofs.Ytelbmiplmbgcdaa
