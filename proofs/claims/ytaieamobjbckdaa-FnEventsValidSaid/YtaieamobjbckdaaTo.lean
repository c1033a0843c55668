/- timeOf of the program: for every slice of valid tempos. -/
import Derived.Test.YtaieamobjbckdaaTime
import Derived.Test.YtaieamobjbckdaaLater
import Derived.WalkLawsBesides
namespace Go.Proofs.Ytaieamobjbckdaa
set_option linter.unusedSimpArgs false
set_option linter.unusedVariables false
open Go.RowKit

theorem wr_in (s x y m : Int) (hx : x = y) (a : 0 ≤ s) (b : s ≤ 100000000000) (c : 0 ≤ y * m) (d : y * m ≤ 6000000000) : wrap64 (s + wrap64 (x * m)) = s + y * m := by
  subst hx
  generalize x * m = p at *
  rw [IntWalk.wrap64_in p (by omega), IntWalk.wrap64_in _ (by omega)]
theorem ifA (k nx tick : Int) : (if tick < (if nx < k then nx else k) then (if nx < k then nx else k) - tick else 0) = max 0 (min k nx - tick) := by
  split <;> split <;> omega
theorem ifB (k tick : Int) : (if tick < k then k - tick else 0) = max 0 (k - tick) := by
  split <;> omega

end Go.Proofs.Ytaieamobjbckdaa
