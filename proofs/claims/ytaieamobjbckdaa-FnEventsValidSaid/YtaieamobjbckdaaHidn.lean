/- A claim for all numbers below k, one number more. -/
import Derived.Test.YtaieamobjbckdaaBel
namespace Go.Proofs.Ytaieamobjbckdaa
set_option linter.unusedSimpArgs false
set_option linter.unusedVariables false
open Go.RowKit
theorem hid_snoc {P : Nat → Prop} {k : Nat} (h : Hid (∀ j, j < k → P j)) (hk : P k) : Hid (∀ j, j < k + 1 → P j) := fun j hj => by
  by_cases e : j = k
  · exact e ▸ hk
  · exact h.out j (by omega)
end Go.Proofs.Ytaieamobjbckdaa
