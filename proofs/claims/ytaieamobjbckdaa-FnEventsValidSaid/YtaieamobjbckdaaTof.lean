/- TimeOf and TickOf, of the program and of the reference. -/
import Derived.Test.YtaieamobjbckdaaSTo
import Derived.Test.YtaieamobjbckdaaSTv
namespace Go.Proofs.Ytaieamobjbckdaa
set_option linter.unusedSimpArgs false
set_option linter.unusedVariables false
open Go.RowKit

def timeOfI (l : List Tp) (k : Int) : Int := if tvB l = true ∧ 0 ≤ k ∧ k ≤ 50000 then timeI l k else -1
noncomputable def tickOfI (l : List Tp) (t : Int) : Int := if tvB l = true ∧ 0 ≤ t then tickI l t else -1
theorem stv_val {l : List Tp} {v : Bool} (hv : tvB l = v) (A : Option Addr) (n c : Nat) (w : World) (hn : l.length = n) (hm : n ≤ 2000000) (h : RowTp w w.heap.size A l) :
    Calls Try.prog 21 #[.slice A n c] w fun e w' => e = .returned (.bool v) ∧ Below w.heap.size w w' := by
  subst hv; exact stv_any A n c l w hn hm h

end Go.Proofs.Ytaieamobjbckdaa
