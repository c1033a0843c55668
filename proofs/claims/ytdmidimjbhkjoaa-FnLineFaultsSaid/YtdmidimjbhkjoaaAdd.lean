/- The pitch to which an interval leads; of the program and of the reference. -/
import Derived.Test.YtdmidimjbhkjoaaIv
import Derived.Test.YtdmidimjbhkjoaaTail
import Derived.Deep.RegionWith
import Derived.Deep.DeepCutAuto
namespace Go.Proofs.Ytdmidimjbhkjoaa
set_option linter.unusedSimpArgs false
set_option linter.unusedVariables false
open Go.RowKit

def pwB (p k : Int) : Bool := decide (0 ≤ p) && pvB (p % 7) (k - natI p) (p / 7)
def pwS (p k : Int) : Int := if pwB p k then p % 7 else 0
def pwA (p k : Int) : Int := if pwB p k then k - natI p else 0
def pwO (p k : Int) : Int := if pwB p k then p / 7 else 0
def adB (s a o st ha : Int) : Bool := pvB s a o && ivB st ha && pwB (7 * o + s + st) (12 * o + shI s + a + ha)
def adS (s a o st ha : Int) : Int := if adB s a o st ha then (7 * o + s + st) % 7 else 0
def adA (s a o st ha : Int) : Int := if adB s a o st ha then 12 * o + shI s + a + ha - natI (7 * o + s + st) else 0
def adO (s a o st ha : Int) : Int := if adB s a o st ha then (7 * o + s + st) / 7 else 0

theorem tup_to {P : Program} {f : FuncId} {args : Array Value} {w : World} {a b c x y z : Int} {d v : Bool} (h : a = x ∧ b = y ∧ c = z ∧ d = v) (H : Calls P f args w fun e w' => e = .returned (.tuple #[.agg #[.int .i64 (x), .int .i64 (y), .int .i64 (z)], .bool (v)]) ∧ Below w.heap.size w w') :
    Calls P f args w fun e w' => e = .returned (.tuple #[.agg #[.int .i64 (a), .int .i64 (b), .int .i64 (c)], .bool (d)]) ∧ Below w.heap.size w w' := by obtain ⟨rfl, rfl, rfl, rfl⟩ := h; exact H
end Go.Proofs.Ytdmidimjbhkjoaa
