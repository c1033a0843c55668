/- A key, a cantus and bounds, drawn for the laws of lines. -/
import Derived.Test.YtdmidimjbhkjoaaCtu
import Derived.Test.YtdmidimjbhkjoaaBa
namespace Go.Proofs.Ytdmidimjbhkjoaa
set_option linter.unusedSimpArgs false
set_option linter.unusedVariables false
open Go.RowKit

def SrR (w : World) (g B p : Nat) (A : Option Addr) (len cap : Nat) (e : Ending) (w' : World) : Prop :=
  ∃ (f : Int) (v : Value) (l : List Pi) (lo hi : Int), e = .returned (.tuple #[.int .i64 f, v, .int .i64 lo, .int .i64 hi]) ∧ 1 ≤ l.length ∧ l.length ≤ 6 ∧ w'.ownsRow w.heap.size 30 3 v l.length (flat csPi l) ∧ (46 ≤ lo ∧ lo ≤ 51) ∧ (40 ≤ hi ∧ hi ≤ 110) ∧ Onb g w w' ∧ ∃ p', p' ≤ p + 30 ∧ Rd w' g B A len cap p'
def DrSr (w : World) (e : Ending) (w' : World) : Prop := ∃ (f : Int) (A : Option Addr) (cap : Nat) (l : List Pi) (lo hi : Int), e = .returned (.tuple #[.int .i64 f, .slice A l.length cap, .int .i64 lo, .int .i64 hi]) ∧ l.length ≤ cap ∧ cap ≤ maxLen ∧ l.length ≤ 6 ∧ (46 ≤ lo ∧ lo ≤ 51) ∧ (40 ≤ hi ∧ hi ≤ 110) ∧ RowPi w' w'.heap.size A l ∧ Below w.heap.size w w'
end Go.Proofs.Ytdmidimjbhkjoaa
