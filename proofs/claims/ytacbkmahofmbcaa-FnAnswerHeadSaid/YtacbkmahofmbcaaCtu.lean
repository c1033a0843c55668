/- The generator of cantus: a key and a list of one to six pitches, whatever they are. -/
import Derived.Test.YtacbkmahofmbcaaOnb
import Derived.Test.YtacbkmahofmbcaaPiO
import Derived.Test.YtacbkmahofmbcaaKey
import Derived.Test.YtacbkmahofmbcaaAlive
import Derived.Deep.AppendLies
namespace Go.Proofs.Ytacbkmahofmbcaa
set_option linter.unusedSimpArgs false
set_option linter.unusedVariables false
open Go.RowKit

/-- what the generator leaves -/
def Ctu (w : World) (g B p : Nat) (A : Option Addr) (len cap : Nat) (e : Ending) (w' : World) : Prop :=
  ∃ (f : Int) (v : Value) (l : List Pi), e = .returned (.tuple #[.int .i64 f, v]) ∧ 1 ≤ l.length ∧ l.length ≤ 6 ∧ w'.ownsRow w.heap.size 31 3 v l.length (flat csPi l) ∧ Onb g w w' ∧ ∃ p', p' ≤ p + 20 ∧ Rd w' g B A len cap p'
/-- a key and a cantus that were drawn -/
def DrCv (w : World) (e : Ending) (w' : World) : Prop := ∃ (f : Int) (A : Option Addr) (cap : Nat) (l : List Pi), e = .returned (.tuple #[.int .i64 f, .slice A l.length cap]) ∧ l.length ≤ cap ∧ cap ≤ maxLen ∧ l.length ≤ 6 ∧ RowPi w' w'.heap.size A l ∧ Below w.heap.size w w'
end Go.Proofs.Ytacbkmahofmbcaa
