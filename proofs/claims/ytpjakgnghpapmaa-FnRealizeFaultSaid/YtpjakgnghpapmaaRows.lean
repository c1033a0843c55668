/-
  No cell of these rows narrows 'for every input' (looked for: loops, veiled, ifaces, maps, wideKeys, modest, calm, conditions, laid).
  DERIVED. THE GIVEN ROWS OF THIS SEAT. 7 by the template 'for every input the law returns true; each argument reads behind the call as it read before'; 0 by the template 'total and deterministic' (their statements: YtpjakgnghpapmaaTotals.lean).
  GIVEN WITH THE SEED: the statements are not yours to turn. If you find one false, say at which input.
  Laid BY PROGRAM, IN A SANDBOX (cutbox-rows.mjs): the forced cells as the released guide's own fill.sh prints them over the translation 238ab1fb65b5b19a… (all of the seat's roots in one cut). By AI agents, Wed Nov 11 2026. No macro, syntax, notation, axiom, sorry.
-/
import Derived.Test.YtpjakgnghpapmaaChecked
import GoSem.Claim
import GoSem.ClaimJoined
import GoSem.ClaimMapViews
import Derived.JoinedTies
import Derived.KernelRfl
namespace Go.Proofs.Ytpjakgnghpapmaa
/- THE CELL 'sum', in the pinned program and in every row, IS THE sha256 OF THE DUMP (.gsa) THAT YtpjakgnghpapmaaProg.lean LOADS. Nothing in Lean hashes anything: it is a label: what it is worth is what the hold of that sum in a sandbox is worth. -/
noncomputable def Try.pinned : Pinned := { name := "ytpjakgnghpapmaa", sum := "238ab1fb65b5b19a4fbe42ea73c58626f90131400bb5064ea8ee670db7a55939", checked := Try.checked }
namespace Rows
def none {H : Type} : Left H := { results := [], args := [] }

/-- 'laws.FnExactPartsFaults': WHATEVER THE INPUT: true; the input reads as it did. -/
def fnExactPartsFaultsSpec : ChangeSpec := { name := "fnExactPartsFaults", fn := fun _ => fun
  | [d] => { results := [.lit (.bool true)], args := [d] }
  | _ => none }
def fnExactPartsFaultsRow : OpenClaim := { program := "ytpjakgnghpapmaa", sum := "238ab1fb65b5b19a4fbe42ea73c58626f90131400bb5064ea8ee670db7a55939", func := "loop.example/musicengine/laws.FnExactPartsFaults", spec := "fnExactPartsFaults", plainKeys := false, apart := false }
def FnExactPartsFaultsSaid : Prop := fnExactPartsFaultsRow.holds Try.pinned (OpenSpec.ofChange fnExactPartsFaultsSpec)

/-- ITS FALSE NEIGHBOUR: 'it returns false'. Refute it at one input. -/
def fnExactPartsFaultsWrong : ChangeSpec := { name := "fnExactPartsFaults", fn := fun _ => fun
  | [d] => { results := [.lit (.bool false)], args := [d] }
  | _ => none }
def FnExactPartsFaultsWrongFalsely : Prop := fnExactPartsFaultsRow.holds Try.pinned (OpenSpec.ofChange fnExactPartsFaultsWrong)

/-- 'laws.FnPartsFaults': WHATEVER THE INPUT: true; the input reads as it did. -/
def fnPartsFaultsSpec : ChangeSpec := { name := "fnPartsFaults", fn := fun _ => fun
  | [d] => { results := [.lit (.bool true)], args := [d] }
  | _ => none }
def fnPartsFaultsRow : OpenClaim := { program := "ytpjakgnghpapmaa", sum := "238ab1fb65b5b19a4fbe42ea73c58626f90131400bb5064ea8ee670db7a55939", func := "loop.example/musicengine/laws.FnPartsFaults", spec := "fnPartsFaults", plainKeys := false, apart := false }
def FnPartsFaultsSaid : Prop := fnPartsFaultsRow.holds Try.pinned (OpenSpec.ofChange fnPartsFaultsSpec)

/-- ITS FALSE NEIGHBOUR: 'it returns false'. Refute it at one input. -/
def fnPartsFaultsWrong : ChangeSpec := { name := "fnPartsFaults", fn := fun _ => fun
  | [d] => { results := [.lit (.bool false)], args := [d] }
  | _ => none }
def FnPartsFaultsWrongFalsely : Prop := fnPartsFaultsRow.holds Try.pinned (OpenSpec.ofChange fnPartsFaultsWrong)

/-- 'laws.FnExactRealizeFault': WHATEVER THE INPUT: true; the input reads as it did. -/
def fnExactRealizeFaultSpec : ChangeSpec := { name := "fnExactRealizeFault", fn := fun _ => fun
  | [d1, d2, d3, d4] => { results := [.lit (.bool true)], args := [d1, d2, d3, d4] }
  | _ => none }
def fnExactRealizeFaultRow : OpenClaim := { program := "ytpjakgnghpapmaa", sum := "238ab1fb65b5b19a4fbe42ea73c58626f90131400bb5064ea8ee670db7a55939", func := "loop.example/musicengine/laws.FnExactRealizeFault", spec := "fnExactRealizeFault", plainKeys := false, apart := false }
def FnExactRealizeFaultSaid : Prop := fnExactRealizeFaultRow.holds Try.pinned (OpenSpec.ofChange fnExactRealizeFaultSpec)

/-- ITS FALSE NEIGHBOUR: 'it returns false'. Refute it at one input. -/
def fnExactRealizeFaultWrong : ChangeSpec := { name := "fnExactRealizeFault", fn := fun _ => fun
  | [d1, d2, d3, d4] => { results := [.lit (.bool false)], args := [d1, d2, d3, d4] }
  | _ => none }
def FnExactRealizeFaultWrongFalsely : Prop := fnExactRealizeFaultRow.holds Try.pinned (OpenSpec.ofChange fnExactRealizeFaultWrong)

/-- 'laws.FnRealizeFault': WHATEVER THE INPUT: true; the input reads as it did. -/
def fnRealizeFaultSpec : ChangeSpec := { name := "fnRealizeFault", fn := fun _ => fun
  | [d] => { results := [.lit (.bool true)], args := [d] }
  | _ => none }
def fnRealizeFaultRow : OpenClaim := { program := "ytpjakgnghpapmaa", sum := "238ab1fb65b5b19a4fbe42ea73c58626f90131400bb5064ea8ee670db7a55939", func := "loop.example/musicengine/laws.FnRealizeFault", spec := "fnRealizeFault", plainKeys := false, apart := false }
def FnRealizeFaultSaid : Prop := fnRealizeFaultRow.holds Try.pinned (OpenSpec.ofChange fnRealizeFaultSpec)

/-- ITS FALSE NEIGHBOUR: 'it returns false'. Refute it at one input. -/
def fnRealizeFaultWrong : ChangeSpec := { name := "fnRealizeFault", fn := fun _ => fun
  | [d] => { results := [.lit (.bool false)], args := [d] }
  | _ => none }
def FnRealizeFaultWrongFalsely : Prop := fnRealizeFaultRow.holds Try.pinned (OpenSpec.ofChange fnRealizeFaultWrong)

/-- 'laws.FnExactRealizeBass': WHATEVER THE INPUT: true; the input reads as it did. -/
def fnExactRealizeBassSpec : ChangeSpec := { name := "fnExactRealizeBass", fn := fun _ => fun
  | [d1, d2, d3] => { results := [.lit (.bool true)], args := [d1, d2, d3] }
  | _ => none }
def fnExactRealizeBassRow : OpenClaim := { program := "ytpjakgnghpapmaa", sum := "238ab1fb65b5b19a4fbe42ea73c58626f90131400bb5064ea8ee670db7a55939", func := "loop.example/musicengine/laws.FnExactRealizeBass", spec := "fnExactRealizeBass", inPlace := ["internal/reflectlite.ValueOf", "internal/reflectlite.Swapper", "(internal/reflectlite.Value).Len"], unfollowed := true, recurses := true, plainKeys := false, apart := false }
def FnExactRealizeBassSaid : Prop := fnExactRealizeBassRow.holds Try.pinned (OpenSpec.ofChange fnExactRealizeBassSpec)

/-- ITS FALSE NEIGHBOUR: 'it returns false'. Refute it at one input. -/
def fnExactRealizeBassWrong : ChangeSpec := { name := "fnExactRealizeBass", fn := fun _ => fun
  | [d1, d2, d3] => { results := [.lit (.bool false)], args := [d1, d2, d3] }
  | _ => none }
def FnExactRealizeBassWrongFalsely : Prop := fnExactRealizeBassRow.holds Try.pinned (OpenSpec.ofChange fnExactRealizeBassWrong)

/-- 'laws.FnRealizeBass': WHATEVER THE INPUT: true; the input reads as it did. -/
def fnRealizeBassSpec : ChangeSpec := { name := "fnRealizeBass", fn := fun _ => fun
  | [d] => { results := [.lit (.bool true)], args := [d] }
  | _ => none }
def fnRealizeBassRow : OpenClaim := { program := "ytpjakgnghpapmaa", sum := "238ab1fb65b5b19a4fbe42ea73c58626f90131400bb5064ea8ee670db7a55939", func := "loop.example/musicengine/laws.FnRealizeBass", spec := "fnRealizeBass", inPlace := ["internal/reflectlite.ValueOf", "internal/reflectlite.Swapper", "(internal/reflectlite.Value).Len"], unfollowed := true, recurses := true, plainKeys := false, apart := false }
def FnRealizeBassSaid : Prop := fnRealizeBassRow.holds Try.pinned (OpenSpec.ofChange fnRealizeBassSpec)

/-- ITS FALSE NEIGHBOUR: 'it returns false'. Refute it at one input. -/
def fnRealizeBassWrong : ChangeSpec := { name := "fnRealizeBass", fn := fun _ => fun
  | [d] => { results := [.lit (.bool false)], args := [d] }
  | _ => none }
def FnRealizeBassWrongFalsely : Prop := fnRealizeBassRow.holds Try.pinned (OpenSpec.ofChange fnRealizeBassWrong)

/-- 'laws.FnBassFirst': WHATEVER THE INPUT: true; the input reads as it did. -/
def fnBassFirstSpec : ChangeSpec := { name := "fnBassFirst", fn := fun _ => fun
  | [d] => { results := [.lit (.bool true)], args := [d] }
  | _ => none }
def fnBassFirstRow : OpenClaim := { program := "ytpjakgnghpapmaa", sum := "238ab1fb65b5b19a4fbe42ea73c58626f90131400bb5064ea8ee670db7a55939", func := "loop.example/musicengine/laws.FnBassFirst", spec := "fnBassFirst", inPlace := ["internal/reflectlite.ValueOf", "internal/reflectlite.Swapper", "(internal/reflectlite.Value).Len"], unfollowed := true, recurses := true, plainKeys := false, apart := false }
def FnBassFirstSaid : Prop := fnBassFirstRow.holds Try.pinned (OpenSpec.ofChange fnBassFirstSpec)

/-- ITS FALSE NEIGHBOUR: 'it returns false'. Refute it at one input. -/
def fnBassFirstWrong : ChangeSpec := { name := "fnBassFirst", fn := fun _ => fun
  | [d] => { results := [.lit (.bool false)], args := [d] }
  | _ => none }
def FnBassFirstWrongFalsely : Prop := fnBassFirstRow.holds Try.pinned (OpenSpec.ofChange fnBassFirstWrong)

/- THE SECOND FORM. 'bulk': how many values and letters a reading holds, each counted each time it is reached (what is shared counts as often as it is met; a slice's spare places count too). A statement '..UptoSaid' is the law's where the arguments, and the package variables that the reading takes, are together of bulk at most 1048576: NARROWER than '..Said'. Prove '..Said' where nothing that the law and all that it calls make is longer than what came in: it says more and counts as full. Else prove '..UptoSaid'. A law counts once. -/
mutual
def uptoBulk {H : Type} : DataW H → Nat
  | .lit (.string bytes) => bytes.length + 1
  | .lit _ => 1
  | .nil => 1
  | .ptr d => uptoBulk d + 1
  | .slice elems spare => uptoBulkAll elems + uptoBulkAll spare + 1
  | .agg parts => uptoBulkAll parts + 1
  | .iface _ d => uptoBulk d + 1
  | .map entries => uptoBulkEntries entries + 1
  | .held _ => 1
def uptoBulkAll {H : Type} : List (DataW H) → Nat
  | [] => 0
  | d :: r => uptoBulk d + uptoBulkAll r
def uptoBulkEntries {H : Type} : List (Lit × DataW H) → Nat
  | [] => 0
  | x :: r => uptoBulkEntry x + uptoBulkEntries r
def uptoBulkEntry {H : Type} : Lit × DataW H → Nat
  | (.string bytes, d) => bytes.length + uptoBulk d + 1
  | (_, d) => uptoBulk d + 1
 end
def uptoSmall : (H : Type) → List (DataW H) → Bool := fun _ ds => decide (uptoBulkAll ds ≤ 1048576)
def OpenSpec.upto (s : _root_.Go.ChangeSpec) : _root_.Go.OpenSpec := { _root_.Go.OpenSpec.ofChange s with cond := some uptoSmall }

/-- 'laws.FnExactPartsFaults', WHERE WHAT IT READS IS OF BULK AT MOST 1048576: true; the input reads as it did. -/
def fnExactPartsFaultsUptoRow : OpenClaim := { program := "ytpjakgnghpapmaa", sum := "238ab1fb65b5b19a4fbe42ea73c58626f90131400bb5064ea8ee670db7a55939", func := "loop.example/musicengine/laws.FnExactPartsFaults", spec := "fnExactPartsFaults", plainKeys := false, apart := false, narrowed := true }
def FnExactPartsFaultsUptoSaid : Prop := fnExactPartsFaultsUptoRow.holds Try.pinned (OpenSpec.upto fnExactPartsFaultsSpec)

/-- 'laws.FnPartsFaults', WHERE WHAT IT READS IS OF BULK AT MOST 1048576: true; the input reads as it did. -/
def fnPartsFaultsUptoRow : OpenClaim := { program := "ytpjakgnghpapmaa", sum := "238ab1fb65b5b19a4fbe42ea73c58626f90131400bb5064ea8ee670db7a55939", func := "loop.example/musicengine/laws.FnPartsFaults", spec := "fnPartsFaults", plainKeys := false, apart := false, narrowed := true }
def FnPartsFaultsUptoSaid : Prop := fnPartsFaultsUptoRow.holds Try.pinned (OpenSpec.upto fnPartsFaultsSpec)

/-- 'laws.FnExactRealizeFault', WHERE WHAT IT READS IS OF BULK AT MOST 1048576: true; the input reads as it did. -/
def fnExactRealizeFaultUptoRow : OpenClaim := { program := "ytpjakgnghpapmaa", sum := "238ab1fb65b5b19a4fbe42ea73c58626f90131400bb5064ea8ee670db7a55939", func := "loop.example/musicengine/laws.FnExactRealizeFault", spec := "fnExactRealizeFault", plainKeys := false, apart := false, narrowed := true }
def FnExactRealizeFaultUptoSaid : Prop := fnExactRealizeFaultUptoRow.holds Try.pinned (OpenSpec.upto fnExactRealizeFaultSpec)

/-- 'laws.FnRealizeFault', WHERE WHAT IT READS IS OF BULK AT MOST 1048576: true; the input reads as it did. -/
def fnRealizeFaultUptoRow : OpenClaim := { program := "ytpjakgnghpapmaa", sum := "238ab1fb65b5b19a4fbe42ea73c58626f90131400bb5064ea8ee670db7a55939", func := "loop.example/musicengine/laws.FnRealizeFault", spec := "fnRealizeFault", plainKeys := false, apart := false, narrowed := true }
def FnRealizeFaultUptoSaid : Prop := fnRealizeFaultUptoRow.holds Try.pinned (OpenSpec.upto fnRealizeFaultSpec)

/-- 'laws.FnExactRealizeBass', WHERE WHAT IT READS IS OF BULK AT MOST 1048576: true; the input reads as it did. -/
def fnExactRealizeBassUptoRow : OpenClaim := { program := "ytpjakgnghpapmaa", sum := "238ab1fb65b5b19a4fbe42ea73c58626f90131400bb5064ea8ee670db7a55939", func := "loop.example/musicengine/laws.FnExactRealizeBass", spec := "fnExactRealizeBass", inPlace := ["internal/reflectlite.ValueOf", "internal/reflectlite.Swapper", "(internal/reflectlite.Value).Len"], unfollowed := true, recurses := true, plainKeys := false, apart := false, narrowed := true }
def FnExactRealizeBassUptoSaid : Prop := fnExactRealizeBassUptoRow.holds Try.pinned (OpenSpec.upto fnExactRealizeBassSpec)

/-- 'laws.FnRealizeBass', WHERE WHAT IT READS IS OF BULK AT MOST 1048576: true; the input reads as it did. -/
def fnRealizeBassUptoRow : OpenClaim := { program := "ytpjakgnghpapmaa", sum := "238ab1fb65b5b19a4fbe42ea73c58626f90131400bb5064ea8ee670db7a55939", func := "loop.example/musicengine/laws.FnRealizeBass", spec := "fnRealizeBass", inPlace := ["internal/reflectlite.ValueOf", "internal/reflectlite.Swapper", "(internal/reflectlite.Value).Len"], unfollowed := true, recurses := true, plainKeys := false, apart := false, narrowed := true }
def FnRealizeBassUptoSaid : Prop := fnRealizeBassUptoRow.holds Try.pinned (OpenSpec.upto fnRealizeBassSpec)

/-- 'laws.FnBassFirst', WHERE WHAT IT READS IS OF BULK AT MOST 1048576: true; the input reads as it did. -/
def fnBassFirstUptoRow : OpenClaim := { program := "ytpjakgnghpapmaa", sum := "238ab1fb65b5b19a4fbe42ea73c58626f90131400bb5064ea8ee670db7a55939", func := "loop.example/musicengine/laws.FnBassFirst", spec := "fnBassFirst", inPlace := ["internal/reflectlite.ValueOf", "internal/reflectlite.Swapper", "(internal/reflectlite.Value).Len"], unfollowed := true, recurses := true, plainKeys := false, apart := false, narrowed := true }
def FnBassFirstUptoSaid : Prop := fnBassFirstUptoRow.holds Try.pinned (OpenSpec.upto fnBassFirstSpec)

end Rows
end Go.Proofs.Ytpjakgnghpapmaa
