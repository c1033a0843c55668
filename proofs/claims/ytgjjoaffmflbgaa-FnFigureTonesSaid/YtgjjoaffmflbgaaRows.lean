/-
  No cell of these rows narrows 'for every input' (looked for: loops, veiled, ifaces, maps, wideKeys, modest, calm, conditions, laid).
  DERIVED. THE GIVEN ROWS OF THIS SEAT. 4 by the template 'for every input the law returns true; each argument reads behind the call as it read before'; 0 by the template 'total and deterministic' (their statements: YtgjjoaffmflbgaaTotals.lean).
  GIVEN WITH THE SEED: the statements are not yours to turn. If you find one false, say at which input.
  Laid BY PROGRAM, IN A SANDBOX (cutbox-rows.mjs): the forced cells as the released guide's own fill.sh prints them over the translation ad926e3b45a9210f… (all of the seat's roots in one cut). By AI agents, Wed Nov 11 2026. No macro, syntax, notation, axiom, sorry.
-/
import Derived.Test.YtgjjoaffmflbgaaChecked
import GoSem.Claim
import GoSem.ClaimJoined
import GoSem.ClaimMapViews
import Derived.JoinedTies
import Derived.KernelRfl
namespace Go.Proofs.Ytgjjoaffmflbgaa
/- THE CELL 'sum', in the pinned program and in every row, IS THE sha256 OF THE DUMP (.gsa) THAT YtgjjoaffmflbgaaProg.lean LOADS. Nothing in Lean hashes anything: it is a label: what it is worth is what the hold of that sum in a sandbox is worth. -/
noncomputable def Try.pinned : Pinned := { name := "ytgjjoaffmflbgaa", sum := "ad926e3b45a9210f2c6ed4c11d68c4bcd635359c9ba952b4d3f8ff472d7afea0", checked := Try.checked }
namespace Rows
def none {H : Type} : Left H := { results := [], args := [] }

/-- 'laws.FnExactFigureTones': WHATEVER THE INPUT: true; the input reads as it did. -/
def fnExactFigureTonesSpec : ChangeSpec := { name := "fnExactFigureTones", fn := fun _ => fun
  | [d1, d2, d3] => { results := [.lit (.bool true)], args := [d1, d2, d3] }
  | _ => none }
def fnExactFigureTonesRow : OpenClaim := { program := "ytgjjoaffmflbgaa", sum := "ad926e3b45a9210f2c6ed4c11d68c4bcd635359c9ba952b4d3f8ff472d7afea0", func := "loop.example/musicengine/laws.FnExactFigureTones", spec := "fnExactFigureTones", apart := false }
def FnExactFigureTonesSaid : Prop := fnExactFigureTonesRow.holds Try.pinned (OpenSpec.ofChange fnExactFigureTonesSpec)

/-- ITS FALSE NEIGHBOUR: 'it returns false'. Refute it at one input. -/
def fnExactFigureTonesWrong : ChangeSpec := { name := "fnExactFigureTones", fn := fun _ => fun
  | [d1, d2, d3] => { results := [.lit (.bool false)], args := [d1, d2, d3] }
  | _ => none }
def FnExactFigureTonesWrongFalsely : Prop := fnExactFigureTonesRow.holds Try.pinned (OpenSpec.ofChange fnExactFigureTonesWrong)

/-- 'laws.FnFigureTones': WHATEVER THE INPUT: true; the input reads as it did. -/
def fnFigureTonesSpec : ChangeSpec := { name := "fnFigureTones", fn := fun _ => fun
  | [d] => { results := [.lit (.bool true)], args := [d] }
  | _ => none }
def fnFigureTonesRow : OpenClaim := { program := "ytgjjoaffmflbgaa", sum := "ad926e3b45a9210f2c6ed4c11d68c4bcd635359c9ba952b4d3f8ff472d7afea0", func := "loop.example/musicengine/laws.FnFigureTones", spec := "fnFigureTones", apart := false }
def FnFigureTonesSaid : Prop := fnFigureTonesRow.holds Try.pinned (OpenSpec.ofChange fnFigureTonesSpec)

/-- ITS FALSE NEIGHBOUR: 'it returns false'. Refute it at one input. -/
def fnFigureTonesWrong : ChangeSpec := { name := "fnFigureTones", fn := fun _ => fun
  | [d] => { results := [.lit (.bool false)], args := [d] }
  | _ => none }
def FnFigureTonesWrongFalsely : Prop := fnFigureTonesRow.holds Try.pinned (OpenSpec.ofChange fnFigureTonesWrong)

/-- 'laws.FnRatioTimes': WHATEVER THE INPUT: true; the input reads as it did. -/
def fnRatioTimesSpec : ChangeSpec := { name := "fnRatioTimes", fn := fun _ => fun
  | [d] => { results := [.lit (.bool true)], args := [d] }
  | _ => none }
def fnRatioTimesRow : OpenClaim := { program := "ytgjjoaffmflbgaa", sum := "ad926e3b45a9210f2c6ed4c11d68c4bcd635359c9ba952b4d3f8ff472d7afea0", func := "loop.example/musicengine/laws.FnRatioTimes", spec := "fnRatioTimes", apart := false }
def FnRatioTimesSaid : Prop := fnRatioTimesRow.holds Try.pinned (OpenSpec.ofChange fnRatioTimesSpec)

/-- ITS FALSE NEIGHBOUR: 'it returns false'. Refute it at one input. -/
def fnRatioTimesWrong : ChangeSpec := { name := "fnRatioTimes", fn := fun _ => fun
  | [d] => { results := [.lit (.bool false)], args := [d] }
  | _ => none }
def FnRatioTimesWrongFalsely : Prop := fnRatioTimesRow.holds Try.pinned (OpenSpec.ofChange fnRatioTimesWrong)

/-- 'laws.FnEventsValid': WHATEVER THE INPUT: true; the input reads as it did. -/
def fnEventsValidSpec : ChangeSpec := { name := "fnEventsValid", fn := fun _ => fun
  | [d] => { results := [.lit (.bool true)], args := [d] }
  | _ => none }
def fnEventsValidRow : OpenClaim := { program := "ytgjjoaffmflbgaa", sum := "ad926e3b45a9210f2c6ed4c11d68c4bcd635359c9ba952b4d3f8ff472d7afea0", func := "loop.example/musicengine/laws.FnEventsValid", spec := "fnEventsValid", apart := false }
def FnEventsValidSaid : Prop := fnEventsValidRow.holds Try.pinned (OpenSpec.ofChange fnEventsValidSpec)

/-- ITS FALSE NEIGHBOUR: 'it returns false'. Refute it at one input. -/
def fnEventsValidWrong : ChangeSpec := { name := "fnEventsValid", fn := fun _ => fun
  | [d] => { results := [.lit (.bool false)], args := [d] }
  | _ => none }
def FnEventsValidWrongFalsely : Prop := fnEventsValidRow.holds Try.pinned (OpenSpec.ofChange fnEventsValidWrong)

/- THE SECOND FORM. 'bulk': how many values and letters a reading holds, each counted each time it is reached (what is shared counts as often as it is met; a slice's spare places count too). A statement '..UptoSaid' is the law's where the arguments, and the package variables that the reading takes, are together of bulk at most 1048576: NARROWER than '..Said'. Prove '..Said' where nothing that the law and all that it calls make is longer than what came in: it says more and counts as full. Else prove '..UptoSaid'. A law counts once. -/
mutual
def uptoBulk {H : Type} : DataW H → Nat
  | .lit (.string bytes) => bytes.length + 1
  | .lit _ => 1
  | .nil => 1
  | .ptr d => uptoBulk d + 1
  | .slice elems spare => uptoBulkAll elems + uptoBulkAll spare + 1
  | .agg parts => uptoBulkAll parts + 1
  | .iface _ d => uptoBulk d + 1
  | .map entries => uptoBulkEntries entries + 1
  | .held _ => 1
def uptoBulkAll {H : Type} : List (DataW H) → Nat
  | [] => 0
  | d :: r => uptoBulk d + uptoBulkAll r
def uptoBulkEntries {H : Type} : List (Lit × DataW H) → Nat
  | [] => 0
  | x :: r => uptoBulkEntry x + uptoBulkEntries r
def uptoBulkEntry {H : Type} : Lit × DataW H → Nat
  | (.string bytes, d) => bytes.length + uptoBulk d + 1
  | (_, d) => uptoBulk d + 1
 end
def uptoSmall : (H : Type) → List (DataW H) → Bool := fun _ ds => decide (uptoBulkAll ds ≤ 1048576)
def OpenSpec.upto (s : _root_.Go.ChangeSpec) : _root_.Go.OpenSpec := { _root_.Go.OpenSpec.ofChange s with cond := some uptoSmall }

/-- 'laws.FnExactFigureTones', WHERE WHAT IT READS IS OF BULK AT MOST 1048576: true; the input reads as it did. -/
def fnExactFigureTonesUptoRow : OpenClaim := { program := "ytgjjoaffmflbgaa", sum := "ad926e3b45a9210f2c6ed4c11d68c4bcd635359c9ba952b4d3f8ff472d7afea0", func := "loop.example/musicengine/laws.FnExactFigureTones", spec := "fnExactFigureTones", apart := false, narrowed := true }
def FnExactFigureTonesUptoSaid : Prop := fnExactFigureTonesUptoRow.holds Try.pinned (OpenSpec.upto fnExactFigureTonesSpec)

/-- 'laws.FnFigureTones', WHERE WHAT IT READS IS OF BULK AT MOST 1048576: true; the input reads as it did. -/
def fnFigureTonesUptoRow : OpenClaim := { program := "ytgjjoaffmflbgaa", sum := "ad926e3b45a9210f2c6ed4c11d68c4bcd635359c9ba952b4d3f8ff472d7afea0", func := "loop.example/musicengine/laws.FnFigureTones", spec := "fnFigureTones", apart := false, narrowed := true }
def FnFigureTonesUptoSaid : Prop := fnFigureTonesUptoRow.holds Try.pinned (OpenSpec.upto fnFigureTonesSpec)

/-- 'laws.FnRatioTimes', WHERE WHAT IT READS IS OF BULK AT MOST 1048576: true; the input reads as it did. -/
def fnRatioTimesUptoRow : OpenClaim := { program := "ytgjjoaffmflbgaa", sum := "ad926e3b45a9210f2c6ed4c11d68c4bcd635359c9ba952b4d3f8ff472d7afea0", func := "loop.example/musicengine/laws.FnRatioTimes", spec := "fnRatioTimes", apart := false, narrowed := true }
def FnRatioTimesUptoSaid : Prop := fnRatioTimesUptoRow.holds Try.pinned (OpenSpec.upto fnRatioTimesSpec)

/-- 'laws.FnEventsValid', WHERE WHAT IT READS IS OF BULK AT MOST 1048576: true; the input reads as it did. -/
def fnEventsValidUptoRow : OpenClaim := { program := "ytgjjoaffmflbgaa", sum := "ad926e3b45a9210f2c6ed4c11d68c4bcd635359c9ba952b4d3f8ff472d7afea0", func := "loop.example/musicengine/laws.FnEventsValid", spec := "fnEventsValid", apart := false, narrowed := true }
def FnEventsValidUptoSaid : Prop := fnEventsValidUptoRow.holds Try.pinned (OpenSpec.upto fnEventsValidSpec)

end Rows
end Go.Proofs.Ytgjjoaffmflbgaa
