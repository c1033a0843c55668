/-
  No cell of these rows narrows 'for every input' (looked for: loops, veiled, ifaces, maps, wideKeys, modest, calm, conditions, laid).
  DERIVED. THE GIVEN ROWS OF THIS SEAT. 11 by the template 'for every input the law returns true; each argument reads behind the call as it read before'; 0 by the template 'total and deterministic' (their statements: YtkchlgmlfihkdaaTotals.lean).
  GIVEN WITH THE SEED: the statements are not yours to turn. If you find one false, say at which input.
  Laid BY PROGRAM, IN A SANDBOX (cutbox-rows.mjs): the forced cells as the released guide's own fill.sh prints them over the translation 4635b3e5ad4d1a99… (all of the seat's roots in one cut). By AI agents, Wed Nov 11 2026. No macro, syntax, notation, axiom, sorry.
-/
import Derived.Test.YtkchlgmlfihkdaaChecked
import GoSem.Claim
import GoSem.ClaimJoined
import GoSem.ClaimMapViews
import Derived.JoinedTies
import Derived.KernelRfl
namespace Go.Proofs.Ytkchlgmlfihkdaa
/- THE CELL 'sum', in the pinned program and in every row, IS THE sha256 OF THE DUMP (.gsa) THAT YtkchlgmlfihkdaaProg.lean LOADS. Nothing in Lean hashes anything: it is a label: what it is worth is what the hold of that sum in a sandbox is worth. -/
noncomputable def Try.pinned : Pinned := { name := "ytkchlgmlfihkdaa", sum := "4635b3e5ad4d1a991481087373f796f1168ebf1967ce8217ac99d071c5a5407a", checked := Try.checked }
namespace Rows
def none {H : Type} : Left H := { results := [], args := [] }

/-- 'laws.FnExactLineFaults': WHATEVER THE INPUT: true; the input reads as it did. -/
def fnExactLineFaultsSpec : ChangeSpec := { name := "fnExactLineFaults", fn := fun _ => fun
  | [d1, d2, d3] => { results := [.lit (.bool true)], args := [d1, d2, d3] }
  | _ => none }
def fnExactLineFaultsRow : OpenClaim := { program := "ytkchlgmlfihkdaa", sum := "4635b3e5ad4d1a991481087373f796f1168ebf1967ce8217ac99d071c5a5407a", func := "loop.example/musicengine/laws.FnExactLineFaults", spec := "fnExactLineFaults", unfollowed := true, recurses := true, apart := false }
def FnExactLineFaultsSaid : Prop := fnExactLineFaultsRow.holds Try.pinned (OpenSpec.ofChange fnExactLineFaultsSpec)

/-- ITS FALSE NEIGHBOUR: 'it returns false'. Refute it at one input. -/
def fnExactLineFaultsWrong : ChangeSpec := { name := "fnExactLineFaults", fn := fun _ => fun
  | [d1, d2, d3] => { results := [.lit (.bool false)], args := [d1, d2, d3] }
  | _ => none }
def FnExactLineFaultsWrongFalsely : Prop := fnExactLineFaultsRow.holds Try.pinned (OpenSpec.ofChange fnExactLineFaultsWrong)

/-- 'laws.FnExactLineGood': WHATEVER THE INPUT: true; the input reads as it did. -/
def fnExactLineGoodSpec : ChangeSpec := { name := "fnExactLineGood", fn := fun _ => fun
  | [d1, d2, d3] => { results := [.lit (.bool true)], args := [d1, d2, d3] }
  | _ => none }
def fnExactLineGoodRow : OpenClaim := { program := "ytkchlgmlfihkdaa", sum := "4635b3e5ad4d1a991481087373f796f1168ebf1967ce8217ac99d071c5a5407a", func := "loop.example/musicengine/laws.FnExactLineGood", spec := "fnExactLineGood", unfollowed := true, recurses := true, apart := false }
def FnExactLineGoodSaid : Prop := fnExactLineGoodRow.holds Try.pinned (OpenSpec.ofChange fnExactLineGoodSpec)

/-- ITS FALSE NEIGHBOUR: 'it returns false'. Refute it at one input. -/
def fnExactLineGoodWrong : ChangeSpec := { name := "fnExactLineGood", fn := fun _ => fun
  | [d1, d2, d3] => { results := [.lit (.bool false)], args := [d1, d2, d3] }
  | _ => none }
def FnExactLineGoodWrongFalsely : Prop := fnExactLineGoodRow.holds Try.pinned (OpenSpec.ofChange fnExactLineGoodWrong)

/-- 'laws.FnLineFaults': WHATEVER THE INPUT: true; the input reads as it did. -/
def fnLineFaultsSpec : ChangeSpec := { name := "fnLineFaults", fn := fun _ => fun
  | [d] => { results := [.lit (.bool true)], args := [d] }
  | _ => none }
def fnLineFaultsRow : OpenClaim := { program := "ytkchlgmlfihkdaa", sum := "4635b3e5ad4d1a991481087373f796f1168ebf1967ce8217ac99d071c5a5407a", func := "loop.example/musicengine/laws.FnLineFaults", spec := "fnLineFaults", unfollowed := true, recurses := true, apart := false }
def FnLineFaultsSaid : Prop := fnLineFaultsRow.holds Try.pinned (OpenSpec.ofChange fnLineFaultsSpec)

/-- ITS FALSE NEIGHBOUR: 'it returns false'. Refute it at one input. -/
def fnLineFaultsWrong : ChangeSpec := { name := "fnLineFaults", fn := fun _ => fun
  | [d] => { results := [.lit (.bool false)], args := [d] }
  | _ => none }
def FnLineFaultsWrongFalsely : Prop := fnLineFaultsRow.holds Try.pinned (OpenSpec.ofChange fnLineFaultsWrong)

/-- 'laws.FnLineGood': WHATEVER THE INPUT: true; the input reads as it did. -/
def fnLineGoodSpec : ChangeSpec := { name := "fnLineGood", fn := fun _ => fun
  | [d] => { results := [.lit (.bool true)], args := [d] }
  | _ => none }
def fnLineGoodRow : OpenClaim := { program := "ytkchlgmlfihkdaa", sum := "4635b3e5ad4d1a991481087373f796f1168ebf1967ce8217ac99d071c5a5407a", func := "loop.example/musicengine/laws.FnLineGood", spec := "fnLineGood", unfollowed := true, recurses := true, apart := false }
def FnLineGoodSaid : Prop := fnLineGoodRow.holds Try.pinned (OpenSpec.ofChange fnLineGoodSpec)

/-- ITS FALSE NEIGHBOUR: 'it returns false'. Refute it at one input. -/
def fnLineGoodWrong : ChangeSpec := { name := "fnLineGood", fn := fun _ => fun
  | [d] => { results := [.lit (.bool false)], args := [d] }
  | _ => none }
def FnLineGoodWrongFalsely : Prop := fnLineGoodRow.holds Try.pinned (OpenSpec.ofChange fnLineGoodWrong)

/-- 'laws.FnExactCountLines': WHATEVER THE INPUT: true; the input reads as it did. -/
def fnExactCountLinesSpec : ChangeSpec := { name := "fnExactCountLines", fn := fun _ => fun
  | [d1, d2, d3, d4] => { results := [.lit (.bool true)], args := [d1, d2, d3, d4] }
  | _ => none }
def fnExactCountLinesRow : OpenClaim := { program := "ytkchlgmlfihkdaa", sum := "4635b3e5ad4d1a991481087373f796f1168ebf1967ce8217ac99d071c5a5407a", func := "loop.example/musicengine/laws.FnExactCountLines", spec := "fnExactCountLines", unfollowed := true, recurses := true, apart := false }
def FnExactCountLinesSaid : Prop := fnExactCountLinesRow.holds Try.pinned (OpenSpec.ofChange fnExactCountLinesSpec)

/-- ITS FALSE NEIGHBOUR: 'it returns false'. Refute it at one input. -/
def fnExactCountLinesWrong : ChangeSpec := { name := "fnExactCountLines", fn := fun _ => fun
  | [d1, d2, d3, d4] => { results := [.lit (.bool false)], args := [d1, d2, d3, d4] }
  | _ => none }
def FnExactCountLinesWrongFalsely : Prop := fnExactCountLinesRow.holds Try.pinned (OpenSpec.ofChange fnExactCountLinesWrong)

/-- 'laws.FnExactLineNumber': WHATEVER THE INPUT: true; the input reads as it did. -/
def fnExactLineNumberSpec : ChangeSpec := { name := "fnExactLineNumber", fn := fun _ => fun
  | [d1, d2, d3, d4, d5] => { results := [.lit (.bool true)], args := [d1, d2, d3, d4, d5] }
  | _ => none }
def fnExactLineNumberRow : OpenClaim := { program := "ytkchlgmlfihkdaa", sum := "4635b3e5ad4d1a991481087373f796f1168ebf1967ce8217ac99d071c5a5407a", func := "loop.example/musicengine/laws.FnExactLineNumber", spec := "fnExactLineNumber", unfollowed := true, recurses := true, apart := false }
def FnExactLineNumberSaid : Prop := fnExactLineNumberRow.holds Try.pinned (OpenSpec.ofChange fnExactLineNumberSpec)

/-- ITS FALSE NEIGHBOUR: 'it returns false'. Refute it at one input. -/
def fnExactLineNumberWrong : ChangeSpec := { name := "fnExactLineNumber", fn := fun _ => fun
  | [d1, d2, d3, d4, d5] => { results := [.lit (.bool false)], args := [d1, d2, d3, d4, d5] }
  | _ => none }
def FnExactLineNumberWrongFalsely : Prop := fnExactLineNumberRow.holds Try.pinned (OpenSpec.ofChange fnExactLineNumberWrong)

/-- 'laws.FnExactCompleteLine': WHATEVER THE INPUT: true; the input reads as it did. -/
def fnExactCompleteLineSpec : ChangeSpec := { name := "fnExactCompleteLine", fn := fun _ => fun
  | [d1, d2, d3, d4] => { results := [.lit (.bool true)], args := [d1, d2, d3, d4] }
  | _ => none }
def fnExactCompleteLineRow : OpenClaim := { program := "ytkchlgmlfihkdaa", sum := "4635b3e5ad4d1a991481087373f796f1168ebf1967ce8217ac99d071c5a5407a", func := "loop.example/musicengine/laws.FnExactCompleteLine", spec := "fnExactCompleteLine", unfollowed := true, recurses := true, apart := false }
def FnExactCompleteLineSaid : Prop := fnExactCompleteLineRow.holds Try.pinned (OpenSpec.ofChange fnExactCompleteLineSpec)

/-- ITS FALSE NEIGHBOUR: 'it returns false'. Refute it at one input. -/
def fnExactCompleteLineWrong : ChangeSpec := { name := "fnExactCompleteLine", fn := fun _ => fun
  | [d1, d2, d3, d4] => { results := [.lit (.bool false)], args := [d1, d2, d3, d4] }
  | _ => none }
def FnExactCompleteLineWrongFalsely : Prop := fnExactCompleteLineRow.holds Try.pinned (OpenSpec.ofChange fnExactCompleteLineWrong)

/-- 'laws.FnCountLines': WHATEVER THE INPUT: true; the input reads as it did. -/
def fnCountLinesSpec : ChangeSpec := { name := "fnCountLines", fn := fun _ => fun
  | [d] => { results := [.lit (.bool true)], args := [d] }
  | _ => none }
def fnCountLinesRow : OpenClaim := { program := "ytkchlgmlfihkdaa", sum := "4635b3e5ad4d1a991481087373f796f1168ebf1967ce8217ac99d071c5a5407a", func := "loop.example/musicengine/laws.FnCountLines", spec := "fnCountLines", unfollowed := true, recurses := true, apart := false }
def FnCountLinesSaid : Prop := fnCountLinesRow.holds Try.pinned (OpenSpec.ofChange fnCountLinesSpec)

/-- ITS FALSE NEIGHBOUR: 'it returns false'. Refute it at one input. -/
def fnCountLinesWrong : ChangeSpec := { name := "fnCountLines", fn := fun _ => fun
  | [d] => { results := [.lit (.bool false)], args := [d] }
  | _ => none }
def FnCountLinesWrongFalsely : Prop := fnCountLinesRow.holds Try.pinned (OpenSpec.ofChange fnCountLinesWrong)

/-- 'laws.FnLineNumber': WHATEVER THE INPUT: true; the input reads as it did. -/
def fnLineNumberSpec : ChangeSpec := { name := "fnLineNumber", fn := fun _ => fun
  | [d] => { results := [.lit (.bool true)], args := [d] }
  | _ => none }
def fnLineNumberRow : OpenClaim := { program := "ytkchlgmlfihkdaa", sum := "4635b3e5ad4d1a991481087373f796f1168ebf1967ce8217ac99d071c5a5407a", func := "loop.example/musicengine/laws.FnLineNumber", spec := "fnLineNumber", unfollowed := true, recurses := true, apart := false }
def FnLineNumberSaid : Prop := fnLineNumberRow.holds Try.pinned (OpenSpec.ofChange fnLineNumberSpec)

/-- ITS FALSE NEIGHBOUR: 'it returns false'. Refute it at one input. -/
def fnLineNumberWrong : ChangeSpec := { name := "fnLineNumber", fn := fun _ => fun
  | [d] => { results := [.lit (.bool false)], args := [d] }
  | _ => none }
def FnLineNumberWrongFalsely : Prop := fnLineNumberRow.holds Try.pinned (OpenSpec.ofChange fnLineNumberWrong)

/-- 'laws.FnCompleteLine': WHATEVER THE INPUT: true; the input reads as it did. -/
def fnCompleteLineSpec : ChangeSpec := { name := "fnCompleteLine", fn := fun _ => fun
  | [d] => { results := [.lit (.bool true)], args := [d] }
  | _ => none }
def fnCompleteLineRow : OpenClaim := { program := "ytkchlgmlfihkdaa", sum := "4635b3e5ad4d1a991481087373f796f1168ebf1967ce8217ac99d071c5a5407a", func := "loop.example/musicengine/laws.FnCompleteLine", spec := "fnCompleteLine", unfollowed := true, recurses := true, apart := false }
def FnCompleteLineSaid : Prop := fnCompleteLineRow.holds Try.pinned (OpenSpec.ofChange fnCompleteLineSpec)

/-- ITS FALSE NEIGHBOUR: 'it returns false'. Refute it at one input. -/
def fnCompleteLineWrong : ChangeSpec := { name := "fnCompleteLine", fn := fun _ => fun
  | [d] => { results := [.lit (.bool false)], args := [d] }
  | _ => none }
def FnCompleteLineWrongFalsely : Prop := fnCompleteLineRow.holds Try.pinned (OpenSpec.ofChange fnCompleteLineWrong)

/-- 'laws.FnLineBounds': WHATEVER THE INPUT: true; the input reads as it did. -/
def fnLineBoundsSpec : ChangeSpec := { name := "fnLineBounds", fn := fun _ => fun
  | [d] => { results := [.lit (.bool true)], args := [d] }
  | _ => none }
def fnLineBoundsRow : OpenClaim := { program := "ytkchlgmlfihkdaa", sum := "4635b3e5ad4d1a991481087373f796f1168ebf1967ce8217ac99d071c5a5407a", func := "loop.example/musicengine/laws.FnLineBounds", spec := "fnLineBounds", unfollowed := true, recurses := true, apart := false }
def FnLineBoundsSaid : Prop := fnLineBoundsRow.holds Try.pinned (OpenSpec.ofChange fnLineBoundsSpec)

/-- ITS FALSE NEIGHBOUR: 'it returns false'. Refute it at one input. -/
def fnLineBoundsWrong : ChangeSpec := { name := "fnLineBounds", fn := fun _ => fun
  | [d] => { results := [.lit (.bool false)], args := [d] }
  | _ => none }
def FnLineBoundsWrongFalsely : Prop := fnLineBoundsRow.holds Try.pinned (OpenSpec.ofChange fnLineBoundsWrong)

/- THE SECOND FORM. 'bulk': how many values and letters a reading holds, each counted each time it is reached (what is shared counts as often as it is met; a slice's spare places count too). A statement '..UptoSaid' is the law's where the arguments, and the package variables that the reading takes, are together of bulk at most 1048576: NARROWER than '..Said'. Prove '..Said' where nothing that the law and all that it calls make is longer than what came in: it says more and counts as full. Else prove '..UptoSaid'. A law counts once. -/
mutual
def uptoBulk {H : Type} : DataW H → Nat
  | .lit (.string bytes) => bytes.length + 1
  | .lit _ => 1
  | .nil => 1
  | .ptr d => uptoBulk d + 1
  | .slice elems spare => uptoBulkAll elems + uptoBulkAll spare + 1
  | .agg parts => uptoBulkAll parts + 1
  | .iface _ d => uptoBulk d + 1
  | .map entries => uptoBulkEntries entries + 1
  | .held _ => 1
def uptoBulkAll {H : Type} : List (DataW H) → Nat
  | [] => 0
  | d :: r => uptoBulk d + uptoBulkAll r
def uptoBulkEntries {H : Type} : List (Lit × DataW H) → Nat
  | [] => 0
  | x :: r => uptoBulkEntry x + uptoBulkEntries r
def uptoBulkEntry {H : Type} : Lit × DataW H → Nat
  | (.string bytes, d) => bytes.length + uptoBulk d + 1
  | (_, d) => uptoBulk d + 1
 end
def uptoSmall : (H : Type) → List (DataW H) → Bool := fun _ ds => decide (uptoBulkAll ds ≤ 1048576)
def OpenSpec.upto (s : _root_.Go.ChangeSpec) : _root_.Go.OpenSpec := { _root_.Go.OpenSpec.ofChange s with cond := some uptoSmall }

/-- 'laws.FnExactLineFaults', WHERE WHAT IT READS IS OF BULK AT MOST 1048576: true; the input reads as it did. -/
def fnExactLineFaultsUptoRow : OpenClaim := { program := "ytkchlgmlfihkdaa", sum := "4635b3e5ad4d1a991481087373f796f1168ebf1967ce8217ac99d071c5a5407a", func := "loop.example/musicengine/laws.FnExactLineFaults", spec := "fnExactLineFaults", unfollowed := true, recurses := true, apart := false, narrowed := true }
def FnExactLineFaultsUptoSaid : Prop := fnExactLineFaultsUptoRow.holds Try.pinned (OpenSpec.upto fnExactLineFaultsSpec)

/-- 'laws.FnExactLineGood', WHERE WHAT IT READS IS OF BULK AT MOST 1048576: true; the input reads as it did. -/
def fnExactLineGoodUptoRow : OpenClaim := { program := "ytkchlgmlfihkdaa", sum := "4635b3e5ad4d1a991481087373f796f1168ebf1967ce8217ac99d071c5a5407a", func := "loop.example/musicengine/laws.FnExactLineGood", spec := "fnExactLineGood", unfollowed := true, recurses := true, apart := false, narrowed := true }
def FnExactLineGoodUptoSaid : Prop := fnExactLineGoodUptoRow.holds Try.pinned (OpenSpec.upto fnExactLineGoodSpec)

/-- 'laws.FnLineFaults', WHERE WHAT IT READS IS OF BULK AT MOST 1048576: true; the input reads as it did. -/
def fnLineFaultsUptoRow : OpenClaim := { program := "ytkchlgmlfihkdaa", sum := "4635b3e5ad4d1a991481087373f796f1168ebf1967ce8217ac99d071c5a5407a", func := "loop.example/musicengine/laws.FnLineFaults", spec := "fnLineFaults", unfollowed := true, recurses := true, apart := false, narrowed := true }
def FnLineFaultsUptoSaid : Prop := fnLineFaultsUptoRow.holds Try.pinned (OpenSpec.upto fnLineFaultsSpec)

/-- 'laws.FnLineGood', WHERE WHAT IT READS IS OF BULK AT MOST 1048576: true; the input reads as it did. -/
def fnLineGoodUptoRow : OpenClaim := { program := "ytkchlgmlfihkdaa", sum := "4635b3e5ad4d1a991481087373f796f1168ebf1967ce8217ac99d071c5a5407a", func := "loop.example/musicengine/laws.FnLineGood", spec := "fnLineGood", unfollowed := true, recurses := true, apart := false, narrowed := true }
def FnLineGoodUptoSaid : Prop := fnLineGoodUptoRow.holds Try.pinned (OpenSpec.upto fnLineGoodSpec)

/-- 'laws.FnExactCountLines', WHERE WHAT IT READS IS OF BULK AT MOST 1048576: true; the input reads as it did. -/
def fnExactCountLinesUptoRow : OpenClaim := { program := "ytkchlgmlfihkdaa", sum := "4635b3e5ad4d1a991481087373f796f1168ebf1967ce8217ac99d071c5a5407a", func := "loop.example/musicengine/laws.FnExactCountLines", spec := "fnExactCountLines", unfollowed := true, recurses := true, apart := false, narrowed := true }
def FnExactCountLinesUptoSaid : Prop := fnExactCountLinesUptoRow.holds Try.pinned (OpenSpec.upto fnExactCountLinesSpec)

/-- 'laws.FnExactLineNumber', WHERE WHAT IT READS IS OF BULK AT MOST 1048576: true; the input reads as it did. -/
def fnExactLineNumberUptoRow : OpenClaim := { program := "ytkchlgmlfihkdaa", sum := "4635b3e5ad4d1a991481087373f796f1168ebf1967ce8217ac99d071c5a5407a", func := "loop.example/musicengine/laws.FnExactLineNumber", spec := "fnExactLineNumber", unfollowed := true, recurses := true, apart := false, narrowed := true }
def FnExactLineNumberUptoSaid : Prop := fnExactLineNumberUptoRow.holds Try.pinned (OpenSpec.upto fnExactLineNumberSpec)

/-- 'laws.FnExactCompleteLine', WHERE WHAT IT READS IS OF BULK AT MOST 1048576: true; the input reads as it did. -/
def fnExactCompleteLineUptoRow : OpenClaim := { program := "ytkchlgmlfihkdaa", sum := "4635b3e5ad4d1a991481087373f796f1168ebf1967ce8217ac99d071c5a5407a", func := "loop.example/musicengine/laws.FnExactCompleteLine", spec := "fnExactCompleteLine", unfollowed := true, recurses := true, apart := false, narrowed := true }
def FnExactCompleteLineUptoSaid : Prop := fnExactCompleteLineUptoRow.holds Try.pinned (OpenSpec.upto fnExactCompleteLineSpec)

/-- 'laws.FnCountLines', WHERE WHAT IT READS IS OF BULK AT MOST 1048576: true; the input reads as it did. -/
def fnCountLinesUptoRow : OpenClaim := { program := "ytkchlgmlfihkdaa", sum := "4635b3e5ad4d1a991481087373f796f1168ebf1967ce8217ac99d071c5a5407a", func := "loop.example/musicengine/laws.FnCountLines", spec := "fnCountLines", unfollowed := true, recurses := true, apart := false, narrowed := true }
def FnCountLinesUptoSaid : Prop := fnCountLinesUptoRow.holds Try.pinned (OpenSpec.upto fnCountLinesSpec)

/-- 'laws.FnLineNumber', WHERE WHAT IT READS IS OF BULK AT MOST 1048576: true; the input reads as it did. -/
def fnLineNumberUptoRow : OpenClaim := { program := "ytkchlgmlfihkdaa", sum := "4635b3e5ad4d1a991481087373f796f1168ebf1967ce8217ac99d071c5a5407a", func := "loop.example/musicengine/laws.FnLineNumber", spec := "fnLineNumber", unfollowed := true, recurses := true, apart := false, narrowed := true }
def FnLineNumberUptoSaid : Prop := fnLineNumberUptoRow.holds Try.pinned (OpenSpec.upto fnLineNumberSpec)

/-- 'laws.FnCompleteLine', WHERE WHAT IT READS IS OF BULK AT MOST 1048576: true; the input reads as it did. -/
def fnCompleteLineUptoRow : OpenClaim := { program := "ytkchlgmlfihkdaa", sum := "4635b3e5ad4d1a991481087373f796f1168ebf1967ce8217ac99d071c5a5407a", func := "loop.example/musicengine/laws.FnCompleteLine", spec := "fnCompleteLine", unfollowed := true, recurses := true, apart := false, narrowed := true }
def FnCompleteLineUptoSaid : Prop := fnCompleteLineUptoRow.holds Try.pinned (OpenSpec.upto fnCompleteLineSpec)

/-- 'laws.FnLineBounds', WHERE WHAT IT READS IS OF BULK AT MOST 1048576: true; the input reads as it did. -/
def fnLineBoundsUptoRow : OpenClaim := { program := "ytkchlgmlfihkdaa", sum := "4635b3e5ad4d1a991481087373f796f1168ebf1967ce8217ac99d071c5a5407a", func := "loop.example/musicengine/laws.FnLineBounds", spec := "fnLineBounds", unfollowed := true, recurses := true, apart := false, narrowed := true }
def FnLineBoundsUptoSaid : Prop := fnLineBoundsUptoRow.holds Try.pinned (OpenSpec.upto fnLineBoundsSpec)

end Rows
end Go.Proofs.Ytkchlgmlfihkdaa
