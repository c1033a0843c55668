/-
  No cell of these rows narrows 'for every input' (looked for: loops, veiled, ifaces, maps, wideKeys, modest, calm, conditions, laid).
  DERIVED. THE GIVEN ROWS OF THIS SEAT. 13 by the template 'for every input the law returns true; each argument reads behind the call as it read before'; 0 by the template 'total and deterministic' (their statements: YtclbgndpdbfedaaTotals.lean).
  GIVEN WITH THE SEED: the statements are not yours to turn. If you find one false, say at which input.
  Laid BY PROGRAM, IN A SANDBOX (cutbox-rows.mjs): the forced cells as the released guide's own fill.sh prints them over the translation cef77a92d8de8153… (all of the seat's roots in one cut). By AI agents, Wed Nov 11 2026. No macro, syntax, notation, axiom, sorry.
-/
import Derived.Test.YtclbgndpdbfedaaChecked
import GoSem.Claim
import GoSem.ClaimJoined
import GoSem.ClaimMapViews
import Derived.JoinedTies
import Derived.KernelRfl
namespace Go.Proofs.Ytclbgndpdbfedaa
/- THE CELL 'sum', in the pinned program and in every row, IS THE sha256 OF THE DUMP (.gsa) THAT YtclbgndpdbfedaaProg.lean LOADS. Nothing in Lean hashes anything: it is a label: what it is worth is what the hold of that sum in a sandbox is worth. -/
noncomputable def Try.pinned : Pinned := { name := "ytclbgndpdbfedaa", sum := "cef77a92d8de8153205c648b19ff0d27d459fb870d498c752f0bbf73a356a2db", checked := Try.checked }
namespace Rows
def none {H : Type} : Left H := { results := [], args := [] }

/-- 'laws.FnExactRatioValid': WHATEVER THE INPUT: true; the input reads as it did. -/
def fnExactRatioValidSpec : ChangeSpec := { name := "fnExactRatioValid", fn := fun _ => fun
  | [d] => { results := [.lit (.bool true)], args := [d] }
  | _ => none }
def fnExactRatioValidRow : OpenClaim := { program := "ytclbgndpdbfedaa", sum := "cef77a92d8de8153205c648b19ff0d27d459fb870d498c752f0bbf73a356a2db", func := "loop.example/musicengine/laws.FnExactRatioValid", spec := "fnExactRatioValid", apart := false }
def FnExactRatioValidSaid : Prop := fnExactRatioValidRow.holds Try.pinned (OpenSpec.ofChange fnExactRatioValidSpec)

/-- ITS FALSE NEIGHBOUR: 'it returns false'. Refute it at one input. -/
def fnExactRatioValidWrong : ChangeSpec := { name := "fnExactRatioValid", fn := fun _ => fun
  | [d] => { results := [.lit (.bool false)], args := [d] }
  | _ => none }
def FnExactRatioValidWrongFalsely : Prop := fnExactRatioValidRow.holds Try.pinned (OpenSpec.ofChange fnExactRatioValidWrong)

/-- 'laws.FnExactRatioLess': WHATEVER THE INPUT: true; the input reads as it did. -/
def fnExactRatioLessSpec : ChangeSpec := { name := "fnExactRatioLess", fn := fun _ => fun
  | [d1, d2] => { results := [.lit (.bool true)], args := [d1, d2] }
  | _ => none }
def fnExactRatioLessRow : OpenClaim := { program := "ytclbgndpdbfedaa", sum := "cef77a92d8de8153205c648b19ff0d27d459fb870d498c752f0bbf73a356a2db", func := "loop.example/musicengine/laws.FnExactRatioLess", spec := "fnExactRatioLess", apart := false }
def FnExactRatioLessSaid : Prop := fnExactRatioLessRow.holds Try.pinned (OpenSpec.ofChange fnExactRatioLessSpec)

/-- ITS FALSE NEIGHBOUR: 'it returns false'. Refute it at one input. -/
def fnExactRatioLessWrong : ChangeSpec := { name := "fnExactRatioLess", fn := fun _ => fun
  | [d1, d2] => { results := [.lit (.bool false)], args := [d1, d2] }
  | _ => none }
def FnExactRatioLessWrongFalsely : Prop := fnExactRatioLessRow.holds Try.pinned (OpenSpec.ofChange fnExactRatioLessWrong)

/-- 'laws.FnExactRatioBack': WHATEVER THE INPUT: true; the input reads as it did. -/
def fnExactRatioBackSpec : ChangeSpec := { name := "fnExactRatioBack", fn := fun _ => fun
  | [d] => { results := [.lit (.bool true)], args := [d] }
  | _ => none }
def fnExactRatioBackRow : OpenClaim := { program := "ytclbgndpdbfedaa", sum := "cef77a92d8de8153205c648b19ff0d27d459fb870d498c752f0bbf73a356a2db", func := "loop.example/musicengine/laws.FnExactRatioBack", spec := "fnExactRatioBack", apart := false }
def FnExactRatioBackSaid : Prop := fnExactRatioBackRow.holds Try.pinned (OpenSpec.ofChange fnExactRatioBackSpec)

/-- ITS FALSE NEIGHBOUR: 'it returns false'. Refute it at one input. -/
def fnExactRatioBackWrong : ChangeSpec := { name := "fnExactRatioBack", fn := fun _ => fun
  | [d] => { results := [.lit (.bool false)], args := [d] }
  | _ => none }
def FnExactRatioBackWrongFalsely : Prop := fnExactRatioBackRow.holds Try.pinned (OpenSpec.ofChange fnExactRatioBackWrong)

/-- 'laws.FnExactRatioTimes': WHATEVER THE INPUT: true; the input reads as it did. -/
def fnExactRatioTimesSpec : ChangeSpec := { name := "fnExactRatioTimes", fn := fun _ => fun
  | [d1, d2] => { results := [.lit (.bool true)], args := [d1, d2] }
  | _ => none }
def fnExactRatioTimesRow : OpenClaim := { program := "ytclbgndpdbfedaa", sum := "cef77a92d8de8153205c648b19ff0d27d459fb870d498c752f0bbf73a356a2db", func := "loop.example/musicengine/laws.FnExactRatioTimes", spec := "fnExactRatioTimes", apart := false }
def FnExactRatioTimesSaid : Prop := fnExactRatioTimesRow.holds Try.pinned (OpenSpec.ofChange fnExactRatioTimesSpec)

/-- ITS FALSE NEIGHBOUR: 'it returns false'. Refute it at one input. -/
def fnExactRatioTimesWrong : ChangeSpec := { name := "fnExactRatioTimes", fn := fun _ => fun
  | [d1, d2] => { results := [.lit (.bool false)], args := [d1, d2] }
  | _ => none }
def FnExactRatioTimesWrongFalsely : Prop := fnExactRatioTimesRow.holds Try.pinned (OpenSpec.ofChange fnExactRatioTimesWrong)

/-- 'laws.FnExactPureRatio': WHATEVER THE INPUT: true; the input reads as it did. -/
def fnExactPureRatioSpec : ChangeSpec := { name := "fnExactPureRatio", fn := fun _ => fun
  | [d] => { results := [.lit (.bool true)], args := [d] }
  | _ => none }
def fnExactPureRatioRow : OpenClaim := { program := "ytclbgndpdbfedaa", sum := "cef77a92d8de8153205c648b19ff0d27d459fb870d498c752f0bbf73a356a2db", func := "loop.example/musicengine/laws.FnExactPureRatio", spec := "fnExactPureRatio", apart := false }
def FnExactPureRatioSaid : Prop := fnExactPureRatioRow.holds Try.pinned (OpenSpec.ofChange fnExactPureRatioSpec)

/-- ITS FALSE NEIGHBOUR: 'it returns false'. Refute it at one input. -/
def fnExactPureRatioWrong : ChangeSpec := { name := "fnExactPureRatio", fn := fun _ => fun
  | [d] => { results := [.lit (.bool false)], args := [d] }
  | _ => none }
def FnExactPureRatioWrongFalsely : Prop := fnExactPureRatioRow.holds Try.pinned (OpenSpec.ofChange fnExactPureRatioWrong)

/-- 'laws.FnExactFifthsRatio': WHATEVER THE INPUT: true; the input reads as it did. -/
def fnExactFifthsRatioSpec : ChangeSpec := { name := "fnExactFifthsRatio", fn := fun _ => fun
  | [d] => { results := [.lit (.bool true)], args := [d] }
  | _ => none }
def fnExactFifthsRatioRow : OpenClaim := { program := "ytclbgndpdbfedaa", sum := "cef77a92d8de8153205c648b19ff0d27d459fb870d498c752f0bbf73a356a2db", func := "loop.example/musicengine/laws.FnExactFifthsRatio", spec := "fnExactFifthsRatio", apart := false }
def FnExactFifthsRatioSaid : Prop := fnExactFifthsRatioRow.holds Try.pinned (OpenSpec.ofChange fnExactFifthsRatioSpec)

/-- ITS FALSE NEIGHBOUR: 'it returns false'. Refute it at one input. -/
def fnExactFifthsRatioWrong : ChangeSpec := { name := "fnExactFifthsRatio", fn := fun _ => fun
  | [d] => { results := [.lit (.bool false)], args := [d] }
  | _ => none }
def FnExactFifthsRatioWrongFalsely : Prop := fnExactFifthsRatioRow.holds Try.pinned (OpenSpec.ofChange fnExactFifthsRatioWrong)

/-- 'laws.FnFifthsRatio': WHATEVER THE INPUT: true; the input reads as it did. -/
def fnFifthsRatioSpec : ChangeSpec := { name := "fnFifthsRatio", fn := fun _ => fun
  | [d] => { results := [.lit (.bool true)], args := [d] }
  | _ => none }
def fnFifthsRatioRow : OpenClaim := { program := "ytclbgndpdbfedaa", sum := "cef77a92d8de8153205c648b19ff0d27d459fb870d498c752f0bbf73a356a2db", func := "loop.example/musicengine/laws.FnFifthsRatio", spec := "fnFifthsRatio", apart := false }
def FnFifthsRatioSaid : Prop := fnFifthsRatioRow.holds Try.pinned (OpenSpec.ofChange fnFifthsRatioSpec)

/-- ITS FALSE NEIGHBOUR: 'it returns false'. Refute it at one input. -/
def fnFifthsRatioWrong : ChangeSpec := { name := "fnFifthsRatio", fn := fun _ => fun
  | [d] => { results := [.lit (.bool false)], args := [d] }
  | _ => none }
def FnFifthsRatioWrongFalsely : Prop := fnFifthsRatioRow.holds Try.pinned (OpenSpec.ofChange fnFifthsRatioWrong)

/-- 'laws.FnRatioValid': WHATEVER THE INPUT: true; the input reads as it did. -/
def fnRatioValidSpec : ChangeSpec := { name := "fnRatioValid", fn := fun _ => fun
  | [d] => { results := [.lit (.bool true)], args := [d] }
  | _ => none }
def fnRatioValidRow : OpenClaim := { program := "ytclbgndpdbfedaa", sum := "cef77a92d8de8153205c648b19ff0d27d459fb870d498c752f0bbf73a356a2db", func := "loop.example/musicengine/laws.FnRatioValid", spec := "fnRatioValid", apart := false }
def FnRatioValidSaid : Prop := fnRatioValidRow.holds Try.pinned (OpenSpec.ofChange fnRatioValidSpec)

/-- ITS FALSE NEIGHBOUR: 'it returns false'. Refute it at one input. -/
def fnRatioValidWrong : ChangeSpec := { name := "fnRatioValid", fn := fun _ => fun
  | [d] => { results := [.lit (.bool false)], args := [d] }
  | _ => none }
def FnRatioValidWrongFalsely : Prop := fnRatioValidRow.holds Try.pinned (OpenSpec.ofChange fnRatioValidWrong)

/-- 'laws.FnPureRatio': WHATEVER THE INPUT: true; the input reads as it did. -/
def fnPureRatioSpec : ChangeSpec := { name := "fnPureRatio", fn := fun _ => fun
  | [d] => { results := [.lit (.bool true)], args := [d] }
  | _ => none }
def fnPureRatioRow : OpenClaim := { program := "ytclbgndpdbfedaa", sum := "cef77a92d8de8153205c648b19ff0d27d459fb870d498c752f0bbf73a356a2db", func := "loop.example/musicengine/laws.FnPureRatio", spec := "fnPureRatio", apart := false }
def FnPureRatioSaid : Prop := fnPureRatioRow.holds Try.pinned (OpenSpec.ofChange fnPureRatioSpec)

/-- ITS FALSE NEIGHBOUR: 'it returns false'. Refute it at one input. -/
def fnPureRatioWrong : ChangeSpec := { name := "fnPureRatio", fn := fun _ => fun
  | [d] => { results := [.lit (.bool false)], args := [d] }
  | _ => none }
def FnPureRatioWrongFalsely : Prop := fnPureRatioRow.holds Try.pinned (OpenSpec.ofChange fnPureRatioWrong)

/-- 'laws.FnRatioBack': WHATEVER THE INPUT: true; the input reads as it did. -/
def fnRatioBackSpec : ChangeSpec := { name := "fnRatioBack", fn := fun _ => fun
  | [d] => { results := [.lit (.bool true)], args := [d] }
  | _ => none }
def fnRatioBackRow : OpenClaim := { program := "ytclbgndpdbfedaa", sum := "cef77a92d8de8153205c648b19ff0d27d459fb870d498c752f0bbf73a356a2db", func := "loop.example/musicengine/laws.FnRatioBack", spec := "fnRatioBack", apart := false }
def FnRatioBackSaid : Prop := fnRatioBackRow.holds Try.pinned (OpenSpec.ofChange fnRatioBackSpec)

/-- ITS FALSE NEIGHBOUR: 'it returns false'. Refute it at one input. -/
def fnRatioBackWrong : ChangeSpec := { name := "fnRatioBack", fn := fun _ => fun
  | [d] => { results := [.lit (.bool false)], args := [d] }
  | _ => none }
def FnRatioBackWrongFalsely : Prop := fnRatioBackRow.holds Try.pinned (OpenSpec.ofChange fnRatioBackWrong)

/-- 'laws.FnRatioLess': WHATEVER THE INPUT: true; the input reads as it did. -/
def fnRatioLessSpec : ChangeSpec := { name := "fnRatioLess", fn := fun _ => fun
  | [d] => { results := [.lit (.bool true)], args := [d] }
  | _ => none }
def fnRatioLessRow : OpenClaim := { program := "ytclbgndpdbfedaa", sum := "cef77a92d8de8153205c648b19ff0d27d459fb870d498c752f0bbf73a356a2db", func := "loop.example/musicengine/laws.FnRatioLess", spec := "fnRatioLess", apart := false }
def FnRatioLessSaid : Prop := fnRatioLessRow.holds Try.pinned (OpenSpec.ofChange fnRatioLessSpec)

/-- ITS FALSE NEIGHBOUR: 'it returns false'. Refute it at one input. -/
def fnRatioLessWrong : ChangeSpec := { name := "fnRatioLess", fn := fun _ => fun
  | [d] => { results := [.lit (.bool false)], args := [d] }
  | _ => none }
def FnRatioLessWrongFalsely : Prop := fnRatioLessRow.holds Try.pinned (OpenSpec.ofChange fnRatioLessWrong)

/-- 'laws.FnRatioTimes': WHATEVER THE INPUT: true; the input reads as it did. -/
def fnRatioTimesSpec : ChangeSpec := { name := "fnRatioTimes", fn := fun _ => fun
  | [d] => { results := [.lit (.bool true)], args := [d] }
  | _ => none }
def fnRatioTimesRow : OpenClaim := { program := "ytclbgndpdbfedaa", sum := "cef77a92d8de8153205c648b19ff0d27d459fb870d498c752f0bbf73a356a2db", func := "loop.example/musicengine/laws.FnRatioTimes", spec := "fnRatioTimes", apart := false }
def FnRatioTimesSaid : Prop := fnRatioTimesRow.holds Try.pinned (OpenSpec.ofChange fnRatioTimesSpec)

/-- ITS FALSE NEIGHBOUR: 'it returns false'. Refute it at one input. -/
def fnRatioTimesWrong : ChangeSpec := { name := "fnRatioTimes", fn := fun _ => fun
  | [d] => { results := [.lit (.bool false)], args := [d] }
  | _ => none }
def FnRatioTimesWrongFalsely : Prop := fnRatioTimesRow.holds Try.pinned (OpenSpec.ofChange fnRatioTimesWrong)

/-- 'laws.FnPureComma': WHATEVER THE INPUT: true; the input reads as it did. -/
def fnPureCommaSpec : ChangeSpec := { name := "fnPureComma", fn := fun _ => fun
  | [d] => { results := [.lit (.bool true)], args := [d] }
  | _ => none }
def fnPureCommaRow : OpenClaim := { program := "ytclbgndpdbfedaa", sum := "cef77a92d8de8153205c648b19ff0d27d459fb870d498c752f0bbf73a356a2db", func := "loop.example/musicengine/laws.FnPureComma", spec := "fnPureComma", apart := false }
def FnPureCommaSaid : Prop := fnPureCommaRow.holds Try.pinned (OpenSpec.ofChange fnPureCommaSpec)

/-- ITS FALSE NEIGHBOUR: 'it returns false'. Refute it at one input. -/
def fnPureCommaWrong : ChangeSpec := { name := "fnPureComma", fn := fun _ => fun
  | [d] => { results := [.lit (.bool false)], args := [d] }
  | _ => none }
def FnPureCommaWrongFalsely : Prop := fnPureCommaRow.holds Try.pinned (OpenSpec.ofChange fnPureCommaWrong)

/- THE SECOND FORM. 'bulk': how many values and letters a reading holds, each counted each time it is reached (what is shared counts as often as it is met; a slice's spare places count too). A statement '..UptoSaid' is the law's where the arguments, and the package variables that the reading takes, are together of bulk at most 1048576: NARROWER than '..Said'. Prove '..Said' where nothing that the law and all that it calls make is longer than what came in: it says more and counts as full. Else prove '..UptoSaid'. A law counts once. -/
mutual
def uptoBulk {H : Type} : DataW H → Nat
  | .lit (.string bytes) => bytes.length + 1
  | .lit _ => 1
  | .nil => 1
  | .ptr d => uptoBulk d + 1
  | .slice elems spare => uptoBulkAll elems + uptoBulkAll spare + 1
  | .agg parts => uptoBulkAll parts + 1
  | .iface _ d => uptoBulk d + 1
  | .map entries => uptoBulkEntries entries + 1
  | .held _ => 1
def uptoBulkAll {H : Type} : List (DataW H) → Nat
  | [] => 0
  | d :: r => uptoBulk d + uptoBulkAll r
def uptoBulkEntries {H : Type} : List (Lit × DataW H) → Nat
  | [] => 0
  | x :: r => uptoBulkEntry x + uptoBulkEntries r
def uptoBulkEntry {H : Type} : Lit × DataW H → Nat
  | (.string bytes, d) => bytes.length + uptoBulk d + 1
  | (_, d) => uptoBulk d + 1
 end
def uptoSmall : (H : Type) → List (DataW H) → Bool := fun _ ds => decide (uptoBulkAll ds ≤ 1048576)
def OpenSpec.upto (s : _root_.Go.ChangeSpec) : _root_.Go.OpenSpec := { _root_.Go.OpenSpec.ofChange s with cond := some uptoSmall }

/-- 'laws.FnExactRatioValid', WHERE WHAT IT READS IS OF BULK AT MOST 1048576: true; the input reads as it did. -/
def fnExactRatioValidUptoRow : OpenClaim := { program := "ytclbgndpdbfedaa", sum := "cef77a92d8de8153205c648b19ff0d27d459fb870d498c752f0bbf73a356a2db", func := "loop.example/musicengine/laws.FnExactRatioValid", spec := "fnExactRatioValid", apart := false, narrowed := true }
def FnExactRatioValidUptoSaid : Prop := fnExactRatioValidUptoRow.holds Try.pinned (OpenSpec.upto fnExactRatioValidSpec)

/-- 'laws.FnExactRatioLess', WHERE WHAT IT READS IS OF BULK AT MOST 1048576: true; the input reads as it did. -/
def fnExactRatioLessUptoRow : OpenClaim := { program := "ytclbgndpdbfedaa", sum := "cef77a92d8de8153205c648b19ff0d27d459fb870d498c752f0bbf73a356a2db", func := "loop.example/musicengine/laws.FnExactRatioLess", spec := "fnExactRatioLess", apart := false, narrowed := true }
def FnExactRatioLessUptoSaid : Prop := fnExactRatioLessUptoRow.holds Try.pinned (OpenSpec.upto fnExactRatioLessSpec)

/-- 'laws.FnExactRatioBack', WHERE WHAT IT READS IS OF BULK AT MOST 1048576: true; the input reads as it did. -/
def fnExactRatioBackUptoRow : OpenClaim := { program := "ytclbgndpdbfedaa", sum := "cef77a92d8de8153205c648b19ff0d27d459fb870d498c752f0bbf73a356a2db", func := "loop.example/musicengine/laws.FnExactRatioBack", spec := "fnExactRatioBack", apart := false, narrowed := true }
def FnExactRatioBackUptoSaid : Prop := fnExactRatioBackUptoRow.holds Try.pinned (OpenSpec.upto fnExactRatioBackSpec)

/-- 'laws.FnExactRatioTimes', WHERE WHAT IT READS IS OF BULK AT MOST 1048576: true; the input reads as it did. -/
def fnExactRatioTimesUptoRow : OpenClaim := { program := "ytclbgndpdbfedaa", sum := "cef77a92d8de8153205c648b19ff0d27d459fb870d498c752f0bbf73a356a2db", func := "loop.example/musicengine/laws.FnExactRatioTimes", spec := "fnExactRatioTimes", apart := false, narrowed := true }
def FnExactRatioTimesUptoSaid : Prop := fnExactRatioTimesUptoRow.holds Try.pinned (OpenSpec.upto fnExactRatioTimesSpec)

/-- 'laws.FnExactPureRatio', WHERE WHAT IT READS IS OF BULK AT MOST 1048576: true; the input reads as it did. -/
def fnExactPureRatioUptoRow : OpenClaim := { program := "ytclbgndpdbfedaa", sum := "cef77a92d8de8153205c648b19ff0d27d459fb870d498c752f0bbf73a356a2db", func := "loop.example/musicengine/laws.FnExactPureRatio", spec := "fnExactPureRatio", apart := false, narrowed := true }
def FnExactPureRatioUptoSaid : Prop := fnExactPureRatioUptoRow.holds Try.pinned (OpenSpec.upto fnExactPureRatioSpec)

/-- 'laws.FnExactFifthsRatio', WHERE WHAT IT READS IS OF BULK AT MOST 1048576: true; the input reads as it did. -/
def fnExactFifthsRatioUptoRow : OpenClaim := { program := "ytclbgndpdbfedaa", sum := "cef77a92d8de8153205c648b19ff0d27d459fb870d498c752f0bbf73a356a2db", func := "loop.example/musicengine/laws.FnExactFifthsRatio", spec := "fnExactFifthsRatio", apart := false, narrowed := true }
def FnExactFifthsRatioUptoSaid : Prop := fnExactFifthsRatioUptoRow.holds Try.pinned (OpenSpec.upto fnExactFifthsRatioSpec)

/-- 'laws.FnFifthsRatio', WHERE WHAT IT READS IS OF BULK AT MOST 1048576: true; the input reads as it did. -/
def fnFifthsRatioUptoRow : OpenClaim := { program := "ytclbgndpdbfedaa", sum := "cef77a92d8de8153205c648b19ff0d27d459fb870d498c752f0bbf73a356a2db", func := "loop.example/musicengine/laws.FnFifthsRatio", spec := "fnFifthsRatio", apart := false, narrowed := true }
def FnFifthsRatioUptoSaid : Prop := fnFifthsRatioUptoRow.holds Try.pinned (OpenSpec.upto fnFifthsRatioSpec)

/-- 'laws.FnRatioValid', WHERE WHAT IT READS IS OF BULK AT MOST 1048576: true; the input reads as it did. -/
def fnRatioValidUptoRow : OpenClaim := { program := "ytclbgndpdbfedaa", sum := "cef77a92d8de8153205c648b19ff0d27d459fb870d498c752f0bbf73a356a2db", func := "loop.example/musicengine/laws.FnRatioValid", spec := "fnRatioValid", apart := false, narrowed := true }
def FnRatioValidUptoSaid : Prop := fnRatioValidUptoRow.holds Try.pinned (OpenSpec.upto fnRatioValidSpec)

/-- 'laws.FnPureRatio', WHERE WHAT IT READS IS OF BULK AT MOST 1048576: true; the input reads as it did. -/
def fnPureRatioUptoRow : OpenClaim := { program := "ytclbgndpdbfedaa", sum := "cef77a92d8de8153205c648b19ff0d27d459fb870d498c752f0bbf73a356a2db", func := "loop.example/musicengine/laws.FnPureRatio", spec := "fnPureRatio", apart := false, narrowed := true }
def FnPureRatioUptoSaid : Prop := fnPureRatioUptoRow.holds Try.pinned (OpenSpec.upto fnPureRatioSpec)

/-- 'laws.FnRatioBack', WHERE WHAT IT READS IS OF BULK AT MOST 1048576: true; the input reads as it did. -/
def fnRatioBackUptoRow : OpenClaim := { program := "ytclbgndpdbfedaa", sum := "cef77a92d8de8153205c648b19ff0d27d459fb870d498c752f0bbf73a356a2db", func := "loop.example/musicengine/laws.FnRatioBack", spec := "fnRatioBack", apart := false, narrowed := true }
def FnRatioBackUptoSaid : Prop := fnRatioBackUptoRow.holds Try.pinned (OpenSpec.upto fnRatioBackSpec)

/-- 'laws.FnRatioLess', WHERE WHAT IT READS IS OF BULK AT MOST 1048576: true; the input reads as it did. -/
def fnRatioLessUptoRow : OpenClaim := { program := "ytclbgndpdbfedaa", sum := "cef77a92d8de8153205c648b19ff0d27d459fb870d498c752f0bbf73a356a2db", func := "loop.example/musicengine/laws.FnRatioLess", spec := "fnRatioLess", apart := false, narrowed := true }
def FnRatioLessUptoSaid : Prop := fnRatioLessUptoRow.holds Try.pinned (OpenSpec.upto fnRatioLessSpec)

/-- 'laws.FnRatioTimes', WHERE WHAT IT READS IS OF BULK AT MOST 1048576: true; the input reads as it did. -/
def fnRatioTimesUptoRow : OpenClaim := { program := "ytclbgndpdbfedaa", sum := "cef77a92d8de8153205c648b19ff0d27d459fb870d498c752f0bbf73a356a2db", func := "loop.example/musicengine/laws.FnRatioTimes", spec := "fnRatioTimes", apart := false, narrowed := true }
def FnRatioTimesUptoSaid : Prop := fnRatioTimesUptoRow.holds Try.pinned (OpenSpec.upto fnRatioTimesSpec)

/-- 'laws.FnPureComma', WHERE WHAT IT READS IS OF BULK AT MOST 1048576: true; the input reads as it did. -/
def fnPureCommaUptoRow : OpenClaim := { program := "ytclbgndpdbfedaa", sum := "cef77a92d8de8153205c648b19ff0d27d459fb870d498c752f0bbf73a356a2db", func := "loop.example/musicengine/laws.FnPureComma", spec := "fnPureComma", apart := false, narrowed := true }
def FnPureCommaUptoSaid : Prop := fnPureCommaUptoRow.holds Try.pinned (OpenSpec.upto fnPureCommaSpec)

end Rows
end Go.Proofs.Ytclbgndpdbfedaa
