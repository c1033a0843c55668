/-
  No cell of these rows narrows 'for every input' (looked for: loops, veiled, ifaces, maps, wideKeys, modest, calm, conditions, laid).
  DERIVED. THE GIVEN ROWS OF THIS SEAT. 7 by the template 'for every input the law returns true; each argument reads behind the call as it read before'; 0 by the template 'total and deterministic' (their statements: YtiapfpjggginoaaTotals.lean).
  GIVEN WITH THE SEED: the statements are not yours to turn. If you find one false, say at which input.
  Laid BY PROGRAM, IN A SANDBOX (cutbox-rows.mjs): the forced cells as the released guide's own fill.sh prints them over the translation 4d52709fc7502c77… (all of the seat's roots in one cut). By AI agents, Wed Nov 11 2026. No macro, syntax, notation, axiom, sorry.
-/
import Derived.Test.YtiapfpjggginoaaChecked
import GoSem.Claim
import GoSem.ClaimJoined
import GoSem.ClaimMapViews
import Derived.JoinedTies
import Derived.KernelRfl
namespace Go.Proofs.Ytiapfpjggginoaa
/- THE CELL 'sum', in the pinned program and in every row, IS THE sha256 OF THE DUMP (.gsa) THAT YtiapfpjggginoaaProg.lean LOADS. Nothing in Lean hashes anything: it is a label: what it is worth is what the hold of that sum in a sandbox is worth. -/
noncomputable def Try.pinned : Pinned := { name := "ytiapfpjggginoaa", sum := "4d52709fc7502c775f1732e465b4629f939edf76c94f6fe409161485d04173aa", checked := Try.checked }
namespace Rows
def none {H : Type} : Left H := { results := [], args := [] }

/-- 'laws.FnExactMeetTicks': WHATEVER THE INPUT: true; the input reads as it did. -/
def fnExactMeetTicksSpec : ChangeSpec := { name := "fnExactMeetTicks", fn := fun _ => fun
  | [d1, d2] => { results := [.lit (.bool true)], args := [d1, d2] }
  | _ => none }
def fnExactMeetTicksRow : OpenClaim := { program := "ytiapfpjggginoaa", sum := "4d52709fc7502c775f1732e465b4629f939edf76c94f6fe409161485d04173aa", func := "loop.example/musicengine/laws.FnExactMeetTicks", spec := "fnExactMeetTicks", recurses := true, apart := false }
def FnExactMeetTicksSaid : Prop := fnExactMeetTicksRow.holds Try.pinned (OpenSpec.ofChange fnExactMeetTicksSpec)

/-- ITS FALSE NEIGHBOUR: 'it returns false'. Refute it at one input. -/
def fnExactMeetTicksWrong : ChangeSpec := { name := "fnExactMeetTicks", fn := fun _ => fun
  | [d1, d2] => { results := [.lit (.bool false)], args := [d1, d2] }
  | _ => none }
def FnExactMeetTicksWrongFalsely : Prop := fnExactMeetTicksRow.holds Try.pinned (OpenSpec.ofChange fnExactMeetTicksWrong)

/-- 'laws.FnMeetTicks': WHATEVER THE INPUT: true; the input reads as it did. -/
def fnMeetTicksSpec : ChangeSpec := { name := "fnMeetTicks", fn := fun _ => fun
  | [d] => { results := [.lit (.bool true)], args := [d] }
  | _ => none }
def fnMeetTicksRow : OpenClaim := { program := "ytiapfpjggginoaa", sum := "4d52709fc7502c775f1732e465b4629f939edf76c94f6fe409161485d04173aa", func := "loop.example/musicengine/laws.FnMeetTicks", spec := "fnMeetTicks", recurses := true, apart := false }
def FnMeetTicksSaid : Prop := fnMeetTicksRow.holds Try.pinned (OpenSpec.ofChange fnMeetTicksSpec)

/-- ITS FALSE NEIGHBOUR: 'it returns false'. Refute it at one input. -/
def fnMeetTicksWrong : ChangeSpec := { name := "fnMeetTicks", fn := fun _ => fun
  | [d] => { results := [.lit (.bool false)], args := [d] }
  | _ => none }
def FnMeetTicksWrongFalsely : Prop := fnMeetTicksRow.holds Try.pinned (OpenSpec.ofChange fnMeetTicksWrong)

/-- 'laws.FnExactMeetFault': WHATEVER THE INPUT: true; the input reads as it did. -/
def fnExactMeetFaultSpec : ChangeSpec := { name := "fnExactMeetFault", fn := fun _ => fun
  | [d1, d2] => { results := [.lit (.bool true)], args := [d1, d2] }
  | _ => none }
def fnExactMeetFaultRow : OpenClaim := { program := "ytiapfpjggginoaa", sum := "4d52709fc7502c775f1732e465b4629f939edf76c94f6fe409161485d04173aa", func := "loop.example/musicengine/laws.FnExactMeetFault", spec := "fnExactMeetFault", recurses := true, apart := false }
def FnExactMeetFaultSaid : Prop := fnExactMeetFaultRow.holds Try.pinned (OpenSpec.ofChange fnExactMeetFaultSpec)

/-- ITS FALSE NEIGHBOUR: 'it returns false'. Refute it at one input. -/
def fnExactMeetFaultWrong : ChangeSpec := { name := "fnExactMeetFault", fn := fun _ => fun
  | [d1, d2] => { results := [.lit (.bool false)], args := [d1, d2] }
  | _ => none }
def FnExactMeetFaultWrongFalsely : Prop := fnExactMeetFaultRow.holds Try.pinned (OpenSpec.ofChange fnExactMeetFaultWrong)

/-- 'laws.FnMeetFault': WHATEVER THE INPUT: true; the input reads as it did. -/
def fnMeetFaultSpec : ChangeSpec := { name := "fnMeetFault", fn := fun _ => fun
  | [d] => { results := [.lit (.bool true)], args := [d] }
  | _ => none }
def fnMeetFaultRow : OpenClaim := { program := "ytiapfpjggginoaa", sum := "4d52709fc7502c775f1732e465b4629f939edf76c94f6fe409161485d04173aa", func := "loop.example/musicengine/laws.FnMeetFault", spec := "fnMeetFault", recurses := true, apart := false }
def FnMeetFaultSaid : Prop := fnMeetFaultRow.holds Try.pinned (OpenSpec.ofChange fnMeetFaultSpec)

/-- ITS FALSE NEIGHBOUR: 'it returns false'. Refute it at one input. -/
def fnMeetFaultWrong : ChangeSpec := { name := "fnMeetFault", fn := fun _ => fun
  | [d] => { results := [.lit (.bool false)], args := [d] }
  | _ => none }
def FnMeetFaultWrongFalsely : Prop := fnMeetFaultRow.holds Try.pinned (OpenSpec.ofChange fnMeetFaultWrong)

/-- 'laws.FnExactCanonDelays': WHATEVER THE INPUT: true; the input reads as it did. -/
def fnExactCanonDelaysSpec : ChangeSpec := { name := "fnExactCanonDelays", fn := fun _ => fun
  | [d1, d2, d3] => { results := [.lit (.bool true)], args := [d1, d2, d3] }
  | _ => none }
def fnExactCanonDelaysRow : OpenClaim := { program := "ytiapfpjggginoaa", sum := "4d52709fc7502c775f1732e465b4629f939edf76c94f6fe409161485d04173aa", func := "loop.example/musicengine/laws.FnExactCanonDelays", spec := "fnExactCanonDelays", recurses := true, apart := false }
def FnExactCanonDelaysSaid : Prop := fnExactCanonDelaysRow.holds Try.pinned (OpenSpec.ofChange fnExactCanonDelaysSpec)

/-- ITS FALSE NEIGHBOUR: 'it returns false'. Refute it at one input. -/
def fnExactCanonDelaysWrong : ChangeSpec := { name := "fnExactCanonDelays", fn := fun _ => fun
  | [d1, d2, d3] => { results := [.lit (.bool false)], args := [d1, d2, d3] }
  | _ => none }
def FnExactCanonDelaysWrongFalsely : Prop := fnExactCanonDelaysRow.holds Try.pinned (OpenSpec.ofChange fnExactCanonDelaysWrong)

/-- 'laws.FnCanonDelays': WHATEVER THE INPUT: true; the input reads as it did. -/
def fnCanonDelaysSpec : ChangeSpec := { name := "fnCanonDelays", fn := fun _ => fun
  | [d] => { results := [.lit (.bool true)], args := [d] }
  | _ => none }
def fnCanonDelaysRow : OpenClaim := { program := "ytiapfpjggginoaa", sum := "4d52709fc7502c775f1732e465b4629f939edf76c94f6fe409161485d04173aa", func := "loop.example/musicengine/laws.FnCanonDelays", spec := "fnCanonDelays", recurses := true, apart := false }
def FnCanonDelaysSaid : Prop := fnCanonDelaysRow.holds Try.pinned (OpenSpec.ofChange fnCanonDelaysSpec)

/-- ITS FALSE NEIGHBOUR: 'it returns false'. Refute it at one input. -/
def fnCanonDelaysWrong : ChangeSpec := { name := "fnCanonDelays", fn := fun _ => fun
  | [d] => { results := [.lit (.bool false)], args := [d] }
  | _ => none }
def FnCanonDelaysWrongFalsely : Prop := fnCanonDelaysRow.holds Try.pinned (OpenSpec.ofChange fnCanonDelaysWrong)

/-- 'laws.FnCanonMeet': WHATEVER THE INPUT: true; the input reads as it did. -/
def fnCanonMeetSpec : ChangeSpec := { name := "fnCanonMeet", fn := fun _ => fun
  | [d] => { results := [.lit (.bool true)], args := [d] }
  | _ => none }
def fnCanonMeetRow : OpenClaim := { program := "ytiapfpjggginoaa", sum := "4d52709fc7502c775f1732e465b4629f939edf76c94f6fe409161485d04173aa", func := "loop.example/musicengine/laws.FnCanonMeet", spec := "fnCanonMeet", recurses := true, apart := false }
def FnCanonMeetSaid : Prop := fnCanonMeetRow.holds Try.pinned (OpenSpec.ofChange fnCanonMeetSpec)

/-- ITS FALSE NEIGHBOUR: 'it returns false'. Refute it at one input. -/
def fnCanonMeetWrong : ChangeSpec := { name := "fnCanonMeet", fn := fun _ => fun
  | [d] => { results := [.lit (.bool false)], args := [d] }
  | _ => none }
def FnCanonMeetWrongFalsely : Prop := fnCanonMeetRow.holds Try.pinned (OpenSpec.ofChange fnCanonMeetWrong)

/- THE SECOND FORM. 'bulk': how many values and letters a reading holds, each counted each time it is reached (what is shared counts as often as it is met; a slice's spare places count too). A statement '..UptoSaid' is the law's where the arguments, and the package variables that the reading takes, are together of bulk at most 1048576: NARROWER than '..Said'. Prove '..Said' where nothing that the law and all that it calls make is longer than what came in: it says more and counts as full. Else prove '..UptoSaid'. A law counts once. -/
mutual
def uptoBulk {H : Type} : DataW H → Nat
  | .lit (.string bytes) => bytes.length + 1
  | .lit _ => 1
  | .nil => 1
  | .ptr d => uptoBulk d + 1
  | .slice elems spare => uptoBulkAll elems + uptoBulkAll spare + 1
  | .agg parts => uptoBulkAll parts + 1
  | .iface _ d => uptoBulk d + 1
  | .map entries => uptoBulkEntries entries + 1
  | .held _ => 1
def uptoBulkAll {H : Type} : List (DataW H) → Nat
  | [] => 0
  | d :: r => uptoBulk d + uptoBulkAll r
def uptoBulkEntries {H : Type} : List (Lit × DataW H) → Nat
  | [] => 0
  | x :: r => uptoBulkEntry x + uptoBulkEntries r
def uptoBulkEntry {H : Type} : Lit × DataW H → Nat
  | (.string bytes, d) => bytes.length + uptoBulk d + 1
  | (_, d) => uptoBulk d + 1
 end
def uptoSmall : (H : Type) → List (DataW H) → Bool := fun _ ds => decide (uptoBulkAll ds ≤ 1048576)
def OpenSpec.upto (s : _root_.Go.ChangeSpec) : _root_.Go.OpenSpec := { _root_.Go.OpenSpec.ofChange s with cond := some uptoSmall }

/-- 'laws.FnExactMeetTicks', WHERE WHAT IT READS IS OF BULK AT MOST 1048576: true; the input reads as it did. -/
def fnExactMeetTicksUptoRow : OpenClaim := { program := "ytiapfpjggginoaa", sum := "4d52709fc7502c775f1732e465b4629f939edf76c94f6fe409161485d04173aa", func := "loop.example/musicengine/laws.FnExactMeetTicks", spec := "fnExactMeetTicks", recurses := true, apart := false, narrowed := true }
def FnExactMeetTicksUptoSaid : Prop := fnExactMeetTicksUptoRow.holds Try.pinned (OpenSpec.upto fnExactMeetTicksSpec)

/-- 'laws.FnMeetTicks', WHERE WHAT IT READS IS OF BULK AT MOST 1048576: true; the input reads as it did. -/
def fnMeetTicksUptoRow : OpenClaim := { program := "ytiapfpjggginoaa", sum := "4d52709fc7502c775f1732e465b4629f939edf76c94f6fe409161485d04173aa", func := "loop.example/musicengine/laws.FnMeetTicks", spec := "fnMeetTicks", recurses := true, apart := false, narrowed := true }
def FnMeetTicksUptoSaid : Prop := fnMeetTicksUptoRow.holds Try.pinned (OpenSpec.upto fnMeetTicksSpec)

/-- 'laws.FnExactMeetFault', WHERE WHAT IT READS IS OF BULK AT MOST 1048576: true; the input reads as it did. -/
def fnExactMeetFaultUptoRow : OpenClaim := { program := "ytiapfpjggginoaa", sum := "4d52709fc7502c775f1732e465b4629f939edf76c94f6fe409161485d04173aa", func := "loop.example/musicengine/laws.FnExactMeetFault", spec := "fnExactMeetFault", recurses := true, apart := false, narrowed := true }
def FnExactMeetFaultUptoSaid : Prop := fnExactMeetFaultUptoRow.holds Try.pinned (OpenSpec.upto fnExactMeetFaultSpec)

/-- 'laws.FnMeetFault', WHERE WHAT IT READS IS OF BULK AT MOST 1048576: true; the input reads as it did. -/
def fnMeetFaultUptoRow : OpenClaim := { program := "ytiapfpjggginoaa", sum := "4d52709fc7502c775f1732e465b4629f939edf76c94f6fe409161485d04173aa", func := "loop.example/musicengine/laws.FnMeetFault", spec := "fnMeetFault", recurses := true, apart := false, narrowed := true }
def FnMeetFaultUptoSaid : Prop := fnMeetFaultUptoRow.holds Try.pinned (OpenSpec.upto fnMeetFaultSpec)

/-- 'laws.FnExactCanonDelays', WHERE WHAT IT READS IS OF BULK AT MOST 1048576: true; the input reads as it did. -/
def fnExactCanonDelaysUptoRow : OpenClaim := { program := "ytiapfpjggginoaa", sum := "4d52709fc7502c775f1732e465b4629f939edf76c94f6fe409161485d04173aa", func := "loop.example/musicengine/laws.FnExactCanonDelays", spec := "fnExactCanonDelays", recurses := true, apart := false, narrowed := true }
def FnExactCanonDelaysUptoSaid : Prop := fnExactCanonDelaysUptoRow.holds Try.pinned (OpenSpec.upto fnExactCanonDelaysSpec)

/-- 'laws.FnCanonDelays', WHERE WHAT IT READS IS OF BULK AT MOST 1048576: true; the input reads as it did. -/
def fnCanonDelaysUptoRow : OpenClaim := { program := "ytiapfpjggginoaa", sum := "4d52709fc7502c775f1732e465b4629f939edf76c94f6fe409161485d04173aa", func := "loop.example/musicengine/laws.FnCanonDelays", spec := "fnCanonDelays", recurses := true, apart := false, narrowed := true }
def FnCanonDelaysUptoSaid : Prop := fnCanonDelaysUptoRow.holds Try.pinned (OpenSpec.upto fnCanonDelaysSpec)

/-- 'laws.FnCanonMeet', WHERE WHAT IT READS IS OF BULK AT MOST 1048576: true; the input reads as it did. -/
def fnCanonMeetUptoRow : OpenClaim := { program := "ytiapfpjggginoaa", sum := "4d52709fc7502c775f1732e465b4629f939edf76c94f6fe409161485d04173aa", func := "loop.example/musicengine/laws.FnCanonMeet", spec := "fnCanonMeet", recurses := true, apart := false, narrowed := true }
def FnCanonMeetUptoSaid : Prop := fnCanonMeetUptoRow.holds Try.pinned (OpenSpec.upto fnCanonMeetSpec)

end Rows
end Go.Proofs.Ytiapfpjggginoaa
