/-
  No cell of these rows narrows 'for every input' (looked for: loops, veiled, ifaces, maps, wideKeys, modest, calm, conditions, laid).
  DERIVED. THE GIVEN ROWS OF THIS SEAT. 4 by the template 'for every input the law returns true; each argument reads behind the call as it read before'; 0 by the template 'total and deterministic' (their statements: YtldgpgljapohiaaTotals.lean).
  GIVEN WITH THE SEED: the statements are not yours to turn. If you find one false, say at which input.
  Laid BY PROGRAM, IN A SANDBOX (cutbox-rows.mjs): the forced cells as the released guide's own fill.sh prints them over the translation 0a756a03877e96a7… (all of the seat's roots in one cut). By AI agents, Wed Nov 11 2026. No macro, syntax, notation, axiom, sorry.
-/
import Derived.Test.YtldgpgljapohiaaChecked
import GoSem.Claim
import GoSem.ClaimJoined
import GoSem.ClaimMapViews
import Derived.JoinedTies
import Derived.KernelRfl
namespace Go.Proofs.Ytldgpgljapohiaa
/- THE CELL 'sum', in the pinned program and in every row, IS THE sha256 OF THE DUMP (.gsa) THAT YtldgpgljapohiaaProg.lean LOADS. Nothing in Lean hashes anything: it is a label: what it is worth is what the hold of that sum in a sandbox is worth. -/
noncomputable def Try.pinned : Pinned := { name := "ytldgpgljapohiaa", sum := "0a756a03877e96a7ffed48823f4c04d923ea529b59690b5bfaa824eb20396fa5", checked := Try.checked }
namespace Rows
def none {H : Type} : Left H := { results := [], args := [] }

/-- 'laws.FnCanonOf': WHATEVER THE INPUT: true; the input reads as it did. -/
def fnCanonOfSpec : ChangeSpec := { name := "fnCanonOf", fn := fun _ => fun
  | [d] => { results := [.lit (.bool true)], args := [d] }
  | _ => none }
def fnCanonOfRow : OpenClaim := { program := "ytldgpgljapohiaa", sum := "0a756a03877e96a7ffed48823f4c04d923ea529b59690b5bfaa824eb20396fa5", func := "loop.example/musicengine/laws.FnCanonOf", spec := "fnCanonOf", apart := false }
def FnCanonOfSaid : Prop := fnCanonOfRow.holds Try.pinned (OpenSpec.ofChange fnCanonOfSpec)

/-- ITS FALSE NEIGHBOUR: 'it returns false'. Refute it at one input. -/
def fnCanonOfWrong : ChangeSpec := { name := "fnCanonOf", fn := fun _ => fun
  | [d] => { results := [.lit (.bool false)], args := [d] }
  | _ => none }
def FnCanonOfWrongFalsely : Prop := fnCanonOfRow.holds Try.pinned (OpenSpec.ofChange fnCanonOfWrong)

/-- 'laws.FnIsCanon': WHATEVER THE INPUT: true; the input reads as it did. -/
def fnIsCanonSpec : ChangeSpec := { name := "fnIsCanon", fn := fun _ => fun
  | [d] => { results := [.lit (.bool true)], args := [d] }
  | _ => none }
def fnIsCanonRow : OpenClaim := { program := "ytldgpgljapohiaa", sum := "0a756a03877e96a7ffed48823f4c04d923ea529b59690b5bfaa824eb20396fa5", func := "loop.example/musicengine/laws.FnIsCanon", spec := "fnIsCanon", apart := false }
def FnIsCanonSaid : Prop := fnIsCanonRow.holds Try.pinned (OpenSpec.ofChange fnIsCanonSpec)

/-- ITS FALSE NEIGHBOUR: 'it returns false'. Refute it at one input. -/
def fnIsCanonWrong : ChangeSpec := { name := "fnIsCanon", fn := fun _ => fun
  | [d] => { results := [.lit (.bool false)], args := [d] }
  | _ => none }
def FnIsCanonWrongFalsely : Prop := fnIsCanonRow.holds Try.pinned (OpenSpec.ofChange fnIsCanonWrong)

/-- 'laws.FnTonalAnswer': WHATEVER THE INPUT: true; the input reads as it did. -/
def fnTonalAnswerSpec : ChangeSpec := { name := "fnTonalAnswer", fn := fun _ => fun
  | [d] => { results := [.lit (.bool true)], args := [d] }
  | _ => none }
def fnTonalAnswerRow : OpenClaim := { program := "ytldgpgljapohiaa", sum := "0a756a03877e96a7ffed48823f4c04d923ea529b59690b5bfaa824eb20396fa5", func := "loop.example/musicengine/laws.FnTonalAnswer", spec := "fnTonalAnswer", apart := false }
def FnTonalAnswerSaid : Prop := fnTonalAnswerRow.holds Try.pinned (OpenSpec.ofChange fnTonalAnswerSpec)

/-- ITS FALSE NEIGHBOUR: 'it returns false'. Refute it at one input. -/
def fnTonalAnswerWrong : ChangeSpec := { name := "fnTonalAnswer", fn := fun _ => fun
  | [d] => { results := [.lit (.bool false)], args := [d] }
  | _ => none }
def FnTonalAnswerWrongFalsely : Prop := fnTonalAnswerRow.holds Try.pinned (OpenSpec.ofChange fnTonalAnswerWrong)

/-- 'laws.FnAnswerHead': WHATEVER THE INPUT: true; the input reads as it did. -/
def fnAnswerHeadSpec : ChangeSpec := { name := "fnAnswerHead", fn := fun _ => fun
  | [d] => { results := [.lit (.bool true)], args := [d] }
  | _ => none }
def fnAnswerHeadRow : OpenClaim := { program := "ytldgpgljapohiaa", sum := "0a756a03877e96a7ffed48823f4c04d923ea529b59690b5bfaa824eb20396fa5", func := "loop.example/musicengine/laws.FnAnswerHead", spec := "fnAnswerHead", apart := false }
def FnAnswerHeadSaid : Prop := fnAnswerHeadRow.holds Try.pinned (OpenSpec.ofChange fnAnswerHeadSpec)

/-- ITS FALSE NEIGHBOUR: 'it returns false'. Refute it at one input. -/
def fnAnswerHeadWrong : ChangeSpec := { name := "fnAnswerHead", fn := fun _ => fun
  | [d] => { results := [.lit (.bool false)], args := [d] }
  | _ => none }
def FnAnswerHeadWrongFalsely : Prop := fnAnswerHeadRow.holds Try.pinned (OpenSpec.ofChange fnAnswerHeadWrong)

/- THE SECOND FORM. 'bulk': how many values and letters a reading holds, each counted each time it is reached (what is shared counts as often as it is met; a slice's spare places count too). A statement '..UptoSaid' is the law's where the arguments, and the package variables that the reading takes, are together of bulk at most 1048576: NARROWER than '..Said'. Prove '..Said' where nothing that the law and all that it calls make is longer than what came in: it says more and counts as full. Else prove '..UptoSaid'. A law counts once. -/
mutual
def uptoBulk {H : Type} : DataW H → Nat
  | .lit (.string bytes) => bytes.length + 1
  | .lit _ => 1
  | .nil => 1
  | .ptr d => uptoBulk d + 1
  | .slice elems spare => uptoBulkAll elems + uptoBulkAll spare + 1
  | .agg parts => uptoBulkAll parts + 1
  | .iface _ d => uptoBulk d + 1
  | .map entries => uptoBulkEntries entries + 1
  | .held _ => 1
def uptoBulkAll {H : Type} : List (DataW H) → Nat
  | [] => 0
  | d :: r => uptoBulk d + uptoBulkAll r
def uptoBulkEntries {H : Type} : List (Lit × DataW H) → Nat
  | [] => 0
  | x :: r => uptoBulkEntry x + uptoBulkEntries r
def uptoBulkEntry {H : Type} : Lit × DataW H → Nat
  | (.string bytes, d) => bytes.length + uptoBulk d + 1
  | (_, d) => uptoBulk d + 1
 end
def uptoSmall : (H : Type) → List (DataW H) → Bool := fun _ ds => decide (uptoBulkAll ds ≤ 1048576)
def OpenSpec.upto (s : _root_.Go.ChangeSpec) : _root_.Go.OpenSpec := { _root_.Go.OpenSpec.ofChange s with cond := some uptoSmall }

/-- 'laws.FnCanonOf', WHERE WHAT IT READS IS OF BULK AT MOST 1048576: true; the input reads as it did. -/
def fnCanonOfUptoRow : OpenClaim := { program := "ytldgpgljapohiaa", sum := "0a756a03877e96a7ffed48823f4c04d923ea529b59690b5bfaa824eb20396fa5", func := "loop.example/musicengine/laws.FnCanonOf", spec := "fnCanonOf", apart := false, narrowed := true }
def FnCanonOfUptoSaid : Prop := fnCanonOfUptoRow.holds Try.pinned (OpenSpec.upto fnCanonOfSpec)

/-- 'laws.FnIsCanon', WHERE WHAT IT READS IS OF BULK AT MOST 1048576: true; the input reads as it did. -/
def fnIsCanonUptoRow : OpenClaim := { program := "ytldgpgljapohiaa", sum := "0a756a03877e96a7ffed48823f4c04d923ea529b59690b5bfaa824eb20396fa5", func := "loop.example/musicengine/laws.FnIsCanon", spec := "fnIsCanon", apart := false, narrowed := true }
def FnIsCanonUptoSaid : Prop := fnIsCanonUptoRow.holds Try.pinned (OpenSpec.upto fnIsCanonSpec)

/-- 'laws.FnTonalAnswer', WHERE WHAT IT READS IS OF BULK AT MOST 1048576: true; the input reads as it did. -/
def fnTonalAnswerUptoRow : OpenClaim := { program := "ytldgpgljapohiaa", sum := "0a756a03877e96a7ffed48823f4c04d923ea529b59690b5bfaa824eb20396fa5", func := "loop.example/musicengine/laws.FnTonalAnswer", spec := "fnTonalAnswer", apart := false, narrowed := true }
def FnTonalAnswerUptoSaid : Prop := fnTonalAnswerUptoRow.holds Try.pinned (OpenSpec.upto fnTonalAnswerSpec)

/-- 'laws.FnAnswerHead', WHERE WHAT IT READS IS OF BULK AT MOST 1048576: true; the input reads as it did. -/
def fnAnswerHeadUptoRow : OpenClaim := { program := "ytldgpgljapohiaa", sum := "0a756a03877e96a7ffed48823f4c04d923ea529b59690b5bfaa824eb20396fa5", func := "loop.example/musicengine/laws.FnAnswerHead", spec := "fnAnswerHead", apart := false, narrowed := true }
def FnAnswerHeadUptoSaid : Prop := fnAnswerHeadUptoRow.holds Try.pinned (OpenSpec.upto fnAnswerHeadSpec)

end Rows
end Go.Proofs.Ytldgpgljapohiaa
