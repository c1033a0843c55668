/-
  No cell of these rows narrows 'for every input' (looked for: loops, veiled, ifaces, maps, wideKeys, modest, calm, conditions, laid).
  DERIVED. THE GIVEN ROWS OF THIS SEAT. 9 by the template 'for every input the law returns true; each argument reads behind the call as it read before'; 0 by the template 'total and deterministic' (their statements: YtjfiknnclkilbaaTotals.lean).
  GIVEN WITH THE SEED: the statements are not yours to turn. If you find one false, say at which input.
  Laid BY PROGRAM, IN A SANDBOX (cutbox-rows.mjs): the forced cells as the released guide's own fill.sh prints them over the translation 9d91a42c90436d2e… (all of the seat's roots in one cut). By AI agents, Wed Nov 11 2026. No macro, syntax, notation, axiom, sorry.
-/
import Derived.Test.YtjfiknnclkilbaaChecked
import GoSem.Claim
import GoSem.ClaimJoined
import GoSem.ClaimMapViews
import Derived.JoinedTies
import Derived.KernelRfl
namespace Go.Proofs.Ytjfiknnclkilbaa
/- THE CELL 'sum', in the pinned program and in every row, IS THE sha256 OF THE DUMP (.gsa) THAT YtjfiknnclkilbaaProg.lean LOADS. Nothing in Lean hashes anything: it is a label: what it is worth is what the hold of that sum in a sandbox is worth. -/
noncomputable def Try.pinned : Pinned := { name := "ytjfiknnclkilbaa", sum := "9d91a42c90436d2edd0f9660a6c7dd3915a96b3b371bcafe23aa49e2964ff8b4", checked := Try.checked }
namespace Rows
def none {H : Type} : Left H := { results := [], args := [] }

/-- 'laws.FnExactTemposValid': WHATEVER THE INPUT: true; the input reads as it did. -/
def fnExactTemposValidSpec : ChangeSpec := { name := "fnExactTemposValid", fn := fun _ => fun
  | [d] => { results := [.lit (.bool true)], args := [d] }
  | _ => none }
def fnExactTemposValidRow : OpenClaim := { program := "ytjfiknnclkilbaa", sum := "9d91a42c90436d2edd0f9660a6c7dd3915a96b3b371bcafe23aa49e2964ff8b4", func := "loop.example/musicengine/laws.FnExactTemposValid", spec := "fnExactTemposValid", apart := false }
def FnExactTemposValidSaid : Prop := fnExactTemposValidRow.holds Try.pinned (OpenSpec.ofChange fnExactTemposValidSpec)

/-- ITS FALSE NEIGHBOUR: 'it returns false'. Refute it at one input. -/
def fnExactTemposValidWrong : ChangeSpec := { name := "fnExactTemposValid", fn := fun _ => fun
  | [d] => { results := [.lit (.bool false)], args := [d] }
  | _ => none }
def FnExactTemposValidWrongFalsely : Prop := fnExactTemposValidRow.holds Try.pinned (OpenSpec.ofChange fnExactTemposValidWrong)

/-- 'laws.FnExactEventsValid': WHATEVER THE INPUT: true; the input reads as it did. -/
def fnExactEventsValidSpec : ChangeSpec := { name := "fnExactEventsValid", fn := fun _ => fun
  | [d] => { results := [.lit (.bool true)], args := [d] }
  | _ => none }
def fnExactEventsValidRow : OpenClaim := { program := "ytjfiknnclkilbaa", sum := "9d91a42c90436d2edd0f9660a6c7dd3915a96b3b371bcafe23aa49e2964ff8b4", func := "loop.example/musicengine/laws.FnExactEventsValid", spec := "fnExactEventsValid", apart := false }
def FnExactEventsValidSaid : Prop := fnExactEventsValidRow.holds Try.pinned (OpenSpec.ofChange fnExactEventsValidSpec)

/-- ITS FALSE NEIGHBOUR: 'it returns false'. Refute it at one input. -/
def fnExactEventsValidWrong : ChangeSpec := { name := "fnExactEventsValid", fn := fun _ => fun
  | [d] => { results := [.lit (.bool false)], args := [d] }
  | _ => none }
def FnExactEventsValidWrongFalsely : Prop := fnExactEventsValidRow.holds Try.pinned (OpenSpec.ofChange fnExactEventsValidWrong)

/-- 'laws.FnTemposValid': WHATEVER THE INPUT: true; the input reads as it did. -/
def fnTemposValidSpec : ChangeSpec := { name := "fnTemposValid", fn := fun _ => fun
  | [d] => { results := [.lit (.bool true)], args := [d] }
  | _ => none }
def fnTemposValidRow : OpenClaim := { program := "ytjfiknnclkilbaa", sum := "9d91a42c90436d2edd0f9660a6c7dd3915a96b3b371bcafe23aa49e2964ff8b4", func := "loop.example/musicengine/laws.FnTemposValid", spec := "fnTemposValid", apart := false }
def FnTemposValidSaid : Prop := fnTemposValidRow.holds Try.pinned (OpenSpec.ofChange fnTemposValidSpec)

/-- ITS FALSE NEIGHBOUR: 'it returns false'. Refute it at one input. -/
def fnTemposValidWrong : ChangeSpec := { name := "fnTemposValid", fn := fun _ => fun
  | [d] => { results := [.lit (.bool false)], args := [d] }
  | _ => none }
def FnTemposValidWrongFalsely : Prop := fnTemposValidRow.holds Try.pinned (OpenSpec.ofChange fnTemposValidWrong)

/-- 'laws.FnExactTimeOf': WHATEVER THE INPUT: true; the input reads as it did. -/
def fnExactTimeOfSpec : ChangeSpec := { name := "fnExactTimeOf", fn := fun _ => fun
  | [d1, d2] => { results := [.lit (.bool true)], args := [d1, d2] }
  | _ => none }
def fnExactTimeOfRow : OpenClaim := { program := "ytjfiknnclkilbaa", sum := "9d91a42c90436d2edd0f9660a6c7dd3915a96b3b371bcafe23aa49e2964ff8b4", func := "loop.example/musicengine/laws.FnExactTimeOf", spec := "fnExactTimeOf", apart := false }
def FnExactTimeOfSaid : Prop := fnExactTimeOfRow.holds Try.pinned (OpenSpec.ofChange fnExactTimeOfSpec)

/-- ITS FALSE NEIGHBOUR: 'it returns false'. Refute it at one input. -/
def fnExactTimeOfWrong : ChangeSpec := { name := "fnExactTimeOf", fn := fun _ => fun
  | [d1, d2] => { results := [.lit (.bool false)], args := [d1, d2] }
  | _ => none }
def FnExactTimeOfWrongFalsely : Prop := fnExactTimeOfRow.holds Try.pinned (OpenSpec.ofChange fnExactTimeOfWrong)

/-- 'laws.FnExactTickOf': WHATEVER THE INPUT: true; the input reads as it did. -/
def fnExactTickOfSpec : ChangeSpec := { name := "fnExactTickOf", fn := fun _ => fun
  | [d1, d2] => { results := [.lit (.bool true)], args := [d1, d2] }
  | _ => none }
def fnExactTickOfRow : OpenClaim := { program := "ytjfiknnclkilbaa", sum := "9d91a42c90436d2edd0f9660a6c7dd3915a96b3b371bcafe23aa49e2964ff8b4", func := "loop.example/musicengine/laws.FnExactTickOf", spec := "fnExactTickOf", unfollowed := true, recurses := true, apart := false }
def FnExactTickOfSaid : Prop := fnExactTickOfRow.holds Try.pinned (OpenSpec.ofChange fnExactTickOfSpec)

/-- ITS FALSE NEIGHBOUR: 'it returns false'. Refute it at one input. -/
def fnExactTickOfWrong : ChangeSpec := { name := "fnExactTickOf", fn := fun _ => fun
  | [d1, d2] => { results := [.lit (.bool false)], args := [d1, d2] }
  | _ => none }
def FnExactTickOfWrongFalsely : Prop := fnExactTickOfRow.holds Try.pinned (OpenSpec.ofChange fnExactTickOfWrong)

/-- 'laws.FnTimeOf': WHATEVER THE INPUT: true; the input reads as it did. -/
def fnTimeOfSpec : ChangeSpec := { name := "fnTimeOf", fn := fun _ => fun
  | [d] => { results := [.lit (.bool true)], args := [d] }
  | _ => none }
def fnTimeOfRow : OpenClaim := { program := "ytjfiknnclkilbaa", sum := "9d91a42c90436d2edd0f9660a6c7dd3915a96b3b371bcafe23aa49e2964ff8b4", func := "loop.example/musicengine/laws.FnTimeOf", spec := "fnTimeOf", unfollowed := true, recurses := true, apart := false }
def FnTimeOfSaid : Prop := fnTimeOfRow.holds Try.pinned (OpenSpec.ofChange fnTimeOfSpec)

/-- ITS FALSE NEIGHBOUR: 'it returns false'. Refute it at one input. -/
def fnTimeOfWrong : ChangeSpec := { name := "fnTimeOf", fn := fun _ => fun
  | [d] => { results := [.lit (.bool false)], args := [d] }
  | _ => none }
def FnTimeOfWrongFalsely : Prop := fnTimeOfRow.holds Try.pinned (OpenSpec.ofChange fnTimeOfWrong)

/-- 'laws.FnTickOf': WHATEVER THE INPUT: true; the input reads as it did. -/
def fnTickOfSpec : ChangeSpec := { name := "fnTickOf", fn := fun _ => fun
  | [d] => { results := [.lit (.bool true)], args := [d] }
  | _ => none }
def fnTickOfRow : OpenClaim := { program := "ytjfiknnclkilbaa", sum := "9d91a42c90436d2edd0f9660a6c7dd3915a96b3b371bcafe23aa49e2964ff8b4", func := "loop.example/musicengine/laws.FnTickOf", spec := "fnTickOf", unfollowed := true, recurses := true, apart := false }
def FnTickOfSaid : Prop := fnTickOfRow.holds Try.pinned (OpenSpec.ofChange fnTickOfSpec)

/-- ITS FALSE NEIGHBOUR: 'it returns false'. Refute it at one input. -/
def fnTickOfWrong : ChangeSpec := { name := "fnTickOf", fn := fun _ => fun
  | [d] => { results := [.lit (.bool false)], args := [d] }
  | _ => none }
def FnTickOfWrongFalsely : Prop := fnTickOfRow.holds Try.pinned (OpenSpec.ofChange fnTickOfWrong)

/-- 'laws.FnEventsValid': WHATEVER THE INPUT: true; the input reads as it did. -/
def fnEventsValidSpec : ChangeSpec := { name := "fnEventsValid", fn := fun _ => fun
  | [d] => { results := [.lit (.bool true)], args := [d] }
  | _ => none }
def fnEventsValidRow : OpenClaim := { program := "ytjfiknnclkilbaa", sum := "9d91a42c90436d2edd0f9660a6c7dd3915a96b3b371bcafe23aa49e2964ff8b4", func := "loop.example/musicengine/laws.FnEventsValid", spec := "fnEventsValid", apart := false }
def FnEventsValidSaid : Prop := fnEventsValidRow.holds Try.pinned (OpenSpec.ofChange fnEventsValidSpec)

/-- ITS FALSE NEIGHBOUR: 'it returns false'. Refute it at one input. -/
def fnEventsValidWrong : ChangeSpec := { name := "fnEventsValid", fn := fun _ => fun
  | [d] => { results := [.lit (.bool false)], args := [d] }
  | _ => none }
def FnEventsValidWrongFalsely : Prop := fnEventsValidRow.holds Try.pinned (OpenSpec.ofChange fnEventsValidWrong)

/-- 'laws.FnPerform': WHATEVER THE INPUT: true; the input reads as it did. -/
def fnPerformSpec : ChangeSpec := { name := "fnPerform", fn := fun _ => fun
  | [d] => { results := [.lit (.bool true)], args := [d] }
  | _ => none }
def fnPerformRow : OpenClaim := { program := "ytjfiknnclkilbaa", sum := "9d91a42c90436d2edd0f9660a6c7dd3915a96b3b371bcafe23aa49e2964ff8b4", func := "loop.example/musicengine/laws.FnPerform", spec := "fnPerform", unfollowed := true, recurses := true, apart := false }
def FnPerformSaid : Prop := fnPerformRow.holds Try.pinned (OpenSpec.ofChange fnPerformSpec)

/-- ITS FALSE NEIGHBOUR: 'it returns false'. Refute it at one input. -/
def fnPerformWrong : ChangeSpec := { name := "fnPerform", fn := fun _ => fun
  | [d] => { results := [.lit (.bool false)], args := [d] }
  | _ => none }
def FnPerformWrongFalsely : Prop := fnPerformRow.holds Try.pinned (OpenSpec.ofChange fnPerformWrong)

/- THE SECOND FORM. 'bulk': how many values and letters a reading holds, each counted each time it is reached (what is shared counts as often as it is met; a slice's spare places count too). A statement '..UptoSaid' is the law's where the arguments, and the package variables that the reading takes, are together of bulk at most 1048576: NARROWER than '..Said'. Prove '..Said' where nothing that the law and all that it calls make is longer than what came in: it says more and counts as full. Else prove '..UptoSaid'. A law counts once. -/
mutual
def uptoBulk {H : Type} : DataW H → Nat
  | .lit (.string bytes) => bytes.length + 1
  | .lit _ => 1
  | .nil => 1
  | .ptr d => uptoBulk d + 1
  | .slice elems spare => uptoBulkAll elems + uptoBulkAll spare + 1
  | .agg parts => uptoBulkAll parts + 1
  | .iface _ d => uptoBulk d + 1
  | .map entries => uptoBulkEntries entries + 1
  | .held _ => 1
def uptoBulkAll {H : Type} : List (DataW H) → Nat
  | [] => 0
  | d :: r => uptoBulk d + uptoBulkAll r
def uptoBulkEntries {H : Type} : List (Lit × DataW H) → Nat
  | [] => 0
  | x :: r => uptoBulkEntry x + uptoBulkEntries r
def uptoBulkEntry {H : Type} : Lit × DataW H → Nat
  | (.string bytes, d) => bytes.length + uptoBulk d + 1
  | (_, d) => uptoBulk d + 1
 end
def uptoSmall : (H : Type) → List (DataW H) → Bool := fun _ ds => decide (uptoBulkAll ds ≤ 1048576)
def OpenSpec.upto (s : _root_.Go.ChangeSpec) : _root_.Go.OpenSpec := { _root_.Go.OpenSpec.ofChange s with cond := some uptoSmall }

/-- 'laws.FnExactTemposValid', WHERE WHAT IT READS IS OF BULK AT MOST 1048576: true; the input reads as it did. -/
def fnExactTemposValidUptoRow : OpenClaim := { program := "ytjfiknnclkilbaa", sum := "9d91a42c90436d2edd0f9660a6c7dd3915a96b3b371bcafe23aa49e2964ff8b4", func := "loop.example/musicengine/laws.FnExactTemposValid", spec := "fnExactTemposValid", apart := false, narrowed := true }
def FnExactTemposValidUptoSaid : Prop := fnExactTemposValidUptoRow.holds Try.pinned (OpenSpec.upto fnExactTemposValidSpec)

/-- 'laws.FnExactEventsValid', WHERE WHAT IT READS IS OF BULK AT MOST 1048576: true; the input reads as it did. -/
def fnExactEventsValidUptoRow : OpenClaim := { program := "ytjfiknnclkilbaa", sum := "9d91a42c90436d2edd0f9660a6c7dd3915a96b3b371bcafe23aa49e2964ff8b4", func := "loop.example/musicengine/laws.FnExactEventsValid", spec := "fnExactEventsValid", apart := false, narrowed := true }
def FnExactEventsValidUptoSaid : Prop := fnExactEventsValidUptoRow.holds Try.pinned (OpenSpec.upto fnExactEventsValidSpec)

/-- 'laws.FnTemposValid', WHERE WHAT IT READS IS OF BULK AT MOST 1048576: true; the input reads as it did. -/
def fnTemposValidUptoRow : OpenClaim := { program := "ytjfiknnclkilbaa", sum := "9d91a42c90436d2edd0f9660a6c7dd3915a96b3b371bcafe23aa49e2964ff8b4", func := "loop.example/musicengine/laws.FnTemposValid", spec := "fnTemposValid", apart := false, narrowed := true }
def FnTemposValidUptoSaid : Prop := fnTemposValidUptoRow.holds Try.pinned (OpenSpec.upto fnTemposValidSpec)

/-- 'laws.FnExactTimeOf', WHERE WHAT IT READS IS OF BULK AT MOST 1048576: true; the input reads as it did. -/
def fnExactTimeOfUptoRow : OpenClaim := { program := "ytjfiknnclkilbaa", sum := "9d91a42c90436d2edd0f9660a6c7dd3915a96b3b371bcafe23aa49e2964ff8b4", func := "loop.example/musicengine/laws.FnExactTimeOf", spec := "fnExactTimeOf", apart := false, narrowed := true }
def FnExactTimeOfUptoSaid : Prop := fnExactTimeOfUptoRow.holds Try.pinned (OpenSpec.upto fnExactTimeOfSpec)

/-- 'laws.FnExactTickOf', WHERE WHAT IT READS IS OF BULK AT MOST 1048576: true; the input reads as it did. -/
def fnExactTickOfUptoRow : OpenClaim := { program := "ytjfiknnclkilbaa", sum := "9d91a42c90436d2edd0f9660a6c7dd3915a96b3b371bcafe23aa49e2964ff8b4", func := "loop.example/musicengine/laws.FnExactTickOf", spec := "fnExactTickOf", unfollowed := true, recurses := true, apart := false, narrowed := true }
def FnExactTickOfUptoSaid : Prop := fnExactTickOfUptoRow.holds Try.pinned (OpenSpec.upto fnExactTickOfSpec)

/-- 'laws.FnTimeOf', WHERE WHAT IT READS IS OF BULK AT MOST 1048576: true; the input reads as it did. -/
def fnTimeOfUptoRow : OpenClaim := { program := "ytjfiknnclkilbaa", sum := "9d91a42c90436d2edd0f9660a6c7dd3915a96b3b371bcafe23aa49e2964ff8b4", func := "loop.example/musicengine/laws.FnTimeOf", spec := "fnTimeOf", unfollowed := true, recurses := true, apart := false, narrowed := true }
def FnTimeOfUptoSaid : Prop := fnTimeOfUptoRow.holds Try.pinned (OpenSpec.upto fnTimeOfSpec)

/-- 'laws.FnTickOf', WHERE WHAT IT READS IS OF BULK AT MOST 1048576: true; the input reads as it did. -/
def fnTickOfUptoRow : OpenClaim := { program := "ytjfiknnclkilbaa", sum := "9d91a42c90436d2edd0f9660a6c7dd3915a96b3b371bcafe23aa49e2964ff8b4", func := "loop.example/musicengine/laws.FnTickOf", spec := "fnTickOf", unfollowed := true, recurses := true, apart := false, narrowed := true }
def FnTickOfUptoSaid : Prop := fnTickOfUptoRow.holds Try.pinned (OpenSpec.upto fnTickOfSpec)

/-- 'laws.FnEventsValid', WHERE WHAT IT READS IS OF BULK AT MOST 1048576: true; the input reads as it did. -/
def fnEventsValidUptoRow : OpenClaim := { program := "ytjfiknnclkilbaa", sum := "9d91a42c90436d2edd0f9660a6c7dd3915a96b3b371bcafe23aa49e2964ff8b4", func := "loop.example/musicengine/laws.FnEventsValid", spec := "fnEventsValid", apart := false, narrowed := true }
def FnEventsValidUptoSaid : Prop := fnEventsValidUptoRow.holds Try.pinned (OpenSpec.upto fnEventsValidSpec)

/-- 'laws.FnPerform', WHERE WHAT IT READS IS OF BULK AT MOST 1048576: true; the input reads as it did. -/
def fnPerformUptoRow : OpenClaim := { program := "ytjfiknnclkilbaa", sum := "9d91a42c90436d2edd0f9660a6c7dd3915a96b3b371bcafe23aa49e2964ff8b4", func := "loop.example/musicengine/laws.FnPerform", spec := "fnPerform", unfollowed := true, recurses := true, apart := false, narrowed := true }
def FnPerformUptoSaid : Prop := fnPerformUptoRow.holds Try.pinned (OpenSpec.upto fnPerformSpec)

end Rows
end Go.Proofs.Ytjfiknnclkilbaa
