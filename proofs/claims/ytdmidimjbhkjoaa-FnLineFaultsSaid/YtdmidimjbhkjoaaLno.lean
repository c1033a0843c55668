/- The line with a number: the program. -/
import Derived.Test.YtdmidimjbhkjoaaCl
import Derived.Deep.DeepCutAuto
import Derived.Deep.CutBlock
namespace Go.Proofs.Ytdmidimjbhkjoaa
set_option linter.unusedSimpArgs false
set_option linter.unusedVariables false
open Go.RowKit

def lnR (f : Int) (c : List Pi) (lo hi num : Int) : Option (List Pi) := if opB f c lo hi = true ∧ 0 ≤ num then lnO f c (tns f lo hi) num else none
theorem lnR_no {f : Int} {c : List Pi} {lo hi num : Int} (h : ¬ (opB f c lo hi = true ∧ 0 ≤ num)) : lnR f c lo hi num = none := if_neg h
theorem lnR_yes {f : Int} {c : List Pi} {lo hi num : Int} (h : opB f c lo hi = true) (h0 : 0 ≤ num) : lnR f c lo hi num = lnO f c (tns f lo hi) num := if_pos ⟨h, h0⟩
/-- a new slice and whether there is one -/
def LnP (w : World) (R : Option (List Pi)) (e : Ending) (w' : World) : Prop :=
  ∃ v, e = .returned (.tuple #[v, .bool R.isSome]) ∧ w'.ownsRow w.heap.size 30 3 v (R.getD []).length (flat csPi (R.getD [])) ∧ Below w.heap.size w w'
def ScS (f : Int) (c T acc : List Pi) (num : Int) (base : Nat) (wx : World) (a o b : Value) : Prop :=
  (∃ (p : Pi) (r : Int), scI (okI c acc) (cnI f c T acc.length) T num = some (p, r) ∧ 0 ≤ r ∧ r ≤ 9223372036854775807 ∧ a = .int .i64 r ∧ b = .bool true ∧ wx.ownsRow base 30 3 o (acc ++ [p]).length (flat csPi (acc ++ [p]))) ∨ (scI (okI c acc) (cnI f c T acc.length) T num = none ∧ b = .bool false)
theorem okI_0 {c acc : List Pi} {p : Pi} (h : acc.length = 0) : okI c acc p = true := decide_eq_true (.inl h)
theorem okI_s {c acc : List Pi} {p : Pi} {k j : Nat} (h : acc.length = k) (hk : k = j + 1) : okI c acc p = (stP c k (atPi acc j) p == 0) := by
  unfold okI
  rw [Bool.eq_iff_iff, h, show k - 1 = j from by omega]
  simp only [decide_eq_true_eq, beq_iff_eq]
  exact ⟨fun x => x.resolve_left (by omega), fun x => .inr x⟩
end Go.Proofs.Ytdmidimjbhkjoaa
