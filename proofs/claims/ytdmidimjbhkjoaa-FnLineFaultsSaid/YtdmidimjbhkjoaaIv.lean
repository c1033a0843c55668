/- Intervals: when one is valid; of the program and of the reference. -/
import Derived.Test.YtdmidimjbhkjoaaPitch
import Derived.Test.YtdmidimjbhkjoaaBlk
namespace Go.Proofs.Ytdmidimjbhkjoaa
set_option linter.unusedSimpArgs false
set_option linter.unusedVariables false
open Go.RowKit

def upS (st ha : Int) : Int := if st < 0 ∨ (st = 0 ∧ ha < 0) then -st else st
def upH (st ha : Int) : Int := if st < 0 ∨ (st = 0 ∧ ha < 0) then -ha else ha
def quI (st ha : Int) : Int := upH st ha - natI (upS st ha)
def ivB (st ha : Int) : Bool := decide ((-21 ≤ st ∧ st ≤ 21) ∧ (-99 ≤ ha ∧ ha ≤ 99) ∧ -3 ≤ quI st ha ∧ quI st ha ≤ 3)
theorem nat21 {s : Int} (h0 : 0 ≤ s) (h1 : s ≤ 21) : 0 ≤ natI s ∧ natI s ≤ 36 := by
  have k : ∀ u : Fin 22, 0 ≤ natI (u.1 : Int) ∧ natI (u.1 : Int) ≤ 36 := by decide +kernel
  have := k ⟨s.toNat, by omega⟩
  rwa [show ((s.toNat : Nat) : Int) = s from by omega] at this
theorem up_bd {st ha : Int} (h : -21 ≤ st ∧ st ≤ 21) : 0 ≤ upS st ha ∧ upS st ha ≤ 21 := by unfold upS; split <;> omega
theorem ivB_iff (st ha : Int) : ivB st ha = decide ((-21 ≤ st ∧ st ≤ 21) ∧ (-60 ≤ ha ∧ ha ≤ 60) ∧ -3 ≤ quI st ha ∧ quI st ha ≤ 3) := by
  unfold ivB
  apply decide_eq_decide.2
  constructor
  · rintro ⟨h1, h2, h3⟩
    have := nat21 (up_bd h1 (ha := ha)).1 (up_bd h1 (ha := ha)).2
    refine ⟨h1, ?_, h3⟩
    unfold quI upH at h3
    split at h3 <;> omega
  · rintro ⟨h1, h2, h3⟩
    exact ⟨h1, by omega, h3⟩
theorem ivB_bd {st ha : Int} (h : ivB st ha = true) : (-21 ≤ st ∧ st ≤ 21) ∧ (-60 ≤ ha ∧ ha ≤ 60) := by
  rw [ivB_iff] at h
  have := of_decide_eq_true h
  exact ⟨this.1, this.2.1⟩
theorem bool_at {P : Program} {f : FuncId} {args : Array Value} {w : World} {b v : Bool} (h : b = v) (H : Calls P f args w fun e w' => e = .returned (.bool v) ∧ Below w.heap.size w w') :
    Calls P f args w fun e w' => e = .returned (.bool b) ∧ Below w.heap.size w w' := by subst h; exact H

end Go.Proofs.Ytdmidimjbhkjoaa
