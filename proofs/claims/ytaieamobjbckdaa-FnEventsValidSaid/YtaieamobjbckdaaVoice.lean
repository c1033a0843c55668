/- Voices: when one is valid; of the program and of the reference. -/
import Derived.Test.YtaieamobjbckdaaNote
import Derived.Test.YtaieamobjbckdaaHidn
namespace Go.Proofs.Ytaieamobjbckdaa
set_option linter.unusedSimpArgs false
set_option linter.unusedVariables false
open Go.RowKit

def vOk (l : List Nt) (k : Nat) : Prop := nvB (atNt l k) = true ∧ ((atNt l k).tied = true → k + 1 < l.length ∧ (atNt l (k + 1)).rest = false ∧ (atNt l (k + 1)).step = (atNt l k).step ∧ (atNt l (k + 1)).alter = (atNt l k).alter ∧ (atNt l (k + 1)).octave = (atNt l k).octave)
instance (l : List Nt) (k : Nat) : Decidable (vOk l k) := by unfold vOk; infer_instance
def vvB (l : List Nt) : Bool := decide (l.length ≤ 60 ∧ ∀ k, k < l.length → vOk l k)
theorem vvB_no {l : List Nt} (h : ¬ l.length ≤ 60) : vvB l = false := by
  unfold vvB; apply decide_eq_false; rintro ⟨a, _⟩; exact h a
theorem vvB_bad {l : List Nt} (k : Nat) (hk : k < l.length) (h : ¬ vOk l k) : vvB l = false := by
  unfold vvB; apply decide_eq_false; rintro ⟨_, d⟩; exact h (d k hk)
theorem vvB_yes {l : List Nt} (h : l.length ≤ 60) (hk : ∀ k, k < l.length → vOk l k) : vvB l = true := by
  unfold vvB; exact decide_eq_true ⟨h, hk⟩
structure VvF (l : List Nt) : Prop where
  len : l.length ≤ 60
  ok : ∀ k, k < l.length → vOk l k
theorem vvB_of {l : List Nt} (h : vvB l = true) : VvF l := by
  unfold vvB at h
  obtain ⟨a, b⟩ := of_decide_eq_true h
  exact ⟨a, b⟩

end Go.Proofs.Ytaieamobjbckdaa
