/- The contracts of times and ticks, with the values that the caller knows. -/
import Derived.Test.YtaieamobjbckdaaTof
import Derived.Test.YtaieamobjbckdaaAlive
namespace Go.Proofs.Ytaieamobjbckdaa
set_option linter.unusedSimpArgs false
set_option linter.unusedVariables false
open Go.RowKit

theorem TvF.tick_ex {l : List Tp} (h : TvF l) {t : Int} (ht : 0 ≤ t) (N : Nat) : ∃ m : Nat, m ≤ N ∧ timeI l m ≤ t ∧ (m < N → t < timeI l ((m : Int) + 1)) := by
  induction N with
  | zero => exact ⟨0, Nat.le_refl _, by rw [show ((0 : Nat) : Int) = 0 from rfl, h.zero]; exact ht, fun c => absurd c (by omega)⟩
  | succ N ih =>
    obtain ⟨m, h1, h2, h3⟩ := ih
    by_cases e : m < N
    · exact ⟨m, by omega, h2, fun _ => h3 e⟩
    · by_cases c : t < timeI l ((m : Int) + 1)
      · exact ⟨m, by omega, h2, fun _ => c⟩
      · exact ⟨m + 1, by omega, by rw [show ((m + 1 : Nat) : Int) = (m : Int) + 1 from by omega]; omega, fun d => absurd d (by omega)⟩
theorem TvF.tickI_P {l : List Tp} (h : TvF l) {t : Int} (ht : 0 ≤ t) : tickP l t (tickI l t) := by
  obtain ⟨m, h1, h2, h3⟩ := h.tick_ex ht 50000
  exact Classical.epsilon_spec (p := tickP l t) ⟨(m : Int), by omega, by omega, h2, fun c => h3 (by omega)⟩
end Go.Proofs.Ytaieamobjbckdaa
