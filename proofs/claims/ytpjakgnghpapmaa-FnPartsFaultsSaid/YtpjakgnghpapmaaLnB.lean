/- The faults of a tone and of a step, of the program: what toneFault, stepFault and toneAt answer. -/
import Derived.Test.YtpjakgnghpapmaaLnA
import Derived.Test.YtpjakgnghpapmaaFloat
import Derived.Test.YtpjakgnghpapmaaInv
import Derived.Deep.DeepCutAuto
import Derived.Deep.RegionWith
namespace Go.Proofs.Ytpjakgnghpapmaa
set_option linter.unusedSimpArgs false
set_option linter.unusedVariables false
open Go.RowKit

theorem Blk.s10 {w : World} {P : Nat} {a u : Value} {T : TypeId} (h : Blk w P #[a] T) : Blk (w.setCell ⟨P, 0, none⟩ u) P #[u] T := h.set 0 u
theorem stK_fb {x y x' y' d a b : Int} (hd : dsI y y' = d) (ha : (y - x) % 12 = a) (hb : (y' - x') % 12 = b) : (if (d == 0) = true then (7 : Int) else if decide (9 < d) = true then 6 else if decide (a = b ∧ (a = 0 ∨ a = 7)) = true then 5 else 0) = stK x y x' y' := by
  unfold stK
  rw [hd, ha, hb]
  simp
theorem tnK_fb {ik : Bool} {x y m : Int} {z la : Bool} (hm : dsI x y % 12 = m) : (if (!ik) = true then (1 : Int) else if (!decide (0 ≤ y - x ∧ y - x ≤ 16)) = true then 3 else if disB m = true then 2 else if e4B m z la = true then 4 else 0) = tnK ik x y z la := by
  unfold tnK
  rw [hm]
  cases ik
  · rfl
  · by_cases h : 0 ≤ y - x ∧ y - x ≤ 16
    · have e : (¬ (0 ≤ y - x ∧ y - x ≤ 16)) = False := eq_false (fun c => c h)
      simp only [decide_eq_true h, e, Bool.not_true, Bool.false_eq_true, Bool.true_eq_false, if_false]
    · have e : (¬ (0 ≤ y - x ∧ y - x ≤ 16)) = True := eq_true h
      simp only [decide_eq_false h, e, Bool.not_true, Bool.not_false, Bool.false_eq_true, Bool.true_eq_false, if_false, if_true]
end Go.Proofs.Ytpjakgnghpapmaa
