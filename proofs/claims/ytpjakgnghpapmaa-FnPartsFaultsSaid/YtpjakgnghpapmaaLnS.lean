/- The faults of a tone and of a step, of the reference: l14One, l14Two. -/
import Derived.Test.YtpjakgnghpapmaaLnA
import Derived.Deep.DeepCutAuto
namespace Go.Proofs.Ytpjakgnghpapmaa
set_option linter.unusedSimpArgs false
set_option linter.unusedVariables false
open Go.RowKit

theorem tnK_1 {x y : Int} {z la : Bool} : tnK false x y z la = 1 := rfl
theorem tnK_3 {x y : Int} {z la : Bool} (h : ¬ (0 ≤ y - x ∧ y - x ≤ 16)) : tnK true x y z la = 3 := by unfold tnK; rw [if_neg (by simp), if_pos h]
theorem tnK_2 {x y : Int} {z la : Bool} (h : 0 ≤ y - x ∧ y - x ≤ 16) (hd : disB (dsI x y % 12) = true) : tnK true x y z la = 2 := by unfold tnK; rw [if_neg (by simp), if_neg (fun c => c h), if_pos hd]
theorem tnK_4 {x y : Int} {z la : Bool} (h : 0 ≤ y - x ∧ y - x ≤ 16) (hd : disB (dsI x y % 12) = false) (he : e4B (dsI x y % 12) z la = true) : tnK true x y z la = 4 := by unfold tnK; rw [if_neg (by simp), if_neg (fun c => c h), if_neg (by rw [hd]; simp), if_pos he]
theorem tnK_0 {x y : Int} {z la : Bool} (h : 0 ≤ y - x ∧ y - x ≤ 16) (hd : disB (dsI x y % 12) = false) (he : e4B (dsI x y % 12) z la = false) : tnK true x y z la = 0 := by unfold tnK; rw [if_neg (by simp), if_neg (fun c => c h), if_neg (by rw [hd]; simp), if_neg (by rw [he]; simp)]
theorem dsI_up {x y : Int} (h : 0 ≤ y - x) : dsI x y = y - x := by unfold dsI; rw [if_pos (by omega)]
theorem stK_7 {x y x' : Int} : stK x y x' y = 7 := by unfold stK; rw [if_pos (by unfold dsI; rw [if_pos (Int.le_refl _)]; omega)]
theorem stK_6 {x y x' y' : Int} (h : 9 < dsI y y') : stK x y x' y' = 6 := by unfold stK; rw [if_neg (by omega), if_pos h]
theorem stK_5 {x y x' y' : Int} (h0 : dsI y y' ≠ 0) (h : ¬ 9 < dsI y y') (h5 : (y - x) % 12 = (y' - x') % 12 ∧ ((y - x) % 12 = 0 ∨ (y - x) % 12 = 7)) : stK x y x' y' = 5 := by unfold stK; rw [if_neg h0, if_neg h, if_pos h5]
theorem stK_0 {x y x' y' : Int} (h0 : dsI y y' ≠ 0) (h : ¬ 9 < dsI y y') (h5 : ¬ ((y - x) % 12 = (y' - x') % 12 ∧ ((y - x) % 12 = 0 ∨ (y - x) % 12 = 7))) : stK x y x' y' = 0 := by unfold stK; rw [if_neg h0, if_neg h, if_neg h5]
theorem tmod12_zero {a b : Int} : (Int.tmod (a - b) 12 = 0) ↔ (a % 12 = b % 12) := by
  have h : Int.tmod (a - b) 12 = 0 ↔ (a - b) % 12 = 0 := by
    rw [← Int.dvd_iff_tmod_eq_zero, Int.dvd_iff_emod_eq_zero]
  rw [h]; omega
end Go.Proofs.Ytpjakgnghpapmaa
