/- How many lines there are: the program. -/
import Derived.Test.YtdmidimjbhkjoaaLtL
namespace Go.Proofs.Ytdmidimjbhkjoaa
set_option linter.unusedSimpArgs false
set_option linter.unusedVariables false
open Go.RowKit

def clI (f : Int) (c : List Pi) (lo hi : Int) : Int := if opB f c lo hi = true then totI f c (tns f lo hi) else -1
theorem clI_no {f : Int} {c : List Pi} {lo hi : Int} (h : opB f c lo hi = false) : clI f c lo hi = -1 := by unfold clI; rw [if_neg (by rw [h]; simp)]
theorem clI_yes {f : Int} {c : List Pi} {lo hi : Int} (h : opB f c lo hi = true) : clI f c lo hi = totI f c (tns f lo hi) := if_pos h
theorem op_len {f : Int} {c : List Pi} {lo hi : Int} (h : opB f c lo hi = true) : 2 ≤ c.length ∧ c.length ≤ 10 := (cvB_of (opB_of h).1).2.1
theorem totI_bd {f : Int} {c T : List Pi} (hT : T.length ≤ 63) (hc : c.length ≤ 10) : 0 ≤ totI f c T ∧ totI f c T ≤ 984930291881790849 := sum_bd hT (cnI_bd hT hc 0) T.length (Nat.le_refl _)
end Go.Proofs.Ytdmidimjbhkjoaa
