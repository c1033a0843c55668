/- PureRatio and FifthsRatio at every number, each as one contract. -/
import Derived.Test.YtgjjoaffmflbgaaPs
namespace Go.Proofs.Ytgjjoaffmflbgaa
set_option linter.unusedSimpArgs false
set_option linter.unusedVariables false
open Go.RowKit

def piB (x : Int) : Bool := decide (-24 ≤ x ∧ x ≤ 24)
def piN (x : Int) : Int := if -24 ≤ x ∧ x ≤ 24 then (if 0 ≤ x then puN x.toNat else puD (-x).toNat) else 0
def piD (x : Int) : Int := if -24 ≤ x ∧ x ≤ 24 then (if 0 ≤ x then puD x.toNat else puN (-x).toNat) else 0
def fiB (x : Int) : Bool := decide (-12 ≤ x ∧ x ≤ 12)
def fiN (x : Int) : Int := if -12 ≤ x ∧ x ≤ 12 then (if 0 ≤ x then p3 x.toNat else p2 ((-x).toNat + fK (-x).toNat)) else 0
def fiD (x : Int) : Int := if -12 ≤ x ∧ x ≤ 12 then (if 0 ≤ x then p2 (x.toNat + fJ x.toNat) else p3 (-x).toNat) else 0

theorem spr_any (x : Int) (w : World) :
    Calls Try.prog 52 #[.int .i64 x] w fun e w' => e = .returned (.tuple #[.agg #[.int .i64 (piN x), .int .i64 (piD x)], .bool (piB x)]) ∧ Below w.heap.size w w' := by
  by_cases h : -24 ≤ x ∧ x ≤ 24
  · have e0 : piB x = true := by unfold piB; exact decide_eq_true h
    rw [e0]
    by_cases h0 : 0 ≤ x
    · obtain ⟨n, rfl⟩ := Int.eq_ofNat_of_zero_le h0
      have := spr_up n w (by omega)
      unfold piN piD
      rw [if_pos h, if_pos h, if_pos h0, if_pos h0, Int.toNat_natCast]
      exact this
    · obtain ⟨n, hn⟩ := Int.eq_ofNat_of_zero_le (show 0 ≤ -x by omega)
      obtain rfl : x = -(n : Int) := by omega
      have := spr_dn n w (by omega) (by omega)
      unfold piN piD
      rw [if_pos h, if_pos h, if_neg h0, if_neg h0, Int.neg_neg, Int.toNat_natCast]
      exact this
  · have e0 : piB x = false := by unfold piB; exact decide_eq_false h
    have e1 : piN x = 0 := by unfold piN; rw [if_neg h]
    have e2 : piD x = 0 := by unfold piD; rw [if_neg h]
    rw [e0, e1, e2]
    exact spr_no x w (by omega)

theorem sfi_any (x : Int) (w : World) :
    Calls Try.prog 53 #[.int .i64 x] w fun e w' => e = .returned (.tuple #[.agg #[.int .i64 (fiN x), .int .i64 (fiD x)], .bool (fiB x)]) ∧ Below w.heap.size w w' := by
  by_cases h : -12 ≤ x ∧ x ≤ 12
  · have e0 : fiB x = true := by unfold fiB; exact decide_eq_true h
    rw [e0]
    by_cases h0 : 0 ≤ x
    · obtain ⟨n, rfl⟩ := Int.eq_ofNat_of_zero_le h0
      have := sfi_up n w (by omega)
      unfold fiN fiD
      rw [if_pos h, if_pos h, if_pos h0, if_pos h0, Int.toNat_natCast]
      exact this
    · obtain ⟨n, hn⟩ := Int.eq_ofNat_of_zero_le (show 0 ≤ -x by omega)
      obtain rfl : x = -(n : Int) := by omega
      have := sfi_dn n w (by omega) (by omega)
      unfold fiN fiD
      rw [if_pos h, if_pos h, if_neg h0, if_neg h0, Int.neg_neg, Int.toNat_natCast]
      exact this
  · have e0 : fiB x = false := by unfold fiB; exact decide_eq_false h
    have e1 : fiN x = 0 := by unfold fiN; rw [if_neg h]
    have e2 : fiD x = 0 := by unfold fiD; rw [if_neg h]
    rw [e0, e1, e2]
    exact sfi_no x w (by omega)

end Go.Proofs.Ytgjjoaffmflbgaa
