/- The walk of the law FnCountLines: for every input it returns true and turns nothing that was there. -/
import Derived.Test.YtkchlgmlfihkdaaLnL
import Derived.Test.YtkchlgmlfihkdaaSrch
namespace Go.Proofs.Ytkchlgmlfihkdaa.FnCountLines
set_option linter.unusedSimpArgs false
set_option linter.unusedVariables false
open Go.RowKit

set_option maxRecDepth 20000 in
set_option maxHeartbeats 4000000 in
theorem walk (A : Option Addr) (len cap : Nat) (w : World) (h : Cod w A len cap) :
    Calls Try.prog 10 #[.slice A len cap] w fun e w' => e = .returned (.bool true) ∧ Below w.heap.size w w' := by
  by_cases hl : len ≤ 1048576
  · go_enter Try.func10, Try.ntmps10
    go_wp2_with fail
    refine (DrawCountLines_any w A len cap h).mono ?_
    rintro e1 w1 ⟨f, A1, c1, l, lo, hi, rfl, lc, cm, l6, ⟨lo0, lo1⟩, ⟨hi0, hi1⟩, hr, bw⟩
    unfold maxLen at cm
    obtain ⟨v, hv⟩ : ∃ v, clI f l lo hi = v := ⟨_, rfl⟩
    have HV := Lib.hid hv
    cases ho : opB f l lo hi
    · have hv1 : v = -1 := by rw [← hv, clI_no ho]
      subst hv1
      clear ho hv
      go_wp2_with fail
      refine (cl_val HV.out _ _ _ _ rfl (by omega) hr).mono ?_
      rintro e2 w2 ⟨rfl, b2⟩
      replace hr := hr.below b2
      replace bw := bel_tr bw b2
      clear b2
      go_wp2_with fail
      refine (scl_val HV.out _ _ _ _ rfl (by omega) hr).mono ?_
      rintro e3 w3 ⟨rfl, b3⟩
      replace hr := hr.below b3
      replace bw := bel_tr bw b3
      clear b3
      go_wp2_with fail
      refine (alive_any _).mono ?_
      rintro e4 w4 ⟨rfl, b4⟩
      replace hr := hr.below b4
      replace bw := bel_tr bw b4
      clear b4
      go_wp2
      go_ret
      exact ⟨rfl, bw⟩
    · have hv0 : 0 ≤ v := by rw [← hv]; exact clI_nn ho
      have hneg : ¬ v < 0 := by omega
      obtain ⟨v2, hv2⟩ : ∃ v2, clI f l lo (hi - 1) = v2 := ⟨_, rfl⟩
      have hle : v2 ≤ v := by rw [← hv, ← hv2]; exact clI_up ho
      have HV2 := Lib.hid hv2
      obtain ⟨Lx, hL⟩ : ∃ L, (lnR f l lo hi 0).getD [] = L := ⟨_, rfl⟩
      obtain ⟨B, hB⟩ : ∃ B, (lnR f l lo hi 0).isSome = B := ⟨_, rfl⟩
      have hBv : decide (0 < v) = B := by rw [← hB, lnR_iff (Int.le_refl 0), hv]
      have HL := Lib.hid hL
      have HB := Lib.hid hB
      have ihi := IntWalk.i64_in (hi - 1) (by omega)
      clear ho hv hv2 hL hB
      go_wp2_with fail
      refine (cl_val HV.out _ _ _ _ rfl (by omega) hr).mono ?_
      rintro e2 w2 ⟨rfl, b2⟩
      replace hr := hr.below b2
      replace bw := bel_tr bw b2
      clear b2
      go_wp2_with fail
      refine (scl_val HV.out _ _ _ _ rfl (by omega) hr).mono ?_
      rintro e3 w3 ⟨rfl, b3⟩
      replace hr := hr.below b3
      replace bw := bel_tr bw b3
      clear b3
      go_wp2_with fail
      refine (cpl_val HL.out HB.out _ _ _ _ rfl (by omega) hr).mono ?_
      rintro e4 w4 ⟨A4, c4, rfl, lc4, cm4, r4, o4, b4⟩
      replace hr := hr.below b4
      replace bw := bel_tr bw b4
      clear b4 r4 o4
      have hbe : (B == decide (0 < v)) = true := by rw [hBv]; simp
      by_cases hh : hi = lo
      · have hhb : (hi == lo) = true := by simpa using hh
        clear hh
        go_wp2
        go_ret
        exact ⟨rfl, bw⟩
      · have hhb : (hi == lo) = false := by simpa using hh
        clear hh
        go_wp2_with fail
        refine (cl_val HV2.out _ _ _ _ rfl (by omega) hr).mono ?_
        rintro e5 w5 ⟨rfl, b5⟩
        replace hr := hr.below b5
        replace bw := bel_tr bw b5
        clear b5
        go_wp2
        go_ret
        exact ⟨rfl, bw⟩
  · have hl2 : (1048576 : Int) < (len : Int) := by omega
    go_enter Try.func10, Try.ntmps10
    go_wp2
    go_ret
    exact ⟨rfl, bel_refl _⟩

end Go.Proofs.Ytkchlgmlfihkdaa.FnCountLines
