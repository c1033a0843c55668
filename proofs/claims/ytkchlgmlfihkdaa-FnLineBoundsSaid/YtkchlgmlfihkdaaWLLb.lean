/- The walk of the law FnLineBounds: for every input it returns true and turns nothing that was there. -/
import Derived.Test.YtkchlgmlfihkdaaLnL
import Derived.Test.YtkchlgmlfihkdaaSrch
import Derived.Test.YtkchlgmlfihkdaaSpP
namespace Go.Proofs.Ytkchlgmlfihkdaa.FnLineBounds
set_option linter.unusedSimpArgs false
set_option linter.unusedVariables false
open Go.RowKit

set_option maxRecDepth 20000 in
set_option maxHeartbeats 4000000 in
theorem walk (A : Option Addr) (len cap : Nat) (w : World) (h : Cod w A len cap) :
    Calls Try.prog 13 #[.slice A len cap] w fun e w' => e = .returned (.bool true) ∧ Below w.heap.size w w' := by
  by_cases hl : len ≤ 1048576
  · go_enter Try.func13, Try.ntmps13
    go_wp2_with fail
    refine (DrawCompleteLine_any w A len cap h).mono ?_
    rintro e1 w1 ⟨f, A1, c1, l, lo, hi, rfl, lc, cm, l6, ⟨lo0, lo1⟩, ⟨hi0, hi1⟩, hr, bw⟩
    unfold maxLen at cm
    obtain ⟨v, hv⟩ : ∃ v, clI f l lo hi = v := ⟨_, rfl⟩
    have HV := Lib.hid hv
    obtain ⟨Lx, hL⟩ : ∃ L, (lnR f l lo hi 0).getD [] = L := ⟨_, rfl⟩
    obtain ⟨B, hB⟩ : ∃ B, (lnR f l lo hi 0).isSome = B := ⟨_, rfl⟩
    have hLn : Lx.length ≤ 10 := by rw [← hL]; exact lnR_len _ _ _ _ _
    have hBv : decide (0 < v) = B := by rw [← hB, lnR_iff (Int.le_refl 0), hv]
    have HL := Lib.hid hL
    have HB := Lib.hid hB
    have iw1 := IntWalk.i64_in (hi - lo) (by omega)
    have iw2 := IntWalk.i64_in (hi + 1) (by omega)
    cases B
    · clear hL hB hBv hv
      go_wp2_with fail
      refine (cpl_val HL.out HB.out _ _ _ _ rfl (by omega) hr).mono ?_
      rintro e3 w3 ⟨A3, c3, rfl, lc3, cm3, r3, o3, b3⟩
      replace hr := hr.below b3
      replace bw := bel_tr bw b3
      clear b3 o3
      go_wp2_with fail
      refine (scpl_val HL.out HB.out _ _ _ _ rfl (by omega) hr).mono ?_
      rintro e4 w4 ⟨A4, c4, rfl, lc4, cm4, r4, o4, b4⟩
      replace hr := hr.below b4
      replace r3 := r3.below b4
      replace bw := bel_tr bw b4
      clear b4 o4
      go_wp2_with fail
      refine (sp_same _ _ _ _ _ _ _ rfl (by omega) r3 r4).mono ?_
      rintro e5 w5 ⟨rfl, b5⟩
      replace hr := hr.below b5
      replace r3 := r3.below b5
      replace bw := bel_tr bw b5
      clear b5
      go_wp2_with fail
      refine (alive_any _).mono ?_
      rintro e6 w6 ⟨rfl, b6⟩
      replace hr := hr.below b6
      replace bw := bel_tr bw b6
      clear b6
      go_wp2
      go_ret
      exact ⟨rfl, bw⟩
    · have hv0 : 0 < v := of_decide_eq_true hBv
      have ho : opB f l lo hi = true := by
        cases h : opB f l lo hi with
        | true => rfl
        | false => rw [clI_no h] at hv; omega
      by_cases hw : hi - lo < 30 ∧ hi < 107
      · obtain ⟨hw1, hw2⟩ := hw
        obtain ⟨ho2, hle⟩ := clI_wide ho hw1 hw2
        obtain ⟨v2, hv2⟩ : ∃ v2, clI f l lo (hi + 1) = v2 := ⟨_, rfl⟩
        rw [hv, hv2] at hle
        obtain ⟨L2, hL2⟩ : ∃ L, (lnR f l lo (hi + 1) 0).getD [] = L := ⟨_, rfl⟩
        have hB2 : (lnR f l lo (hi + 1) 0).isSome = true := by rw [lnR_iff (Int.le_refl 0), hv2]; exact decide_eq_true (by omega)
        have hL2n : L2.length ≤ 10 := by rw [← hL2]; exact lnR_len _ _ _ _ _
        have HL2 := Lib.hid hL2
        have HB2 := Lib.hid hB2
        have HV2 := Lib.hid hv2
        have hg2 : lgB f l L2 = true := by
          rcases lnR_get hL2 hB2 with ⟨h, _⟩ | ⟨_, h⟩
          · cases h
          · exact h
        have HG2 := Lib.hid hg2
        have hw3 : ¬ 30 ≤ hi - lo := by omega
        have hw4 : ¬ 107 ≤ hi := by omega
        clear hL hB hBv hv ho ho2 hL2 hB2 hv2 hg2
        go_wp2_with fail
        refine (cpl_val HL.out HB.out _ _ _ _ rfl (by omega) hr).mono ?_
        rintro e3 w3 ⟨A3, c3, rfl, lc3, cm3, r3, o3, b3⟩
        replace hr := hr.below b3
        replace bw := bel_tr bw b3
        clear b3 o3
        go_wp2_with fail
        refine (scpl_val HL.out HB.out _ _ _ _ rfl (by omega) hr).mono ?_
        rintro e4 w4 ⟨A4, c4, rfl, lc4, cm4, r4, o4, b4⟩
        replace hr := hr.below b4
        replace r3 := r3.below b4
        replace bw := bel_tr bw b4
        clear b4 o4
        go_wp2_with fail
        refine (sp_same _ _ _ _ _ _ _ rfl (by omega) r3 r4).mono ?_
        rintro e5 w5 ⟨rfl, b5⟩
        replace hr := hr.below b5
        replace r3 := r3.below b5
        replace bw := bel_tr bw b5
        clear b5
        go_wp2_with fail
        refine (cpl_val HL2.out HB2.out _ _ _ _ rfl (by omega) hr).mono ?_
        rintro e6 w6 ⟨A6, c6, rfl, lc6, cm6, r6, o6, b6⟩
        replace hr := hr.below b6
        replace bw := bel_tr bw b6
        clear b6 o6
        go_wp2_with fail
        refine (lg_valX HG2.out _ _ _ _ _ _ _ rfl (by omega) rfl (by omega) hr r6).mono ?_
        rintro e7 w7 ⟨rfl, b7⟩
        replace hr := hr.below b7
        replace bw := bel_tr bw b7
        clear b7
        go_wp2_with fail
        refine (cl_val HV2.out _ _ _ _ rfl (by omega) hr).mono ?_
        rintro e8 w8 ⟨rfl, b8⟩
        replace hr := hr.below b8
        replace bw := bel_tr bw b8
        clear b8
        go_wp2_with fail
        refine (cl_val HV.out _ _ _ _ rfl (by omega) hr).mono ?_
        rintro e9 w9 ⟨rfl, b9⟩
        replace hr := hr.below b9
        replace bw := bel_tr bw b9
        clear b9
        go_wp2
        go_ret
        exact ⟨rfl, bw⟩
      · have hw5 : 30 ≤ hi - lo ∨ (hi - lo < 30 ∧ 107 ≤ hi) := by omega
        clear hL hB hBv hv ho hw
        rcases hw5 with hw1 | ⟨hw1, hw2⟩
        · have hw0 : ¬ hi - lo < 30 := by omega
          go_wp2_with fail
          refine (cpl_val HL.out HB.out _ _ _ _ rfl (by omega) hr).mono ?_
          rintro e3 w3 ⟨A3, c3, rfl, lc3, cm3, r3, o3, b3⟩
          replace hr := hr.below b3
          replace bw := bel_tr bw b3
          clear b3 o3
          go_wp2_with fail
          refine (scpl_val HL.out HB.out _ _ _ _ rfl (by omega) hr).mono ?_
          rintro e4 w4 ⟨A4, c4, rfl, lc4, cm4, r4, o4, b4⟩
          replace hr := hr.below b4
          replace r3 := r3.below b4
          replace bw := bel_tr bw b4
          clear b4 o4
          go_wp2_with fail
          refine (sp_same _ _ _ _ _ _ _ rfl (by omega) r3 r4).mono ?_
          rintro e5 w5 ⟨rfl, b5⟩
          replace hr := hr.below b5
          replace r3 := r3.below b5
          replace bw := bel_tr bw b5
          clear b5
          go_wp2_with fail
          refine (alive_any _).mono ?_
          rintro e6 w6 ⟨rfl, b6⟩
          replace hr := hr.below b6
          replace bw := bel_tr bw b6
          clear b6
          go_wp2
          go_ret
          exact ⟨rfl, bw⟩
        · have hw0 : ¬ 30 ≤ hi - lo := by omega
          go_wp2_with fail
          refine (cpl_val HL.out HB.out _ _ _ _ rfl (by omega) hr).mono ?_
          rintro e3 w3 ⟨A3, c3, rfl, lc3, cm3, r3, o3, b3⟩
          replace hr := hr.below b3
          replace bw := bel_tr bw b3
          clear b3 o3
          go_wp2_with fail
          refine (scpl_val HL.out HB.out _ _ _ _ rfl (by omega) hr).mono ?_
          rintro e4 w4 ⟨A4, c4, rfl, lc4, cm4, r4, o4, b4⟩
          replace hr := hr.below b4
          replace r3 := r3.below b4
          replace bw := bel_tr bw b4
          clear b4 o4
          go_wp2_with fail
          refine (sp_same _ _ _ _ _ _ _ rfl (by omega) r3 r4).mono ?_
          rintro e5 w5 ⟨rfl, b5⟩
          replace hr := hr.below b5
          replace r3 := r3.below b5
          replace bw := bel_tr bw b5
          clear b5
          go_wp2_with fail
          refine (alive_any _).mono ?_
          rintro e6 w6 ⟨rfl, b6⟩
          replace hr := hr.below b6
          replace bw := bel_tr bw b6
          clear b6
          go_wp2
          go_ret
          exact ⟨rfl, bw⟩
  · have hl2 : (1048576 : Int) < (len : Int) := by omega
    go_enter Try.func13, Try.ntmps13
    go_wp2
    go_ret
    exact ⟨rfl, bel_refl _⟩

end Go.Proofs.Ytkchlgmlfihkdaa.FnLineBounds
