/- The walk of the law FnCompleteLine: for every input it returns true and turns nothing that was there. -/
import Derived.Test.YtkchlgmlfihkdaaLnL
import Derived.Test.YtkchlgmlfihkdaaSrch
import Derived.Test.YtkchlgmlfihkdaaSpP
namespace Go.Proofs.Ytkchlgmlfihkdaa.FnCompleteLine
set_option linter.unusedSimpArgs false
set_option linter.unusedVariables false
open Go.RowKit

set_option maxRecDepth 20000 in
set_option maxHeartbeats 4000000 in
theorem walk (A : Option Addr) (len cap : Nat) (w : World) (h : Cod w A len cap) :
    Calls Try.prog 12 #[.slice A len cap] w fun e w' => e = .returned (.bool true) ∧ Below w.heap.size w w' := by
  by_cases hl : len ≤ 1048576
  · go_enter Try.func12, Try.ntmps12
    go_wp2_with fail
    refine (DrawCompleteLine_any w A len cap h).mono ?_
    rintro e1 w1 ⟨f, A1, c1, l, lo, hi, rfl, lc, cm, l6, ⟨lo0, lo1⟩, ⟨hi0, hi1⟩, hr, bw⟩
    unfold maxLen at cm
    obtain ⟨Lx, hL⟩ : ∃ L, (lnR f l lo hi 0).getD [] = L := ⟨_, rfl⟩
    obtain ⟨B, hB⟩ : ∃ B, (lnR f l lo hi 0).isSome = B := ⟨_, rfl⟩
    have hLn : Lx.length ≤ 10 := by rw [← hL]; exact lnR_len _ _ _ _ _
    have HL := Lib.hid hL
    have HB := Lib.hid hB
    rcases lnR_get hL hB with ⟨rfl, hL0⟩ | ⟨rfl, hg⟩
    · subst hL0
      clear hL hB
      go_wp2_with fail
      refine (cpl_val HL.out HB.out _ _ _ _ rfl (by omega) hr).mono ?_
      rintro e3 w3 ⟨A3, c3, rfl, lc3, cm3, r3, o3, b3⟩
      replace hr := hr.below b3
      replace bw := bel_tr bw b3
      clear b3 o3
      go_wp2_with fail
      refine (scpl_val HL.out HB.out _ _ _ _ rfl (by omega) hr).mono ?_
      rintro e4 w4 ⟨A4, c4, rfl, lc4, cm4, r4, o4, b4⟩
      replace hr := hr.below b4
      replace r3 := r3.below b4
      replace bw := bel_tr bw b4
      clear b4 o4
      go_wp2_with fail
      refine (sp_same _ _ _ _ _ _ _ rfl (by omega) r3 r4).mono ?_
      rintro e5 w5 ⟨rfl, b5⟩
      replace hr := hr.below b5
      replace r3 := r3.below b5
      replace bw := bel_tr bw b5
      clear b5
      go_wp2_with fail
      refine (alive_any _).mono ?_
      rintro e6 w6 ⟨rfl, b6⟩
      replace hr := hr.below b6
      replace bw := bel_tr bw b6
      clear b6
      go_wp2
      go_ret
      exact ⟨rfl, bw⟩
    · have HG := Lib.hid hg
      clear hL hB hg
      go_wp2_with fail
      refine (cpl_val HL.out HB.out _ _ _ _ rfl (by omega) hr).mono ?_
      rintro e3 w3 ⟨A3, c3, rfl, lc3, cm3, r3, o3, b3⟩
      replace hr := hr.below b3
      replace bw := bel_tr bw b3
      clear b3 o3
      go_wp2_with fail
      refine (scpl_val HL.out HB.out _ _ _ _ rfl (by omega) hr).mono ?_
      rintro e4 w4 ⟨A4, c4, rfl, lc4, cm4, r4, o4, b4⟩
      replace hr := hr.below b4
      replace r3 := r3.below b4
      replace bw := bel_tr bw b4
      clear b4 o4
      go_wp2_with fail
      refine (sp_same _ _ _ _ _ _ _ rfl (by omega) r3 r4).mono ?_
      rintro e5 w5 ⟨rfl, b5⟩
      replace hr := hr.below b5
      replace r3 := r3.below b5
      replace bw := bel_tr bw b5
      clear b5
      go_wp2_with fail
      refine (ln_val HL.out HB.out _ _ _ _ (by decide) rfl (by omega) hr).mono ?_
      rintro e6 w6 ⟨A6, c6, rfl, lc6, cm6, r6, o6, b6⟩
      replace hr := hr.below b6
      replace r3 := r3.below b6
      replace bw := bel_tr bw b6
      clear b6 o6
      go_wp2_with fail
      refine (lg_valX HG.out _ _ _ _ _ _ _ rfl (by omega) rfl (by omega) hr r3).mono ?_
      rintro e7 w7 ⟨rfl, b7⟩
      replace hr := hr.below b7
      replace r3 := r3.below b7
      replace r6 := r6.below b7
      replace bw := bel_tr bw b7
      clear b7
      go_wp2_with fail
      refine (sp_same _ _ _ _ _ _ _ rfl (by omega) r6 r3).mono ?_
      rintro e8 w8 ⟨rfl, b8⟩
      replace hr := hr.below b8
      replace bw := bel_tr bw b8
      clear b8
      go_wp2
      go_ret
      exact ⟨rfl, bw⟩
  · have hl2 : (1048576 : Int) < (len : Int) := by omega
    go_enter Try.func12, Try.ntmps12
    go_wp2
    go_ret
    exact ⟨rfl, bel_refl _⟩

end Go.Proofs.Ytkchlgmlfihkdaa.FnCompleteLine
