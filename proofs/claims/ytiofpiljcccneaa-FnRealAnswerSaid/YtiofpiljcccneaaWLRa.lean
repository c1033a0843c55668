/- The walk of the law FnRealAnswer: for every input it returns true and turns nothing that was there. -/
import Derived.Test.YtiofpiljcccneaaDrRa
namespace Go.Proofs.Ytiofpiljcccneaa.FnRealAnswer
set_option linter.unusedSimpArgs false
set_option linter.unusedVariables false
open Go.RowKit

set_option maxRecDepth 20000 in
set_option maxHeartbeats 4000000 in
theorem walk (A : Option Addr) (len cap : Nat) (w : World) (h : Cod w A len cap) :
    Calls Try.prog 4 #[.slice A len cap] w fun e w' => e = .returned (.bool true) ∧ Below w.heap.size w w' := by
  by_cases hl : len ≤ 1048576
  · go_enter Try.func4, Try.ntmps4
    go_wp2_with fail
    refine (DrawRealAnswer_any w A len cap h).mono ?_
    rintro e1 w1 ⟨A1, c1, l, rfl, lc, cm, l7, hr, b1⟩
    unfold maxLen at cm
    cases hB : shB l 4 7
    · obtain ⟨hL, _⟩ : shL l 4 7 = [] ∧ True := ⟨by unfold shL; rw [hB]; rfl, trivial⟩
      have HL := Lib.hid hL
      have HB := Lib.hid hB
      clear hL hB
      go_wp2_with fail
      refine (ra_val HL.out HB.out _ _ _ _ rfl (by omega) hr).mono ?_
      rintro e2 w2 ⟨A2, c2, rfl, lc2, cm2, r2, _, b2⟩
      have hr := hr.below b2
      go_wp2_with fail
      refine (sra_val HL.out HB.out _ _ _ _ rfl (by omega) hr).mono ?_
      rintro e3 w3 ⟨A3, c3, rfl, lc3, cm3, r3, _, b3⟩
      have hr := hr.below b3
      have r2 := r2.below b3
      go_wp2_with fail
      refine (sm_same _ _ _ _ _ _ _ rfl (by simp) r2 r3).mono ?_
      rintro e4 w4 ⟨rfl, b4⟩
      have hr := hr.below b4
      have r2 := r2.below b4
      have r3 := r3.below b4
      go_wp2_with fail
      refine (alive_any _).mono ?_
      rintro e5 w5 ⟨rfl, b5⟩
      have hr := hr.below b5
      have r2 := r2.below b5
      have r3 := r3.below b5
      go_wp2
      go_ret
      exact ⟨rfl, by repeat (first | (with_reducible assumption) | (exact bel_undr (by with_reducible assumption)) | (with_reducible exact bel_refl _) | (with_reducible refine bel_dr ?_) | (with_reducible refine bel_drN ?_ _) | (with_reducible refine bel_al ?_ _) | (refine bel_set ?_ (by first | (simp; done) | (simp; exact Below.size (by assumption)) | (simp; omega)) _) | (with_reducible refine bel_tr ?_ (by assumption)))⟩
    · obtain ⟨hb1, hb2⟩ := sh_back (st' := -4) (ha' := -7) rfl rfl (by decide +kernel) hB
      have hln : (shL l 4 7).length ≤ 60 := (shL_len _ _ _).1
      generalize hL : shL l 4 7 = x at hb1 hb2 hln
      have HL := Lib.hid hL
      have HB := Lib.hid hB
      have H1 := Lib.hid hb1
      have H2 := Lib.hid hb2
      clear hL hB hb1 hb2
      go_wp2_with fail
      refine (ra_val HL.out HB.out _ _ _ _ rfl (by omega) hr).mono ?_
      rintro e2 w2 ⟨A2, c2, rfl, lc2, cm2, r2, _, b2⟩
      have hr := hr.below b2
      go_wp2_with fail
      refine (sra_val HL.out HB.out _ _ _ _ rfl (by omega) hr).mono ?_
      rintro e3 w3 ⟨A3, c3, rfl, lc3, cm3, r3, _, b3⟩
      have hr := hr.below b3
      have r2 := r2.below b3
      go_wp2_with fail
      refine (sm_same _ _ _ _ _ _ _ rfl (by omega) r2 r3).mono ?_
      rintro e4 w4 ⟨rfl, b4⟩
      have hr := hr.below b4
      have r2 := r2.below b4
      have r3 := r3.below b4
      go_wp2_with fail
      refine (sh_val H2.out H1.out _ _ _ _ rfl (by omega) r2).mono ?_
      rintro e5 w5 ⟨A5, c5, rfl, lc5, cm5, r5, _, b5⟩
      have hr := hr.below b5
      have r2 := r2.below b5
      have r3 := r3.below b5
      go_wp2_with fail
      refine (sm_same _ _ _ _ _ _ _ rfl (by omega) r5 hr).mono ?_
      rintro e6 w6 ⟨rfl, b6⟩
      have hr := hr.below b6
      have r2 := r2.below b6
      have r3 := r3.below b6
      have r5 := r5.below b6
      go_wp2
      go_ret
      exact ⟨rfl, by repeat (first | (with_reducible assumption) | (exact bel_undr (by with_reducible assumption)) | (with_reducible exact bel_refl _) | (with_reducible refine bel_dr ?_) | (with_reducible refine bel_drN ?_ _) | (with_reducible refine bel_al ?_ _) | (refine bel_set ?_ (by first | (simp; done) | (simp; exact Below.size (by assumption)) | (simp; omega)) _) | (with_reducible refine bel_tr ?_ (by assumption)))⟩
  · have hl2 : (1048576 : Int) < (len : Int) := by omega
    go_enter Try.func4, Try.ntmps4
    go_wp2
    go_ret
    exact ⟨rfl, bel_refl _⟩

end Go.Proofs.Ytiofpiljcccneaa.FnRealAnswer
