/- The walk of the law FnAnswerBack: for every input it returns true and turns nothing that was there. -/
import Derived.Test.YtiofpiljcccneaaDrRa
namespace Go.Proofs.Ytiofpiljcccneaa.FnAnswerBack
set_option linter.unusedSimpArgs false
set_option linter.unusedVariables false
open Go.RowKit

set_option maxRecDepth 20000 in
set_option maxHeartbeats 4000000 in
theorem walk (A : Option Addr) (len cap : Nat) (w : World) (h : Cod w A len cap) :
    Calls Try.prog 3 #[.slice A len cap] w fun e w' => e = .returned (.bool true) ∧ Below w.heap.size w w' := by
  by_cases hl : len ≤ 1048576
  · go_enter Try.func3, Try.ntmps3
    go_wp2_with fail
    refine (DrawRealAnswer_any w A len cap h).mono ?_
    rintro e1 w1 ⟨A1, c1, l, rfl, lc, cm, l7, hr, b1⟩
    unfold maxLen at cm
    cases hB : shB l 4 7
    · obtain ⟨hL, _⟩ : shL l 4 7 = [] ∧ True := ⟨by unfold shL; rw [hB]; rfl, trivial⟩
      have HL := Lib.hid hL
      have HB := Lib.hid hB
      clear hL hB
      go_wp2_with fail
      refine (ra_val HL.out HB.out _ _ _ _ rfl (by omega) hr).mono ?_
      rintro e2 w2 ⟨A2, c2, rfl, lc2, cm2, r2, _, b2⟩
      have hr := hr.below b2
      go_wp2_with fail
      refine (sra_val HL.out HB.out _ _ _ _ rfl (by omega) hr).mono ?_
      rintro e3 w3 ⟨A3, c3, rfl, lc3, cm3, r3, _, b3⟩
      have hr := hr.below b3
      have r2 := r2.below b3
      go_wp2_with fail
      refine (sm_same _ _ _ _ _ _ _ rfl (by simp) r2 r3).mono ?_
      rintro e4 w4 ⟨rfl, b4⟩
      have hr := hr.below b4
      have r2 := r2.below b4
      have r3 := r3.below b4
      go_wp2_with fail
      refine (ra_val rfl rfl _ _ _ _ rfl (by simp) r2).mono ?_
      rintro e5 w5 ⟨A5, c5, rfl, lc5, cm5, r5, _, b5⟩
      have hr := hr.below b5
      have r2 := r2.below b5
      have r3 := r3.below b5
      go_wp2_with fail
      refine (sh_val rfl rfl _ _ _ _ rfl (by omega) hr).mono ?_
      rintro e6 w6 ⟨A6, c6, rfl, lc6, cm6, r6, _, b6⟩
      have hr := hr.below b6
      have r2 := r2.below b6
      have r3 := r3.below b6
      have r5 := r5.below b6
      go_wp2_with fail
      refine (alive_any _).mono ?_
      rintro e7 w7 ⟨rfl, b7⟩
      have hr := hr.below b7
      have r2 := r2.below b7
      have r3 := r3.below b7
      have r5 := r5.below b7
      have r6 := r6.below b7
      go_wp2
      go_ret
      exact ⟨rfl, by repeat (first | (with_reducible assumption) | (exact bel_undr (by with_reducible assumption)) | (with_reducible exact bel_refl _) | (with_reducible refine bel_dr ?_) | (with_reducible refine bel_drN ?_ _) | (with_reducible refine bel_al ?_ _) | (refine bel_set ?_ (by first | (simp; done) | (simp; exact Below.size (by assumption)) | (simp; omega)) _) | (with_reducible refine bel_tr ?_ (by assumption)))⟩
    · have hln : (shL l 4 7).length ≤ 60 := (shL_len _ _ _).1
      have two := sh_two (l := l) (st := 4) (ha := 7) (st' := 4) (ha' := 7) (st2 := 8) (ha2 := 14) rfl rfl (by decide +kernel) hB
      generalize hL : shL l 4 7 = x at two hln
      have HL := Lib.hid hL
      have HB := Lib.hid hB
      have HT := Lib.hid two
      clear hL hB two
      go_wp2_with fail
      refine (ra_val HL.out HB.out _ _ _ _ rfl (by omega) hr).mono ?_
      rintro e2 w2 ⟨A2, c2, rfl, lc2, cm2, r2, _, b2⟩
      have hr := hr.below b2
      go_wp2_with fail
      refine (sra_val HL.out HB.out _ _ _ _ rfl (by omega) hr).mono ?_
      rintro e3 w3 ⟨A3, c3, rfl, lc3, cm3, r3, _, b3⟩
      have hr := hr.below b3
      have r2 := r2.below b3
      go_wp2_with fail
      refine (sm_same _ _ _ _ _ _ _ rfl (by omega) r2 r3).mono ?_
      rintro e4 w4 ⟨rfl, b4⟩
      have hr := hr.below b4
      have r2 := r2.below b4
      have r3 := r3.below b4
      cases hC : shB x 4 7
      · have HC := Lib.hid hC
        clear hC
        go_wp2_with fail
        refine (ra_val rfl HC.out _ _ _ _ rfl (by omega) r2).mono ?_
        rintro e5 w5 ⟨A5, c5, rfl, lc5, cm5, r5, _, b5⟩
        have hr := hr.below b5
        have r2 := r2.below b5
        have r3 := r3.below b5
        go_wp2_with fail
        refine (sh_val rfl rfl _ _ _ _ rfl (by omega) hr).mono ?_
        rintro e6 w6 ⟨A6, c6, rfl, lc6, cm6, r6, _, b6⟩
        have hr := hr.below b6
        have r2 := r2.below b6
        have r3 := r3.below b6
        have r5 := r5.below b6
        go_wp2_with fail
        refine (alive_any _).mono ?_
        rintro e7 w7 ⟨rfl, b7⟩
        have hr := hr.below b7
        have r2 := r2.below b7
        have r3 := r3.below b7
        have r5 := r5.below b7
        have r6 := r6.below b7
        go_wp2
        go_ret
        exact ⟨rfl, by repeat (first | (with_reducible assumption) | (exact bel_undr (by with_reducible assumption)) | (with_reducible exact bel_refl _) | (with_reducible refine bel_dr ?_) | (with_reducible refine bel_drN ?_ _) | (with_reducible refine bel_al ?_ _) | (refine bel_set ?_ (by first | (simp; done) | (simp; exact Below.size (by assumption)) | (simp; omega)) _) | (with_reducible refine bel_tr ?_ (by assumption)))⟩
      · obtain ⟨t1, t2⟩ := HT.out hC
        have hln2 : (shL x 4 7).length ≤ 60 := (shL_len _ _ _).1
        generalize hY : shL x 4 7 = y at t2 hln2
        have H1 := Lib.hid t1
        have H2 := Lib.hid t2
        have HY := Lib.hid hY
        have HC := Lib.hid hC
        clear hC t1 t2 hY
        go_wp2_with fail
        refine (ra_val HY.out HC.out _ _ _ _ rfl (by omega) r2).mono ?_
        rintro e5 w5 ⟨A5, c5, rfl, lc5, cm5, r5, _, b5⟩
        have hr := hr.below b5
        have r2 := r2.below b5
        have r3 := r3.below b5
        go_wp2_with fail
        refine (sh_val H2.out H1.out _ _ _ _ rfl (by omega) hr).mono ?_
        rintro e6 w6 ⟨A6, c6, rfl, lc6, cm6, r6, _, b6⟩
        have hr := hr.below b6
        have r2 := r2.below b6
        have r3 := r3.below b6
        have r5 := r5.below b6
        go_wp2_with fail
        refine (sm_same _ _ _ _ _ _ _ rfl (by omega) r5 r6).mono ?_
        rintro e7 w7 ⟨rfl, b7⟩
        have hr := hr.below b7
        have r2 := r2.below b7
        have r3 := r3.below b7
        have r5 := r5.below b7
        have r6 := r6.below b7
        go_wp2_with fail
        refine (alive_any _).mono ?_
        rintro e8 w8 ⟨rfl, b8⟩
        have hr := hr.below b8
        have r2 := r2.below b8
        have r3 := r3.below b8
        have r5 := r5.below b8
        have r6 := r6.below b8
        go_wp2
        go_ret
        exact ⟨rfl, by repeat (first | (with_reducible assumption) | (exact bel_undr (by with_reducible assumption)) | (with_reducible exact bel_refl _) | (with_reducible refine bel_dr ?_) | (with_reducible refine bel_drN ?_ _) | (with_reducible refine bel_al ?_ _) | (refine bel_set ?_ (by first | (simp; done) | (simp; exact Below.size (by assumption)) | (simp; omega)) _) | (with_reducible refine bel_tr ?_ (by assumption)))⟩
  · have hl2 : (1048576 : Int) < (len : Int) := by omega
    go_enter Try.func3, Try.ntmps3
    go_wp2
    go_ret
    exact ⟨rfl, bel_refl _⟩

end Go.Proofs.Ytiofpiljcccneaa.FnAnswerBack
