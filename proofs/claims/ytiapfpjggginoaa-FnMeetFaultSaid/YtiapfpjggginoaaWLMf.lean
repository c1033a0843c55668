/- The walk of the law FnMeetFault: for every input it returns true and turns nothing that was there. -/
import Derived.Test.YtiapfpjggginoaaDrMf
import Derived.Test.YtiapfpjggginoaaMfV
import Derived.Deep.DeepCutAuto
namespace Go.Proofs.Ytiapfpjggginoaa.FnMeetFault
set_option linter.unusedSimpArgs false
set_option linter.unusedVariables false
open Go.RowKit

set_option maxRecDepth 20000 in
set_option maxHeartbeats 4000000 in
theorem walk (A : Option Addr) (len cap : Nat) (w : World) (h : Cod w A len cap) :
    Calls Try.prog 6 #[.slice A len cap] w fun e w' => e = .returned (.bool true) ∧ Below w.heap.size w w' := by
  by_cases hl : len ≤ 1048576
  · go_enter Try.func6, Try.ntmps6
    go_wp2_with fail
    refine (DrawMeetFault_any w A len cap h).mono ?_
    rintro e1 w1 ⟨A1, c1, l, A2, c2, l', rfl, l7, l72, r1, r2, bw⟩
    obtain ⟨r, hr⟩ : ∃ z, mfF l l' = z := ⟨_, rfl⟩
    have hri : mfI l l' r := by rw [← hr]; exact mfF_ok _ _
    have hb9 := mfF_bd l l'
    rw [hr] at hb9
    have hge : -1 ≤ r := by omega
    have HR := Lib.hid hri
    have HC := Lib.hid hri.comm
    obtain ⟨L6, hL6⟩ : ∃ z, shL l 7 12 = z := ⟨_, rfl⟩
    obtain ⟨B6, hB6⟩ : ∃ z, shB l 7 12 = z := ⟨_, rfl⟩
    have hl6 : L6.length ≤ 60 := by rw [← hL6]; exact (shL_len l 7 12).1
    have HL6 := Lib.hid hL6
    have HB6 := Lib.hid hB6
    clear hr hri hb9 hL6 hB6
    go_wp2_with fail
    refine (mf_val HR.out _ _ _ _ _ _ _ rfl (by omega) r1 rfl (by omega) r2).mono ?_
    rintro e3 w3 ⟨rfl, b3⟩
    have r1 := r1.below b3
    have r2 := r2.below b3
    have bw := bel_tr bw b3
    clear b3
    go_wp2_with fail
    refine (smf_val HR.out _ _ _ _ _ _ _ rfl (by omega) r1 rfl (by omega) r2).mono ?_
    rintro e4 w4 ⟨rfl, b4⟩
    have r1 := r1.below b4
    have r2 := r2.below b4
    have bw := bel_tr bw b4
    clear b4
    go_wp2_with fail
    refine (mf_val HC.out _ _ _ _ _ _ _ rfl (by omega) r2 rfl (by omega) r1).mono ?_
    rintro e5 w5 ⟨rfl, b5⟩
    have r1 := r1.below b5
    have bw := bel_tr bw b5
    clear b5
    go_wp2_with fail
    refine (sh_val HL6.out HB6.out _ _ _ _ rfl (by omega) r1).mono ?_
    rintro e6 w6 ⟨A6, c6, rfl, lc6, cm6, r6, o6, b6⟩
    have r1 := r1.below b6
    have bw := bel_tr bw b6
    clear b6
    clear o6
    go_wp2_with fail
    refine (mf_val (mf_self l) _ _ _ _ _ _ _ rfl (by omega) r1 rfl (by omega) r1).mono ?_
    rintro e7 w7 ⟨rfl, b7⟩
    have r1 := r1.below b7
    have r6 := r6.below b7
    have bw := bel_tr bw b7
    clear b7
    cases B6
    · go_wp2_with fail
      refine (alive_any _).mono ?_
      rintro e9 w9 ⟨rfl, b9⟩
      have bw := bel_tr bw b9
      clear b9
      go_wp2
      go_ret
      exact ⟨rfl, bw⟩
    · have HO := Lib.hid (show mfI l L6 (-1) from by have h9 := mf_oct HB6.out; rw [HL6.out] at h9; exact h9)
      go_wp2_with fail
      refine (mf_val HO.out _ _ _ _ _ _ _ rfl (by omega) r1 rfl (by omega) r6).mono ?_
      rintro e8 w8 ⟨rfl, b8⟩
      have bw := bel_tr bw b8
      clear b8
      go_wp2_with fail
      refine (alive_any _).mono ?_
      rintro e9 w9 ⟨rfl, b9⟩
      have bw := bel_tr bw b9
      clear b9
      go_wp2
      go_ret
      exact ⟨rfl, bw⟩
  · have hl2 : (1048576 : Int) < (len : Int) := by omega
    go_enter Try.func6, Try.ntmps6
    go_wp2
    go_ret
    exact ⟨rfl, bel_refl _⟩

end Go.Proofs.Ytiapfpjggginoaa.FnMeetFault
