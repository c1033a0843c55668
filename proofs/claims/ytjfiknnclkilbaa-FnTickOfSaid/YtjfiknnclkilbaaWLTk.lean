/- The walk of the law FnTickOf: for every input it returns true and turns nothing that was there. -/
import Derived.Test.YtjfiknnclkilbaaDrT2
import Derived.Test.YtjfiknnclkilbaaTVal
namespace Go.Proofs.Ytjfiknnclkilbaa.FnTickOf
open Go.RowKit

set_option maxHeartbeats 4000000 in
theorem walk (A : Option Addr) (len cap : Nat) (w : World) (h : Cod w A len cap) :
    Calls Try.prog 9 #[.slice A len cap] w fun e w' => e = .returned (.bool true) ∧ Below w.heap.size w w' := by
  by_cases hl : len ≤ 1048576
  · go_enter Try.func9, Try.ntmps9
    go_wp2_with fail
    refine (DrawTickOf_any w A len cap h).mono ?_
    rintro e1 w1 ⟨A1, c1, l, t, rfl, lc, cm, l4, t0, t1, hr, b1⟩
    unfold maxLen at cm
    by_cases hv : tvB l = true ∧ 0 ≤ t
    · obtain ⟨hv, v0⟩ := hv
      have hf := tvB_of hv
      obtain ⟨m0, m1, m2, m3⟩ := hf.tickI_P v0
      have E1 := Lib.hid (show tickOfI l t = tickI l t by unfold tickOfI; rw [if_pos ⟨hv, v0⟩])
      generalize tickI l t = m at *
      have E2 := Lib.hid (show timeOfI l m = timeI l m by unfold timeOfI; rw [if_pos ⟨hv, m0, m1⟩])
      by_cases hz : m = 50000
      · subst hz
        generalize timeI l 50000 = n at *
        clear hv hf m3
        go_wp2_with fail
        refine (tk_val E1.out _ _ _ _ rfl (by omega) hr).mono ?_
        rintro e2 w2 ⟨rfl, b2⟩
        have hr := hr.below b2
        go_wp2_with fail
        refine (stk_val E1.out _ _ _ _ rfl (by omega) hr).mono ?_
        rintro e3 w3 ⟨rfl, b3⟩
        have hr := hr.below b3
        go_wp2_with fail
        refine (tof_val E2.out _ _ _ _ rfl (by omega) hr).mono ?_
        rintro e4 w4 ⟨rfl, b4⟩
        have hr := hr.below b4
        go_wp2
        go_ret
        exact ⟨rfl, by repeat (first | (with_reducible assumption) | (exact bel_undr (by with_reducible assumption)) | (with_reducible exact bel_refl _) | (with_reducible refine bel_dr ?_) | (with_reducible refine bel_drN ?_ _) | (with_reducible refine bel_al ?_ _) | (refine bel_set ?_ (by first | (simp; done) | (simp; exact Below.size (by assumption)) | (simp; omega)) _) | (with_reducible refine bel_tr ?_ (by assumption)))⟩
      · have hz1 : (m == 50000) = false := by simpa using hz
        have m3 := m3 (by omega)
        have E3 := Lib.hid (show timeOfI l (m + 1) = timeI l (m + 1) by unfold timeOfI; rw [if_pos ⟨hv, by omega, by omega⟩])
        generalize timeI l (m + 1) = n2 at *
        generalize timeI l m = n at *
        clear hv hf hz
        go_wp2_with fail
        refine (tk_val E1.out _ _ _ _ rfl (by omega) hr).mono ?_
        rintro e2 w2 ⟨rfl, b2⟩
        have hr := hr.below b2
        go_wp2_with fail
        refine (stk_val E1.out _ _ _ _ rfl (by omega) hr).mono ?_
        rintro e3 w3 ⟨rfl, b3⟩
        have hr := hr.below b3
        go_wp2_with fail
        refine (tof_val E2.out _ _ _ _ rfl (by omega) hr).mono ?_
        rintro e4 w4 ⟨rfl, b4⟩
        have hr := hr.below b4
        go_wp2_with fail
        refine (tof_val E3.out _ _ _ _ rfl (by omega) hr).mono ?_
        rintro e5 w5 ⟨rfl, b5⟩
        have hr := hr.below b5
        go_wp2
        go_ret
        exact ⟨rfl, by repeat (first | (with_reducible assumption) | (exact bel_undr (by with_reducible assumption)) | (with_reducible exact bel_refl _) | (with_reducible refine bel_dr ?_) | (with_reducible refine bel_drN ?_ _) | (with_reducible refine bel_al ?_ _) | (refine bel_set ?_ (by first | (simp; done) | (simp; exact Below.size (by assumption)) | (simp; omega)) _) | (with_reducible refine bel_tr ?_ (by assumption)))⟩
    · have E1 := Lib.hid (show tickOfI l t = -1 by unfold tickOfI; rw [if_neg hv])
      clear hv
      go_wp2_with fail
      refine (tk_val E1.out _ _ _ _ rfl (by omega) hr).mono ?_
      rintro e2 w2 ⟨rfl, b2⟩
      have hr := hr.below b2
      go_wp2_with fail
      refine (stk_val E1.out _ _ _ _ rfl (by omega) hr).mono ?_
      rintro e3 w3 ⟨rfl, b3⟩
      have hr := hr.below b3
      go_wp2_with fail
      refine (alive_any _).mono ?_
      rintro e4 w4 ⟨rfl, b4⟩
      go_wp2
      go_ret
      exact ⟨rfl, by repeat (first | (with_reducible assumption) | (exact bel_undr (by with_reducible assumption)) | (with_reducible exact bel_refl _) | (with_reducible refine bel_dr ?_) | (with_reducible refine bel_drN ?_ _) | (with_reducible refine bel_al ?_ _) | (refine bel_set ?_ (by first | (simp; done) | (simp; exact Below.size (by assumption)) | (simp; omega)) _) | (with_reducible refine bel_tr ?_ (by assumption)))⟩
  · have hl2 : (1048576 : Int) < (len : Int) := by omega
    go_enter Try.func9, Try.ntmps9
    go_wp2
    go_ret
    exact ⟨rfl, bel_refl _⟩

end Go.Proofs.Ytjfiknnclkilbaa.FnTickOf
