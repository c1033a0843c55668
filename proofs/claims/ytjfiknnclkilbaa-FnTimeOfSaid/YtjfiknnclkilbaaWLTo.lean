/- The walk of the law FnTimeOf: for every input it returns true and turns nothing that was there. -/
import Derived.Test.YtjfiknnclkilbaaDrT
import Derived.Test.YtjfiknnclkilbaaTVal
namespace Go.Proofs.Ytjfiknnclkilbaa.FnTimeOf
open Go.RowKit

set_option maxHeartbeats 4000000 in
theorem walk (A : Option Addr) (len cap : Nat) (w : World) (h : Cod w A len cap) :
    Calls Try.prog 8 #[.slice A len cap] w fun e w' => e = .returned (.bool true) ∧ Below w.heap.size w w' := by
  by_cases hl : len ≤ 1048576
  · go_enter Try.func8, Try.ntmps8
    go_wp2_with fail
    refine (DrawTimeOf_any w A len cap h).mono ?_
    rintro e1 w1 ⟨A1, c1, l, t, rfl, lc, cm, l4, t0, t1, hr, b1⟩
    unfold maxLen at cm
    by_cases hv : tvB l = true ∧ 0 ≤ t ∧ t ≤ 50000
    · obtain ⟨hv, v0, v1⟩ := hv
      have hf := tvB_of hv
      have E1 := Lib.hid (show timeOfI l t = timeI l t by unfold timeOfI; rw [if_pos ⟨hv, v0, v1⟩])
      have tb := hf.time_bd t v0 (by omega)
      have st := hf.step t v0
      have tz := hf.zero
      have tp : tickP l (timeI l t) t := ⟨v0, v1, Int.le_refl _, fun _ => by omega⟩
      have E3 := Lib.hid (show tickOfI l (timeI l t) = t by unfold tickOfI; rw [if_pos ⟨hv, tb.1⟩]; exact hf.tickI_eq tp)
      clear tp
      by_cases hz : t = 50000
      · subst hz
        have E2 := Lib.hid (show timeOfI l (50000 + 1) = -1 by unfold timeOfI; rw [if_neg (by omega)])
        generalize timeI l 50000 = n at *
        have HV := Lib.hid hv
        clear hv hf tz
        go_wp2_with fail
        refine (tof_val E1.out _ _ _ _ rfl (by omega) hr).mono ?_
        rintro e2 w2 ⟨rfl, b2⟩
        have hr := hr.below b2
        go_wp2_with fail
        refine (stof_val E1.out _ _ _ _ rfl (by omega) hr).mono ?_
        rintro e3 w3 ⟨rfl, b3⟩
        have hr := hr.below b3
        go_wp2_with fail
        refine (tof_val E2.out _ _ _ _ rfl (by omega) hr).mono ?_
        rintro e4 w4 ⟨rfl, b4⟩
        have hr := hr.below b4
        go_wp2_with fail
        refine (tk_val E3.out _ _ _ _ rfl (by omega) hr).mono ?_
        rintro e5 w5 ⟨rfl, b5⟩
        have hr := hr.below b5
        go_wp2
        go_ret
        exact ⟨rfl, by repeat (first | (with_reducible assumption) | (exact bel_undr (by with_reducible assumption)) | (with_reducible exact bel_refl _) | (with_reducible refine bel_dr ?_) | (with_reducible refine bel_drN ?_ _) | (with_reducible refine bel_al ?_ _) | (refine bel_set ?_ (by first | (simp; done) | (simp; exact Below.size (by assumption)) | (simp; omega)) _) | (with_reducible refine bel_tr ?_ (by assumption)))⟩
      · have hz1 : (t == 50000) = false := by simpa using hz
        have E2 := Lib.hid (show timeOfI l (t + 1) = timeI l (t + 1) by unfold timeOfI; rw [if_pos ⟨hv, by omega, by omega⟩])
        have HV := Lib.hid hv
        by_cases hy : t = 0
        · subst hy
          have E1 := Lib.hid (E1.out.trans tz)
          have E3 := Lib.hid (show tickOfI l 0 = 0 by have := E3.out; rw [tz] at this; exact this)
          have st2 := st
          rw [tz] at st2
          generalize timeI l (0 + 1) = n2 at *
          clear hv hf tz st tb
          go_wp2_with fail
          refine (tof_val E1.out _ _ _ _ rfl (by omega) hr).mono ?_
          rintro e2 w2 ⟨rfl, b2⟩
          have hr := hr.below b2
          go_wp2_with fail
          refine (stof_val E1.out _ _ _ _ rfl (by omega) hr).mono ?_
          rintro e3 w3 ⟨rfl, b3⟩
          have hr := hr.below b3
          go_wp2_with fail
          refine (tof_val E2.out _ _ _ _ rfl (by omega) hr).mono ?_
          rintro e4 w4 ⟨rfl, b4⟩
          have hr := hr.below b4
          go_wp2_with fail
          refine (tk_val E3.out _ _ _ _ rfl (by omega) hr).mono ?_
          rintro e5 w5 ⟨rfl, b5⟩
          have hr := hr.below b5
          go_wp2
          go_ret
          exact ⟨rfl, by repeat (first | (with_reducible assumption) | (exact bel_undr (by with_reducible assumption)) | (with_reducible exact bel_refl _) | (with_reducible refine bel_dr ?_) | (with_reducible refine bel_drN ?_ _) | (with_reducible refine bel_al ?_ _) | (refine bel_set ?_ (by first | (simp; done) | (simp; exact Below.size (by assumption)) | (simp; omega)) _) | (with_reducible refine bel_tr ?_ (by assumption)))⟩
        · have hy1 : 0 < t := by omega
          generalize timeI l (t + 1) = n2 at *
          generalize timeI l t = n at *
          clear hv hf tz hy hz
          go_wp2_with fail
          refine (tof_val E1.out _ _ _ _ rfl (by omega) hr).mono ?_
          rintro e2 w2 ⟨rfl, b2⟩
          have hr := hr.below b2
          go_wp2_with fail
          refine (stof_val E1.out _ _ _ _ rfl (by omega) hr).mono ?_
          rintro e3 w3 ⟨rfl, b3⟩
          have hr := hr.below b3
          go_wp2_with fail
          refine (tof_val E2.out _ _ _ _ rfl (by omega) hr).mono ?_
          rintro e4 w4 ⟨rfl, b4⟩
          have hr := hr.below b4
          go_wp2_with fail
          refine (tk_val E3.out _ _ _ _ rfl (by omega) hr).mono ?_
          rintro e5 w5 ⟨rfl, b5⟩
          have hr := hr.below b5
          go_wp2
          go_ret
          exact ⟨rfl, by repeat (first | (with_reducible assumption) | (exact bel_undr (by with_reducible assumption)) | (with_reducible exact bel_refl _) | (with_reducible refine bel_dr ?_) | (with_reducible refine bel_drN ?_ _) | (with_reducible refine bel_al ?_ _) | (refine bel_set ?_ (by first | (simp; done) | (simp; exact Below.size (by assumption)) | (simp; omega)) _) | (with_reducible refine bel_tr ?_ (by assumption)))⟩
    · have E1 := Lib.hid (show timeOfI l t = -1 by unfold timeOfI; rw [if_neg hv])
      clear hv
      go_wp2_with fail
      refine (tof_val E1.out _ _ _ _ rfl (by omega) hr).mono ?_
      rintro e2 w2 ⟨rfl, b2⟩
      have hr := hr.below b2
      go_wp2_with fail
      refine (stof_val E1.out _ _ _ _ rfl (by omega) hr).mono ?_
      rintro e3 w3 ⟨rfl, b3⟩
      have hr := hr.below b3
      go_wp2_with fail
      refine (alive_any _).mono ?_
      rintro e4 w4 ⟨rfl, b4⟩
      go_wp2
      go_ret
      exact ⟨rfl, by repeat (first | (with_reducible assumption) | (exact bel_undr (by with_reducible assumption)) | (with_reducible exact bel_refl _) | (with_reducible refine bel_dr ?_) | (with_reducible refine bel_drN ?_ _) | (with_reducible refine bel_al ?_ _) | (refine bel_set ?_ (by first | (simp; done) | (simp; exact Below.size (by assumption)) | (simp; omega)) _) | (with_reducible refine bel_tr ?_ (by assumption)))⟩
  · have hl2 : (1048576 : Int) < (len : Int) := by omega
    go_enter Try.func8, Try.ntmps8
    go_wp2
    go_ret
    exact ⟨rfl, bel_refl _⟩

end Go.Proofs.Ytjfiknnclkilbaa.FnTimeOf
