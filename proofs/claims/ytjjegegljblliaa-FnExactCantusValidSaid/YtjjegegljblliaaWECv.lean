/- The walk of the law FnExactCantusValid: for every input it returns true and turns nothing that was there. -/
import Derived.Test.YtjjegegljblliaaCantus
namespace Go.Proofs.Ytjjegegljblliaa.FnExactCantusValid
open Go.RowKit

set_option maxHeartbeats 1600000 in
theorem walk (f : Int) (l : List Pi) (A : Option Addr) (n c : Nat) (w : World) (_wf : (Lit.int .i64 f).wf = true) (hn : l.length = n) (_hc : n ≤ c) (hm : c ≤ maxLen) (h : RowPi w w.heap.size A l) :
    Calls Try.prog 3 #[.int .i64 f, .slice A n c] w fun e w' => e = .returned (.bool true) ∧ Below w.heap.size w w' := by
  unfold maxLen at hm
  by_cases hs : n ≤ 1048576
  · go_enter Try.func3, Try.ntmps3
    go_wp2_with (go_at_call 16; go_in)
    refine (toSPi_any _ _ _ l _ hn (by omega) h).mono ?_
    rintro e1 w1 ⟨A1, rfl, r1, o1, b1⟩
    rw [hn]
    have h := h.below b1
    go_wp2_with fail
    refine (scv_any _ _ _ _ l _ hn (by omega) r1).mono ?_
    rintro e2 w2 ⟨rfl, b2⟩
    have h := h.below b2
    go_wp2_with fail
    refine (toSPi_any _ _ _ l _ hn (by omega) h).mono ?_
    rintro e3 w3 ⟨A3, rfl, r3, o3, b3⟩
    rw [hn]
    have h := h.below b3
    go_wp2_with fail
    refine (cv_any _ _ _ _ l _ hn (by omega) r3).mono ?_
    rintro e4 w4 ⟨rfl, b4⟩
    have h := h.below b4
    have r3 := r3.below b4
    go_wp2_with fail
    refine (toSPi_any _ _ _ l _ hn (by omega) h).mono ?_
    rintro e5 w5 ⟨A5, rfl, r5, o5, b5⟩
    rw [hn]
    have r3 := r3.below b5
    go_wp2_with fail
    refine (eqSPi_same _ _ _ _ _ l _ hn (by omega) r3 r5).mono ?_
    rintro e6 w6 ⟨rfl, b6⟩
    go_wp2
    go_ret
    exact ⟨rfl, by repeat (first | (with_reducible assumption) | (exact bel_undr (by with_reducible assumption)) | (with_reducible exact bel_refl _) | (with_reducible refine bel_dr ?_) | (with_reducible refine bel_drN ?_ _) | (with_reducible refine bel_al ?_ _) | (refine bel_set ?_ (by first | (simp; done) | (simp; exact Below.size (by assumption)) | (simp; omega)) _) | (with_reducible refine bel_tr ?_ (by assumption)))⟩
  · have hs2 : (1048576 : Int) < (n : Int) := by omega
    go_enter Try.func3, Try.ntmps3
    go_wp2
    go_ret
    exact ⟨rfl, bel_refl _⟩

end Go.Proofs.Ytjjegegljblliaa.FnExactCantusValid
