/- The walk of the law FnExactTickOf: for every input it returns true and turns nothing that was there. -/
import Derived.Test.YtjfiknnclkilbaaTk
namespace Go.Proofs.Ytjfiknnclkilbaa.FnExactTickOf
open Go.RowKit

set_option maxHeartbeats 1600000 in
theorem walk (l : List Tp) (A : Option Addr) (n c : Nat) (k : Int) (w : World) (hn : l.length = n) (_hc : n ≤ c) (hm : c ≤ maxLen) (h : RowTp w w.heap.size A l) (_wf : (Lit.int .i64 k).wf = true) :
    Calls Try.prog 7 #[.slice A n c, .int .i64 k] w fun e w' => e = .returned (.bool true) ∧ Below w.heap.size w w' := by
  unfold maxLen at hm
  by_cases hs : n ≤ 1048576
  · go_enter Try.func7, Try.ntmps7
    go_wp2_with (go_at_call 12; go_in)
    refine (toSTp_any _ _ _ l _ hn (by omega) h).mono ?_
    rintro e1 w1 ⟨A1, rfl, r1, o1, b1⟩
    rw [hn]
    have h1 := h.below b1
    clear h
    go_wp2_with fail
    refine (stk_any _ _ _ l _ _ hn (by omega) r1).mono ?_
    rintro e2 w2 ⟨rfl, b2⟩
    have h2 := h1.below b2
    clear h1 r1 o1
    go_wp2_with fail
    refine (toSTp_any _ _ _ l _ hn (by omega) h2).mono ?_
    rintro e3 w3 ⟨A3, rfl, r3, o3, b3⟩
    rw [hn]
    have h3 := h2.below b3
    clear h2 o3
    go_wp2_with fail
    refine (tk_any _ _ _ l _ _ hn (by omega) r3).mono ?_
    rintro e4 w4 ⟨rfl, b4⟩
    have h4 := h3.below b4
    have r4 := r3.below b4
    clear h3 r3
    go_wp2_with fail
    refine (toSTp_any _ _ _ l _ hn (by omega) h4).mono ?_
    rintro e5 w5 ⟨A5, rfl, r5, o5, b5⟩
    rw [hn]
    have r6 := r4.below b5
    clear h4 r4 o5
    go_wp2_with fail
    refine (eqSTp_same _ _ _ _ _ l _ hn (by omega) r6 r5).mono ?_
    rintro e6 w6 ⟨rfl, b6⟩
    go_wp2
    go_ret
    exact ⟨rfl, by repeat (first | (with_reducible assumption) | (exact bel_undr (by with_reducible assumption)) | (with_reducible exact bel_refl _) | (with_reducible refine bel_dr ?_) | (with_reducible refine bel_drN ?_ _) | (with_reducible refine bel_al ?_ _) | (refine bel_set ?_ (by first | (simp; done) | (simp; exact Below.size (by assumption)) | (simp; omega)) _) | (with_reducible refine bel_tr ?_ (by assumption)))⟩
  · have hs2 : (1048576 : Int) < (n : Int) := by omega
    go_enter Try.func7, Try.ntmps7
    go_wp2
    go_ret
    exact ⟨rfl, bel_refl _⟩

end Go.Proofs.Ytjfiknnclkilbaa.FnExactTickOf
