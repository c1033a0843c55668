/- The walk of the law FnExactCountLines: for every input it returns true and turns nothing that was there. -/
import Derived.Test.YtkchlgmlfihkdaaScl
import Derived.Test.YtkchlgmlfihkdaaMkPi
namespace Go.Proofs.Ytkchlgmlfihkdaa.FnExactCountLines
set_option linter.unusedSimpArgs false
set_option linter.unusedVariables false
open Go.RowKit

set_option maxRecDepth 20000 in
set_option maxHeartbeats 8000000 in
theorem walk (f : Int) (l : List Pi) (A : Option Addr) (n c : Nat) (lo hi : Int) (w : World) (_wf : (Lit.int .i64 f).wf = true) (hn : l.length = n) (_hc : n ≤ c) (hm : c ≤ maxLen) (h : RowPi w w.heap.size A l) (_w1 : (Lit.int .i64 lo).wf = true) (_w2 : (Lit.int .i64 hi).wf = true) :
    Calls Try.prog 7 #[.int .i64 f, .slice A n c, .int .i64 lo, .int .i64 hi] w fun e w' => e = .returned (.bool true) ∧ Below w.heap.size w w' := by
  unfold maxLen at hm
  have hn_V := hn
  have h_V := h
  clear hn h
  by_cases hs : n ≤ 1048576
  · obtain ⟨v, hv⟩ : ∃ v, clI f l lo hi = v := ⟨_, rfl⟩
    have HV := Lib.hid hv
    clear hv
    go_enter Try.func7, Try.ntmps7
    have g_V := h_V
    have bw : Below w.heap.size w w := bel_refl w
    have zw : w.heap.size ≤ w.heap.size := Nat.le_refl _
    go_wp2_with (go_at_call 14; go_in)
    refine (toSPi_any _ _ _ l _ hn_V (by omega) (g_V.up zw)).mono ?_
    rintro e1 w1 ⟨A_p, rfl, r_, o_, b1⟩
    rw [hn_V]
    have s_p := SLPi.of r_ (by exact o_)
    clear r_ o_
    have z1 : w.heap.size ≤ w1.heap.size := b1.size
    have g_V := g_V.bel b1 zw
    have bw : Below w.heap.size w w1 := bel_tr bw b1
    have zw : w.heap.size ≤ w1.heap.size := bw.size
    clear b1
    go_wp2_with fail
    refine (scl_val HV.out _ _ _ _ hn_V (by omega) s_p.row).mono ?_
    rintro e2 w2 ⟨rfl, b2⟩
    have z2 : w1.heap.size ≤ w2.heap.size := b2.size
    have s_p := s_p.below b2
    have g_V := g_V.bel b2 zw
    have bw : Below w.heap.size w w2 := bel_tr bw b2
    have zw : w.heap.size ≤ w2.heap.size := bw.size
    clear b2
    go_wp2_with fail
    refine (toSPi_any _ _ _ l _ hn_V (by omega) (g_V.up zw)).mono ?_
    rintro e3 w3 ⟨A_x, rfl, r_, o_, b3⟩
    rw [hn_V]
    have s_x := SLPi.of r_ (by exact o_)
    clear r_ o_
    have z3 : w2.heap.size ≤ w3.heap.size := b3.size
    have s_p := s_p.below b3
    have g_V := g_V.bel b3 zw
    have bw : Below w.heap.size w w3 := bel_tr bw b3
    have zw : w.heap.size ≤ w3.heap.size := bw.size
    clear b3
    go_wp2_with fail
    refine (cl_val HV.out _ _ _ _ hn_V (by omega) s_x.row).mono ?_
    rintro e4 w4 ⟨rfl, b4⟩
    have z4 : w3.heap.size ≤ w4.heap.size := b4.size
    have s_p := s_p.below b4
    have s_x := s_x.below b4
    have g_V := g_V.bel b4 zw
    have bw : Below w.heap.size w w4 := bel_tr bw b4
    have zw : w.heap.size ≤ w4.heap.size := bw.size
    clear b4
    go_wp2_with fail
    refine (toSPi_any _ _ _ l _ hn_V (by omega) (g_V.up zw)).mono ?_
    rintro e5 w5 ⟨A_z, rfl, r_, o_, b5⟩
    rw [hn_V]
    have s_z := SLPi.of r_ (by exact o_)
    clear r_ o_
    have z5 : w4.heap.size ≤ w5.heap.size := b5.size
    have s_p := s_p.below b5
    have s_x := s_x.below b5
    have g_V := g_V.bel b5 zw
    have bw : Below w.heap.size w w5 := bel_tr bw b5
    have zw : w.heap.size ≤ w5.heap.size := bw.size
    clear b5
    go_wp2_with fail
    refine (eqSPi_same _ _ _ _ _ l _ hn_V (by omega) s_x.row s_z.row).mono ?_
    rintro e6 w6 ⟨rfl, b6⟩
    have z6 : w5.heap.size ≤ w6.heap.size := b6.size
    have s_p := s_p.below b6
    have s_x := s_x.below b6
    have s_z := s_z.below b6
    have g_V := g_V.bel b6 zw
    have bw : Below w.heap.size w w6 := bel_tr bw b6
    have zw : w.heap.size ≤ w6.heap.size := bw.size
    clear b6
    go_wp2
    go_ret
    exact ⟨rfl, bw⟩
  · have hs2 : (1048576 : Int) < (n : Int) := by omega
    go_enter Try.func7, Try.ntmps7
    go_wp2_with (go_at_call 14; go_in)
    go_ret
    exact ⟨rfl, bel_refl _⟩


end Go.Proofs.Ytkchlgmlfihkdaa.FnExactCountLines
