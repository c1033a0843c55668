/- The walk of the law FnExactMeetFault: for every input it returns true and turns nothing that was there. -/
import Derived.Test.YtiapfpjggginoaaMf
import Derived.Test.YtiapfpjggginoaaBc
namespace Go.Proofs.Ytiapfpjggginoaa.FnExactMeetFault
set_option linter.unusedSimpArgs false
set_option linter.unusedVariables false
open Go.RowKit

set_option maxRecDepth 20000 in
set_option maxHeartbeats 3000000 in
theorem walk (l : List Nt) (A : Option Addr) (n c : Nat) (l' : List Nt) (A' : Option Addr) (n' c' : Nat) (w : World) (hn : l.length = n) (_hc : n ≤ c) (hm : c ≤ maxLen) (h : RowNt w w.heap.size A l) (hn' : l'.length = n') (_hc' : n' ≤ c') (hm' : c' ≤ maxLen) (h' : RowNt w w.heap.size A' l') :
    Calls Try.prog 5 #[.slice A n c, .slice A' n' c'] w fun e w' => e = .returned (.bool true) ∧ Below w.heap.size w w' := by
  unfold maxLen at hm hm'
  have hn_V := hn
  have h_V := h
  have hn_S := hn'
  have h_S := h'
  clear hn h hn' h'
  by_cases hs : n ≤ 1048576
  · by_cases ht : n + n' ≤ 1048576
    · obtain ⟨r, hR⟩ : ∃ r, mfI l l' r := by obtain ⟨L, hL, _⟩ := mt_ex l l'; exact ⟨_, L, hL, rfl⟩
      have HR := Lib.hid hR
      clear hR
      go_enter Try.func5, Try.ntmps5
      have g_V := h_V
      have g_S := h_S
      have bw : Below w.heap.size w w := bel_refl w
      have zw : w.heap.size ≤ w.heap.size := Nat.le_refl _
      go_wp2_with (go_at_call 10; go_in)
      refine (toSNt_any _ _ _ l _ hn_V (by omega) (g_V.up zw)).mono ?_
      rintro e1 w1 ⟨A_p, rfl, r_, o_, b1⟩
      rw [hn_V]
      have s_p := SLNt.of r_ (by exact o_)
      clear r_ o_
      have z1 : w.heap.size ≤ w1.heap.size := b1.size
      have g_V := g_V.bel b1 zw
      have g_S := g_S.bel b1 zw
      have bw : Below w.heap.size w w1 := bel_tr bw b1
      have zw : w.heap.size ≤ w1.heap.size := bw.size
      clear b1
      go_wp2_with fail
      refine (toSNt_any _ _ _ l' _ hn_S (by omega) (g_S.up zw)).mono ?_
      rintro e2 w2 ⟨A_q, rfl, r_, o_, b2⟩
      rw [hn_S]
      have s_q := SLNt.of r_ (by exact o_)
      clear r_ o_
      have z2 : w1.heap.size ≤ w2.heap.size := b2.size
      have s_p := s_p.below b2
      have g_V := g_V.bel b2 zw
      have g_S := g_S.bel b2 zw
      have bw : Below w.heap.size w w2 := bel_tr bw b2
      have zw : w.heap.size ≤ w2.heap.size := bw.size
      clear b2
      go_wp2_with fail
      refine (smf_val HR.out _ _ _ _ _ _ _ hn_V (by omega) s_p.row hn_S (by omega) s_q.row).mono ?_
      rintro e3 w3 ⟨rfl, b3⟩
      have z3 : w2.heap.size ≤ w3.heap.size := b3.size
      have s_p := s_p.below b3
      have s_q := s_q.below b3
      have g_V := g_V.bel b3 zw
      have g_S := g_S.bel b3 zw
      have bw : Below w.heap.size w w3 := bel_tr bw b3
      have zw : w.heap.size ≤ w3.heap.size := bw.size
      clear b3
      go_wp2_with fail
      refine (toSNt_any _ _ _ l _ hn_V (by omega) (g_V.up zw)).mono ?_
      rintro e4 w4 ⟨A_x, rfl, r_, o_, b4⟩
      rw [hn_V]
      have s_x := SLNt.of r_ (by exact o_)
      clear r_ o_
      have z4 : w3.heap.size ≤ w4.heap.size := b4.size
      have s_p := s_p.below b4
      have s_q := s_q.below b4
      have g_V := g_V.bel b4 zw
      have g_S := g_S.bel b4 zw
      have bw : Below w.heap.size w w4 := bel_tr bw b4
      have zw : w.heap.size ≤ w4.heap.size := bw.size
      clear b4
      go_wp2_with fail
      refine (toSNt_any _ _ _ l' _ hn_S (by omega) (g_S.up zw)).mono ?_
      rintro e5 w5 ⟨A_y, rfl, r_, o_, b5⟩
      rw [hn_S]
      have s_y := SLNt.of r_ (by exact o_)
      clear r_ o_
      have z5 : w4.heap.size ≤ w5.heap.size := b5.size
      have s_p := s_p.below b5
      have s_q := s_q.below b5
      have s_x := s_x.below b5
      have g_V := g_V.bel b5 zw
      have g_S := g_S.bel b5 zw
      have bw : Below w.heap.size w w5 := bel_tr bw b5
      have zw : w.heap.size ≤ w5.heap.size := bw.size
      clear b5
      go_wp2_with fail
      refine (mf_val HR.out _ _ _ _ _ _ _ hn_V (by omega) s_x.row hn_S (by omega) s_y.row).mono ?_
      rintro e6 w6 ⟨rfl, b6⟩
      have z6 : w5.heap.size ≤ w6.heap.size := b6.size
      have s_p := s_p.below b6
      have s_q := s_q.below b6
      have s_x := s_x.below b6
      have s_y := s_y.below b6
      have g_V := g_V.bel b6 zw
      have g_S := g_S.bel b6 zw
      have bw : Below w.heap.size w w6 := bel_tr bw b6
      have zw : w.heap.size ≤ w6.heap.size := bw.size
      clear b6
      go_wp2_with fail
      refine (toSNt_any _ _ _ l _ hn_V (by omega) (g_V.up zw)).mono ?_
      rintro e7 w7 ⟨A_z, rfl, r_, o_, b7⟩
      rw [hn_V]
      have s_z := SLNt.of r_ (by exact o_)
      clear r_ o_
      have z7 : w6.heap.size ≤ w7.heap.size := b7.size
      have s_p := s_p.below b7
      have s_q := s_q.below b7
      have s_x := s_x.below b7
      have s_y := s_y.below b7
      have g_V := g_V.bel b7 zw
      have g_S := g_S.bel b7 zw
      have bw : Below w.heap.size w w7 := bel_tr bw b7
      have zw : w.heap.size ≤ w7.heap.size := bw.size
      clear b7
      go_wp2_with fail
      refine (eqSNt_same _ _ _ _ _ l _ hn_V (by omega) s_x.row s_z.row).mono ?_
      rintro e8 w8 ⟨rfl, b8⟩
      have z8 : w7.heap.size ≤ w8.heap.size := b8.size
      have s_p := s_p.below b8
      have s_q := s_q.below b8
      have s_x := s_x.below b8
      have s_y := s_y.below b8
      have s_z := s_z.below b8
      have g_V := g_V.bel b8 zw
      have g_S := g_S.bel b8 zw
      have bw : Below w.heap.size w w8 := bel_tr bw b8
      have zw : w.heap.size ≤ w8.heap.size := bw.size
      clear b8
      go_wp2_with fail
      refine (toSNt_any _ _ _ l' _ hn_S (by omega) (g_S.up zw)).mono ?_
      rintro e9 w9 ⟨A_u, rfl, r_, o_, b9⟩
      rw [hn_S]
      have s_u := SLNt.of r_ (by exact o_)
      clear r_ o_
      have z9 : w8.heap.size ≤ w9.heap.size := b9.size
      have s_p := s_p.below b9
      have s_q := s_q.below b9
      have s_x := s_x.below b9
      have s_y := s_y.below b9
      have s_z := s_z.below b9
      have g_V := g_V.bel b9 zw
      have g_S := g_S.bel b9 zw
      have bw : Below w.heap.size w w9 := bel_tr bw b9
      have zw : w.heap.size ≤ w9.heap.size := bw.size
      clear b9
      go_wp2_with fail
      refine (eqSNt_same _ _ _ _ _ l' _ hn_S (by omega) s_y.row s_u.row).mono ?_
      rintro e10 w10 ⟨rfl, b10⟩
      have z10 : w9.heap.size ≤ w10.heap.size := b10.size
      have s_p := s_p.below b10
      have s_q := s_q.below b10
      have s_x := s_x.below b10
      have s_y := s_y.below b10
      have s_z := s_z.below b10
      have s_u := s_u.below b10
      have g_V := g_V.bel b10 zw
      have g_S := g_S.bel b10 zw
      have bw : Below w.heap.size w w10 := bel_tr bw b10
      have zw : w.heap.size ≤ w10.heap.size := bw.size
      clear b10
      go_wp2
      go_ret
      exact ⟨rfl, bw⟩
    · have hs2 : ¬ (1048576 : Int) < (n : Int) := by omega
      have hs3 : (1048576 : Int) - (n : Int) < (n' : Int) := by omega
      go_enter Try.func5, Try.ntmps5
      go_wp2_with (go_at_call 10; go_in)
      go_ret
      exact ⟨rfl, bel_refl _⟩
  · have hs2 : (1048576 : Int) < (n : Int) := by omega
    go_enter Try.func5, Try.ntmps5
    go_wp2_with (go_at_call 10; go_in)
    go_ret
    exact ⟨rfl, bel_refl _⟩


end Go.Proofs.Ytiapfpjggginoaa.FnExactMeetFault
