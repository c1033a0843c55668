/- The walk of the law FnExactRealizeFault: for every input it returns true and turns nothing that was there. -/
import Derived.Test.YtpjakgnghpapmaaRfV
import Derived.Test.YtpjakgnghpapmaaBm
import Derived.Test.YtpjakgnghpapmaaToIn
namespace Go.Proofs.Ytpjakgnghpapmaa.FnExactRealizeFault
set_option linter.unusedSimpArgs false
set_option linter.unusedVariables false
open Go.RowKit

set_option maxRecDepth 20000 in
set_option maxHeartbeats 8000000 in
theorem walk (f : Int) (bs : List Pi) (A1 : Option Addr) (n1 c1 : Nat) (gs : List Int) (A2 : Option Addr) (n2 c2 : Nat) (ll : List (List Pi)) (A3 : Option Addr) (n3 c3 : Nat) (w : World) (_wf : (Lit.int .i64 f).wf = true) (hn_B : bs.length = n1) (_hc1 : n1 ≤ c1) (hm1 : c1 ≤ maxLen) (h_B : RowPi w w.heap.size A1 bs) (hn_G : gs.length = n2) (_hc2 : n2 ≤ c2) (hm2 : c2 ≤ maxLen) (h_G : RowIn w w.heap.size A2 gs) (hn_V : ll.length = n3) (_hc3 : n3 ≤ c3) (hm3 : c3 ≤ maxLen) (h_V : RowPP w w.heap.size A3 ll) :
    Calls Try.prog 5 #[.int .i64 f, .slice A1 n1 c1, .slice A2 n2 c2, .slice A3 n3 c3] w fun e w' => e = .returned (.bool true) ∧ Below w.heap.size w w' := by
  unfold maxLen at hm1 hm2 hm3
  by_cases hs2 : n2 ≤ 1048576
  · by_cases hs1 : n1 ≤ 1048576
    · have g_B := h_B
      have g_G := h_G
      have g_V := h_V
      have bw : Below w.heap.size w w := bel_refl w
      have zw : w.heap.size ≤ w.heap.size := Nat.le_refl _
      have i1 : ¬ (1048576 : Int) < (n2 : Int) := by omega
      obtain ⟨lf, hlf⟩ : ∃ lf : Int, (1048576 : Int) - (n1 : Int) = lf := ⟨_, rfl⟩
      have lf0 : 0 ≤ lf := by omega
      have lf1 : lf ≤ 1048576 := by omega
      have lf2 : ¬ lf < 0 := by omega
      go_enter Try.func5, Try.ntmps5
      go_wp2_with fail
      refine (szS_any _ _ _ _ _ (by omega) (by omega) (by omega)).mono ?_
      rintro e1 w1 ⟨he, rfl⟩
      rw [if_neg (by omega), hlf] at he
      subst he
      have HLF := Lib.hid hlf
      clear hlf
      go_wp2_with fail
      refine (szPP_any _ _ _ ll lf _ hn_V (by omega) lf0 lf1 h_V).mono ?_
      rintro e1 w1 ⟨x, rfl, hx, b1⟩
      have z1 : w.heap.size ≤ w1.heap.size := b1.size
      have g_B := g_B.bel b1 zw
      have g_G := g_G.bel b1 zw
      have g_V := g_V.bel b1 zw
      have bw : Below w.heap.size w w1 := bel_tr bw b1
      have zw : w.heap.size ≤ w1.heap.size := bw.size
      clear b1
      rcases hx with rfl | ⟨hx0, hx1⟩
      · go_wp2
        go_ret
        exact ⟨rfl, bw⟩
      · have hbgx : ∀ i, i < ll.length → (atPP ll i).length ≤ 2000000 := fun i hi => by have := totP_ge ll hi; omega
        have HBG := Lib.hid hbgx
        have hns : n3 ≤ 1048576 := by omega
        have hx3 : ¬ x < 0 := by omega
        clear hbgx hx1
        obtain ⟨v, hv⟩ : ∃ v, rfI f bs gs ll = v := ⟨_, rfl⟩
        have HV := Lib.hid hv
        clear hv
        go_wp2_with fail
        refine (toSPi_any _ _ _ bs _ hn_B (by omega) (g_B.up zw)).mono ?_
        rintro e2 w2 ⟨A_p, rfl, r_, o_, b2⟩
        rw [hn_B]
        have s_p := SLPi.of r_ (by exact o_)
        clear r_ o_
        have z2 : w1.heap.size ≤ w2.heap.size := b2.size
        have g_B := g_B.bel b2 zw
        have g_G := g_G.bel b2 zw
        have g_V := g_V.bel b2 zw
        have bw : Below w.heap.size w w2 := bel_tr bw b2
        have zw : w.heap.size ≤ w2.heap.size := bw.size
        clear b2
        go_wp2_with fail
        refine (toSIn_any _ _ _ gs _ hn_G (by omega) (g_G.up zw)).mono ?_
        rintro e3 w3 ⟨A_q, rfl, r_, o_, b3⟩
        rw [hn_G]
        have s_q := SLIn.of r_ (by exact o_)
        clear r_ o_
        have z3 : w2.heap.size ≤ w3.heap.size := b3.size
        have s_p := s_p.below b3
        have g_B := g_B.bel b3 zw
        have g_G := g_G.bel b3 zw
        have g_V := g_V.bel b3 zw
        have bw : Below w.heap.size w w3 := bel_tr bw b3
        have zw : w.heap.size ≤ w3.heap.size := bw.size
        clear b3
        go_wp2_with fail
        refine (toSPP_any _ _ _ ll _ hn_V (by omega) HBG.out (g_V.up zw)).mono ?_
        rintro e4 w4 ⟨A_r, rfl, r_, o_, b4⟩
        rw [hn_V]
        have s_r := SLPP.of r_ o_
        clear r_ o_
        have z4 : w3.heap.size ≤ w4.heap.size := b4.size
        have s_p := s_p.below b4
        have s_q := s_q.below b4
        have g_B := g_B.bel b4 zw
        have g_G := g_G.bel b4 zw
        have g_V := g_V.bel b4 zw
        have bw : Below w.heap.size w w4 := bel_tr bw b4
        have zw : w.heap.size ≤ w4.heap.size := bw.size
        clear b4
        go_wp2_with fail
        refine (srf_val HV.out _ _ _ _ _ _ _ _ _ _ hn_B hn_G hn_V (by omega) (by omega) (by omega) s_p.row s_q.row s_r.row HBG.out).mono ?_
        rintro e5 w5 ⟨rfl, b5⟩
        have z5 : w4.heap.size ≤ w5.heap.size := b5.size
        have s_p := s_p.below b5
        have s_q := s_q.below b5
        have s_r := s_r.below b5
        have g_B := g_B.bel b5 zw
        have g_G := g_G.bel b5 zw
        have g_V := g_V.bel b5 zw
        have bw : Below w.heap.size w w5 := bel_tr bw b5
        have zw : w.heap.size ≤ w5.heap.size := bw.size
        clear b5
        go_wp2_with fail
        refine (toSPi_any _ _ _ bs _ hn_B (by omega) (g_B.up zw)).mono ?_
        rintro e6 w6 ⟨A_x, rfl, r_, o_, b6⟩
        rw [hn_B]
        have s_x := SLPi.of r_ (by exact o_)
        clear r_ o_
        have z6 : w5.heap.size ≤ w6.heap.size := b6.size
        have s_p := s_p.below b6
        have s_q := s_q.below b6
        have s_r := s_r.below b6
        have g_B := g_B.bel b6 zw
        have g_G := g_G.bel b6 zw
        have g_V := g_V.bel b6 zw
        have bw : Below w.heap.size w w6 := bel_tr bw b6
        have zw : w.heap.size ≤ w6.heap.size := bw.size
        clear b6
        go_wp2_with fail
        refine (toSIn_any _ _ _ gs _ hn_G (by omega) (g_G.up zw)).mono ?_
        rintro e7 w7 ⟨A_y, rfl, r_, o_, b7⟩
        rw [hn_G]
        have s_y := SLIn.of r_ (by exact o_)
        clear r_ o_
        have z7 : w6.heap.size ≤ w7.heap.size := b7.size
        have s_p := s_p.below b7
        have s_q := s_q.below b7
        have s_r := s_r.below b7
        have s_x := s_x.below b7
        have g_B := g_B.bel b7 zw
        have g_G := g_G.bel b7 zw
        have g_V := g_V.bel b7 zw
        have bw : Below w.heap.size w w7 := bel_tr bw b7
        have zw : w.heap.size ≤ w7.heap.size := bw.size
        clear b7
        go_wp2_with fail
        refine (toSPP_any _ _ _ ll _ hn_V (by omega) HBG.out (g_V.up zw)).mono ?_
        rintro e8 w8 ⟨A_z, rfl, r_, o_, b8⟩
        rw [hn_V]
        have s_z := SLPP.of r_ o_
        clear r_ o_
        have z8 : w7.heap.size ≤ w8.heap.size := b8.size
        have s_p := s_p.below b8
        have s_q := s_q.below b8
        have s_r := s_r.below b8
        have s_x := s_x.below b8
        have s_y := s_y.below b8
        have g_B := g_B.bel b8 zw
        have g_G := g_G.bel b8 zw
        have g_V := g_V.bel b8 zw
        have bw : Below w.heap.size w w8 := bel_tr bw b8
        have zw : w.heap.size ≤ w8.heap.size := bw.size
        clear b8
        go_wp2_with fail
        refine (rf_val HV.out _ _ _ _ _ _ _ _ _ _ hn_B hn_G hn_V (by omega) (by omega) (by omega) s_x.row s_y.row s_z.row HBG.out).mono ?_
        rintro e9 w9 ⟨rfl, b9⟩
        have z9 : w8.heap.size ≤ w9.heap.size := b9.size
        have s_p := s_p.below b9
        have s_q := s_q.below b9
        have s_r := s_r.below b9
        have s_x := s_x.below b9
        have s_y := s_y.below b9
        have s_z := s_z.below b9
        have g_B := g_B.bel b9 zw
        have g_G := g_G.bel b9 zw
        have g_V := g_V.bel b9 zw
        have bw : Below w.heap.size w w9 := bel_tr bw b9
        have zw : w.heap.size ≤ w9.heap.size := bw.size
        clear b9
        go_wp2_with fail
        refine (toSPi_any _ _ _ bs _ hn_B (by omega) (g_B.up zw)).mono ?_
        rintro e10 w10 ⟨A_a, rfl, r_, o_, b10⟩
        rw [hn_B]
        have s_a := SLPi.of r_ (by exact o_)
        clear r_ o_
        have z10 : w9.heap.size ≤ w10.heap.size := b10.size
        have s_p := s_p.below b10
        have s_q := s_q.below b10
        have s_r := s_r.below b10
        have s_x := s_x.below b10
        have s_y := s_y.below b10
        have s_z := s_z.below b10
        have g_B := g_B.bel b10 zw
        have g_G := g_G.bel b10 zw
        have g_V := g_V.bel b10 zw
        have bw : Below w.heap.size w w10 := bel_tr bw b10
        have zw : w.heap.size ≤ w10.heap.size := bw.size
        clear b10
        go_wp2_with fail
        refine (eqSPi_same _ _ _ _ _ bs _ hn_B (by omega) s_x.row s_a.row).mono ?_
        rintro e11 w11 ⟨rfl, b11⟩
        have z11 : w10.heap.size ≤ w11.heap.size := b11.size
        have s_p := s_p.below b11
        have s_q := s_q.below b11
        have s_r := s_r.below b11
        have s_x := s_x.below b11
        have s_y := s_y.below b11
        have s_z := s_z.below b11
        have s_a := s_a.below b11
        have g_B := g_B.bel b11 zw
        have g_G := g_G.bel b11 zw
        have g_V := g_V.bel b11 zw
        have bw : Below w.heap.size w w11 := bel_tr bw b11
        have zw : w.heap.size ≤ w11.heap.size := bw.size
        clear b11
        go_wp2_with fail
        refine (toSIn_any _ _ _ gs _ hn_G (by omega) (g_G.up zw)).mono ?_
        rintro e12 w12 ⟨A_b, rfl, r_, o_, b12⟩
        rw [hn_G]
        have s_b := SLIn.of r_ (by exact o_)
        clear r_ o_
        have z12 : w11.heap.size ≤ w12.heap.size := b12.size
        have s_p := s_p.below b12
        have s_q := s_q.below b12
        have s_r := s_r.below b12
        have s_x := s_x.below b12
        have s_y := s_y.below b12
        have s_z := s_z.below b12
        have s_a := s_a.below b12
        have g_B := g_B.bel b12 zw
        have g_G := g_G.bel b12 zw
        have g_V := g_V.bel b12 zw
        have bw : Below w.heap.size w w12 := bel_tr bw b12
        have zw : w.heap.size ≤ w12.heap.size := bw.size
        clear b12
        go_wp2_with fail
        refine (eqSIn_same _ _ _ _ _ gs _ hn_G (by omega) s_y.row s_b.row).mono ?_
        rintro e13 w13 ⟨rfl, b13⟩
        have z13 : w12.heap.size ≤ w13.heap.size := b13.size
        have s_p := s_p.below b13
        have s_q := s_q.below b13
        have s_r := s_r.below b13
        have s_x := s_x.below b13
        have s_y := s_y.below b13
        have s_z := s_z.below b13
        have s_a := s_a.below b13
        have s_b := s_b.below b13
        have g_B := g_B.bel b13 zw
        have g_G := g_G.bel b13 zw
        have g_V := g_V.bel b13 zw
        have bw : Below w.heap.size w w13 := bel_tr bw b13
        have zw : w.heap.size ≤ w13.heap.size := bw.size
        clear b13
        go_wp2_with fail
        refine (toSPP_any _ _ _ ll _ hn_V (by omega) HBG.out (g_V.up zw)).mono ?_
        rintro e14 w14 ⟨A_c, rfl, r_, o_, b14⟩
        rw [hn_V]
        have s_c := SLPP.of r_ o_
        clear r_ o_
        have z14 : w13.heap.size ≤ w14.heap.size := b14.size
        have s_p := s_p.below b14
        have s_q := s_q.below b14
        have s_r := s_r.below b14
        have s_x := s_x.below b14
        have s_y := s_y.below b14
        have s_z := s_z.below b14
        have s_a := s_a.below b14
        have s_b := s_b.below b14
        have g_B := g_B.bel b14 zw
        have g_G := g_G.bel b14 zw
        have g_V := g_V.bel b14 zw
        have bw : Below w.heap.size w w14 := bel_tr bw b14
        have zw : w.heap.size ≤ w14.heap.size := bw.size
        clear b14
        go_wp2_with fail
        refine (eqSPP_same _ _ _ _ _ ll _ hn_V (by omega) HBG.out s_z.row s_c.row).mono ?_
        rintro e15 w15 ⟨rfl, b15⟩
        have z15 : w14.heap.size ≤ w15.heap.size := b15.size
        have s_p := s_p.below b15
        have s_q := s_q.below b15
        have s_r := s_r.below b15
        have s_x := s_x.below b15
        have s_y := s_y.below b15
        have s_z := s_z.below b15
        have s_a := s_a.below b15
        have s_b := s_b.below b15
        have s_c := s_c.below b15
        have g_B := g_B.bel b15 zw
        have g_G := g_G.bel b15 zw
        have g_V := g_V.bel b15 zw
        have bw : Below w.heap.size w w15 := bel_tr bw b15
        have zw : w.heap.size ≤ w15.heap.size := bw.size
        clear b15
        go_wp2
        go_ret
        exact ⟨rfl, bw⟩
    · have i1 : ¬ (1048576 : Int) < (n2 : Int) := by omega
      go_enter Try.func5, Try.ntmps5
      go_wp2_with fail
      refine (szS_any _ _ _ _ _ (by omega) (by omega) (by omega)).mono ?_
      rintro e1 w1 ⟨he, rfl⟩
      rw [if_pos (by omega)] at he
      subst he
      go_wp2
      go_ret
      exact ⟨rfl, bel_refl _⟩
  · have i1 : (1048576 : Int) < (n2 : Int) := by omega
    go_enter Try.func5, Try.ntmps5
    go_wp2
    go_ret
    exact ⟨rfl, bel_refl _⟩


end Go.Proofs.Ytpjakgnghpapmaa.FnExactRealizeFault
