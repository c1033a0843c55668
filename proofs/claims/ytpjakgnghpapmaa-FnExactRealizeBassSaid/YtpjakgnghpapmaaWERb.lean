/- The walk of the law FnExactRealizeBass: for every input it returns true and turns nothing that was there. -/
import Derived.Test.YtpjakgnghpapmaaRzQ
import Derived.Test.YtpjakgnghpapmaaToIn
namespace Go.Proofs.Ytpjakgnghpapmaa.FnExactRealizeBass
set_option linter.unusedSimpArgs false
set_option linter.unusedVariables false
open Go.RowKit

set_option maxRecDepth 20000 in
set_option maxHeartbeats 8000000 in
theorem walk (f : Int) (bs : List Pi) (A1 : Option Addr) (n1 c1 : Nat) (gs : List Int) (A2 : Option Addr) (n2 c2 : Nat) (w : World) (_wf : (Lit.int .i64 f).wf = true) (hn_B : bs.length = n1) (_hc1 : n1 ≤ c1) (hm1 : c1 ≤ maxLen) (h_B : RowPi w w.heap.size A1 bs) (hn_G : gs.length = n2) (_hc2 : n2 ≤ c2) (hm2 : c2 ≤ maxLen) (h_G : RowIn w w.heap.size A2 gs) :
    Calls Try.prog 7 #[.int .i64 f, .slice A1 n1 c1, .slice A2 n2 c2] w fun e w' => e = .returned (.bool true) ∧ Below w.heap.size w w' := by
  unfold maxLen at hm1 hm2
  by_cases hs2 : n2 ≤ 1048576
  · by_cases hs1 : n1 ≤ 1048576
    · have g_B := h_B
      have g_G := h_G
      have bw : Below w.heap.size w w := bel_refl w
      have zw : w.heap.size ≤ w.heap.size := Nat.le_refl _
      have i1 : ¬ (1048576 : Int) < (n2 : Int) := by omega
      obtain ⟨lf, hlf⟩ : ∃ lf : Int, (1048576 : Int) - (n1 : Int) = lf := ⟨_, rfl⟩
      have lf0 : 0 ≤ lf := by omega
      have lf2 : ¬ lf < 0 := by omega
      have lf3 : decide (lf < 0) = false := decide_eq_false lf2
      go_enter Try.func7, Try.ntmps7
      go_wp2_with fail
      refine (szS_any _ _ _ _ _ (by omega) (by omega) (by omega)).mono ?_
      rintro e1 w1 ⟨he, rfl⟩
      rw [if_neg (by omega), hlf] at he
      subst he
      have HLF := Lib.hid hlf
      clear hlf
      obtain ⟨L, hL⟩ : ∃ L, (rbI f bs gs).getD [] = L := ⟨_, rfl⟩
      obtain ⟨B, hB⟩ : ∃ B, (rbI f bs gs).isSome = B := ⟨_, rfl⟩
      have hsm := rb_small hL
      have hLn : L.length ≤ 8 := hsm.1
      have HBG : Hid (∀ i, i < L.length → (atPP L i).length ≤ 2000000) := fun i hi => by rw [hsm.2 i hi]; omega
      have HTOT := Lib.hid (show totP L L.length ≤ 2000000 from by rw [tot_small L hsm.2 _ (Nat.le_refl _)]; omega)
      have HL := Lib.hid hL
      have HB := Lib.hid hB
      clear hL hB hsm
      go_wp2_with fail
      refine (toSPi_any _ _ _ bs _ hn_B (by omega) (g_B.up zw)).mono ?_
      rintro e1 w1 ⟨A_p, rfl, r_, o_, b1⟩
      rw [hn_B]
      have s_p := SLPi.of r_ (by exact o_)
      clear r_ o_
      have z1 : w.heap.size ≤ w1.heap.size := b1.size
      have g_B := g_B.bel b1 zw
      have g_G := g_G.bel b1 zw
      have bw : Below w.heap.size w w1 := bel_tr bw b1
      have zw : w.heap.size ≤ w1.heap.size := bw.size
      clear b1
      go_wp2_with fail
      refine (toSIn_any _ _ _ gs _ hn_G (by omega) (g_G.up zw)).mono ?_
      rintro e2 w2 ⟨A_q, rfl, r_, o_, b2⟩
      rw [hn_G]
      have s_q := SLIn.of r_ (by exact o_)
      clear r_ o_
      have z2 : w1.heap.size ≤ w2.heap.size := b2.size
      have s_p := s_p.below b2
      have g_B := g_B.bel b2 zw
      have g_G := g_G.bel b2 zw
      have bw : Below w.heap.size w w2 := bel_tr bw b2
      have zw : w.heap.size ≤ w2.heap.size := bw.size
      clear b2
      go_wp2_with fail
      refine (srbw_val HL.out HB.out _ _ _ _ _ _ _ hn_B hn_G (by omega) (by omega) s_p.row s_q.row).mono ?_
      rintro e3 w3 ⟨A_w, c_w, rfl, lc_w, cm_w, q_w, b3⟩
      have z3 : w2.heap.size ≤ w3.heap.size := b3.size
      have s_p := s_p.below b3
      have s_q := s_q.below b3
      have g_B := g_B.bel b3 zw
      have g_G := g_G.bel b3 zw
      have bw : Below w.heap.size w w3 := bel_tr bw b3
      have zw : w.heap.size ≤ w3.heap.size := bw.size
      clear b3
      go_wp2_with fail
      refine (toSPi_any _ _ _ bs _ hn_B (by omega) (g_B.up zw)).mono ?_
      rintro e4 w4 ⟨A_x, rfl, r_, o_, b4⟩
      rw [hn_B]
      have s_x := SLPi.of r_ (by exact o_)
      clear r_ o_
      have z4 : w3.heap.size ≤ w4.heap.size := b4.size
      have s_p := s_p.below b4
      have s_q := s_q.below b4
      have g_B := g_B.bel b4 zw
      have g_G := g_G.bel b4 zw
      have q_w := q_w.bel b4 (by omega)
      have bw : Below w.heap.size w w4 := bel_tr bw b4
      have zw : w.heap.size ≤ w4.heap.size := bw.size
      clear b4
      go_wp2_with fail
      refine (toSIn_any _ _ _ gs _ hn_G (by omega) (g_G.up zw)).mono ?_
      rintro e5 w5 ⟨A_y, rfl, r_, o_, b5⟩
      rw [hn_G]
      have s_y := SLIn.of r_ (by exact o_)
      clear r_ o_
      have z5 : w4.heap.size ≤ w5.heap.size := b5.size
      have s_p := s_p.below b5
      have s_q := s_q.below b5
      have s_x := s_x.below b5
      have g_B := g_B.bel b5 zw
      have g_G := g_G.bel b5 zw
      have q_w := q_w.bel b5 (by omega)
      have bw : Below w.heap.size w w5 := bel_tr bw b5
      have zw : w.heap.size ≤ w5.heap.size := bw.size
      clear b5
      go_wp2_with fail
      refine (rbq_val HL.out HB.out _ _ _ _ _ _ _ hn_B hn_G (by omega) (by omega) s_x.row s_y.row).mono ?_
      rintro e6 w6 ⟨A_g, c_g, rfl, lc_g, cm_g, s_g, b6⟩
      have z6 : w5.heap.size ≤ w6.heap.size := b6.size
      have s_p := s_p.below b6
      have s_q := s_q.below b6
      have s_x := s_x.below b6
      have s_y := s_y.below b6
      have g_B := g_B.bel b6 zw
      have g_G := g_G.bel b6 zw
      have q_w := q_w.bel b6 (by omega)
      have bw : Below w.heap.size w w6 := bel_tr bw b6
      have zw : w.heap.size ≤ w6.heap.size := bw.size
      clear b6
      go_wp2_with fail
      refine (eqSPP_same _ _ _ _ _ L _ rfl (by omega) HBG.out s_g.row (q_w.up (by omega))).mono ?_
      rintro e7 w7 ⟨rfl, b7⟩
      have z7 : w6.heap.size ≤ w7.heap.size := b7.size
      have s_p := s_p.below b7
      have s_q := s_q.below b7
      have s_x := s_x.below b7
      have s_y := s_y.below b7
      have s_g := s_g.below b7
      have g_B := g_B.bel b7 zw
      have g_G := g_G.bel b7 zw
      have q_w := q_w.bel b7 (by omega)
      have bw : Below w.heap.size w w7 := bel_tr bw b7
      have zw : w.heap.size ≤ w7.heap.size := bw.size
      clear b7
      go_wp2_with fail
      refine (toSPi_any _ _ _ bs _ hn_B (by omega) (g_B.up zw)).mono ?_
      rintro e8 w8 ⟨A_a, rfl, r_, o_, b8⟩
      rw [hn_B]
      have s_a := SLPi.of r_ (by exact o_)
      clear r_ o_
      have z8 : w7.heap.size ≤ w8.heap.size := b8.size
      have s_p := s_p.below b8
      have s_q := s_q.below b8
      have s_x := s_x.below b8
      have s_y := s_y.below b8
      have s_g := s_g.below b8
      have g_B := g_B.bel b8 zw
      have g_G := g_G.bel b8 zw
      have q_w := q_w.bel b8 (by omega)
      have bw : Below w.heap.size w w8 := bel_tr bw b8
      have zw : w.heap.size ≤ w8.heap.size := bw.size
      clear b8
      go_wp2_with fail
      refine (eqSPi_same _ _ _ _ _ bs _ hn_B (by omega) s_x.row s_a.row).mono ?_
      rintro e9 w9 ⟨rfl, b9⟩
      have z9 : w8.heap.size ≤ w9.heap.size := b9.size
      have s_p := s_p.below b9
      have s_q := s_q.below b9
      have s_x := s_x.below b9
      have s_y := s_y.below b9
      have s_g := s_g.below b9
      have s_a := s_a.below b9
      have g_B := g_B.bel b9 zw
      have g_G := g_G.bel b9 zw
      have q_w := q_w.bel b9 (by omega)
      have bw : Below w.heap.size w w9 := bel_tr bw b9
      have zw : w.heap.size ≤ w9.heap.size := bw.size
      clear b9
      go_wp2_with fail
      refine (toSIn_any _ _ _ gs _ hn_G (by omega) (g_G.up zw)).mono ?_
      rintro e10 w10 ⟨A_b, rfl, r_, o_, b10⟩
      rw [hn_G]
      have s_b := SLIn.of r_ (by exact o_)
      clear r_ o_
      have z10 : w9.heap.size ≤ w10.heap.size := b10.size
      have s_p := s_p.below b10
      have s_q := s_q.below b10
      have s_x := s_x.below b10
      have s_y := s_y.below b10
      have s_g := s_g.below b10
      have s_a := s_a.below b10
      have g_B := g_B.bel b10 zw
      have g_G := g_G.bel b10 zw
      have q_w := q_w.bel b10 (by omega)
      have bw : Below w.heap.size w w10 := bel_tr bw b10
      have zw : w.heap.size ≤ w10.heap.size := bw.size
      clear b10
      go_wp2_with fail
      refine (eqSIn_same _ _ _ _ _ gs _ hn_G (by omega) s_y.row s_b.row).mono ?_
      rintro e11 w11 ⟨rfl, b11⟩
      have z11 : w10.heap.size ≤ w11.heap.size := b11.size
      have s_p := s_p.below b11
      have s_q := s_q.below b11
      have s_x := s_x.below b11
      have s_y := s_y.below b11
      have s_g := s_g.below b11
      have s_a := s_a.below b11
      have s_b := s_b.below b11
      have g_B := g_B.bel b11 zw
      have g_G := g_G.bel b11 zw
      have q_w := q_w.bel b11 (by omega)
      have bw : Below w.heap.size w w11 := bel_tr bw b11
      have zw : w.heap.size ≤ w11.heap.size := bw.size
      clear b11
      go_wp2_with fail
      refine (markSPi_any _ _ _ _ bs 1 _ hn_B (by omega) (by omega) (by omega) s_x.row s_x.own).mono ?_
      rintro e12 w12 ⟨rfl, t12, m_x⟩
      have P12 : ∀ a : Addr, 0 < n1 → _ = some a → _ ≤ a.block ∧ a.block < _ := fun a h0 ha => s_x.place (by omega) ha
      have z12 : w11.heap.size ≤ w12.heap.size := by rw [t12.size]; exact Nat.le_refl _
      have s_p := s_p.trn t12 (fun a h0 ha => by have := P12 a h0 ha; omega)
      have s_q := s_q.trn t12 (fun a h0 ha => by have := P12 a h0 ha; omega)
      have s_y := s_y.trn t12 (fun a h0 ha => by have := P12 a h0 ha; omega)
      have s_g := s_g.trn t12 (fun a h0 ha => by have := P12 a h0 ha; omega)
      have s_a := s_a.trn t12 (fun a h0 ha => by have := P12 a h0 ha; omega)
      have s_b := s_b.trn t12 (fun a h0 ha => by have := P12 a h0 ha; omega)
      have g_B := g_B.trn t12 (fun a h0 ha => by have := P12 a h0 ha; omega) zw
      have g_G := g_G.trn t12 (fun a h0 ha => by have := P12 a h0 ha; omega) zw
      have q_w := q_w.trn t12 (fun a h0 ha => by have := P12 a h0 ha; omega) (by omega)
      have bw : Below w.heap.size w w12 := bel_trn bw t12 (fun a h0 ha => by have := P12 a h0 ha; omega)
      have zw : w.heap.size ≤ w12.heap.size := bw.size
      clear t12 P12 s_x
      obtain ⟨k, hk⟩ : ∃ x : Int, 1 + 3 * (n1 : Int) = x := ⟨_, rfl⟩
      have k0 : ¬ k < 0 := by omega
      have k1 : decide (k < 0) = false := decide_eq_false k0
      have k2 : 0 ≤ k := by omega
      have k3 : k ≤ 50000000 := by omega
      rw [hk]
      have Hk := Lib.hid hk
      clear hk
      have kb : k ≤ 4000000 := by have := Hk.out; omega
      go_wp2_with fail
      refine (markSIn_any _ _ _ _ gs k _ hn_G (by omega) (by omega) (by omega) s_y.row s_y.own).mono ?_
      rintro e13 w13 ⟨rfl, t13, m_y⟩
      have P13 : ∀ a : Addr, 0 < n2 → _ = some a → _ ≤ a.block ∧ a.block < _ := fun a h0 ha => s_y.place (by omega) ha
      have z13 : w12.heap.size ≤ w13.heap.size := by rw [t13.size]; exact Nat.le_refl _
      have s_p := s_p.trn t13 (fun a h0 ha => by have := P13 a h0 ha; omega)
      have s_q := s_q.trn t13 (fun a h0 ha => by have := P13 a h0 ha; omega)
      have s_g := s_g.trn t13 (fun a h0 ha => by have := P13 a h0 ha; omega)
      have s_a := s_a.trn t13 (fun a h0 ha => by have := P13 a h0 ha; omega)
      have s_b := s_b.trn t13 (fun a h0 ha => by have := P13 a h0 ha; omega)
      clear m_x
      have g_B := g_B.trn t13 (fun a h0 ha => by have := P13 a h0 ha; omega) zw
      have g_G := g_G.trn t13 (fun a h0 ha => by have := P13 a h0 ha; omega) zw
      have q_w := q_w.trn t13 (fun a h0 ha => by have := P13 a h0 ha; omega) (by omega)
      have bw : Below w.heap.size w w13 := bel_trn bw t13 (fun a h0 ha => by have := P13 a h0 ha; omega)
      have zw : w.heap.size ≤ w13.heap.size := bw.size
      clear t13 P13 s_y
      obtain ⟨kk, hkk⟩ : ∃ x : Int, k + 1 * (n2 : Int) = x := ⟨_, rfl⟩
      have kk0 : ¬ kk < 0 := by omega
      have kk1 : decide (kk < 0) = false := decide_eq_false kk0
      have kk2 : 0 ≤ kk := by omega
      have kk3 : kk ≤ 50000000 := by omega
      rw [hkk]
      have Hkk := Lib.hid hkk
      clear hkk
      go_wp2_with fail
      refine (eqSPP_same _ _ _ _ _ L _ rfl (by omega) HBG.out s_g.row (q_w.up (by omega))).mono ?_
      rintro e14 w14 ⟨rfl, b14⟩
      have z14 : w13.heap.size ≤ w14.heap.size := b14.size
      have s_p := s_p.below b14
      have s_q := s_q.below b14
      have s_g := s_g.below b14
      have s_a := s_a.below b14
      have s_b := s_b.below b14
      have m_y := m_y.below b14
      have g_B := g_B.bel b14 zw
      have g_G := g_G.bel b14 zw
      have q_w := q_w.bel b14 (by omega)
      have bw : Below w.heap.size w w14 := bel_tr bw b14
      have zw : w.heap.size ≤ w14.heap.size := bw.size
      clear b14
      go_wp2_with fail
      refine (markSPP_any _ _ _ _ _ L 1 _ rfl HTOT.out (by omega) (by omega) (by omega) s_g).mono ?_
      rintro e15 w15 ⟨rfl, t15, m_g⟩
      have z15 : w14.heap.size ≤ w15.heap.size := by rw [t15.size]; exact Nat.le_refl _
      have s_p := s_p.wnd t15 (by omega)
      have s_q := s_q.wnd t15 (by omega)
      have s_a := s_a.wnd t15 (by omega)
      have s_b := s_b.wnd t15 (by omega)
      clear m_y
      have g_B := g_B.wnd t15 (by omega) zw
      have g_G := g_G.wnd t15 (by omega) zw
      have q_w := q_w.wnd t15 (by omega) (by omega)
      have bw : Below w.heap.size w w15 := bel_wnd bw t15 (by omega)
      have zw : w.heap.size ≤ w15.heap.size := bw.size
      clear t15 s_g
      have hTm := HTOT.out
      obtain ⟨m, hm⟩ : ∃ x : Int, 1 + 3 * (totP L L.length : Int) = x := ⟨_, rfl⟩
      have m0 : ¬ m < 0 := by omega
      have m1 : decide (m < 0) = false := decide_eq_false m0
      have m2 : 0 ≤ m := by omega
      have m3 : m ≤ 50000000 := by omega
      rw [hm]
      have Hm := Lib.hid hm
      clear hm hTm
      go_wp2_with fail
      refine (heldSPP_any _ _ _ L 1 _ rfl HTOT.out (by omega) (by omega) (by omega) m_g).mono ?_
      rintro e16 w16 ⟨rfl, b16⟩
      have z16 : w15.heap.size ≤ w16.heap.size := b16.size
      have s_p := s_p.below b16
      have s_q := s_q.below b16
      have s_a := s_a.below b16
      have s_b := s_b.below b16
      have m_g := m_g.below b16
      have g_B := g_B.bel b16 zw
      have g_G := g_G.bel b16 zw
      have q_w := q_w.bel b16 (by omega)
      have bw : Below w.heap.size w w16 := bel_tr bw b16
      have zw : w.heap.size ≤ w16.heap.size := bw.size
      clear b16
      rw [Hm.out]
      go_wp2_with fail
      refine (toSPi_any _ _ _ bs _ hn_B (by omega) (g_B.up zw)).mono ?_
      rintro e17 w17 ⟨A_z, rfl, r_, o_, b17⟩
      rw [hn_B]
      have s_z := SLPi.of r_ (by exact o_)
      clear r_ o_
      have z17 : w16.heap.size ≤ w17.heap.size := b17.size
      have s_p := s_p.below b17
      have s_q := s_q.below b17
      have s_a := s_a.below b17
      have s_b := s_b.below b17
      have m_g := m_g.below b17
      have g_B := g_B.bel b17 zw
      have g_G := g_G.bel b17 zw
      have q_w := q_w.bel b17 (by omega)
      have bw : Below w.heap.size w w17 := bel_tr bw b17
      have zw : w.heap.size ≤ w17.heap.size := bw.size
      clear b17
      go_wp2_with fail
      refine (toSIn_any _ _ _ gs _ hn_G (by omega) (g_G.up zw)).mono ?_
      rintro e18 w18 ⟨A_u, rfl, r_, o_, b18⟩
      rw [hn_G]
      have s_u := SLIn.of r_ (by exact o_)
      clear r_ o_
      have z18 : w17.heap.size ≤ w18.heap.size := b18.size
      have s_p := s_p.below b18
      have s_q := s_q.below b18
      have s_a := s_a.below b18
      have s_b := s_b.below b18
      have s_z := s_z.below b18
      have m_g := m_g.below b18
      have g_B := g_B.bel b18 zw
      have g_G := g_G.bel b18 zw
      have q_w := q_w.bel b18 (by omega)
      have bw : Below w.heap.size w w18 := bel_tr bw b18
      have zw : w.heap.size ≤ w18.heap.size := bw.size
      clear b18
      go_wp2_with fail
      refine (rbq_val HL.out HB.out _ _ _ _ _ _ _ hn_B hn_G (by omega) (by omega) s_z.row s_u.row).mono ?_
      rintro e19 w19 ⟨A_h, c_h, rfl, lc_h, cm_h, s_h, b19⟩
      have z19 : w18.heap.size ≤ w19.heap.size := b19.size
      have s_p := s_p.below b19
      have s_q := s_q.below b19
      have s_a := s_a.below b19
      have s_b := s_b.below b19
      have s_z := s_z.below b19
      have s_u := s_u.below b19
      have m_g := m_g.below b19
      have g_B := g_B.bel b19 zw
      have g_G := g_G.bel b19 zw
      have q_w := q_w.bel b19 (by omega)
      have bw : Below w.heap.size w w19 := bel_tr bw b19
      have zw : w.heap.size ≤ w19.heap.size := bw.size
      clear b19
      go_wp2_with fail
      refine (eqSPP_same _ _ _ _ _ L _ rfl (by omega) HBG.out s_h.row (q_w.up (by omega))).mono ?_
      rintro e20 w20 ⟨rfl, b20⟩
      have z20 : w19.heap.size ≤ w20.heap.size := b20.size
      have s_p := s_p.below b20
      have s_q := s_q.below b20
      have s_a := s_a.below b20
      have s_b := s_b.below b20
      have s_z := s_z.below b20
      have s_u := s_u.below b20
      have s_h := s_h.below b20
      have m_g := m_g.below b20
      have g_B := g_B.bel b20 zw
      have g_G := g_G.bel b20 zw
      have q_w := q_w.bel b20 (by omega)
      have bw : Below w.heap.size w w20 := bel_tr bw b20
      have zw : w.heap.size ≤ w20.heap.size := bw.size
      clear b20
      go_wp2_with fail
      refine (heldSPP_any _ _ _ L 1 _ rfl HTOT.out (by omega) (by omega) (by omega) m_g).mono ?_
      rintro e21 w21 ⟨rfl, b21⟩
      have z21 : w20.heap.size ≤ w21.heap.size := b21.size
      have s_p := s_p.below b21
      have s_q := s_q.below b21
      have s_a := s_a.below b21
      have s_b := s_b.below b21
      have s_z := s_z.below b21
      have s_u := s_u.below b21
      have s_h := s_h.below b21
      have m_g := m_g.below b21
      have g_B := g_B.bel b21 zw
      have g_G := g_G.bel b21 zw
      have q_w := q_w.bel b21 (by omega)
      have bw : Below w.heap.size w w21 := bel_tr bw b21
      have zw : w.heap.size ≤ w21.heap.size := bw.size
      clear b21
      rw [Hm.out]
      go_wp2
      go_ret
      exact ⟨rfl, bw⟩
    · have i1 : ¬ (1048576 : Int) < (n2 : Int) := by omega
      go_enter Try.func7, Try.ntmps7
      go_wp2_with fail
      refine (szS_any _ _ _ _ _ (by omega) (by omega) (by omega)).mono ?_
      rintro e1 w1 ⟨he, rfl⟩
      rw [if_pos (by omega)] at he
      subst he
      go_wp2
      go_ret
      exact ⟨rfl, bel_refl _⟩
  · have i1 : (1048576 : Int) < (n2 : Int) := by omega
    go_enter Try.func7, Try.ntmps7
    go_wp2
    go_ret
    exact ⟨rfl, bel_refl _⟩


end Go.Proofs.Ytpjakgnghpapmaa.FnExactRealizeBass
