/- The walk of the law FnExactMeetTicks: for every input it returns true and turns nothing that was there. -/
import Derived.Test.YtiapfpjggginoaaMtT
import Derived.Test.YtiapfpjggginoaaBc
import Derived.Deep.RegionHeld3
namespace Go.Proofs.Ytiapfpjggginoaa.FnExactMeetTicks
set_option linter.unusedSimpArgs false
set_option linter.unusedVariables false
open Go.RowKit

set_option maxRecDepth 20000 in
set_option maxHeartbeats 3000000 in
theorem walk (l : List Nt) (A : Option Addr) (n c : Nat) (l' : List Nt) (A' : Option Addr) (n' c' : Nat) (w : World) (hn : l.length = n) (_hc : n ≤ c) (hm : c ≤ maxLen) (h : RowNt w w.heap.size A l) (hn' : l'.length = n') (_hc' : n' ≤ c') (hm' : c' ≤ maxLen) (h' : RowNt w w.heap.size A' l') :
    Calls Try.prog 3 #[.slice A n c, .slice A' n' c'] w fun e w' => e = .returned (.bool true) ∧ Below w.heap.size w w' := by
  unfold maxLen at hm hm'
  have hn_V := hn
  have h_V := h
  have hn_S := hn'
  have h_S := h'
  clear hn h hn' h'
  by_cases hs : n ≤ 1048576
  · by_cases ht : n + n' ≤ 1048576
    · obtain ⟨L, hL, hLn⟩ := mt_ex l l'
      have HL := Lib.hid hL
      clear hL
      go_enter Try.func3, Try.ntmps3
      have g_V := h_V
      have g_S := h_S
      have bw : Below w.heap.size w w := bel_refl w
      have zw : w.heap.size ≤ w.heap.size := Nat.le_refl _
      go_wp2_with (go_at_call 10; go_in)
      refine (toSNt_any _ _ _ l _ hn_V (by omega) (g_V.up zw)).mono ?_
      rintro e1 w1 ⟨A_p, rfl, r_, o_, b1⟩
      rw [hn_V]
      have s_p := SLNt.of r_ (by exact o_)
      clear r_ o_
      have z1 : w.heap.size ≤ w1.heap.size := b1.size
      have g_V := g_V.bel b1 zw
      have g_S := g_S.bel b1 zw
      have bw : Below w.heap.size w w1 := bel_tr bw b1
      have zw : w.heap.size ≤ w1.heap.size := bw.size
      clear b1
      go_wp2_with fail
      refine (toSNt_any _ _ _ l' _ hn_S (by omega) (g_S.up zw)).mono ?_
      rintro e2 w2 ⟨A_q, rfl, r_, o_, b2⟩
      rw [hn_S]
      have s_q := SLNt.of r_ (by exact o_)
      clear r_ o_
      have z2 : w1.heap.size ≤ w2.heap.size := b2.size
      have s_p := s_p.below b2
      have g_V := g_V.bel b2 zw
      have g_S := g_S.bel b2 zw
      have bw : Below w.heap.size w w2 := bel_tr bw b2
      have zw : w.heap.size ≤ w2.heap.size := bw.size
      clear b2
      go_wp2_with fail
      refine (smt_q HL.out _ _ _ _ _ _ _ hn_V (by omega) s_p.row hn_S (by omega) s_q.row).mono ?_
      rintro e3 w3 ⟨A_w, c_w, rfl, lc_w, cm_w, r_, o_, b3⟩
      have s_w := SLIn.of r_ o_
      clear r_ o_
      have z3 : w2.heap.size ≤ w3.heap.size := b3.size
      have s_p := s_p.below b3
      have s_q := s_q.below b3
      have g_V := g_V.bel b3 zw
      have g_S := g_S.bel b3 zw
      have bw : Below w.heap.size w w3 := bel_tr bw b3
      have zw : w.heap.size ≤ w3.heap.size := bw.size
      clear b3
      go_wp2_with fail
      refine (toSNt_any _ _ _ l _ hn_V (by omega) (g_V.up zw)).mono ?_
      rintro e4 w4 ⟨A_x, rfl, r_, o_, b4⟩
      rw [hn_V]
      have s_x := SLNt.of r_ (by exact o_)
      clear r_ o_
      have z4 : w3.heap.size ≤ w4.heap.size := b4.size
      have s_p := s_p.below b4
      have s_q := s_q.below b4
      have s_w := s_w.below b4
      have g_V := g_V.bel b4 zw
      have g_S := g_S.bel b4 zw
      have bw : Below w.heap.size w w4 := bel_tr bw b4
      have zw : w.heap.size ≤ w4.heap.size := bw.size
      clear b4
      go_wp2_with fail
      refine (toSNt_any _ _ _ l' _ hn_S (by omega) (g_S.up zw)).mono ?_
      rintro e5 w5 ⟨A_y, rfl, r_, o_, b5⟩
      rw [hn_S]
      have s_y := SLNt.of r_ (by exact o_)
      clear r_ o_
      have z5 : w4.heap.size ≤ w5.heap.size := b5.size
      have s_p := s_p.below b5
      have s_q := s_q.below b5
      have s_w := s_w.below b5
      have s_x := s_x.below b5
      have g_V := g_V.bel b5 zw
      have g_S := g_S.bel b5 zw
      have bw : Below w.heap.size w w5 := bel_tr bw b5
      have zw : w.heap.size ≤ w5.heap.size := bw.size
      clear b5
      go_wp2_with fail
      refine (mti_q HL.out _ _ _ _ _ _ _ hn_V (by omega) s_x.row hn_S (by omega) s_y.row).mono ?_
      rintro e6 w6 ⟨A_g, c_g, rfl, lc_g, cm_g, r_, o_, b6⟩
      have s_g := SLIn.of r_ o_
      clear r_ o_
      have z6 : w5.heap.size ≤ w6.heap.size := b6.size
      have s_p := s_p.below b6
      have s_q := s_q.below b6
      have s_w := s_w.below b6
      have s_x := s_x.below b6
      have s_y := s_y.below b6
      have g_V := g_V.bel b6 zw
      have g_S := g_S.bel b6 zw
      have bw : Below w.heap.size w w6 := bel_tr bw b6
      have zw : w.heap.size ≤ w6.heap.size := bw.size
      clear b6
      go_wp2_with fail
      refine (eqSIn_same _ _ _ _ _ L _ rfl (by omega) s_g.row s_w.row).mono ?_
      rintro e7 w7 ⟨rfl, b7⟩
      have z7 : w6.heap.size ≤ w7.heap.size := b7.size
      have s_p := s_p.below b7
      have s_q := s_q.below b7
      have s_w := s_w.below b7
      have s_x := s_x.below b7
      have s_y := s_y.below b7
      have s_g := s_g.below b7
      have g_V := g_V.bel b7 zw
      have g_S := g_S.bel b7 zw
      have bw : Below w.heap.size w w7 := bel_tr bw b7
      have zw : w.heap.size ≤ w7.heap.size := bw.size
      clear b7
      go_wp2_with fail
      refine (toSNt_any _ _ _ l _ hn_V (by omega) (g_V.up zw)).mono ?_
      rintro e8 w8 ⟨A_z, rfl, r_, o_, b8⟩
      rw [hn_V]
      have s_z := SLNt.of r_ (by exact o_)
      clear r_ o_
      have z8 : w7.heap.size ≤ w8.heap.size := b8.size
      have s_p := s_p.below b8
      have s_q := s_q.below b8
      have s_w := s_w.below b8
      have s_x := s_x.below b8
      have s_y := s_y.below b8
      have s_g := s_g.below b8
      have g_V := g_V.bel b8 zw
      have g_S := g_S.bel b8 zw
      have bw : Below w.heap.size w w8 := bel_tr bw b8
      have zw : w.heap.size ≤ w8.heap.size := bw.size
      clear b8
      go_wp2_with fail
      refine (eqSNt_same _ _ _ _ _ l _ hn_V (by omega) s_x.row s_z.row).mono ?_
      rintro e9 w9 ⟨rfl, b9⟩
      have z9 : w8.heap.size ≤ w9.heap.size := b9.size
      have s_p := s_p.below b9
      have s_q := s_q.below b9
      have s_w := s_w.below b9
      have s_x := s_x.below b9
      have s_y := s_y.below b9
      have s_g := s_g.below b9
      have s_z := s_z.below b9
      have g_V := g_V.bel b9 zw
      have g_S := g_S.bel b9 zw
      have bw : Below w.heap.size w w9 := bel_tr bw b9
      have zw : w.heap.size ≤ w9.heap.size := bw.size
      clear b9
      go_wp2_with fail
      refine (toSNt_any _ _ _ l' _ hn_S (by omega) (g_S.up zw)).mono ?_
      rintro e10 w10 ⟨A_u, rfl, r_, o_, b10⟩
      rw [hn_S]
      have s_u := SLNt.of r_ (by exact o_)
      clear r_ o_
      have z10 : w9.heap.size ≤ w10.heap.size := b10.size
      have s_p := s_p.below b10
      have s_q := s_q.below b10
      have s_w := s_w.below b10
      have s_x := s_x.below b10
      have s_y := s_y.below b10
      have s_g := s_g.below b10
      have s_z := s_z.below b10
      have g_V := g_V.bel b10 zw
      have g_S := g_S.bel b10 zw
      have bw : Below w.heap.size w w10 := bel_tr bw b10
      have zw : w.heap.size ≤ w10.heap.size := bw.size
      clear b10
      go_wp2_with fail
      refine (eqSNt_same _ _ _ _ _ l' _ hn_S (by omega) s_y.row s_u.row).mono ?_
      rintro e11 w11 ⟨rfl, b11⟩
      have z11 : w10.heap.size ≤ w11.heap.size := b11.size
      have s_p := s_p.below b11
      have s_q := s_q.below b11
      have s_w := s_w.below b11
      have s_x := s_x.below b11
      have s_y := s_y.below b11
      have s_g := s_g.below b11
      have s_z := s_z.below b11
      have s_u := s_u.below b11
      have g_V := g_V.bel b11 zw
      have g_S := g_S.bel b11 zw
      have bw : Below w.heap.size w w11 := bel_tr bw b11
      have zw : w.heap.size ≤ w11.heap.size := bw.size
      clear b11
      go_wp2_with fail
      refine (markSNt_any _ _ _ _ l 1 _ hn_V (by omega) (by omega) (by omega) s_x.row s_x.own).mono ?_
      rintro e12 w12 ⟨rfl, t12, m_x⟩
      have P12 : ∀ a : Addr, 0 < n → _ = some a → _ ≤ a.block ∧ a.block < _ := fun a h0 ha => s_x.place (by omega) ha
      have z12 : w11.heap.size ≤ w12.heap.size := by rw [t12.size]; exact Nat.le_refl _
      have s_p := s_p.trn t12 (fun a h0 ha => by have := P12 a h0 ha; omega)
      have s_q := s_q.trn t12 (fun a h0 ha => by have := P12 a h0 ha; omega)
      have s_w := s_w.trn t12 (fun a h0 ha => by have := P12 a h0 ha; omega)
      have s_y := s_y.trn t12 (fun a h0 ha => by have := P12 a h0 ha; omega)
      have s_g := s_g.trn t12 (fun a h0 ha => by have := P12 a h0 ha; omega)
      have s_z := s_z.trn t12 (fun a h0 ha => by have := P12 a h0 ha; omega)
      have s_u := s_u.trn t12 (fun a h0 ha => by have := P12 a h0 ha; omega)
      have g_V := g_V.trn t12 (fun a h0 ha => by have := P12 a h0 ha; omega) zw
      have g_S := g_S.trn t12 (fun a h0 ha => by have := P12 a h0 ha; omega) zw
      have bw : Below w.heap.size w w12 := bel_trn bw t12 (fun a h0 ha => by have := P12 a h0 ha; omega)
      have zw : w.heap.size ≤ w12.heap.size := bw.size
      clear t12 P12 s_x
      obtain ⟨k, hk⟩ : ∃ x : Int, 1 + 6 * (n : Int) = x := ⟨_, rfl⟩
      have k0 : ¬ k < 0 := by omega
      have k1 : decide (k < 0) = false := decide_eq_false k0
      have k2 : 0 ≤ k := by omega
      have k3 : k ≤ 50000000 := by omega
      rw [hk]
      have Hk := Lib.hid hk
      clear hk
      have k4 : k ≤ 6291457 := by have := Hk.out; omega
      go_wp2_with fail
      refine (markSNt_any _ _ _ _ l' k _ hn_S (by omega) (by omega) (by omega) s_y.row s_y.own).mono ?_
      rintro e13 w13 ⟨rfl, t13, m_y⟩
      have P13 : ∀ a : Addr, 0 < n' → _ = some a → _ ≤ a.block ∧ a.block < _ := fun a h0 ha => s_y.place (by omega) ha
      have z13 : w12.heap.size ≤ w13.heap.size := by rw [t13.size]; exact Nat.le_refl _
      have s_p := s_p.trn t13 (fun a h0 ha => by have := P13 a h0 ha; omega)
      have s_q := s_q.trn t13 (fun a h0 ha => by have := P13 a h0 ha; omega)
      have s_w := s_w.trn t13 (fun a h0 ha => by have := P13 a h0 ha; omega)
      have s_g := s_g.trn t13 (fun a h0 ha => by have := P13 a h0 ha; omega)
      have s_z := s_z.trn t13 (fun a h0 ha => by have := P13 a h0 ha; omega)
      have s_u := s_u.trn t13 (fun a h0 ha => by have := P13 a h0 ha; omega)
      clear m_x
      have g_V := g_V.trn t13 (fun a h0 ha => by have := P13 a h0 ha; omega) zw
      have g_S := g_S.trn t13 (fun a h0 ha => by have := P13 a h0 ha; omega) zw
      have bw : Below w.heap.size w w13 := bel_trn bw t13 (fun a h0 ha => by have := P13 a h0 ha; omega)
      have zw : w.heap.size ≤ w13.heap.size := bw.size
      clear t13 P13 s_y
      obtain ⟨j, hj⟩ : ∃ x : Int, k + 6 * (n' : Int) = x := ⟨_, rfl⟩
      have j0 : ¬ j < 0 := by omega
      have j1 : decide (j < 0) = false := decide_eq_false j0
      have j2 : 0 ≤ j := by omega
      have j3 : j ≤ 50000000 := by omega
      rw [hj]
      have Hj := Lib.hid hj
      clear hj
      go_wp2_with fail
      refine (eqSIn_same _ _ _ _ _ L _ rfl (by omega) s_g.row s_w.row).mono ?_
      rintro e14 w14 ⟨rfl, b14⟩
      have z14 : w13.heap.size ≤ w14.heap.size := b14.size
      have s_p := s_p.below b14
      have s_q := s_q.below b14
      have s_w := s_w.below b14
      have s_g := s_g.below b14
      have s_z := s_z.below b14
      have s_u := s_u.below b14
      have m_y := m_y.below b14
      have g_V := g_V.bel b14 zw
      have g_S := g_S.bel b14 zw
      have bw : Below w.heap.size w w14 := bel_tr bw b14
      have zw : w.heap.size ≤ w14.heap.size := bw.size
      clear b14
      go_wp2_with fail
      refine (markSIn_any _ _ _ _ L 1 _ rfl (by omega) (by omega) (by omega) s_g.row s_g.own).mono ?_
      rintro e15 w15 ⟨rfl, t15, m_g⟩
      have P15 : ∀ a : Addr, 0 < L.length → _ = some a → _ ≤ a.block ∧ a.block < _ := fun a h0 ha => s_g.place (by omega) ha
      have z15 : w14.heap.size ≤ w15.heap.size := by rw [t15.size]; exact Nat.le_refl _
      have s_p := s_p.trn t15 (fun a h0 ha => by have := P15 a h0 ha; omega)
      have s_q := s_q.trn t15 (fun a h0 ha => by have := P15 a h0 ha; omega)
      have s_w := s_w.trn t15 (fun a h0 ha => by have := P15 a h0 ha; omega)
      have s_z := s_z.trn t15 (fun a h0 ha => by have := P15 a h0 ha; omega)
      have s_u := s_u.trn t15 (fun a h0 ha => by have := P15 a h0 ha; omega)
      clear m_y
      have g_V := g_V.trn t15 (fun a h0 ha => by have := P15 a h0 ha; omega) zw
      have g_S := g_S.trn t15 (fun a h0 ha => by have := P15 a h0 ha; omega) zw
      have bw : Below w.heap.size w w15 := bel_trn bw t15 (fun a h0 ha => by have := P15 a h0 ha; omega)
      have zw : w.heap.size ≤ w15.heap.size := bw.size
      clear t15 P15 s_g
      obtain ⟨m, hm⟩ : ∃ x : Int, 1 + 1 * (L.length : Int) = x := ⟨_, rfl⟩
      have m0 : ¬ m < 0 := by omega
      have m1 : decide (m < 0) = false := decide_eq_false m0
      have m2 : 0 ≤ m := by omega
      have m3 : m ≤ 50000000 := by omega
      rw [hm]
      have Hm := Lib.hid hm
      clear hm
      go_wp2_with fail
      refine (heldSIn_any _ L.length _ 1 _ (by omega) (by omega) (by omega) m_g).mono ?_
      rintro e16 w16 ⟨rfl, b16⟩
      have z16 : w15.heap.size ≤ w16.heap.size := b16.size
      have s_p := s_p.below b16
      have s_q := s_q.below b16
      have s_w := s_w.below b16
      have s_z := s_z.below b16
      have s_u := s_u.below b16
      have m_g := m_g.below b16
      have g_V := g_V.bel b16 zw
      have g_S := g_S.bel b16 zw
      have bw : Below w.heap.size w w16 := bel_tr bw b16
      have zw : w.heap.size ≤ w16.heap.size := bw.size
      clear b16
      rw [Hm.out]
      go_wp2_with fail
      refine (toSNt_any _ _ _ l _ hn_V (by omega) (g_V.up zw)).mono ?_
      rintro e17 w17 ⟨A_s, rfl, r_, o_, b17⟩
      rw [hn_V]
      have s_s := SLNt.of r_ (by exact o_)
      clear r_ o_
      have z17 : w16.heap.size ≤ w17.heap.size := b17.size
      have s_p := s_p.below b17
      have s_q := s_q.below b17
      have s_w := s_w.below b17
      have s_z := s_z.below b17
      have s_u := s_u.below b17
      have m_g := m_g.below b17
      have g_V := g_V.bel b17 zw
      have g_S := g_S.bel b17 zw
      have bw : Below w.heap.size w w17 := bel_tr bw b17
      have zw : w.heap.size ≤ w17.heap.size := bw.size
      clear b17
      go_wp2_with fail
      refine (toSNt_any _ _ _ l' _ hn_S (by omega) (g_S.up zw)).mono ?_
      rintro e18 w18 ⟨A_t, rfl, r_, o_, b18⟩
      rw [hn_S]
      have s_t := SLNt.of r_ (by exact o_)
      clear r_ o_
      have z18 : w17.heap.size ≤ w18.heap.size := b18.size
      have s_p := s_p.below b18
      have s_q := s_q.below b18
      have s_w := s_w.below b18
      have s_z := s_z.below b18
      have s_u := s_u.below b18
      have s_s := s_s.below b18
      have m_g := m_g.below b18
      have g_V := g_V.bel b18 zw
      have g_S := g_S.bel b18 zw
      have bw : Below w.heap.size w w18 := bel_tr bw b18
      have zw : w.heap.size ≤ w18.heap.size := bw.size
      clear b18
      go_wp2_with fail
      refine (mti_q HL.out _ _ _ _ _ _ _ hn_V (by omega) s_s.row hn_S (by omega) s_t.row).mono ?_
      rintro e19 w19 ⟨A_h, c_h, rfl, lc_h, cm_h, r_, o_, b19⟩
      have s_h := SLIn.of r_ o_
      clear r_ o_
      have z19 : w18.heap.size ≤ w19.heap.size := b19.size
      have s_p := s_p.below b19
      have s_q := s_q.below b19
      have s_w := s_w.below b19
      have s_z := s_z.below b19
      have s_u := s_u.below b19
      have s_s := s_s.below b19
      have s_t := s_t.below b19
      have m_g := m_g.below b19
      have g_V := g_V.bel b19 zw
      have g_S := g_S.bel b19 zw
      have bw : Below w.heap.size w w19 := bel_tr bw b19
      have zw : w.heap.size ≤ w19.heap.size := bw.size
      clear b19
      go_wp2_with fail
      refine (eqSIn_same _ _ _ _ _ L _ rfl (by omega) s_h.row s_w.row).mono ?_
      rintro e20 w20 ⟨rfl, b20⟩
      have z20 : w19.heap.size ≤ w20.heap.size := b20.size
      have s_p := s_p.below b20
      have s_q := s_q.below b20
      have s_w := s_w.below b20
      have s_z := s_z.below b20
      have s_u := s_u.below b20
      have s_s := s_s.below b20
      have s_t := s_t.below b20
      have s_h := s_h.below b20
      have m_g := m_g.below b20
      have g_V := g_V.bel b20 zw
      have g_S := g_S.bel b20 zw
      have bw : Below w.heap.size w w20 := bel_tr bw b20
      have zw : w.heap.size ≤ w20.heap.size := bw.size
      clear b20
      go_wp2_with fail
      refine (heldSIn_any _ L.length _ 1 _ (by omega) (by omega) (by omega) m_g).mono ?_
      rintro e21 w21 ⟨rfl, b21⟩
      have z21 : w20.heap.size ≤ w21.heap.size := b21.size
      have s_p := s_p.below b21
      have s_q := s_q.below b21
      have s_w := s_w.below b21
      have s_z := s_z.below b21
      have s_u := s_u.below b21
      have s_s := s_s.below b21
      have s_t := s_t.below b21
      have s_h := s_h.below b21
      have m_g := m_g.below b21
      have g_V := g_V.bel b21 zw
      have g_S := g_S.bel b21 zw
      have bw : Below w.heap.size w w21 := bel_tr bw b21
      have zw : w.heap.size ≤ w21.heap.size := bw.size
      clear b21
      rw [Hm.out]
      go_wp2
      go_ret
      exact ⟨rfl, bw⟩
    · have hs2 : ¬ (1048576 : Int) < (n : Int) := by omega
      have hs3 : (1048576 : Int) - (n : Int) < (n' : Int) := by omega
      go_enter Try.func3, Try.ntmps3
      go_wp2_with (go_at_call 10; go_in)
      go_ret
      exact ⟨rfl, bel_refl _⟩
  · have hs2 : (1048576 : Int) < (n : Int) := by omega
    go_enter Try.func3, Try.ntmps3
    go_wp2_with (go_at_call 10; go_in)
    go_ret
    exact ⟨rfl, bel_refl _⟩


end Go.Proofs.Ytiapfpjggginoaa.FnExactMeetTicks
