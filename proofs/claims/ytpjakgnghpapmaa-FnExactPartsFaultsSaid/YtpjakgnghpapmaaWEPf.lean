/- The walk of the law FnExactPartsFaults: for every input it returns true and turns nothing that was there. -/
import Derived.Test.YtpjakgnghpapmaaPfV
import Derived.Test.YtpjakgnghpapmaaBm
namespace Go.Proofs.Ytpjakgnghpapmaa.FnExactPartsFaults
set_option linter.unusedSimpArgs false
set_option linter.unusedVariables false
open Go.RowKit

set_option maxRecDepth 20000 in
set_option maxHeartbeats 8000000 in
theorem walk (ll : List (List Pi)) (A : Option Addr) (n c : Nat) (w : World) (hn_V : ll.length = n) (_hc : n ≤ c) (hm : c ≤ maxLen) (h_V : RowPP w w.heap.size A ll) :
    Calls Try.prog 3 #[.slice A n c] w fun e w' => e = .returned (.bool true) ∧ Below w.heap.size w w' := by
  unfold maxLen at hm
  go_enter Try.func3, Try.ntmps3
  have g_V := h_V
  have bw : Below w.heap.size w w := bel_refl w
  have zw : w.heap.size ≤ w.heap.size := Nat.le_refl _
  go_wp2_with fail
  refine (szPP_any _ _ _ ll 1048576 _ hn_V (by omega) (by omega) (by omega) h_V).mono ?_
  rintro e1 w1 ⟨x, rfl, hx, b1⟩
  have z1 : w.heap.size ≤ w1.heap.size := b1.size
  have g_V := g_V.bel b1 zw
  have bw : Below w.heap.size w w1 := bel_tr bw b1
  have zw : w.heap.size ≤ w1.heap.size := bw.size
  clear b1
  rcases hx with rfl | ⟨hx0, hx1⟩
  · go_wp2
    go_ret
    exact ⟨rfl, bw⟩
  · have hbgx : ∀ i, i < ll.length → (atPP ll i).length ≤ 2000000 := fun i hi => by have := totP_ge ll hi; omega
    have HBG := Lib.hid hbgx
    have HTOT := Lib.hid (show totP ll ll.length ≤ 2000000 from by omega)
    have hns : n ≤ 1048576 := by omega
    have hx3 : ¬ x < 0 := by omega
    clear hbgx hx1
    obtain ⟨L, hL⟩ : ∃ L, pfL ll = L := ⟨_, rfl⟩
    have hLn : L.length ≤ 20 := by rw [← hL]; have := pfL_len ll; omega
    have HL := Lib.hid hL
    clear hL
    go_wp2_with fail
    refine (toSPP_any _ _ _ ll _ hn_V (by omega) HBG.out (g_V.up zw)).mono ?_
    rintro e2 w2 ⟨A_p, rfl, r_, o_, b2⟩
    rw [hn_V]
    have s_p := SLPP.of r_ o_
    clear r_ o_
    have z2 : w1.heap.size ≤ w2.heap.size := b2.size
    have g_V := g_V.bel b2 zw
    have bw : Below w.heap.size w w2 := bel_tr bw b2
    have zw : w.heap.size ≤ w2.heap.size := bw.size
    clear b2
    go_wp2_with fail
    refine (spf_val HL.out _ _ _ _ hn_V (by omega) s_p.row HBG.out).mono ?_
    rintro e3 w3 ⟨A_w, c_w, rfl, lc_w, cm_w, r_, o_, b3⟩
    have s_w := SLFa.of r_ o_
    clear r_ o_
    have z3 : w2.heap.size ≤ w3.heap.size := b3.size
    have s_p := s_p.below b3
    have g_V := g_V.bel b3 zw
    have bw : Below w.heap.size w w3 := bel_tr bw b3
    have zw : w.heap.size ≤ w3.heap.size := bw.size
    clear b3
    go_wp2_with fail
    refine (toSPP_any _ _ _ ll _ hn_V (by omega) HBG.out (g_V.up zw)).mono ?_
    rintro e4 w4 ⟨A_x, rfl, r_, o_, b4⟩
    rw [hn_V]
    have s_x := SLPP.of r_ o_
    clear r_ o_
    have z4 : w3.heap.size ≤ w4.heap.size := b4.size
    have s_p := s_p.below b4
    have s_w := s_w.below b4
    have g_V := g_V.bel b4 zw
    have bw : Below w.heap.size w w4 := bel_tr bw b4
    have zw : w.heap.size ≤ w4.heap.size := bw.size
    clear b4
    go_wp2_with fail
    refine (pf_val HL.out _ _ _ _ hn_V (by omega) s_x.row HBG.out).mono ?_
    rintro e5 w5 ⟨A_g, c_g, rfl, lc_g, cm_g, r_, o_, b5⟩
    have s_g := SLFa.of r_ o_
    clear r_ o_
    have z5 : w4.heap.size ≤ w5.heap.size := b5.size
    have s_p := s_p.below b5
    have s_w := s_w.below b5
    have s_x := s_x.below b5
    have g_V := g_V.bel b5 zw
    have bw : Below w.heap.size w w5 := bel_tr bw b5
    have zw : w.heap.size ≤ w5.heap.size := bw.size
    clear b5
    go_wp2_with fail
    refine (eqSFa_same _ _ _ _ _ L _ rfl (by omega) s_g.row s_w.row).mono ?_
    rintro e6 w6 ⟨rfl, b6⟩
    have z6 : w5.heap.size ≤ w6.heap.size := b6.size
    have s_p := s_p.below b6
    have s_w := s_w.below b6
    have s_x := s_x.below b6
    have s_g := s_g.below b6
    have g_V := g_V.bel b6 zw
    have bw : Below w.heap.size w w6 := bel_tr bw b6
    have zw : w.heap.size ≤ w6.heap.size := bw.size
    clear b6
    go_wp2_with fail
    refine (toSPP_any _ _ _ ll _ hn_V (by omega) HBG.out (g_V.up zw)).mono ?_
    rintro e7 w7 ⟨A_z, rfl, r_, o_, b7⟩
    rw [hn_V]
    have s_z := SLPP.of r_ o_
    clear r_ o_
    have z7 : w6.heap.size ≤ w7.heap.size := b7.size
    have s_p := s_p.below b7
    have s_w := s_w.below b7
    have s_x := s_x.below b7
    have s_g := s_g.below b7
    have g_V := g_V.bel b7 zw
    have bw : Below w.heap.size w w7 := bel_tr bw b7
    have zw : w.heap.size ≤ w7.heap.size := bw.size
    clear b7
    go_wp2_with fail
    refine (eqSPP_same _ _ _ _ _ ll _ hn_V (by omega) HBG.out s_x.row s_z.row).mono ?_
    rintro e8 w8 ⟨rfl, b8⟩
    have z8 : w7.heap.size ≤ w8.heap.size := b8.size
    have s_p := s_p.below b8
    have s_w := s_w.below b8
    have s_x := s_x.below b8
    have s_g := s_g.below b8
    have s_z := s_z.below b8
    have g_V := g_V.bel b8 zw
    have bw : Below w.heap.size w w8 := bel_tr bw b8
    have zw : w.heap.size ≤ w8.heap.size := bw.size
    clear b8
    go_wp2_with fail
    refine (markSPP_any _ _ _ _ _ ll 1 _ hn_V HTOT.out (by omega) (by omega) (by omega) s_x).mono ?_
    rintro e9 w9 ⟨rfl, t9, m_x⟩
    have z9 : w8.heap.size ≤ w9.heap.size := by rw [t9.size]; exact Nat.le_refl _
    have s_p := s_p.wnd t9 (by omega)
    have s_w := s_w.wnd t9 (by omega)
    have s_g := s_g.wnd t9 (by omega)
    have s_z := s_z.wnd t9 (by omega)
    have g_V := g_V.wnd t9 (by omega) zw
    have bw : Below w.heap.size w w9 := bel_wnd bw t9 (by omega)
    have zw : w.heap.size ≤ w9.heap.size := bw.size
    clear t9 s_x
    have hTk := HTOT.out
    obtain ⟨k, hk⟩ : ∃ x : Int, 1 + 3 * (totP ll ll.length : Int) = x := ⟨_, rfl⟩
    have k0 : ¬ k < 0 := by omega
    have k1 : decide (k < 0) = false := decide_eq_false k0
    have k2 : 0 ≤ k := by omega
    have k3 : k ≤ 50000000 := by omega
    rw [hk]
    have Hk := Lib.hid hk
    clear hk hTk
    go_wp2_with fail
    refine (eqSFa_same _ _ _ _ _ L _ rfl (by omega) s_g.row s_w.row).mono ?_
    rintro e10 w10 ⟨rfl, b10⟩
    have z10 : w9.heap.size ≤ w10.heap.size := b10.size
    have s_p := s_p.below b10
    have s_w := s_w.below b10
    have s_g := s_g.below b10
    have s_z := s_z.below b10
    have m_x := m_x.below b10
    have g_V := g_V.bel b10 zw
    have bw : Below w.heap.size w w10 := bel_tr bw b10
    have zw : w.heap.size ≤ w10.heap.size := bw.size
    clear b10
    go_wp2_with fail
    refine (markSFa_any _ _ _ _ L 1 _ rfl (by omega) (by omega) (by omega) s_g.row s_g.own).mono ?_
    rintro e11 w11 ⟨rfl, t11, m_g⟩
    have P11 : ∀ a : Addr, 0 < L.length → _ = some a → _ ≤ a.block ∧ a.block < _ := fun a h0 ha => s_g.place (by omega) ha
    have z11 : w10.heap.size ≤ w11.heap.size := by rw [t11.size]; exact Nat.le_refl _
    have s_p := s_p.trn t11 (fun a h0 ha => by have := P11 a h0 ha; omega)
    have s_w := s_w.trn t11 (fun a h0 ha => by have := P11 a h0 ha; omega)
    have s_z := s_z.trn t11 (fun a h0 ha => by have := P11 a h0 ha; omega)
    clear m_x
    have g_V := g_V.trn t11 (fun a h0 ha => by have := P11 a h0 ha; omega) zw
    have bw : Below w.heap.size w w11 := bel_trn bw t11 (fun a h0 ha => by have := P11 a h0 ha; omega)
    have zw : w.heap.size ≤ w11.heap.size := bw.size
    clear t11 P11 s_g
    obtain ⟨m, hm⟩ : ∃ x : Int, 1 + 2 * (L.length : Int) = x := ⟨_, rfl⟩
    have m0 : ¬ m < 0 := by omega
    have m1 : decide (m < 0) = false := decide_eq_false m0
    have m2 : 0 ≤ m := by omega
    have m3 : m ≤ 50000000 := by omega
    rw [hm]
    have Hm := Lib.hid hm
    clear hm
    go_wp2_with fail
    refine (heldSFa_any _ L.length _ 1 _ (by omega) (by omega) (by omega) m_g).mono ?_
    rintro e12 w12 ⟨rfl, b12⟩
    have z12 : w11.heap.size ≤ w12.heap.size := b12.size
    have s_p := s_p.below b12
    have s_w := s_w.below b12
    have s_z := s_z.below b12
    have m_g := m_g.below b12
    have g_V := g_V.bel b12 zw
    have bw : Below w.heap.size w w12 := bel_tr bw b12
    have zw : w.heap.size ≤ w12.heap.size := bw.size
    clear b12
    rw [Hm.out]
    go_wp2_with fail
    refine (toSPP_any _ _ _ ll _ hn_V (by omega) HBG.out (g_V.up zw)).mono ?_
    rintro e13 w13 ⟨A_r, rfl, r_, o_, b13⟩
    rw [hn_V]
    have s_r := SLPP.of r_ o_
    clear r_ o_
    have z13 : w12.heap.size ≤ w13.heap.size := b13.size
    have s_p := s_p.below b13
    have s_w := s_w.below b13
    have s_z := s_z.below b13
    have m_g := m_g.below b13
    have g_V := g_V.bel b13 zw
    have bw : Below w.heap.size w w13 := bel_tr bw b13
    have zw : w.heap.size ≤ w13.heap.size := bw.size
    clear b13
    go_wp2_with fail
    refine (pf_val HL.out _ _ _ _ hn_V (by omega) s_r.row HBG.out).mono ?_
    rintro e14 w14 ⟨A_h, c_h, rfl, lc_h, cm_h, r_, o_, b14⟩
    have s_h := SLFa.of r_ o_
    clear r_ o_
    have z14 : w13.heap.size ≤ w14.heap.size := b14.size
    have s_p := s_p.below b14
    have s_w := s_w.below b14
    have s_z := s_z.below b14
    have s_r := s_r.below b14
    have m_g := m_g.below b14
    have g_V := g_V.bel b14 zw
    have bw : Below w.heap.size w w14 := bel_tr bw b14
    have zw : w.heap.size ≤ w14.heap.size := bw.size
    clear b14
    go_wp2_with fail
    refine (eqSFa_same _ _ _ _ _ L _ rfl (by omega) s_h.row s_w.row).mono ?_
    rintro e15 w15 ⟨rfl, b15⟩
    have z15 : w14.heap.size ≤ w15.heap.size := b15.size
    have s_p := s_p.below b15
    have s_w := s_w.below b15
    have s_z := s_z.below b15
    have s_r := s_r.below b15
    have s_h := s_h.below b15
    have m_g := m_g.below b15
    have g_V := g_V.bel b15 zw
    have bw : Below w.heap.size w w15 := bel_tr bw b15
    have zw : w.heap.size ≤ w15.heap.size := bw.size
    clear b15
    go_wp2_with fail
    refine (heldSFa_any _ L.length _ 1 _ (by omega) (by omega) (by omega) m_g).mono ?_
    rintro e16 w16 ⟨rfl, b16⟩
    have z16 : w15.heap.size ≤ w16.heap.size := b16.size
    have s_p := s_p.below b16
    have s_w := s_w.below b16
    have s_z := s_z.below b16
    have s_r := s_r.below b16
    have s_h := s_h.below b16
    have m_g := m_g.below b16
    have g_V := g_V.bel b16 zw
    have bw : Below w.heap.size w w16 := bel_tr bw b16
    have zw : w.heap.size ≤ w16.heap.size := bw.size
    clear b16
    rw [Hm.out]
    go_wp2
    go_ret
    exact ⟨rfl, bw⟩


end Go.Proofs.Ytpjakgnghpapmaa.FnExactPartsFaults
