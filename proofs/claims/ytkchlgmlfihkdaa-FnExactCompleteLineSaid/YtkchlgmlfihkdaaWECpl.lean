/- The walk of the law FnExactCompleteLine: for every input it returns true and turns nothing that was there. -/
import Derived.Test.YtkchlgmlfihkdaaLnV
import Derived.Test.YtkchlgmlfihkdaaMkPi
namespace Go.Proofs.Ytkchlgmlfihkdaa.FnExactCompleteLine
set_option linter.unusedSimpArgs false
set_option linter.unusedVariables false
open Go.RowKit

set_option maxRecDepth 20000 in
set_option maxHeartbeats 8000000 in
theorem walk (f : Int) (l : List Pi) (A : Option Addr) (n c : Nat) (lo hi : Int) (w : World) (_wf : (Lit.int .i64 f).wf = true) (hn : l.length = n) (_hc : n ≤ c) (hm : c ≤ maxLen) (h : RowPi w w.heap.size A l) (_w1 : (Lit.int .i64 lo).wf = true) (_w2 : (Lit.int .i64 hi).wf = true) :
    Calls Try.prog 9 #[.int .i64 f, .slice A n c, .int .i64 lo, .int .i64 hi] w fun e w' => e = .returned (.bool true) ∧ Below w.heap.size w w' := by
  unfold maxLen at hm
  have hn_V := hn
  have h_V := h
  clear hn h
  by_cases hs : n ≤ 1048576
  · obtain ⟨L, hL⟩ : ∃ L, (lnR f l lo hi 0).getD [] = L := ⟨_, rfl⟩
    obtain ⟨B, hB⟩ : ∃ B, (lnR f l lo hi 0).isSome = B := ⟨_, rfl⟩
    have hLn : L.length ≤ 10 := by rw [← hL]; exact lnR_len _ _ _ _ _
    have HL := Lib.hid hL
    have HB := Lib.hid hB
    clear hL hB
    go_enter Try.func9, Try.ntmps9
    have g_V := h_V
    have bw : Below w.heap.size w w := bel_refl w
    have zw : w.heap.size ≤ w.heap.size := Nat.le_refl _
    go_wp2_with (go_at_call 14; go_in)
    refine (toSPi_any _ _ _ l _ hn_V (by omega) (g_V.up zw)).mono ?_
    rintro e1 w1 ⟨A_p, rfl, r_, o_, b1⟩
    rw [hn_V]
    have s_p := SLPi.of r_ (by exact o_)
    clear r_ o_
    have z1 : w.heap.size ≤ w1.heap.size := b1.size
    have g_V := g_V.bel b1 zw
    have bw : Below w.heap.size w w1 := bel_tr bw b1
    have zw : w.heap.size ≤ w1.heap.size := bw.size
    clear b1
    go_wp2_with fail
    refine (scpl_val HL.out HB.out _ _ _ _ hn_V (by omega) s_p.row).mono ?_
    rintro e2 w2 ⟨A_w, c_w, rfl, lc_w, cm_w, r_, o_, b2⟩
    have s_w := SLPi.of r_ o_
    clear r_ o_
    have z2 : w1.heap.size ≤ w2.heap.size := b2.size
    have s_p := s_p.below b2
    have g_V := g_V.bel b2 zw
    have bw : Below w.heap.size w w2 := bel_tr bw b2
    have zw : w.heap.size ≤ w2.heap.size := bw.size
    clear b2
    go_wp2_with fail
    refine (toSPi_any _ _ _ l _ hn_V (by omega) (g_V.up zw)).mono ?_
    rintro e3 w3 ⟨A_x, rfl, r_, o_, b3⟩
    rw [hn_V]
    have s_x := SLPi.of r_ (by exact o_)
    clear r_ o_
    have z3 : w2.heap.size ≤ w3.heap.size := b3.size
    have s_p := s_p.below b3
    have s_w := s_w.below b3
    have g_V := g_V.bel b3 zw
    have bw : Below w.heap.size w w3 := bel_tr bw b3
    have zw : w.heap.size ≤ w3.heap.size := bw.size
    clear b3
    go_wp2_with fail
    refine (cpl_val HL.out HB.out _ _ _ _ hn_V (by omega) s_x.row).mono ?_
    rintro e4 w4 ⟨A_g, c_g, rfl, lc_g, cm_g, r_, o_, b4⟩
    have s_g := SLPi.of r_ o_
    clear r_ o_
    have z4 : w3.heap.size ≤ w4.heap.size := b4.size
    have s_p := s_p.below b4
    have s_w := s_w.below b4
    have s_x := s_x.below b4
    have g_V := g_V.bel b4 zw
    have bw : Below w.heap.size w w4 := bel_tr bw b4
    have zw : w.heap.size ≤ w4.heap.size := bw.size
    clear b4
    go_wp2_with fail
    refine (eqSPi_same _ _ _ _ _ L _ rfl (by omega) s_g.row s_w.row).mono ?_
    rintro e5 w5 ⟨rfl, b5⟩
    have z5 : w4.heap.size ≤ w5.heap.size := b5.size
    have s_p := s_p.below b5
    have s_w := s_w.below b5
    have s_x := s_x.below b5
    have s_g := s_g.below b5
    have g_V := g_V.bel b5 zw
    have bw : Below w.heap.size w w5 := bel_tr bw b5
    have zw : w.heap.size ≤ w5.heap.size := bw.size
    clear b5
    go_wp2_with fail
    refine (toSPi_any _ _ _ l _ hn_V (by omega) (g_V.up zw)).mono ?_
    rintro e6 w6 ⟨A_y, rfl, r_, o_, b6⟩
    rw [hn_V]
    have s_y := SLPi.of r_ (by exact o_)
    clear r_ o_
    have z6 : w5.heap.size ≤ w6.heap.size := b6.size
    have s_p := s_p.below b6
    have s_w := s_w.below b6
    have s_x := s_x.below b6
    have s_g := s_g.below b6
    have g_V := g_V.bel b6 zw
    have bw : Below w.heap.size w w6 := bel_tr bw b6
    have zw : w.heap.size ≤ w6.heap.size := bw.size
    clear b6
    go_wp2_with fail
    refine (eqSPi_same _ _ _ _ _ l _ hn_V (by omega) s_x.row s_y.row).mono ?_
    rintro e7 w7 ⟨rfl, b7⟩
    have z7 : w6.heap.size ≤ w7.heap.size := b7.size
    have s_p := s_p.below b7
    have s_w := s_w.below b7
    have s_x := s_x.below b7
    have s_g := s_g.below b7
    have s_y := s_y.below b7
    have g_V := g_V.bel b7 zw
    have bw : Below w.heap.size w w7 := bel_tr bw b7
    have zw : w.heap.size ≤ w7.heap.size := bw.size
    clear b7
    go_wp2_with fail
    refine (markSPi_any _ _ _ _ l 1 _ hn_V (by omega) (by omega) (by omega) s_x.row s_x.own).mono ?_
    rintro e8 w8 ⟨rfl, t8, m_x⟩
    have P8 : ∀ a : Addr, 0 < n → _ = some a → _ ≤ a.block ∧ a.block < _ := fun a h0 ha => s_x.place (by omega) ha
    have z8 : w7.heap.size ≤ w8.heap.size := by rw [t8.size]; exact Nat.le_refl _
    have s_p := s_p.trn t8 (fun a h0 ha => by have := P8 a h0 ha; omega)
    have s_w := s_w.trn t8 (fun a h0 ha => by have := P8 a h0 ha; omega)
    have s_g := s_g.trn t8 (fun a h0 ha => by have := P8 a h0 ha; omega)
    have s_y := s_y.trn t8 (fun a h0 ha => by have := P8 a h0 ha; omega)
    have g_V := g_V.trn t8 (fun a h0 ha => by have := P8 a h0 ha; omega) zw
    have bw : Below w.heap.size w w8 := bel_trn bw t8 (fun a h0 ha => by have := P8 a h0 ha; omega)
    have zw : w.heap.size ≤ w8.heap.size := bw.size
    clear t8 P8 s_x
    obtain ⟨k, hk⟩ : ∃ x : Int, 1 + 3 * (n : Int) = x := ⟨_, rfl⟩
    have k0 : ¬ k < 0 := by omega
    have k1 : decide (k < 0) = false := decide_eq_false k0
    have k2 : 0 ≤ k := by omega
    have k3 : k ≤ 50000000 := by omega
    rw [hk]
    have Hk := Lib.hid hk
    clear hk
    go_wp2_with fail
    refine (eqSPi_same _ _ _ _ _ L _ rfl (by omega) s_g.row s_w.row).mono ?_
    rintro e9 w9 ⟨rfl, b9⟩
    have z9 : w8.heap.size ≤ w9.heap.size := b9.size
    have s_p := s_p.below b9
    have s_w := s_w.below b9
    have s_g := s_g.below b9
    have s_y := s_y.below b9
    have m_x := m_x.below b9
    have g_V := g_V.bel b9 zw
    have bw : Below w.heap.size w w9 := bel_tr bw b9
    have zw : w.heap.size ≤ w9.heap.size := bw.size
    clear b9
    go_wp2_with fail
    refine (markSPi_any _ _ _ _ L 1 _ rfl (by omega) (by omega) (by omega) s_g.row s_g.own).mono ?_
    rintro e10 w10 ⟨rfl, t10, m_g⟩
    have P10 : ∀ a : Addr, 0 < L.length → _ = some a → _ ≤ a.block ∧ a.block < _ := fun a h0 ha => s_g.place (by omega) ha
    have z10 : w9.heap.size ≤ w10.heap.size := by rw [t10.size]; exact Nat.le_refl _
    have s_p := s_p.trn t10 (fun a h0 ha => by have := P10 a h0 ha; omega)
    have s_w := s_w.trn t10 (fun a h0 ha => by have := P10 a h0 ha; omega)
    have s_y := s_y.trn t10 (fun a h0 ha => by have := P10 a h0 ha; omega)
    clear m_x
    have g_V := g_V.trn t10 (fun a h0 ha => by have := P10 a h0 ha; omega) zw
    have bw : Below w.heap.size w w10 := bel_trn bw t10 (fun a h0 ha => by have := P10 a h0 ha; omega)
    have zw : w.heap.size ≤ w10.heap.size := bw.size
    clear t10 P10 s_g
    obtain ⟨m, hm⟩ : ∃ x : Int, 1 + 3 * (L.length : Int) = x := ⟨_, rfl⟩
    have m0 : ¬ m < 0 := by omega
    have m1 : decide (m < 0) = false := decide_eq_false m0
    have m2 : 0 ≤ m := by omega
    have m3 : m ≤ 50000000 := by omega
    rw [hm]
    have Hm := Lib.hid hm
    clear hm
    go_wp2_with fail
    refine (heldSPi_any _ L.length _ 1 _ (by omega) (by omega) (by omega) m_g).mono ?_
    rintro e11 w11 ⟨rfl, b11⟩
    have z11 : w10.heap.size ≤ w11.heap.size := b11.size
    have s_p := s_p.below b11
    have s_w := s_w.below b11
    have s_y := s_y.below b11
    have m_g := m_g.below b11
    have g_V := g_V.bel b11 zw
    have bw : Below w.heap.size w w11 := bel_tr bw b11
    have zw : w.heap.size ≤ w11.heap.size := bw.size
    clear b11
    rw [Hm.out]
    go_wp2_with fail
    refine (toSPi_any _ _ _ l _ hn_V (by omega) (g_V.up zw)).mono ?_
    rintro e12 w12 ⟨A_z, rfl, r_, o_, b12⟩
    rw [hn_V]
    have s_z := SLPi.of r_ (by exact o_)
    clear r_ o_
    have z12 : w11.heap.size ≤ w12.heap.size := b12.size
    have s_p := s_p.below b12
    have s_w := s_w.below b12
    have s_y := s_y.below b12
    have m_g := m_g.below b12
    have g_V := g_V.bel b12 zw
    have bw : Below w.heap.size w w12 := bel_tr bw b12
    have zw : w.heap.size ≤ w12.heap.size := bw.size
    clear b12
    go_wp2_with fail
    refine (cpl_val HL.out HB.out _ _ _ _ hn_V (by omega) s_z.row).mono ?_
    rintro e13 w13 ⟨A_h, c_h, rfl, lc_h, cm_h, r_, o_, b13⟩
    have s_h := SLPi.of r_ o_
    clear r_ o_
    have z13 : w12.heap.size ≤ w13.heap.size := b13.size
    have s_p := s_p.below b13
    have s_w := s_w.below b13
    have s_y := s_y.below b13
    have s_z := s_z.below b13
    have m_g := m_g.below b13
    have g_V := g_V.bel b13 zw
    have bw : Below w.heap.size w w13 := bel_tr bw b13
    have zw : w.heap.size ≤ w13.heap.size := bw.size
    clear b13
    go_wp2_with fail
    refine (eqSPi_same _ _ _ _ _ L _ rfl (by omega) s_h.row s_w.row).mono ?_
    rintro e14 w14 ⟨rfl, b14⟩
    have z14 : w13.heap.size ≤ w14.heap.size := b14.size
    have s_p := s_p.below b14
    have s_w := s_w.below b14
    have s_y := s_y.below b14
    have s_z := s_z.below b14
    have s_h := s_h.below b14
    have m_g := m_g.below b14
    have g_V := g_V.bel b14 zw
    have bw : Below w.heap.size w w14 := bel_tr bw b14
    have zw : w.heap.size ≤ w14.heap.size := bw.size
    clear b14
    go_wp2_with fail
    refine (heldSPi_any _ L.length _ 1 _ (by omega) (by omega) (by omega) m_g).mono ?_
    rintro e15 w15 ⟨rfl, b15⟩
    have z15 : w14.heap.size ≤ w15.heap.size := b15.size
    have s_p := s_p.below b15
    have s_w := s_w.below b15
    have s_y := s_y.below b15
    have s_z := s_z.below b15
    have s_h := s_h.below b15
    have m_g := m_g.below b15
    have g_V := g_V.bel b15 zw
    have bw : Below w.heap.size w w15 := bel_tr bw b15
    have zw : w.heap.size ≤ w15.heap.size := bw.size
    clear b15
    rw [Hm.out]
    go_wp2
    go_ret
    exact ⟨rfl, bw⟩
  · have hs2 : (1048576 : Int) < (n : Int) := by omega
    go_enter Try.func9, Try.ntmps9
    go_wp2_with (go_at_call 14; go_in)
    go_ret
    exact ⟨rfl, bel_refl _⟩


end Go.Proofs.Ytkchlgmlfihkdaa.FnExactCompleteLine
