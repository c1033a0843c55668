/- The walk of the law FnExactCanonDelays: for every input it returns true and turns nothing that was there. -/
import Derived.Test.YtiapfpjggginoaaCdL
import Derived.Test.YtiapfpjggginoaaBc
import Derived.Deep.RegionHeld3
namespace Go.Proofs.Ytiapfpjggginoaa.FnExactCanonDelays
set_option linter.unusedSimpArgs false
set_option linter.unusedVariables false
open Go.RowKit

set_option maxRecDepth 20000 in
set_option maxHeartbeats 3000000 in
theorem walk (l : List Nt) (A : Option Addr) (n c : Nat) (g st ha : Int) (w : World) (hn : l.length = n) (_hc : n ≤ c) (hm : c ≤ maxLen) (h : RowNt w w.heap.size A l) (_wd : (Lit.int .i64 g).wf = true) (_ws : (Lit.int .i64 st).wf = true) (_wh : (Lit.int .i64 ha).wf = true) :
    Calls Try.prog 7 #[.slice A n c, .int .i64 g, .agg #[.int .i64 st, .int .i64 ha]] w fun e w' => e = .returned (.bool true) ∧ Below w.heap.size w w' := by
  unfold maxLen at hm
  have hn_V := hn
  have h_V := h
  clear hn h
  by_cases hs : n ≤ 1048576
  · obtain ⟨L, hL⟩ : ∃ L, cdL l g st ha = L := ⟨_, rfl⟩
    have hLn : L.length ≤ 768 := by rw [← hL]; exact cdL_len _ _ _ _
    have HL := Lib.hid hL

    clear hL 
    go_enter Try.func7, Try.ntmps7
    have g_V := h_V.bel (bel_al (bel_refl w) (.cells #[.int .i64 st, .int .i64 ha] 45)) (Nat.le_refl _)
    have bI : Blk (w.alloc (.cells #[.int .i64 st, .int .i64 ha] 45)) w.heap.size #[.int .i64 st, .int .i64 ha] 45 := Blk.new w _ _
    have bw : Below w.heap.size w (w.alloc (.cells #[.int .i64 st, .int .i64 ha] 45)) := bel_al (bel_refl w) _
    have hw0 : w.heap.size < (w.alloc (.cells #[.int .i64 st, .int .i64 ha] 45)).heap.size := bI.lt
    have zw : w.heap.size ≤ (w.alloc (.cells #[.int .i64 st, .int .i64 ha] 45)).heap.size := bw.size
    go_wp2_with (go_at_call 10; go_in)
    generalize (w.alloc (.cells #[.int .i64 st, .int .i64 ha] 45)) = w0 at *
    have cI0 : w0.cell? ⟨w.heap.size, 0, none⟩ = some (.int .i64 st) := (by rw [Blk.cell bI]; rfl)
    have cI1 : w0.cell? ⟨w.heap.size, 1, none⟩ = some (.int .i64 ha) := (by rw [Blk.cell bI]; rfl)
    go_region_held3 (fun W => W.cell? ⟨w.heap.size, 0, none⟩ = some (.int .i64 st) ∧ W.cell? ⟨w.heap.size, 1, none⟩ = some (.int .i64 ha) ∧ Below w.heap.size w W) (((try go_split_ands); (repeat' (with_reducible refine And.intro ?_ ?_)) <;> (first | (with_reducible assumption) | ((repeat (first | (with_reducible assumption) | (exact keep_undr (by with_reducible assumption)) | (simp [go_sem]; done) | (with_reducible refine keep_dr ?_) | (with_reducible refine keep_drN ?_ _) | (with_reducible refine keep_al ?_ _) | (refine keep_set ?_ (by first | (simp; done) | (simp; omega) | omega)) | (with_reducible refine keep_tr ?_ (by assumption)))); done) | ((repeat (first | (with_reducible assumption) | (exact bel_undr (by with_reducible assumption)) | (with_reducible exact bel_refl _) | (with_reducible refine bel_dr ?_) | (with_reducible refine bel_drN ?_ _) | (with_reducible refine bel_al ?_ _) | (refine bel_set ?_ (by first | (simp; done) | (simp; exact Below.size (by assumption)) | (simp; omega)) _) | (with_reducible refine bel_tr ?_ (by assumption)))); done) | (simp [go_sem]; done) | go_keep))) (first | (go_at_call 12; have b1 : Below w0.heap.size w0 w0.drew := bel_dr (bel_refl _); generalize w0.drew = w1 at *; have z1 : w0.heap.size ≤ w1.heap.size := b1.size; have g_V := g_V.bel b1 zw; have bI := bI.below b1; have bw : Below w.heap.size w w1 := bel_tr bw b1; have zw : w.heap.size ≤ w1.heap.size := bw.size; clear b1; refine (toSNt_any _ _ _ l _ hn_V (by omega) (g_V.up zw)).mono ?_; rintro e2 w2 ⟨A_p, rfl, r_, o_, b2⟩; rw [hn_V]; have s_p := SLNt.of r_ (by exact o_); clear r_ o_; have z2 : w1.heap.size ≤ w2.heap.size := b2.size; have g_V := g_V.bel b2 zw; have bI := bI.below b2; have bw : Below w.heap.size w w2 := bel_tr bw b2; have zw : w.heap.size ≤ w2.heap.size := bw.size; clear b2; clear cI0 cI1; have cI0 : w2.cell? ⟨w.heap.size, 0, none⟩ = some (.int .i64 st) := (by rw [Blk.cell bI]; rfl); have cI1 : w2.cell? ⟨w.heap.size, 1, none⟩ = some (.int .i64 ha) := (by rw [Blk.cell bI]; rfl)) | (go_at_call 30; refine (toI_any _ _ _).mono ?_; rintro e3 w3 ⟨rfl, b3⟩; have z3 : w2.heap.size ≤ w3.heap.size := b3.size; have s_p := s_p.below b3; have g_V := g_V.bel b3 zw; have bI := bI.below b3; have bw : Below w.heap.size w w3 := bel_tr bw b3; have zw : w.heap.size ≤ w3.heap.size := bw.size; clear b3; clear cI0 cI1; have cI0 : w3.cell? ⟨w.heap.size, 0, none⟩ = some (.int .i64 st) := (by rw [Blk.cell bI]; rfl); have cI1 : w3.cell? ⟨w.heap.size, 1, none⟩ = some (.int .i64 ha) := (by rw [Blk.cell bI]; rfl)) | (go_at_call 29; refine (scd_q HL.out _ _ _ _ hn_V (by omega) s_p.row).mono ?_; rintro e4 w4 ⟨A_w, c_w, rfl, lc_w, cm_w, r_, o_, b4⟩; have s_w := SLIn.of r_ o_; clear r_ o_; have z4 : w3.heap.size ≤ w4.heap.size := b4.size; have s_p := s_p.below b4; have g_V := g_V.bel b4 zw; have bI := bI.below b4; have bw : Below w.heap.size w w4 := bel_tr bw b4; have zw : w.heap.size ≤ w4.heap.size := bw.size; clear b4; clear cI0 cI1; have cI0 : w4.cell? ⟨w.heap.size, 0, none⟩ = some (.int .i64 st) := (by rw [Blk.cell bI]; rfl); have cI1 : w4.cell? ⟨w.heap.size, 1, none⟩ = some (.int .i64 ha) := (by rw [Blk.cell bI]; rfl)))
    go_wp2_with fail
    refine (toSNt_any _ _ _ l _ hn_V (by omega) (g_V.up zw)).mono ?_
    rintro e5 w5 ⟨A_x, rfl, r_, o_, b5⟩
    rw [hn_V]
    have s_x := SLNt.of r_ (by exact o_)
    clear r_ o_
    have z5 : w4.heap.size ≤ w5.heap.size := b5.size
    have s_p := s_p.below b5
    have s_w := s_w.below b5
    have g_V := g_V.bel b5 zw
    have bI := bI.below b5
    have bw : Below w.heap.size w w5 := bel_tr bw b5
    have zw : w.heap.size ≤ w5.heap.size := bw.size
    clear b5
    clear cI0 cI1
    have cI0 : w5.cell? ⟨w.heap.size, 0, none⟩ = some (.int .i64 st) := (by rw [Blk.cell bI]; rfl)
    have cI1 : w5.cell? ⟨w.heap.size, 1, none⟩ = some (.int .i64 ha) := (by rw [Blk.cell bI]; rfl)
    go_wp2_with fail
    refine (toI_any _ _ _).mono ?_
    rintro e6 w6 ⟨rfl, b6⟩
    have z6 : w5.heap.size ≤ w6.heap.size := b6.size
    have s_p := s_p.below b6
    have s_w := s_w.below b6
    have s_x := s_x.below b6
    have g_V := g_V.bel b6 zw
    have bI := bI.below b6
    have bw : Below w.heap.size w w6 := bel_tr bw b6
    have zw : w.heap.size ≤ w6.heap.size := bw.size
    clear b6
    clear cI0 cI1
    have cI0 : w6.cell? ⟨w.heap.size, 0, none⟩ = some (.int .i64 st) := (by rw [Blk.cell bI]; rfl)
    have cI1 : w6.cell? ⟨w.heap.size, 1, none⟩ = some (.int .i64 ha) := (by rw [Blk.cell bI]; rfl)
    go_wp2_with fail
    refine (cdi_q HL.out _ _ _ _ hn_V (by omega) s_x.row).mono ?_
    rintro e7 w7 ⟨A_g, c_g, rfl, lc_g, cm_g, r_, o_, b7⟩
    have s_g := SLIn.of r_ o_
    clear r_ o_
    have z7 : w6.heap.size ≤ w7.heap.size := b7.size
    have s_p := s_p.below b7
    have s_w := s_w.below b7
    have s_x := s_x.below b7
    have g_V := g_V.bel b7 zw
    have bI := bI.below b7
    have bw : Below w.heap.size w w7 := bel_tr bw b7
    have zw : w.heap.size ≤ w7.heap.size := bw.size
    clear b7
    go_wp2_with fail
    refine (eqSIn_same _ _ _ _ _ L _ rfl (by omega) s_g.row s_w.row).mono ?_
    rintro e8 w8 ⟨rfl, b8⟩
    have z8 : w7.heap.size ≤ w8.heap.size := b8.size
    have s_p := s_p.below b8
    have s_w := s_w.below b8
    have s_x := s_x.below b8
    have s_g := s_g.below b8
    have g_V := g_V.bel b8 zw
    have bI := bI.below b8
    have bw : Below w.heap.size w w8 := bel_tr bw b8
    have zw : w.heap.size ≤ w8.heap.size := bw.size
    clear b8
    go_wp2_with fail
    refine (toSNt_any _ _ _ l _ hn_V (by omega) (g_V.up zw)).mono ?_
    rintro e9 w9 ⟨A_y, rfl, r_, o_, b9⟩
    rw [hn_V]
    have s_y := SLNt.of r_ (by exact o_)
    clear r_ o_
    have z9 : w8.heap.size ≤ w9.heap.size := b9.size
    have s_p := s_p.below b9
    have s_w := s_w.below b9
    have s_x := s_x.below b9
    have s_g := s_g.below b9
    have g_V := g_V.bel b9 zw
    have bI := bI.below b9
    have bw : Below w.heap.size w w9 := bel_tr bw b9
    have zw : w.heap.size ≤ w9.heap.size := bw.size
    clear b9
    go_wp2_with fail
    refine (eqSNt_same _ _ _ _ _ l _ hn_V (by omega) s_x.row s_y.row).mono ?_
    rintro e10 w10 ⟨rfl, b10⟩
    have z10 : w9.heap.size ≤ w10.heap.size := b10.size
    have s_p := s_p.below b10
    have s_w := s_w.below b10
    have s_x := s_x.below b10
    have s_g := s_g.below b10
    have s_y := s_y.below b10
    have g_V := g_V.bel b10 zw
    have bI := bI.below b10
    have bw : Below w.heap.size w w10 := bel_tr bw b10
    have zw : w.heap.size ≤ w10.heap.size := bw.size
    clear b10
    go_wp2_with fail
    refine (markSNt_any _ _ _ _ l 1 _ hn_V (by omega) (by omega) (by omega) s_x.row s_x.own).mono ?_
    rintro e11 w11 ⟨rfl, t11, m_x⟩
    have P11 : ∀ a : Addr, 0 < n → _ = some a → _ ≤ a.block ∧ a.block < _ := fun a h0 ha => s_x.place (by omega) ha
    have z11 : w10.heap.size ≤ w11.heap.size := by rw [t11.size]; exact Nat.le_refl _
    have s_p := s_p.trn t11 (fun a h0 ha => by have := P11 a h0 ha; omega)
    have s_w := s_w.trn t11 (fun a h0 ha => by have := P11 a h0 ha; omega)
    have s_g := s_g.trn t11 (fun a h0 ha => by have := P11 a h0 ha; omega)
    have s_y := s_y.trn t11 (fun a h0 ha => by have := P11 a h0 ha; omega)
    have g_V := g_V.trn t11 (fun a h0 ha => by have := P11 a h0 ha; omega) zw
    have bI := bI.trn t11 (fun a h0 ha => by have := P11 a h0 ha; omega)
    have bw : Below w.heap.size w w11 := bel_trn bw t11 (fun a h0 ha => by have := P11 a h0 ha; omega)
    have zw : w.heap.size ≤ w11.heap.size := bw.size
    clear t11 P11 s_x
    obtain ⟨k, hk⟩ : ∃ x : Int, 1 + 6 * (n : Int) = x := ⟨_, rfl⟩
    have k0 : ¬ k < 0 := by omega
    have k1 : decide (k < 0) = false := decide_eq_false k0
    have k2 : 0 ≤ k := by omega
    have k3 : k ≤ 50000000 := by omega
    rw [hk]
    have Hk := Lib.hid hk
    clear hk
    go_wp2_with fail
    refine (eqSIn_same _ _ _ _ _ L _ rfl (by omega) s_g.row s_w.row).mono ?_
    rintro e12 w12 ⟨rfl, b12⟩
    have z12 : w11.heap.size ≤ w12.heap.size := b12.size
    have s_p := s_p.below b12
    have s_w := s_w.below b12
    have s_g := s_g.below b12
    have s_y := s_y.below b12
    have m_x := m_x.below b12
    have g_V := g_V.bel b12 zw
    have bI := bI.below b12
    have bw : Below w.heap.size w w12 := bel_tr bw b12
    have zw : w.heap.size ≤ w12.heap.size := bw.size
    clear b12
    go_wp2_with fail
    refine (markSIn_any _ _ _ _ L 1 _ rfl (by omega) (by omega) (by omega) s_g.row s_g.own).mono ?_
    rintro e13 w13 ⟨rfl, t13, m_g⟩
    have P13 : ∀ a : Addr, 0 < L.length → _ = some a → _ ≤ a.block ∧ a.block < _ := fun a h0 ha => s_g.place (by omega) ha
    have z13 : w12.heap.size ≤ w13.heap.size := by rw [t13.size]; exact Nat.le_refl _
    have s_p := s_p.trn t13 (fun a h0 ha => by have := P13 a h0 ha; omega)
    have s_w := s_w.trn t13 (fun a h0 ha => by have := P13 a h0 ha; omega)
    have s_y := s_y.trn t13 (fun a h0 ha => by have := P13 a h0 ha; omega)
    clear m_x
    have g_V := g_V.trn t13 (fun a h0 ha => by have := P13 a h0 ha; omega) zw
    have bI := bI.trn t13 (fun a h0 ha => by have := P13 a h0 ha; omega)
    have bw : Below w.heap.size w w13 := bel_trn bw t13 (fun a h0 ha => by have := P13 a h0 ha; omega)
    have zw : w.heap.size ≤ w13.heap.size := bw.size
    clear t13 P13 s_g
    obtain ⟨m, hm⟩ : ∃ x : Int, 1 + 1 * (L.length : Int) = x := ⟨_, rfl⟩
    have m0 : ¬ m < 0 := by omega
    have m1 : decide (m < 0) = false := decide_eq_false m0
    have m2 : 0 ≤ m := by omega
    have m3 : m ≤ 50000000 := by omega
    rw [hm]
    have Hm := Lib.hid hm
    clear hm
    go_wp2_with fail
    refine (heldSIn_any _ L.length _ 1 _ (by omega) (by omega) (by omega) m_g).mono ?_
    rintro e14 w14 ⟨rfl, b14⟩
    have z14 : w13.heap.size ≤ w14.heap.size := b14.size
    have s_p := s_p.below b14
    have s_w := s_w.below b14
    have s_y := s_y.below b14
    have m_g := m_g.below b14
    have g_V := g_V.bel b14 zw
    have bI := bI.below b14
    have bw : Below w.heap.size w w14 := bel_tr bw b14
    have zw : w.heap.size ≤ w14.heap.size := bw.size
    clear b14
    rw [Hm.out]
    go_wp2_with fail
    clear cI0 cI1
    have cI0 : w14.cell? ⟨w.heap.size, 0, none⟩ = some (.int .i64 st) := (by rw [Blk.cell bI]; rfl)
    have cI1 : w14.cell? ⟨w.heap.size, 1, none⟩ = some (.int .i64 ha) := (by rw [Blk.cell bI]; rfl)
    go_region_held3 (fun W => W.cell? ⟨w.heap.size, 0, none⟩ = some (.int .i64 st) ∧ W.cell? ⟨w.heap.size, 1, none⟩ = some (.int .i64 ha) ∧ Below w.heap.size w W) (((try go_split_ands); (repeat' (with_reducible refine And.intro ?_ ?_)) <;> (first | (with_reducible assumption) | ((repeat (first | (with_reducible assumption) | (exact keep_undr (by with_reducible assumption)) | (simp [go_sem]; done) | (with_reducible refine keep_dr ?_) | (with_reducible refine keep_drN ?_ _) | (with_reducible refine keep_al ?_ _) | (refine keep_set ?_ (by first | (simp; done) | (simp; omega) | omega)) | (with_reducible refine keep_tr ?_ (by assumption)))); done) | ((repeat (first | (with_reducible assumption) | (exact bel_undr (by with_reducible assumption)) | (with_reducible exact bel_refl _) | (with_reducible refine bel_dr ?_) | (with_reducible refine bel_drN ?_ _) | (with_reducible refine bel_al ?_ _) | (refine bel_set ?_ (by first | (simp; done) | (simp; exact Below.size (by assumption)) | (simp; omega)) _) | (with_reducible refine bel_tr ?_ (by assumption)))); done) | (simp [go_sem]; done) | go_keep))) (first | (go_at_call 12; have b15 : Below w14.heap.size w14 w14.drew := bel_dr (bel_refl _); generalize w14.drew = w15 at *; have z15 : w14.heap.size ≤ w15.heap.size := b15.size; have s_p := s_p.below b15; have s_w := s_w.below b15; have s_y := s_y.below b15; have m_g := m_g.below b15; have g_V := g_V.bel b15 zw; have bI := bI.below b15; have bw : Below w.heap.size w w15 := bel_tr bw b15; have zw : w.heap.size ≤ w15.heap.size := bw.size; clear b15; refine (toSNt_any _ _ _ l _ hn_V (by omega) (g_V.up zw)).mono ?_; rintro e16 w16 ⟨A_z, rfl, r_, o_, b16⟩; rw [hn_V]; have s_z := SLNt.of r_ (by exact o_); clear r_ o_; have z16 : w15.heap.size ≤ w16.heap.size := b16.size; have s_p := s_p.below b16; have s_w := s_w.below b16; have s_y := s_y.below b16; have m_g := m_g.below b16; have g_V := g_V.bel b16 zw; have bI := bI.below b16; have bw : Below w.heap.size w w16 := bel_tr bw b16; have zw : w.heap.size ≤ w16.heap.size := bw.size; clear b16; clear cI0 cI1; have cI0 : w16.cell? ⟨w.heap.size, 0, none⟩ = some (.int .i64 st) := (by rw [Blk.cell bI]; rfl); have cI1 : w16.cell? ⟨w.heap.size, 1, none⟩ = some (.int .i64 ha) := (by rw [Blk.cell bI]; rfl)) | (go_at_call 30; refine (toI_any _ _ _).mono ?_; rintro e17 w17 ⟨rfl, b17⟩; have z17 : w16.heap.size ≤ w17.heap.size := b17.size; have s_p := s_p.below b17; have s_w := s_w.below b17; have s_y := s_y.below b17; have s_z := s_z.below b17; have m_g := m_g.below b17; have g_V := g_V.bel b17 zw; have bI := bI.below b17; have bw : Below w.heap.size w w17 := bel_tr bw b17; have zw : w.heap.size ≤ w17.heap.size := bw.size; clear b17; clear cI0 cI1; have cI0 : w17.cell? ⟨w.heap.size, 0, none⟩ = some (.int .i64 st) := (by rw [Blk.cell bI]; rfl); have cI1 : w17.cell? ⟨w.heap.size, 1, none⟩ = some (.int .i64 ha) := (by rw [Blk.cell bI]; rfl)) | (go_at_call 31; refine (cdi_q HL.out _ _ _ _ hn_V (by omega) s_z.row).mono ?_; rintro e18 w18 ⟨A_h, c_h, rfl, lc_h, cm_h, r_, o_, b18⟩; have s_h := SLIn.of r_ o_; clear r_ o_; have z18 : w17.heap.size ≤ w18.heap.size := b18.size; have s_p := s_p.below b18; have s_w := s_w.below b18; have s_y := s_y.below b18; have s_z := s_z.below b18; have m_g := m_g.below b18; have g_V := g_V.bel b18 zw; have bI := bI.below b18; have bw : Below w.heap.size w w18 := bel_tr bw b18; have zw : w.heap.size ≤ w18.heap.size := bw.size; clear b18; clear cI0 cI1; have cI0 : w18.cell? ⟨w.heap.size, 0, none⟩ = some (.int .i64 st) := (by rw [Blk.cell bI]; rfl); have cI1 : w18.cell? ⟨w.heap.size, 1, none⟩ = some (.int .i64 ha) := (by rw [Blk.cell bI]; rfl)))
    go_wp2_with fail
    refine (eqSIn_same _ _ _ _ _ L _ rfl (by omega) s_h.row s_w.row).mono ?_
    rintro e19 w19 ⟨rfl, b19⟩
    have z19 : w18.heap.size ≤ w19.heap.size := b19.size
    have s_p := s_p.below b19
    have s_w := s_w.below b19
    have s_y := s_y.below b19
    have s_z := s_z.below b19
    have s_h := s_h.below b19
    have m_g := m_g.below b19
    have g_V := g_V.bel b19 zw
    have bI := bI.below b19
    have bw : Below w.heap.size w w19 := bel_tr bw b19
    have zw : w.heap.size ≤ w19.heap.size := bw.size
    clear b19
    go_wp2_with fail
    refine (heldSIn_any _ L.length _ 1 _ (by omega) (by omega) (by omega) m_g).mono ?_
    rintro e20 w20 ⟨rfl, b20⟩
    have z20 : w19.heap.size ≤ w20.heap.size := b20.size
    have s_p := s_p.below b20
    have s_w := s_w.below b20
    have s_y := s_y.below b20
    have s_z := s_z.below b20
    have s_h := s_h.below b20
    have m_g := m_g.below b20
    have g_V := g_V.bel b20 zw
    have bI := bI.below b20
    have bw : Below w.heap.size w w20 := bel_tr bw b20
    have zw : w.heap.size ≤ w20.heap.size := bw.size
    clear b20
    rw [Hm.out]
    go_wp2
    go_ret
    exact ⟨rfl, bw⟩
  · have hs2 : (1048576 : Int) < (n : Int) := by omega
    go_enter Try.func7, Try.ntmps7
    go_wp2
    go_ret
    exact ⟨rfl, by repeat (first | (with_reducible assumption) | (exact bel_undr (by with_reducible assumption)) | (with_reducible exact bel_refl _) | (with_reducible refine bel_dr ?_) | (with_reducible refine bel_drN ?_ _) | (with_reducible refine bel_al ?_ _) | (refine bel_set ?_ (by first | (simp; done) | (simp; exact Below.size (by assumption)) | (simp; omega)) _) | (with_reducible refine bel_tr ?_ (by assumption)))⟩

end Go.Proofs.Ytiapfpjggginoaa.FnExactCanonDelays
