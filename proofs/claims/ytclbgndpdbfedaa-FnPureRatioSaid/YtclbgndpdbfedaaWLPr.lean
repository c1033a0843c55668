/- The walk of the law FnPureRatio: for every input it returns true and turns nothing that was there. -/
import Derived.Test.YtclbgndpdbfedaaVal
namespace Go.Proofs.Ytclbgndpdbfedaa.FnPureRatio
open Go.RowKit

theorem px (x : Int) (h : -24 ≤ x ∧ x ≤ 24) : rvB (piN x) (piD x) = true ∧ piN (-x) = piD x ∧ piD (-x) = piN x ∧ piB (-x) = true ∧ backN (piN x) (piD x) = piD x ∧ backD (piN x) (piD x) = piN x ∧
    (piB (x + 1) = true → lsB (piN x) (piD x) (piN (x + 1)) (piD (x + 1)) = true) ∧
    (0 ≤ x → piB (x + 12) = true → piN (x + 12) = tmN (piN x) (piD x) 2 1 ∧ piD (x + 12) = tmD (piN x) (piD x) 2 1) := by
  have k : ∀ u : Fin 49, rvB (piN (u.1 - 24)) (piD (u.1 - 24)) = true ∧ piN (-(u.1 - 24)) = piD (u.1 - 24) ∧ piD (-(u.1 - 24)) = piN (u.1 - 24) ∧ piB (-(u.1 - 24)) = true ∧ backN (piN (u.1 - 24)) (piD (u.1 - 24)) = piD (u.1 - 24) ∧ backD (piN (u.1 - 24)) (piD (u.1 - 24)) = piN (u.1 - 24) ∧
    (piB (u.1 - 24 + 1) = true → lsB (piN (u.1 - 24)) (piD (u.1 - 24)) (piN (u.1 - 24 + 1)) (piD (u.1 - 24 + 1)) = true) ∧
    (0 ≤ (u.1 : Int) - 24 → piB (u.1 - 24 + 12) = true → piN (u.1 - 24 + 12) = tmN (piN (u.1 - 24)) (piD (u.1 - 24)) 2 1 ∧ piD (u.1 - 24 + 12) = tmD (piN (u.1 - 24)) (piD (u.1 - 24)) 2 1) := by decide +kernel
  have := k ⟨(x + 24).toNat, by omega⟩
  have e : (((x + 24).toNat : Nat) : Int) - 24 = x := by omega
  simp only [e] at this
  exact this

set_option maxHeartbeats 4000000 in
theorem walk (A : Option Addr) (len cap : Nat) (w : World) (h : Cod w A len cap) :
    Calls Try.prog 11 #[.slice A len cap] w fun e w' => e = .returned (.bool true) ∧ Below w.heap.size w w' := by
  by_cases hl : len ≤ 1048576
  · go_enter Try.func11, Try.ntmps11
    go_wp2_with fail
    refine (DrawPureRatio_any w A len cap h).mono ?_
    rintro e1 w1 ⟨x, rfl, x0, x1, b1⟩
    by_cases hx : -24 ≤ x ∧ x ≤ 24
    · have E3 := Lib.hid (show piB x = true by unfold piB; exact decide_eq_true hx)
      obtain ⟨k1, k2, k3, k4, k5, k6, k7, k8⟩ := px x hx
      obtain ⟨hx1, hx2⟩ := hx
      generalize h7 : piN (x + 1) = n1 at *
      generalize h8 : piD (x + 1) = d1 at *
      generalize h10 : piN (x + 12) = n2 at *
      generalize h11 : piD (x + 12) = d2 at *
      generalize hn : piN x = n at *
      generalize hd : piD x = d at *
      have E1 := Lib.hid hn
      have E2 := Lib.hid hd
      have E4 := Lib.hid k2
      have E5 := Lib.hid k3
      have E6 := Lib.hid k4
      have E7 := Lib.hid h7
      have E8 := Lib.hid h8
      have E10 := Lib.hid h10
      have E11 := Lib.hid h11
      have E13 := Lib.hid k1
      have E14 := Lib.hid k5
      have E15 := Lib.hid k6
      have K7 := Lib.hid k7
      have K8 := Lib.hid k8
      clear hn hd k1 k2 k3 k4 k5 k6 k7 k8 h7 h8 h10 h11
      rcases (show x < 0 ∨ (0 ≤ x ∧ x ≤ 12) ∨ (12 < x ∧ x < 24) ∨ 23 < x from by omega) with h0 | ⟨h0, h1⟩ | ⟨h1, h2⟩ | h1
      · have E9 := Lib.hid (show piB (x + 1) = true by unfold piB; exact decide_eq_true (by omega))
        have E12 := Lib.hid (show piB (x + 12) = true by unfold piB; exact decide_eq_true (by omega))
        have E16 := Lib.hid (K7.out E9.out)
        clear K7 K8
        go_wp2_with fail
        refine (pr_val E1.out E2.out E3.out _).mono ?_
        rintro e2 w2 ⟨rfl, b2⟩
        have q0 : (w2.alloc (.cells #[.int .i64 n, .int .i64 d] 25)).cell? ⟨w2.heap.size, 0, none⟩ = some (.int .i64 n) := by simp
        have q1 : (w2.alloc (.cells #[.int .i64 n, .int .i64 d] 25)).cell? ⟨w2.heap.size, 1, none⟩ = some (.int .i64 d) := by simp
        have qb : Below w.heap.size w (w2.alloc (.cells #[.int .i64 n, .int .i64 d] 25)) := by repeat (first | (with_reducible assumption) | (exact bel_undr (by with_reducible assumption)) | (with_reducible exact bel_refl _) | (with_reducible refine bel_dr ?_) | (with_reducible refine bel_drN ?_ _) | (with_reducible refine bel_al ?_ _) | (refine bel_set ?_ (by first | (simp; done) | (simp; exact Below.size (by assumption)) | (simp; omega)) _) | (with_reducible refine bel_tr ?_ (by assumption)))
        go_wp2_with fail
        generalize (w2.alloc (.cells #[.int .i64 n, .int .i64 d] 25)) = v2 at *
        generalize w2.heap.size = B2 at *
        go_wp2_with fail
        refine (spr_val E1.out E2.out E3.out _).mono ?_
        rintro e3 w3 ⟨rfl, b3⟩
        have q0 := keep_tr q0 b3
        have q1 := keep_tr q1 b3
        have q0 := keep_al q0 (.cells #[.int .i64 n, .int .i64 d] 25)
        have q1 := keep_al q1 (.cells #[.int .i64 n, .int .i64 d] 25)
        have q2 : (w3.alloc (.cells #[.int .i64 n, .int .i64 d] 25)).cell? ⟨w3.heap.size, 0, none⟩ = some (.int .i64 n) := by simp
        have q3 : (w3.alloc (.cells #[.int .i64 n, .int .i64 d] 25)).cell? ⟨w3.heap.size, 1, none⟩ = some (.int .i64 d) := by simp
        have qb : Below w.heap.size w (w3.alloc (.cells #[.int .i64 n, .int .i64 d] 25)) := by repeat (first | (with_reducible assumption) | (exact bel_undr (by with_reducible assumption)) | (with_reducible exact bel_refl _) | (with_reducible refine bel_dr ?_) | (with_reducible refine bel_drN ?_ _) | (with_reducible refine bel_al ?_ _) | (refine bel_set ?_ (by first | (simp; done) | (simp; exact Below.size (by assumption)) | (simp; omega)) _) | (with_reducible refine bel_tr ?_ (by assumption)))
        go_wp2_with fail
        generalize (w3.alloc (.cells #[.int .i64 n, .int .i64 d] 25)) = v3 at *
        generalize w3.heap.size = B3 at *
        go_wp2_with fail
        refine (pr_val E4.out E5.out E6.out _).mono ?_
        rintro e4 w4 ⟨rfl, b4⟩
        have q0 := keep_tr q0 b4
        have q1 := keep_tr q1 b4
        have q2 := keep_tr q2 b4
        have q3 := keep_tr q3 b4
        have q0 := keep_al q0 (.cells #[.int .i64 d, .int .i64 n] 25)
        have q1 := keep_al q1 (.cells #[.int .i64 d, .int .i64 n] 25)
        have q2 := keep_al q2 (.cells #[.int .i64 d, .int .i64 n] 25)
        have q3 := keep_al q3 (.cells #[.int .i64 d, .int .i64 n] 25)
        have q4 : (w4.alloc (.cells #[.int .i64 d, .int .i64 n] 25)).cell? ⟨w4.heap.size, 0, none⟩ = some (.int .i64 d) := by simp
        have q5 : (w4.alloc (.cells #[.int .i64 d, .int .i64 n] 25)).cell? ⟨w4.heap.size, 1, none⟩ = some (.int .i64 n) := by simp
        have qb : Below w.heap.size w (w4.alloc (.cells #[.int .i64 d, .int .i64 n] 25)) := by repeat (first | (with_reducible assumption) | (exact bel_undr (by with_reducible assumption)) | (with_reducible exact bel_refl _) | (with_reducible refine bel_dr ?_) | (with_reducible refine bel_drN ?_ _) | (with_reducible refine bel_al ?_ _) | (refine bel_set ?_ (by first | (simp; done) | (simp; exact Below.size (by assumption)) | (simp; omega)) _) | (with_reducible refine bel_tr ?_ (by assumption)))
        go_wp2_with fail
        generalize (w4.alloc (.cells #[.int .i64 d, .int .i64 n] 25)) = v4 at *
        generalize w4.heap.size = B4 at *
        go_wp2_with fail
        refine (pr_val E7.out E8.out E9.out _).mono ?_
        rintro e5 w5 ⟨rfl, b5⟩
        have q0 := keep_tr q0 b5
        have q1 := keep_tr q1 b5
        have q2 := keep_tr q2 b5
        have q3 := keep_tr q3 b5
        have q4 := keep_tr q4 b5
        have q5 := keep_tr q5 b5
        have q0 := keep_al q0 (.cells #[.int .i64 n1, .int .i64 d1] 25)
        have q1 := keep_al q1 (.cells #[.int .i64 n1, .int .i64 d1] 25)
        have q2 := keep_al q2 (.cells #[.int .i64 n1, .int .i64 d1] 25)
        have q3 := keep_al q3 (.cells #[.int .i64 n1, .int .i64 d1] 25)
        have q4 := keep_al q4 (.cells #[.int .i64 n1, .int .i64 d1] 25)
        have q5 := keep_al q5 (.cells #[.int .i64 n1, .int .i64 d1] 25)
        have q6 : (w5.alloc (.cells #[.int .i64 n1, .int .i64 d1] 25)).cell? ⟨w5.heap.size, 0, none⟩ = some (.int .i64 n1) := by simp
        have q7 : (w5.alloc (.cells #[.int .i64 n1, .int .i64 d1] 25)).cell? ⟨w5.heap.size, 1, none⟩ = some (.int .i64 d1) := by simp
        have qb : Below w.heap.size w (w5.alloc (.cells #[.int .i64 n1, .int .i64 d1] 25)) := by repeat (first | (with_reducible assumption) | (exact bel_undr (by with_reducible assumption)) | (with_reducible exact bel_refl _) | (with_reducible refine bel_dr ?_) | (with_reducible refine bel_drN ?_ _) | (with_reducible refine bel_al ?_ _) | (refine bel_set ?_ (by first | (simp; done) | (simp; exact Below.size (by assumption)) | (simp; omega)) _) | (with_reducible refine bel_tr ?_ (by assumption)))
        go_wp2_with fail
        generalize (w5.alloc (.cells #[.int .i64 n1, .int .i64 d1] 25)) = v5 at *
        generalize w5.heap.size = B5 at *
        go_wp2_with fail
        refine (pr_val E10.out E11.out E12.out _).mono ?_
        rintro e6 w6 ⟨rfl, b6⟩
        have q0 := keep_tr q0 b6
        have q1 := keep_tr q1 b6
        have q2 := keep_tr q2 b6
        have q3 := keep_tr q3 b6
        have q4 := keep_tr q4 b6
        have q5 := keep_tr q5 b6
        have q6 := keep_tr q6 b6
        have q7 := keep_tr q7 b6
        have q0 := keep_al q0 (.cells #[.int .i64 n2, .int .i64 d2] 25)
        have q1 := keep_al q1 (.cells #[.int .i64 n2, .int .i64 d2] 25)
        have q2 := keep_al q2 (.cells #[.int .i64 n2, .int .i64 d2] 25)
        have q3 := keep_al q3 (.cells #[.int .i64 n2, .int .i64 d2] 25)
        have q4 := keep_al q4 (.cells #[.int .i64 n2, .int .i64 d2] 25)
        have q5 := keep_al q5 (.cells #[.int .i64 n2, .int .i64 d2] 25)
        have q6 := keep_al q6 (.cells #[.int .i64 n2, .int .i64 d2] 25)
        have q7 := keep_al q7 (.cells #[.int .i64 n2, .int .i64 d2] 25)
        have q8 : (w6.alloc (.cells #[.int .i64 n2, .int .i64 d2] 25)).cell? ⟨w6.heap.size, 0, none⟩ = some (.int .i64 n2) := by simp
        have q9 : (w6.alloc (.cells #[.int .i64 n2, .int .i64 d2] 25)).cell? ⟨w6.heap.size, 1, none⟩ = some (.int .i64 d2) := by simp
        have qb : Below w.heap.size w (w6.alloc (.cells #[.int .i64 n2, .int .i64 d2] 25)) := by repeat (first | (with_reducible assumption) | (exact bel_undr (by with_reducible assumption)) | (with_reducible exact bel_refl _) | (with_reducible refine bel_dr ?_) | (with_reducible refine bel_drN ?_ _) | (with_reducible refine bel_al ?_ _) | (refine bel_set ?_ (by first | (simp; done) | (simp; exact Below.size (by assumption)) | (simp; omega)) _) | (with_reducible refine bel_tr ?_ (by assumption)))
        go_wp2_with fail
        generalize (w6.alloc (.cells #[.int .i64 n2, .int .i64 d2] 25)) = v6 at *
        generalize w6.heap.size = B6 at *
        go_wp2_with fail
        refine (tm_any _ _ _ _ _).mono ?_
        rintro e7 w7 ⟨rfl, b7⟩
        have q0 := keep_tr q0 b7
        have q1 := keep_tr q1 b7
        have q2 := keep_tr q2 b7
        have q3 := keep_tr q3 b7
        have q4 := keep_tr q4 b7
        have q5 := keep_tr q5 b7
        have q6 := keep_tr q6 b7
        have q7 := keep_tr q7 b7
        have q8 := keep_tr q8 b7
        have q9 := keep_tr q9 b7
        generalize tmN n d 2 1 = tn at *
        generalize tmD n d 2 1 = td at *
        generalize tmB n d 2 1 = tb at *
        have q0 := keep_al q0 (.cells #[.int .i64 tn, .int .i64 td] 25)
        have q1 := keep_al q1 (.cells #[.int .i64 tn, .int .i64 td] 25)
        have q2 := keep_al q2 (.cells #[.int .i64 tn, .int .i64 td] 25)
        have q3 := keep_al q3 (.cells #[.int .i64 tn, .int .i64 td] 25)
        have q4 := keep_al q4 (.cells #[.int .i64 tn, .int .i64 td] 25)
        have q5 := keep_al q5 (.cells #[.int .i64 tn, .int .i64 td] 25)
        have q6 := keep_al q6 (.cells #[.int .i64 tn, .int .i64 td] 25)
        have q7 := keep_al q7 (.cells #[.int .i64 tn, .int .i64 td] 25)
        have q8 := keep_al q8 (.cells #[.int .i64 tn, .int .i64 td] 25)
        have q9 := keep_al q9 (.cells #[.int .i64 tn, .int .i64 td] 25)
        have q10 : (w7.alloc (.cells #[.int .i64 tn, .int .i64 td] 25)).cell? ⟨w7.heap.size, 0, none⟩ = some (.int .i64 tn) := by simp
        have q11 : (w7.alloc (.cells #[.int .i64 tn, .int .i64 td] 25)).cell? ⟨w7.heap.size, 1, none⟩ = some (.int .i64 td) := by simp
        have qb : Below w.heap.size w (w7.alloc (.cells #[.int .i64 tn, .int .i64 td] 25)) := by repeat (first | (with_reducible assumption) | (exact bel_undr (by with_reducible assumption)) | (with_reducible exact bel_refl _) | (with_reducible refine bel_dr ?_) | (with_reducible refine bel_drN ?_ _) | (with_reducible refine bel_al ?_ _) | (refine bel_set ?_ (by first | (simp; done) | (simp; exact Below.size (by assumption)) | (simp; omega)) _) | (with_reducible refine bel_tr ?_ (by assumption)))
        go_wp2_with fail
        generalize (w7.alloc (.cells #[.int .i64 tn, .int .i64 td] 25)) = v7 at *
        generalize w7.heap.size = B7 at *
        have lf0 : ∀ xL : Later v7, xL.world.cell? ⟨B2, 0, none⟩ = some (.int .i64 n) := fun xL => xL.at (q0)
        have lf1 : ∀ xL : Later v7, xL.world.cell? ⟨B2, 1, none⟩ = some (.int .i64 d) := fun xL => xL.at (q1)
        have lf2 : ∀ xL : Later v7, xL.world.cell? ⟨B3, 0, none⟩ = some (.int .i64 n) := fun xL => xL.at (q2)
        have lf3 : ∀ xL : Later v7, xL.world.cell? ⟨B3, 1, none⟩ = some (.int .i64 d) := fun xL => xL.at (q3)
        have lf4 : ∀ xL : Later v7, xL.world.cell? ⟨B4, 0, none⟩ = some (.int .i64 d) := fun xL => xL.at (q4)
        have lf5 : ∀ xL : Later v7, xL.world.cell? ⟨B4, 1, none⟩ = some (.int .i64 n) := fun xL => xL.at (q5)
        have lf6 : ∀ xL : Later v7, xL.world.cell? ⟨B5, 0, none⟩ = some (.int .i64 n1) := fun xL => xL.at (q6)
        have lf7 : ∀ xL : Later v7, xL.world.cell? ⟨B5, 1, none⟩ = some (.int .i64 d1) := fun xL => xL.at (q7)
        have lf8 : ∀ xL : Later v7, xL.world.cell? ⟨B6, 0, none⟩ = some (.int .i64 n2) := fun xL => xL.at (q8)
        have lf9 : ∀ xL : Later v7, xL.world.cell? ⟨B6, 1, none⟩ = some (.int .i64 d2) := fun xL => xL.at (q9)
        have lf10 : ∀ xL : Later v7, xL.world.cell? ⟨B7, 0, none⟩ = some (.int .i64 tn) := fun xL => xL.at (q10)
        have lf11 : ∀ xL : Later v7, xL.world.cell? ⟨B7, 1, none⟩ = some (.int .i64 td) := fun xL => xL.at (q11)
        refine region_later (w0 := v7) (by kernel_rfl) (by kernel_rfl) (bel_refl _) ?_
        repeat (go_big_quiet_step ((first | (go_at_call 18; with_reducible exact later_call (rv_val E13.out _)) | (go_at_call 22; with_reducible exact later_call (back_val _ _ _ _ _ E14.out E15.out)) | (go_at_call 20; with_reducible exact later_call (ls_val E16.out _)))))
        refine wpQuiet_nil ?_
        rintro w' ⟨x, rfl⟩
        obtain ⟨w8, b8⟩ := x
        clear lf0 lf1 lf2 lf3 lf4 lf5 lf6 lf7 lf8 lf9 lf10 lf11
        go_wp2
        go_ret
        exact ⟨rfl, by repeat (first | (with_reducible assumption) | (exact bel_undr (by with_reducible assumption)) | (with_reducible exact bel_refl _) | (with_reducible refine bel_dr ?_) | (with_reducible refine bel_drN ?_ _) | (with_reducible refine bel_al ?_ _) | (refine bel_set ?_ (by first | (simp; done) | (simp; exact Below.size (by assumption)) | (simp; omega)) _) | (with_reducible refine bel_tr ?_ (by assumption)))⟩
      · have E9 := Lib.hid (show piB (x + 1) = true by unfold piB; exact decide_eq_true (by omega))
        have E12 := Lib.hid (show piB (x + 12) = true by unfold piB; exact decide_eq_true (by omega))
        have E16 := Lib.hid (K7.out E9.out)
        have T1 := Lib.hid (K8.out h0 E12.out).1
        have T2 := Lib.hid (K8.out h0 E12.out).2
        clear K7 K8
        have hx0 : decide (x < 0) = false := by simp; omega
        go_wp2_with fail
        refine (pr_val E1.out E2.out E3.out _).mono ?_
        rintro e2 w2 ⟨rfl, b2⟩
        have q0 : (w2.alloc (.cells #[.int .i64 n, .int .i64 d] 25)).cell? ⟨w2.heap.size, 0, none⟩ = some (.int .i64 n) := by simp
        have q1 : (w2.alloc (.cells #[.int .i64 n, .int .i64 d] 25)).cell? ⟨w2.heap.size, 1, none⟩ = some (.int .i64 d) := by simp
        have qb : Below w.heap.size w (w2.alloc (.cells #[.int .i64 n, .int .i64 d] 25)) := by repeat (first | (with_reducible assumption) | (exact bel_undr (by with_reducible assumption)) | (with_reducible exact bel_refl _) | (with_reducible refine bel_dr ?_) | (with_reducible refine bel_drN ?_ _) | (with_reducible refine bel_al ?_ _) | (refine bel_set ?_ (by first | (simp; done) | (simp; exact Below.size (by assumption)) | (simp; omega)) _) | (with_reducible refine bel_tr ?_ (by assumption)))
        go_wp2_with fail
        generalize (w2.alloc (.cells #[.int .i64 n, .int .i64 d] 25)) = v2 at *
        generalize w2.heap.size = B2 at *
        go_wp2_with fail
        refine (spr_val E1.out E2.out E3.out _).mono ?_
        rintro e3 w3 ⟨rfl, b3⟩
        have q0 := keep_tr q0 b3
        have q1 := keep_tr q1 b3
        have q0 := keep_al q0 (.cells #[.int .i64 n, .int .i64 d] 25)
        have q1 := keep_al q1 (.cells #[.int .i64 n, .int .i64 d] 25)
        have q2 : (w3.alloc (.cells #[.int .i64 n, .int .i64 d] 25)).cell? ⟨w3.heap.size, 0, none⟩ = some (.int .i64 n) := by simp
        have q3 : (w3.alloc (.cells #[.int .i64 n, .int .i64 d] 25)).cell? ⟨w3.heap.size, 1, none⟩ = some (.int .i64 d) := by simp
        have qb : Below w.heap.size w (w3.alloc (.cells #[.int .i64 n, .int .i64 d] 25)) := by repeat (first | (with_reducible assumption) | (exact bel_undr (by with_reducible assumption)) | (with_reducible exact bel_refl _) | (with_reducible refine bel_dr ?_) | (with_reducible refine bel_drN ?_ _) | (with_reducible refine bel_al ?_ _) | (refine bel_set ?_ (by first | (simp; done) | (simp; exact Below.size (by assumption)) | (simp; omega)) _) | (with_reducible refine bel_tr ?_ (by assumption)))
        go_wp2_with fail
        generalize (w3.alloc (.cells #[.int .i64 n, .int .i64 d] 25)) = v3 at *
        generalize w3.heap.size = B3 at *
        go_wp2_with fail
        refine (pr_val E4.out E5.out E6.out _).mono ?_
        rintro e4 w4 ⟨rfl, b4⟩
        have q0 := keep_tr q0 b4
        have q1 := keep_tr q1 b4
        have q2 := keep_tr q2 b4
        have q3 := keep_tr q3 b4
        have q0 := keep_al q0 (.cells #[.int .i64 d, .int .i64 n] 25)
        have q1 := keep_al q1 (.cells #[.int .i64 d, .int .i64 n] 25)
        have q2 := keep_al q2 (.cells #[.int .i64 d, .int .i64 n] 25)
        have q3 := keep_al q3 (.cells #[.int .i64 d, .int .i64 n] 25)
        have q4 : (w4.alloc (.cells #[.int .i64 d, .int .i64 n] 25)).cell? ⟨w4.heap.size, 0, none⟩ = some (.int .i64 d) := by simp
        have q5 : (w4.alloc (.cells #[.int .i64 d, .int .i64 n] 25)).cell? ⟨w4.heap.size, 1, none⟩ = some (.int .i64 n) := by simp
        have qb : Below w.heap.size w (w4.alloc (.cells #[.int .i64 d, .int .i64 n] 25)) := by repeat (first | (with_reducible assumption) | (exact bel_undr (by with_reducible assumption)) | (with_reducible exact bel_refl _) | (with_reducible refine bel_dr ?_) | (with_reducible refine bel_drN ?_ _) | (with_reducible refine bel_al ?_ _) | (refine bel_set ?_ (by first | (simp; done) | (simp; exact Below.size (by assumption)) | (simp; omega)) _) | (with_reducible refine bel_tr ?_ (by assumption)))
        go_wp2_with fail
        generalize (w4.alloc (.cells #[.int .i64 d, .int .i64 n] 25)) = v4 at *
        generalize w4.heap.size = B4 at *
        go_wp2_with fail
        refine (pr_val E7.out E8.out E9.out _).mono ?_
        rintro e5 w5 ⟨rfl, b5⟩
        have q0 := keep_tr q0 b5
        have q1 := keep_tr q1 b5
        have q2 := keep_tr q2 b5
        have q3 := keep_tr q3 b5
        have q4 := keep_tr q4 b5
        have q5 := keep_tr q5 b5
        have q0 := keep_al q0 (.cells #[.int .i64 n1, .int .i64 d1] 25)
        have q1 := keep_al q1 (.cells #[.int .i64 n1, .int .i64 d1] 25)
        have q2 := keep_al q2 (.cells #[.int .i64 n1, .int .i64 d1] 25)
        have q3 := keep_al q3 (.cells #[.int .i64 n1, .int .i64 d1] 25)
        have q4 := keep_al q4 (.cells #[.int .i64 n1, .int .i64 d1] 25)
        have q5 := keep_al q5 (.cells #[.int .i64 n1, .int .i64 d1] 25)
        have q6 : (w5.alloc (.cells #[.int .i64 n1, .int .i64 d1] 25)).cell? ⟨w5.heap.size, 0, none⟩ = some (.int .i64 n1) := by simp
        have q7 : (w5.alloc (.cells #[.int .i64 n1, .int .i64 d1] 25)).cell? ⟨w5.heap.size, 1, none⟩ = some (.int .i64 d1) := by simp
        have qb : Below w.heap.size w (w5.alloc (.cells #[.int .i64 n1, .int .i64 d1] 25)) := by repeat (first | (with_reducible assumption) | (exact bel_undr (by with_reducible assumption)) | (with_reducible exact bel_refl _) | (with_reducible refine bel_dr ?_) | (with_reducible refine bel_drN ?_ _) | (with_reducible refine bel_al ?_ _) | (refine bel_set ?_ (by first | (simp; done) | (simp; exact Below.size (by assumption)) | (simp; omega)) _) | (with_reducible refine bel_tr ?_ (by assumption)))
        go_wp2_with fail
        generalize (w5.alloc (.cells #[.int .i64 n1, .int .i64 d1] 25)) = v5 at *
        generalize w5.heap.size = B5 at *
        go_wp2_with fail
        refine (pr_val E10.out E11.out E12.out _).mono ?_
        rintro e6 w6 ⟨rfl, b6⟩
        have q0 := keep_tr q0 b6
        have q1 := keep_tr q1 b6
        have q2 := keep_tr q2 b6
        have q3 := keep_tr q3 b6
        have q4 := keep_tr q4 b6
        have q5 := keep_tr q5 b6
        have q6 := keep_tr q6 b6
        have q7 := keep_tr q7 b6
        have q0 := keep_al q0 (.cells #[.int .i64 n2, .int .i64 d2] 25)
        have q1 := keep_al q1 (.cells #[.int .i64 n2, .int .i64 d2] 25)
        have q2 := keep_al q2 (.cells #[.int .i64 n2, .int .i64 d2] 25)
        have q3 := keep_al q3 (.cells #[.int .i64 n2, .int .i64 d2] 25)
        have q4 := keep_al q4 (.cells #[.int .i64 n2, .int .i64 d2] 25)
        have q5 := keep_al q5 (.cells #[.int .i64 n2, .int .i64 d2] 25)
        have q6 := keep_al q6 (.cells #[.int .i64 n2, .int .i64 d2] 25)
        have q7 := keep_al q7 (.cells #[.int .i64 n2, .int .i64 d2] 25)
        have q8 : (w6.alloc (.cells #[.int .i64 n2, .int .i64 d2] 25)).cell? ⟨w6.heap.size, 0, none⟩ = some (.int .i64 n2) := by simp
        have q9 : (w6.alloc (.cells #[.int .i64 n2, .int .i64 d2] 25)).cell? ⟨w6.heap.size, 1, none⟩ = some (.int .i64 d2) := by simp
        have qb : Below w.heap.size w (w6.alloc (.cells #[.int .i64 n2, .int .i64 d2] 25)) := by repeat (first | (with_reducible assumption) | (exact bel_undr (by with_reducible assumption)) | (with_reducible exact bel_refl _) | (with_reducible refine bel_dr ?_) | (with_reducible refine bel_drN ?_ _) | (with_reducible refine bel_al ?_ _) | (refine bel_set ?_ (by first | (simp; done) | (simp; exact Below.size (by assumption)) | (simp; omega)) _) | (with_reducible refine bel_tr ?_ (by assumption)))
        go_wp2_with fail
        generalize (w6.alloc (.cells #[.int .i64 n2, .int .i64 d2] 25)) = v6 at *
        generalize w6.heap.size = B6 at *
        go_wp2_with fail
        refine (tm_any _ _ _ _ _).mono ?_
        rintro e7 w7 ⟨rfl, b7⟩
        have q0 := keep_tr q0 b7
        have q1 := keep_tr q1 b7
        have q2 := keep_tr q2 b7
        have q3 := keep_tr q3 b7
        have q4 := keep_tr q4 b7
        have q5 := keep_tr q5 b7
        have q6 := keep_tr q6 b7
        have q7 := keep_tr q7 b7
        have q8 := keep_tr q8 b7
        have q9 := keep_tr q9 b7
        rw [← T1.out, ← T2.out]
        generalize tmB n d 2 1 = tb at *
        have q0 := keep_al q0 (.cells #[.int .i64 n2, .int .i64 d2] 25)
        have q1 := keep_al q1 (.cells #[.int .i64 n2, .int .i64 d2] 25)
        have q2 := keep_al q2 (.cells #[.int .i64 n2, .int .i64 d2] 25)
        have q3 := keep_al q3 (.cells #[.int .i64 n2, .int .i64 d2] 25)
        have q4 := keep_al q4 (.cells #[.int .i64 n2, .int .i64 d2] 25)
        have q5 := keep_al q5 (.cells #[.int .i64 n2, .int .i64 d2] 25)
        have q6 := keep_al q6 (.cells #[.int .i64 n2, .int .i64 d2] 25)
        have q7 := keep_al q7 (.cells #[.int .i64 n2, .int .i64 d2] 25)
        have q8 := keep_al q8 (.cells #[.int .i64 n2, .int .i64 d2] 25)
        have q9 := keep_al q9 (.cells #[.int .i64 n2, .int .i64 d2] 25)
        have q10 : (w7.alloc (.cells #[.int .i64 n2, .int .i64 d2] 25)).cell? ⟨w7.heap.size, 0, none⟩ = some (.int .i64 n2) := by simp
        have q11 : (w7.alloc (.cells #[.int .i64 n2, .int .i64 d2] 25)).cell? ⟨w7.heap.size, 1, none⟩ = some (.int .i64 d2) := by simp
        have qb : Below w.heap.size w (w7.alloc (.cells #[.int .i64 n2, .int .i64 d2] 25)) := by repeat (first | (with_reducible assumption) | (exact bel_undr (by with_reducible assumption)) | (with_reducible exact bel_refl _) | (with_reducible refine bel_dr ?_) | (with_reducible refine bel_drN ?_ _) | (with_reducible refine bel_al ?_ _) | (refine bel_set ?_ (by first | (simp; done) | (simp; exact Below.size (by assumption)) | (simp; omega)) _) | (with_reducible refine bel_tr ?_ (by assumption)))
        go_wp2_with fail
        generalize (w7.alloc (.cells #[.int .i64 n2, .int .i64 d2] 25)) = v7 at *
        generalize w7.heap.size = B7 at *
        have lf0 : ∀ xL : Later v7, xL.world.cell? ⟨B2, 0, none⟩ = some (.int .i64 n) := fun xL => xL.at (q0)
        have lf1 : ∀ xL : Later v7, xL.world.cell? ⟨B2, 1, none⟩ = some (.int .i64 d) := fun xL => xL.at (q1)
        have lf2 : ∀ xL : Later v7, xL.world.cell? ⟨B3, 0, none⟩ = some (.int .i64 n) := fun xL => xL.at (q2)
        have lf3 : ∀ xL : Later v7, xL.world.cell? ⟨B3, 1, none⟩ = some (.int .i64 d) := fun xL => xL.at (q3)
        have lf4 : ∀ xL : Later v7, xL.world.cell? ⟨B4, 0, none⟩ = some (.int .i64 d) := fun xL => xL.at (q4)
        have lf5 : ∀ xL : Later v7, xL.world.cell? ⟨B4, 1, none⟩ = some (.int .i64 n) := fun xL => xL.at (q5)
        have lf6 : ∀ xL : Later v7, xL.world.cell? ⟨B5, 0, none⟩ = some (.int .i64 n1) := fun xL => xL.at (q6)
        have lf7 : ∀ xL : Later v7, xL.world.cell? ⟨B5, 1, none⟩ = some (.int .i64 d1) := fun xL => xL.at (q7)
        have lf8 : ∀ xL : Later v7, xL.world.cell? ⟨B6, 0, none⟩ = some (.int .i64 n2) := fun xL => xL.at (q8)
        have lf9 : ∀ xL : Later v7, xL.world.cell? ⟨B6, 1, none⟩ = some (.int .i64 d2) := fun xL => xL.at (q9)
        have lf10 : ∀ xL : Later v7, xL.world.cell? ⟨B7, 0, none⟩ = some (.int .i64 n2) := fun xL => xL.at (q10)
        have lf11 : ∀ xL : Later v7, xL.world.cell? ⟨B7, 1, none⟩ = some (.int .i64 d2) := fun xL => xL.at (q11)
        refine region_later (w0 := v7) (by kernel_rfl) (by kernel_rfl) (bel_refl _) ?_
        repeat (go_big_quiet_step ((first | (go_at_call 18; with_reducible exact later_call (rv_val E13.out _)) | (go_at_call 22; with_reducible exact later_call (back_val _ _ _ _ _ E14.out E15.out)) | (go_at_call 20; with_reducible exact later_call (ls_val E16.out _)))))
        refine wpQuiet_nil ?_
        rintro w' ⟨x, rfl⟩
        obtain ⟨w8, b8⟩ := x
        clear lf0 lf1 lf2 lf3 lf4 lf5 lf6 lf7 lf8 lf9 lf10 lf11
        go_wp2
        go_ret
        exact ⟨rfl, by repeat (first | (with_reducible assumption) | (exact bel_undr (by with_reducible assumption)) | (with_reducible exact bel_refl _) | (with_reducible refine bel_dr ?_) | (with_reducible refine bel_drN ?_ _) | (with_reducible refine bel_al ?_ _) | (refine bel_set ?_ (by first | (simp; done) | (simp; exact Below.size (by assumption)) | (simp; omega)) _) | (with_reducible refine bel_tr ?_ (by assumption)))⟩
      · have E9 := Lib.hid (show piB (x + 1) = true by unfold piB; exact decide_eq_true (by omega))
        have E12 := Lib.hid (show piB (x + 12) = false by unfold piB; exact decide_eq_false (by omega))
        have E16 := Lib.hid (K7.out E9.out)
        clear K7 K8
        go_wp2_with fail
        refine (pr_val E1.out E2.out E3.out _).mono ?_
        rintro e2 w2 ⟨rfl, b2⟩
        have q0 : (w2.alloc (.cells #[.int .i64 n, .int .i64 d] 25)).cell? ⟨w2.heap.size, 0, none⟩ = some (.int .i64 n) := by simp
        have q1 : (w2.alloc (.cells #[.int .i64 n, .int .i64 d] 25)).cell? ⟨w2.heap.size, 1, none⟩ = some (.int .i64 d) := by simp
        have qb : Below w.heap.size w (w2.alloc (.cells #[.int .i64 n, .int .i64 d] 25)) := by repeat (first | (with_reducible assumption) | (exact bel_undr (by with_reducible assumption)) | (with_reducible exact bel_refl _) | (with_reducible refine bel_dr ?_) | (with_reducible refine bel_drN ?_ _) | (with_reducible refine bel_al ?_ _) | (refine bel_set ?_ (by first | (simp; done) | (simp; exact Below.size (by assumption)) | (simp; omega)) _) | (with_reducible refine bel_tr ?_ (by assumption)))
        go_wp2_with fail
        generalize (w2.alloc (.cells #[.int .i64 n, .int .i64 d] 25)) = v2 at *
        generalize w2.heap.size = B2 at *
        go_wp2_with fail
        refine (spr_val E1.out E2.out E3.out _).mono ?_
        rintro e3 w3 ⟨rfl, b3⟩
        have q0 := keep_tr q0 b3
        have q1 := keep_tr q1 b3
        have q0 := keep_al q0 (.cells #[.int .i64 n, .int .i64 d] 25)
        have q1 := keep_al q1 (.cells #[.int .i64 n, .int .i64 d] 25)
        have q2 : (w3.alloc (.cells #[.int .i64 n, .int .i64 d] 25)).cell? ⟨w3.heap.size, 0, none⟩ = some (.int .i64 n) := by simp
        have q3 : (w3.alloc (.cells #[.int .i64 n, .int .i64 d] 25)).cell? ⟨w3.heap.size, 1, none⟩ = some (.int .i64 d) := by simp
        have qb : Below w.heap.size w (w3.alloc (.cells #[.int .i64 n, .int .i64 d] 25)) := by repeat (first | (with_reducible assumption) | (exact bel_undr (by with_reducible assumption)) | (with_reducible exact bel_refl _) | (with_reducible refine bel_dr ?_) | (with_reducible refine bel_drN ?_ _) | (with_reducible refine bel_al ?_ _) | (refine bel_set ?_ (by first | (simp; done) | (simp; exact Below.size (by assumption)) | (simp; omega)) _) | (with_reducible refine bel_tr ?_ (by assumption)))
        go_wp2_with fail
        generalize (w3.alloc (.cells #[.int .i64 n, .int .i64 d] 25)) = v3 at *
        generalize w3.heap.size = B3 at *
        go_wp2_with fail
        refine (pr_val E4.out E5.out E6.out _).mono ?_
        rintro e4 w4 ⟨rfl, b4⟩
        have q0 := keep_tr q0 b4
        have q1 := keep_tr q1 b4
        have q2 := keep_tr q2 b4
        have q3 := keep_tr q3 b4
        have q0 := keep_al q0 (.cells #[.int .i64 d, .int .i64 n] 25)
        have q1 := keep_al q1 (.cells #[.int .i64 d, .int .i64 n] 25)
        have q2 := keep_al q2 (.cells #[.int .i64 d, .int .i64 n] 25)
        have q3 := keep_al q3 (.cells #[.int .i64 d, .int .i64 n] 25)
        have q4 : (w4.alloc (.cells #[.int .i64 d, .int .i64 n] 25)).cell? ⟨w4.heap.size, 0, none⟩ = some (.int .i64 d) := by simp
        have q5 : (w4.alloc (.cells #[.int .i64 d, .int .i64 n] 25)).cell? ⟨w4.heap.size, 1, none⟩ = some (.int .i64 n) := by simp
        have qb : Below w.heap.size w (w4.alloc (.cells #[.int .i64 d, .int .i64 n] 25)) := by repeat (first | (with_reducible assumption) | (exact bel_undr (by with_reducible assumption)) | (with_reducible exact bel_refl _) | (with_reducible refine bel_dr ?_) | (with_reducible refine bel_drN ?_ _) | (with_reducible refine bel_al ?_ _) | (refine bel_set ?_ (by first | (simp; done) | (simp; exact Below.size (by assumption)) | (simp; omega)) _) | (with_reducible refine bel_tr ?_ (by assumption)))
        go_wp2_with fail
        generalize (w4.alloc (.cells #[.int .i64 d, .int .i64 n] 25)) = v4 at *
        generalize w4.heap.size = B4 at *
        go_wp2_with fail
        refine (pr_val E7.out E8.out E9.out _).mono ?_
        rintro e5 w5 ⟨rfl, b5⟩
        have q0 := keep_tr q0 b5
        have q1 := keep_tr q1 b5
        have q2 := keep_tr q2 b5
        have q3 := keep_tr q3 b5
        have q4 := keep_tr q4 b5
        have q5 := keep_tr q5 b5
        have q0 := keep_al q0 (.cells #[.int .i64 n1, .int .i64 d1] 25)
        have q1 := keep_al q1 (.cells #[.int .i64 n1, .int .i64 d1] 25)
        have q2 := keep_al q2 (.cells #[.int .i64 n1, .int .i64 d1] 25)
        have q3 := keep_al q3 (.cells #[.int .i64 n1, .int .i64 d1] 25)
        have q4 := keep_al q4 (.cells #[.int .i64 n1, .int .i64 d1] 25)
        have q5 := keep_al q5 (.cells #[.int .i64 n1, .int .i64 d1] 25)
        have q6 : (w5.alloc (.cells #[.int .i64 n1, .int .i64 d1] 25)).cell? ⟨w5.heap.size, 0, none⟩ = some (.int .i64 n1) := by simp
        have q7 : (w5.alloc (.cells #[.int .i64 n1, .int .i64 d1] 25)).cell? ⟨w5.heap.size, 1, none⟩ = some (.int .i64 d1) := by simp
        have qb : Below w.heap.size w (w5.alloc (.cells #[.int .i64 n1, .int .i64 d1] 25)) := by repeat (first | (with_reducible assumption) | (exact bel_undr (by with_reducible assumption)) | (with_reducible exact bel_refl _) | (with_reducible refine bel_dr ?_) | (with_reducible refine bel_drN ?_ _) | (with_reducible refine bel_al ?_ _) | (refine bel_set ?_ (by first | (simp; done) | (simp; exact Below.size (by assumption)) | (simp; omega)) _) | (with_reducible refine bel_tr ?_ (by assumption)))
        go_wp2_with fail
        generalize (w5.alloc (.cells #[.int .i64 n1, .int .i64 d1] 25)) = v5 at *
        generalize w5.heap.size = B5 at *
        go_wp2_with fail
        refine (pr_val E10.out E11.out E12.out _).mono ?_
        rintro e6 w6 ⟨rfl, b6⟩
        have q0 := keep_tr q0 b6
        have q1 := keep_tr q1 b6
        have q2 := keep_tr q2 b6
        have q3 := keep_tr q3 b6
        have q4 := keep_tr q4 b6
        have q5 := keep_tr q5 b6
        have q6 := keep_tr q6 b6
        have q7 := keep_tr q7 b6
        have q0 := keep_al q0 (.cells #[.int .i64 n2, .int .i64 d2] 25)
        have q1 := keep_al q1 (.cells #[.int .i64 n2, .int .i64 d2] 25)
        have q2 := keep_al q2 (.cells #[.int .i64 n2, .int .i64 d2] 25)
        have q3 := keep_al q3 (.cells #[.int .i64 n2, .int .i64 d2] 25)
        have q4 := keep_al q4 (.cells #[.int .i64 n2, .int .i64 d2] 25)
        have q5 := keep_al q5 (.cells #[.int .i64 n2, .int .i64 d2] 25)
        have q6 := keep_al q6 (.cells #[.int .i64 n2, .int .i64 d2] 25)
        have q7 := keep_al q7 (.cells #[.int .i64 n2, .int .i64 d2] 25)
        have q8 : (w6.alloc (.cells #[.int .i64 n2, .int .i64 d2] 25)).cell? ⟨w6.heap.size, 0, none⟩ = some (.int .i64 n2) := by simp
        have q9 : (w6.alloc (.cells #[.int .i64 n2, .int .i64 d2] 25)).cell? ⟨w6.heap.size, 1, none⟩ = some (.int .i64 d2) := by simp
        have qb : Below w.heap.size w (w6.alloc (.cells #[.int .i64 n2, .int .i64 d2] 25)) := by repeat (first | (with_reducible assumption) | (exact bel_undr (by with_reducible assumption)) | (with_reducible exact bel_refl _) | (with_reducible refine bel_dr ?_) | (with_reducible refine bel_drN ?_ _) | (with_reducible refine bel_al ?_ _) | (refine bel_set ?_ (by first | (simp; done) | (simp; exact Below.size (by assumption)) | (simp; omega)) _) | (with_reducible refine bel_tr ?_ (by assumption)))
        go_wp2_with fail
        generalize (w6.alloc (.cells #[.int .i64 n2, .int .i64 d2] 25)) = v6 at *
        generalize w6.heap.size = B6 at *
        go_wp2_with fail
        refine (tm_any _ _ _ _ _).mono ?_
        rintro e7 w7 ⟨rfl, b7⟩
        have q0 := keep_tr q0 b7
        have q1 := keep_tr q1 b7
        have q2 := keep_tr q2 b7
        have q3 := keep_tr q3 b7
        have q4 := keep_tr q4 b7
        have q5 := keep_tr q5 b7
        have q6 := keep_tr q6 b7
        have q7 := keep_tr q7 b7
        have q8 := keep_tr q8 b7
        have q9 := keep_tr q9 b7
        generalize tmN n d 2 1 = tn at *
        generalize tmD n d 2 1 = td at *
        generalize tmB n d 2 1 = tb at *
        have q0 := keep_al q0 (.cells #[.int .i64 tn, .int .i64 td] 25)
        have q1 := keep_al q1 (.cells #[.int .i64 tn, .int .i64 td] 25)
        have q2 := keep_al q2 (.cells #[.int .i64 tn, .int .i64 td] 25)
        have q3 := keep_al q3 (.cells #[.int .i64 tn, .int .i64 td] 25)
        have q4 := keep_al q4 (.cells #[.int .i64 tn, .int .i64 td] 25)
        have q5 := keep_al q5 (.cells #[.int .i64 tn, .int .i64 td] 25)
        have q6 := keep_al q6 (.cells #[.int .i64 tn, .int .i64 td] 25)
        have q7 := keep_al q7 (.cells #[.int .i64 tn, .int .i64 td] 25)
        have q8 := keep_al q8 (.cells #[.int .i64 tn, .int .i64 td] 25)
        have q9 := keep_al q9 (.cells #[.int .i64 tn, .int .i64 td] 25)
        have q10 : (w7.alloc (.cells #[.int .i64 tn, .int .i64 td] 25)).cell? ⟨w7.heap.size, 0, none⟩ = some (.int .i64 tn) := by simp
        have q11 : (w7.alloc (.cells #[.int .i64 tn, .int .i64 td] 25)).cell? ⟨w7.heap.size, 1, none⟩ = some (.int .i64 td) := by simp
        have qb : Below w.heap.size w (w7.alloc (.cells #[.int .i64 tn, .int .i64 td] 25)) := by repeat (first | (with_reducible assumption) | (exact bel_undr (by with_reducible assumption)) | (with_reducible exact bel_refl _) | (with_reducible refine bel_dr ?_) | (with_reducible refine bel_drN ?_ _) | (with_reducible refine bel_al ?_ _) | (refine bel_set ?_ (by first | (simp; done) | (simp; exact Below.size (by assumption)) | (simp; omega)) _) | (with_reducible refine bel_tr ?_ (by assumption)))
        go_wp2_with fail
        generalize (w7.alloc (.cells #[.int .i64 tn, .int .i64 td] 25)) = v7 at *
        generalize w7.heap.size = B7 at *
        have lf0 : ∀ xL : Later v7, xL.world.cell? ⟨B2, 0, none⟩ = some (.int .i64 n) := fun xL => xL.at (q0)
        have lf1 : ∀ xL : Later v7, xL.world.cell? ⟨B2, 1, none⟩ = some (.int .i64 d) := fun xL => xL.at (q1)
        have lf2 : ∀ xL : Later v7, xL.world.cell? ⟨B3, 0, none⟩ = some (.int .i64 n) := fun xL => xL.at (q2)
        have lf3 : ∀ xL : Later v7, xL.world.cell? ⟨B3, 1, none⟩ = some (.int .i64 d) := fun xL => xL.at (q3)
        have lf4 : ∀ xL : Later v7, xL.world.cell? ⟨B4, 0, none⟩ = some (.int .i64 d) := fun xL => xL.at (q4)
        have lf5 : ∀ xL : Later v7, xL.world.cell? ⟨B4, 1, none⟩ = some (.int .i64 n) := fun xL => xL.at (q5)
        have lf6 : ∀ xL : Later v7, xL.world.cell? ⟨B5, 0, none⟩ = some (.int .i64 n1) := fun xL => xL.at (q6)
        have lf7 : ∀ xL : Later v7, xL.world.cell? ⟨B5, 1, none⟩ = some (.int .i64 d1) := fun xL => xL.at (q7)
        have lf8 : ∀ xL : Later v7, xL.world.cell? ⟨B6, 0, none⟩ = some (.int .i64 n2) := fun xL => xL.at (q8)
        have lf9 : ∀ xL : Later v7, xL.world.cell? ⟨B6, 1, none⟩ = some (.int .i64 d2) := fun xL => xL.at (q9)
        have lf10 : ∀ xL : Later v7, xL.world.cell? ⟨B7, 0, none⟩ = some (.int .i64 tn) := fun xL => xL.at (q10)
        have lf11 : ∀ xL : Later v7, xL.world.cell? ⟨B7, 1, none⟩ = some (.int .i64 td) := fun xL => xL.at (q11)
        refine region_later (w0 := v7) (by kernel_rfl) (by kernel_rfl) (bel_refl _) ?_
        repeat (go_big_quiet_step ((first | (go_at_call 18; with_reducible exact later_call (rv_val E13.out _)) | (go_at_call 22; with_reducible exact later_call (back_val _ _ _ _ _ E14.out E15.out)) | (go_at_call 20; with_reducible exact later_call (ls_val E16.out _)))))
        refine wpQuiet_nil ?_
        rintro w' ⟨x, rfl⟩
        obtain ⟨w8, b8⟩ := x
        clear lf0 lf1 lf2 lf3 lf4 lf5 lf6 lf7 lf8 lf9 lf10 lf11
        go_wp2
        go_ret
        exact ⟨rfl, by repeat (first | (with_reducible assumption) | (exact bel_undr (by with_reducible assumption)) | (with_reducible exact bel_refl _) | (with_reducible refine bel_dr ?_) | (with_reducible refine bel_drN ?_ _) | (with_reducible refine bel_al ?_ _) | (refine bel_set ?_ (by first | (simp; done) | (simp; exact Below.size (by assumption)) | (simp; omega)) _) | (with_reducible refine bel_tr ?_ (by assumption)))⟩
      · have E9 := Lib.hid (show piB (x + 1) = false by unfold piB; exact decide_eq_false (by omega))
        have E12 := Lib.hid (show piB (x + 12) = false by unfold piB; exact decide_eq_false (by omega))
        clear K7 K8
        go_wp2_with fail
        refine (pr_val E1.out E2.out E3.out _).mono ?_
        rintro e2 w2 ⟨rfl, b2⟩
        have q0 : (w2.alloc (.cells #[.int .i64 n, .int .i64 d] 25)).cell? ⟨w2.heap.size, 0, none⟩ = some (.int .i64 n) := by simp
        have q1 : (w2.alloc (.cells #[.int .i64 n, .int .i64 d] 25)).cell? ⟨w2.heap.size, 1, none⟩ = some (.int .i64 d) := by simp
        have qb : Below w.heap.size w (w2.alloc (.cells #[.int .i64 n, .int .i64 d] 25)) := by repeat (first | (with_reducible assumption) | (exact bel_undr (by with_reducible assumption)) | (with_reducible exact bel_refl _) | (with_reducible refine bel_dr ?_) | (with_reducible refine bel_drN ?_ _) | (with_reducible refine bel_al ?_ _) | (refine bel_set ?_ (by first | (simp; done) | (simp; exact Below.size (by assumption)) | (simp; omega)) _) | (with_reducible refine bel_tr ?_ (by assumption)))
        go_wp2_with fail
        generalize (w2.alloc (.cells #[.int .i64 n, .int .i64 d] 25)) = v2 at *
        generalize w2.heap.size = B2 at *
        go_wp2_with fail
        refine (spr_val E1.out E2.out E3.out _).mono ?_
        rintro e3 w3 ⟨rfl, b3⟩
        have q0 := keep_tr q0 b3
        have q1 := keep_tr q1 b3
        have q0 := keep_al q0 (.cells #[.int .i64 n, .int .i64 d] 25)
        have q1 := keep_al q1 (.cells #[.int .i64 n, .int .i64 d] 25)
        have q2 : (w3.alloc (.cells #[.int .i64 n, .int .i64 d] 25)).cell? ⟨w3.heap.size, 0, none⟩ = some (.int .i64 n) := by simp
        have q3 : (w3.alloc (.cells #[.int .i64 n, .int .i64 d] 25)).cell? ⟨w3.heap.size, 1, none⟩ = some (.int .i64 d) := by simp
        have qb : Below w.heap.size w (w3.alloc (.cells #[.int .i64 n, .int .i64 d] 25)) := by repeat (first | (with_reducible assumption) | (exact bel_undr (by with_reducible assumption)) | (with_reducible exact bel_refl _) | (with_reducible refine bel_dr ?_) | (with_reducible refine bel_drN ?_ _) | (with_reducible refine bel_al ?_ _) | (refine bel_set ?_ (by first | (simp; done) | (simp; exact Below.size (by assumption)) | (simp; omega)) _) | (with_reducible refine bel_tr ?_ (by assumption)))
        go_wp2_with fail
        generalize (w3.alloc (.cells #[.int .i64 n, .int .i64 d] 25)) = v3 at *
        generalize w3.heap.size = B3 at *
        go_wp2_with fail
        refine (pr_val E4.out E5.out E6.out _).mono ?_
        rintro e4 w4 ⟨rfl, b4⟩
        have q0 := keep_tr q0 b4
        have q1 := keep_tr q1 b4
        have q2 := keep_tr q2 b4
        have q3 := keep_tr q3 b4
        have q0 := keep_al q0 (.cells #[.int .i64 d, .int .i64 n] 25)
        have q1 := keep_al q1 (.cells #[.int .i64 d, .int .i64 n] 25)
        have q2 := keep_al q2 (.cells #[.int .i64 d, .int .i64 n] 25)
        have q3 := keep_al q3 (.cells #[.int .i64 d, .int .i64 n] 25)
        have q4 : (w4.alloc (.cells #[.int .i64 d, .int .i64 n] 25)).cell? ⟨w4.heap.size, 0, none⟩ = some (.int .i64 d) := by simp
        have q5 : (w4.alloc (.cells #[.int .i64 d, .int .i64 n] 25)).cell? ⟨w4.heap.size, 1, none⟩ = some (.int .i64 n) := by simp
        have qb : Below w.heap.size w (w4.alloc (.cells #[.int .i64 d, .int .i64 n] 25)) := by repeat (first | (with_reducible assumption) | (exact bel_undr (by with_reducible assumption)) | (with_reducible exact bel_refl _) | (with_reducible refine bel_dr ?_) | (with_reducible refine bel_drN ?_ _) | (with_reducible refine bel_al ?_ _) | (refine bel_set ?_ (by first | (simp; done) | (simp; exact Below.size (by assumption)) | (simp; omega)) _) | (with_reducible refine bel_tr ?_ (by assumption)))
        go_wp2_with fail
        generalize (w4.alloc (.cells #[.int .i64 d, .int .i64 n] 25)) = v4 at *
        generalize w4.heap.size = B4 at *
        go_wp2_with fail
        refine (pr_val E7.out E8.out E9.out _).mono ?_
        rintro e5 w5 ⟨rfl, b5⟩
        have q0 := keep_tr q0 b5
        have q1 := keep_tr q1 b5
        have q2 := keep_tr q2 b5
        have q3 := keep_tr q3 b5
        have q4 := keep_tr q4 b5
        have q5 := keep_tr q5 b5
        have q0 := keep_al q0 (.cells #[.int .i64 n1, .int .i64 d1] 25)
        have q1 := keep_al q1 (.cells #[.int .i64 n1, .int .i64 d1] 25)
        have q2 := keep_al q2 (.cells #[.int .i64 n1, .int .i64 d1] 25)
        have q3 := keep_al q3 (.cells #[.int .i64 n1, .int .i64 d1] 25)
        have q4 := keep_al q4 (.cells #[.int .i64 n1, .int .i64 d1] 25)
        have q5 := keep_al q5 (.cells #[.int .i64 n1, .int .i64 d1] 25)
        have q6 : (w5.alloc (.cells #[.int .i64 n1, .int .i64 d1] 25)).cell? ⟨w5.heap.size, 0, none⟩ = some (.int .i64 n1) := by simp
        have q7 : (w5.alloc (.cells #[.int .i64 n1, .int .i64 d1] 25)).cell? ⟨w5.heap.size, 1, none⟩ = some (.int .i64 d1) := by simp
        have qb : Below w.heap.size w (w5.alloc (.cells #[.int .i64 n1, .int .i64 d1] 25)) := by repeat (first | (with_reducible assumption) | (exact bel_undr (by with_reducible assumption)) | (with_reducible exact bel_refl _) | (with_reducible refine bel_dr ?_) | (with_reducible refine bel_drN ?_ _) | (with_reducible refine bel_al ?_ _) | (refine bel_set ?_ (by first | (simp; done) | (simp; exact Below.size (by assumption)) | (simp; omega)) _) | (with_reducible refine bel_tr ?_ (by assumption)))
        go_wp2_with fail
        generalize (w5.alloc (.cells #[.int .i64 n1, .int .i64 d1] 25)) = v5 at *
        generalize w5.heap.size = B5 at *
        go_wp2_with fail
        refine (pr_val E10.out E11.out E12.out _).mono ?_
        rintro e6 w6 ⟨rfl, b6⟩
        have q0 := keep_tr q0 b6
        have q1 := keep_tr q1 b6
        have q2 := keep_tr q2 b6
        have q3 := keep_tr q3 b6
        have q4 := keep_tr q4 b6
        have q5 := keep_tr q5 b6
        have q6 := keep_tr q6 b6
        have q7 := keep_tr q7 b6
        have q0 := keep_al q0 (.cells #[.int .i64 n2, .int .i64 d2] 25)
        have q1 := keep_al q1 (.cells #[.int .i64 n2, .int .i64 d2] 25)
        have q2 := keep_al q2 (.cells #[.int .i64 n2, .int .i64 d2] 25)
        have q3 := keep_al q3 (.cells #[.int .i64 n2, .int .i64 d2] 25)
        have q4 := keep_al q4 (.cells #[.int .i64 n2, .int .i64 d2] 25)
        have q5 := keep_al q5 (.cells #[.int .i64 n2, .int .i64 d2] 25)
        have q6 := keep_al q6 (.cells #[.int .i64 n2, .int .i64 d2] 25)
        have q7 := keep_al q7 (.cells #[.int .i64 n2, .int .i64 d2] 25)
        have q8 : (w6.alloc (.cells #[.int .i64 n2, .int .i64 d2] 25)).cell? ⟨w6.heap.size, 0, none⟩ = some (.int .i64 n2) := by simp
        have q9 : (w6.alloc (.cells #[.int .i64 n2, .int .i64 d2] 25)).cell? ⟨w6.heap.size, 1, none⟩ = some (.int .i64 d2) := by simp
        have qb : Below w.heap.size w (w6.alloc (.cells #[.int .i64 n2, .int .i64 d2] 25)) := by repeat (first | (with_reducible assumption) | (exact bel_undr (by with_reducible assumption)) | (with_reducible exact bel_refl _) | (with_reducible refine bel_dr ?_) | (with_reducible refine bel_drN ?_ _) | (with_reducible refine bel_al ?_ _) | (refine bel_set ?_ (by first | (simp; done) | (simp; exact Below.size (by assumption)) | (simp; omega)) _) | (with_reducible refine bel_tr ?_ (by assumption)))
        go_wp2_with fail
        generalize (w6.alloc (.cells #[.int .i64 n2, .int .i64 d2] 25)) = v6 at *
        generalize w6.heap.size = B6 at *
        go_wp2_with fail
        refine (tm_any _ _ _ _ _).mono ?_
        rintro e7 w7 ⟨rfl, b7⟩
        have q0 := keep_tr q0 b7
        have q1 := keep_tr q1 b7
        have q2 := keep_tr q2 b7
        have q3 := keep_tr q3 b7
        have q4 := keep_tr q4 b7
        have q5 := keep_tr q5 b7
        have q6 := keep_tr q6 b7
        have q7 := keep_tr q7 b7
        have q8 := keep_tr q8 b7
        have q9 := keep_tr q9 b7
        generalize tmN n d 2 1 = tn at *
        generalize tmD n d 2 1 = td at *
        generalize tmB n d 2 1 = tb at *
        have q0 := keep_al q0 (.cells #[.int .i64 tn, .int .i64 td] 25)
        have q1 := keep_al q1 (.cells #[.int .i64 tn, .int .i64 td] 25)
        have q2 := keep_al q2 (.cells #[.int .i64 tn, .int .i64 td] 25)
        have q3 := keep_al q3 (.cells #[.int .i64 tn, .int .i64 td] 25)
        have q4 := keep_al q4 (.cells #[.int .i64 tn, .int .i64 td] 25)
        have q5 := keep_al q5 (.cells #[.int .i64 tn, .int .i64 td] 25)
        have q6 := keep_al q6 (.cells #[.int .i64 tn, .int .i64 td] 25)
        have q7 := keep_al q7 (.cells #[.int .i64 tn, .int .i64 td] 25)
        have q8 := keep_al q8 (.cells #[.int .i64 tn, .int .i64 td] 25)
        have q9 := keep_al q9 (.cells #[.int .i64 tn, .int .i64 td] 25)
        have q10 : (w7.alloc (.cells #[.int .i64 tn, .int .i64 td] 25)).cell? ⟨w7.heap.size, 0, none⟩ = some (.int .i64 tn) := by simp
        have q11 : (w7.alloc (.cells #[.int .i64 tn, .int .i64 td] 25)).cell? ⟨w7.heap.size, 1, none⟩ = some (.int .i64 td) := by simp
        have qb : Below w.heap.size w (w7.alloc (.cells #[.int .i64 tn, .int .i64 td] 25)) := by repeat (first | (with_reducible assumption) | (exact bel_undr (by with_reducible assumption)) | (with_reducible exact bel_refl _) | (with_reducible refine bel_dr ?_) | (with_reducible refine bel_drN ?_ _) | (with_reducible refine bel_al ?_ _) | (refine bel_set ?_ (by first | (simp; done) | (simp; exact Below.size (by assumption)) | (simp; omega)) _) | (with_reducible refine bel_tr ?_ (by assumption)))
        go_wp2_with fail
        generalize (w7.alloc (.cells #[.int .i64 tn, .int .i64 td] 25)) = v7 at *
        generalize w7.heap.size = B7 at *
        have lf0 : ∀ xL : Later v7, xL.world.cell? ⟨B2, 0, none⟩ = some (.int .i64 n) := fun xL => xL.at (q0)
        have lf1 : ∀ xL : Later v7, xL.world.cell? ⟨B2, 1, none⟩ = some (.int .i64 d) := fun xL => xL.at (q1)
        have lf2 : ∀ xL : Later v7, xL.world.cell? ⟨B3, 0, none⟩ = some (.int .i64 n) := fun xL => xL.at (q2)
        have lf3 : ∀ xL : Later v7, xL.world.cell? ⟨B3, 1, none⟩ = some (.int .i64 d) := fun xL => xL.at (q3)
        have lf4 : ∀ xL : Later v7, xL.world.cell? ⟨B4, 0, none⟩ = some (.int .i64 d) := fun xL => xL.at (q4)
        have lf5 : ∀ xL : Later v7, xL.world.cell? ⟨B4, 1, none⟩ = some (.int .i64 n) := fun xL => xL.at (q5)
        have lf6 : ∀ xL : Later v7, xL.world.cell? ⟨B5, 0, none⟩ = some (.int .i64 n1) := fun xL => xL.at (q6)
        have lf7 : ∀ xL : Later v7, xL.world.cell? ⟨B5, 1, none⟩ = some (.int .i64 d1) := fun xL => xL.at (q7)
        have lf8 : ∀ xL : Later v7, xL.world.cell? ⟨B6, 0, none⟩ = some (.int .i64 n2) := fun xL => xL.at (q8)
        have lf9 : ∀ xL : Later v7, xL.world.cell? ⟨B6, 1, none⟩ = some (.int .i64 d2) := fun xL => xL.at (q9)
        have lf10 : ∀ xL : Later v7, xL.world.cell? ⟨B7, 0, none⟩ = some (.int .i64 tn) := fun xL => xL.at (q10)
        have lf11 : ∀ xL : Later v7, xL.world.cell? ⟨B7, 1, none⟩ = some (.int .i64 td) := fun xL => xL.at (q11)
        refine region_later (w0 := v7) (by kernel_rfl) (by kernel_rfl) (bel_refl _) ?_
        repeat (go_big_quiet_step ((first | (go_at_call 18; with_reducible exact later_call (rv_val E13.out _)) | (go_at_call 22; with_reducible exact later_call (back_val _ _ _ _ _ E14.out E15.out)))))
        refine wpQuiet_nil ?_
        rintro w' ⟨x, rfl⟩
        obtain ⟨w8, b8⟩ := x
        clear lf0 lf1 lf2 lf3 lf4 lf5 lf6 lf7 lf8 lf9 lf10 lf11
        go_wp2
        go_ret
        exact ⟨rfl, by repeat (first | (with_reducible assumption) | (exact bel_undr (by with_reducible assumption)) | (with_reducible exact bel_refl _) | (with_reducible refine bel_dr ?_) | (with_reducible refine bel_drN ?_ _) | (with_reducible refine bel_al ?_ _) | (refine bel_set ?_ (by first | (simp; done) | (simp; exact Below.size (by assumption)) | (simp; omega)) _) | (with_reducible refine bel_tr ?_ (by assumption)))⟩
    · have E3 := Lib.hid (show piB x = false by unfold piB; exact decide_eq_false hx)
      have hx2 : x < -24 ∨ 24 < x := by omega
      clear hx
      generalize hn : piN x = n
      generalize hd : piD x = d
      have E1 := Lib.hid hn
      have E2 := Lib.hid hd
      clear hn hd
      rcases hx2 with hx2 | hx2
      · go_wp2_with fail
        refine (pr_val E1.out E2.out E3.out _).mono ?_
        rintro e2 w2 ⟨rfl, b2⟩
        have q0 : (w2.alloc (.cells #[.int .i64 n, .int .i64 d] 25)).cell? ⟨w2.heap.size, 0, none⟩ = some (.int .i64 n) := by simp
        have q1 : (w2.alloc (.cells #[.int .i64 n, .int .i64 d] 25)).cell? ⟨w2.heap.size, 1, none⟩ = some (.int .i64 d) := by simp
        have qb : Below w.heap.size w (w2.alloc (.cells #[.int .i64 n, .int .i64 d] 25)) := by repeat (first | (with_reducible assumption) | (exact bel_undr (by with_reducible assumption)) | (with_reducible exact bel_refl _) | (with_reducible refine bel_dr ?_) | (with_reducible refine bel_drN ?_ _) | (with_reducible refine bel_al ?_ _) | (refine bel_set ?_ (by first | (simp; done) | (simp; exact Below.size (by assumption)) | (simp; omega)) _) | (with_reducible refine bel_tr ?_ (by assumption)))
        go_wp2_with fail
        generalize (w2.alloc (.cells #[.int .i64 n, .int .i64 d] 25)) = v2 at *
        generalize w2.heap.size = B2 at *
        go_wp2_with fail
        refine (spr_val E1.out E2.out E3.out _).mono ?_
        rintro e3 w3 ⟨rfl, b3⟩
        have q0 := keep_tr q0 b3
        have q1 := keep_tr q1 b3
        have q0 := keep_al q0 (.cells #[.int .i64 n, .int .i64 d] 25)
        have q1 := keep_al q1 (.cells #[.int .i64 n, .int .i64 d] 25)
        have q2 : (w3.alloc (.cells #[.int .i64 n, .int .i64 d] 25)).cell? ⟨w3.heap.size, 0, none⟩ = some (.int .i64 n) := by simp
        have q3 : (w3.alloc (.cells #[.int .i64 n, .int .i64 d] 25)).cell? ⟨w3.heap.size, 1, none⟩ = some (.int .i64 d) := by simp
        have qb : Below w.heap.size w (w3.alloc (.cells #[.int .i64 n, .int .i64 d] 25)) := by repeat (first | (with_reducible assumption) | (exact bel_undr (by with_reducible assumption)) | (with_reducible exact bel_refl _) | (with_reducible refine bel_dr ?_) | (with_reducible refine bel_drN ?_ _) | (with_reducible refine bel_al ?_ _) | (refine bel_set ?_ (by first | (simp; done) | (simp; exact Below.size (by assumption)) | (simp; omega)) _) | (with_reducible refine bel_tr ?_ (by assumption)))
        go_wp2_with fail
        generalize (w3.alloc (.cells #[.int .i64 n, .int .i64 d] 25)) = v3 at *
        generalize w3.heap.size = B3 at *
        go_wp2_with fail
        refine (alive_any _).mono ?_
        rintro e4 w4 ⟨rfl, b4⟩
        have q0 := keep_tr q0 b4
        have q1 := keep_tr q1 b4
        have q2 := keep_tr q2 b4
        have q3 := keep_tr q3 b4
        go_wp2
        go_ret
        exact ⟨rfl, by repeat (first | (with_reducible assumption) | (exact bel_undr (by with_reducible assumption)) | (with_reducible exact bel_refl _) | (with_reducible refine bel_dr ?_) | (with_reducible refine bel_drN ?_ _) | (with_reducible refine bel_al ?_ _) | (refine bel_set ?_ (by first | (simp; done) | (simp; exact Below.size (by assumption)) | (simp; omega)) _) | (with_reducible refine bel_tr ?_ (by assumption)))⟩
      · have hx3 : ¬ x < -24 := by omega
        go_wp2_with fail
        refine (pr_val E1.out E2.out E3.out _).mono ?_
        rintro e2 w2 ⟨rfl, b2⟩
        have q0 : (w2.alloc (.cells #[.int .i64 n, .int .i64 d] 25)).cell? ⟨w2.heap.size, 0, none⟩ = some (.int .i64 n) := by simp
        have q1 : (w2.alloc (.cells #[.int .i64 n, .int .i64 d] 25)).cell? ⟨w2.heap.size, 1, none⟩ = some (.int .i64 d) := by simp
        have qb : Below w.heap.size w (w2.alloc (.cells #[.int .i64 n, .int .i64 d] 25)) := by repeat (first | (with_reducible assumption) | (exact bel_undr (by with_reducible assumption)) | (with_reducible exact bel_refl _) | (with_reducible refine bel_dr ?_) | (with_reducible refine bel_drN ?_ _) | (with_reducible refine bel_al ?_ _) | (refine bel_set ?_ (by first | (simp; done) | (simp; exact Below.size (by assumption)) | (simp; omega)) _) | (with_reducible refine bel_tr ?_ (by assumption)))
        go_wp2_with fail
        generalize (w2.alloc (.cells #[.int .i64 n, .int .i64 d] 25)) = v2 at *
        generalize w2.heap.size = B2 at *
        go_wp2_with fail
        refine (spr_val E1.out E2.out E3.out _).mono ?_
        rintro e3 w3 ⟨rfl, b3⟩
        have q0 := keep_tr q0 b3
        have q1 := keep_tr q1 b3
        have q0 := keep_al q0 (.cells #[.int .i64 n, .int .i64 d] 25)
        have q1 := keep_al q1 (.cells #[.int .i64 n, .int .i64 d] 25)
        have q2 : (w3.alloc (.cells #[.int .i64 n, .int .i64 d] 25)).cell? ⟨w3.heap.size, 0, none⟩ = some (.int .i64 n) := by simp
        have q3 : (w3.alloc (.cells #[.int .i64 n, .int .i64 d] 25)).cell? ⟨w3.heap.size, 1, none⟩ = some (.int .i64 d) := by simp
        have qb : Below w.heap.size w (w3.alloc (.cells #[.int .i64 n, .int .i64 d] 25)) := by repeat (first | (with_reducible assumption) | (exact bel_undr (by with_reducible assumption)) | (with_reducible exact bel_refl _) | (with_reducible refine bel_dr ?_) | (with_reducible refine bel_drN ?_ _) | (with_reducible refine bel_al ?_ _) | (refine bel_set ?_ (by first | (simp; done) | (simp; exact Below.size (by assumption)) | (simp; omega)) _) | (with_reducible refine bel_tr ?_ (by assumption)))
        go_wp2_with fail
        generalize (w3.alloc (.cells #[.int .i64 n, .int .i64 d] 25)) = v3 at *
        generalize w3.heap.size = B3 at *
        go_wp2_with fail
        refine (alive_any _).mono ?_
        rintro e4 w4 ⟨rfl, b4⟩
        have q0 := keep_tr q0 b4
        have q1 := keep_tr q1 b4
        have q2 := keep_tr q2 b4
        have q3 := keep_tr q3 b4
        go_wp2
        go_ret
        exact ⟨rfl, by repeat (first | (with_reducible assumption) | (exact bel_undr (by with_reducible assumption)) | (with_reducible exact bel_refl _) | (with_reducible refine bel_dr ?_) | (with_reducible refine bel_drN ?_ _) | (with_reducible refine bel_al ?_ _) | (refine bel_set ?_ (by first | (simp; done) | (simp; exact Below.size (by assumption)) | (simp; omega)) _) | (with_reducible refine bel_tr ?_ (by assumption)))⟩
  · have hl2 : (1048576 : Int) < (len : Int) := by omega
    go_enter Try.func11, Try.ntmps11
    go_wp2
    go_ret
    exact ⟨rfl, bel_refl _⟩

end Go.Proofs.Ytclbgndpdbfedaa.FnPureRatio
