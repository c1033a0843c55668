/- The walk of the law FnPureComma: for every input it returns true and turns nothing that was there. -/
import Derived.Test.YtclbgndpdbfedaaVal
namespace Go.Proofs.Ytclbgndpdbfedaa.FnPureComma
open Go.RowKit

theorem cm : piN 4 = 5 ∧ piD 4 = 4 ∧ piB 4 = true ∧ piN 3 = 6 ∧ piD 3 = 5 ∧ piB 3 = true ∧ tmN 5 4 5 4 = 25 ∧ tmD 5 4 5 4 = 16 ∧ tmB 5 4 5 4 = true ∧ tmN 25 16 5 4 = 125 ∧ tmD 25 16 5 4 = 64 ∧ tmB 25 16 5 4 = true ∧
    tmN 6 5 6 5 = 36 ∧ tmD 6 5 6 5 = 25 ∧ tmB 6 5 6 5 = true ∧ tmN 36 25 36 25 = 1296 ∧ tmD 36 25 36 25 = 625 ∧ tmB 36 25 36 25 = true ∧ fiN 12 = 531441 ∧ fiD 12 = 524288 ∧ fiB 12 = true ∧
    lsB 125 64 2 1 = true ∧ lsB 2 1 1296 625 = true ∧ lsB 1 1 531441 524288 = true := by decide +kernel

set_option maxHeartbeats 4000000 in
theorem walk (A : Option Addr) (len cap : Nat) (w : World) (h : Cod w A len cap) :
    Calls Try.prog 15 #[.slice A len cap] w fun e w' => e = .returned (.bool true) ∧ Below w.heap.size w w' := by
  by_cases hl : len ≤ 1048576
  · obtain ⟨c1, c2, c3, c4, c5, c6, c7, c8, c9, c10, c11, c12, c13, c14, c15, c16, c17, c18, c19, c20, c21, c22, c23, c24⟩ := cm
    have V1 := Lib.hid c1
    have V2 := Lib.hid c2
    have V3 := Lib.hid c3
    have V4 := Lib.hid c4
    have V5 := Lib.hid c5
    have V6 := Lib.hid c6
    have V7 := Lib.hid c7
    have V8 := Lib.hid c8
    have V9 := Lib.hid c9
    have V10 := Lib.hid c10
    have V11 := Lib.hid c11
    have V12 := Lib.hid c12
    have V13 := Lib.hid c13
    have V14 := Lib.hid c14
    have V15 := Lib.hid c15
    have V16 := Lib.hid c16
    have V17 := Lib.hid c17
    have V18 := Lib.hid c18
    have V19 := Lib.hid c19
    have V20 := Lib.hid c20
    have V21 := Lib.hid c21
    have V22 := Lib.hid c22
    have V23 := Lib.hid c23
    have V24 := Lib.hid c24
    clear c1 c2 c3 c4 c5 c6 c7 c8 c9 c10 c11 c12 c13 c14 c15 c16 c17 c18 c19 c20 c21 c22 c23 c24
    go_enter Try.func15, Try.ntmps15
    go_wp2_with fail
    refine (DrawRatioTimes_any w A len cap h).mono ?_
    rintro e1 w1 ⟨a, b, c, d, rfl, _, _, b1⟩
    have q0 : ((w1.alloc (.cells #[.int .i64 a, .int .i64 b] 25)).alloc (.cells #[.int .i64 c, .int .i64 d] 25)).cell? ⟨w1.heap.size, 0, none⟩ = some (.int .i64 a) := keep_al (by simp) _
    have q1 : ((w1.alloc (.cells #[.int .i64 a, .int .i64 b] 25)).alloc (.cells #[.int .i64 c, .int .i64 d] 25)).cell? ⟨w1.heap.size, 1, none⟩ = some (.int .i64 b) := keep_al (by simp) _
    have q2 : ((w1.alloc (.cells #[.int .i64 a, .int .i64 b] 25)).alloc (.cells #[.int .i64 c, .int .i64 d] 25)).cell? ⟨(w1.heap.size + 1), 0, none⟩ = some (.int .i64 c) := by simp
    have q3 : ((w1.alloc (.cells #[.int .i64 a, .int .i64 b] 25)).alloc (.cells #[.int .i64 c, .int .i64 d] 25)).cell? ⟨(w1.heap.size + 1), 1, none⟩ = some (.int .i64 d) := by simp
    have qb : Below w.heap.size w ((w1.alloc (.cells #[.int .i64 a, .int .i64 b] 25)).alloc (.cells #[.int .i64 c, .int .i64 d] 25)) := by repeat (first | (with_reducible assumption) | (exact bel_undr (by with_reducible assumption)) | (with_reducible exact bel_refl _) | (with_reducible refine bel_dr ?_) | (with_reducible refine bel_drN ?_ _) | (with_reducible refine bel_al ?_ _) | (refine bel_set ?_ (by first | (simp; done) | (simp; exact Below.size (by assumption)) | (simp; omega)) _) | (with_reducible refine bel_tr ?_ (by assumption)))
    go_wp2_with fail
    generalize ((w1.alloc (.cells #[.int .i64 a, .int .i64 b] 25)).alloc (.cells #[.int .i64 c, .int .i64 d] 25)) = v1 at *
    generalize w1.heap.size + 1 = C1 at *
    generalize w1.heap.size = B1 at *
    obtain ⟨x, hx⟩ : ∃ x, tmN a b c d = x := ⟨_, rfl⟩
    obtain ⟨y, hy⟩ : ∃ x, tmD a b c d = x := ⟨_, rfl⟩
    obtain ⟨z, hz⟩ : ∃ x, tmB a b c d = x := ⟨_, rfl⟩
    have X := Lib.hid hx
    have Y := Lib.hid hy
    have Z := Lib.hid hz
    clear hx hy hz
    go_wp2_with fail
    refine (tm_val X.out Y.out Z.out _).mono ?_
    rintro e2 w2 ⟨rfl, b2⟩
    have q0 := keep_tr q0 b2
    have q1 := keep_tr q1 b2
    have q2 := keep_tr q2 b2
    have q3 := keep_tr q3 b2
    have q0 := keep_al q0 (.cells #[.int .i64 x, .int .i64 y] 25)
    have q1 := keep_al q1 (.cells #[.int .i64 x, .int .i64 y] 25)
    have q2 := keep_al q2 (.cells #[.int .i64 x, .int .i64 y] 25)
    have q3 := keep_al q3 (.cells #[.int .i64 x, .int .i64 y] 25)
    have q4 : (w2.alloc (.cells #[.int .i64 x, .int .i64 y] 25)).cell? ⟨w2.heap.size, 0, none⟩ = some (.int .i64 x) := by simp
    have q5 : (w2.alloc (.cells #[.int .i64 x, .int .i64 y] 25)).cell? ⟨w2.heap.size, 1, none⟩ = some (.int .i64 y) := by simp
    have qb : Below w.heap.size w (w2.alloc (.cells #[.int .i64 x, .int .i64 y] 25)) := by repeat (first | (with_reducible assumption) | (exact bel_undr (by with_reducible assumption)) | (with_reducible exact bel_refl _) | (with_reducible refine bel_dr ?_) | (with_reducible refine bel_drN ?_ _) | (with_reducible refine bel_al ?_ _) | (refine bel_set ?_ (by first | (simp; done) | (simp; exact Below.size (by assumption)) | (simp; omega)) _) | (with_reducible refine bel_tr ?_ (by assumption)))
    go_wp2_with fail
    generalize (w2.alloc (.cells #[.int .i64 x, .int .i64 y] 25)) = v2 at *
    generalize w2.heap.size = B2 at *
    go_wp2_with fail
    refine (stm_val X.out Y.out Z.out _).mono ?_
    rintro e3 w3 ⟨rfl, b3⟩
    have q0 := keep_tr q0 b3
    have q1 := keep_tr q1 b3
    have q2 := keep_tr q2 b3
    have q3 := keep_tr q3 b3
    have q4 := keep_tr q4 b3
    have q5 := keep_tr q5 b3
    have q0 := keep_al q0 (.cells #[.int .i64 x, .int .i64 y] 25)
    have q1 := keep_al q1 (.cells #[.int .i64 x, .int .i64 y] 25)
    have q2 := keep_al q2 (.cells #[.int .i64 x, .int .i64 y] 25)
    have q3 := keep_al q3 (.cells #[.int .i64 x, .int .i64 y] 25)
    have q4 := keep_al q4 (.cells #[.int .i64 x, .int .i64 y] 25)
    have q5 := keep_al q5 (.cells #[.int .i64 x, .int .i64 y] 25)
    have q6 : (w3.alloc (.cells #[.int .i64 x, .int .i64 y] 25)).cell? ⟨w3.heap.size, 0, none⟩ = some (.int .i64 x) := by simp
    have q7 : (w3.alloc (.cells #[.int .i64 x, .int .i64 y] 25)).cell? ⟨w3.heap.size, 1, none⟩ = some (.int .i64 y) := by simp
    have qb : Below w.heap.size w (w3.alloc (.cells #[.int .i64 x, .int .i64 y] 25)) := by repeat (first | (with_reducible assumption) | (exact bel_undr (by with_reducible assumption)) | (with_reducible exact bel_refl _) | (with_reducible refine bel_dr ?_) | (with_reducible refine bel_drN ?_ _) | (with_reducible refine bel_al ?_ _) | (refine bel_set ?_ (by first | (simp; done) | (simp; exact Below.size (by assumption)) | (simp; omega)) _) | (with_reducible refine bel_tr ?_ (by assumption)))
    go_wp2_with fail
    generalize (w3.alloc (.cells #[.int .i64 x, .int .i64 y] 25)) = v3 at *
    generalize w3.heap.size = B3 at *
    go_wp2_with fail
    refine (pr_val V1.out V2.out V3.out _).mono ?_
    rintro e4 w4 ⟨rfl, b4⟩
    have q0 := keep_tr q0 b4
    have q1 := keep_tr q1 b4
    have q2 := keep_tr q2 b4
    have q3 := keep_tr q3 b4
    have q4 := keep_tr q4 b4
    have q5 := keep_tr q5 b4
    have q6 := keep_tr q6 b4
    have q7 := keep_tr q7 b4
    have q0 := keep_al q0 (.cells #[.int .i64 5, .int .i64 4] 25)
    have q1 := keep_al q1 (.cells #[.int .i64 5, .int .i64 4] 25)
    have q2 := keep_al q2 (.cells #[.int .i64 5, .int .i64 4] 25)
    have q3 := keep_al q3 (.cells #[.int .i64 5, .int .i64 4] 25)
    have q4 := keep_al q4 (.cells #[.int .i64 5, .int .i64 4] 25)
    have q5 := keep_al q5 (.cells #[.int .i64 5, .int .i64 4] 25)
    have q6 := keep_al q6 (.cells #[.int .i64 5, .int .i64 4] 25)
    have q7 := keep_al q7 (.cells #[.int .i64 5, .int .i64 4] 25)
    have q8 : (w4.alloc (.cells #[.int .i64 5, .int .i64 4] 25)).cell? ⟨w4.heap.size, 0, none⟩ = some (.int .i64 5) := by simp
    have q9 : (w4.alloc (.cells #[.int .i64 5, .int .i64 4] 25)).cell? ⟨w4.heap.size, 1, none⟩ = some (.int .i64 4) := by simp
    have qb : Below w.heap.size w (w4.alloc (.cells #[.int .i64 5, .int .i64 4] 25)) := by repeat (first | (with_reducible assumption) | (exact bel_undr (by with_reducible assumption)) | (with_reducible exact bel_refl _) | (with_reducible refine bel_dr ?_) | (with_reducible refine bel_drN ?_ _) | (with_reducible refine bel_al ?_ _) | (refine bel_set ?_ (by first | (simp; done) | (simp; exact Below.size (by assumption)) | (simp; omega)) _) | (with_reducible refine bel_tr ?_ (by assumption)))
    go_wp2_with fail
    generalize (w4.alloc (.cells #[.int .i64 5, .int .i64 4] 25)) = v4 at *
    generalize w4.heap.size = B4 at *
    go_wp2_with fail
    refine (pr_val V4.out V5.out V6.out _).mono ?_
    rintro e5 w5 ⟨rfl, b5⟩
    have q0 := keep_tr q0 b5
    have q1 := keep_tr q1 b5
    have q2 := keep_tr q2 b5
    have q3 := keep_tr q3 b5
    have q4 := keep_tr q4 b5
    have q5 := keep_tr q5 b5
    have q6 := keep_tr q6 b5
    have q7 := keep_tr q7 b5
    have q8 := keep_tr q8 b5
    have q9 := keep_tr q9 b5
    have q0 := keep_al q0 (.cells #[.int .i64 6, .int .i64 5] 25)
    have q1 := keep_al q1 (.cells #[.int .i64 6, .int .i64 5] 25)
    have q2 := keep_al q2 (.cells #[.int .i64 6, .int .i64 5] 25)
    have q3 := keep_al q3 (.cells #[.int .i64 6, .int .i64 5] 25)
    have q4 := keep_al q4 (.cells #[.int .i64 6, .int .i64 5] 25)
    have q5 := keep_al q5 (.cells #[.int .i64 6, .int .i64 5] 25)
    have q6 := keep_al q6 (.cells #[.int .i64 6, .int .i64 5] 25)
    have q7 := keep_al q7 (.cells #[.int .i64 6, .int .i64 5] 25)
    have q8 := keep_al q8 (.cells #[.int .i64 6, .int .i64 5] 25)
    have q9 := keep_al q9 (.cells #[.int .i64 6, .int .i64 5] 25)
    have q10 : (w5.alloc (.cells #[.int .i64 6, .int .i64 5] 25)).cell? ⟨w5.heap.size, 0, none⟩ = some (.int .i64 6) := by simp
    have q11 : (w5.alloc (.cells #[.int .i64 6, .int .i64 5] 25)).cell? ⟨w5.heap.size, 1, none⟩ = some (.int .i64 5) := by simp
    have qb : Below w.heap.size w (w5.alloc (.cells #[.int .i64 6, .int .i64 5] 25)) := by repeat (first | (with_reducible assumption) | (exact bel_undr (by with_reducible assumption)) | (with_reducible exact bel_refl _) | (with_reducible refine bel_dr ?_) | (with_reducible refine bel_drN ?_ _) | (with_reducible refine bel_al ?_ _) | (refine bel_set ?_ (by first | (simp; done) | (simp; exact Below.size (by assumption)) | (simp; omega)) _) | (with_reducible refine bel_tr ?_ (by assumption)))
    go_wp2_with fail
    generalize (w5.alloc (.cells #[.int .i64 6, .int .i64 5] 25)) = v5 at *
    generalize w5.heap.size = B5 at *
    go_wp2_with fail
    refine (tm_val V7.out V8.out V9.out _).mono ?_
    rintro e6 w6 ⟨rfl, b6⟩
    have q0 := keep_tr q0 b6
    have q1 := keep_tr q1 b6
    have q2 := keep_tr q2 b6
    have q3 := keep_tr q3 b6
    have q4 := keep_tr q4 b6
    have q5 := keep_tr q5 b6
    have q6 := keep_tr q6 b6
    have q7 := keep_tr q7 b6
    have q8 := keep_tr q8 b6
    have q9 := keep_tr q9 b6
    have q10 := keep_tr q10 b6
    have q11 := keep_tr q11 b6
    have q0 := keep_al q0 (.cells #[.int .i64 25, .int .i64 16] 25)
    have q1 := keep_al q1 (.cells #[.int .i64 25, .int .i64 16] 25)
    have q2 := keep_al q2 (.cells #[.int .i64 25, .int .i64 16] 25)
    have q3 := keep_al q3 (.cells #[.int .i64 25, .int .i64 16] 25)
    have q4 := keep_al q4 (.cells #[.int .i64 25, .int .i64 16] 25)
    have q5 := keep_al q5 (.cells #[.int .i64 25, .int .i64 16] 25)
    have q6 := keep_al q6 (.cells #[.int .i64 25, .int .i64 16] 25)
    have q7 := keep_al q7 (.cells #[.int .i64 25, .int .i64 16] 25)
    have q8 := keep_al q8 (.cells #[.int .i64 25, .int .i64 16] 25)
    have q9 := keep_al q9 (.cells #[.int .i64 25, .int .i64 16] 25)
    have q10 := keep_al q10 (.cells #[.int .i64 25, .int .i64 16] 25)
    have q11 := keep_al q11 (.cells #[.int .i64 25, .int .i64 16] 25)
    have q12 : (w6.alloc (.cells #[.int .i64 25, .int .i64 16] 25)).cell? ⟨w6.heap.size, 0, none⟩ = some (.int .i64 25) := by simp
    have q13 : (w6.alloc (.cells #[.int .i64 25, .int .i64 16] 25)).cell? ⟨w6.heap.size, 1, none⟩ = some (.int .i64 16) := by simp
    have qb : Below w.heap.size w (w6.alloc (.cells #[.int .i64 25, .int .i64 16] 25)) := by repeat (first | (with_reducible assumption) | (exact bel_undr (by with_reducible assumption)) | (with_reducible exact bel_refl _) | (with_reducible refine bel_dr ?_) | (with_reducible refine bel_drN ?_ _) | (with_reducible refine bel_al ?_ _) | (refine bel_set ?_ (by first | (simp; done) | (simp; exact Below.size (by assumption)) | (simp; omega)) _) | (with_reducible refine bel_tr ?_ (by assumption)))
    go_wp2_with fail
    generalize (w6.alloc (.cells #[.int .i64 25, .int .i64 16] 25)) = v6 at *
    generalize w6.heap.size = B6 at *
    go_wp2_with fail
    refine (tm_val V10.out V11.out V12.out _).mono ?_
    rintro e7 w7 ⟨rfl, b7⟩
    have q0 := keep_tr q0 b7
    have q1 := keep_tr q1 b7
    have q2 := keep_tr q2 b7
    have q3 := keep_tr q3 b7
    have q4 := keep_tr q4 b7
    have q5 := keep_tr q5 b7
    have q6 := keep_tr q6 b7
    have q7 := keep_tr q7 b7
    have q8 := keep_tr q8 b7
    have q9 := keep_tr q9 b7
    have q10 := keep_tr q10 b7
    have q11 := keep_tr q11 b7
    have q12 := keep_tr q12 b7
    have q13 := keep_tr q13 b7
    have q0 := keep_al q0 (.cells #[.int .i64 125, .int .i64 64] 25)
    have q1 := keep_al q1 (.cells #[.int .i64 125, .int .i64 64] 25)
    have q2 := keep_al q2 (.cells #[.int .i64 125, .int .i64 64] 25)
    have q3 := keep_al q3 (.cells #[.int .i64 125, .int .i64 64] 25)
    have q4 := keep_al q4 (.cells #[.int .i64 125, .int .i64 64] 25)
    have q5 := keep_al q5 (.cells #[.int .i64 125, .int .i64 64] 25)
    have q6 := keep_al q6 (.cells #[.int .i64 125, .int .i64 64] 25)
    have q7 := keep_al q7 (.cells #[.int .i64 125, .int .i64 64] 25)
    have q8 := keep_al q8 (.cells #[.int .i64 125, .int .i64 64] 25)
    have q9 := keep_al q9 (.cells #[.int .i64 125, .int .i64 64] 25)
    have q10 := keep_al q10 (.cells #[.int .i64 125, .int .i64 64] 25)
    have q11 := keep_al q11 (.cells #[.int .i64 125, .int .i64 64] 25)
    have q12 := keep_al q12 (.cells #[.int .i64 125, .int .i64 64] 25)
    have q13 := keep_al q13 (.cells #[.int .i64 125, .int .i64 64] 25)
    have q14 : (w7.alloc (.cells #[.int .i64 125, .int .i64 64] 25)).cell? ⟨w7.heap.size, 0, none⟩ = some (.int .i64 125) := by simp
    have q15 : (w7.alloc (.cells #[.int .i64 125, .int .i64 64] 25)).cell? ⟨w7.heap.size, 1, none⟩ = some (.int .i64 64) := by simp
    have qb : Below w.heap.size w (w7.alloc (.cells #[.int .i64 125, .int .i64 64] 25)) := by repeat (first | (with_reducible assumption) | (exact bel_undr (by with_reducible assumption)) | (with_reducible exact bel_refl _) | (with_reducible refine bel_dr ?_) | (with_reducible refine bel_drN ?_ _) | (with_reducible refine bel_al ?_ _) | (refine bel_set ?_ (by first | (simp; done) | (simp; exact Below.size (by assumption)) | (simp; omega)) _) | (with_reducible refine bel_tr ?_ (by assumption)))
    go_wp2_with fail
    generalize (w7.alloc (.cells #[.int .i64 125, .int .i64 64] 25)) = v7 at *
    generalize w7.heap.size = B7 at *
    go_wp2_with fail
    refine (tm_val V13.out V14.out V15.out _).mono ?_
    rintro e8 w8 ⟨rfl, b8⟩
    have q0 := keep_tr q0 b8
    have q1 := keep_tr q1 b8
    have q2 := keep_tr q2 b8
    have q3 := keep_tr q3 b8
    have q4 := keep_tr q4 b8
    have q5 := keep_tr q5 b8
    have q6 := keep_tr q6 b8
    have q7 := keep_tr q7 b8
    have q8 := keep_tr q8 b8
    have q9 := keep_tr q9 b8
    have q10 := keep_tr q10 b8
    have q11 := keep_tr q11 b8
    have q12 := keep_tr q12 b8
    have q13 := keep_tr q13 b8
    have q14 := keep_tr q14 b8
    have q15 := keep_tr q15 b8
    have q0 := keep_al q0 (.cells #[.int .i64 36, .int .i64 25] 25)
    have q1 := keep_al q1 (.cells #[.int .i64 36, .int .i64 25] 25)
    have q2 := keep_al q2 (.cells #[.int .i64 36, .int .i64 25] 25)
    have q3 := keep_al q3 (.cells #[.int .i64 36, .int .i64 25] 25)
    have q4 := keep_al q4 (.cells #[.int .i64 36, .int .i64 25] 25)
    have q5 := keep_al q5 (.cells #[.int .i64 36, .int .i64 25] 25)
    have q6 := keep_al q6 (.cells #[.int .i64 36, .int .i64 25] 25)
    have q7 := keep_al q7 (.cells #[.int .i64 36, .int .i64 25] 25)
    have q8 := keep_al q8 (.cells #[.int .i64 36, .int .i64 25] 25)
    have q9 := keep_al q9 (.cells #[.int .i64 36, .int .i64 25] 25)
    have q10 := keep_al q10 (.cells #[.int .i64 36, .int .i64 25] 25)
    have q11 := keep_al q11 (.cells #[.int .i64 36, .int .i64 25] 25)
    have q12 := keep_al q12 (.cells #[.int .i64 36, .int .i64 25] 25)
    have q13 := keep_al q13 (.cells #[.int .i64 36, .int .i64 25] 25)
    have q14 := keep_al q14 (.cells #[.int .i64 36, .int .i64 25] 25)
    have q15 := keep_al q15 (.cells #[.int .i64 36, .int .i64 25] 25)
    have q16 : (w8.alloc (.cells #[.int .i64 36, .int .i64 25] 25)).cell? ⟨w8.heap.size, 0, none⟩ = some (.int .i64 36) := by simp
    have q17 : (w8.alloc (.cells #[.int .i64 36, .int .i64 25] 25)).cell? ⟨w8.heap.size, 1, none⟩ = some (.int .i64 25) := by simp
    have qb : Below w.heap.size w (w8.alloc (.cells #[.int .i64 36, .int .i64 25] 25)) := by repeat (first | (with_reducible assumption) | (exact bel_undr (by with_reducible assumption)) | (with_reducible exact bel_refl _) | (with_reducible refine bel_dr ?_) | (with_reducible refine bel_drN ?_ _) | (with_reducible refine bel_al ?_ _) | (refine bel_set ?_ (by first | (simp; done) | (simp; exact Below.size (by assumption)) | (simp; omega)) _) | (with_reducible refine bel_tr ?_ (by assumption)))
    go_wp2_with fail
    generalize (w8.alloc (.cells #[.int .i64 36, .int .i64 25] 25)) = v8 at *
    generalize w8.heap.size = B8 at *
    go_wp2_with fail
    refine (tm_val V16.out V17.out V18.out _).mono ?_
    rintro e9 w9 ⟨rfl, b9⟩
    have q0 := keep_tr q0 b9
    have q1 := keep_tr q1 b9
    have q2 := keep_tr q2 b9
    have q3 := keep_tr q3 b9
    have q4 := keep_tr q4 b9
    have q5 := keep_tr q5 b9
    have q6 := keep_tr q6 b9
    have q7 := keep_tr q7 b9
    have q8 := keep_tr q8 b9
    have q9 := keep_tr q9 b9
    have q10 := keep_tr q10 b9
    have q11 := keep_tr q11 b9
    have q12 := keep_tr q12 b9
    have q13 := keep_tr q13 b9
    have q14 := keep_tr q14 b9
    have q15 := keep_tr q15 b9
    have q16 := keep_tr q16 b9
    have q17 := keep_tr q17 b9
    have q0 := keep_al q0 (.cells #[.int .i64 1296, .int .i64 625] 25)
    have q1 := keep_al q1 (.cells #[.int .i64 1296, .int .i64 625] 25)
    have q2 := keep_al q2 (.cells #[.int .i64 1296, .int .i64 625] 25)
    have q3 := keep_al q3 (.cells #[.int .i64 1296, .int .i64 625] 25)
    have q4 := keep_al q4 (.cells #[.int .i64 1296, .int .i64 625] 25)
    have q5 := keep_al q5 (.cells #[.int .i64 1296, .int .i64 625] 25)
    have q6 := keep_al q6 (.cells #[.int .i64 1296, .int .i64 625] 25)
    have q7 := keep_al q7 (.cells #[.int .i64 1296, .int .i64 625] 25)
    have q8 := keep_al q8 (.cells #[.int .i64 1296, .int .i64 625] 25)
    have q9 := keep_al q9 (.cells #[.int .i64 1296, .int .i64 625] 25)
    have q10 := keep_al q10 (.cells #[.int .i64 1296, .int .i64 625] 25)
    have q11 := keep_al q11 (.cells #[.int .i64 1296, .int .i64 625] 25)
    have q12 := keep_al q12 (.cells #[.int .i64 1296, .int .i64 625] 25)
    have q13 := keep_al q13 (.cells #[.int .i64 1296, .int .i64 625] 25)
    have q14 := keep_al q14 (.cells #[.int .i64 1296, .int .i64 625] 25)
    have q15 := keep_al q15 (.cells #[.int .i64 1296, .int .i64 625] 25)
    have q16 := keep_al q16 (.cells #[.int .i64 1296, .int .i64 625] 25)
    have q17 := keep_al q17 (.cells #[.int .i64 1296, .int .i64 625] 25)
    have q18 : (w9.alloc (.cells #[.int .i64 1296, .int .i64 625] 25)).cell? ⟨w9.heap.size, 0, none⟩ = some (.int .i64 1296) := by simp
    have q19 : (w9.alloc (.cells #[.int .i64 1296, .int .i64 625] 25)).cell? ⟨w9.heap.size, 1, none⟩ = some (.int .i64 625) := by simp
    have qb : Below w.heap.size w (w9.alloc (.cells #[.int .i64 1296, .int .i64 625] 25)) := by repeat (first | (with_reducible assumption) | (exact bel_undr (by with_reducible assumption)) | (with_reducible exact bel_refl _) | (with_reducible refine bel_dr ?_) | (with_reducible refine bel_drN ?_ _) | (with_reducible refine bel_al ?_ _) | (refine bel_set ?_ (by first | (simp; done) | (simp; exact Below.size (by assumption)) | (simp; omega)) _) | (with_reducible refine bel_tr ?_ (by assumption)))
    go_wp2_with fail
    generalize (w9.alloc (.cells #[.int .i64 1296, .int .i64 625] 25)) = v9 at *
    generalize w9.heap.size = B9 at *
    go_wp2_with fail
    refine (fi_val V19.out V20.out V21.out _).mono ?_
    rintro e10 w10 ⟨rfl, b10⟩
    have q0 := keep_tr q0 b10
    have q1 := keep_tr q1 b10
    have q2 := keep_tr q2 b10
    have q3 := keep_tr q3 b10
    have q4 := keep_tr q4 b10
    have q5 := keep_tr q5 b10
    have q6 := keep_tr q6 b10
    have q7 := keep_tr q7 b10
    have q8 := keep_tr q8 b10
    have q9 := keep_tr q9 b10
    have q10 := keep_tr q10 b10
    have q11 := keep_tr q11 b10
    have q12 := keep_tr q12 b10
    have q13 := keep_tr q13 b10
    have q14 := keep_tr q14 b10
    have q15 := keep_tr q15 b10
    have q16 := keep_tr q16 b10
    have q17 := keep_tr q17 b10
    have q18 := keep_tr q18 b10
    have q19 := keep_tr q19 b10
    have q0 := keep_al (keep_al q0 (.cells #[.int .i64 531441, .int .i64 524288] 25)) (.cells #[.int .i64 2, .int .i64 1] 25)
    have q1 := keep_al (keep_al q1 (.cells #[.int .i64 531441, .int .i64 524288] 25)) (.cells #[.int .i64 2, .int .i64 1] 25)
    have q2 := keep_al (keep_al q2 (.cells #[.int .i64 531441, .int .i64 524288] 25)) (.cells #[.int .i64 2, .int .i64 1] 25)
    have q3 := keep_al (keep_al q3 (.cells #[.int .i64 531441, .int .i64 524288] 25)) (.cells #[.int .i64 2, .int .i64 1] 25)
    have q4 := keep_al (keep_al q4 (.cells #[.int .i64 531441, .int .i64 524288] 25)) (.cells #[.int .i64 2, .int .i64 1] 25)
    have q5 := keep_al (keep_al q5 (.cells #[.int .i64 531441, .int .i64 524288] 25)) (.cells #[.int .i64 2, .int .i64 1] 25)
    have q6 := keep_al (keep_al q6 (.cells #[.int .i64 531441, .int .i64 524288] 25)) (.cells #[.int .i64 2, .int .i64 1] 25)
    have q7 := keep_al (keep_al q7 (.cells #[.int .i64 531441, .int .i64 524288] 25)) (.cells #[.int .i64 2, .int .i64 1] 25)
    have q8 := keep_al (keep_al q8 (.cells #[.int .i64 531441, .int .i64 524288] 25)) (.cells #[.int .i64 2, .int .i64 1] 25)
    have q9 := keep_al (keep_al q9 (.cells #[.int .i64 531441, .int .i64 524288] 25)) (.cells #[.int .i64 2, .int .i64 1] 25)
    have q10 := keep_al (keep_al q10 (.cells #[.int .i64 531441, .int .i64 524288] 25)) (.cells #[.int .i64 2, .int .i64 1] 25)
    have q11 := keep_al (keep_al q11 (.cells #[.int .i64 531441, .int .i64 524288] 25)) (.cells #[.int .i64 2, .int .i64 1] 25)
    have q12 := keep_al (keep_al q12 (.cells #[.int .i64 531441, .int .i64 524288] 25)) (.cells #[.int .i64 2, .int .i64 1] 25)
    have q13 := keep_al (keep_al q13 (.cells #[.int .i64 531441, .int .i64 524288] 25)) (.cells #[.int .i64 2, .int .i64 1] 25)
    have q14 := keep_al (keep_al q14 (.cells #[.int .i64 531441, .int .i64 524288] 25)) (.cells #[.int .i64 2, .int .i64 1] 25)
    have q15 := keep_al (keep_al q15 (.cells #[.int .i64 531441, .int .i64 524288] 25)) (.cells #[.int .i64 2, .int .i64 1] 25)
    have q16 := keep_al (keep_al q16 (.cells #[.int .i64 531441, .int .i64 524288] 25)) (.cells #[.int .i64 2, .int .i64 1] 25)
    have q17 := keep_al (keep_al q17 (.cells #[.int .i64 531441, .int .i64 524288] 25)) (.cells #[.int .i64 2, .int .i64 1] 25)
    have q18 := keep_al (keep_al q18 (.cells #[.int .i64 531441, .int .i64 524288] 25)) (.cells #[.int .i64 2, .int .i64 1] 25)
    have q19 := keep_al (keep_al q19 (.cells #[.int .i64 531441, .int .i64 524288] 25)) (.cells #[.int .i64 2, .int .i64 1] 25)
    have q20 : ((w10.alloc (.cells #[.int .i64 531441, .int .i64 524288] 25)).alloc (.cells #[.int .i64 2, .int .i64 1] 25)).cell? ⟨w10.heap.size, 0, none⟩ = some (.int .i64 531441) := keep_al (by simp) _
    have q21 : ((w10.alloc (.cells #[.int .i64 531441, .int .i64 524288] 25)).alloc (.cells #[.int .i64 2, .int .i64 1] 25)).cell? ⟨w10.heap.size, 1, none⟩ = some (.int .i64 524288) := keep_al (by simp) _
    have q22 : ((w10.alloc (.cells #[.int .i64 531441, .int .i64 524288] 25)).alloc (.cells #[.int .i64 2, .int .i64 1] 25)).cell? ⟨(w10.heap.size + 1), 0, none⟩ = some (.int .i64 2) := by simp
    have q23 : ((w10.alloc (.cells #[.int .i64 531441, .int .i64 524288] 25)).alloc (.cells #[.int .i64 2, .int .i64 1] 25)).cell? ⟨(w10.heap.size + 1), 1, none⟩ = some (.int .i64 1) := by simp
    have qb : Below w.heap.size w ((w10.alloc (.cells #[.int .i64 531441, .int .i64 524288] 25)).alloc (.cells #[.int .i64 2, .int .i64 1] 25)) := by repeat (first | (with_reducible assumption) | (exact bel_undr (by with_reducible assumption)) | (with_reducible exact bel_refl _) | (with_reducible refine bel_dr ?_) | (with_reducible refine bel_drN ?_ _) | (with_reducible refine bel_al ?_ _) | (refine bel_set ?_ (by first | (simp; done) | (simp; exact Below.size (by assumption)) | (simp; omega)) _) | (with_reducible refine bel_tr ?_ (by assumption)))
    go_wp2_with fail
    generalize ((w10.alloc (.cells #[.int .i64 531441, .int .i64 524288] 25)).alloc (.cells #[.int .i64 2, .int .i64 1] 25)) = v10 at *
    generalize w10.heap.size + 1 = C10 at *
    generalize w10.heap.size = B10 at *
    go_wp2_with fail
    refine (ls_val V22.out _).mono ?_
    rintro e11 w11 ⟨rfl, b11⟩
    have q0 := keep_tr q0 b11
    have q1 := keep_tr q1 b11
    have q2 := keep_tr q2 b11
    have q3 := keep_tr q3 b11
    have q4 := keep_tr q4 b11
    have q5 := keep_tr q5 b11
    have q6 := keep_tr q6 b11
    have q7 := keep_tr q7 b11
    have q8 := keep_tr q8 b11
    have q9 := keep_tr q9 b11
    have q10 := keep_tr q10 b11
    have q11 := keep_tr q11 b11
    have q12 := keep_tr q12 b11
    have q13 := keep_tr q13 b11
    have q14 := keep_tr q14 b11
    have q15 := keep_tr q15 b11
    have q16 := keep_tr q16 b11
    have q17 := keep_tr q17 b11
    have q18 := keep_tr q18 b11
    have q19 := keep_tr q19 b11
    have q20 := keep_tr q20 b11
    have q21 := keep_tr q21 b11
    have q22 := keep_tr q22 b11
    have q23 := keep_tr q23 b11
    go_wp2_with fail
    refine (ls_val V23.out _).mono ?_
    rintro e12 w12 ⟨rfl, b12⟩
    have q0 := keep_tr q0 b12
    have q1 := keep_tr q1 b12
    have q2 := keep_tr q2 b12
    have q3 := keep_tr q3 b12
    have q4 := keep_tr q4 b12
    have q5 := keep_tr q5 b12
    have q6 := keep_tr q6 b12
    have q7 := keep_tr q7 b12
    have q8 := keep_tr q8 b12
    have q9 := keep_tr q9 b12
    have q10 := keep_tr q10 b12
    have q11 := keep_tr q11 b12
    have q12 := keep_tr q12 b12
    have q13 := keep_tr q13 b12
    have q14 := keep_tr q14 b12
    have q15 := keep_tr q15 b12
    have q16 := keep_tr q16 b12
    have q17 := keep_tr q17 b12
    have q18 := keep_tr q18 b12
    have q19 := keep_tr q19 b12
    have q20 := keep_tr q20 b12
    have q21 := keep_tr q21 b12
    have q22 := keep_tr q22 b12
    have q23 := keep_tr q23 b12
    go_wp2_with fail
    refine (ls_val V24.out _).mono ?_
    rintro e13 w13 ⟨rfl, b13⟩
    have q0 := keep_tr q0 b13
    have q1 := keep_tr q1 b13
    have q2 := keep_tr q2 b13
    have q3 := keep_tr q3 b13
    have q4 := keep_tr q4 b13
    have q5 := keep_tr q5 b13
    have q6 := keep_tr q6 b13
    have q7 := keep_tr q7 b13
    have q8 := keep_tr q8 b13
    have q9 := keep_tr q9 b13
    have q10 := keep_tr q10 b13
    have q11 := keep_tr q11 b13
    have q12 := keep_tr q12 b13
    have q13 := keep_tr q13 b13
    have q14 := keep_tr q14 b13
    have q15 := keep_tr q15 b13
    have q16 := keep_tr q16 b13
    have q17 := keep_tr q17 b13
    have q18 := keep_tr q18 b13
    have q19 := keep_tr q19 b13
    have q20 := keep_tr q20 b13
    have q21 := keep_tr q21 b13
    have q22 := keep_tr q22 b13
    have q23 := keep_tr q23 b13
    go_wp2_with fail
    refine (alive_any _).mono ?_
    rintro e14 w14 ⟨rfl, b14⟩
    have q0 := keep_tr q0 b14
    have q1 := keep_tr q1 b14
    have q2 := keep_tr q2 b14
    have q3 := keep_tr q3 b14
    have q4 := keep_tr q4 b14
    have q5 := keep_tr q5 b14
    have q6 := keep_tr q6 b14
    have q7 := keep_tr q7 b14
    have q8 := keep_tr q8 b14
    have q9 := keep_tr q9 b14
    have q10 := keep_tr q10 b14
    have q11 := keep_tr q11 b14
    have q12 := keep_tr q12 b14
    have q13 := keep_tr q13 b14
    have q14 := keep_tr q14 b14
    have q15 := keep_tr q15 b14
    have q16 := keep_tr q16 b14
    have q17 := keep_tr q17 b14
    have q18 := keep_tr q18 b14
    have q19 := keep_tr q19 b14
    have q20 := keep_tr q20 b14
    have q21 := keep_tr q21 b14
    have q22 := keep_tr q22 b14
    have q23 := keep_tr q23 b14
    go_wp2
    go_ret
    exact ⟨rfl, by repeat (first | (with_reducible assumption) | (exact bel_undr (by with_reducible assumption)) | (with_reducible exact bel_refl _) | (with_reducible refine bel_dr ?_) | (with_reducible refine bel_drN ?_ _) | (with_reducible refine bel_al ?_ _) | (refine bel_set ?_ (by first | (simp; done) | (simp; exact Below.size (by assumption)) | (simp; omega)) _) | (with_reducible refine bel_tr ?_ (by assumption)))⟩
  · have hl2 : (1048576 : Int) < (len : Int) := by omega
    go_enter Try.func15, Try.ntmps15
    go_wp2
    go_ret
    exact ⟨rfl, bel_refl _⟩

end Go.Proofs.Ytclbgndpdbfedaa.FnPureComma
