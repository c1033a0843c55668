/- The contracts of RatioTimes and RatioLess, of the program and of the reference: for all pairs of numbers. -/
import Derived.Test.YtgjjoaffmflbgaaLt
namespace Go.Proofs.Ytgjjoaffmflbgaa
set_option linter.unusedSimpArgs false
set_option linter.unusedVariables false
open Go.RowKit

def tmB (a b c d : Int) : Bool := rvB a b && rvB c d && ltB (a * c) (b * d)
def tmN (a b c d : Int) : Int := if tmB a b c d then a * c / G (a * c) (b * d) else 0
def tmD (a b c d : Int) : Int := if tmB a b c d then b * d / G (a * c) (b * d) else 0
def lsB (a b c d : Int) : Bool := rvB a b && rvB c d && decide (a * d < c * b)
theorem mul_bd {a b : Int} (h0 : 1 ≤ a) (h1 : a ≤ 2000000) (h2 : 1 ≤ b) (h3 : b ≤ 2000000) : 0 < a * b ∧ a * b ≤ 4000000000000 :=
  ⟨Int.mul_pos (by omega) (by omega), Int.le_trans (Int.mul_le_mul h1 h3 (by omega) (by omega)) (by omega)⟩

set_option maxHeartbeats 400000 in
theorem tm_no1 (a b c d : Int) (w : World) (h1 : rvB a b = false) : Calls Try.prog 19 #[.agg #[.int .i64 a, .int .i64 b], .agg #[.int .i64 c, .int .i64 d]] w fun e w' => e = .returned (.tuple #[.agg #[.int .i64 0, .int .i64 0], .bool false]) ∧ Below w.heap.size w w' := by
  go_enter Try.func19, Try.ntmps19
  go_wp2_with fail
  refine (rv_any _ _ _).mono ?_
  rintro e1 w1 ⟨rfl, hb1⟩
  have hz1 := hb1.size
  (try simp at hz1)
  obtain ⟨c1_0, f1_0⟩ := cel hb1 w.heap.size (by (try simp) <;> omega)
  have l1_0 : w.heap.size < w1.heap.size := (by omega)
  obtain ⟨c1_1, f1_1⟩ := cel hb1 (w.heap.size + 1) (by (try simp) <;> omega)
  have l1_1 : (w.heap.size + 1) < w1.heap.size := (by omega)
  obtain ⟨c1_2, f1_2⟩ := cel hb1 (w.heap.size + 2) (by (try simp) <;> omega)
  have l1_2 : (w.heap.size + 2) < w1.heap.size := (by omega)
  go_wp2
  refine bodyPost_ret (v := .tuple #[.agg #[.int .i64 0, .int .i64 0], .bool false]) (by simp (maxDischargeDepth := 3) [results, Try.results19, go_sem, *]) rfl ⟨rfl, ?_⟩
  repeat (first | (with_reducible assumption) | (with_reducible exact bel_refl _) | (with_reducible refine bel_dr ?_) | (with_reducible refine bel_drN ?_ _) | (with_reducible refine bel_al ?_ _) | (refine bel_set ?_ (by (try simp) <;> omega) _) | (with_reducible refine bel_tr ?_ (by assumption)))

set_option maxHeartbeats 400000 in
theorem tm_no2 (a b c d : Int) (w : World) (h1 : rvB a b = true) (h2 : rvB c d = false) : Calls Try.prog 19 #[.agg #[.int .i64 a, .int .i64 b], .agg #[.int .i64 c, .int .i64 d]] w fun e w' => e = .returned (.tuple #[.agg #[.int .i64 0, .int .i64 0], .bool false]) ∧ Below w.heap.size w w' := by
  go_enter Try.func19, Try.ntmps19
  go_wp2_with fail
  refine (rv_any _ _ _).mono ?_
  rintro e1 w1 ⟨rfl, hb1⟩
  have hz1 := hb1.size
  (try simp at hz1)
  obtain ⟨c1_0, f1_0⟩ := cel hb1 w.heap.size (by (try simp) <;> omega)
  have l1_0 : w.heap.size < w1.heap.size := (by omega)
  obtain ⟨c1_1, f1_1⟩ := cel hb1 (w.heap.size + 1) (by (try simp) <;> omega)
  have l1_1 : (w.heap.size + 1) < w1.heap.size := (by omega)
  obtain ⟨c1_2, f1_2⟩ := cel hb1 (w.heap.size + 2) (by (try simp) <;> omega)
  have l1_2 : (w.heap.size + 2) < w1.heap.size := (by omega)
  go_wp2_with fail
  refine (rv_any _ _ _).mono ?_
  rintro e2 w2 ⟨rfl, hb2⟩
  have hz2 := hb2.size
  (try simp at hz2)
  obtain ⟨c2_0, f2_0⟩ := cel hb2 w.heap.size (by (try simp) <;> omega)
  have l2_0 : w.heap.size < w2.heap.size := (by omega)
  obtain ⟨c2_1, f2_1⟩ := cel hb2 (w.heap.size + 1) (by (try simp) <;> omega)
  have l2_1 : (w.heap.size + 1) < w2.heap.size := (by omega)
  obtain ⟨c2_2, f2_2⟩ := cel hb2 (w.heap.size + 2) (by (try simp) <;> omega)
  have l2_2 : (w.heap.size + 2) < w2.heap.size := (by omega)
  go_wp2
  refine bodyPost_ret (v := .tuple #[.agg #[.int .i64 0, .int .i64 0], .bool false]) (by simp (maxDischargeDepth := 3) [results, Try.results19, go_sem, *]) rfl ⟨rfl, ?_⟩
  repeat (first | (with_reducible assumption) | (with_reducible exact bel_refl _) | (with_reducible refine bel_dr ?_) | (with_reducible refine bel_drN ?_ _) | (with_reducible refine bel_al ?_ _) | (refine bel_set ?_ (by (try simp) <;> omega) _) | (with_reducible refine bel_tr ?_ (by assumption)))

set_option maxHeartbeats 400000 in
theorem tm_false (a b c d : Int) (w : World) (h1 : rvB a b = true) (h2 : rvB c d = true) (h3 : rvB (a * c / G (a * c) (b * d)) (b * d / G (a * c) (b * d)) = false) : Calls Try.prog 19 #[.agg #[.int .i64 a, .int .i64 b], .agg #[.int .i64 c, .int .i64 d]] w fun e w' => e = .returned (.tuple #[.agg #[.int .i64 0, .int .i64 0], .bool false]) ∧ Below w.heap.size w w' := by
  obtain ⟨a1, a2, b1, b2, _⟩ := rvB_bd h1
  obtain ⟨c1, c2, d1, d2, _⟩ := rvB_bd h2
  obtain ⟨p1, p2⟩ := mul_bd a1 a2 c1 c2
  obtain ⟨q1, q2⟩ := mul_bd b1 b2 d1 d2
  go_enter Try.func19, Try.ntmps19
  go_wp2_with fail
  refine (rv_any _ _ _).mono ?_
  rintro e1 w1 ⟨rfl, hb1⟩
  have hz1 := hb1.size
  (try simp at hz1)
  obtain ⟨c1_0, f1_0⟩ := cel hb1 w.heap.size (by (try simp) <;> omega)
  have l1_0 : w.heap.size < w1.heap.size := (by omega)
  obtain ⟨c1_1, f1_1⟩ := cel hb1 (w.heap.size + 1) (by (try simp) <;> omega)
  have l1_1 : (w.heap.size + 1) < w1.heap.size := (by omega)
  obtain ⟨c1_2, f1_2⟩ := cel hb1 (w.heap.size + 2) (by (try simp) <;> omega)
  have l1_2 : (w.heap.size + 2) < w1.heap.size := (by omega)
  go_wp2_with fail
  refine (rv_any _ _ _).mono ?_
  rintro e2 w2 ⟨rfl, hb2⟩
  have hz2 := hb2.size
  (try simp at hz2)
  obtain ⟨c2_0, f2_0⟩ := cel hb2 w.heap.size (by (try simp) <;> omega)
  have l2_0 : w.heap.size < w2.heap.size := (by omega)
  obtain ⟨c2_1, f2_1⟩ := cel hb2 (w.heap.size + 1) (by (try simp) <;> omega)
  have l2_1 : (w.heap.size + 1) < w2.heap.size := (by omega)
  obtain ⟨c2_2, f2_2⟩ := cel hb2 (w.heap.size + 2) (by (try simp) <;> omega)
  have l2_2 : (w.heap.size + 2) < w2.heap.size := (by omega)
  go_wp2_with fail
  refine (lt_false _ _ _ p1 q1 (by omega) (by omega) h3).mono ?_
  rintro e3 w3 ⟨rfl, hb3⟩
  have hz3 := hb3.size
  (try simp at hz3)
  obtain ⟨c3_0, f3_0⟩ := cel hb3 w.heap.size (by (try simp) <;> omega)
  have l3_0 : w.heap.size < w3.heap.size := (by omega)
  obtain ⟨c3_1, f3_1⟩ := cel hb3 (w.heap.size + 1) (by (try simp) <;> omega)
  have l3_1 : (w.heap.size + 1) < w3.heap.size := (by omega)
  obtain ⟨c3_2, f3_2⟩ := cel hb3 (w.heap.size + 2) (by (try simp) <;> omega)
  have l3_2 : (w.heap.size + 2) < w3.heap.size := (by omega)
  go_wp2
  refine bodyPost_ret (v := .tuple #[.agg #[.int .i64 0, .int .i64 0], .bool false]) (by simp (maxDischargeDepth := 3) [results, Try.results19, go_sem, *]) rfl ⟨rfl, ?_⟩
  repeat (first | (with_reducible assumption) | (with_reducible exact bel_refl _) | (with_reducible refine bel_dr ?_) | (with_reducible refine bel_drN ?_ _) | (with_reducible refine bel_al ?_ _) | (refine bel_set ?_ (by (try simp) <;> omega) _) | (with_reducible refine bel_tr ?_ (by assumption)))

set_option maxHeartbeats 400000 in
theorem tm_true (a b c d : Int) (w : World) (h1 : rvB a b = true) (h2 : rvB c d = true) (h3 : rvB (a * c / G (a * c) (b * d)) (b * d / G (a * c) (b * d)) = true) : Calls Try.prog 19 #[.agg #[.int .i64 a, .int .i64 b], .agg #[.int .i64 c, .int .i64 d]] w fun e w' => e = .returned (.tuple #[.agg #[.int .i64 (a * c / G (a * c) (b * d)), .int .i64 (b * d / G (a * c) (b * d))], .bool true]) ∧ Below w.heap.size w w' := by
  obtain ⟨a1, a2, b1, b2, _⟩ := rvB_bd h1
  obtain ⟨c1, c2, d1, d2, _⟩ := rvB_bd h2
  obtain ⟨p1, p2⟩ := mul_bd a1 a2 c1 c2
  obtain ⟨q1, q2⟩ := mul_bd b1 b2 d1 d2
  go_enter Try.func19, Try.ntmps19
  go_wp2_with fail
  refine (rv_any _ _ _).mono ?_
  rintro e1 w1 ⟨rfl, hb1⟩
  have hz1 := hb1.size
  (try simp at hz1)
  obtain ⟨c1_0, f1_0⟩ := cel hb1 w.heap.size (by (try simp) <;> omega)
  have l1_0 : w.heap.size < w1.heap.size := (by omega)
  obtain ⟨c1_1, f1_1⟩ := cel hb1 (w.heap.size + 1) (by (try simp) <;> omega)
  have l1_1 : (w.heap.size + 1) < w1.heap.size := (by omega)
  obtain ⟨c1_2, f1_2⟩ := cel hb1 (w.heap.size + 2) (by (try simp) <;> omega)
  have l1_2 : (w.heap.size + 2) < w1.heap.size := (by omega)
  go_wp2_with fail
  refine (rv_any _ _ _).mono ?_
  rintro e2 w2 ⟨rfl, hb2⟩
  have hz2 := hb2.size
  (try simp at hz2)
  obtain ⟨c2_0, f2_0⟩ := cel hb2 w.heap.size (by (try simp) <;> omega)
  have l2_0 : w.heap.size < w2.heap.size := (by omega)
  obtain ⟨c2_1, f2_1⟩ := cel hb2 (w.heap.size + 1) (by (try simp) <;> omega)
  have l2_1 : (w.heap.size + 1) < w2.heap.size := (by omega)
  obtain ⟨c2_2, f2_2⟩ := cel hb2 (w.heap.size + 2) (by (try simp) <;> omega)
  have l2_2 : (w.heap.size + 2) < w2.heap.size := (by omega)
  go_wp2_with fail
  refine (lt_true _ _ _ p1 q1 (by omega) (by omega) h3).mono ?_
  rintro e3 w3 ⟨rfl, hb3⟩
  have hz3 := hb3.size
  (try simp at hz3)
  obtain ⟨c3_0, f3_0⟩ := cel hb3 w.heap.size (by (try simp) <;> omega)
  have l3_0 : w.heap.size < w3.heap.size := (by omega)
  obtain ⟨c3_1, f3_1⟩ := cel hb3 (w.heap.size + 1) (by (try simp) <;> omega)
  have l3_1 : (w.heap.size + 1) < w3.heap.size := (by omega)
  obtain ⟨c3_2, f3_2⟩ := cel hb3 (w.heap.size + 2) (by (try simp) <;> omega)
  have l3_2 : (w.heap.size + 2) < w3.heap.size := (by omega)
  go_wp2
  refine bodyPost_ret (v := .tuple #[.agg #[.int .i64 (a * c / G (a * c) (b * d)), .int .i64 (b * d / G (a * c) (b * d))], .bool true]) (by simp (maxDischargeDepth := 3) [results, Try.results19, go_sem, *]) rfl ⟨rfl, ?_⟩
  repeat (first | (with_reducible assumption) | (with_reducible exact bel_refl _) | (with_reducible refine bel_dr ?_) | (with_reducible refine bel_drN ?_ _) | (with_reducible refine bel_al ?_ _) | (refine bel_set ?_ (by (try simp) <;> omega) _) | (with_reducible refine bel_tr ?_ (by assumption)))

theorem tm_any (a b c d : Int) (w : World) : Calls Try.prog 19 #[.agg #[.int .i64 a, .int .i64 b], .agg #[.int .i64 c, .int .i64 d]] w fun e w' => e = .returned (.tuple #[.agg #[.int .i64 (tmN a b c d), .int .i64 (tmD a b c d)], .bool (tmB a b c d)]) ∧ Below w.heap.size w w' := by
  cases h1 : rvB a b
  · have e : tmB a b c d = false := by simp [tmB, h1]
    have e1 : tmN a b c d = 0 := by simp [tmN, e]
    have e2 : tmD a b c d = 0 := by simp [tmD, e]
    rw [e, e1, e2]; exact tm_no1 a b c d w h1
  · cases h2 : rvB c d
    · have e : tmB a b c d = false := by simp [tmB, h1, h2]
      have e1 : tmN a b c d = 0 := by simp [tmN, e]
      have e2 : tmD a b c d = 0 := by simp [tmD, e]
      rw [e, e1, e2]; exact tm_no2 a b c d w h1 h2
    · cases h3 : ltB (a * c) (b * d)
      · have e : tmB a b c d = false := by simp [tmB, h3]
        have e1 : tmN a b c d = 0 := by simp [tmN, e]
        have e2 : tmD a b c d = 0 := by simp [tmD, e]
        rw [e, e1, e2]; exact tm_false a b c d w h1 h2 h3
      · have e : tmB a b c d = true := by simp [tmB, h1, h2, h3]
        have e1 : tmN a b c d = a * c / G (a * c) (b * d) := by simp [tmN, e]
        have e2 : tmD a b c d = b * d / G (a * c) (b * d) := by simp [tmD, e]
        rw [e, e1, e2]; exact tm_true a b c d w h1 h2 h3

set_option maxHeartbeats 400000 in
theorem stm_no1 (a b c d : Int) (w : World) (h1 : rvB a b = false) : Calls Try.prog 20 #[.agg #[.int .i64 a, .int .i64 b], .agg #[.int .i64 c, .int .i64 d]] w fun e w' => e = .returned (.tuple #[.agg #[.int .i64 0, .int .i64 0], .bool false]) ∧ Below w.heap.size w w' := by
  go_enter Try.func20, Try.ntmps20
  go_wp2_with fail
  refine (srv_any _ _ _).mono ?_
  rintro e1 w1 ⟨rfl, hb1⟩
  have hz1 := hb1.size
  (try simp at hz1)
  obtain ⟨c1_0, f1_0⟩ := cel hb1 w.heap.size (by (try simp) <;> omega)
  have l1_0 : w.heap.size < w1.heap.size := (by omega)
  obtain ⟨c1_1, f1_1⟩ := cel hb1 (w.heap.size + 1) (by (try simp) <;> omega)
  have l1_1 : (w.heap.size + 1) < w1.heap.size := (by omega)
  obtain ⟨c1_2, f1_2⟩ := cel hb1 (w.heap.size + 2) (by (try simp) <;> omega)
  have l1_2 : (w.heap.size + 2) < w1.heap.size := (by omega)
  go_wp2
  refine bodyPost_ret (v := .tuple #[.agg #[.int .i64 0, .int .i64 0], .bool false]) (by simp (maxDischargeDepth := 3) [results, Try.results20, go_sem, *]) rfl ⟨rfl, ?_⟩
  repeat (first | (with_reducible assumption) | (with_reducible exact bel_refl _) | (with_reducible refine bel_dr ?_) | (with_reducible refine bel_drN ?_ _) | (with_reducible refine bel_al ?_ _) | (refine bel_set ?_ (by (try simp) <;> omega) _) | (with_reducible refine bel_tr ?_ (by assumption)))

set_option maxHeartbeats 400000 in
theorem stm_no2 (a b c d : Int) (w : World) (h1 : rvB a b = true) (h2 : rvB c d = false) : Calls Try.prog 20 #[.agg #[.int .i64 a, .int .i64 b], .agg #[.int .i64 c, .int .i64 d]] w fun e w' => e = .returned (.tuple #[.agg #[.int .i64 0, .int .i64 0], .bool false]) ∧ Below w.heap.size w w' := by
  go_enter Try.func20, Try.ntmps20
  go_wp2_with fail
  refine (srv_any _ _ _).mono ?_
  rintro e1 w1 ⟨rfl, hb1⟩
  have hz1 := hb1.size
  (try simp at hz1)
  obtain ⟨c1_0, f1_0⟩ := cel hb1 w.heap.size (by (try simp) <;> omega)
  have l1_0 : w.heap.size < w1.heap.size := (by omega)
  obtain ⟨c1_1, f1_1⟩ := cel hb1 (w.heap.size + 1) (by (try simp) <;> omega)
  have l1_1 : (w.heap.size + 1) < w1.heap.size := (by omega)
  obtain ⟨c1_2, f1_2⟩ := cel hb1 (w.heap.size + 2) (by (try simp) <;> omega)
  have l1_2 : (w.heap.size + 2) < w1.heap.size := (by omega)
  go_wp2_with fail
  refine (srv_any _ _ _).mono ?_
  rintro e2 w2 ⟨rfl, hb2⟩
  have hz2 := hb2.size
  (try simp at hz2)
  obtain ⟨c2_0, f2_0⟩ := cel hb2 w.heap.size (by (try simp) <;> omega)
  have l2_0 : w.heap.size < w2.heap.size := (by omega)
  obtain ⟨c2_1, f2_1⟩ := cel hb2 (w.heap.size + 1) (by (try simp) <;> omega)
  have l2_1 : (w.heap.size + 1) < w2.heap.size := (by omega)
  obtain ⟨c2_2, f2_2⟩ := cel hb2 (w.heap.size + 2) (by (try simp) <;> omega)
  have l2_2 : (w.heap.size + 2) < w2.heap.size := (by omega)
  go_wp2
  refine bodyPost_ret (v := .tuple #[.agg #[.int .i64 0, .int .i64 0], .bool false]) (by simp (maxDischargeDepth := 3) [results, Try.results20, go_sem, *]) rfl ⟨rfl, ?_⟩
  repeat (first | (with_reducible assumption) | (with_reducible exact bel_refl _) | (with_reducible refine bel_dr ?_) | (with_reducible refine bel_drN ?_ _) | (with_reducible refine bel_al ?_ _) | (refine bel_set ?_ (by (try simp) <;> omega) _) | (with_reducible refine bel_tr ?_ (by assumption)))

set_option maxHeartbeats 400000 in
theorem stm_false (a b c d : Int) (w : World) (h1 : rvB a b = true) (h2 : rvB c d = true) (h3 : rvB (a * c / G (a * c) (b * d)) (b * d / G (a * c) (b * d)) = false) : Calls Try.prog 20 #[.agg #[.int .i64 a, .int .i64 b], .agg #[.int .i64 c, .int .i64 d]] w fun e w' => e = .returned (.tuple #[.agg #[.int .i64 0, .int .i64 0], .bool false]) ∧ Below w.heap.size w w' := by
  obtain ⟨a1, a2, b1, b2, _⟩ := rvB_bd h1
  obtain ⟨c1, c2, d1, d2, _⟩ := rvB_bd h2
  obtain ⟨p1, p2⟩ := mul_bd a1 a2 c1 c2
  obtain ⟨q1, q2⟩ := mul_bd b1 b2 d1 d2
  go_enter Try.func20, Try.ntmps20
  go_wp2_with fail
  refine (srv_any _ _ _).mono ?_
  rintro e1 w1 ⟨rfl, hb1⟩
  have hz1 := hb1.size
  (try simp at hz1)
  obtain ⟨c1_0, f1_0⟩ := cel hb1 w.heap.size (by (try simp) <;> omega)
  have l1_0 : w.heap.size < w1.heap.size := (by omega)
  obtain ⟨c1_1, f1_1⟩ := cel hb1 (w.heap.size + 1) (by (try simp) <;> omega)
  have l1_1 : (w.heap.size + 1) < w1.heap.size := (by omega)
  obtain ⟨c1_2, f1_2⟩ := cel hb1 (w.heap.size + 2) (by (try simp) <;> omega)
  have l1_2 : (w.heap.size + 2) < w1.heap.size := (by omega)
  go_wp2_with fail
  refine (srv_any _ _ _).mono ?_
  rintro e2 w2 ⟨rfl, hb2⟩
  have hz2 := hb2.size
  (try simp at hz2)
  obtain ⟨c2_0, f2_0⟩ := cel hb2 w.heap.size (by (try simp) <;> omega)
  have l2_0 : w.heap.size < w2.heap.size := (by omega)
  obtain ⟨c2_1, f2_1⟩ := cel hb2 (w.heap.size + 1) (by (try simp) <;> omega)
  have l2_1 : (w.heap.size + 1) < w2.heap.size := (by omega)
  obtain ⟨c2_2, f2_2⟩ := cel hb2 (w.heap.size + 2) (by (try simp) <;> omega)
  have l2_2 : (w.heap.size + 2) < w2.heap.size := (by omega)
  go_wp2_with fail
  refine (slt_false _ _ _ p1 q1 (by omega) (by omega) h3).mono ?_
  rintro e3 w3 ⟨rfl, hb3⟩
  have hz3 := hb3.size
  (try simp at hz3)
  obtain ⟨c3_0, f3_0⟩ := cel hb3 w.heap.size (by (try simp) <;> omega)
  have l3_0 : w.heap.size < w3.heap.size := (by omega)
  obtain ⟨c3_1, f3_1⟩ := cel hb3 (w.heap.size + 1) (by (try simp) <;> omega)
  have l3_1 : (w.heap.size + 1) < w3.heap.size := (by omega)
  obtain ⟨c3_2, f3_2⟩ := cel hb3 (w.heap.size + 2) (by (try simp) <;> omega)
  have l3_2 : (w.heap.size + 2) < w3.heap.size := (by omega)
  go_wp2
  refine bodyPost_ret (v := .tuple #[.agg #[.int .i64 0, .int .i64 0], .bool false]) (by simp (maxDischargeDepth := 3) [results, Try.results20, go_sem, *]) rfl ⟨rfl, ?_⟩
  repeat (first | (with_reducible assumption) | (with_reducible exact bel_refl _) | (with_reducible refine bel_dr ?_) | (with_reducible refine bel_drN ?_ _) | (with_reducible refine bel_al ?_ _) | (refine bel_set ?_ (by (try simp) <;> omega) _) | (with_reducible refine bel_tr ?_ (by assumption)))

set_option maxHeartbeats 400000 in
theorem stm_true (a b c d : Int) (w : World) (h1 : rvB a b = true) (h2 : rvB c d = true) (h3 : rvB (a * c / G (a * c) (b * d)) (b * d / G (a * c) (b * d)) = true) : Calls Try.prog 20 #[.agg #[.int .i64 a, .int .i64 b], .agg #[.int .i64 c, .int .i64 d]] w fun e w' => e = .returned (.tuple #[.agg #[.int .i64 (a * c / G (a * c) (b * d)), .int .i64 (b * d / G (a * c) (b * d))], .bool true]) ∧ Below w.heap.size w w' := by
  obtain ⟨a1, a2, b1, b2, _⟩ := rvB_bd h1
  obtain ⟨c1, c2, d1, d2, _⟩ := rvB_bd h2
  obtain ⟨p1, p2⟩ := mul_bd a1 a2 c1 c2
  obtain ⟨q1, q2⟩ := mul_bd b1 b2 d1 d2
  go_enter Try.func20, Try.ntmps20
  go_wp2_with fail
  refine (srv_any _ _ _).mono ?_
  rintro e1 w1 ⟨rfl, hb1⟩
  have hz1 := hb1.size
  (try simp at hz1)
  obtain ⟨c1_0, f1_0⟩ := cel hb1 w.heap.size (by (try simp) <;> omega)
  have l1_0 : w.heap.size < w1.heap.size := (by omega)
  obtain ⟨c1_1, f1_1⟩ := cel hb1 (w.heap.size + 1) (by (try simp) <;> omega)
  have l1_1 : (w.heap.size + 1) < w1.heap.size := (by omega)
  obtain ⟨c1_2, f1_2⟩ := cel hb1 (w.heap.size + 2) (by (try simp) <;> omega)
  have l1_2 : (w.heap.size + 2) < w1.heap.size := (by omega)
  go_wp2_with fail
  refine (srv_any _ _ _).mono ?_
  rintro e2 w2 ⟨rfl, hb2⟩
  have hz2 := hb2.size
  (try simp at hz2)
  obtain ⟨c2_0, f2_0⟩ := cel hb2 w.heap.size (by (try simp) <;> omega)
  have l2_0 : w.heap.size < w2.heap.size := (by omega)
  obtain ⟨c2_1, f2_1⟩ := cel hb2 (w.heap.size + 1) (by (try simp) <;> omega)
  have l2_1 : (w.heap.size + 1) < w2.heap.size := (by omega)
  obtain ⟨c2_2, f2_2⟩ := cel hb2 (w.heap.size + 2) (by (try simp) <;> omega)
  have l2_2 : (w.heap.size + 2) < w2.heap.size := (by omega)
  go_wp2_with fail
  refine (slt_true _ _ _ p1 q1 (by omega) (by omega) h3).mono ?_
  rintro e3 w3 ⟨rfl, hb3⟩
  have hz3 := hb3.size
  (try simp at hz3)
  obtain ⟨c3_0, f3_0⟩ := cel hb3 w.heap.size (by (try simp) <;> omega)
  have l3_0 : w.heap.size < w3.heap.size := (by omega)
  obtain ⟨c3_1, f3_1⟩ := cel hb3 (w.heap.size + 1) (by (try simp) <;> omega)
  have l3_1 : (w.heap.size + 1) < w3.heap.size := (by omega)
  obtain ⟨c3_2, f3_2⟩ := cel hb3 (w.heap.size + 2) (by (try simp) <;> omega)
  have l3_2 : (w.heap.size + 2) < w3.heap.size := (by omega)
  go_wp2
  refine bodyPost_ret (v := .tuple #[.agg #[.int .i64 (a * c / G (a * c) (b * d)), .int .i64 (b * d / G (a * c) (b * d))], .bool true]) (by simp (maxDischargeDepth := 3) [results, Try.results20, go_sem, *]) rfl ⟨rfl, ?_⟩
  repeat (first | (with_reducible assumption) | (with_reducible exact bel_refl _) | (with_reducible refine bel_dr ?_) | (with_reducible refine bel_drN ?_ _) | (with_reducible refine bel_al ?_ _) | (refine bel_set ?_ (by (try simp) <;> omega) _) | (with_reducible refine bel_tr ?_ (by assumption)))

theorem stm_any (a b c d : Int) (w : World) : Calls Try.prog 20 #[.agg #[.int .i64 a, .int .i64 b], .agg #[.int .i64 c, .int .i64 d]] w fun e w' => e = .returned (.tuple #[.agg #[.int .i64 (tmN a b c d), .int .i64 (tmD a b c d)], .bool (tmB a b c d)]) ∧ Below w.heap.size w w' := by
  cases h1 : rvB a b
  · have e : tmB a b c d = false := by simp [tmB, h1]
    have e1 : tmN a b c d = 0 := by simp [tmN, e]
    have e2 : tmD a b c d = 0 := by simp [tmD, e]
    rw [e, e1, e2]; exact stm_no1 a b c d w h1
  · cases h2 : rvB c d
    · have e : tmB a b c d = false := by simp [tmB, h1, h2]
      have e1 : tmN a b c d = 0 := by simp [tmN, e]
      have e2 : tmD a b c d = 0 := by simp [tmD, e]
      rw [e, e1, e2]; exact stm_no2 a b c d w h1 h2
    · cases h3 : ltB (a * c) (b * d)
      · have e : tmB a b c d = false := by simp [tmB, h3]
        have e1 : tmN a b c d = 0 := by simp [tmN, e]
        have e2 : tmD a b c d = 0 := by simp [tmD, e]
        rw [e, e1, e2]; exact stm_false a b c d w h1 h2 h3
      · have e : tmB a b c d = true := by simp [tmB, h1, h2, h3]
        have e1 : tmN a b c d = a * c / G (a * c) (b * d) := by simp [tmN, e]
        have e2 : tmD a b c d = b * d / G (a * c) (b * d) := by simp [tmD, e]
        rw [e, e1, e2]; exact stm_true a b c d w h1 h2 h3

end Go.Proofs.Ytgjjoaffmflbgaa
