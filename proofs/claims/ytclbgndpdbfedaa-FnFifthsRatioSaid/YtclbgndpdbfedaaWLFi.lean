/- The walk of the law FnFifthsRatio: for every input it returns true and turns nothing that was there. -/
import Derived.Test.YtclbgndpdbfedaaVal
namespace Go.Proofs.Ytclbgndpdbfedaa.FnFifthsRatio
open Go.RowKit

theorem fx (x : Int) (h : -12 ≤ x ∧ x ≤ 12) : rvB (fiN x) (fiD x) = true ∧ fiD x ≤ fiN x ∧ fiN x < 2 * fiD x ∧ ((fiN x == 1) = (x == 0)) ∧
    (fiB (x + 1) = true → fiN (x + 1) * fiD x * 2 = fiD (x + 1) * fiN x * 3 ∨ (fiN (x + 1) * fiD x * 2 ≠ fiD (x + 1) * fiN x * 3 ∧ fiN (x + 1) * fiD x * 4 = fiD (x + 1) * fiN x * 3)) := by
  have k : ∀ u : Fin 25, rvB (fiN (u.1 - 12)) (fiD (u.1 - 12)) = true ∧ fiD (u.1 - 12) ≤ fiN (u.1 - 12) ∧ fiN (u.1 - 12) < 2 * fiD (u.1 - 12) ∧ ((fiN (u.1 - 12) == 1) = (((u.1 : Int) - 12) == 0)) ∧
    (fiB (u.1 - 12 + 1) = true → fiN (u.1 - 12 + 1) * fiD (u.1 - 12) * 2 = fiD (u.1 - 12 + 1) * fiN (u.1 - 12) * 3 ∨ (fiN (u.1 - 12 + 1) * fiD (u.1 - 12) * 2 ≠ fiD (u.1 - 12 + 1) * fiN (u.1 - 12) * 3 ∧ fiN (u.1 - 12 + 1) * fiD (u.1 - 12) * 4 = fiD (u.1 - 12 + 1) * fiN (u.1 - 12) * 3)) := by decide +kernel
  have := k ⟨(x + 12).toNat, by omega⟩
  have e : (((x + 12).toNat : Nat) : Int) - 12 = x := by omega
  simp only [e] at this
  exact this

theorem pr_bd (x y : Int) (a : -2000001 ≤ x) (b : x ≤ 2000001) (c : -2000001 ≤ y) (d : y ≤ 2000001) : -4000004000001 ≤ x * y ∧ x * y ≤ 4000004000001 := by
  have h1 : x.natAbs * y.natAbs ≤ 2000001 * 2000001 := Nat.mul_le_mul (by omega) (by omega)
  rw [← Int.natAbs_mul] at h1
  generalize x * y = z at *
  omega

set_option maxHeartbeats 4000000 in
theorem walk (A : Option Addr) (len cap : Nat) (w : World) (h : Cod w A len cap) :
    Calls Try.prog 9 #[.slice A len cap] w fun e w' => e = .returned (.bool true) ∧ Below w.heap.size w w' := by
  by_cases hl : len ≤ 1048576
  · go_enter Try.func9, Try.ntmps9
    go_wp2_with fail
    refine (DrawFifthsRatio_any w A len cap h).mono ?_
    rintro e1 w1 ⟨x, rfl, x0, x1, b1⟩
    by_cases hx : -12 ≤ x ∧ x ≤ 12
    · have E3 := Lib.hid (show fiB x = true by unfold fiB; exact decide_eq_true hx)
      obtain ⟨k1, k2, k3, k4, k5⟩ := fx x hx
      have nd := fiND x
      have nd2 := fiND (x + 1)
      obtain ⟨hx1, hx2⟩ := hx
      generalize hn2 : fiN (x + 1) = n2 at *
      generalize hd2 : fiD (x + 1) = d2 at *
      generalize hn : fiN x = n at *
      generalize hd : fiD x = d at *
      obtain ⟨g1, g2, g3, g4, _⟩ := rvB_bd k1
      have E1 := Lib.hid hn
      have E2 := Lib.hid hd
      have E4 := Lib.hid hn2
      have E5 := Lib.hid hd2
      have E7 := Lib.hid k1
      have K5 := Lib.hid k5
      have K4 := Lib.hid k4
      clear hn hd hn2 hd2 k1 k4 k5
      cases hb : fiB (x + 1)
      · have E6 := Lib.hid hb
        clear hb
        have KK := K4.out
        clear K4
        by_cases hz : x = 0
        · subst hz
          have z1 : (n == 1) = true := by simpa using KK
          clear KK
          go_wp2_with fail
          refine (fi_val E1.out E2.out E3.out _).mono ?_
          rintro e2 w2 ⟨rfl, b2⟩
          have q0 : (w2.alloc (.cells #[.int .i64 n, .int .i64 d] 25)).cell? ⟨w2.heap.size, 0, none⟩ = some (.int .i64 n) := by simp
          have q1 : (w2.alloc (.cells #[.int .i64 n, .int .i64 d] 25)).cell? ⟨w2.heap.size, 1, none⟩ = some (.int .i64 d) := by simp
          have qb : Below w.heap.size w (w2.alloc (.cells #[.int .i64 n, .int .i64 d] 25)) := by repeat (first | (with_reducible assumption) | (exact bel_undr (by with_reducible assumption)) | (with_reducible exact bel_refl _) | (with_reducible refine bel_dr ?_) | (with_reducible refine bel_drN ?_ _) | (with_reducible refine bel_al ?_ _) | (refine bel_set ?_ (by first | (simp; done) | (simp; exact Below.size (by assumption)) | (simp; omega)) _) | (with_reducible refine bel_tr ?_ (by assumption)))
          go_wp2_with fail
          generalize (w2.alloc (.cells #[.int .i64 n, .int .i64 d] 25)) = v2 at *
          generalize w2.heap.size = B2 at *
          go_wp2_with fail
          refine (sfi_val E1.out E2.out E3.out _).mono ?_
          rintro e3 w3 ⟨rfl, b3⟩
          have q0 := keep_tr q0 b3
          have q1 := keep_tr q1 b3
          have q0 := keep_al q0 (.cells #[.int .i64 n, .int .i64 d] 25)
          have q1 := keep_al q1 (.cells #[.int .i64 n, .int .i64 d] 25)
          have q2 : (w3.alloc (.cells #[.int .i64 n, .int .i64 d] 25)).cell? ⟨w3.heap.size, 0, none⟩ = some (.int .i64 n) := by simp
          have q3 : (w3.alloc (.cells #[.int .i64 n, .int .i64 d] 25)).cell? ⟨w3.heap.size, 1, none⟩ = some (.int .i64 d) := by simp
          have qb : Below w.heap.size w (w3.alloc (.cells #[.int .i64 n, .int .i64 d] 25)) := by repeat (first | (with_reducible assumption) | (exact bel_undr (by with_reducible assumption)) | (with_reducible exact bel_refl _) | (with_reducible refine bel_dr ?_) | (with_reducible refine bel_drN ?_ _) | (with_reducible refine bel_al ?_ _) | (refine bel_set ?_ (by first | (simp; done) | (simp; exact Below.size (by assumption)) | (simp; omega)) _) | (with_reducible refine bel_tr ?_ (by assumption)))
          go_wp2_with fail
          generalize (w3.alloc (.cells #[.int .i64 n, .int .i64 d] 25)) = v3 at *
          generalize w3.heap.size = B3 at *
          go_wp2_with fail
          refine (fi_val E4.out E5.out E6.out _).mono ?_
          rintro e4 w4 ⟨rfl, b4⟩
          have q0 := keep_tr q0 b4
          have q1 := keep_tr q1 b4
          have q2 := keep_tr q2 b4
          have q3 := keep_tr q3 b4
          have q0 := keep_al q0 (.cells #[.int .i64 n2, .int .i64 d2] 25)
          have q1 := keep_al q1 (.cells #[.int .i64 n2, .int .i64 d2] 25)
          have q2 := keep_al q2 (.cells #[.int .i64 n2, .int .i64 d2] 25)
          have q3 := keep_al q3 (.cells #[.int .i64 n2, .int .i64 d2] 25)
          have q4 : (w4.alloc (.cells #[.int .i64 n2, .int .i64 d2] 25)).cell? ⟨w4.heap.size, 0, none⟩ = some (.int .i64 n2) := by simp
          have q5 : (w4.alloc (.cells #[.int .i64 n2, .int .i64 d2] 25)).cell? ⟨w4.heap.size, 1, none⟩ = some (.int .i64 d2) := by simp
          have qb : Below w.heap.size w (w4.alloc (.cells #[.int .i64 n2, .int .i64 d2] 25)) := by repeat (first | (with_reducible assumption) | (exact bel_undr (by with_reducible assumption)) | (with_reducible exact bel_refl _) | (with_reducible refine bel_dr ?_) | (with_reducible refine bel_drN ?_ _) | (with_reducible refine bel_al ?_ _) | (refine bel_set ?_ (by first | (simp; done) | (simp; exact Below.size (by assumption)) | (simp; omega)) _) | (with_reducible refine bel_tr ?_ (by assumption)))
          go_wp2_with fail
          generalize (w4.alloc (.cells #[.int .i64 n2, .int .i64 d2] 25)) = v4 at *
          generalize w4.heap.size = B4 at *
          go_wp2_with fail
          refine (rv_val E7.out _).mono ?_
          rintro e5 w5 ⟨rfl, b5⟩
          have q0 := keep_tr q0 b5
          have q1 := keep_tr q1 b5
          have q2 := keep_tr q2 b5
          have q3 := keep_tr q3 b5
          have q4 := keep_tr q4 b5
          have q5 := keep_tr q5 b5
          go_wp2
          go_ret
          exact ⟨rfl, by repeat (first | (with_reducible assumption) | (exact bel_undr (by with_reducible assumption)) | (with_reducible exact bel_refl _) | (with_reducible refine bel_dr ?_) | (with_reducible refine bel_drN ?_ _) | (with_reducible refine bel_al ?_ _) | (refine bel_set ?_ (by first | (simp; done) | (simp; exact Below.size (by assumption)) | (simp; omega)) _) | (with_reducible refine bel_tr ?_ (by assumption)))⟩
        · have z2 : (x == 0) = false := by simpa using hz
          have z1 : (n == 1) = false := by rw [KK]; exact z2
          clear KK hz
          go_wp2_with fail
          refine (fi_val E1.out E2.out E3.out _).mono ?_
          rintro e2 w2 ⟨rfl, b2⟩
          have q0 : (w2.alloc (.cells #[.int .i64 n, .int .i64 d] 25)).cell? ⟨w2.heap.size, 0, none⟩ = some (.int .i64 n) := by simp
          have q1 : (w2.alloc (.cells #[.int .i64 n, .int .i64 d] 25)).cell? ⟨w2.heap.size, 1, none⟩ = some (.int .i64 d) := by simp
          have qb : Below w.heap.size w (w2.alloc (.cells #[.int .i64 n, .int .i64 d] 25)) := by repeat (first | (with_reducible assumption) | (exact bel_undr (by with_reducible assumption)) | (with_reducible exact bel_refl _) | (with_reducible refine bel_dr ?_) | (with_reducible refine bel_drN ?_ _) | (with_reducible refine bel_al ?_ _) | (refine bel_set ?_ (by first | (simp; done) | (simp; exact Below.size (by assumption)) | (simp; omega)) _) | (with_reducible refine bel_tr ?_ (by assumption)))
          go_wp2_with fail
          generalize (w2.alloc (.cells #[.int .i64 n, .int .i64 d] 25)) = v2 at *
          generalize w2.heap.size = B2 at *
          go_wp2_with fail
          refine (sfi_val E1.out E2.out E3.out _).mono ?_
          rintro e3 w3 ⟨rfl, b3⟩
          have q0 := keep_tr q0 b3
          have q1 := keep_tr q1 b3
          have q0 := keep_al q0 (.cells #[.int .i64 n, .int .i64 d] 25)
          have q1 := keep_al q1 (.cells #[.int .i64 n, .int .i64 d] 25)
          have q2 : (w3.alloc (.cells #[.int .i64 n, .int .i64 d] 25)).cell? ⟨w3.heap.size, 0, none⟩ = some (.int .i64 n) := by simp
          have q3 : (w3.alloc (.cells #[.int .i64 n, .int .i64 d] 25)).cell? ⟨w3.heap.size, 1, none⟩ = some (.int .i64 d) := by simp
          have qb : Below w.heap.size w (w3.alloc (.cells #[.int .i64 n, .int .i64 d] 25)) := by repeat (first | (with_reducible assumption) | (exact bel_undr (by with_reducible assumption)) | (with_reducible exact bel_refl _) | (with_reducible refine bel_dr ?_) | (with_reducible refine bel_drN ?_ _) | (with_reducible refine bel_al ?_ _) | (refine bel_set ?_ (by first | (simp; done) | (simp; exact Below.size (by assumption)) | (simp; omega)) _) | (with_reducible refine bel_tr ?_ (by assumption)))
          go_wp2_with fail
          generalize (w3.alloc (.cells #[.int .i64 n, .int .i64 d] 25)) = v3 at *
          generalize w3.heap.size = B3 at *
          go_wp2_with fail
          refine (fi_val E4.out E5.out E6.out _).mono ?_
          rintro e4 w4 ⟨rfl, b4⟩
          have q0 := keep_tr q0 b4
          have q1 := keep_tr q1 b4
          have q2 := keep_tr q2 b4
          have q3 := keep_tr q3 b4
          have q0 := keep_al q0 (.cells #[.int .i64 n2, .int .i64 d2] 25)
          have q1 := keep_al q1 (.cells #[.int .i64 n2, .int .i64 d2] 25)
          have q2 := keep_al q2 (.cells #[.int .i64 n2, .int .i64 d2] 25)
          have q3 := keep_al q3 (.cells #[.int .i64 n2, .int .i64 d2] 25)
          have q4 : (w4.alloc (.cells #[.int .i64 n2, .int .i64 d2] 25)).cell? ⟨w4.heap.size, 0, none⟩ = some (.int .i64 n2) := by simp
          have q5 : (w4.alloc (.cells #[.int .i64 n2, .int .i64 d2] 25)).cell? ⟨w4.heap.size, 1, none⟩ = some (.int .i64 d2) := by simp
          have qb : Below w.heap.size w (w4.alloc (.cells #[.int .i64 n2, .int .i64 d2] 25)) := by repeat (first | (with_reducible assumption) | (exact bel_undr (by with_reducible assumption)) | (with_reducible exact bel_refl _) | (with_reducible refine bel_dr ?_) | (with_reducible refine bel_drN ?_ _) | (with_reducible refine bel_al ?_ _) | (refine bel_set ?_ (by first | (simp; done) | (simp; exact Below.size (by assumption)) | (simp; omega)) _) | (with_reducible refine bel_tr ?_ (by assumption)))
          go_wp2_with fail
          generalize (w4.alloc (.cells #[.int .i64 n2, .int .i64 d2] 25)) = v4 at *
          generalize w4.heap.size = B4 at *
          go_wp2_with fail
          refine (rv_val E7.out _).mono ?_
          rintro e5 w5 ⟨rfl, b5⟩
          have q0 := keep_tr q0 b5
          have q1 := keep_tr q1 b5
          have q2 := keep_tr q2 b5
          have q3 := keep_tr q3 b5
          have q4 := keep_tr q4 b5
          have q5 := keep_tr q5 b5
          go_wp2
          go_ret
          exact ⟨rfl, by repeat (first | (with_reducible assumption) | (exact bel_undr (by with_reducible assumption)) | (with_reducible exact bel_refl _) | (with_reducible refine bel_dr ?_) | (with_reducible refine bel_drN ?_ _) | (with_reducible refine bel_al ?_ _) | (refine bel_set ?_ (by first | (simp; done) | (simp; exact Below.size (by assumption)) | (simp; omega)) _) | (with_reducible refine bel_tr ?_ (by assumption)))⟩
      · have E6 := Lib.hid hb
        have kk := K5.out hb
        clear hb
        have p1 := pr_bd n2 d (by omega) (by omega) (by omega) (by omega)
        have p2 := pr_bd d2 n (by omega) (by omega) (by omega) (by omega)
        rcases kk with kk | ⟨kk1, kk2⟩
        · have q1 : (n2 * d * 2 == d2 * n * 3) = true := by simpa using kk
          clear kk
          have KK := K4.out
          clear K4
          by_cases hz : x = 0
          · subst hz
            have z1 : (n == 1) = true := by simpa using KK
            clear KK
            go_wp2_with fail
            refine (fi_val E1.out E2.out E3.out _).mono ?_
            rintro e2 w2 ⟨rfl, b2⟩
            have q0 : (w2.alloc (.cells #[.int .i64 n, .int .i64 d] 25)).cell? ⟨w2.heap.size, 0, none⟩ = some (.int .i64 n) := by simp
            have q1 : (w2.alloc (.cells #[.int .i64 n, .int .i64 d] 25)).cell? ⟨w2.heap.size, 1, none⟩ = some (.int .i64 d) := by simp
            have qb : Below w.heap.size w (w2.alloc (.cells #[.int .i64 n, .int .i64 d] 25)) := by repeat (first | (with_reducible assumption) | (exact bel_undr (by with_reducible assumption)) | (with_reducible exact bel_refl _) | (with_reducible refine bel_dr ?_) | (with_reducible refine bel_drN ?_ _) | (with_reducible refine bel_al ?_ _) | (refine bel_set ?_ (by first | (simp; done) | (simp; exact Below.size (by assumption)) | (simp; omega)) _) | (with_reducible refine bel_tr ?_ (by assumption)))
            go_wp2_with fail
            generalize (w2.alloc (.cells #[.int .i64 n, .int .i64 d] 25)) = v2 at *
            generalize w2.heap.size = B2 at *
            go_wp2_with fail
            refine (sfi_val E1.out E2.out E3.out _).mono ?_
            rintro e3 w3 ⟨rfl, b3⟩
            have q0 := keep_tr q0 b3
            have q1 := keep_tr q1 b3
            have q0 := keep_al q0 (.cells #[.int .i64 n, .int .i64 d] 25)
            have q1 := keep_al q1 (.cells #[.int .i64 n, .int .i64 d] 25)
            have q2 : (w3.alloc (.cells #[.int .i64 n, .int .i64 d] 25)).cell? ⟨w3.heap.size, 0, none⟩ = some (.int .i64 n) := by simp
            have q3 : (w3.alloc (.cells #[.int .i64 n, .int .i64 d] 25)).cell? ⟨w3.heap.size, 1, none⟩ = some (.int .i64 d) := by simp
            have qb : Below w.heap.size w (w3.alloc (.cells #[.int .i64 n, .int .i64 d] 25)) := by repeat (first | (with_reducible assumption) | (exact bel_undr (by with_reducible assumption)) | (with_reducible exact bel_refl _) | (with_reducible refine bel_dr ?_) | (with_reducible refine bel_drN ?_ _) | (with_reducible refine bel_al ?_ _) | (refine bel_set ?_ (by first | (simp; done) | (simp; exact Below.size (by assumption)) | (simp; omega)) _) | (with_reducible refine bel_tr ?_ (by assumption)))
            go_wp2_with fail
            generalize (w3.alloc (.cells #[.int .i64 n, .int .i64 d] 25)) = v3 at *
            generalize w3.heap.size = B3 at *
            go_wp2_with fail
            refine (fi_val E4.out E5.out E6.out _).mono ?_
            rintro e4 w4 ⟨rfl, b4⟩
            have q0 := keep_tr q0 b4
            have q1 := keep_tr q1 b4
            have q2 := keep_tr q2 b4
            have q3 := keep_tr q3 b4
            have q0 := keep_al q0 (.cells #[.int .i64 n2, .int .i64 d2] 25)
            have q1 := keep_al q1 (.cells #[.int .i64 n2, .int .i64 d2] 25)
            have q2 := keep_al q2 (.cells #[.int .i64 n2, .int .i64 d2] 25)
            have q3 := keep_al q3 (.cells #[.int .i64 n2, .int .i64 d2] 25)
            have q4 : (w4.alloc (.cells #[.int .i64 n2, .int .i64 d2] 25)).cell? ⟨w4.heap.size, 0, none⟩ = some (.int .i64 n2) := by simp
            have q5 : (w4.alloc (.cells #[.int .i64 n2, .int .i64 d2] 25)).cell? ⟨w4.heap.size, 1, none⟩ = some (.int .i64 d2) := by simp
            have qb : Below w.heap.size w (w4.alloc (.cells #[.int .i64 n2, .int .i64 d2] 25)) := by repeat (first | (with_reducible assumption) | (exact bel_undr (by with_reducible assumption)) | (with_reducible exact bel_refl _) | (with_reducible refine bel_dr ?_) | (with_reducible refine bel_drN ?_ _) | (with_reducible refine bel_al ?_ _) | (refine bel_set ?_ (by first | (simp; done) | (simp; exact Below.size (by assumption)) | (simp; omega)) _) | (with_reducible refine bel_tr ?_ (by assumption)))
            go_wp2_with fail
            generalize (w4.alloc (.cells #[.int .i64 n2, .int .i64 d2] 25)) = v4 at *
            generalize w4.heap.size = B4 at *
            go_wp2_with fail
            refine (rv_val E7.out _).mono ?_
            rintro e5 w5 ⟨rfl, b5⟩
            have q0 := keep_tr q0 b5
            have q1 := keep_tr q1 b5
            have q2 := keep_tr q2 b5
            have q3 := keep_tr q3 b5
            have q4 := keep_tr q4 b5
            have q5 := keep_tr q5 b5
            go_wp2
            go_ret
            exact ⟨rfl, by repeat (first | (with_reducible assumption) | (exact bel_undr (by with_reducible assumption)) | (with_reducible exact bel_refl _) | (with_reducible refine bel_dr ?_) | (with_reducible refine bel_drN ?_ _) | (with_reducible refine bel_al ?_ _) | (refine bel_set ?_ (by first | (simp; done) | (simp; exact Below.size (by assumption)) | (simp; omega)) _) | (with_reducible refine bel_tr ?_ (by assumption)))⟩
          · have z2 : (x == 0) = false := by simpa using hz
            have z1 : (n == 1) = false := by rw [KK]; exact z2
            clear KK hz
            go_wp2_with fail
            refine (fi_val E1.out E2.out E3.out _).mono ?_
            rintro e2 w2 ⟨rfl, b2⟩
            have q0 : (w2.alloc (.cells #[.int .i64 n, .int .i64 d] 25)).cell? ⟨w2.heap.size, 0, none⟩ = some (.int .i64 n) := by simp
            have q1 : (w2.alloc (.cells #[.int .i64 n, .int .i64 d] 25)).cell? ⟨w2.heap.size, 1, none⟩ = some (.int .i64 d) := by simp
            have qb : Below w.heap.size w (w2.alloc (.cells #[.int .i64 n, .int .i64 d] 25)) := by repeat (first | (with_reducible assumption) | (exact bel_undr (by with_reducible assumption)) | (with_reducible exact bel_refl _) | (with_reducible refine bel_dr ?_) | (with_reducible refine bel_drN ?_ _) | (with_reducible refine bel_al ?_ _) | (refine bel_set ?_ (by first | (simp; done) | (simp; exact Below.size (by assumption)) | (simp; omega)) _) | (with_reducible refine bel_tr ?_ (by assumption)))
            go_wp2_with fail
            generalize (w2.alloc (.cells #[.int .i64 n, .int .i64 d] 25)) = v2 at *
            generalize w2.heap.size = B2 at *
            go_wp2_with fail
            refine (sfi_val E1.out E2.out E3.out _).mono ?_
            rintro e3 w3 ⟨rfl, b3⟩
            have q0 := keep_tr q0 b3
            have q1 := keep_tr q1 b3
            have q0 := keep_al q0 (.cells #[.int .i64 n, .int .i64 d] 25)
            have q1 := keep_al q1 (.cells #[.int .i64 n, .int .i64 d] 25)
            have q2 : (w3.alloc (.cells #[.int .i64 n, .int .i64 d] 25)).cell? ⟨w3.heap.size, 0, none⟩ = some (.int .i64 n) := by simp
            have q3 : (w3.alloc (.cells #[.int .i64 n, .int .i64 d] 25)).cell? ⟨w3.heap.size, 1, none⟩ = some (.int .i64 d) := by simp
            have qb : Below w.heap.size w (w3.alloc (.cells #[.int .i64 n, .int .i64 d] 25)) := by repeat (first | (with_reducible assumption) | (exact bel_undr (by with_reducible assumption)) | (with_reducible exact bel_refl _) | (with_reducible refine bel_dr ?_) | (with_reducible refine bel_drN ?_ _) | (with_reducible refine bel_al ?_ _) | (refine bel_set ?_ (by first | (simp; done) | (simp; exact Below.size (by assumption)) | (simp; omega)) _) | (with_reducible refine bel_tr ?_ (by assumption)))
            go_wp2_with fail
            generalize (w3.alloc (.cells #[.int .i64 n, .int .i64 d] 25)) = v3 at *
            generalize w3.heap.size = B3 at *
            go_wp2_with fail
            refine (fi_val E4.out E5.out E6.out _).mono ?_
            rintro e4 w4 ⟨rfl, b4⟩
            have q0 := keep_tr q0 b4
            have q1 := keep_tr q1 b4
            have q2 := keep_tr q2 b4
            have q3 := keep_tr q3 b4
            have q0 := keep_al q0 (.cells #[.int .i64 n2, .int .i64 d2] 25)
            have q1 := keep_al q1 (.cells #[.int .i64 n2, .int .i64 d2] 25)
            have q2 := keep_al q2 (.cells #[.int .i64 n2, .int .i64 d2] 25)
            have q3 := keep_al q3 (.cells #[.int .i64 n2, .int .i64 d2] 25)
            have q4 : (w4.alloc (.cells #[.int .i64 n2, .int .i64 d2] 25)).cell? ⟨w4.heap.size, 0, none⟩ = some (.int .i64 n2) := by simp
            have q5 : (w4.alloc (.cells #[.int .i64 n2, .int .i64 d2] 25)).cell? ⟨w4.heap.size, 1, none⟩ = some (.int .i64 d2) := by simp
            have qb : Below w.heap.size w (w4.alloc (.cells #[.int .i64 n2, .int .i64 d2] 25)) := by repeat (first | (with_reducible assumption) | (exact bel_undr (by with_reducible assumption)) | (with_reducible exact bel_refl _) | (with_reducible refine bel_dr ?_) | (with_reducible refine bel_drN ?_ _) | (with_reducible refine bel_al ?_ _) | (refine bel_set ?_ (by first | (simp; done) | (simp; exact Below.size (by assumption)) | (simp; omega)) _) | (with_reducible refine bel_tr ?_ (by assumption)))
            go_wp2_with fail
            generalize (w4.alloc (.cells #[.int .i64 n2, .int .i64 d2] 25)) = v4 at *
            generalize w4.heap.size = B4 at *
            go_wp2_with fail
            refine (rv_val E7.out _).mono ?_
            rintro e5 w5 ⟨rfl, b5⟩
            have q0 := keep_tr q0 b5
            have q1 := keep_tr q1 b5
            have q2 := keep_tr q2 b5
            have q3 := keep_tr q3 b5
            have q4 := keep_tr q4 b5
            have q5 := keep_tr q5 b5
            go_wp2
            go_ret
            exact ⟨rfl, by repeat (first | (with_reducible assumption) | (exact bel_undr (by with_reducible assumption)) | (with_reducible exact bel_refl _) | (with_reducible refine bel_dr ?_) | (with_reducible refine bel_drN ?_ _) | (with_reducible refine bel_al ?_ _) | (refine bel_set ?_ (by first | (simp; done) | (simp; exact Below.size (by assumption)) | (simp; omega)) _) | (with_reducible refine bel_tr ?_ (by assumption)))⟩
        · have q1 : (n2 * d * 2 == d2 * n * 3) = false := by simpa using kk1
          have q2 : (n2 * d * 4 == d2 * n * 3) = true := by simpa using kk2
          clear kk1 kk2
          have KK := K4.out
          clear K4
          by_cases hz : x = 0
          · subst hz
            have z1 : (n == 1) = true := by simpa using KK
            clear KK
            go_wp2_with fail
            refine (fi_val E1.out E2.out E3.out _).mono ?_
            rintro e2 w2 ⟨rfl, b2⟩
            have q0 : (w2.alloc (.cells #[.int .i64 n, .int .i64 d] 25)).cell? ⟨w2.heap.size, 0, none⟩ = some (.int .i64 n) := by simp
            have q1 : (w2.alloc (.cells #[.int .i64 n, .int .i64 d] 25)).cell? ⟨w2.heap.size, 1, none⟩ = some (.int .i64 d) := by simp
            have qb : Below w.heap.size w (w2.alloc (.cells #[.int .i64 n, .int .i64 d] 25)) := by repeat (first | (with_reducible assumption) | (exact bel_undr (by with_reducible assumption)) | (with_reducible exact bel_refl _) | (with_reducible refine bel_dr ?_) | (with_reducible refine bel_drN ?_ _) | (with_reducible refine bel_al ?_ _) | (refine bel_set ?_ (by first | (simp; done) | (simp; exact Below.size (by assumption)) | (simp; omega)) _) | (with_reducible refine bel_tr ?_ (by assumption)))
            go_wp2_with fail
            generalize (w2.alloc (.cells #[.int .i64 n, .int .i64 d] 25)) = v2 at *
            generalize w2.heap.size = B2 at *
            go_wp2_with fail
            refine (sfi_val E1.out E2.out E3.out _).mono ?_
            rintro e3 w3 ⟨rfl, b3⟩
            have q0 := keep_tr q0 b3
            have q1 := keep_tr q1 b3
            have q0 := keep_al q0 (.cells #[.int .i64 n, .int .i64 d] 25)
            have q1 := keep_al q1 (.cells #[.int .i64 n, .int .i64 d] 25)
            have q2 : (w3.alloc (.cells #[.int .i64 n, .int .i64 d] 25)).cell? ⟨w3.heap.size, 0, none⟩ = some (.int .i64 n) := by simp
            have q3 : (w3.alloc (.cells #[.int .i64 n, .int .i64 d] 25)).cell? ⟨w3.heap.size, 1, none⟩ = some (.int .i64 d) := by simp
            have qb : Below w.heap.size w (w3.alloc (.cells #[.int .i64 n, .int .i64 d] 25)) := by repeat (first | (with_reducible assumption) | (exact bel_undr (by with_reducible assumption)) | (with_reducible exact bel_refl _) | (with_reducible refine bel_dr ?_) | (with_reducible refine bel_drN ?_ _) | (with_reducible refine bel_al ?_ _) | (refine bel_set ?_ (by first | (simp; done) | (simp; exact Below.size (by assumption)) | (simp; omega)) _) | (with_reducible refine bel_tr ?_ (by assumption)))
            go_wp2_with fail
            generalize (w3.alloc (.cells #[.int .i64 n, .int .i64 d] 25)) = v3 at *
            generalize w3.heap.size = B3 at *
            go_wp2_with fail
            refine (fi_val E4.out E5.out E6.out _).mono ?_
            rintro e4 w4 ⟨rfl, b4⟩
            have q0 := keep_tr q0 b4
            have q1 := keep_tr q1 b4
            have q2 := keep_tr q2 b4
            have q3 := keep_tr q3 b4
            have q0 := keep_al q0 (.cells #[.int .i64 n2, .int .i64 d2] 25)
            have q1 := keep_al q1 (.cells #[.int .i64 n2, .int .i64 d2] 25)
            have q2 := keep_al q2 (.cells #[.int .i64 n2, .int .i64 d2] 25)
            have q3 := keep_al q3 (.cells #[.int .i64 n2, .int .i64 d2] 25)
            have q4 : (w4.alloc (.cells #[.int .i64 n2, .int .i64 d2] 25)).cell? ⟨w4.heap.size, 0, none⟩ = some (.int .i64 n2) := by simp
            have q5 : (w4.alloc (.cells #[.int .i64 n2, .int .i64 d2] 25)).cell? ⟨w4.heap.size, 1, none⟩ = some (.int .i64 d2) := by simp
            have qb : Below w.heap.size w (w4.alloc (.cells #[.int .i64 n2, .int .i64 d2] 25)) := by repeat (first | (with_reducible assumption) | (exact bel_undr (by with_reducible assumption)) | (with_reducible exact bel_refl _) | (with_reducible refine bel_dr ?_) | (with_reducible refine bel_drN ?_ _) | (with_reducible refine bel_al ?_ _) | (refine bel_set ?_ (by first | (simp; done) | (simp; exact Below.size (by assumption)) | (simp; omega)) _) | (with_reducible refine bel_tr ?_ (by assumption)))
            go_wp2_with fail
            generalize (w4.alloc (.cells #[.int .i64 n2, .int .i64 d2] 25)) = v4 at *
            generalize w4.heap.size = B4 at *
            go_wp2_with fail
            refine (rv_val E7.out _).mono ?_
            rintro e5 w5 ⟨rfl, b5⟩
            have q0 := keep_tr q0 b5
            have q1 := keep_tr q1 b5
            have q2 := keep_tr q2 b5
            have q3 := keep_tr q3 b5
            have q4 := keep_tr q4 b5
            have q5 := keep_tr q5 b5
            go_wp2
            go_ret
            exact ⟨rfl, by repeat (first | (with_reducible assumption) | (exact bel_undr (by with_reducible assumption)) | (with_reducible exact bel_refl _) | (with_reducible refine bel_dr ?_) | (with_reducible refine bel_drN ?_ _) | (with_reducible refine bel_al ?_ _) | (refine bel_set ?_ (by first | (simp; done) | (simp; exact Below.size (by assumption)) | (simp; omega)) _) | (with_reducible refine bel_tr ?_ (by assumption)))⟩
          · have z2 : (x == 0) = false := by simpa using hz
            have z1 : (n == 1) = false := by rw [KK]; exact z2
            clear KK hz
            go_wp2_with fail
            refine (fi_val E1.out E2.out E3.out _).mono ?_
            rintro e2 w2 ⟨rfl, b2⟩
            have q0 : (w2.alloc (.cells #[.int .i64 n, .int .i64 d] 25)).cell? ⟨w2.heap.size, 0, none⟩ = some (.int .i64 n) := by simp
            have q1 : (w2.alloc (.cells #[.int .i64 n, .int .i64 d] 25)).cell? ⟨w2.heap.size, 1, none⟩ = some (.int .i64 d) := by simp
            have qb : Below w.heap.size w (w2.alloc (.cells #[.int .i64 n, .int .i64 d] 25)) := by repeat (first | (with_reducible assumption) | (exact bel_undr (by with_reducible assumption)) | (with_reducible exact bel_refl _) | (with_reducible refine bel_dr ?_) | (with_reducible refine bel_drN ?_ _) | (with_reducible refine bel_al ?_ _) | (refine bel_set ?_ (by first | (simp; done) | (simp; exact Below.size (by assumption)) | (simp; omega)) _) | (with_reducible refine bel_tr ?_ (by assumption)))
            go_wp2_with fail
            generalize (w2.alloc (.cells #[.int .i64 n, .int .i64 d] 25)) = v2 at *
            generalize w2.heap.size = B2 at *
            go_wp2_with fail
            refine (sfi_val E1.out E2.out E3.out _).mono ?_
            rintro e3 w3 ⟨rfl, b3⟩
            have q0 := keep_tr q0 b3
            have q1 := keep_tr q1 b3
            have q0 := keep_al q0 (.cells #[.int .i64 n, .int .i64 d] 25)
            have q1 := keep_al q1 (.cells #[.int .i64 n, .int .i64 d] 25)
            have q2 : (w3.alloc (.cells #[.int .i64 n, .int .i64 d] 25)).cell? ⟨w3.heap.size, 0, none⟩ = some (.int .i64 n) := by simp
            have q3 : (w3.alloc (.cells #[.int .i64 n, .int .i64 d] 25)).cell? ⟨w3.heap.size, 1, none⟩ = some (.int .i64 d) := by simp
            have qb : Below w.heap.size w (w3.alloc (.cells #[.int .i64 n, .int .i64 d] 25)) := by repeat (first | (with_reducible assumption) | (exact bel_undr (by with_reducible assumption)) | (with_reducible exact bel_refl _) | (with_reducible refine bel_dr ?_) | (with_reducible refine bel_drN ?_ _) | (with_reducible refine bel_al ?_ _) | (refine bel_set ?_ (by first | (simp; done) | (simp; exact Below.size (by assumption)) | (simp; omega)) _) | (with_reducible refine bel_tr ?_ (by assumption)))
            go_wp2_with fail
            generalize (w3.alloc (.cells #[.int .i64 n, .int .i64 d] 25)) = v3 at *
            generalize w3.heap.size = B3 at *
            go_wp2_with fail
            refine (fi_val E4.out E5.out E6.out _).mono ?_
            rintro e4 w4 ⟨rfl, b4⟩
            have q0 := keep_tr q0 b4
            have q1 := keep_tr q1 b4
            have q2 := keep_tr q2 b4
            have q3 := keep_tr q3 b4
            have q0 := keep_al q0 (.cells #[.int .i64 n2, .int .i64 d2] 25)
            have q1 := keep_al q1 (.cells #[.int .i64 n2, .int .i64 d2] 25)
            have q2 := keep_al q2 (.cells #[.int .i64 n2, .int .i64 d2] 25)
            have q3 := keep_al q3 (.cells #[.int .i64 n2, .int .i64 d2] 25)
            have q4 : (w4.alloc (.cells #[.int .i64 n2, .int .i64 d2] 25)).cell? ⟨w4.heap.size, 0, none⟩ = some (.int .i64 n2) := by simp
            have q5 : (w4.alloc (.cells #[.int .i64 n2, .int .i64 d2] 25)).cell? ⟨w4.heap.size, 1, none⟩ = some (.int .i64 d2) := by simp
            have qb : Below w.heap.size w (w4.alloc (.cells #[.int .i64 n2, .int .i64 d2] 25)) := by repeat (first | (with_reducible assumption) | (exact bel_undr (by with_reducible assumption)) | (with_reducible exact bel_refl _) | (with_reducible refine bel_dr ?_) | (with_reducible refine bel_drN ?_ _) | (with_reducible refine bel_al ?_ _) | (refine bel_set ?_ (by first | (simp; done) | (simp; exact Below.size (by assumption)) | (simp; omega)) _) | (with_reducible refine bel_tr ?_ (by assumption)))
            go_wp2_with fail
            generalize (w4.alloc (.cells #[.int .i64 n2, .int .i64 d2] 25)) = v4 at *
            generalize w4.heap.size = B4 at *
            go_wp2_with fail
            refine (rv_val E7.out _).mono ?_
            rintro e5 w5 ⟨rfl, b5⟩
            have q0 := keep_tr q0 b5
            have q1 := keep_tr q1 b5
            have q2 := keep_tr q2 b5
            have q3 := keep_tr q3 b5
            have q4 := keep_tr q4 b5
            have q5 := keep_tr q5 b5
            go_wp2
            go_ret
            exact ⟨rfl, by repeat (first | (with_reducible assumption) | (exact bel_undr (by with_reducible assumption)) | (with_reducible exact bel_refl _) | (with_reducible refine bel_dr ?_) | (with_reducible refine bel_drN ?_ _) | (with_reducible refine bel_al ?_ _) | (refine bel_set ?_ (by first | (simp; done) | (simp; exact Below.size (by assumption)) | (simp; omega)) _) | (with_reducible refine bel_tr ?_ (by assumption)))⟩
    · have E3 := Lib.hid (show fiB x = false by unfold fiB; exact decide_eq_false hx)
      have hx2 : x < -12 ∨ 12 < x := by omega
      clear hx
      generalize hn : fiN x = n
      generalize hd : fiD x = d
      have E1 := Lib.hid hn
      have E2 := Lib.hid hd
      clear hn hd
      rcases hx2 with hx2 | hx2
      · go_wp2_with fail
        refine (fi_val E1.out E2.out E3.out _).mono ?_
        rintro e2 w2 ⟨rfl, b2⟩
        have q0 : (w2.alloc (.cells #[.int .i64 n, .int .i64 d] 25)).cell? ⟨w2.heap.size, 0, none⟩ = some (.int .i64 n) := by simp
        have q1 : (w2.alloc (.cells #[.int .i64 n, .int .i64 d] 25)).cell? ⟨w2.heap.size, 1, none⟩ = some (.int .i64 d) := by simp
        have qb : Below w.heap.size w (w2.alloc (.cells #[.int .i64 n, .int .i64 d] 25)) := by repeat (first | (with_reducible assumption) | (exact bel_undr (by with_reducible assumption)) | (with_reducible exact bel_refl _) | (with_reducible refine bel_dr ?_) | (with_reducible refine bel_drN ?_ _) | (with_reducible refine bel_al ?_ _) | (refine bel_set ?_ (by first | (simp; done) | (simp; exact Below.size (by assumption)) | (simp; omega)) _) | (with_reducible refine bel_tr ?_ (by assumption)))
        go_wp2_with fail
        generalize (w2.alloc (.cells #[.int .i64 n, .int .i64 d] 25)) = v2 at *
        generalize w2.heap.size = B2 at *
        go_wp2_with fail
        refine (sfi_val E1.out E2.out E3.out _).mono ?_
        rintro e3 w3 ⟨rfl, b3⟩
        have q0 := keep_tr q0 b3
        have q1 := keep_tr q1 b3
        have q0 := keep_al q0 (.cells #[.int .i64 n, .int .i64 d] 25)
        have q1 := keep_al q1 (.cells #[.int .i64 n, .int .i64 d] 25)
        have q2 : (w3.alloc (.cells #[.int .i64 n, .int .i64 d] 25)).cell? ⟨w3.heap.size, 0, none⟩ = some (.int .i64 n) := by simp
        have q3 : (w3.alloc (.cells #[.int .i64 n, .int .i64 d] 25)).cell? ⟨w3.heap.size, 1, none⟩ = some (.int .i64 d) := by simp
        have qb : Below w.heap.size w (w3.alloc (.cells #[.int .i64 n, .int .i64 d] 25)) := by repeat (first | (with_reducible assumption) | (exact bel_undr (by with_reducible assumption)) | (with_reducible exact bel_refl _) | (with_reducible refine bel_dr ?_) | (with_reducible refine bel_drN ?_ _) | (with_reducible refine bel_al ?_ _) | (refine bel_set ?_ (by first | (simp; done) | (simp; exact Below.size (by assumption)) | (simp; omega)) _) | (with_reducible refine bel_tr ?_ (by assumption)))
        go_wp2_with fail
        generalize (w3.alloc (.cells #[.int .i64 n, .int .i64 d] 25)) = v3 at *
        generalize w3.heap.size = B3 at *
        go_wp2_with fail
        refine (alive_any _).mono ?_
        rintro e4 w4 ⟨rfl, b4⟩
        have q0 := keep_tr q0 b4
        have q1 := keep_tr q1 b4
        have q2 := keep_tr q2 b4
        have q3 := keep_tr q3 b4
        go_wp2
        go_ret
        exact ⟨rfl, by repeat (first | (with_reducible assumption) | (exact bel_undr (by with_reducible assumption)) | (with_reducible exact bel_refl _) | (with_reducible refine bel_dr ?_) | (with_reducible refine bel_drN ?_ _) | (with_reducible refine bel_al ?_ _) | (refine bel_set ?_ (by first | (simp; done) | (simp; exact Below.size (by assumption)) | (simp; omega)) _) | (with_reducible refine bel_tr ?_ (by assumption)))⟩
      · have hx3 : ¬ x < -12 := by omega
        go_wp2_with fail
        refine (fi_val E1.out E2.out E3.out _).mono ?_
        rintro e2 w2 ⟨rfl, b2⟩
        have q0 : (w2.alloc (.cells #[.int .i64 n, .int .i64 d] 25)).cell? ⟨w2.heap.size, 0, none⟩ = some (.int .i64 n) := by simp
        have q1 : (w2.alloc (.cells #[.int .i64 n, .int .i64 d] 25)).cell? ⟨w2.heap.size, 1, none⟩ = some (.int .i64 d) := by simp
        have qb : Below w.heap.size w (w2.alloc (.cells #[.int .i64 n, .int .i64 d] 25)) := by repeat (first | (with_reducible assumption) | (exact bel_undr (by with_reducible assumption)) | (with_reducible exact bel_refl _) | (with_reducible refine bel_dr ?_) | (with_reducible refine bel_drN ?_ _) | (with_reducible refine bel_al ?_ _) | (refine bel_set ?_ (by first | (simp; done) | (simp; exact Below.size (by assumption)) | (simp; omega)) _) | (with_reducible refine bel_tr ?_ (by assumption)))
        go_wp2_with fail
        generalize (w2.alloc (.cells #[.int .i64 n, .int .i64 d] 25)) = v2 at *
        generalize w2.heap.size = B2 at *
        go_wp2_with fail
        refine (sfi_val E1.out E2.out E3.out _).mono ?_
        rintro e3 w3 ⟨rfl, b3⟩
        have q0 := keep_tr q0 b3
        have q1 := keep_tr q1 b3
        have q0 := keep_al q0 (.cells #[.int .i64 n, .int .i64 d] 25)
        have q1 := keep_al q1 (.cells #[.int .i64 n, .int .i64 d] 25)
        have q2 : (w3.alloc (.cells #[.int .i64 n, .int .i64 d] 25)).cell? ⟨w3.heap.size, 0, none⟩ = some (.int .i64 n) := by simp
        have q3 : (w3.alloc (.cells #[.int .i64 n, .int .i64 d] 25)).cell? ⟨w3.heap.size, 1, none⟩ = some (.int .i64 d) := by simp
        have qb : Below w.heap.size w (w3.alloc (.cells #[.int .i64 n, .int .i64 d] 25)) := by repeat (first | (with_reducible assumption) | (exact bel_undr (by with_reducible assumption)) | (with_reducible exact bel_refl _) | (with_reducible refine bel_dr ?_) | (with_reducible refine bel_drN ?_ _) | (with_reducible refine bel_al ?_ _) | (refine bel_set ?_ (by first | (simp; done) | (simp; exact Below.size (by assumption)) | (simp; omega)) _) | (with_reducible refine bel_tr ?_ (by assumption)))
        go_wp2_with fail
        generalize (w3.alloc (.cells #[.int .i64 n, .int .i64 d] 25)) = v3 at *
        generalize w3.heap.size = B3 at *
        go_wp2_with fail
        refine (alive_any _).mono ?_
        rintro e4 w4 ⟨rfl, b4⟩
        have q0 := keep_tr q0 b4
        have q1 := keep_tr q1 b4
        have q2 := keep_tr q2 b4
        have q3 := keep_tr q3 b4
        go_wp2
        go_ret
        exact ⟨rfl, by repeat (first | (with_reducible assumption) | (exact bel_undr (by with_reducible assumption)) | (with_reducible exact bel_refl _) | (with_reducible refine bel_dr ?_) | (with_reducible refine bel_drN ?_ _) | (with_reducible refine bel_al ?_ _) | (refine bel_set ?_ (by first | (simp; done) | (simp; exact Below.size (by assumption)) | (simp; omega)) _) | (with_reducible refine bel_tr ?_ (by assumption)))⟩
  · have hl2 : (1048576 : Int) < (len : Int) := by omega
    go_enter Try.func9, Try.ntmps9
    go_wp2
    go_ret
    exact ⟨rfl, bel_refl _⟩

end Go.Proofs.Ytclbgndpdbfedaa.FnFifthsRatio
