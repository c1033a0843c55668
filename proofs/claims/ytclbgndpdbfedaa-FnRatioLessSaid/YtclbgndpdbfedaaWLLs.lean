/- The walk of the law FnRatioLess: for every input it returns true and turns nothing that was there. -/
import Derived.Test.YtclbgndpdbfedaaVal
namespace Go.Proofs.Ytclbgndpdbfedaa.FnRatioLess
open Go.RowKit

theorem G_comm (a b : Int) : G a b = G b a := by unfold G; rw [Nat.gcd_comm]
theorem rvB_swap {n d : Int} (h : rvB n d = true) : rvB d n = true := by
  obtain ⟨a, b, c, e, f⟩ := rvB_bd h
  unfold rvB; exact decide_eq_true ⟨c, e, a, b, by rw [G_comm]; exact f⟩
theorem cross {a b c d : Int} (h1 : rvB a b = true) (h2 : rvB c d = true) (h : a * d = c * b) : a = c ∧ b = d := by
  obtain ⟨a0, _, b0, _, g1⟩ := rvB_bd h1
  obtain ⟨c0, _, d0, _, g2⟩ := rvB_bd h2
  unfold G at g1 g2
  have g1 : Nat.gcd a.toNat b.toNat = 1 := by omega
  have g2 : Nat.gcd c.toNat d.toNat = 1 := by omega
  obtain ⟨a, rfl⟩ := Int.eq_ofNat_of_zero_le (show 0 ≤ a by omega)
  obtain ⟨b, rfl⟩ := Int.eq_ofNat_of_zero_le (show 0 ≤ b by omega)
  obtain ⟨c, rfl⟩ := Int.eq_ofNat_of_zero_le (show 0 ≤ c by omega)
  obtain ⟨d, rfl⟩ := Int.eq_ofNat_of_zero_le (show 0 ≤ d by omega)
  simp only [Int.toNat_natCast] at g1 g2
  have h' : a * d = c * b := by exact_mod_cast h
  have d1 : a ∣ c := Nat.Coprime.dvd_of_dvd_mul_right (n := b) g1 ⟨d, h'.symm⟩
  have d2 : c ∣ a := Nat.Coprime.dvd_of_dvd_mul_right (n := d) g2 ⟨b, h'⟩
  have e : a = c := Nat.dvd_antisymm d1 d2
  subst e
  have : b = d := by have := Nat.eq_of_mul_eq_mul_left (show 0 < a by omega) h'; omega
  exact ⟨rfl, by rw [this]⟩
theorem ls_of {a b c d : Int} (h1 : rvB a b = true) (h2 : rvB c d = true) : lsB a b c d = decide (a * d < c * b) := by unfold lsB; rw [h1, h2]; rfl
theorem back_of {n d : Int} (h : rvB n d = true) : backN n d = d ∧ backD n d = n := by simp [backN, backD, h]

set_option maxHeartbeats 4000000 in
theorem walk (A : Option Addr) (len cap : Nat) (w : World) (h : Cod w A len cap) :
    Calls Try.prog 13 #[.slice A len cap] w fun e w' => e = .returned (.bool true) ∧ Below w.heap.size w w' := by
  by_cases hl : len ≤ 1048576
  · go_enter Try.func13, Try.ntmps13
    go_wp2_with fail
    refine (DrawRatioLess_any w A len cap h).mono ?_
    rintro e1 w1 ⟨a, b, c, d, rfl, _, _, b1⟩
    cases hv : rvB a b
    · have EL := Lib.hid (show lsB a b c d = false by unfold lsB; rw [hv]; rfl)
      have E1 := Lib.hid hv
      clear hv
      have q0 : ((w1.alloc (.cells #[.int .i64 a, .int .i64 b] 25)).alloc (.cells #[.int .i64 c, .int .i64 d] 25)).cell? ⟨w1.heap.size, 0, none⟩ = some (.int .i64 a) := keep_al (by simp) _
      have q1 : ((w1.alloc (.cells #[.int .i64 a, .int .i64 b] 25)).alloc (.cells #[.int .i64 c, .int .i64 d] 25)).cell? ⟨w1.heap.size, 1, none⟩ = some (.int .i64 b) := keep_al (by simp) _
      have q2 : ((w1.alloc (.cells #[.int .i64 a, .int .i64 b] 25)).alloc (.cells #[.int .i64 c, .int .i64 d] 25)).cell? ⟨(w1.heap.size + 1), 0, none⟩ = some (.int .i64 c) := by simp
      have q3 : ((w1.alloc (.cells #[.int .i64 a, .int .i64 b] 25)).alloc (.cells #[.int .i64 c, .int .i64 d] 25)).cell? ⟨(w1.heap.size + 1), 1, none⟩ = some (.int .i64 d) := by simp
      have qb : Below w.heap.size w ((w1.alloc (.cells #[.int .i64 a, .int .i64 b] 25)).alloc (.cells #[.int .i64 c, .int .i64 d] 25)) := by repeat (first | (with_reducible assumption) | (exact bel_undr (by with_reducible assumption)) | (with_reducible exact bel_refl _) | (with_reducible refine bel_dr ?_) | (with_reducible refine bel_drN ?_ _) | (with_reducible refine bel_al ?_ _) | (refine bel_set ?_ (by first | (simp; done) | (simp; exact Below.size (by assumption)) | (simp; omega)) _) | (with_reducible refine bel_tr ?_ (by assumption)))
      go_wp2_with fail
      generalize ((w1.alloc (.cells #[.int .i64 a, .int .i64 b] 25)).alloc (.cells #[.int .i64 c, .int .i64 d] 25)) = v1 at *
      generalize w1.heap.size + 1 = C1 at *
      generalize w1.heap.size = B1 at *
      go_wp2_with fail
      refine (ls_val EL.out _).mono ?_
      rintro e2 w2 ⟨rfl, b2⟩
      have q0 := keep_tr q0 b2
      have q1 := keep_tr q1 b2
      have q2 := keep_tr q2 b2
      have q3 := keep_tr q3 b2
      go_wp2_with fail
      refine (sls_val EL.out _).mono ?_
      rintro e3 w3 ⟨rfl, b3⟩
      have q0 := keep_tr q0 b3
      have q1 := keep_tr q1 b3
      have q2 := keep_tr q2 b3
      have q3 := keep_tr q3 b3
      go_wp2_with fail
      refine (srv_val E1.out _).mono ?_
      rintro e4 w4 ⟨rfl, b4⟩
      have q0 := keep_tr q0 b4
      have q1 := keep_tr q1 b4
      have q2 := keep_tr q2 b4
      have q3 := keep_tr q3 b4
      go_wp2_with fail
      refine (alive_any _).mono ?_
      rintro e6 w6 ⟨rfl, b6⟩
      have q0 := keep_tr q0 b6
      have q1 := keep_tr q1 b6
      have q2 := keep_tr q2 b6
      have q3 := keep_tr q3 b6
      go_wp2
      go_ret
      exact ⟨rfl, by repeat (first | (with_reducible assumption) | (exact bel_undr (by with_reducible assumption)) | (with_reducible exact bel_refl _) | (with_reducible refine bel_dr ?_) | (with_reducible refine bel_drN ?_ _) | (with_reducible refine bel_al ?_ _) | (refine bel_set ?_ (by first | (simp; done) | (simp; exact Below.size (by assumption)) | (simp; omega)) _) | (with_reducible refine bel_tr ?_ (by assumption)))⟩
    · cases hu : rvB c d
      · have EL := Lib.hid (show lsB a b c d = false by unfold lsB; rw [hv, hu]; rfl)
        have E1 := Lib.hid hv
        have E2 := Lib.hid hu
        clear hv hu
        have q0 : ((w1.alloc (.cells #[.int .i64 a, .int .i64 b] 25)).alloc (.cells #[.int .i64 c, .int .i64 d] 25)).cell? ⟨w1.heap.size, 0, none⟩ = some (.int .i64 a) := keep_al (by simp) _
        have q1 : ((w1.alloc (.cells #[.int .i64 a, .int .i64 b] 25)).alloc (.cells #[.int .i64 c, .int .i64 d] 25)).cell? ⟨w1.heap.size, 1, none⟩ = some (.int .i64 b) := keep_al (by simp) _
        have q2 : ((w1.alloc (.cells #[.int .i64 a, .int .i64 b] 25)).alloc (.cells #[.int .i64 c, .int .i64 d] 25)).cell? ⟨(w1.heap.size + 1), 0, none⟩ = some (.int .i64 c) := by simp
        have q3 : ((w1.alloc (.cells #[.int .i64 a, .int .i64 b] 25)).alloc (.cells #[.int .i64 c, .int .i64 d] 25)).cell? ⟨(w1.heap.size + 1), 1, none⟩ = some (.int .i64 d) := by simp
        have qb : Below w.heap.size w ((w1.alloc (.cells #[.int .i64 a, .int .i64 b] 25)).alloc (.cells #[.int .i64 c, .int .i64 d] 25)) := by repeat (first | (with_reducible assumption) | (exact bel_undr (by with_reducible assumption)) | (with_reducible exact bel_refl _) | (with_reducible refine bel_dr ?_) | (with_reducible refine bel_drN ?_ _) | (with_reducible refine bel_al ?_ _) | (refine bel_set ?_ (by first | (simp; done) | (simp; exact Below.size (by assumption)) | (simp; omega)) _) | (with_reducible refine bel_tr ?_ (by assumption)))
        go_wp2_with fail
        generalize ((w1.alloc (.cells #[.int .i64 a, .int .i64 b] 25)).alloc (.cells #[.int .i64 c, .int .i64 d] 25)) = v1 at *
        generalize w1.heap.size + 1 = C1 at *
        generalize w1.heap.size = B1 at *
        go_wp2_with fail
        refine (ls_val EL.out _).mono ?_
        rintro e2 w2 ⟨rfl, b2⟩
        have q0 := keep_tr q0 b2
        have q1 := keep_tr q1 b2
        have q2 := keep_tr q2 b2
        have q3 := keep_tr q3 b2
        go_wp2_with fail
        refine (sls_val EL.out _).mono ?_
        rintro e3 w3 ⟨rfl, b3⟩
        have q0 := keep_tr q0 b3
        have q1 := keep_tr q1 b3
        have q2 := keep_tr q2 b3
        have q3 := keep_tr q3 b3
        go_wp2_with fail
        refine (srv_val E1.out _).mono ?_
        rintro e4 w4 ⟨rfl, b4⟩
        have q0 := keep_tr q0 b4
        have q1 := keep_tr q1 b4
        have q2 := keep_tr q2 b4
        have q3 := keep_tr q3 b4
        go_wp2_with fail
        refine (srv_val E2.out _).mono ?_
        rintro e5 w5 ⟨rfl, b5⟩
        have q0 := keep_tr q0 b5
        have q1 := keep_tr q1 b5
        have q2 := keep_tr q2 b5
        have q3 := keep_tr q3 b5
        go_wp2_with fail
        refine (alive_any _).mono ?_
        rintro e6 w6 ⟨rfl, b6⟩
        have q0 := keep_tr q0 b6
        have q1 := keep_tr q1 b6
        have q2 := keep_tr q2 b6
        have q3 := keep_tr q3 b6
        go_wp2
        go_ret
        exact ⟨rfl, by repeat (first | (with_reducible assumption) | (exact bel_undr (by with_reducible assumption)) | (with_reducible exact bel_refl _) | (with_reducible refine bel_dr ?_) | (with_reducible refine bel_drN ?_ _) | (with_reducible refine bel_al ?_ _) | (refine bel_set ?_ (by first | (simp; done) | (simp; exact Below.size (by assumption)) | (simp; omega)) _) | (with_reducible refine bel_tr ?_ (by assumption)))⟩
      · obtain ⟨a0, a1, b0, b1', _⟩ := rvB_bd hv
        obtain ⟨c0, c1, d0, d1', _⟩ := rvB_bd hu
        have hl1 := ls_of hv hu
        have hl2 := ls_of hu hv
        have hl3 := ls_of (rvB_swap hu) (rvB_swap hv)
        have hcr := cross hv hu
        have E1 := Lib.hid hv
        have E2 := Lib.hid hu
        have K1 := Lib.hid (back_of hv).1
        have K2 := Lib.hid (back_of hv).2
        have K3 := Lib.hid (back_of hu).1
        have K4 := Lib.hid (back_of hu).2
        have m1 : d * a = a * d := Int.mul_comm _ _
        have m2 : b * c = c * b := Int.mul_comm _ _
        rcases Int.lt_trichotomy (a * d) (c * b) with q | q | q
        · have L1 := Lib.hid (hl1.trans (decide_eq_true q))
          have L3 := Lib.hid (hl3.trans (decide_eq_true (by rw [m1, m2]; exact q)))
          have ne : (a == c) = false ∨ (b == d) = false := by
            by_cases e : a = c
            · right
              have : b ≠ d := by rintro rfl; subst e; exact absurd q (Int.lt_irrefl _)
              simpa using this
            · left; simpa using e
          clear hl1 hl2 hl3 hcr m1 m2 q hv hu
          rcases ne with ne | ne
          · have q0 : ((w1.alloc (.cells #[.int .i64 a, .int .i64 b] 25)).alloc (.cells #[.int .i64 c, .int .i64 d] 25)).cell? ⟨w1.heap.size, 0, none⟩ = some (.int .i64 a) := keep_al (by simp) _
            have q1 : ((w1.alloc (.cells #[.int .i64 a, .int .i64 b] 25)).alloc (.cells #[.int .i64 c, .int .i64 d] 25)).cell? ⟨w1.heap.size, 1, none⟩ = some (.int .i64 b) := keep_al (by simp) _
            have q2 : ((w1.alloc (.cells #[.int .i64 a, .int .i64 b] 25)).alloc (.cells #[.int .i64 c, .int .i64 d] 25)).cell? ⟨(w1.heap.size + 1), 0, none⟩ = some (.int .i64 c) := by simp
            have q3 : ((w1.alloc (.cells #[.int .i64 a, .int .i64 b] 25)).alloc (.cells #[.int .i64 c, .int .i64 d] 25)).cell? ⟨(w1.heap.size + 1), 1, none⟩ = some (.int .i64 d) := by simp
            have qb : Below w.heap.size w ((w1.alloc (.cells #[.int .i64 a, .int .i64 b] 25)).alloc (.cells #[.int .i64 c, .int .i64 d] 25)) := by repeat (first | (with_reducible assumption) | (exact bel_undr (by with_reducible assumption)) | (with_reducible exact bel_refl _) | (with_reducible refine bel_dr ?_) | (with_reducible refine bel_drN ?_ _) | (with_reducible refine bel_al ?_ _) | (refine bel_set ?_ (by first | (simp; done) | (simp; exact Below.size (by assumption)) | (simp; omega)) _) | (with_reducible refine bel_tr ?_ (by assumption)))
            go_wp2_with fail
            generalize ((w1.alloc (.cells #[.int .i64 a, .int .i64 b] 25)).alloc (.cells #[.int .i64 c, .int .i64 d] 25)) = v1 at *
            generalize w1.heap.size + 1 = C1 at *
            generalize w1.heap.size = B1 at *
            go_wp2_with fail
            refine (ls_val L1.out _).mono ?_
            rintro e2 w2 ⟨rfl, b2⟩
            have q0 := keep_tr q0 b2
            have q1 := keep_tr q1 b2
            have q2 := keep_tr q2 b2
            have q3 := keep_tr q3 b2
            go_wp2_with fail
            refine (sls_val L1.out _).mono ?_
            rintro e3 w3 ⟨rfl, b3⟩
            have q0 := keep_tr q0 b3
            have q1 := keep_tr q1 b3
            have q2 := keep_tr q2 b3
            have q3 := keep_tr q3 b3
            go_wp2_with fail
            refine (srv_val E1.out _).mono ?_
            rintro e4 w4 ⟨rfl, b4⟩
            have q0 := keep_tr q0 b4
            have q1 := keep_tr q1 b4
            have q2 := keep_tr q2 b4
            have q3 := keep_tr q3 b4
            go_wp2_with fail
            refine (srv_val E2.out _).mono ?_
            rintro e5 w5 ⟨rfl, b5⟩
            have q0 := keep_tr q0 b5
            have q1 := keep_tr q1 b5
            have q2 := keep_tr q2 b5
            have q3 := keep_tr q3 b5
            go_wp2_with fail
            have lf0 : ∀ x : Later w5, x.world.cell? ⟨B1, 0, none⟩ = some (.int .i64 a) := fun x => x.at (q0)
            have lf1 : ∀ x : Later w5, x.world.cell? ⟨B1, 1, none⟩ = some (.int .i64 b) := fun x => x.at (q1)
            have lf2 : ∀ x : Later w5, x.world.cell? ⟨C1, 0, none⟩ = some (.int .i64 c) := fun x => x.at (q2)
            have lf3 : ∀ x : Later w5, x.world.cell? ⟨C1, 1, none⟩ = some (.int .i64 d) := fun x => x.at (q3)
            refine region_later (w0 := w5) (by kernel_rfl) (by kernel_rfl) (bel_refl _) ?_
            repeat (go_big_quiet_step ((first | (go_at_call 20; with_reducible exact later_call (ls_val L3.out _)) | (go_at_call 22; with_reducible exact later_call (back_val _ _ _ _ _ K1.out K2.out)) | (go_at_call 22; with_reducible exact later_call (back_val _ _ _ _ _ K3.out K4.out)))))
            refine wpQuiet_nil ?_
            rintro w' ⟨x, rfl⟩
            obtain ⟨w6, b6⟩ := x
            clear lf0 lf1 lf2 lf3
            go_wp2
            go_ret
            exact ⟨rfl, by repeat (first | (with_reducible assumption) | (exact bel_undr (by with_reducible assumption)) | (with_reducible exact bel_refl _) | (with_reducible refine bel_dr ?_) | (with_reducible refine bel_drN ?_ _) | (with_reducible refine bel_al ?_ _) | (refine bel_set ?_ (by first | (simp; done) | (simp; exact Below.size (by assumption)) | (simp; omega)) _) | (with_reducible refine bel_tr ?_ (by assumption)))⟩
          · have q0 : ((w1.alloc (.cells #[.int .i64 a, .int .i64 b] 25)).alloc (.cells #[.int .i64 c, .int .i64 d] 25)).cell? ⟨w1.heap.size, 0, none⟩ = some (.int .i64 a) := keep_al (by simp) _
            have q1 : ((w1.alloc (.cells #[.int .i64 a, .int .i64 b] 25)).alloc (.cells #[.int .i64 c, .int .i64 d] 25)).cell? ⟨w1.heap.size, 1, none⟩ = some (.int .i64 b) := keep_al (by simp) _
            have q2 : ((w1.alloc (.cells #[.int .i64 a, .int .i64 b] 25)).alloc (.cells #[.int .i64 c, .int .i64 d] 25)).cell? ⟨(w1.heap.size + 1), 0, none⟩ = some (.int .i64 c) := by simp
            have q3 : ((w1.alloc (.cells #[.int .i64 a, .int .i64 b] 25)).alloc (.cells #[.int .i64 c, .int .i64 d] 25)).cell? ⟨(w1.heap.size + 1), 1, none⟩ = some (.int .i64 d) := by simp
            have qb : Below w.heap.size w ((w1.alloc (.cells #[.int .i64 a, .int .i64 b] 25)).alloc (.cells #[.int .i64 c, .int .i64 d] 25)) := by repeat (first | (with_reducible assumption) | (exact bel_undr (by with_reducible assumption)) | (with_reducible exact bel_refl _) | (with_reducible refine bel_dr ?_) | (with_reducible refine bel_drN ?_ _) | (with_reducible refine bel_al ?_ _) | (refine bel_set ?_ (by first | (simp; done) | (simp; exact Below.size (by assumption)) | (simp; omega)) _) | (with_reducible refine bel_tr ?_ (by assumption)))
            go_wp2_with fail
            generalize ((w1.alloc (.cells #[.int .i64 a, .int .i64 b] 25)).alloc (.cells #[.int .i64 c, .int .i64 d] 25)) = v1 at *
            generalize w1.heap.size + 1 = C1 at *
            generalize w1.heap.size = B1 at *
            go_wp2_with fail
            refine (ls_val L1.out _).mono ?_
            rintro e2 w2 ⟨rfl, b2⟩
            have q0 := keep_tr q0 b2
            have q1 := keep_tr q1 b2
            have q2 := keep_tr q2 b2
            have q3 := keep_tr q3 b2
            go_wp2_with fail
            refine (sls_val L1.out _).mono ?_
            rintro e3 w3 ⟨rfl, b3⟩
            have q0 := keep_tr q0 b3
            have q1 := keep_tr q1 b3
            have q2 := keep_tr q2 b3
            have q3 := keep_tr q3 b3
            go_wp2_with fail
            refine (srv_val E1.out _).mono ?_
            rintro e4 w4 ⟨rfl, b4⟩
            have q0 := keep_tr q0 b4
            have q1 := keep_tr q1 b4
            have q2 := keep_tr q2 b4
            have q3 := keep_tr q3 b4
            go_wp2_with fail
            refine (srv_val E2.out _).mono ?_
            rintro e5 w5 ⟨rfl, b5⟩
            have q0 := keep_tr q0 b5
            have q1 := keep_tr q1 b5
            have q2 := keep_tr q2 b5
            have q3 := keep_tr q3 b5
            go_wp2_with fail
            have lf0 : ∀ x : Later w5, x.world.cell? ⟨B1, 0, none⟩ = some (.int .i64 a) := fun x => x.at (q0)
            have lf1 : ∀ x : Later w5, x.world.cell? ⟨B1, 1, none⟩ = some (.int .i64 b) := fun x => x.at (q1)
            have lf2 : ∀ x : Later w5, x.world.cell? ⟨C1, 0, none⟩ = some (.int .i64 c) := fun x => x.at (q2)
            have lf3 : ∀ x : Later w5, x.world.cell? ⟨C1, 1, none⟩ = some (.int .i64 d) := fun x => x.at (q3)
            refine region_later (w0 := w5) (by kernel_rfl) (by kernel_rfl) (bel_refl _) ?_
            repeat (go_big_quiet_step ((first | (go_at_call 20; with_reducible exact later_call (ls_val L3.out _)) | (go_at_call 22; with_reducible exact later_call (back_val _ _ _ _ _ K1.out K2.out)) | (go_at_call 22; with_reducible exact later_call (back_val _ _ _ _ _ K3.out K4.out)))))
            refine wpQuiet_nil ?_
            rintro w' ⟨x, rfl⟩
            obtain ⟨w6, b6⟩ := x
            clear lf0 lf1 lf2 lf3
            go_wp2
            go_ret
            exact ⟨rfl, by repeat (first | (with_reducible assumption) | (exact bel_undr (by with_reducible assumption)) | (with_reducible exact bel_refl _) | (with_reducible refine bel_dr ?_) | (with_reducible refine bel_drN ?_ _) | (with_reducible refine bel_al ?_ _) | (refine bel_set ?_ (by first | (simp; done) | (simp; exact Below.size (by assumption)) | (simp; omega)) _) | (with_reducible refine bel_tr ?_ (by assumption)))⟩
        · obtain ⟨e1, e2⟩ := hcr q
          subst e1 e2
          have L1 := Lib.hid (hl1.trans (decide_eq_false (Int.lt_irrefl _)))
          have L2 := L1
          have L3 := Lib.hid (hl3.trans (decide_eq_false (Int.lt_irrefl _)))
          clear hl1 hl2 hl3 hcr m1 m2 q hv hu
          have q0 : ((w1.alloc (.cells #[.int .i64 a, .int .i64 b] 25)).alloc (.cells #[.int .i64 a, .int .i64 b] 25)).cell? ⟨w1.heap.size, 0, none⟩ = some (.int .i64 a) := keep_al (by simp) _
          have q1 : ((w1.alloc (.cells #[.int .i64 a, .int .i64 b] 25)).alloc (.cells #[.int .i64 a, .int .i64 b] 25)).cell? ⟨w1.heap.size, 1, none⟩ = some (.int .i64 b) := keep_al (by simp) _
          have q2 : ((w1.alloc (.cells #[.int .i64 a, .int .i64 b] 25)).alloc (.cells #[.int .i64 a, .int .i64 b] 25)).cell? ⟨(w1.heap.size + 1), 0, none⟩ = some (.int .i64 a) := by simp
          have q3 : ((w1.alloc (.cells #[.int .i64 a, .int .i64 b] 25)).alloc (.cells #[.int .i64 a, .int .i64 b] 25)).cell? ⟨(w1.heap.size + 1), 1, none⟩ = some (.int .i64 b) := by simp
          have qb : Below w.heap.size w ((w1.alloc (.cells #[.int .i64 a, .int .i64 b] 25)).alloc (.cells #[.int .i64 a, .int .i64 b] 25)) := by repeat (first | (with_reducible assumption) | (exact bel_undr (by with_reducible assumption)) | (with_reducible exact bel_refl _) | (with_reducible refine bel_dr ?_) | (with_reducible refine bel_drN ?_ _) | (with_reducible refine bel_al ?_ _) | (refine bel_set ?_ (by first | (simp; done) | (simp; exact Below.size (by assumption)) | (simp; omega)) _) | (with_reducible refine bel_tr ?_ (by assumption)))
          go_wp2_with fail
          generalize ((w1.alloc (.cells #[.int .i64 a, .int .i64 b] 25)).alloc (.cells #[.int .i64 a, .int .i64 b] 25)) = v1 at *
          generalize w1.heap.size + 1 = C1 at *
          generalize w1.heap.size = B1 at *
          go_wp2_with fail
          refine (ls_val L1.out _).mono ?_
          rintro e2 w2 ⟨rfl, b2⟩
          have q0 := keep_tr q0 b2
          have q1 := keep_tr q1 b2
          have q2 := keep_tr q2 b2
          have q3 := keep_tr q3 b2
          go_wp2_with fail
          refine (sls_val L1.out _).mono ?_
          rintro e3 w3 ⟨rfl, b3⟩
          have q0 := keep_tr q0 b3
          have q1 := keep_tr q1 b3
          have q2 := keep_tr q2 b3
          have q3 := keep_tr q3 b3
          go_wp2_with fail
          refine (srv_val E1.out _).mono ?_
          rintro e4 w4 ⟨rfl, b4⟩
          have q0 := keep_tr q0 b4
          have q1 := keep_tr q1 b4
          have q2 := keep_tr q2 b4
          have q3 := keep_tr q3 b4
          go_wp2_with fail
          refine (srv_val E2.out _).mono ?_
          rintro e5 w5 ⟨rfl, b5⟩
          have q0 := keep_tr q0 b5
          have q1 := keep_tr q1 b5
          have q2 := keep_tr q2 b5
          have q3 := keep_tr q3 b5
          go_wp2_with fail
          have lf0 : ∀ x : Later w5, x.world.cell? ⟨B1, 0, none⟩ = some (.int .i64 a) := fun x => x.at (q0)
          have lf1 : ∀ x : Later w5, x.world.cell? ⟨B1, 1, none⟩ = some (.int .i64 b) := fun x => x.at (q1)
          have lf2 : ∀ x : Later w5, x.world.cell? ⟨C1, 0, none⟩ = some (.int .i64 a) := fun x => x.at (q2)
          have lf3 : ∀ x : Later w5, x.world.cell? ⟨C1, 1, none⟩ = some (.int .i64 b) := fun x => x.at (q3)
          refine region_later (w0 := w5) (by kernel_rfl) (by kernel_rfl) (bel_refl _) ?_
          repeat (go_big_quiet_step ((first | (go_at_call 20; with_reducible exact later_call (ls_val L3.out _)) | (go_at_call 20; with_reducible exact later_call (ls_val L2.out _)) | (go_at_call 22; with_reducible exact later_call (back_val _ _ _ _ _ K1.out K2.out)))))
          refine wpQuiet_nil ?_
          rintro w' ⟨x, rfl⟩
          obtain ⟨w6, b6⟩ := x
          clear lf0 lf1 lf2 lf3
          go_wp2
          go_ret
          exact ⟨rfl, by repeat (first | (with_reducible assumption) | (exact bel_undr (by with_reducible assumption)) | (with_reducible exact bel_refl _) | (with_reducible refine bel_dr ?_) | (with_reducible refine bel_drN ?_ _) | (with_reducible refine bel_al ?_ _) | (refine bel_set ?_ (by first | (simp; done) | (simp; exact Below.size (by assumption)) | (simp; omega)) _) | (with_reducible refine bel_tr ?_ (by assumption)))⟩
        · have L1 := Lib.hid (hl1.trans (decide_eq_false (by omega)))
          have L2 := Lib.hid (hl2.trans (decide_eq_true q))
          have L3 := Lib.hid (hl3.trans (decide_eq_false (by rw [m1, m2]; omega)))
          have ne : (a == c) = false ∨ (b == d) = false := by
            by_cases e : a = c
            · right
              have : b ≠ d := by rintro rfl; subst e; exact absurd q (Int.lt_irrefl _)
              simpa using this
            · left; simpa using e
          clear hl1 hl2 hl3 hcr m1 m2 q hv hu
          rcases ne with ne | ne
          · have q0 : ((w1.alloc (.cells #[.int .i64 a, .int .i64 b] 25)).alloc (.cells #[.int .i64 c, .int .i64 d] 25)).cell? ⟨w1.heap.size, 0, none⟩ = some (.int .i64 a) := keep_al (by simp) _
            have q1 : ((w1.alloc (.cells #[.int .i64 a, .int .i64 b] 25)).alloc (.cells #[.int .i64 c, .int .i64 d] 25)).cell? ⟨w1.heap.size, 1, none⟩ = some (.int .i64 b) := keep_al (by simp) _
            have q2 : ((w1.alloc (.cells #[.int .i64 a, .int .i64 b] 25)).alloc (.cells #[.int .i64 c, .int .i64 d] 25)).cell? ⟨(w1.heap.size + 1), 0, none⟩ = some (.int .i64 c) := by simp
            have q3 : ((w1.alloc (.cells #[.int .i64 a, .int .i64 b] 25)).alloc (.cells #[.int .i64 c, .int .i64 d] 25)).cell? ⟨(w1.heap.size + 1), 1, none⟩ = some (.int .i64 d) := by simp
            have qb : Below w.heap.size w ((w1.alloc (.cells #[.int .i64 a, .int .i64 b] 25)).alloc (.cells #[.int .i64 c, .int .i64 d] 25)) := by repeat (first | (with_reducible assumption) | (exact bel_undr (by with_reducible assumption)) | (with_reducible exact bel_refl _) | (with_reducible refine bel_dr ?_) | (with_reducible refine bel_drN ?_ _) | (with_reducible refine bel_al ?_ _) | (refine bel_set ?_ (by first | (simp; done) | (simp; exact Below.size (by assumption)) | (simp; omega)) _) | (with_reducible refine bel_tr ?_ (by assumption)))
            go_wp2_with fail
            generalize ((w1.alloc (.cells #[.int .i64 a, .int .i64 b] 25)).alloc (.cells #[.int .i64 c, .int .i64 d] 25)) = v1 at *
            generalize w1.heap.size + 1 = C1 at *
            generalize w1.heap.size = B1 at *
            go_wp2_with fail
            refine (ls_val L1.out _).mono ?_
            rintro e2 w2 ⟨rfl, b2⟩
            have q0 := keep_tr q0 b2
            have q1 := keep_tr q1 b2
            have q2 := keep_tr q2 b2
            have q3 := keep_tr q3 b2
            go_wp2_with fail
            refine (sls_val L1.out _).mono ?_
            rintro e3 w3 ⟨rfl, b3⟩
            have q0 := keep_tr q0 b3
            have q1 := keep_tr q1 b3
            have q2 := keep_tr q2 b3
            have q3 := keep_tr q3 b3
            go_wp2_with fail
            refine (srv_val E1.out _).mono ?_
            rintro e4 w4 ⟨rfl, b4⟩
            have q0 := keep_tr q0 b4
            have q1 := keep_tr q1 b4
            have q2 := keep_tr q2 b4
            have q3 := keep_tr q3 b4
            go_wp2_with fail
            refine (srv_val E2.out _).mono ?_
            rintro e5 w5 ⟨rfl, b5⟩
            have q0 := keep_tr q0 b5
            have q1 := keep_tr q1 b5
            have q2 := keep_tr q2 b5
            have q3 := keep_tr q3 b5
            go_wp2_with fail
            have lf0 : ∀ x : Later w5, x.world.cell? ⟨B1, 0, none⟩ = some (.int .i64 a) := fun x => x.at (q0)
            have lf1 : ∀ x : Later w5, x.world.cell? ⟨B1, 1, none⟩ = some (.int .i64 b) := fun x => x.at (q1)
            have lf2 : ∀ x : Later w5, x.world.cell? ⟨C1, 0, none⟩ = some (.int .i64 c) := fun x => x.at (q2)
            have lf3 : ∀ x : Later w5, x.world.cell? ⟨C1, 1, none⟩ = some (.int .i64 d) := fun x => x.at (q3)
            refine region_later (w0 := w5) (by kernel_rfl) (by kernel_rfl) (bel_refl _) ?_
            repeat (go_big_quiet_step ((first | (go_at_call 20; with_reducible exact later_call (ls_val L3.out _)) | (go_at_call 20; with_reducible exact later_call (ls_val L2.out _)) | (go_at_call 22; with_reducible exact later_call (back_val _ _ _ _ _ K1.out K2.out)) | (go_at_call 22; with_reducible exact later_call (back_val _ _ _ _ _ K3.out K4.out)))))
            refine wpQuiet_nil ?_
            rintro w' ⟨x, rfl⟩
            obtain ⟨w6, b6⟩ := x
            clear lf0 lf1 lf2 lf3
            go_wp2
            go_ret
            exact ⟨rfl, by repeat (first | (with_reducible assumption) | (exact bel_undr (by with_reducible assumption)) | (with_reducible exact bel_refl _) | (with_reducible refine bel_dr ?_) | (with_reducible refine bel_drN ?_ _) | (with_reducible refine bel_al ?_ _) | (refine bel_set ?_ (by first | (simp; done) | (simp; exact Below.size (by assumption)) | (simp; omega)) _) | (with_reducible refine bel_tr ?_ (by assumption)))⟩
          · have q0 : ((w1.alloc (.cells #[.int .i64 a, .int .i64 b] 25)).alloc (.cells #[.int .i64 c, .int .i64 d] 25)).cell? ⟨w1.heap.size, 0, none⟩ = some (.int .i64 a) := keep_al (by simp) _
            have q1 : ((w1.alloc (.cells #[.int .i64 a, .int .i64 b] 25)).alloc (.cells #[.int .i64 c, .int .i64 d] 25)).cell? ⟨w1.heap.size, 1, none⟩ = some (.int .i64 b) := keep_al (by simp) _
            have q2 : ((w1.alloc (.cells #[.int .i64 a, .int .i64 b] 25)).alloc (.cells #[.int .i64 c, .int .i64 d] 25)).cell? ⟨(w1.heap.size + 1), 0, none⟩ = some (.int .i64 c) := by simp
            have q3 : ((w1.alloc (.cells #[.int .i64 a, .int .i64 b] 25)).alloc (.cells #[.int .i64 c, .int .i64 d] 25)).cell? ⟨(w1.heap.size + 1), 1, none⟩ = some (.int .i64 d) := by simp
            have qb : Below w.heap.size w ((w1.alloc (.cells #[.int .i64 a, .int .i64 b] 25)).alloc (.cells #[.int .i64 c, .int .i64 d] 25)) := by repeat (first | (with_reducible assumption) | (exact bel_undr (by with_reducible assumption)) | (with_reducible exact bel_refl _) | (with_reducible refine bel_dr ?_) | (with_reducible refine bel_drN ?_ _) | (with_reducible refine bel_al ?_ _) | (refine bel_set ?_ (by first | (simp; done) | (simp; exact Below.size (by assumption)) | (simp; omega)) _) | (with_reducible refine bel_tr ?_ (by assumption)))
            go_wp2_with fail
            generalize ((w1.alloc (.cells #[.int .i64 a, .int .i64 b] 25)).alloc (.cells #[.int .i64 c, .int .i64 d] 25)) = v1 at *
            generalize w1.heap.size + 1 = C1 at *
            generalize w1.heap.size = B1 at *
            go_wp2_with fail
            refine (ls_val L1.out _).mono ?_
            rintro e2 w2 ⟨rfl, b2⟩
            have q0 := keep_tr q0 b2
            have q1 := keep_tr q1 b2
            have q2 := keep_tr q2 b2
            have q3 := keep_tr q3 b2
            go_wp2_with fail
            refine (sls_val L1.out _).mono ?_
            rintro e3 w3 ⟨rfl, b3⟩
            have q0 := keep_tr q0 b3
            have q1 := keep_tr q1 b3
            have q2 := keep_tr q2 b3
            have q3 := keep_tr q3 b3
            go_wp2_with fail
            refine (srv_val E1.out _).mono ?_
            rintro e4 w4 ⟨rfl, b4⟩
            have q0 := keep_tr q0 b4
            have q1 := keep_tr q1 b4
            have q2 := keep_tr q2 b4
            have q3 := keep_tr q3 b4
            go_wp2_with fail
            refine (srv_val E2.out _).mono ?_
            rintro e5 w5 ⟨rfl, b5⟩
            have q0 := keep_tr q0 b5
            have q1 := keep_tr q1 b5
            have q2 := keep_tr q2 b5
            have q3 := keep_tr q3 b5
            go_wp2_with fail
            have lf0 : ∀ x : Later w5, x.world.cell? ⟨B1, 0, none⟩ = some (.int .i64 a) := fun x => x.at (q0)
            have lf1 : ∀ x : Later w5, x.world.cell? ⟨B1, 1, none⟩ = some (.int .i64 b) := fun x => x.at (q1)
            have lf2 : ∀ x : Later w5, x.world.cell? ⟨C1, 0, none⟩ = some (.int .i64 c) := fun x => x.at (q2)
            have lf3 : ∀ x : Later w5, x.world.cell? ⟨C1, 1, none⟩ = some (.int .i64 d) := fun x => x.at (q3)
            refine region_later (w0 := w5) (by kernel_rfl) (by kernel_rfl) (bel_refl _) ?_
            repeat (go_big_quiet_step ((first | (go_at_call 20; with_reducible exact later_call (ls_val L3.out _)) | (go_at_call 20; with_reducible exact later_call (ls_val L2.out _)) | (go_at_call 22; with_reducible exact later_call (back_val _ _ _ _ _ K1.out K2.out)) | (go_at_call 22; with_reducible exact later_call (back_val _ _ _ _ _ K3.out K4.out)))))
            refine wpQuiet_nil ?_
            rintro w' ⟨x, rfl⟩
            obtain ⟨w6, b6⟩ := x
            clear lf0 lf1 lf2 lf3
            go_wp2
            go_ret
            exact ⟨rfl, by repeat (first | (with_reducible assumption) | (exact bel_undr (by with_reducible assumption)) | (with_reducible exact bel_refl _) | (with_reducible refine bel_dr ?_) | (with_reducible refine bel_drN ?_ _) | (with_reducible refine bel_al ?_ _) | (refine bel_set ?_ (by first | (simp; done) | (simp; exact Below.size (by assumption)) | (simp; omega)) _) | (with_reducible refine bel_tr ?_ (by assumption)))⟩
  · have hl2 : (1048576 : Int) < (len : Int) := by omega
    go_enter Try.func13, Try.ntmps13
    go_wp2
    go_ret
    exact ⟨rfl, bel_refl _⟩

end Go.Proofs.Ytclbgndpdbfedaa.FnRatioLess
