/- The walk of the law FnRatioBack: for every input it returns true and turns nothing that was there. -/
import Derived.Test.YtclbgndpdbfedaaDr2
import Derived.Test.YtclbgndpdbfedaaLater
namespace Go.Proofs.Ytclbgndpdbfedaa.FnRatioBack
open Go.RowKit

theorem G_comm (a b : Int) : G a b = G b a := by unfold G; rw [Nat.gcd_comm]
theorem rvB_swap {n d : Int} (h : rvB n d = true) : rvB d n = true := by
  obtain ⟨a, b, c, e, f⟩ := rvB_bd h
  unfold rvB; exact decide_eq_true ⟨c, e, a, b, by rw [G_comm]; exact f⟩
theorem ls_one {n d : Int} (h : rvB n d = true) : (n < d → lsB n d 1 1 = true) ∧ (¬ n < d → lsB n d 1 1 = false) := by
  have h1 : rvB 1 1 = true := by decide +kernel
  unfold lsB
  rw [h, h1]
  refine ⟨fun k => ?_, fun k => ?_⟩ <;> simp <;> omega
theorem one_or {n d : Int} (h : rvB n d = true) : (n = 1 ∧ d = 1 ∧ True) ∨ (n < d ∧ (d == 1) = false ∧ ¬ d < n) ∨ (d < n ∧ (n == 1) = false ∧ ¬ n < d) := by
  obtain ⟨a, b, c, e, f⟩ := rvB_bd h
  by_cases k : n < d
  · exact .inr (.inl ⟨k, by simp; omega, by omega⟩)
  · by_cases k2 : d < n
    · exact .inr (.inr ⟨k2, by simp; omega, by omega⟩)
    · obtain rfl : n = d := by omega
      unfold G at f
      rw [Nat.gcd_self] at f
      exact .inl ⟨by omega, by omega, trivial⟩

theorem srv_val {n d : Int} {v : Bool} (h : rvB n d = v) (w : World) :
    Calls Try.prog 16 #[.agg #[.int .i64 n, .int .i64 d]] w fun e w' => e = .returned (.bool v) ∧ Below w.heap.size w w' := by
  subst h; exact srv_any n d w
theorem ls_val {a b c d : Int} {v : Bool} (h : lsB a b c d = v) (w : World) : Calls Try.prog 20 #[.agg #[.int .i64 a, .int .i64 b], .agg #[.int .i64 c, .int .i64 d]] w fun e w' => e = .returned (.bool v) ∧ Below w.heap.size w w' := by
  subst h; exact ls_any a b c d w

set_option maxHeartbeats 1600000 in
theorem walk (A : Option Addr) (len cap : Nat) (w : World) (h : Cod w A len cap) :
    Calls Try.prog 12 #[.slice A len cap] w fun e w' => e = .returned (.bool true) ∧ Below w.heap.size w w' := by
  by_cases hl : len ≤ 1048576
  · go_enter Try.func12, Try.ntmps12
    go_wp2_with fail
    refine (DrawRatioBack_any w A len cap h).mono ?_
    rintro e1 w1 ⟨n, d, rfl, nd, b1⟩
    obtain ⟨n0, n1, d0, d1⟩ := nd
    go_wp2_with fail
    refine (back_any _ _ _).mono ?_
    rintro e2 w2 ⟨rfl, hb2⟩
    have hz2 := hb2.size
    (try simp at hz2)
    obtain ⟨c2_0, f2_0⟩ := cel hb2 w1.heap.size (by (try simp) <;> omega)
    have l2_0 : w1.heap.size < w2.heap.size := (by omega)
    cases hv : rvB n d
    · have x1 : backN n d = 0 := by simp [backN, hv]
      have x2 : backD n d = 0 := by simp [backD, hv]
      rw [x1, x2]
      have X1 := Lib.hid x1
      have X2 := Lib.hid x2
      clear x1 x2
      have q0 : (w2.alloc (.cells #[.int .i64 0, .int .i64 0] 25)).cell? ⟨w1.heap.size, 0, none⟩ = some (.int .i64 n) := keep_al (by rw [c2_0]; simp) _
      have q1 : (w2.alloc (.cells #[.int .i64 0, .int .i64 0] 25)).cell? ⟨w1.heap.size, 1, none⟩ = some (.int .i64 d) := keep_al (by rw [c2_0]; simp) _
      have q2 : (w2.alloc (.cells #[.int .i64 0, .int .i64 0] 25)).cell? ⟨w2.heap.size, 0, none⟩ = some (.int .i64 0) := by simp
      have q3 : (w2.alloc (.cells #[.int .i64 0, .int .i64 0] 25)).cell? ⟨w2.heap.size, 1, none⟩ = some (.int .i64 0) := by simp
      have qb : Below w.heap.size w (w2.alloc (.cells #[.int .i64 0, .int .i64 0] 25)) := by repeat (first | (with_reducible assumption) | (exact bel_undr (by with_reducible assumption)) | (with_reducible exact bel_refl _) | (with_reducible refine bel_dr ?_) | (with_reducible refine bel_drN ?_ _) | (with_reducible refine bel_al ?_ _) | (refine bel_set ?_ (by first | (simp; done) | (simp; exact Below.size (by assumption)) | (simp; omega)) _) | (with_reducible refine bel_tr ?_ (by assumption)))
      clear c2_0 f2_0
      go_wp2_with fail
      generalize (w2.alloc (.cells #[.int .i64 0, .int .i64 0] 25)) = v2 at *
      have lf0 : ∀ x : Later v2, x.world.cell? ⟨w1.heap.size, 0, none⟩ = some (.int .i64 n) := fun x => x.at (q0)
      have lf1 : ∀ x : Later v2, x.world.cell? ⟨w1.heap.size, 1, none⟩ = some (.int .i64 d) := fun x => x.at (q1)
      have lf2 : ∀ x : Later v2, x.world.cell? ⟨w2.heap.size, 0, none⟩ = some (.int .i64 0) := fun x => x.at (q2)
      have lf3 : ∀ x : Later v2, x.world.cell? ⟨w2.heap.size, 1, none⟩ = some (.int .i64 0) := fun x => x.at (q3)
      refine region_later (w0 := v2) (by kernel_rfl) (by kernel_rfl) (bel_refl _) ?_
      repeat (go_big_quiet_step ((first | (go_at_call 21; with_reducible exact later_call (sback_val _ _ _ _ _ X1.out X2.out)))))
      refine wpQuiet_nil ?_
      rintro w' ⟨x, rfl⟩
      obtain ⟨w3, b3⟩ := x
      clear lf0 lf1 lf2 lf3
      have q0 := keep_tr q0 b3
      have q1 := keep_tr q1 b3
      have q2 := keep_tr q2 b3
      have q3 := keep_tr q3 b3
      go_wp2_with fail
      refine (srv_val hv _).mono ?_
      rintro e4 w4 ⟨rfl, b4⟩
      have HV := Lib.hid hv
      clear hv
      have q0 := keep_tr q0 b4
      have q1 := keep_tr q1 b4
      have q2 := keep_tr q2 b4
      have q3 := keep_tr q3 b4
      have qb : Below w.heap.size w w4 := by repeat (first | (with_reducible assumption) | (exact bel_undr (by with_reducible assumption)) | (with_reducible exact bel_refl _) | (with_reducible refine bel_dr ?_) | (with_reducible refine bel_drN ?_ _) | (with_reducible refine bel_al ?_ _) | (refine bel_set ?_ (by first | (simp; done) | (simp; exact Below.size (by assumption)) | (simp; omega)) _) | (with_reducible refine bel_tr ?_ (by assumption)))
      clear b3 b4
      go_wp2_with fail
      refine (alive_any _).mono ?_
      rintro e5 w5 ⟨rfl, hb5⟩
      have hz5 := hb5.size
      (try simp at hz5)
      go_wp2
      go_ret
      exact ⟨rfl, by repeat (first | (with_reducible assumption) | (exact bel_undr (by with_reducible assumption)) | (with_reducible exact bel_refl _) | (with_reducible refine bel_dr ?_) | (with_reducible refine bel_drN ?_ _) | (with_reducible refine bel_al ?_ _) | (refine bel_set ?_ (by first | (simp; done) | (simp; exact Below.size (by assumption)) | (simp; omega)) _) | (with_reducible refine bel_tr ?_ (by assumption)))⟩
    · have x1 : backN n d = d := by simp [backN, hv]
      have x2 : backD n d = n := by simp [backD, hv]
      rw [x1, x2]
      have X1 := Lib.hid x1
      have X2 := Lib.hid x2
      clear x1 x2
      have hs := rvB_swap hv
      have y1 : backN d n = n := by simp [backN, hs]
      have y2 : backD d n = d := by simp [backD, hs]
      have Y1 := Lib.hid y1
      have Y2 := Lib.hid y2
      clear y1 y2
      obtain ⟨t1, t2⟩ := ls_one hv
      obtain ⟨t3, t4⟩ := ls_one hs
      have tri := one_or hv
      have T1 := Lib.hid t1
      have T2 := Lib.hid t2
      have T3 := Lib.hid t3
      have T4 := Lib.hid t4
      clear t1 t2 t3 t4 hs
      have q0 : (w2.alloc (.cells #[.int .i64 d, .int .i64 n] 25)).cell? ⟨w1.heap.size, 0, none⟩ = some (.int .i64 n) := keep_al (by rw [c2_0]; simp) _
      have q1 : (w2.alloc (.cells #[.int .i64 d, .int .i64 n] 25)).cell? ⟨w1.heap.size, 1, none⟩ = some (.int .i64 d) := keep_al (by rw [c2_0]; simp) _
      have q2 : (w2.alloc (.cells #[.int .i64 d, .int .i64 n] 25)).cell? ⟨w2.heap.size, 0, none⟩ = some (.int .i64 d) := by simp
      have q3 : (w2.alloc (.cells #[.int .i64 d, .int .i64 n] 25)).cell? ⟨w2.heap.size, 1, none⟩ = some (.int .i64 n) := by simp
      have qb : Below w.heap.size w (w2.alloc (.cells #[.int .i64 d, .int .i64 n] 25)) := by repeat (first | (with_reducible assumption) | (exact bel_undr (by with_reducible assumption)) | (with_reducible exact bel_refl _) | (with_reducible refine bel_dr ?_) | (with_reducible refine bel_drN ?_ _) | (with_reducible refine bel_al ?_ _) | (refine bel_set ?_ (by first | (simp; done) | (simp; exact Below.size (by assumption)) | (simp; omega)) _) | (with_reducible refine bel_tr ?_ (by assumption)))
      clear c2_0 f2_0
      go_wp2_with fail
      generalize (w2.alloc (.cells #[.int .i64 d, .int .i64 n] 25)) = v2 at *
      have lf0 : ∀ x : Later v2, x.world.cell? ⟨w1.heap.size, 0, none⟩ = some (.int .i64 n) := fun x => x.at (q0)
      have lf1 : ∀ x : Later v2, x.world.cell? ⟨w1.heap.size, 1, none⟩ = some (.int .i64 d) := fun x => x.at (q1)
      have lf2 : ∀ x : Later v2, x.world.cell? ⟨w2.heap.size, 0, none⟩ = some (.int .i64 d) := fun x => x.at (q2)
      have lf3 : ∀ x : Later v2, x.world.cell? ⟨w2.heap.size, 1, none⟩ = some (.int .i64 n) := fun x => x.at (q3)
      refine region_later (w0 := v2) (by kernel_rfl) (by kernel_rfl) (bel_refl _) ?_
      repeat (go_big_quiet_step ((first | (go_at_call 21; with_reducible exact later_call (sback_val _ _ _ _ _ X1.out X2.out)))))
      refine wpQuiet_nil ?_
      rintro w' ⟨x, rfl⟩
      obtain ⟨w3, b3⟩ := x
      clear lf0 lf1 lf2 lf3
      have q0 := keep_tr q0 b3
      have q1 := keep_tr q1 b3
      have q2 := keep_tr q2 b3
      have q3 := keep_tr q3 b3
      go_wp2_with fail
      refine (srv_val hv _).mono ?_
      rintro e4 w4 ⟨rfl, b4⟩
      have HV := Lib.hid hv
      clear hv
      have q0 := keep_tr q0 b4
      have q1 := keep_tr q1 b4
      have q2 := keep_tr q2 b4
      have q3 := keep_tr q3 b4
      have qb : Below w.heap.size w w4 := by repeat (first | (with_reducible assumption) | (exact bel_undr (by with_reducible assumption)) | (with_reducible exact bel_refl _) | (with_reducible refine bel_dr ?_) | (with_reducible refine bel_drN ?_ _) | (with_reducible refine bel_al ?_ _) | (refine bel_set ?_ (by first | (simp; done) | (simp; exact Below.size (by assumption)) | (simp; omega)) _) | (with_reducible refine bel_tr ?_ (by assumption)))
      clear b3 b4
      have q0 := keep_al q0 (.cells #[.int .i64 1, .int .i64 1] 25)
      have q1 := keep_al q1 (.cells #[.int .i64 1, .int .i64 1] 25)
      have q2 := keep_al q2 (.cells #[.int .i64 1, .int .i64 1] 25)
      have q3 := keep_al q3 (.cells #[.int .i64 1, .int .i64 1] 25)
      have q4 : (w4.alloc (.cells #[.int .i64 1, .int .i64 1] 25)).cell? ⟨w4.heap.size, 0, none⟩ = some (.int .i64 1) := by simp
      have q5 : (w4.alloc (.cells #[.int .i64 1, .int .i64 1] 25)).cell? ⟨w4.heap.size, 1, none⟩ = some (.int .i64 1) := by simp
      have qb : Below w.heap.size w (w4.alloc (.cells #[.int .i64 1, .int .i64 1] 25)) := by repeat (first | (with_reducible assumption) | (exact bel_undr (by with_reducible assumption)) | (with_reducible exact bel_refl _) | (with_reducible refine bel_dr ?_) | (with_reducible refine bel_drN ?_ _) | (with_reducible refine bel_al ?_ _) | (refine bel_set ?_ (by first | (simp; done) | (simp; exact Below.size (by assumption)) | (simp; omega)) _) | (with_reducible refine bel_tr ?_ (by assumption)))
      go_wp2_with fail
      generalize (w4.alloc (.cells #[.int .i64 1, .int .i64 1] 25)) = v4 at *
      generalize w4.heap.size = O at *
      rcases tri with ⟨u1, u2, _⟩ | ⟨u1, u2, u3⟩ | ⟨u1, u2, u3⟩
      · subst u1 u2
        have lf0 : ∀ x : Later v4, x.world.cell? ⟨w1.heap.size, 0, none⟩ = some (.int .i64 1) := fun x => x.at (q0)
        have lf1 : ∀ x : Later v4, x.world.cell? ⟨w1.heap.size, 1, none⟩ = some (.int .i64 1) := fun x => x.at (q1)
        have lf2 : ∀ x : Later v4, x.world.cell? ⟨w2.heap.size, 0, none⟩ = some (.int .i64 1) := fun x => x.at (q2)
        have lf3 : ∀ x : Later v4, x.world.cell? ⟨w2.heap.size, 1, none⟩ = some (.int .i64 1) := fun x => x.at (q3)
        have lf4 : ∀ x : Later v4, x.world.cell? ⟨O, 0, none⟩ = some (.int .i64 1) := fun x => x.at (q4)
        have lf5 : ∀ x : Later v4, x.world.cell? ⟨O, 1, none⟩ = some (.int .i64 1) := fun x => x.at (q5)
        refine region_later (w0 := v4) (by kernel_rfl) (by kernel_rfl) (bel_refl _) ?_
        repeat (go_big_quiet_step ((first | (go_at_call 22; with_reducible exact later_call (back_val _ _ _ _ _ Y1.out Y2.out)))))
        refine wpQuiet_nil ?_
        rintro w' ⟨x, rfl⟩
        obtain ⟨w6, b6⟩ := x
        clear lf0 lf1 lf2 lf3 lf4 lf5
        go_wp2
        go_ret
        exact ⟨rfl, by repeat (first | (with_reducible assumption) | (exact bel_undr (by with_reducible assumption)) | (with_reducible exact bel_refl _) | (with_reducible refine bel_dr ?_) | (with_reducible refine bel_drN ?_ _) | (with_reducible refine bel_al ?_ _) | (refine bel_set ?_ (by first | (simp; done) | (simp; exact Below.size (by assumption)) | (simp; omega)) _) | (with_reducible refine bel_tr ?_ (by assumption)))⟩
      · have U1 := Lib.hid (T1.out u1)
        have U2 := Lib.hid (T4.out u3)
        have lf0 : ∀ x : Later v4, x.world.cell? ⟨w1.heap.size, 0, none⟩ = some (.int .i64 n) := fun x => x.at (q0)
        have lf1 : ∀ x : Later v4, x.world.cell? ⟨w1.heap.size, 1, none⟩ = some (.int .i64 d) := fun x => x.at (q1)
        have lf2 : ∀ x : Later v4, x.world.cell? ⟨w2.heap.size, 0, none⟩ = some (.int .i64 d) := fun x => x.at (q2)
        have lf3 : ∀ x : Later v4, x.world.cell? ⟨w2.heap.size, 1, none⟩ = some (.int .i64 n) := fun x => x.at (q3)
        have lf4 : ∀ x : Later v4, x.world.cell? ⟨O, 0, none⟩ = some (.int .i64 1) := fun x => x.at (q4)
        have lf5 : ∀ x : Later v4, x.world.cell? ⟨O, 1, none⟩ = some (.int .i64 1) := fun x => x.at (q5)
        refine region_later (w0 := v4) (by kernel_rfl) (by kernel_rfl) (bel_refl _) ?_
        repeat (go_big_quiet_step ((first | (go_at_call 22; with_reducible exact later_call (back_val _ _ _ _ _ Y1.out Y2.out)) | (go_at_call 20; with_reducible exact later_call (ls_val (U1.out) _)) | (go_at_call 20; with_reducible exact later_call (ls_val (U2.out) _)))))
        refine wpQuiet_nil ?_
        rintro w' ⟨x, rfl⟩
        obtain ⟨w6, b6⟩ := x
        clear lf0 lf1 lf2 lf3 lf4 lf5
        go_wp2
        go_ret
        exact ⟨rfl, by repeat (first | (with_reducible assumption) | (exact bel_undr (by with_reducible assumption)) | (with_reducible exact bel_refl _) | (with_reducible refine bel_dr ?_) | (with_reducible refine bel_drN ?_ _) | (with_reducible refine bel_al ?_ _) | (refine bel_set ?_ (by first | (simp; done) | (simp; exact Below.size (by assumption)) | (simp; omega)) _) | (with_reducible refine bel_tr ?_ (by assumption)))⟩
      · have U1 := Lib.hid (T2.out u3)
        have U2 := Lib.hid (T3.out u1)
        have lf0 : ∀ x : Later v4, x.world.cell? ⟨w1.heap.size, 0, none⟩ = some (.int .i64 n) := fun x => x.at (q0)
        have lf1 : ∀ x : Later v4, x.world.cell? ⟨w1.heap.size, 1, none⟩ = some (.int .i64 d) := fun x => x.at (q1)
        have lf2 : ∀ x : Later v4, x.world.cell? ⟨w2.heap.size, 0, none⟩ = some (.int .i64 d) := fun x => x.at (q2)
        have lf3 : ∀ x : Later v4, x.world.cell? ⟨w2.heap.size, 1, none⟩ = some (.int .i64 n) := fun x => x.at (q3)
        have lf4 : ∀ x : Later v4, x.world.cell? ⟨O, 0, none⟩ = some (.int .i64 1) := fun x => x.at (q4)
        have lf5 : ∀ x : Later v4, x.world.cell? ⟨O, 1, none⟩ = some (.int .i64 1) := fun x => x.at (q5)
        refine region_later (w0 := v4) (by kernel_rfl) (by kernel_rfl) (bel_refl _) ?_
        repeat (go_big_quiet_step ((first | (go_at_call 22; with_reducible exact later_call (back_val _ _ _ _ _ Y1.out Y2.out)) | (go_at_call 20; with_reducible exact later_call (ls_val (U1.out) _)) | (go_at_call 20; with_reducible exact later_call (ls_val (U2.out) _)))))
        refine wpQuiet_nil ?_
        rintro w' ⟨x, rfl⟩
        obtain ⟨w6, b6⟩ := x
        clear lf0 lf1 lf2 lf3 lf4 lf5
        go_wp2
        go_ret
        exact ⟨rfl, by repeat (first | (with_reducible assumption) | (exact bel_undr (by with_reducible assumption)) | (with_reducible exact bel_refl _) | (with_reducible refine bel_dr ?_) | (with_reducible refine bel_drN ?_ _) | (with_reducible refine bel_al ?_ _) | (refine bel_set ?_ (by first | (simp; done) | (simp; exact Below.size (by assumption)) | (simp; omega)) _) | (with_reducible refine bel_tr ?_ (by assumption)))⟩
  · have hl2 : (1048576 : Int) < (len : Int) := by omega
    go_enter Try.func12, Try.ntmps12
    go_wp2
    go_ret
    exact ⟨rfl, bel_refl _⟩

end Go.Proofs.Ytclbgndpdbfedaa.FnRatioBack
