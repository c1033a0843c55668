/- Whether a pitch is in a key; of the program and of the reference. -/
import Derived.Test.YtdmidimjbhkjoaaKey
namespace Go.Proofs.Ytdmidimjbhkjoaa
set_option linter.unusedSimpArgs false
set_option linter.unusedVariables false
open Go.RowKit

set_option maxHeartbeats 2000000 in
theorem ink_any (f s a o : Int) (w : World) : Calls Try.prog 10 #[.int .i64 f, .agg #[.int .i64 s, .int .i64 a, .int .i64 o]] w fun e w' => e = .returned (.bool (ikB f s a o)) ∧ Below w.heap.size w w' := by
  by_cases hf : -7 ≤ f ∧ f ≤ 7
  · cases hp : pvB s a o
    · refine boolw_to (v := false) (by unfold ikB; rw [hp]; simp) ?_
      obtain ⟨f0, f1⟩ := hf
      have HP := Lib.hid hp
      clear hp
      have q0 : (w.alloc (.cells #[.int .i64 s, .int .i64 a, .int .i64 o] 30)).cell? ⟨w.heap.size, 0, none⟩ = some (.int .i64 s) := by simp
      have q1 : (w.alloc (.cells #[.int .i64 s, .int .i64 a, .int .i64 o] 30)).cell? ⟨w.heap.size, 1, none⟩ = some (.int .i64 a) := by simp
      have q2 : (w.alloc (.cells #[.int .i64 s, .int .i64 a, .int .i64 o] 30)).cell? ⟨w.heap.size, 2, none⟩ = some (.int .i64 o) := by simp
      have qb : Below w.heap.size w (w.alloc (.cells #[.int .i64 s, .int .i64 a, .int .i64 o] 30)) := by repeat (first | (with_reducible assumption) | (exact bel_undr (by with_reducible assumption)) | (with_reducible exact bel_refl _) | (with_reducible refine bel_dr ?_) | (with_reducible refine bel_drN ?_ _) | (with_reducible refine bel_al ?_ _) | (refine bel_set ?_ (by first | (simp; done) | (simp; exact Below.size (by assumption)) | (simp; omega)) _) | (with_reducible refine bel_tr ?_ (by assumption)))
      go_enter Try.func10, Try.ntmps10
      go_wp2
      generalize (w.alloc (.cells #[.int .i64 s, .int .i64 a, .int .i64 o] 30)) = v at *
      have lf0 : ∀ x : Later v, x.world.cell? ⟨w.heap.size, 0, none⟩ = some (.int .i64 s) := fun x => x.at (q0)
      have lf1 : ∀ x : Later v, x.world.cell? ⟨w.heap.size, 1, none⟩ = some (.int .i64 a) := fun x => x.at (q1)
      have lf2 : ∀ x : Later v, x.world.cell? ⟨w.heap.size, 2, none⟩ = some (.int .i64 o) := fun x => x.at (q2)
      refine region_later (w0 := v) (by kernel_rfl) (by kernel_rfl) (bel_refl _) ?_
      repeat (go_big_quiet_step ((first | (go_at_call 22; exact later_same (ik_yes _ _ (by omega) (by omega))) | (go_at_call 22; exact later_same (ik_no _ _ (by omega))) | (go_at_call 20; exact later_call (pv_val HP.out _)))))
      refine wpQuiet_nil ?_
      rintro w' ⟨x, rfl⟩
      obtain ⟨w3, b3⟩ := x
      clear lf0 lf1 lf2
      go_wp2
      go_ret
      exact ⟨rfl, by repeat (first | (with_reducible assumption) | (exact bel_undr (by with_reducible assumption)) | (with_reducible exact bel_refl _) | (with_reducible refine bel_dr ?_) | (with_reducible refine bel_drN ?_ _) | (with_reducible refine bel_al ?_ _) | (refine bel_set ?_ (by first | (simp; done) | (simp; exact Below.size (by assumption)) | (simp; omega)) _) | (with_reducible refine bel_tr ?_ (by assumption)))⟩
    · refine boolw_to (v := (a == alI f s)) (by unfold ikB; rw [hp, decide_eq_true hf]; simp) ?_
      obtain ⟨f0, f1⟩ := hf
      have HP := Lib.hid hp
      obtain ⟨s0, s1, _⟩ := pvB_bd hp
      clear hp
      generalize hk : alI f s = v'
      have HK : Hid (kaI f s = v') := by
        show _ = _
        rw [← hk]; unfold kaI; rw [if_pos ⟨⟨f0, f1⟩, s0, s1⟩]
      clear hk
      have q0 : (w.alloc (.cells #[.int .i64 s, .int .i64 a, .int .i64 o] 30)).cell? ⟨w.heap.size, 0, none⟩ = some (.int .i64 s) := by simp
      have q1 : (w.alloc (.cells #[.int .i64 s, .int .i64 a, .int .i64 o] 30)).cell? ⟨w.heap.size, 1, none⟩ = some (.int .i64 a) := by simp
      have q2 : (w.alloc (.cells #[.int .i64 s, .int .i64 a, .int .i64 o] 30)).cell? ⟨w.heap.size, 2, none⟩ = some (.int .i64 o) := by simp
      have qb : Below w.heap.size w (w.alloc (.cells #[.int .i64 s, .int .i64 a, .int .i64 o] 30)) := by repeat (first | (with_reducible assumption) | (exact bel_undr (by with_reducible assumption)) | (with_reducible exact bel_refl _) | (with_reducible refine bel_dr ?_) | (with_reducible refine bel_drN ?_ _) | (with_reducible refine bel_al ?_ _) | (refine bel_set ?_ (by first | (simp; done) | (simp; exact Below.size (by assumption)) | (simp; omega)) _) | (with_reducible refine bel_tr ?_ (by assumption)))
      go_enter Try.func10, Try.ntmps10
      go_wp2
      generalize (w.alloc (.cells #[.int .i64 s, .int .i64 a, .int .i64 o] 30)) = v at *
      have lf0 : ∀ x : Later v, x.world.cell? ⟨w.heap.size, 0, none⟩ = some (.int .i64 s) := fun x => x.at (q0)
      have lf1 : ∀ x : Later v, x.world.cell? ⟨w.heap.size, 1, none⟩ = some (.int .i64 a) := fun x => x.at (q1)
      have lf2 : ∀ x : Later v, x.world.cell? ⟨w.heap.size, 2, none⟩ = some (.int .i64 o) := fun x => x.at (q2)
      refine region_later (w0 := v) (by kernel_rfl) (by kernel_rfl) (bel_refl _) ?_
      repeat (go_big_quiet_step ((first | (go_at_call 22; exact later_same (ik_yes _ _ (by omega) (by omega))) | (go_at_call 22; exact later_same (ik_no _ _ (by omega))) | (go_at_call 20; exact later_call (pv_val HP.out _)) | (go_at_call 23; exact later_call (ka_val HK.out _)))))
      refine wpQuiet_nil ?_
      rintro w' ⟨x, rfl⟩
      obtain ⟨w3, b3⟩ := x
      clear lf0 lf1 lf2
      go_wp2
      go_ret
      exact ⟨rfl, by repeat (first | (with_reducible assumption) | (exact bel_undr (by with_reducible assumption)) | (with_reducible exact bel_refl _) | (with_reducible refine bel_dr ?_) | (with_reducible refine bel_drN ?_ _) | (with_reducible refine bel_al ?_ _) | (refine bel_set ?_ (by first | (simp; done) | (simp; exact Below.size (by assumption)) | (simp; omega)) _) | (with_reducible refine bel_tr ?_ (by assumption)))⟩
  · refine boolw_to (v := false) (by unfold ikB; rw [decide_eq_false hf]; rfl) ?_
    have hf2 : f < -7 ∨ 7 < f := by omega
    have q0 : (w.alloc (.cells #[.int .i64 s, .int .i64 a, .int .i64 o] 30)).cell? ⟨w.heap.size, 0, none⟩ = some (.int .i64 s) := by simp
    have q1 : (w.alloc (.cells #[.int .i64 s, .int .i64 a, .int .i64 o] 30)).cell? ⟨w.heap.size, 1, none⟩ = some (.int .i64 a) := by simp
    have q2 : (w.alloc (.cells #[.int .i64 s, .int .i64 a, .int .i64 o] 30)).cell? ⟨w.heap.size, 2, none⟩ = some (.int .i64 o) := by simp
    have qb : Below w.heap.size w (w.alloc (.cells #[.int .i64 s, .int .i64 a, .int .i64 o] 30)) := by repeat (first | (with_reducible assumption) | (exact bel_undr (by with_reducible assumption)) | (with_reducible exact bel_refl _) | (with_reducible refine bel_dr ?_) | (with_reducible refine bel_drN ?_ _) | (with_reducible refine bel_al ?_ _) | (refine bel_set ?_ (by first | (simp; done) | (simp; exact Below.size (by assumption)) | (simp; omega)) _) | (with_reducible refine bel_tr ?_ (by assumption)))
    go_enter Try.func10, Try.ntmps10
    go_wp2
    generalize (w.alloc (.cells #[.int .i64 s, .int .i64 a, .int .i64 o] 30)) = v at *
    have lf0 : ∀ x : Later v, x.world.cell? ⟨w.heap.size, 0, none⟩ = some (.int .i64 s) := fun x => x.at (q0)
    have lf1 : ∀ x : Later v, x.world.cell? ⟨w.heap.size, 1, none⟩ = some (.int .i64 a) := fun x => x.at (q1)
    have lf2 : ∀ x : Later v, x.world.cell? ⟨w.heap.size, 2, none⟩ = some (.int .i64 o) := fun x => x.at (q2)
    refine region_later (w0 := v) (by kernel_rfl) (by kernel_rfl) (bel_refl _) ?_
    repeat (go_big_quiet_step ((first | (go_at_call 22; exact later_same (ik_yes _ _ (by omega) (by omega))) | (go_at_call 22; exact later_same (ik_no _ _ (by omega))))))
    refine wpQuiet_nil ?_
    rintro w' ⟨x, rfl⟩
    obtain ⟨w3, b3⟩ := x
    clear lf0 lf1 lf2
    go_wp2
    go_ret
    exact ⟨rfl, by repeat (first | (with_reducible assumption) | (exact bel_undr (by with_reducible assumption)) | (with_reducible exact bel_refl _) | (with_reducible refine bel_dr ?_) | (with_reducible refine bel_drN ?_ _) | (with_reducible refine bel_al ?_ _) | (refine bel_set ?_ (by first | (simp; done) | (simp; exact Below.size (by assumption)) | (simp; omega)) _) | (with_reducible refine bel_tr ?_ (by assumption)))⟩
theorem ink_val {f s a o : Int} {v : Bool} (h : ikB f s a o = v) (w : World) : Calls Try.prog 10 #[.int .i64 f, .agg #[.int .i64 s, .int .i64 a, .int .i64 o]] w fun e w' => e = .returned (.bool v) ∧ Below w.heap.size w w' := by
  subst h; exact ink_any f s a o w

set_option maxHeartbeats 2000000 in
theorem sink_any (f s a o : Int) (w : World) : Calls Try.prog 38 #[.int .i64 f, .agg #[.int .i64 s, .int .i64 a, .int .i64 o]] w fun e w' => e = .returned (.bool (ikB f s a o)) ∧ Below w.heap.size w w' := by
  by_cases hf : -7 ≤ f ∧ f ≤ 7
  · cases hp : pvB s a o
    · refine boolw_to (v := false) (by unfold ikB; rw [hp]; simp) ?_
      obtain ⟨f0, f1⟩ := hf
      have HP := Lib.hid hp
      clear hp
      have q0 : (w.alloc (.cells #[.int .i64 s, .int .i64 a, .int .i64 o] 30)).cell? ⟨w.heap.size, 0, none⟩ = some (.int .i64 s) := by simp
      have q1 : (w.alloc (.cells #[.int .i64 s, .int .i64 a, .int .i64 o] 30)).cell? ⟨w.heap.size, 1, none⟩ = some (.int .i64 a) := by simp
      have q2 : (w.alloc (.cells #[.int .i64 s, .int .i64 a, .int .i64 o] 30)).cell? ⟨w.heap.size, 2, none⟩ = some (.int .i64 o) := by simp
      have qb : Below w.heap.size w (w.alloc (.cells #[.int .i64 s, .int .i64 a, .int .i64 o] 30)) := by repeat (first | (with_reducible assumption) | (exact bel_undr (by with_reducible assumption)) | (with_reducible exact bel_refl _) | (with_reducible refine bel_dr ?_) | (with_reducible refine bel_drN ?_ _) | (with_reducible refine bel_al ?_ _) | (refine bel_set ?_ (by first | (simp; done) | (simp; exact Below.size (by assumption)) | (simp; omega)) _) | (with_reducible refine bel_tr ?_ (by assumption)))
      go_enter Try.func38, Try.ntmps38
      go_wp2
      generalize (w.alloc (.cells #[.int .i64 s, .int .i64 a, .int .i64 o] 30)) = v at *
      have lf0 : ∀ x : Later v, x.world.cell? ⟨w.heap.size, 0, none⟩ = some (.int .i64 s) := fun x => x.at (q0)
      have lf1 : ∀ x : Later v, x.world.cell? ⟨w.heap.size, 1, none⟩ = some (.int .i64 a) := fun x => x.at (q1)
      have lf2 : ∀ x : Later v, x.world.cell? ⟨w.heap.size, 2, none⟩ = some (.int .i64 o) := fun x => x.at (q2)
      refine region_later (w0 := v) (by kernel_rfl) (by kernel_rfl) (bel_refl _) ?_
      repeat (go_big_quiet_step ((first | (go_at_call 37; exact later_same (swin_yes _ _ _ _ (by omega) (by omega))) | (go_at_call 37; exact later_same (swin_no _ _ _ _ (by omega))) | (go_at_call 18; exact later_call (spv_val HP.out _)))))
      refine wpQuiet_nil ?_
      rintro w' ⟨x, rfl⟩
      obtain ⟨w3, b3⟩ := x
      clear lf0 lf1 lf2
      go_wp2
      go_ret
      exact ⟨rfl, by repeat (first | (with_reducible assumption) | (exact bel_undr (by with_reducible assumption)) | (with_reducible exact bel_refl _) | (with_reducible refine bel_dr ?_) | (with_reducible refine bel_drN ?_ _) | (with_reducible refine bel_al ?_ _) | (refine bel_set ?_ (by first | (simp; done) | (simp; exact Below.size (by assumption)) | (simp; omega)) _) | (with_reducible refine bel_tr ?_ (by assumption)))⟩
    · refine boolw_to (v := (a == alI f s)) (by unfold ikB; rw [hp, decide_eq_true hf]; simp) ?_
      obtain ⟨f0, f1⟩ := hf
      have HP := Lib.hid hp
      obtain ⟨s0, s1, _⟩ := pvB_bd hp
      clear hp
      generalize hk : alI f s = v'
      have HK : Hid (alI f s = v') := by
        show _ = _
        rw [← hk]
      clear hk
      have q0 : (w.alloc (.cells #[.int .i64 s, .int .i64 a, .int .i64 o] 30)).cell? ⟨w.heap.size, 0, none⟩ = some (.int .i64 s) := by simp
      have q1 : (w.alloc (.cells #[.int .i64 s, .int .i64 a, .int .i64 o] 30)).cell? ⟨w.heap.size, 1, none⟩ = some (.int .i64 a) := by simp
      have q2 : (w.alloc (.cells #[.int .i64 s, .int .i64 a, .int .i64 o] 30)).cell? ⟨w.heap.size, 2, none⟩ = some (.int .i64 o) := by simp
      have qb : Below w.heap.size w (w.alloc (.cells #[.int .i64 s, .int .i64 a, .int .i64 o] 30)) := by repeat (first | (with_reducible assumption) | (exact bel_undr (by with_reducible assumption)) | (with_reducible exact bel_refl _) | (with_reducible refine bel_dr ?_) | (with_reducible refine bel_drN ?_ _) | (with_reducible refine bel_al ?_ _) | (refine bel_set ?_ (by first | (simp; done) | (simp; exact Below.size (by assumption)) | (simp; omega)) _) | (with_reducible refine bel_tr ?_ (by assumption)))
      go_enter Try.func38, Try.ntmps38
      go_wp2
      generalize (w.alloc (.cells #[.int .i64 s, .int .i64 a, .int .i64 o] 30)) = v at *
      have lf0 : ∀ x : Later v, x.world.cell? ⟨w.heap.size, 0, none⟩ = some (.int .i64 s) := fun x => x.at (q0)
      have lf1 : ∀ x : Later v, x.world.cell? ⟨w.heap.size, 1, none⟩ = some (.int .i64 a) := fun x => x.at (q1)
      have lf2 : ∀ x : Later v, x.world.cell? ⟨w.heap.size, 2, none⟩ = some (.int .i64 o) := fun x => x.at (q2)
      refine region_later (w0 := v) (by kernel_rfl) (by kernel_rfl) (bel_refl _) ?_
      repeat (go_big_quiet_step ((first | (go_at_call 37; exact later_same (swin_yes _ _ _ _ (by omega) (by omega))) | (go_at_call 37; exact later_same (swin_no _ _ _ _ (by omega))) | (go_at_call 18; exact later_call (spv_val HP.out _)) | (go_at_call 51; exact later_call (sal_val HK.out _ s0 s1 (by omega) (by omega))))))
      refine wpQuiet_nil ?_
      rintro w' ⟨x, rfl⟩
      obtain ⟨w3, b3⟩ := x
      clear lf0 lf1 lf2
      go_wp2
      go_ret
      exact ⟨rfl, by repeat (first | (with_reducible assumption) | (exact bel_undr (by with_reducible assumption)) | (with_reducible exact bel_refl _) | (with_reducible refine bel_dr ?_) | (with_reducible refine bel_drN ?_ _) | (with_reducible refine bel_al ?_ _) | (refine bel_set ?_ (by first | (simp; done) | (simp; exact Below.size (by assumption)) | (simp; omega)) _) | (with_reducible refine bel_tr ?_ (by assumption)))⟩
  · refine boolw_to (v := false) (by unfold ikB; rw [decide_eq_false hf]; rfl) ?_
    have hf2 : f < -7 ∨ 7 < f := by omega
    have q0 : (w.alloc (.cells #[.int .i64 s, .int .i64 a, .int .i64 o] 30)).cell? ⟨w.heap.size, 0, none⟩ = some (.int .i64 s) := by simp
    have q1 : (w.alloc (.cells #[.int .i64 s, .int .i64 a, .int .i64 o] 30)).cell? ⟨w.heap.size, 1, none⟩ = some (.int .i64 a) := by simp
    have q2 : (w.alloc (.cells #[.int .i64 s, .int .i64 a, .int .i64 o] 30)).cell? ⟨w.heap.size, 2, none⟩ = some (.int .i64 o) := by simp
    have qb : Below w.heap.size w (w.alloc (.cells #[.int .i64 s, .int .i64 a, .int .i64 o] 30)) := by repeat (first | (with_reducible assumption) | (exact bel_undr (by with_reducible assumption)) | (with_reducible exact bel_refl _) | (with_reducible refine bel_dr ?_) | (with_reducible refine bel_drN ?_ _) | (with_reducible refine bel_al ?_ _) | (refine bel_set ?_ (by first | (simp; done) | (simp; exact Below.size (by assumption)) | (simp; omega)) _) | (with_reducible refine bel_tr ?_ (by assumption)))
    go_enter Try.func38, Try.ntmps38
    go_wp2
    generalize (w.alloc (.cells #[.int .i64 s, .int .i64 a, .int .i64 o] 30)) = v at *
    have lf0 : ∀ x : Later v, x.world.cell? ⟨w.heap.size, 0, none⟩ = some (.int .i64 s) := fun x => x.at (q0)
    have lf1 : ∀ x : Later v, x.world.cell? ⟨w.heap.size, 1, none⟩ = some (.int .i64 a) := fun x => x.at (q1)
    have lf2 : ∀ x : Later v, x.world.cell? ⟨w.heap.size, 2, none⟩ = some (.int .i64 o) := fun x => x.at (q2)
    refine region_later (w0 := v) (by kernel_rfl) (by kernel_rfl) (bel_refl _) ?_
    repeat (go_big_quiet_step ((first | (go_at_call 37; exact later_same (swin_yes _ _ _ _ (by omega) (by omega))) | (go_at_call 37; exact later_same (swin_no _ _ _ _ (by omega))))))
    refine wpQuiet_nil ?_
    rintro w' ⟨x, rfl⟩
    obtain ⟨w3, b3⟩ := x
    clear lf0 lf1 lf2
    go_wp2
    go_ret
    exact ⟨rfl, by repeat (first | (with_reducible assumption) | (exact bel_undr (by with_reducible assumption)) | (with_reducible exact bel_refl _) | (with_reducible refine bel_dr ?_) | (with_reducible refine bel_drN ?_ _) | (with_reducible refine bel_al ?_ _) | (refine bel_set ?_ (by first | (simp; done) | (simp; exact Below.size (by assumption)) | (simp; omega)) _) | (with_reducible refine bel_tr ?_ (by assumption)))⟩
theorem sink_val {f s a o : Int} {v : Bool} (h : ikB f s a o = v) (w : World) : Calls Try.prog 38 #[.int .i64 f, .agg #[.int .i64 s, .int .i64 a, .int .i64 o]] w fun e w' => e = .returned (.bool v) ∧ Below w.heap.size w w' := by
  subst h; exact sink_any f s a o w
end Go.Proofs.Ytdmidimjbhkjoaa
