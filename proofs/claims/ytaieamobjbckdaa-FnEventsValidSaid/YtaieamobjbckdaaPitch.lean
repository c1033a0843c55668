/- Pitches: when one is valid, and its key; of the program and of the reference. -/
import Derived.Test.YtaieamobjbckdaaWin
import Derived.Test.YtaieamobjbckdaaLater
namespace Go.Proofs.Ytaieamobjbckdaa
set_option linter.unusedSimpArgs false
set_option linter.unusedVariables false
open Go.RowKit

def shI (s : Int) : Int := ([0, 2, 4, 5, 7, 9, 11] : List Int).getD s.toNat 0
def pvB (s a o : Int) : Bool := decide (0 ≤ s ∧ s ≤ 6 ∧ -2 ≤ a ∧ a ≤ 2 ∧ 0 ≤ o ∧ o ≤ 8)
def pkI (s a o : Int) : Int := if pvB s a o then 12 * o + shI s + a else -100
theorem shI_bd (s : Int) : 0 ≤ shI s ∧ shI s ≤ 11 := by
  unfold shI
  have k : ∀ n : Nat, 0 ≤ ([0, 2, 4, 5, 7, 9, 11] : List Int).getD n 0 ∧ ([0, 2, 4, 5, 7, 9, 11] : List Int).getD n 0 ≤ 11 := by
    intro n
    match n with
    | 0 => simp
    | 1 => simp
    | 2 => simp
    | 3 => simp
    | 4 => simp
    | 5 => simp
    | 6 => simp
    | n + 7 => simp
  exact k _
theorem pvB_bd {s a o : Int} (h : pvB s a o = true) : 0 ≤ s ∧ s ≤ 6 ∧ -2 ≤ a ∧ a ≤ 2 ∧ 0 ≤ o ∧ o ≤ 8 := of_decide_eq_true h
theorem pkI_bd (s a o : Int) : -100 ≤ pkI s a o ∧ pkI s a o ≤ 109 := by
  unfold pkI
  cases h : pvB s a o
  · rw [if_neg (by simp)]; omega
  · obtain ⟨h0, h1, h2, h3, h4, h5⟩ := pvB_bd h
    have := shI_bd s
    rw [if_pos rfl]; omega
theorem pv_cases (s a o : Int) : (0 ≤ s ∧ s ≤ 6 ∧ -2 ≤ a ∧ a ≤ 2 ∧ 0 ≤ o ∧ o ≤ 8) ∨ (0 ≤ s ∧ s ≤ 6 ∧ -2 ≤ a ∧ a ≤ 2 ∧ (o < 0 ∨ 8 < o)) ∨ (0 ≤ s ∧ s ≤ 6 ∧ (a < -2 ∨ 2 < a)) ∨ (s < 0 ∨ 6 < s) := by omega

set_option maxHeartbeats 1000000 in
theorem pv_any (s a o : Int) (w : World) :
    Calls Try.prog 18 #[.agg #[.int .i64 s, .int .i64 a, .int .i64 o]] w fun e w' => e = .returned (.bool (pvB s a o)) ∧ Below w.heap.size w w' := by
  rcases pv_cases s a o with h | h | h | h
  · have e : pvB s a o = true := decide_eq_true h
    rw [e]; clear e
    obtain ⟨h0, h1, h2, h3, h4, h5⟩ := h
    go_enter Try.func18, Try.ntmps18
    go_wp2_with (first | (go_at_call 10; refine (win_yes _ _ _ _ (by omega) (by omega)).mono ?_; rintro e w' ⟨rfl, rfl⟩) | (go_at_call 10; refine (win_no _ _ _ _ (by omega)).mono ?_; rintro e w' ⟨rfl, rfl⟩))
    go_ret
    exact ⟨rfl, by repeat (first | (with_reducible assumption) | (exact bel_undr (by with_reducible assumption)) | (with_reducible exact bel_refl _) | (with_reducible refine bel_dr ?_) | (with_reducible refine bel_drN ?_ _) | (with_reducible refine bel_al ?_ _) | (refine bel_set ?_ (by first | (simp; done) | (simp; exact Below.size (by assumption)) | (simp; omega)) _) | (with_reducible refine bel_tr ?_ (by assumption)))⟩
  · have e : pvB s a o = false := decide_eq_false (by omega)
    rw [e]; clear e
    obtain ⟨h0, h1, h2, h3, h4⟩ := h
    go_enter Try.func18, Try.ntmps18
    go_wp2_with (first | (go_at_call 10; refine (win_yes _ _ _ _ (by omega) (by omega)).mono ?_; rintro e w' ⟨rfl, rfl⟩) | (go_at_call 10; refine (win_no _ _ _ _ (by omega)).mono ?_; rintro e w' ⟨rfl, rfl⟩))
    go_ret
    exact ⟨rfl, by repeat (first | (with_reducible assumption) | (exact bel_undr (by with_reducible assumption)) | (with_reducible exact bel_refl _) | (with_reducible refine bel_dr ?_) | (with_reducible refine bel_drN ?_ _) | (with_reducible refine bel_al ?_ _) | (refine bel_set ?_ (by first | (simp; done) | (simp; exact Below.size (by assumption)) | (simp; omega)) _) | (with_reducible refine bel_tr ?_ (by assumption)))⟩
  · have e : pvB s a o = false := decide_eq_false (by omega)
    rw [e]; clear e
    obtain ⟨h0, h1, h2⟩ := h
    go_enter Try.func18, Try.ntmps18
    go_wp2_with (first | (go_at_call 10; refine (win_yes _ _ _ _ (by omega) (by omega)).mono ?_; rintro e w' ⟨rfl, rfl⟩) | (go_at_call 10; refine (win_no _ _ _ _ (by omega)).mono ?_; rintro e w' ⟨rfl, rfl⟩))
    go_ret
    exact ⟨rfl, by repeat (first | (with_reducible assumption) | (exact bel_undr (by with_reducible assumption)) | (with_reducible exact bel_refl _) | (with_reducible refine bel_dr ?_) | (with_reducible refine bel_drN ?_ _) | (with_reducible refine bel_al ?_ _) | (refine bel_set ?_ (by first | (simp; done) | (simp; exact Below.size (by assumption)) | (simp; omega)) _) | (with_reducible refine bel_tr ?_ (by assumption)))⟩
  · have e : pvB s a o = false := decide_eq_false (by omega)
    rw [e]; clear e
    go_enter Try.func18, Try.ntmps18
    go_wp2_with (first | (go_at_call 10; refine (win_yes _ _ _ _ (by omega) (by omega)).mono ?_; rintro e w' ⟨rfl, rfl⟩) | (go_at_call 10; refine (win_no _ _ _ _ (by omega)).mono ?_; rintro e w' ⟨rfl, rfl⟩))
    go_ret
    exact ⟨rfl, by repeat (first | (with_reducible assumption) | (exact bel_undr (by with_reducible assumption)) | (with_reducible exact bel_refl _) | (with_reducible refine bel_dr ?_) | (with_reducible refine bel_drN ?_ _) | (with_reducible refine bel_al ?_ _) | (refine bel_set ?_ (by first | (simp; done) | (simp; exact Below.size (by assumption)) | (simp; omega)) _) | (with_reducible refine bel_tr ?_ (by assumption)))⟩
theorem pv_val {s a o : Int} {v : Bool} (h : pvB s a o = v) (w : World) :
    Calls Try.prog 18 #[.agg #[.int .i64 s, .int .i64 a, .int .i64 o]] w fun e w' => e = .returned (.bool v) ∧ Below w.heap.size w w' := by
  subst h; exact pv_any s a o w

set_option maxHeartbeats 1000000 in
theorem spv_any (s a o : Int) (w : World) :
    Calls Try.prog 28 #[.agg #[.int .i64 s, .int .i64 a, .int .i64 o]] w fun e w' => e = .returned (.bool (pvB s a o)) ∧ Below w.heap.size w w' := by
  rcases pv_cases s a o with h | h | h | h
  · have e : pvB s a o = true := decide_eq_true h
    rw [e]; clear e
    obtain ⟨h0, h1, h2, h3, h4, h5⟩ := h
    go_enter Try.func28, Try.ntmps28
    go_wp2_with (first | (go_at_call 11; refine (swin_yes _ _ _ _ (by omega) (by omega)).mono ?_; rintro e w' ⟨rfl, rfl⟩) | (go_at_call 11; refine (swin_no _ _ _ _ (by omega)).mono ?_; rintro e w' ⟨rfl, rfl⟩))
    go_ret
    exact ⟨rfl, by repeat (first | (with_reducible assumption) | (exact bel_undr (by with_reducible assumption)) | (with_reducible exact bel_refl _) | (with_reducible refine bel_dr ?_) | (with_reducible refine bel_drN ?_ _) | (with_reducible refine bel_al ?_ _) | (refine bel_set ?_ (by first | (simp; done) | (simp; exact Below.size (by assumption)) | (simp; omega)) _) | (with_reducible refine bel_tr ?_ (by assumption)))⟩
  · have e : pvB s a o = false := decide_eq_false (by omega)
    rw [e]; clear e
    obtain ⟨h0, h1, h2, h3, h4⟩ := h
    go_enter Try.func28, Try.ntmps28
    go_wp2_with (first | (go_at_call 11; refine (swin_yes _ _ _ _ (by omega) (by omega)).mono ?_; rintro e w' ⟨rfl, rfl⟩) | (go_at_call 11; refine (swin_no _ _ _ _ (by omega)).mono ?_; rintro e w' ⟨rfl, rfl⟩))
    go_ret
    exact ⟨rfl, by repeat (first | (with_reducible assumption) | (exact bel_undr (by with_reducible assumption)) | (with_reducible exact bel_refl _) | (with_reducible refine bel_dr ?_) | (with_reducible refine bel_drN ?_ _) | (with_reducible refine bel_al ?_ _) | (refine bel_set ?_ (by first | (simp; done) | (simp; exact Below.size (by assumption)) | (simp; omega)) _) | (with_reducible refine bel_tr ?_ (by assumption)))⟩
  · have e : pvB s a o = false := decide_eq_false (by omega)
    rw [e]; clear e
    obtain ⟨h0, h1, h2⟩ := h
    go_enter Try.func28, Try.ntmps28
    go_wp2_with (first | (go_at_call 11; refine (swin_yes _ _ _ _ (by omega) (by omega)).mono ?_; rintro e w' ⟨rfl, rfl⟩) | (go_at_call 11; refine (swin_no _ _ _ _ (by omega)).mono ?_; rintro e w' ⟨rfl, rfl⟩))
    go_ret
    exact ⟨rfl, by repeat (first | (with_reducible assumption) | (exact bel_undr (by with_reducible assumption)) | (with_reducible exact bel_refl _) | (with_reducible refine bel_dr ?_) | (with_reducible refine bel_drN ?_ _) | (with_reducible refine bel_al ?_ _) | (refine bel_set ?_ (by first | (simp; done) | (simp; exact Below.size (by assumption)) | (simp; omega)) _) | (with_reducible refine bel_tr ?_ (by assumption)))⟩
  · have e : pvB s a o = false := decide_eq_false (by omega)
    rw [e]; clear e
    go_enter Try.func28, Try.ntmps28
    go_wp2_with (first | (go_at_call 11; refine (swin_yes _ _ _ _ (by omega) (by omega)).mono ?_; rintro e w' ⟨rfl, rfl⟩) | (go_at_call 11; refine (swin_no _ _ _ _ (by omega)).mono ?_; rintro e w' ⟨rfl, rfl⟩))
    go_ret
    exact ⟨rfl, by repeat (first | (with_reducible assumption) | (exact bel_undr (by with_reducible assumption)) | (with_reducible exact bel_refl _) | (with_reducible refine bel_dr ?_) | (with_reducible refine bel_drN ?_ _) | (with_reducible refine bel_al ?_ _) | (refine bel_set ?_ (by first | (simp; done) | (simp; exact Below.size (by assumption)) | (simp; omega)) _) | (with_reducible refine bel_tr ?_ (by assumption)))⟩
theorem spv_val {s a o : Int} {v : Bool} (h : pvB s a o = v) (w : World) :
    Calls Try.prog 28 #[.agg #[.int .i64 s, .int .i64 a, .int .i64 o]] w fun e w' => e = .returned (.bool v) ∧ Below w.heap.size w w' := by
  subst h; exact spv_any s a o w
theorem pix0 : ∀ w : World, (Instr.index 59 (.agg #[.int .i64 0, .int .i64 2, .int .i64 4, .int .i64 5, .int .i64 7, .int .i64 9, .int .i64 11]) (.int .i64 0)).run Try.prog w = .ok (.int .i64 0) w := fun _ => by kernel_rfl
theorem pix1 : ∀ w : World, (Instr.index 59 (.agg #[.int .i64 0, .int .i64 2, .int .i64 4, .int .i64 5, .int .i64 7, .int .i64 9, .int .i64 11]) (.int .i64 1)).run Try.prog w = .ok (.int .i64 2) w := fun _ => by kernel_rfl
theorem pix2 : ∀ w : World, (Instr.index 59 (.agg #[.int .i64 0, .int .i64 2, .int .i64 4, .int .i64 5, .int .i64 7, .int .i64 9, .int .i64 11]) (.int .i64 2)).run Try.prog w = .ok (.int .i64 4) w := fun _ => by kernel_rfl
theorem pix3 : ∀ w : World, (Instr.index 59 (.agg #[.int .i64 0, .int .i64 2, .int .i64 4, .int .i64 5, .int .i64 7, .int .i64 9, .int .i64 11]) (.int .i64 3)).run Try.prog w = .ok (.int .i64 5) w := fun _ => by kernel_rfl
theorem pix4 : ∀ w : World, (Instr.index 59 (.agg #[.int .i64 0, .int .i64 2, .int .i64 4, .int .i64 5, .int .i64 7, .int .i64 9, .int .i64 11]) (.int .i64 4)).run Try.prog w = .ok (.int .i64 7) w := fun _ => by kernel_rfl
theorem pix5 : ∀ w : World, (Instr.index 59 (.agg #[.int .i64 0, .int .i64 2, .int .i64 4, .int .i64 5, .int .i64 7, .int .i64 9, .int .i64 11]) (.int .i64 5)).run Try.prog w = .ok (.int .i64 9) w := fun _ => by kernel_rfl
theorem pix6 : ∀ w : World, (Instr.index 59 (.agg #[.int .i64 0, .int .i64 2, .int .i64 4, .int .i64 5, .int .i64 7, .int .i64 9, .int .i64 11]) (.int .i64 6)).run Try.prog w = .ok (.int .i64 11) w := fun _ => by kernel_rfl

set_option maxHeartbeats 1000000 in
theorem sh_any (s : Int) (w : World) (h0 : 0 ≤ s) (h1 : s ≤ 6) : Calls Try.prog 19 #[.int .i64 s] w fun e w' => e = .returned (.int .i64 (shI s)) ∧ w = w' := by
  rcases (show s = 0 ∨ s = 1 ∨ s = 2 ∨ s = 3 ∨ s = 4 ∨ s = 5 ∨ s = 6 from by omega) with rfl | rfl | rfl | rfl | rfl | rfl | rfl
  · have k := pix0
    go_enter Try.func19, Try.ntmps19
    go_wp2
    go_ret
    exact ⟨rfl, rfl⟩
  · have k := pix1
    go_enter Try.func19, Try.ntmps19
    go_wp2
    go_ret
    exact ⟨rfl, rfl⟩
  · have k := pix2
    go_enter Try.func19, Try.ntmps19
    go_wp2
    go_ret
    exact ⟨rfl, rfl⟩
  · have k := pix3
    go_enter Try.func19, Try.ntmps19
    go_wp2
    go_ret
    exact ⟨rfl, rfl⟩
  · have k := pix4
    go_enter Try.func19, Try.ntmps19
    go_wp2
    go_ret
    exact ⟨rfl, rfl⟩
  · have k := pix5
    go_enter Try.func19, Try.ntmps19
    go_wp2
    go_ret
    exact ⟨rfl, rfl⟩
  · have k := pix6
    go_enter Try.func19, Try.ntmps19
    go_wp2
    go_ret
    exact ⟨rfl, rfl⟩

/-- the half tones of a place, without alterations -/
def natI (p : Int) : Int := 12 * (p / 7) + shI (p % 7)
theorem natI_of (o s : Int) (h0 : 0 ≤ s) (h1 : s ≤ 6) : natI (7 * o + s) = 12 * o + shI s := by
  unfold natI
  rw [show (7 * o + s) / 7 = o from by omega, show (7 * o + s) % 7 = s from by omega]
theorem natI_bd (p : Int) (h0 : 0 ≤ p) (h1 : p ≤ 1000000) : 0 ≤ natI p ∧ natI p ≤ 2000000 := by
  have := shI_bd (p % 7)
  unfold natI; omega
set_option maxHeartbeats 1000000 in
theorem nat_any (p : Int) (w : World) (h0 : 0 ≤ p) (h1 : p ≤ 1000000) : Calls Try.prog 29 #[.int .i64 p] w fun e w' => e = .returned (.int .i64 (natI p)) ∧ Below w.heap.size w w' := by
  have hp : ¬ p < 0 := by omega
  have hb := shI_bd (p % 7)
  have hm0 : 0 ≤ p % 7 := by omega
  have hm1 : p % 7 < 7 := by omega
  have hd0 : 0 ≤ p / 7 := by omega
  have hd1 : p / 7 ≤ 1000000 := by omega
  have hx : ∀ h, (#[Value.int .i64 0, Value.int .i64 2, Value.int .i64 4, Value.int .i64 5, Value.int .i64 7, Value.int .i64 9, Value.int .i64 11] : Array Value)[(p % 7).toNat]'h = .int .i64 (shI (p % 7)) := by
    generalize p % 7 = m at *
    rcases (show m = 0 ∨ m = 1 ∨ m = 2 ∨ m = 3 ∨ m = 4 ∨ m = 5 ∨ m = 6 from by omega) with rfl | rfl | rfl | rfl | rfl | rfl | rfl <;> exact fun _ => rfl
  have HX := hx (by simp; omega)
  go_enter Try.func29, Try.ntmps29
  go_wp2
  refine wp_loop_rounds 1 ?_
  rw [rounds_succ]
  go_wp2
  go_ret
  exact ⟨ret_int (by unfold natI; omega), by repeat (first | (with_reducible assumption) | (exact bel_undr (by with_reducible assumption)) | (with_reducible exact bel_refl _) | (with_reducible refine bel_dr ?_) | (with_reducible refine bel_drN ?_ _) | (with_reducible refine bel_al ?_ _) | (refine bel_set ?_ (by first | (simp; done) | (simp; exact Below.size (by assumption)) | (simp; omega)) _) | (with_reducible refine bel_tr ?_ (by assumption)))⟩

theorem nat_val {p v : Int} (h : natI p = v) (w : World) (h0 : 0 ≤ p) (h1 : p ≤ 1000000) : Calls Try.prog 29 #[.int .i64 p] w fun e w' => e = .returned (.int .i64 v) ∧ Below w.heap.size w w' := by
  subst h; exact nat_any p w h0 h1
set_option maxHeartbeats 1000000 in
theorem pk_any (s a o : Int) (w : World) :
    Calls Try.prog 12 #[.agg #[.int .i64 s, .int .i64 a, .int .i64 o]] w fun e w' => e = .returned (.int .i64 (pkI s a o)) ∧ Below w.heap.size w w' := by
  cases hv : pvB s a o
  · have e : pkI s a o = -100 := by unfold pkI; rw [hv]; rfl
    rw [e]; clear e
    go_enter Try.func12, Try.ntmps12
    go_wp2_with fail
    refine (pv_val hv _).mono ?_
    rintro e1 w1 ⟨rfl, b1⟩
    clear hv
    go_wp2
    go_ret
    exact ⟨rfl, by repeat (first | (with_reducible assumption) | (exact bel_undr (by with_reducible assumption)) | (with_reducible exact bel_refl _) | (with_reducible refine bel_dr ?_) | (with_reducible refine bel_drN ?_ _) | (with_reducible refine bel_al ?_ _) | (refine bel_set ?_ (by first | (simp; done) | (simp; exact Below.size (by assumption)) | (simp; omega)) _) | (with_reducible refine bel_tr ?_ (by assumption)))⟩
  · have e : pkI s a o = 12 * o + shI s + a := by unfold pkI; rw [hv]; rfl
    have HE := Lib.hid e
    clear e
    obtain ⟨h0, h1, h2, h3, h4, h5⟩ := pvB_bd hv
    have hs := shI_bd s
    go_enter Try.func12, Try.ntmps12
    go_wp2_with fail
    refine (pv_val hv _).mono ?_
    rintro e1 w1 ⟨rfl, b1⟩
    clear hv
    have q0 : w1.cell? ⟨w.heap.size, 0, none⟩ = some (.int .i64 s) := keep_tr (by simp) b1
    have q1 : w1.cell? ⟨w.heap.size, 1, none⟩ = some (.int .i64 a) := keep_tr (by simp) b1
    have q2 : w1.cell? ⟨w.heap.size, 2, none⟩ = some (.int .i64 o) := keep_tr (by simp) b1
    go_wp2_with fail
    have x1 := IntWalk.i64_in (12 * o) (by omega)
    have x2 := IntWalk.i64_in (12 * o + shI s) (by omega)
    have x3 := IntWalk.i64_in (12 * o + shI s + a) (by omega)
    have lf0 : ∀ x : Later w1, x.world.cell? ⟨w.heap.size, 0, none⟩ = some (.int .i64 s) := fun x => x.at (q0)
    have lf1 : ∀ x : Later w1, x.world.cell? ⟨w.heap.size, 1, none⟩ = some (.int .i64 a) := fun x => x.at (q1)
    have lf2 : ∀ x : Later w1, x.world.cell? ⟨w.heap.size, 2, none⟩ = some (.int .i64 o) := fun x => x.at (q2)
    refine region_later (w0 := w1) (by kernel_rfl) (by kernel_rfl) (bel_refl _) ?_
    repeat (go_big_quiet_step ((go_at_call 19; exact later_same (sh_any _ _ h0 h1))))
    refine wpQuiet_nil ?_
    rintro w' ⟨x, rfl⟩
    obtain ⟨w2, b2⟩ := x
    clear lf0 lf1 lf2
    clear x1 x2 x3
    go_wp2
    go_ret
    exact ⟨ret_int (by rw [HE.out]), by repeat (first | (with_reducible assumption) | (exact bel_undr (by with_reducible assumption)) | (with_reducible exact bel_refl _) | (with_reducible refine bel_dr ?_) | (with_reducible refine bel_drN ?_ _) | (with_reducible refine bel_al ?_ _) | (refine bel_set ?_ (by first | (simp; done) | (simp; exact Below.size (by assumption)) | (simp; omega)) _) | (with_reducible refine bel_tr ?_ (by assumption)))⟩
theorem pk_val {s a o v : Int} (h : pkI s a o = v) (w : World) :
    Calls Try.prog 12 #[.agg #[.int .i64 s, .int .i64 a, .int .i64 o]] w fun e w' => e = .returned (.int .i64 v) ∧ Below w.heap.size w w' := by
  subst h; exact pk_any s a o w

set_option maxHeartbeats 1000000 in
theorem spk_any (s a o : Int) (w : World) :
    Calls Try.prog 24 #[.agg #[.int .i64 s, .int .i64 a, .int .i64 o]] w fun e w' => e = .returned (.int .i64 (pkI s a o)) ∧ Below w.heap.size w w' := by
  cases hv : pvB s a o
  · have e : pkI s a o = -100 := by unfold pkI; rw [hv]; rfl
    rw [e]; clear e
    go_enter Try.func24, Try.ntmps24
    go_wp2_with fail
    refine (spv_val hv _).mono ?_
    rintro e1 w1 ⟨rfl, b1⟩
    clear hv
    go_wp2
    go_ret
    exact ⟨rfl, by repeat (first | (with_reducible assumption) | (exact bel_undr (by with_reducible assumption)) | (with_reducible exact bel_refl _) | (with_reducible refine bel_dr ?_) | (with_reducible refine bel_drN ?_ _) | (with_reducible refine bel_al ?_ _) | (refine bel_set ?_ (by first | (simp; done) | (simp; exact Below.size (by assumption)) | (simp; omega)) _) | (with_reducible refine bel_tr ?_ (by assumption)))⟩
  · have e : pkI s a o = 12 * o + shI s + a := by unfold pkI; rw [hv]; rfl
    have HE := Lib.hid e
    clear e
    obtain ⟨h0, h1, h2, h3, h4, h5⟩ := pvB_bd hv
    have hs := shI_bd s
    go_enter Try.func24, Try.ntmps24
    go_wp2_with fail
    refine (spv_val hv _).mono ?_
    rintro e1 w1 ⟨rfl, b1⟩
    clear hv
    have q0 : w1.cell? ⟨w.heap.size, 0, none⟩ = some (.int .i64 s) := keep_tr (by simp) b1
    have q1 : w1.cell? ⟨w.heap.size, 1, none⟩ = some (.int .i64 a) := keep_tr (by simp) b1
    have q2 : w1.cell? ⟨w.heap.size, 2, none⟩ = some (.int .i64 o) := keep_tr (by simp) b1
    go_wp2_with fail
    have hn := natI_of o s h0 h1
    have x0 := IntWalk.i64_in (7 * o) (by omega)
    have x1 := IntWalk.i64_in (7 * o + s) (by omega)
    have x3 := IntWalk.i64_in (12 * o + shI s + a) (by omega)
    have HN := Lib.hid hn
    clear hn
    have lf0 : ∀ x : Later w1, x.world.cell? ⟨w.heap.size, 0, none⟩ = some (.int .i64 s) := fun x => x.at (q0)
    have lf1 : ∀ x : Later w1, x.world.cell? ⟨w.heap.size, 1, none⟩ = some (.int .i64 a) := fun x => x.at (q1)
    have lf2 : ∀ x : Later w1, x.world.cell? ⟨w.heap.size, 2, none⟩ = some (.int .i64 o) := fun x => x.at (q2)
    refine region_later (w0 := w1) (by kernel_rfl) (by kernel_rfl) (bel_refl _) ?_
    repeat (go_big_quiet_step ((go_at_call 29; exact later_call (nat_val HN.out _ (by omega) (by omega)))))
    refine wpQuiet_nil ?_
    rintro w' ⟨x, rfl⟩
    obtain ⟨w2, b2⟩ := x
    clear lf0 lf1 lf2
    clear x0 x1 x3
    go_wp2
    go_ret
    exact ⟨ret_int (by rw [HE.out]), by repeat (first | (with_reducible assumption) | (exact bel_undr (by with_reducible assumption)) | (with_reducible exact bel_refl _) | (with_reducible refine bel_dr ?_) | (with_reducible refine bel_drN ?_ _) | (with_reducible refine bel_al ?_ _) | (refine bel_set ?_ (by first | (simp; done) | (simp; exact Below.size (by assumption)) | (simp; omega)) _) | (with_reducible refine bel_tr ?_ (by assumption)))⟩
theorem spk_val {s a o v : Int} (h : pkI s a o = v) (w : World) :
    Calls Try.prog 24 #[.agg #[.int .i64 s, .int .i64 a, .int .i64 o]] w fun e w' => e = .returned (.int .i64 v) ∧ Below w.heap.size w w' := by
  subst h; exact spk_any s a o w
end Go.Proofs.Ytaieamobjbckdaa
