/- Pitches: when one is valid, and its key; of the program and of the reference. Keys: the alteration of a step in a key, and whether a pitch is in a key; of the program and of the reference. Whether a pitch is in a key; of the program and of the reference. A claim for all numbers below k, one number more. Intervals: when one is valid; of the program and of the reference. A region that draws its order, whose first operations only read or call what only makes memory, and whose last ones come up one by one behind them (an append, a store): the first walked once in whatever later world, the last in the order of the text. The pitch to which an interval leads; of the program and of the reference. A region whose first operations read, or call what only makes memory, with an allocation that may come up anywhere among them, and a tail behind all. -/
import Derived.Test.YtdmidimjbhkjoaaBa
import Derived.StillTail
import Derived.Deep.RegionWith
import Derived.Deep.DeepCutAuto
import Derived.Control
namespace Go.Proofs.Ytdmidimjbhkjoaa
set_option linter.unusedSimpArgs false
set_option linter.unusedVariables false
section
open Go.RowKit

def shI (s : Int) : Int := ([0, 2, 4, 5, 7, 9, 11] : List Int).getD s.toNat 0
def pvB (s a o : Int) : Bool := decide (0 ≤ s ∧ s ≤ 6 ∧ -2 ≤ a ∧ a ≤ 2 ∧ 0 ≤ o ∧ o ≤ 8)
def pkI (s a o : Int) : Int := if pvB s a o then 12 * o + shI s + a else -100
theorem shI_bd (s : Int) : 0 ≤ shI s ∧ shI s ≤ 11 := by
  unfold shI
  have k : ∀ n : Nat, 0 ≤ ([0, 2, 4, 5, 7, 9, 11] : List Int).getD n 0 ∧ ([0, 2, 4, 5, 7, 9, 11] : List Int).getD n 0 ≤ 11 := by
    intro n
    match n with
    | 0 => simp
    | 1 => simp
    | 2 => simp
    | 3 => simp
    | 4 => simp
    | 5 => simp
    | 6 => simp
    | n + 7 => simp
  exact k _
theorem pvB_bd {s a o : Int} (h : pvB s a o = true) : 0 ≤ s ∧ s ≤ 6 ∧ -2 ≤ a ∧ a ≤ 2 ∧ 0 ≤ o ∧ o ≤ 8 := of_decide_eq_true h
theorem pkI_bd (s a o : Int) : -100 ≤ pkI s a o ∧ pkI s a o ≤ 109 := by
  unfold pkI
  cases h : pvB s a o
  · rw [if_neg (by simp)]; omega
  · obtain ⟨h0, h1, h2, h3, h4, h5⟩ := pvB_bd h
    have := shI_bd s
    rw [if_pos rfl]; omega
theorem pv_cases (s a o : Int) : (0 ≤ s ∧ s ≤ 6 ∧ -2 ≤ a ∧ a ≤ 2 ∧ 0 ≤ o ∧ o ≤ 8) ∨ (0 ≤ s ∧ s ≤ 6 ∧ -2 ≤ a ∧ a ≤ 2 ∧ (o < 0 ∨ 8 < o)) ∨ (0 ≤ s ∧ s ≤ 6 ∧ (a < -2 ∨ 2 < a)) ∨ (s < 0 ∨ 6 < s) := by omega

set_option maxHeartbeats 1000000 in
theorem pv_any (s a o : Int) (w : World) :
    Calls Try.prog 20 #[.agg #[.int .i64 s, .int .i64 a, .int .i64 o]] w fun e w' => e = .returned (.bool (pvB s a o)) ∧ Below w.heap.size w w' := by
  rcases pv_cases s a o with h | h | h | h
  · have e : pvB s a o = true := decide_eq_true h
    rw [e]; clear e
    obtain ⟨h0, h1, h2, h3, h4, h5⟩ := h
    go_enter Try.func20, Try.ntmps20
    go_wp2_with (first | (go_at_call 36; refine (win_yes _ _ _ _ (by omega) (by omega)).mono ?_; rintro e w' ⟨rfl, rfl⟩) | (go_at_call 36; refine (win_no _ _ _ _ (by omega)).mono ?_; rintro e w' ⟨rfl, rfl⟩))
    go_ret
    exact ⟨rfl, by repeat (first | (with_reducible assumption) | (exact bel_undr (by with_reducible assumption)) | (with_reducible exact bel_refl _) | (with_reducible refine bel_dr ?_) | (with_reducible refine bel_drN ?_ _) | (with_reducible refine bel_al ?_ _) | (refine bel_set ?_ (by first | (simp; done) | (simp; exact Below.size (by assumption)) | (simp; omega)) _) | (with_reducible refine bel_tr ?_ (by assumption)))⟩
  · have e : pvB s a o = false := decide_eq_false (by omega)
    rw [e]; clear e
    obtain ⟨h0, h1, h2, h3, h4⟩ := h
    go_enter Try.func20, Try.ntmps20
    go_wp2_with (first | (go_at_call 36; refine (win_yes _ _ _ _ (by omega) (by omega)).mono ?_; rintro e w' ⟨rfl, rfl⟩) | (go_at_call 36; refine (win_no _ _ _ _ (by omega)).mono ?_; rintro e w' ⟨rfl, rfl⟩))
    go_ret
    exact ⟨rfl, by repeat (first | (with_reducible assumption) | (exact bel_undr (by with_reducible assumption)) | (with_reducible exact bel_refl _) | (with_reducible refine bel_dr ?_) | (with_reducible refine bel_drN ?_ _) | (with_reducible refine bel_al ?_ _) | (refine bel_set ?_ (by first | (simp; done) | (simp; exact Below.size (by assumption)) | (simp; omega)) _) | (with_reducible refine bel_tr ?_ (by assumption)))⟩
  · have e : pvB s a o = false := decide_eq_false (by omega)
    rw [e]; clear e
    obtain ⟨h0, h1, h2⟩ := h
    go_enter Try.func20, Try.ntmps20
    go_wp2_with (first | (go_at_call 36; refine (win_yes _ _ _ _ (by omega) (by omega)).mono ?_; rintro e w' ⟨rfl, rfl⟩) | (go_at_call 36; refine (win_no _ _ _ _ (by omega)).mono ?_; rintro e w' ⟨rfl, rfl⟩))
    go_ret
    exact ⟨rfl, by repeat (first | (with_reducible assumption) | (exact bel_undr (by with_reducible assumption)) | (with_reducible exact bel_refl _) | (with_reducible refine bel_dr ?_) | (with_reducible refine bel_drN ?_ _) | (with_reducible refine bel_al ?_ _) | (refine bel_set ?_ (by first | (simp; done) | (simp; exact Below.size (by assumption)) | (simp; omega)) _) | (with_reducible refine bel_tr ?_ (by assumption)))⟩
  · have e : pvB s a o = false := decide_eq_false (by omega)
    rw [e]; clear e
    go_enter Try.func20, Try.ntmps20
    go_wp2_with (first | (go_at_call 36; refine (win_yes _ _ _ _ (by omega) (by omega)).mono ?_; rintro e w' ⟨rfl, rfl⟩) | (go_at_call 36; refine (win_no _ _ _ _ (by omega)).mono ?_; rintro e w' ⟨rfl, rfl⟩))
    go_ret
    exact ⟨rfl, by repeat (first | (with_reducible assumption) | (exact bel_undr (by with_reducible assumption)) | (with_reducible exact bel_refl _) | (with_reducible refine bel_dr ?_) | (with_reducible refine bel_drN ?_ _) | (with_reducible refine bel_al ?_ _) | (refine bel_set ?_ (by first | (simp; done) | (simp; exact Below.size (by assumption)) | (simp; omega)) _) | (with_reducible refine bel_tr ?_ (by assumption)))⟩
theorem pv_val {s a o : Int} {v : Bool} (h : pvB s a o = v) (w : World) :
    Calls Try.prog 20 #[.agg #[.int .i64 s, .int .i64 a, .int .i64 o]] w fun e w' => e = .returned (.bool v) ∧ Below w.heap.size w w' := by
  subst h; exact pv_any s a o w

set_option maxHeartbeats 1000000 in
theorem spv_any (s a o : Int) (w : World) :
    Calls Try.prog 18 #[.agg #[.int .i64 s, .int .i64 a, .int .i64 o]] w fun e w' => e = .returned (.bool (pvB s a o)) ∧ Below w.heap.size w w' := by
  rcases pv_cases s a o with h | h | h | h
  · have e : pvB s a o = true := decide_eq_true h
    rw [e]; clear e
    obtain ⟨h0, h1, h2, h3, h4, h5⟩ := h
    go_enter Try.func18, Try.ntmps18
    go_wp2_with (first | (go_at_call 37; refine (swin_yes _ _ _ _ (by omega) (by omega)).mono ?_; rintro e w' ⟨rfl, rfl⟩) | (go_at_call 37; refine (swin_no _ _ _ _ (by omega)).mono ?_; rintro e w' ⟨rfl, rfl⟩))
    go_ret
    exact ⟨rfl, by repeat (first | (with_reducible assumption) | (exact bel_undr (by with_reducible assumption)) | (with_reducible exact bel_refl _) | (with_reducible refine bel_dr ?_) | (with_reducible refine bel_drN ?_ _) | (with_reducible refine bel_al ?_ _) | (refine bel_set ?_ (by first | (simp; done) | (simp; exact Below.size (by assumption)) | (simp; omega)) _) | (with_reducible refine bel_tr ?_ (by assumption)))⟩
  · have e : pvB s a o = false := decide_eq_false (by omega)
    rw [e]; clear e
    obtain ⟨h0, h1, h2, h3, h4⟩ := h
    go_enter Try.func18, Try.ntmps18
    go_wp2_with (first | (go_at_call 37; refine (swin_yes _ _ _ _ (by omega) (by omega)).mono ?_; rintro e w' ⟨rfl, rfl⟩) | (go_at_call 37; refine (swin_no _ _ _ _ (by omega)).mono ?_; rintro e w' ⟨rfl, rfl⟩))
    go_ret
    exact ⟨rfl, by repeat (first | (with_reducible assumption) | (exact bel_undr (by with_reducible assumption)) | (with_reducible exact bel_refl _) | (with_reducible refine bel_dr ?_) | (with_reducible refine bel_drN ?_ _) | (with_reducible refine bel_al ?_ _) | (refine bel_set ?_ (by first | (simp; done) | (simp; exact Below.size (by assumption)) | (simp; omega)) _) | (with_reducible refine bel_tr ?_ (by assumption)))⟩
  · have e : pvB s a o = false := decide_eq_false (by omega)
    rw [e]; clear e
    obtain ⟨h0, h1, h2⟩ := h
    go_enter Try.func18, Try.ntmps18
    go_wp2_with (first | (go_at_call 37; refine (swin_yes _ _ _ _ (by omega) (by omega)).mono ?_; rintro e w' ⟨rfl, rfl⟩) | (go_at_call 37; refine (swin_no _ _ _ _ (by omega)).mono ?_; rintro e w' ⟨rfl, rfl⟩))
    go_ret
    exact ⟨rfl, by repeat (first | (with_reducible assumption) | (exact bel_undr (by with_reducible assumption)) | (with_reducible exact bel_refl _) | (with_reducible refine bel_dr ?_) | (with_reducible refine bel_drN ?_ _) | (with_reducible refine bel_al ?_ _) | (refine bel_set ?_ (by first | (simp; done) | (simp; exact Below.size (by assumption)) | (simp; omega)) _) | (with_reducible refine bel_tr ?_ (by assumption)))⟩
  · have e : pvB s a o = false := decide_eq_false (by omega)
    rw [e]; clear e
    go_enter Try.func18, Try.ntmps18
    go_wp2_with (first | (go_at_call 37; refine (swin_yes _ _ _ _ (by omega) (by omega)).mono ?_; rintro e w' ⟨rfl, rfl⟩) | (go_at_call 37; refine (swin_no _ _ _ _ (by omega)).mono ?_; rintro e w' ⟨rfl, rfl⟩))
    go_ret
    exact ⟨rfl, by repeat (first | (with_reducible assumption) | (exact bel_undr (by with_reducible assumption)) | (with_reducible exact bel_refl _) | (with_reducible refine bel_dr ?_) | (with_reducible refine bel_drN ?_ _) | (with_reducible refine bel_al ?_ _) | (refine bel_set ?_ (by first | (simp; done) | (simp; exact Below.size (by assumption)) | (simp; omega)) _) | (with_reducible refine bel_tr ?_ (by assumption)))⟩
theorem spv_val {s a o : Int} {v : Bool} (h : pvB s a o = v) (w : World) :
    Calls Try.prog 18 #[.agg #[.int .i64 s, .int .i64 a, .int .i64 o]] w fun e w' => e = .returned (.bool v) ∧ Below w.heap.size w w' := by
  subst h; exact spv_any s a o w
theorem pix0 : ∀ w : World, (Instr.index 63 (.agg #[.int .i64 0, .int .i64 2, .int .i64 4, .int .i64 5, .int .i64 7, .int .i64 9, .int .i64 11]) (.int .i64 0)).run Try.prog w = .ok (.int .i64 0) w := fun _ => by kernel_rfl
theorem pix1 : ∀ w : World, (Instr.index 63 (.agg #[.int .i64 0, .int .i64 2, .int .i64 4, .int .i64 5, .int .i64 7, .int .i64 9, .int .i64 11]) (.int .i64 1)).run Try.prog w = .ok (.int .i64 2) w := fun _ => by kernel_rfl
theorem pix2 : ∀ w : World, (Instr.index 63 (.agg #[.int .i64 0, .int .i64 2, .int .i64 4, .int .i64 5, .int .i64 7, .int .i64 9, .int .i64 11]) (.int .i64 2)).run Try.prog w = .ok (.int .i64 4) w := fun _ => by kernel_rfl
theorem pix3 : ∀ w : World, (Instr.index 63 (.agg #[.int .i64 0, .int .i64 2, .int .i64 4, .int .i64 5, .int .i64 7, .int .i64 9, .int .i64 11]) (.int .i64 3)).run Try.prog w = .ok (.int .i64 5) w := fun _ => by kernel_rfl
theorem pix4 : ∀ w : World, (Instr.index 63 (.agg #[.int .i64 0, .int .i64 2, .int .i64 4, .int .i64 5, .int .i64 7, .int .i64 9, .int .i64 11]) (.int .i64 4)).run Try.prog w = .ok (.int .i64 7) w := fun _ => by kernel_rfl
theorem pix5 : ∀ w : World, (Instr.index 63 (.agg #[.int .i64 0, .int .i64 2, .int .i64 4, .int .i64 5, .int .i64 7, .int .i64 9, .int .i64 11]) (.int .i64 5)).run Try.prog w = .ok (.int .i64 9) w := fun _ => by kernel_rfl
theorem pix6 : ∀ w : World, (Instr.index 63 (.agg #[.int .i64 0, .int .i64 2, .int .i64 4, .int .i64 5, .int .i64 7, .int .i64 9, .int .i64 11]) (.int .i64 6)).run Try.prog w = .ok (.int .i64 11) w := fun _ => by kernel_rfl

set_option maxHeartbeats 1000000 in
theorem sh_any (s : Int) (w : World) (h0 : 0 ≤ s) (h1 : s ≤ 6) : Calls Try.prog 21 #[.int .i64 s] w fun e w' => e = .returned (.int .i64 (shI s)) ∧ w = w' := by
  rcases (show s = 0 ∨ s = 1 ∨ s = 2 ∨ s = 3 ∨ s = 4 ∨ s = 5 ∨ s = 6 from by omega) with rfl | rfl | rfl | rfl | rfl | rfl | rfl
  · have k := pix0
    go_enter Try.func21, Try.ntmps21
    go_wp2
    go_ret
    exact ⟨rfl, rfl⟩
  · have k := pix1
    go_enter Try.func21, Try.ntmps21
    go_wp2
    go_ret
    exact ⟨rfl, rfl⟩
  · have k := pix2
    go_enter Try.func21, Try.ntmps21
    go_wp2
    go_ret
    exact ⟨rfl, rfl⟩
  · have k := pix3
    go_enter Try.func21, Try.ntmps21
    go_wp2
    go_ret
    exact ⟨rfl, rfl⟩
  · have k := pix4
    go_enter Try.func21, Try.ntmps21
    go_wp2
    go_ret
    exact ⟨rfl, rfl⟩
  · have k := pix5
    go_enter Try.func21, Try.ntmps21
    go_wp2
    go_ret
    exact ⟨rfl, rfl⟩
  · have k := pix6
    go_enter Try.func21, Try.ntmps21
    go_wp2
    go_ret
    exact ⟨rfl, rfl⟩

/-- the half tones of a place, without alterations -/
def natI (p : Int) : Int := 12 * (p / 7) + shI (p % 7)
theorem natI_of (o s : Int) (h0 : 0 ≤ s) (h1 : s ≤ 6) : natI (7 * o + s) = 12 * o + shI s := by
  unfold natI
  rw [show (7 * o + s) / 7 = o from by omega, show (7 * o + s) % 7 = s from by omega]
theorem natI_bd (p : Int) (h0 : 0 ≤ p) (h1 : p ≤ 1000000) : 0 ≤ natI p ∧ natI p ≤ 2000000 := by
  have := shI_bd (p % 7)
  unfold natI; omega
set_option maxHeartbeats 1000000 in
theorem nat_any (p : Int) (w : World) (h0 : 0 ≤ p) (h1 : p ≤ 1000000) : Calls Try.prog 55 #[.int .i64 p] w fun e w' => e = .returned (.int .i64 (natI p)) ∧ Below w.heap.size w w' := by
  have hp : ¬ p < 0 := by omega
  have hb := shI_bd (p % 7)
  have hm0 : 0 ≤ p % 7 := by omega
  have hm1 : p % 7 < 7 := by omega
  have hd0 : 0 ≤ p / 7 := by omega
  have hd1 : p / 7 ≤ 1000000 := by omega
  have hx : ∀ h, (#[Value.int .i64 0, Value.int .i64 2, Value.int .i64 4, Value.int .i64 5, Value.int .i64 7, Value.int .i64 9, Value.int .i64 11] : Array Value)[(p % 7).toNat]'h = .int .i64 (shI (p % 7)) := by
    generalize p % 7 = m at *
    rcases (show m = 0 ∨ m = 1 ∨ m = 2 ∨ m = 3 ∨ m = 4 ∨ m = 5 ∨ m = 6 from by omega) with rfl | rfl | rfl | rfl | rfl | rfl | rfl <;> exact fun _ => rfl
  have HX := hx (by simp; omega)
  go_enter Try.func55, Try.ntmps55
  go_wp2
  refine wp_loop_rounds 1 ?_
  rw [rounds_succ]
  go_wp2
  go_ret
  exact ⟨ret_int (by unfold natI; omega), by repeat (first | (with_reducible assumption) | (exact bel_undr (by with_reducible assumption)) | (with_reducible exact bel_refl _) | (with_reducible refine bel_dr ?_) | (with_reducible refine bel_drN ?_ _) | (with_reducible refine bel_al ?_ _) | (refine bel_set ?_ (by first | (simp; done) | (simp; exact Below.size (by assumption)) | (simp; omega)) _) | (with_reducible refine bel_tr ?_ (by assumption)))⟩

theorem nat_val {p v : Int} (h : natI p = v) (w : World) (h0 : 0 ≤ p) (h1 : p ≤ 1000000) : Calls Try.prog 55 #[.int .i64 p] w fun e w' => e = .returned (.int .i64 v) ∧ Below w.heap.size w w' := by
  subst h; exact nat_any p w h0 h1
set_option maxHeartbeats 1000000 in
theorem pk_any (s a o : Int) (w : World) :
    Calls Try.prog 9 #[.agg #[.int .i64 s, .int .i64 a, .int .i64 o]] w fun e w' => e = .returned (.int .i64 (pkI s a o)) ∧ Below w.heap.size w w' := by
  cases hv : pvB s a o
  · have e : pkI s a o = -100 := by unfold pkI; rw [hv]; rfl
    rw [e]; clear e
    go_enter Try.func9, Try.ntmps9
    go_wp2_with fail
    refine (pv_val hv _).mono ?_
    rintro e1 w1 ⟨rfl, b1⟩
    clear hv
    go_wp2
    go_ret
    exact ⟨rfl, by repeat (first | (with_reducible assumption) | (exact bel_undr (by with_reducible assumption)) | (with_reducible exact bel_refl _) | (with_reducible refine bel_dr ?_) | (with_reducible refine bel_drN ?_ _) | (with_reducible refine bel_al ?_ _) | (refine bel_set ?_ (by first | (simp; done) | (simp; exact Below.size (by assumption)) | (simp; omega)) _) | (with_reducible refine bel_tr ?_ (by assumption)))⟩
  · have e : pkI s a o = 12 * o + shI s + a := by unfold pkI; rw [hv]; rfl
    have HE := Lib.hid e
    clear e
    obtain ⟨h0, h1, h2, h3, h4, h5⟩ := pvB_bd hv
    have hs := shI_bd s
    go_enter Try.func9, Try.ntmps9
    go_wp2_with fail
    refine (pv_val hv _).mono ?_
    rintro e1 w1 ⟨rfl, b1⟩
    clear hv
    have q0 : w1.cell? ⟨w.heap.size, 0, none⟩ = some (.int .i64 s) := keep_tr (by simp) b1
    have q1 : w1.cell? ⟨w.heap.size, 1, none⟩ = some (.int .i64 a) := keep_tr (by simp) b1
    have q2 : w1.cell? ⟨w.heap.size, 2, none⟩ = some (.int .i64 o) := keep_tr (by simp) b1
    go_wp2_with fail
    have x1 := IntWalk.i64_in (12 * o) (by omega)
    have x2 := IntWalk.i64_in (12 * o + shI s) (by omega)
    have x3 := IntWalk.i64_in (12 * o + shI s + a) (by omega)
    have lf0 : ∀ x : Later w1, x.world.cell? ⟨w.heap.size, 0, none⟩ = some (.int .i64 s) := fun x => x.at (q0)
    have lf1 : ∀ x : Later w1, x.world.cell? ⟨w.heap.size, 1, none⟩ = some (.int .i64 a) := fun x => x.at (q1)
    have lf2 : ∀ x : Later w1, x.world.cell? ⟨w.heap.size, 2, none⟩ = some (.int .i64 o) := fun x => x.at (q2)
    refine region_later (w0 := w1) (by kernel_rfl) (by kernel_rfl) (bel_refl _) ?_
    repeat (go_big_quiet_step ((go_at_call 21; exact later_same (sh_any _ _ h0 h1))))
    refine wpQuiet_nil ?_
    rintro w' ⟨x, rfl⟩
    obtain ⟨w2, b2⟩ := x
    clear lf0 lf1 lf2
    clear x1 x2 x3
    go_wp2
    go_ret
    exact ⟨ret_int (by rw [HE.out]), by repeat (first | (with_reducible assumption) | (exact bel_undr (by with_reducible assumption)) | (with_reducible exact bel_refl _) | (with_reducible refine bel_dr ?_) | (with_reducible refine bel_drN ?_ _) | (with_reducible refine bel_al ?_ _) | (refine bel_set ?_ (by first | (simp; done) | (simp; exact Below.size (by assumption)) | (simp; omega)) _) | (with_reducible refine bel_tr ?_ (by assumption)))⟩
theorem pk_val {s a o v : Int} (h : pkI s a o = v) (w : World) :
    Calls Try.prog 9 #[.agg #[.int .i64 s, .int .i64 a, .int .i64 o]] w fun e w' => e = .returned (.int .i64 v) ∧ Below w.heap.size w w' := by
  subst h; exact pk_any s a o w

set_option maxHeartbeats 1000000 in
theorem spk_any (s a o : Int) (w : World) :
    Calls Try.prog 50 #[.agg #[.int .i64 s, .int .i64 a, .int .i64 o]] w fun e w' => e = .returned (.int .i64 (pkI s a o)) ∧ Below w.heap.size w w' := by
  cases hv : pvB s a o
  · have e : pkI s a o = -100 := by unfold pkI; rw [hv]; rfl
    rw [e]; clear e
    go_enter Try.func50, Try.ntmps50
    go_wp2_with fail
    refine (spv_val hv _).mono ?_
    rintro e1 w1 ⟨rfl, b1⟩
    clear hv
    go_wp2
    go_ret
    exact ⟨rfl, by repeat (first | (with_reducible assumption) | (exact bel_undr (by with_reducible assumption)) | (with_reducible exact bel_refl _) | (with_reducible refine bel_dr ?_) | (with_reducible refine bel_drN ?_ _) | (with_reducible refine bel_al ?_ _) | (refine bel_set ?_ (by first | (simp; done) | (simp; exact Below.size (by assumption)) | (simp; omega)) _) | (with_reducible refine bel_tr ?_ (by assumption)))⟩
  · have e : pkI s a o = 12 * o + shI s + a := by unfold pkI; rw [hv]; rfl
    have HE := Lib.hid e
    clear e
    obtain ⟨h0, h1, h2, h3, h4, h5⟩ := pvB_bd hv
    have hs := shI_bd s
    go_enter Try.func50, Try.ntmps50
    go_wp2_with fail
    refine (spv_val hv _).mono ?_
    rintro e1 w1 ⟨rfl, b1⟩
    clear hv
    have q0 : w1.cell? ⟨w.heap.size, 0, none⟩ = some (.int .i64 s) := keep_tr (by simp) b1
    have q1 : w1.cell? ⟨w.heap.size, 1, none⟩ = some (.int .i64 a) := keep_tr (by simp) b1
    have q2 : w1.cell? ⟨w.heap.size, 2, none⟩ = some (.int .i64 o) := keep_tr (by simp) b1
    go_wp2_with fail
    have hn := natI_of o s h0 h1
    have x0 := IntWalk.i64_in (7 * o) (by omega)
    have x1 := IntWalk.i64_in (7 * o + s) (by omega)
    have x3 := IntWalk.i64_in (12 * o + shI s + a) (by omega)
    have HN := Lib.hid hn
    clear hn
    have lf0 : ∀ x : Later w1, x.world.cell? ⟨w.heap.size, 0, none⟩ = some (.int .i64 s) := fun x => x.at (q0)
    have lf1 : ∀ x : Later w1, x.world.cell? ⟨w.heap.size, 1, none⟩ = some (.int .i64 a) := fun x => x.at (q1)
    have lf2 : ∀ x : Later w1, x.world.cell? ⟨w.heap.size, 2, none⟩ = some (.int .i64 o) := fun x => x.at (q2)
    refine region_later (w0 := w1) (by kernel_rfl) (by kernel_rfl) (bel_refl _) ?_
    repeat (go_big_quiet_step ((go_at_call 55; exact later_call (nat_val HN.out _ (by omega) (by omega)))))
    refine wpQuiet_nil ?_
    rintro w' ⟨x, rfl⟩
    obtain ⟨w2, b2⟩ := x
    clear lf0 lf1 lf2
    clear x0 x1 x3
    go_wp2
    go_ret
    exact ⟨ret_int (by rw [HE.out]), by repeat (first | (with_reducible assumption) | (exact bel_undr (by with_reducible assumption)) | (with_reducible exact bel_refl _) | (with_reducible refine bel_dr ?_) | (with_reducible refine bel_drN ?_ _) | (with_reducible refine bel_al ?_ _) | (refine bel_set ?_ (by first | (simp; done) | (simp; exact Below.size (by assumption)) | (simp; omega)) _) | (with_reducible refine bel_tr ?_ (by assumption)))⟩
theorem spk_val {s a o v : Int} (h : pkI s a o = v) (w : World) :
    Calls Try.prog 50 #[.agg #[.int .i64 s, .int .i64 a, .int .i64 o]] w fun e w' => e = .returned (.int .i64 v) ∧ Below w.heap.size w w' := by
  subst h; exact spk_any s a o w
end
section
open Go.RowKit

def ordI (s : Int) : Int := ([1, 3, 5, 0, 2, 4, 6] : List Int).getD s.toNat 0
def alI (f s : Int) : Int := if ordI s < f then 1 else if f < ordI s - 6 then -1 else 0
def kaI (f s : Int) : Int := if (-7 ≤ f ∧ f ≤ 7) ∧ 0 ≤ s ∧ s ≤ 6 then alI f s else 0
theorem alI_bd (f s : Int) : -1 ≤ alI f s ∧ alI f s ≤ 1 := by unfold alI; split <;> (try split) <;> omega
theorem kaI_bd (f s : Int) : -1 ≤ kaI f s ∧ kaI f s ≤ 1 := by have := alI_bd f s; unfold kaI; split <;> omega
theorem ordI_bd {s : Int} (h0 : 0 ≤ s) (h1 : s ≤ 6) : 0 ≤ ordI s ∧ ordI s ≤ 6 := by
  rcases (show s = 0 ∨ s = 1 ∨ s = 2 ∨ s = 3 ∨ s = 4 ∨ s = 5 ∨ s = 6 from by omega) with rfl | rfl | rfl | rfl | rfl | rfl | rfl <;> exact ⟨by decide +kernel, by decide +kernel⟩
def ordA (k : Nat) : Int := ([3, 0, 4, 1, 5, 2, 6] : List Int).getD k 0
theorem ordA_ord {s : Int} (h0 : 0 ≤ s) (h1 : s ≤ 6) : ordA (ordI s).toNat = s ∧ ordI (ordA (ordI s).toNat) = ordI s := by
  rcases (show s = 0 ∨ s = 1 ∨ s = 2 ∨ s = 3 ∨ s = 4 ∨ s = 5 ∨ s = 6 from by omega) with rfl | rfl | rfl | rfl | rfl | rfl | rfl <;> exact ⟨by decide +kernel, by decide +kernel⟩
def ikB (f s a o : Int) : Bool := decide (-7 ≤ f ∧ f ≤ 7) && pvB s a o && (a == alI f s)
theorem boolw_to {P : Program} {f : FuncId} {args : Array Value} {w : World} {b v : Bool} (h : b = v) (H : Calls P f args w fun e w' => e = .returned (.bool v) ∧ Below w.heap.size w w') :
    Calls P f args w fun e w' => e = .returned (.bool b) ∧ Below w.heap.size w w' := by subst h; exact H
theorem intw_to {P : Program} {f : FuncId} {args : Array Value} {w : World} {b v : Int} (h : b = v) (H : Calls P f args w fun e w' => e = .returned (.int .i64 v) ∧ Below w.heap.size w w') :
    Calls P f args w fun e w' => e = .returned (.int .i64 b) ∧ Below w.heap.size w w' := by subst h; exact H

set_option maxHeartbeats 400000 in
theorem ik_yes (f : Int) (w : World) (h0 : -7 ≤ f) (h1 : f ≤ 7) : Calls Try.prog 22 #[.int .i64 f] w fun e w' => e = .returned (.bool true) ∧ w = w' := by
  go_enter Try.func22, Try.ntmps22
  go_wp2_with (go_at_call 36; refine (win_yes _ _ _ _ (by omega) (by omega)).mono ?_; rintro e w' ⟨rfl, rfl⟩)
  go_ret
  exact ⟨rfl, rfl⟩
set_option maxHeartbeats 400000 in
theorem ik_no (f : Int) (w : World) (h : f < -7 ∨ 7 < f) : Calls Try.prog 22 #[.int .i64 f] w fun e w' => e = .returned (.bool false) ∧ w = w' := by
  go_enter Try.func22, Try.ntmps22
  go_wp2_with (go_at_call 36; refine (win_no _ _ _ _ (by omega)).mono ?_; rintro e w' ⟨rfl, rfl⟩)
  go_ret
  exact ⟨rfl, rfl⟩
theorem kix0 : ∀ w : World, (Instr.index 63 (.agg #[.int .i64 3, .int .i64 0, .int .i64 4, .int .i64 1, .int .i64 5, .int .i64 2, .int .i64 6]) (.int .i64 0)).run Try.prog w = .ok (.int .i64 3) w := fun _ => by kernel_rfl
theorem kix1 : ∀ w : World, (Instr.index 63 (.agg #[.int .i64 3, .int .i64 0, .int .i64 4, .int .i64 1, .int .i64 5, .int .i64 2, .int .i64 6]) (.int .i64 1)).run Try.prog w = .ok (.int .i64 0) w := fun _ => by kernel_rfl
theorem kix2 : ∀ w : World, (Instr.index 63 (.agg #[.int .i64 3, .int .i64 0, .int .i64 4, .int .i64 1, .int .i64 5, .int .i64 2, .int .i64 6]) (.int .i64 2)).run Try.prog w = .ok (.int .i64 4) w := fun _ => by kernel_rfl
theorem kix3 : ∀ w : World, (Instr.index 63 (.agg #[.int .i64 3, .int .i64 0, .int .i64 4, .int .i64 1, .int .i64 5, .int .i64 2, .int .i64 6]) (.int .i64 3)).run Try.prog w = .ok (.int .i64 1) w := fun _ => by kernel_rfl
theorem kix4 : ∀ w : World, (Instr.index 63 (.agg #[.int .i64 3, .int .i64 0, .int .i64 4, .int .i64 1, .int .i64 5, .int .i64 2, .int .i64 6]) (.int .i64 4)).run Try.prog w = .ok (.int .i64 5) w := fun _ => by kernel_rfl
theorem kix5 : ∀ w : World, (Instr.index 63 (.agg #[.int .i64 3, .int .i64 0, .int .i64 4, .int .i64 1, .int .i64 5, .int .i64 2, .int .i64 6]) (.int .i64 5)).run Try.prog w = .ok (.int .i64 2) w := fun _ => by kernel_rfl
theorem kix6 : ∀ w : World, (Instr.index 63 (.agg #[.int .i64 3, .int .i64 0, .int .i64 4, .int .i64 1, .int .i64 5, .int .i64 2, .int .i64 6]) (.int .i64 6)).run Try.prog w = .ok (.int .i64 6) w := fun _ => by kernel_rfl

set_option maxHeartbeats 8000000 in
theorem ka_any (f s : Int) (w : World) : Calls Try.prog 23 #[.int .i64 f, .int .i64 s] w fun e w' => e = .returned (.int .i64 (kaI f s)) ∧ Below w.heap.size w w' := by
  by_cases h : (-7 ≤ f ∧ f ≤ 7) ∧ 0 ≤ s ∧ s ≤ 6
  · obtain ⟨⟨f0, f1⟩, s0, s1⟩ := h
    refine intw_to (v := alI f s) (by unfold kaI; rw [if_pos ⟨⟨f0, f1⟩, s0, s1⟩]) ?_
    go_enter Try.func23, Try.ntmps23
    go_wp2_with (first | (go_at_call 22; refine (ik_yes _ _ (by omega) (by omega)).mono ?_; rintro e w' ⟨rfl, rfl⟩) | (go_at_call 22; refine (ik_no _ _ (by omega)).mono ?_; rintro e w' ⟨rfl, rfl⟩) | (go_at_call 36; refine (win_yes _ _ _ _ (by omega) (by omega)).mono ?_; rintro e w' ⟨rfl, rfl⟩) | (go_at_call 36; refine (win_no _ _ _ _ (by omega)).mono ?_; rintro e w' ⟨rfl, rfl⟩))
    go_loopw [18] (fun i wr => ∃ k : Nat, k ≤ 7 ∧ i = .int .i64 k ∧ Below w.heap.size w wr ∧ Hid (∀ j : Nat, j < k → ordA j = s → ¬ (j : Int) < f ∧ ¬ 6 - (j : Int) < -f)) (fun i _ => 7 - (intOf i).toNat)
    case atStart => exact ⟨0, by omega, rfl, by repeat (first | (with_reducible assumption) | (exact bel_undr (by with_reducible assumption)) | (with_reducible exact bel_refl _) | (with_reducible refine bel_dr ?_) | (with_reducible refine bel_drN ?_ _) | (with_reducible refine bel_al ?_ _) | (refine bel_set ?_ (by first | (simp; done) | (simp; exact Below.size (by assumption)) | (simp; omega)) _) | (with_reducible refine bel_tr ?_ (by assumption))), fun j hj => absurd hj (by omega)⟩
    case round =>
      obtain ⟨k, hk, rfl, hb, HV⟩ := hrel
      rcases (show k = 0 ∨ k = 1 ∨ k = 2 ∨ k = 3 ∨ k = 4 ∨ k = 5 ∨ k = 6 ∨ k = 7 from by omega) with rfl | rfl | rfl | rfl | rfl | rfl | rfl | rfl
      · have e0 : (((0 : Nat) : Int)) = 0 := rfl
        rw [e0]
        clear e0 hk
        have kx := kix0
        by_cases hs : s = 3
        · subst hs
          have ho : ordI 3 = 0 := by decide +kernel
          by_cases c1 : (0 : Int) < f
          · have HE : Hid (alI f 3 = 1) := by show _ = _; unfold alI; rw [if_pos (by omega)]
            clear ho
            go_wp2
            go_ret
            exact ⟨ret_int HE.out.symm, by repeat (first | (with_reducible assumption) | (exact bel_undr (by with_reducible assumption)) | (with_reducible exact bel_refl _) | (with_reducible refine bel_dr ?_) | (with_reducible refine bel_drN ?_ _) | (with_reducible refine bel_al ?_ _) | (refine bel_set ?_ (by first | (simp; done) | (simp; exact Below.size (by assumption)) | (simp; omega)) _) | (with_reducible refine bel_tr ?_ (by assumption)))⟩
          · have d1 : decide ((0 : Int) < f) = false := by simp; omega
            by_cases c2 : (6 : Int) - 0 < -f
            · have HE : Hid (alI f 3 = -1) := by show _ = _; unfold alI; rw [if_neg (by omega), if_pos (by omega)]
              clear ho
              go_wp2
              go_ret
              exact ⟨ret_int HE.out.symm, by repeat (first | (with_reducible assumption) | (exact bel_undr (by with_reducible assumption)) | (with_reducible exact bel_refl _) | (with_reducible refine bel_dr ?_) | (with_reducible refine bel_drN ?_ _) | (with_reducible refine bel_al ?_ _) | (refine bel_set ?_ (by first | (simp; done) | (simp; exact Below.size (by assumption)) | (simp; omega)) _) | (with_reducible refine bel_tr ?_ (by assumption)))⟩
            · have HB : Hid (∀ j : Nat, j < 1 → ordA j = 3 → ¬ (j : Int) < f ∧ ¬ 6 - (j : Int) < -f) := fun j hj hs => by
                by_cases e : j = 0
                · subst e; exact ⟨by omega, by omega⟩
                · exact HV.out j (by omega) hs
              have d2 : decide ((6 : Int) - 0 < -f) = false := by simp; omega
              clear ho
              go_wp2
              go_roundw
              case rel => exact ⟨1, by omega, by go_num, by repeat (first | (with_reducible assumption) | (exact bel_undr (by with_reducible assumption)) | (with_reducible exact bel_refl _) | (with_reducible refine bel_dr ?_) | (with_reducible refine bel_drN ?_ _) | (with_reducible refine bel_al ?_ _) | (refine bel_set ?_ (by first | (simp; done) | (simp; exact Below.size (by assumption)) | (simp; omega)) _) | (with_reducible refine bel_tr ?_ (by assumption))), HB⟩
              case measure => simp [intOf]
        · have hs1 : ((3 : Int) == s) = false := by simp; omega
          have HB : Hid (∀ j : Nat, j < 1 → ordA j = s → ¬ (j : Int) < f ∧ ¬ 6 - (j : Int) < -f) := fun j hj hs' => by
            by_cases e : j = 0
            · subst e; exact absurd (show s = 3 from hs'.symm.trans (by decide +kernel)) hs
            · exact HV.out j (by omega) hs'
          clear hs
          go_wp2
          go_roundw
          case rel => exact ⟨1, by omega, by go_num, by repeat (first | (with_reducible assumption) | (exact bel_undr (by with_reducible assumption)) | (with_reducible exact bel_refl _) | (with_reducible refine bel_dr ?_) | (with_reducible refine bel_drN ?_ _) | (with_reducible refine bel_al ?_ _) | (refine bel_set ?_ (by first | (simp; done) | (simp; exact Below.size (by assumption)) | (simp; omega)) _) | (with_reducible refine bel_tr ?_ (by assumption))), HB⟩
          case measure => simp [intOf]
      · have e0 : (((1 : Nat) : Int)) = 1 := rfl
        rw [e0]
        clear e0 hk
        have kx := kix1
        by_cases hs : s = 0
        · subst hs
          have ho : ordI 0 = 1 := by decide +kernel
          by_cases c1 : (1 : Int) < f
          · have HE : Hid (alI f 0 = 1) := by show _ = _; unfold alI; rw [if_pos (by omega)]
            clear ho
            go_wp2
            go_ret
            exact ⟨ret_int HE.out.symm, by repeat (first | (with_reducible assumption) | (exact bel_undr (by with_reducible assumption)) | (with_reducible exact bel_refl _) | (with_reducible refine bel_dr ?_) | (with_reducible refine bel_drN ?_ _) | (with_reducible refine bel_al ?_ _) | (refine bel_set ?_ (by first | (simp; done) | (simp; exact Below.size (by assumption)) | (simp; omega)) _) | (with_reducible refine bel_tr ?_ (by assumption)))⟩
          · have d1 : decide ((1 : Int) < f) = false := by simp; omega
            by_cases c2 : (6 : Int) - 1 < -f
            · have HE : Hid (alI f 0 = -1) := by show _ = _; unfold alI; rw [if_neg (by omega), if_pos (by omega)]
              clear ho
              go_wp2
              go_ret
              exact ⟨ret_int HE.out.symm, by repeat (first | (with_reducible assumption) | (exact bel_undr (by with_reducible assumption)) | (with_reducible exact bel_refl _) | (with_reducible refine bel_dr ?_) | (with_reducible refine bel_drN ?_ _) | (with_reducible refine bel_al ?_ _) | (refine bel_set ?_ (by first | (simp; done) | (simp; exact Below.size (by assumption)) | (simp; omega)) _) | (with_reducible refine bel_tr ?_ (by assumption)))⟩
            · have HB : Hid (∀ j : Nat, j < 2 → ordA j = 0 → ¬ (j : Int) < f ∧ ¬ 6 - (j : Int) < -f) := fun j hj hs => by
                by_cases e : j = 1
                · subst e; exact ⟨by omega, by omega⟩
                · exact HV.out j (by omega) hs
              have d2 : decide ((6 : Int) - 1 < -f) = false := by simp; omega
              clear ho
              go_wp2
              go_roundw
              case rel => exact ⟨2, by omega, by go_num, by repeat (first | (with_reducible assumption) | (exact bel_undr (by with_reducible assumption)) | (with_reducible exact bel_refl _) | (with_reducible refine bel_dr ?_) | (with_reducible refine bel_drN ?_ _) | (with_reducible refine bel_al ?_ _) | (refine bel_set ?_ (by first | (simp; done) | (simp; exact Below.size (by assumption)) | (simp; omega)) _) | (with_reducible refine bel_tr ?_ (by assumption))), HB⟩
              case measure => simp [intOf]
        · have hs1 : ((0 : Int) == s) = false := by simp; omega
          have HB : Hid (∀ j : Nat, j < 2 → ordA j = s → ¬ (j : Int) < f ∧ ¬ 6 - (j : Int) < -f) := fun j hj hs' => by
            by_cases e : j = 1
            · subst e; exact absurd (show s = 0 from hs'.symm.trans (by decide +kernel)) hs
            · exact HV.out j (by omega) hs'
          clear hs
          go_wp2
          go_roundw
          case rel => exact ⟨2, by omega, by go_num, by repeat (first | (with_reducible assumption) | (exact bel_undr (by with_reducible assumption)) | (with_reducible exact bel_refl _) | (with_reducible refine bel_dr ?_) | (with_reducible refine bel_drN ?_ _) | (with_reducible refine bel_al ?_ _) | (refine bel_set ?_ (by first | (simp; done) | (simp; exact Below.size (by assumption)) | (simp; omega)) _) | (with_reducible refine bel_tr ?_ (by assumption))), HB⟩
          case measure => simp [intOf]
      · have e0 : (((2 : Nat) : Int)) = 2 := rfl
        rw [e0]
        clear e0 hk
        have kx := kix2
        by_cases hs : s = 4
        · subst hs
          have ho : ordI 4 = 2 := by decide +kernel
          by_cases c1 : (2 : Int) < f
          · have HE : Hid (alI f 4 = 1) := by show _ = _; unfold alI; rw [if_pos (by omega)]
            clear ho
            go_wp2
            go_ret
            exact ⟨ret_int HE.out.symm, by repeat (first | (with_reducible assumption) | (exact bel_undr (by with_reducible assumption)) | (with_reducible exact bel_refl _) | (with_reducible refine bel_dr ?_) | (with_reducible refine bel_drN ?_ _) | (with_reducible refine bel_al ?_ _) | (refine bel_set ?_ (by first | (simp; done) | (simp; exact Below.size (by assumption)) | (simp; omega)) _) | (with_reducible refine bel_tr ?_ (by assumption)))⟩
          · have d1 : decide ((2 : Int) < f) = false := by simp; omega
            by_cases c2 : (6 : Int) - 2 < -f
            · have HE : Hid (alI f 4 = -1) := by show _ = _; unfold alI; rw [if_neg (by omega), if_pos (by omega)]
              clear ho
              go_wp2
              go_ret
              exact ⟨ret_int HE.out.symm, by repeat (first | (with_reducible assumption) | (exact bel_undr (by with_reducible assumption)) | (with_reducible exact bel_refl _) | (with_reducible refine bel_dr ?_) | (with_reducible refine bel_drN ?_ _) | (with_reducible refine bel_al ?_ _) | (refine bel_set ?_ (by first | (simp; done) | (simp; exact Below.size (by assumption)) | (simp; omega)) _) | (with_reducible refine bel_tr ?_ (by assumption)))⟩
            · have HB : Hid (∀ j : Nat, j < 3 → ordA j = 4 → ¬ (j : Int) < f ∧ ¬ 6 - (j : Int) < -f) := fun j hj hs => by
                by_cases e : j = 2
                · subst e; exact ⟨by omega, by omega⟩
                · exact HV.out j (by omega) hs
              have d2 : decide ((6 : Int) - 2 < -f) = false := by simp; omega
              clear ho
              go_wp2
              go_roundw
              case rel => exact ⟨3, by omega, by go_num, by repeat (first | (with_reducible assumption) | (exact bel_undr (by with_reducible assumption)) | (with_reducible exact bel_refl _) | (with_reducible refine bel_dr ?_) | (with_reducible refine bel_drN ?_ _) | (with_reducible refine bel_al ?_ _) | (refine bel_set ?_ (by first | (simp; done) | (simp; exact Below.size (by assumption)) | (simp; omega)) _) | (with_reducible refine bel_tr ?_ (by assumption))), HB⟩
              case measure => simp [intOf]
        · have hs1 : ((4 : Int) == s) = false := by simp; omega
          have HB : Hid (∀ j : Nat, j < 3 → ordA j = s → ¬ (j : Int) < f ∧ ¬ 6 - (j : Int) < -f) := fun j hj hs' => by
            by_cases e : j = 2
            · subst e; exact absurd (show s = 4 from hs'.symm.trans (by decide +kernel)) hs
            · exact HV.out j (by omega) hs'
          clear hs
          go_wp2
          go_roundw
          case rel => exact ⟨3, by omega, by go_num, by repeat (first | (with_reducible assumption) | (exact bel_undr (by with_reducible assumption)) | (with_reducible exact bel_refl _) | (with_reducible refine bel_dr ?_) | (with_reducible refine bel_drN ?_ _) | (with_reducible refine bel_al ?_ _) | (refine bel_set ?_ (by first | (simp; done) | (simp; exact Below.size (by assumption)) | (simp; omega)) _) | (with_reducible refine bel_tr ?_ (by assumption))), HB⟩
          case measure => simp [intOf]
      · have e0 : (((3 : Nat) : Int)) = 3 := rfl
        rw [e0]
        clear e0 hk
        have kx := kix3
        by_cases hs : s = 1
        · subst hs
          have ho : ordI 1 = 3 := by decide +kernel
          by_cases c1 : (3 : Int) < f
          · have HE : Hid (alI f 1 = 1) := by show _ = _; unfold alI; rw [if_pos (by omega)]
            clear ho
            go_wp2
            go_ret
            exact ⟨ret_int HE.out.symm, by repeat (first | (with_reducible assumption) | (exact bel_undr (by with_reducible assumption)) | (with_reducible exact bel_refl _) | (with_reducible refine bel_dr ?_) | (with_reducible refine bel_drN ?_ _) | (with_reducible refine bel_al ?_ _) | (refine bel_set ?_ (by first | (simp; done) | (simp; exact Below.size (by assumption)) | (simp; omega)) _) | (with_reducible refine bel_tr ?_ (by assumption)))⟩
          · have d1 : decide ((3 : Int) < f) = false := by simp; omega
            by_cases c2 : (6 : Int) - 3 < -f
            · have HE : Hid (alI f 1 = -1) := by show _ = _; unfold alI; rw [if_neg (by omega), if_pos (by omega)]
              clear ho
              go_wp2
              go_ret
              exact ⟨ret_int HE.out.symm, by repeat (first | (with_reducible assumption) | (exact bel_undr (by with_reducible assumption)) | (with_reducible exact bel_refl _) | (with_reducible refine bel_dr ?_) | (with_reducible refine bel_drN ?_ _) | (with_reducible refine bel_al ?_ _) | (refine bel_set ?_ (by first | (simp; done) | (simp; exact Below.size (by assumption)) | (simp; omega)) _) | (with_reducible refine bel_tr ?_ (by assumption)))⟩
            · have HB : Hid (∀ j : Nat, j < 4 → ordA j = 1 → ¬ (j : Int) < f ∧ ¬ 6 - (j : Int) < -f) := fun j hj hs => by
                by_cases e : j = 3
                · subst e; exact ⟨by omega, by omega⟩
                · exact HV.out j (by omega) hs
              have d2 : decide ((6 : Int) - 3 < -f) = false := by simp; omega
              clear ho
              go_wp2
              go_roundw
              case rel => exact ⟨4, by omega, by go_num, by repeat (first | (with_reducible assumption) | (exact bel_undr (by with_reducible assumption)) | (with_reducible exact bel_refl _) | (with_reducible refine bel_dr ?_) | (with_reducible refine bel_drN ?_ _) | (with_reducible refine bel_al ?_ _) | (refine bel_set ?_ (by first | (simp; done) | (simp; exact Below.size (by assumption)) | (simp; omega)) _) | (with_reducible refine bel_tr ?_ (by assumption))), HB⟩
              case measure => simp [intOf]
        · have hs1 : ((1 : Int) == s) = false := by simp; omega
          have HB : Hid (∀ j : Nat, j < 4 → ordA j = s → ¬ (j : Int) < f ∧ ¬ 6 - (j : Int) < -f) := fun j hj hs' => by
            by_cases e : j = 3
            · subst e; exact absurd (show s = 1 from hs'.symm.trans (by decide +kernel)) hs
            · exact HV.out j (by omega) hs'
          clear hs
          go_wp2
          go_roundw
          case rel => exact ⟨4, by omega, by go_num, by repeat (first | (with_reducible assumption) | (exact bel_undr (by with_reducible assumption)) | (with_reducible exact bel_refl _) | (with_reducible refine bel_dr ?_) | (with_reducible refine bel_drN ?_ _) | (with_reducible refine bel_al ?_ _) | (refine bel_set ?_ (by first | (simp; done) | (simp; exact Below.size (by assumption)) | (simp; omega)) _) | (with_reducible refine bel_tr ?_ (by assumption))), HB⟩
          case measure => simp [intOf]
      · have e0 : (((4 : Nat) : Int)) = 4 := rfl
        rw [e0]
        clear e0 hk
        have kx := kix4
        by_cases hs : s = 5
        · subst hs
          have ho : ordI 5 = 4 := by decide +kernel
          by_cases c1 : (4 : Int) < f
          · have HE : Hid (alI f 5 = 1) := by show _ = _; unfold alI; rw [if_pos (by omega)]
            clear ho
            go_wp2
            go_ret
            exact ⟨ret_int HE.out.symm, by repeat (first | (with_reducible assumption) | (exact bel_undr (by with_reducible assumption)) | (with_reducible exact bel_refl _) | (with_reducible refine bel_dr ?_) | (with_reducible refine bel_drN ?_ _) | (with_reducible refine bel_al ?_ _) | (refine bel_set ?_ (by first | (simp; done) | (simp; exact Below.size (by assumption)) | (simp; omega)) _) | (with_reducible refine bel_tr ?_ (by assumption)))⟩
          · have d1 : decide ((4 : Int) < f) = false := by simp; omega
            by_cases c2 : (6 : Int) - 4 < -f
            · have HE : Hid (alI f 5 = -1) := by show _ = _; unfold alI; rw [if_neg (by omega), if_pos (by omega)]
              clear ho
              go_wp2
              go_ret
              exact ⟨ret_int HE.out.symm, by repeat (first | (with_reducible assumption) | (exact bel_undr (by with_reducible assumption)) | (with_reducible exact bel_refl _) | (with_reducible refine bel_dr ?_) | (with_reducible refine bel_drN ?_ _) | (with_reducible refine bel_al ?_ _) | (refine bel_set ?_ (by first | (simp; done) | (simp; exact Below.size (by assumption)) | (simp; omega)) _) | (with_reducible refine bel_tr ?_ (by assumption)))⟩
            · have HB : Hid (∀ j : Nat, j < 5 → ordA j = 5 → ¬ (j : Int) < f ∧ ¬ 6 - (j : Int) < -f) := fun j hj hs => by
                by_cases e : j = 4
                · subst e; exact ⟨by omega, by omega⟩
                · exact HV.out j (by omega) hs
              have d2 : decide ((6 : Int) - 4 < -f) = false := by simp; omega
              clear ho
              go_wp2
              go_roundw
              case rel => exact ⟨5, by omega, by go_num, by repeat (first | (with_reducible assumption) | (exact bel_undr (by with_reducible assumption)) | (with_reducible exact bel_refl _) | (with_reducible refine bel_dr ?_) | (with_reducible refine bel_drN ?_ _) | (with_reducible refine bel_al ?_ _) | (refine bel_set ?_ (by first | (simp; done) | (simp; exact Below.size (by assumption)) | (simp; omega)) _) | (with_reducible refine bel_tr ?_ (by assumption))), HB⟩
              case measure => simp [intOf]
        · have hs1 : ((5 : Int) == s) = false := by simp; omega
          have HB : Hid (∀ j : Nat, j < 5 → ordA j = s → ¬ (j : Int) < f ∧ ¬ 6 - (j : Int) < -f) := fun j hj hs' => by
            by_cases e : j = 4
            · subst e; exact absurd (show s = 5 from hs'.symm.trans (by decide +kernel)) hs
            · exact HV.out j (by omega) hs'
          clear hs
          go_wp2
          go_roundw
          case rel => exact ⟨5, by omega, by go_num, by repeat (first | (with_reducible assumption) | (exact bel_undr (by with_reducible assumption)) | (with_reducible exact bel_refl _) | (with_reducible refine bel_dr ?_) | (with_reducible refine bel_drN ?_ _) | (with_reducible refine bel_al ?_ _) | (refine bel_set ?_ (by first | (simp; done) | (simp; exact Below.size (by assumption)) | (simp; omega)) _) | (with_reducible refine bel_tr ?_ (by assumption))), HB⟩
          case measure => simp [intOf]
      · have e0 : (((5 : Nat) : Int)) = 5 := rfl
        rw [e0]
        clear e0 hk
        have kx := kix5
        by_cases hs : s = 2
        · subst hs
          have ho : ordI 2 = 5 := by decide +kernel
          by_cases c1 : (5 : Int) < f
          · have HE : Hid (alI f 2 = 1) := by show _ = _; unfold alI; rw [if_pos (by omega)]
            clear ho
            go_wp2
            go_ret
            exact ⟨ret_int HE.out.symm, by repeat (first | (with_reducible assumption) | (exact bel_undr (by with_reducible assumption)) | (with_reducible exact bel_refl _) | (with_reducible refine bel_dr ?_) | (with_reducible refine bel_drN ?_ _) | (with_reducible refine bel_al ?_ _) | (refine bel_set ?_ (by first | (simp; done) | (simp; exact Below.size (by assumption)) | (simp; omega)) _) | (with_reducible refine bel_tr ?_ (by assumption)))⟩
          · have d1 : decide ((5 : Int) < f) = false := by simp; omega
            by_cases c2 : (6 : Int) - 5 < -f
            · have HE : Hid (alI f 2 = -1) := by show _ = _; unfold alI; rw [if_neg (by omega), if_pos (by omega)]
              clear ho
              go_wp2
              go_ret
              exact ⟨ret_int HE.out.symm, by repeat (first | (with_reducible assumption) | (exact bel_undr (by with_reducible assumption)) | (with_reducible exact bel_refl _) | (with_reducible refine bel_dr ?_) | (with_reducible refine bel_drN ?_ _) | (with_reducible refine bel_al ?_ _) | (refine bel_set ?_ (by first | (simp; done) | (simp; exact Below.size (by assumption)) | (simp; omega)) _) | (with_reducible refine bel_tr ?_ (by assumption)))⟩
            · have HB : Hid (∀ j : Nat, j < 6 → ordA j = 2 → ¬ (j : Int) < f ∧ ¬ 6 - (j : Int) < -f) := fun j hj hs => by
                by_cases e : j = 5
                · subst e; exact ⟨by omega, by omega⟩
                · exact HV.out j (by omega) hs
              have d2 : decide ((6 : Int) - 5 < -f) = false := by simp; omega
              clear ho
              go_wp2
              go_roundw
              case rel => exact ⟨6, by omega, by go_num, by repeat (first | (with_reducible assumption) | (exact bel_undr (by with_reducible assumption)) | (with_reducible exact bel_refl _) | (with_reducible refine bel_dr ?_) | (with_reducible refine bel_drN ?_ _) | (with_reducible refine bel_al ?_ _) | (refine bel_set ?_ (by first | (simp; done) | (simp; exact Below.size (by assumption)) | (simp; omega)) _) | (with_reducible refine bel_tr ?_ (by assumption))), HB⟩
              case measure => simp [intOf]
        · have hs1 : ((2 : Int) == s) = false := by simp; omega
          have HB : Hid (∀ j : Nat, j < 6 → ordA j = s → ¬ (j : Int) < f ∧ ¬ 6 - (j : Int) < -f) := fun j hj hs' => by
            by_cases e : j = 5
            · subst e; exact absurd (show s = 2 from hs'.symm.trans (by decide +kernel)) hs
            · exact HV.out j (by omega) hs'
          clear hs
          go_wp2
          go_roundw
          case rel => exact ⟨6, by omega, by go_num, by repeat (first | (with_reducible assumption) | (exact bel_undr (by with_reducible assumption)) | (with_reducible exact bel_refl _) | (with_reducible refine bel_dr ?_) | (with_reducible refine bel_drN ?_ _) | (with_reducible refine bel_al ?_ _) | (refine bel_set ?_ (by first | (simp; done) | (simp; exact Below.size (by assumption)) | (simp; omega)) _) | (with_reducible refine bel_tr ?_ (by assumption))), HB⟩
          case measure => simp [intOf]
      · have e0 : (((6 : Nat) : Int)) = 6 := rfl
        rw [e0]
        clear e0 hk
        have kx := kix6
        by_cases hs : s = 6
        · subst hs
          have ho : ordI 6 = 6 := by decide +kernel
          by_cases c1 : (6 : Int) < f
          · have HE : Hid (alI f 6 = 1) := by show _ = _; unfold alI; rw [if_pos (by omega)]
            clear ho
            go_wp2
            go_ret
            exact ⟨ret_int HE.out.symm, by repeat (first | (with_reducible assumption) | (exact bel_undr (by with_reducible assumption)) | (with_reducible exact bel_refl _) | (with_reducible refine bel_dr ?_) | (with_reducible refine bel_drN ?_ _) | (with_reducible refine bel_al ?_ _) | (refine bel_set ?_ (by first | (simp; done) | (simp; exact Below.size (by assumption)) | (simp; omega)) _) | (with_reducible refine bel_tr ?_ (by assumption)))⟩
          · have d1 : decide ((6 : Int) < f) = false := by simp; omega
            by_cases c2 : (6 : Int) - 6 < -f
            · have HE : Hid (alI f 6 = -1) := by show _ = _; unfold alI; rw [if_neg (by omega), if_pos (by omega)]
              clear ho
              go_wp2
              go_ret
              exact ⟨ret_int HE.out.symm, by repeat (first | (with_reducible assumption) | (exact bel_undr (by with_reducible assumption)) | (with_reducible exact bel_refl _) | (with_reducible refine bel_dr ?_) | (with_reducible refine bel_drN ?_ _) | (with_reducible refine bel_al ?_ _) | (refine bel_set ?_ (by first | (simp; done) | (simp; exact Below.size (by assumption)) | (simp; omega)) _) | (with_reducible refine bel_tr ?_ (by assumption)))⟩
            · have HB : Hid (∀ j : Nat, j < 7 → ordA j = 6 → ¬ (j : Int) < f ∧ ¬ 6 - (j : Int) < -f) := fun j hj hs => by
                by_cases e : j = 6
                · subst e; exact ⟨by omega, by omega⟩
                · exact HV.out j (by omega) hs
              have d2 : decide ((6 : Int) - 6 < -f) = false := by simp; omega
              clear ho
              go_wp2
              go_roundw
              case rel => exact ⟨7, by omega, by go_num, by repeat (first | (with_reducible assumption) | (exact bel_undr (by with_reducible assumption)) | (with_reducible exact bel_refl _) | (with_reducible refine bel_dr ?_) | (with_reducible refine bel_drN ?_ _) | (with_reducible refine bel_al ?_ _) | (refine bel_set ?_ (by first | (simp; done) | (simp; exact Below.size (by assumption)) | (simp; omega)) _) | (with_reducible refine bel_tr ?_ (by assumption))), HB⟩
              case measure => simp [intOf]
        · have hs1 : ((6 : Int) == s) = false := by simp; omega
          have HB : Hid (∀ j : Nat, j < 7 → ordA j = s → ¬ (j : Int) < f ∧ ¬ 6 - (j : Int) < -f) := fun j hj hs' => by
            by_cases e : j = 6
            · subst e; exact absurd (show s = 6 from hs'.symm.trans (by decide +kernel)) hs
            · exact HV.out j (by omega) hs'
          clear hs
          go_wp2
          go_roundw
          case rel => exact ⟨7, by omega, by go_num, by repeat (first | (with_reducible assumption) | (exact bel_undr (by with_reducible assumption)) | (with_reducible exact bel_refl _) | (with_reducible refine bel_dr ?_) | (with_reducible refine bel_drN ?_ _) | (with_reducible refine bel_al ?_ _) | (refine bel_set ?_ (by first | (simp; done) | (simp; exact Below.size (by assumption)) | (simp; omega)) _) | (with_reducible refine bel_tr ?_ (by assumption))), HB⟩
          case measure => simp [intOf]
      · have HE : Hid (alI f s = 0) := by
          show _ = _
          obtain ⟨o1, o2⟩ := ordA_ord s0 s1
          obtain ⟨o3, o4⟩ := ordI_bd s0 s1
          have := HV.out (ordI s).toNat (by omega) o1
          unfold alI
          rw [if_neg (by omega), if_neg (by omega)]
        have e0 : (((7 : Nat) : Int)) = 7 := rfl
        rw [e0]
        clear e0
        go_wp2
        go_ret
        exact ⟨ret_int HE.out.symm, by repeat (first | (with_reducible assumption) | (exact bel_undr (by with_reducible assumption)) | (with_reducible exact bel_refl _) | (with_reducible refine bel_dr ?_) | (with_reducible refine bel_drN ?_ _) | (with_reducible refine bel_al ?_ _) | (refine bel_set ?_ (by first | (simp; done) | (simp; exact Below.size (by assumption)) | (simp; omega)) _) | (with_reducible refine bel_tr ?_ (by assumption)))⟩
  · refine intw_to (v := 0) (by unfold kaI; rw [if_neg h]) ?_
    rcases (show (f < -7 ∨ 7 < f) ∨ ((-7 ≤ f ∧ f ≤ 7) ∧ (s < 0 ∨ 6 < s)) from by omega) with h1 | ⟨⟨h1, h2⟩, h3⟩
    · go_enter Try.func23, Try.ntmps23
      go_wp2_with (first | (go_at_call 22; refine (ik_yes _ _ (by omega) (by omega)).mono ?_; rintro e w' ⟨rfl, rfl⟩) | (go_at_call 22; refine (ik_no _ _ (by omega)).mono ?_; rintro e w' ⟨rfl, rfl⟩) | (go_at_call 36; refine (win_yes _ _ _ _ (by omega) (by omega)).mono ?_; rintro e w' ⟨rfl, rfl⟩) | (go_at_call 36; refine (win_no _ _ _ _ (by omega)).mono ?_; rintro e w' ⟨rfl, rfl⟩))
      go_ret
      exact ⟨rfl, by repeat (first | (with_reducible assumption) | (exact bel_undr (by with_reducible assumption)) | (with_reducible exact bel_refl _) | (with_reducible refine bel_dr ?_) | (with_reducible refine bel_drN ?_ _) | (with_reducible refine bel_al ?_ _) | (refine bel_set ?_ (by first | (simp; done) | (simp; exact Below.size (by assumption)) | (simp; omega)) _) | (with_reducible refine bel_tr ?_ (by assumption)))⟩
    · go_enter Try.func23, Try.ntmps23
      go_wp2_with (first | (go_at_call 22; refine (ik_yes _ _ (by omega) (by omega)).mono ?_; rintro e w' ⟨rfl, rfl⟩) | (go_at_call 22; refine (ik_no _ _ (by omega)).mono ?_; rintro e w' ⟨rfl, rfl⟩) | (go_at_call 36; refine (win_yes _ _ _ _ (by omega) (by omega)).mono ?_; rintro e w' ⟨rfl, rfl⟩) | (go_at_call 36; refine (win_no _ _ _ _ (by omega)).mono ?_; rintro e w' ⟨rfl, rfl⟩))
      go_ret
      exact ⟨rfl, by repeat (first | (with_reducible assumption) | (exact bel_undr (by with_reducible assumption)) | (with_reducible exact bel_refl _) | (with_reducible refine bel_dr ?_) | (with_reducible refine bel_drN ?_ _) | (with_reducible refine bel_al ?_ _) | (refine bel_set ?_ (by first | (simp; done) | (simp; exact Below.size (by assumption)) | (simp; omega)) _) | (with_reducible refine bel_tr ?_ (by assumption)))⟩

set_option maxHeartbeats 1000000 in
theorem sal_any (f s : Int) (w : World) (s0 : 0 ≤ s) (s1 : s ≤ 6) (f0 : -1000000 ≤ f) (f1 : f ≤ 1000000) : Calls Try.prog 51 #[.int .i64 f, .int .i64 s] w fun e w' => e = .returned (.int .i64 (alI f s)) ∧ Below w.heap.size w w' := by
  obtain ⟨o0, o1⟩ := ordI_bd s0 s1
  have s2 : s < 7 := by omega
  have hx : ∀ h, (#[Value.int .i64 1, Value.int .i64 3, Value.int .i64 5, Value.int .i64 0, Value.int .i64 2, Value.int .i64 4, Value.int .i64 6] : Array Value)[s.toNat]'h = .int .i64 (ordI s) := by
    rcases (show s = 0 ∨ s = 1 ∨ s = 2 ∨ s = 3 ∨ s = 4 ∨ s = 5 ∨ s = 6 from by omega) with rfl | rfl | rfl | rfl | rfl | rfl | rfl <;> exact fun _ => rfl
  have HX := hx (by simp; omega)
  by_cases c1 : ordI s < f
  · refine intw_to (v := 1) (by unfold alI; rw [if_pos c1]) ?_
    generalize ordI s = q at *
    go_enter Try.func51, Try.ntmps51
    go_wp2
    go_ret
    exact ⟨rfl, by repeat (first | (with_reducible assumption) | (exact bel_undr (by with_reducible assumption)) | (with_reducible exact bel_refl _) | (with_reducible refine bel_dr ?_) | (with_reducible refine bel_drN ?_ _) | (with_reducible refine bel_al ?_ _) | (refine bel_set ?_ (by first | (simp; done) | (simp; exact Below.size (by assumption)) | (simp; omega)) _) | (with_reducible refine bel_tr ?_ (by assumption)))⟩
  · have d1 : ¬ f > ordI s := by omega
    by_cases c2 : f < ordI s - 6
    · refine intw_to (v := -1) (by unfold alI; rw [if_neg c1, if_pos c2]) ?_
      generalize ordI s = q at *
      go_enter Try.func51, Try.ntmps51
      go_wp2
      go_ret
      exact ⟨rfl, by repeat (first | (with_reducible assumption) | (exact bel_undr (by with_reducible assumption)) | (with_reducible exact bel_refl _) | (with_reducible refine bel_dr ?_) | (with_reducible refine bel_drN ?_ _) | (with_reducible refine bel_al ?_ _) | (refine bel_set ?_ (by first | (simp; done) | (simp; exact Below.size (by assumption)) | (simp; omega)) _) | (with_reducible refine bel_tr ?_ (by assumption)))⟩
    · refine intw_to (v := 0) (by unfold alI; rw [if_neg c1, if_neg c2]) ?_
      generalize ordI s = q at *
      go_enter Try.func51, Try.ntmps51
      go_wp2
      go_ret
      exact ⟨rfl, by repeat (first | (with_reducible assumption) | (exact bel_undr (by with_reducible assumption)) | (with_reducible exact bel_refl _) | (with_reducible refine bel_dr ?_) | (with_reducible refine bel_drN ?_ _) | (with_reducible refine bel_al ?_ _) | (refine bel_set ?_ (by first | (simp; done) | (simp; exact Below.size (by assumption)) | (simp; omega)) _) | (with_reducible refine bel_tr ?_ (by assumption)))⟩
theorem ka_val {f s v : Int} (h : kaI f s = v) (w : World) : Calls Try.prog 23 #[.int .i64 f, .int .i64 s] w fun e w' => e = .returned (.int .i64 v) ∧ Below w.heap.size w w' := by
  subst h; exact ka_any f s w
theorem sal_val {f s v : Int} (h : alI f s = v) (w : World) (s0 : 0 ≤ s) (s1 : s ≤ 6) (f0 : -1000000 ≤ f) (f1 : f ≤ 1000000) : Calls Try.prog 51 #[.int .i64 f, .int .i64 s] w fun e w' => e = .returned (.int .i64 v) ∧ Below w.heap.size w w' := by
  subst h; exact sal_any f s w s0 s1 f0 f1
end
section
open Go.RowKit

set_option maxHeartbeats 2000000 in
theorem ink_any (f s a o : Int) (w : World) : Calls Try.prog 10 #[.int .i64 f, .agg #[.int .i64 s, .int .i64 a, .int .i64 o]] w fun e w' => e = .returned (.bool (ikB f s a o)) ∧ Below w.heap.size w w' := by
  by_cases hf : -7 ≤ f ∧ f ≤ 7
  · cases hp : pvB s a o
    · refine boolw_to (v := false) (by unfold ikB; rw [hp]; simp) ?_
      obtain ⟨f0, f1⟩ := hf
      have HP := Lib.hid hp
      clear hp
      have q0 : (w.alloc (.cells #[.int .i64 s, .int .i64 a, .int .i64 o] 30)).cell? ⟨w.heap.size, 0, none⟩ = some (.int .i64 s) := by simp
      have q1 : (w.alloc (.cells #[.int .i64 s, .int .i64 a, .int .i64 o] 30)).cell? ⟨w.heap.size, 1, none⟩ = some (.int .i64 a) := by simp
      have q2 : (w.alloc (.cells #[.int .i64 s, .int .i64 a, .int .i64 o] 30)).cell? ⟨w.heap.size, 2, none⟩ = some (.int .i64 o) := by simp
      have qb : Below w.heap.size w (w.alloc (.cells #[.int .i64 s, .int .i64 a, .int .i64 o] 30)) := by repeat (first | (with_reducible assumption) | (exact bel_undr (by with_reducible assumption)) | (with_reducible exact bel_refl _) | (with_reducible refine bel_dr ?_) | (with_reducible refine bel_drN ?_ _) | (with_reducible refine bel_al ?_ _) | (refine bel_set ?_ (by first | (simp; done) | (simp; exact Below.size (by assumption)) | (simp; omega)) _) | (with_reducible refine bel_tr ?_ (by assumption)))
      go_enter Try.func10, Try.ntmps10
      go_wp2
      generalize (w.alloc (.cells #[.int .i64 s, .int .i64 a, .int .i64 o] 30)) = v at *
      have lf0 : ∀ x : Later v, x.world.cell? ⟨w.heap.size, 0, none⟩ = some (.int .i64 s) := fun x => x.at (q0)
      have lf1 : ∀ x : Later v, x.world.cell? ⟨w.heap.size, 1, none⟩ = some (.int .i64 a) := fun x => x.at (q1)
      have lf2 : ∀ x : Later v, x.world.cell? ⟨w.heap.size, 2, none⟩ = some (.int .i64 o) := fun x => x.at (q2)
      refine region_later (w0 := v) (by kernel_rfl) (by kernel_rfl) (bel_refl _) ?_
      repeat (go_big_quiet_step ((first | (go_at_call 22; exact later_same (ik_yes _ _ (by omega) (by omega))) | (go_at_call 22; exact later_same (ik_no _ _ (by omega))) | (go_at_call 20; exact later_call (pv_val HP.out _)))))
      refine wpQuiet_nil ?_
      rintro w' ⟨x, rfl⟩
      obtain ⟨w3, b3⟩ := x
      clear lf0 lf1 lf2
      go_wp2
      go_ret
      exact ⟨rfl, by repeat (first | (with_reducible assumption) | (exact bel_undr (by with_reducible assumption)) | (with_reducible exact bel_refl _) | (with_reducible refine bel_dr ?_) | (with_reducible refine bel_drN ?_ _) | (with_reducible refine bel_al ?_ _) | (refine bel_set ?_ (by first | (simp; done) | (simp; exact Below.size (by assumption)) | (simp; omega)) _) | (with_reducible refine bel_tr ?_ (by assumption)))⟩
    · refine boolw_to (v := (a == alI f s)) (by unfold ikB; rw [hp, decide_eq_true hf]; simp) ?_
      obtain ⟨f0, f1⟩ := hf
      have HP := Lib.hid hp
      obtain ⟨s0, s1, _⟩ := pvB_bd hp
      clear hp
      generalize hk : alI f s = v'
      have HK : Hid (kaI f s = v') := by
        show _ = _
        rw [← hk]; unfold kaI; rw [if_pos ⟨⟨f0, f1⟩, s0, s1⟩]
      clear hk
      have q0 : (w.alloc (.cells #[.int .i64 s, .int .i64 a, .int .i64 o] 30)).cell? ⟨w.heap.size, 0, none⟩ = some (.int .i64 s) := by simp
      have q1 : (w.alloc (.cells #[.int .i64 s, .int .i64 a, .int .i64 o] 30)).cell? ⟨w.heap.size, 1, none⟩ = some (.int .i64 a) := by simp
      have q2 : (w.alloc (.cells #[.int .i64 s, .int .i64 a, .int .i64 o] 30)).cell? ⟨w.heap.size, 2, none⟩ = some (.int .i64 o) := by simp
      have qb : Below w.heap.size w (w.alloc (.cells #[.int .i64 s, .int .i64 a, .int .i64 o] 30)) := by repeat (first | (with_reducible assumption) | (exact bel_undr (by with_reducible assumption)) | (with_reducible exact bel_refl _) | (with_reducible refine bel_dr ?_) | (with_reducible refine bel_drN ?_ _) | (with_reducible refine bel_al ?_ _) | (refine bel_set ?_ (by first | (simp; done) | (simp; exact Below.size (by assumption)) | (simp; omega)) _) | (with_reducible refine bel_tr ?_ (by assumption)))
      go_enter Try.func10, Try.ntmps10
      go_wp2
      generalize (w.alloc (.cells #[.int .i64 s, .int .i64 a, .int .i64 o] 30)) = v at *
      have lf0 : ∀ x : Later v, x.world.cell? ⟨w.heap.size, 0, none⟩ = some (.int .i64 s) := fun x => x.at (q0)
      have lf1 : ∀ x : Later v, x.world.cell? ⟨w.heap.size, 1, none⟩ = some (.int .i64 a) := fun x => x.at (q1)
      have lf2 : ∀ x : Later v, x.world.cell? ⟨w.heap.size, 2, none⟩ = some (.int .i64 o) := fun x => x.at (q2)
      refine region_later (w0 := v) (by kernel_rfl) (by kernel_rfl) (bel_refl _) ?_
      repeat (go_big_quiet_step ((first | (go_at_call 22; exact later_same (ik_yes _ _ (by omega) (by omega))) | (go_at_call 22; exact later_same (ik_no _ _ (by omega))) | (go_at_call 20; exact later_call (pv_val HP.out _)) | (go_at_call 23; exact later_call (ka_val HK.out _)))))
      refine wpQuiet_nil ?_
      rintro w' ⟨x, rfl⟩
      obtain ⟨w3, b3⟩ := x
      clear lf0 lf1 lf2
      go_wp2
      go_ret
      exact ⟨rfl, by repeat (first | (with_reducible assumption) | (exact bel_undr (by with_reducible assumption)) | (with_reducible exact bel_refl _) | (with_reducible refine bel_dr ?_) | (with_reducible refine bel_drN ?_ _) | (with_reducible refine bel_al ?_ _) | (refine bel_set ?_ (by first | (simp; done) | (simp; exact Below.size (by assumption)) | (simp; omega)) _) | (with_reducible refine bel_tr ?_ (by assumption)))⟩
  · refine boolw_to (v := false) (by unfold ikB; rw [decide_eq_false hf]; rfl) ?_
    have hf2 : f < -7 ∨ 7 < f := by omega
    have q0 : (w.alloc (.cells #[.int .i64 s, .int .i64 a, .int .i64 o] 30)).cell? ⟨w.heap.size, 0, none⟩ = some (.int .i64 s) := by simp
    have q1 : (w.alloc (.cells #[.int .i64 s, .int .i64 a, .int .i64 o] 30)).cell? ⟨w.heap.size, 1, none⟩ = some (.int .i64 a) := by simp
    have q2 : (w.alloc (.cells #[.int .i64 s, .int .i64 a, .int .i64 o] 30)).cell? ⟨w.heap.size, 2, none⟩ = some (.int .i64 o) := by simp
    have qb : Below w.heap.size w (w.alloc (.cells #[.int .i64 s, .int .i64 a, .int .i64 o] 30)) := by repeat (first | (with_reducible assumption) | (exact bel_undr (by with_reducible assumption)) | (with_reducible exact bel_refl _) | (with_reducible refine bel_dr ?_) | (with_reducible refine bel_drN ?_ _) | (with_reducible refine bel_al ?_ _) | (refine bel_set ?_ (by first | (simp; done) | (simp; exact Below.size (by assumption)) | (simp; omega)) _) | (with_reducible refine bel_tr ?_ (by assumption)))
    go_enter Try.func10, Try.ntmps10
    go_wp2
    generalize (w.alloc (.cells #[.int .i64 s, .int .i64 a, .int .i64 o] 30)) = v at *
    have lf0 : ∀ x : Later v, x.world.cell? ⟨w.heap.size, 0, none⟩ = some (.int .i64 s) := fun x => x.at (q0)
    have lf1 : ∀ x : Later v, x.world.cell? ⟨w.heap.size, 1, none⟩ = some (.int .i64 a) := fun x => x.at (q1)
    have lf2 : ∀ x : Later v, x.world.cell? ⟨w.heap.size, 2, none⟩ = some (.int .i64 o) := fun x => x.at (q2)
    refine region_later (w0 := v) (by kernel_rfl) (by kernel_rfl) (bel_refl _) ?_
    repeat (go_big_quiet_step ((first | (go_at_call 22; exact later_same (ik_yes _ _ (by omega) (by omega))) | (go_at_call 22; exact later_same (ik_no _ _ (by omega))))))
    refine wpQuiet_nil ?_
    rintro w' ⟨x, rfl⟩
    obtain ⟨w3, b3⟩ := x
    clear lf0 lf1 lf2
    go_wp2
    go_ret
    exact ⟨rfl, by repeat (first | (with_reducible assumption) | (exact bel_undr (by with_reducible assumption)) | (with_reducible exact bel_refl _) | (with_reducible refine bel_dr ?_) | (with_reducible refine bel_drN ?_ _) | (with_reducible refine bel_al ?_ _) | (refine bel_set ?_ (by first | (simp; done) | (simp; exact Below.size (by assumption)) | (simp; omega)) _) | (with_reducible refine bel_tr ?_ (by assumption)))⟩
theorem ink_val {f s a o : Int} {v : Bool} (h : ikB f s a o = v) (w : World) : Calls Try.prog 10 #[.int .i64 f, .agg #[.int .i64 s, .int .i64 a, .int .i64 o]] w fun e w' => e = .returned (.bool v) ∧ Below w.heap.size w w' := by
  subst h; exact ink_any f s a o w

set_option maxHeartbeats 2000000 in
theorem sink_any (f s a o : Int) (w : World) : Calls Try.prog 38 #[.int .i64 f, .agg #[.int .i64 s, .int .i64 a, .int .i64 o]] w fun e w' => e = .returned (.bool (ikB f s a o)) ∧ Below w.heap.size w w' := by
  by_cases hf : -7 ≤ f ∧ f ≤ 7
  · cases hp : pvB s a o
    · refine boolw_to (v := false) (by unfold ikB; rw [hp]; simp) ?_
      obtain ⟨f0, f1⟩ := hf
      have HP := Lib.hid hp
      clear hp
      have q0 : (w.alloc (.cells #[.int .i64 s, .int .i64 a, .int .i64 o] 30)).cell? ⟨w.heap.size, 0, none⟩ = some (.int .i64 s) := by simp
      have q1 : (w.alloc (.cells #[.int .i64 s, .int .i64 a, .int .i64 o] 30)).cell? ⟨w.heap.size, 1, none⟩ = some (.int .i64 a) := by simp
      have q2 : (w.alloc (.cells #[.int .i64 s, .int .i64 a, .int .i64 o] 30)).cell? ⟨w.heap.size, 2, none⟩ = some (.int .i64 o) := by simp
      have qb : Below w.heap.size w (w.alloc (.cells #[.int .i64 s, .int .i64 a, .int .i64 o] 30)) := by repeat (first | (with_reducible assumption) | (exact bel_undr (by with_reducible assumption)) | (with_reducible exact bel_refl _) | (with_reducible refine bel_dr ?_) | (with_reducible refine bel_drN ?_ _) | (with_reducible refine bel_al ?_ _) | (refine bel_set ?_ (by first | (simp; done) | (simp; exact Below.size (by assumption)) | (simp; omega)) _) | (with_reducible refine bel_tr ?_ (by assumption)))
      go_enter Try.func38, Try.ntmps38
      go_wp2
      generalize (w.alloc (.cells #[.int .i64 s, .int .i64 a, .int .i64 o] 30)) = v at *
      have lf0 : ∀ x : Later v, x.world.cell? ⟨w.heap.size, 0, none⟩ = some (.int .i64 s) := fun x => x.at (q0)
      have lf1 : ∀ x : Later v, x.world.cell? ⟨w.heap.size, 1, none⟩ = some (.int .i64 a) := fun x => x.at (q1)
      have lf2 : ∀ x : Later v, x.world.cell? ⟨w.heap.size, 2, none⟩ = some (.int .i64 o) := fun x => x.at (q2)
      refine region_later (w0 := v) (by kernel_rfl) (by kernel_rfl) (bel_refl _) ?_
      repeat (go_big_quiet_step ((first | (go_at_call 37; exact later_same (swin_yes _ _ _ _ (by omega) (by omega))) | (go_at_call 37; exact later_same (swin_no _ _ _ _ (by omega))) | (go_at_call 18; exact later_call (spv_val HP.out _)))))
      refine wpQuiet_nil ?_
      rintro w' ⟨x, rfl⟩
      obtain ⟨w3, b3⟩ := x
      clear lf0 lf1 lf2
      go_wp2
      go_ret
      exact ⟨rfl, by repeat (first | (with_reducible assumption) | (exact bel_undr (by with_reducible assumption)) | (with_reducible exact bel_refl _) | (with_reducible refine bel_dr ?_) | (with_reducible refine bel_drN ?_ _) | (with_reducible refine bel_al ?_ _) | (refine bel_set ?_ (by first | (simp; done) | (simp; exact Below.size (by assumption)) | (simp; omega)) _) | (with_reducible refine bel_tr ?_ (by assumption)))⟩
    · refine boolw_to (v := (a == alI f s)) (by unfold ikB; rw [hp, decide_eq_true hf]; simp) ?_
      obtain ⟨f0, f1⟩ := hf
      have HP := Lib.hid hp
      obtain ⟨s0, s1, _⟩ := pvB_bd hp
      clear hp
      generalize hk : alI f s = v'
      have HK : Hid (alI f s = v') := by
        show _ = _
        rw [← hk]
      clear hk
      have q0 : (w.alloc (.cells #[.int .i64 s, .int .i64 a, .int .i64 o] 30)).cell? ⟨w.heap.size, 0, none⟩ = some (.int .i64 s) := by simp
      have q1 : (w.alloc (.cells #[.int .i64 s, .int .i64 a, .int .i64 o] 30)).cell? ⟨w.heap.size, 1, none⟩ = some (.int .i64 a) := by simp
      have q2 : (w.alloc (.cells #[.int .i64 s, .int .i64 a, .int .i64 o] 30)).cell? ⟨w.heap.size, 2, none⟩ = some (.int .i64 o) := by simp
      have qb : Below w.heap.size w (w.alloc (.cells #[.int .i64 s, .int .i64 a, .int .i64 o] 30)) := by repeat (first | (with_reducible assumption) | (exact bel_undr (by with_reducible assumption)) | (with_reducible exact bel_refl _) | (with_reducible refine bel_dr ?_) | (with_reducible refine bel_drN ?_ _) | (with_reducible refine bel_al ?_ _) | (refine bel_set ?_ (by first | (simp; done) | (simp; exact Below.size (by assumption)) | (simp; omega)) _) | (with_reducible refine bel_tr ?_ (by assumption)))
      go_enter Try.func38, Try.ntmps38
      go_wp2
      generalize (w.alloc (.cells #[.int .i64 s, .int .i64 a, .int .i64 o] 30)) = v at *
      have lf0 : ∀ x : Later v, x.world.cell? ⟨w.heap.size, 0, none⟩ = some (.int .i64 s) := fun x => x.at (q0)
      have lf1 : ∀ x : Later v, x.world.cell? ⟨w.heap.size, 1, none⟩ = some (.int .i64 a) := fun x => x.at (q1)
      have lf2 : ∀ x : Later v, x.world.cell? ⟨w.heap.size, 2, none⟩ = some (.int .i64 o) := fun x => x.at (q2)
      refine region_later (w0 := v) (by kernel_rfl) (by kernel_rfl) (bel_refl _) ?_
      repeat (go_big_quiet_step ((first | (go_at_call 37; exact later_same (swin_yes _ _ _ _ (by omega) (by omega))) | (go_at_call 37; exact later_same (swin_no _ _ _ _ (by omega))) | (go_at_call 18; exact later_call (spv_val HP.out _)) | (go_at_call 51; exact later_call (sal_val HK.out _ s0 s1 (by omega) (by omega))))))
      refine wpQuiet_nil ?_
      rintro w' ⟨x, rfl⟩
      obtain ⟨w3, b3⟩ := x
      clear lf0 lf1 lf2
      go_wp2
      go_ret
      exact ⟨rfl, by repeat (first | (with_reducible assumption) | (exact bel_undr (by with_reducible assumption)) | (with_reducible exact bel_refl _) | (with_reducible refine bel_dr ?_) | (with_reducible refine bel_drN ?_ _) | (with_reducible refine bel_al ?_ _) | (refine bel_set ?_ (by first | (simp; done) | (simp; exact Below.size (by assumption)) | (simp; omega)) _) | (with_reducible refine bel_tr ?_ (by assumption)))⟩
  · refine boolw_to (v := false) (by unfold ikB; rw [decide_eq_false hf]; rfl) ?_
    have hf2 : f < -7 ∨ 7 < f := by omega
    have q0 : (w.alloc (.cells #[.int .i64 s, .int .i64 a, .int .i64 o] 30)).cell? ⟨w.heap.size, 0, none⟩ = some (.int .i64 s) := by simp
    have q1 : (w.alloc (.cells #[.int .i64 s, .int .i64 a, .int .i64 o] 30)).cell? ⟨w.heap.size, 1, none⟩ = some (.int .i64 a) := by simp
    have q2 : (w.alloc (.cells #[.int .i64 s, .int .i64 a, .int .i64 o] 30)).cell? ⟨w.heap.size, 2, none⟩ = some (.int .i64 o) := by simp
    have qb : Below w.heap.size w (w.alloc (.cells #[.int .i64 s, .int .i64 a, .int .i64 o] 30)) := by repeat (first | (with_reducible assumption) | (exact bel_undr (by with_reducible assumption)) | (with_reducible exact bel_refl _) | (with_reducible refine bel_dr ?_) | (with_reducible refine bel_drN ?_ _) | (with_reducible refine bel_al ?_ _) | (refine bel_set ?_ (by first | (simp; done) | (simp; exact Below.size (by assumption)) | (simp; omega)) _) | (with_reducible refine bel_tr ?_ (by assumption)))
    go_enter Try.func38, Try.ntmps38
    go_wp2
    generalize (w.alloc (.cells #[.int .i64 s, .int .i64 a, .int .i64 o] 30)) = v at *
    have lf0 : ∀ x : Later v, x.world.cell? ⟨w.heap.size, 0, none⟩ = some (.int .i64 s) := fun x => x.at (q0)
    have lf1 : ∀ x : Later v, x.world.cell? ⟨w.heap.size, 1, none⟩ = some (.int .i64 a) := fun x => x.at (q1)
    have lf2 : ∀ x : Later v, x.world.cell? ⟨w.heap.size, 2, none⟩ = some (.int .i64 o) := fun x => x.at (q2)
    refine region_later (w0 := v) (by kernel_rfl) (by kernel_rfl) (bel_refl _) ?_
    repeat (go_big_quiet_step ((first | (go_at_call 37; exact later_same (swin_yes _ _ _ _ (by omega) (by omega))) | (go_at_call 37; exact later_same (swin_no _ _ _ _ (by omega))))))
    refine wpQuiet_nil ?_
    rintro w' ⟨x, rfl⟩
    obtain ⟨w3, b3⟩ := x
    clear lf0 lf1 lf2
    go_wp2
    go_ret
    exact ⟨rfl, by repeat (first | (with_reducible assumption) | (exact bel_undr (by with_reducible assumption)) | (with_reducible exact bel_refl _) | (with_reducible refine bel_dr ?_) | (with_reducible refine bel_drN ?_ _) | (with_reducible refine bel_al ?_ _) | (refine bel_set ?_ (by first | (simp; done) | (simp; exact Below.size (by assumption)) | (simp; omega)) _) | (with_reducible refine bel_tr ?_ (by assumption)))⟩
theorem sink_val {f s a o : Int} {v : Bool} (h : ikB f s a o = v) (w : World) : Calls Try.prog 38 #[.int .i64 f, .agg #[.int .i64 s, .int .i64 a, .int .i64 o]] w fun e w' => e = .returned (.bool v) ∧ Below w.heap.size w w' := by
  subst h; exact sink_any f s a o w
end
section
open Go.RowKit
theorem hid_snoc {P : Nat → Prop} {k : Nat} (h : Hid (∀ j, j < k → P j)) (hk : P k) : Hid (∀ j, j < k + 1 → P j) := fun j hj => by
  by_cases e : j = k
  · exact e ▸ hk
  · exact h.out j (by omega)
end
section
open Go.RowKit

def upS (st ha : Int) : Int := if st < 0 ∨ (st = 0 ∧ ha < 0) then -st else st
def upH (st ha : Int) : Int := if st < 0 ∨ (st = 0 ∧ ha < 0) then -ha else ha
def quI (st ha : Int) : Int := upH st ha - natI (upS st ha)
def ivB (st ha : Int) : Bool := decide ((-21 ≤ st ∧ st ≤ 21) ∧ (-99 ≤ ha ∧ ha ≤ 99) ∧ -3 ≤ quI st ha ∧ quI st ha ≤ 3)
theorem nat21 {s : Int} (h0 : 0 ≤ s) (h1 : s ≤ 21) : 0 ≤ natI s ∧ natI s ≤ 36 := by
  have k : ∀ u : Fin 22, 0 ≤ natI (u.1 : Int) ∧ natI (u.1 : Int) ≤ 36 := by decide +kernel
  have := k ⟨s.toNat, by omega⟩
  rwa [show ((s.toNat : Nat) : Int) = s from by omega] at this
theorem up_bd {st ha : Int} (h : -21 ≤ st ∧ st ≤ 21) : 0 ≤ upS st ha ∧ upS st ha ≤ 21 := by unfold upS; split <;> omega
theorem ivB_iff (st ha : Int) : ivB st ha = decide ((-21 ≤ st ∧ st ≤ 21) ∧ (-60 ≤ ha ∧ ha ≤ 60) ∧ -3 ≤ quI st ha ∧ quI st ha ≤ 3) := by
  unfold ivB
  apply decide_eq_decide.2
  constructor
  · rintro ⟨h1, h2, h3⟩
    have := nat21 (up_bd h1 (ha := ha)).1 (up_bd h1 (ha := ha)).2
    refine ⟨h1, ?_, h3⟩
    unfold quI upH at h3
    split at h3 <;> omega
  · rintro ⟨h1, h2, h3⟩
    exact ⟨h1, by omega, h3⟩
theorem ivB_bd {st ha : Int} (h : ivB st ha = true) : (-21 ≤ st ∧ st ≤ 21) ∧ (-60 ≤ ha ∧ ha ≤ 60) := by
  rw [ivB_iff] at h
  have := of_decide_eq_true h
  exact ⟨this.1, this.2.1⟩
theorem bool_at {P : Program} {f : FuncId} {args : Array Value} {w : World} {b v : Bool} (h : b = v) (H : Calls P f args w fun e w' => e = .returned (.bool v) ∧ Below w.heap.size w w') :
    Calls P f args w fun e w' => e = .returned (.bool b) ∧ Below w.heap.size w w' := by subst h; exact H

end
section
open Go.RowKit
section
variable {P : Program} {ops : Array Oper} {md : Region.Mode} {C : World → Prop}

/-- so long as the first n operations are not through, one of them comes up, and each is quiet in the class -/
def HeadQ (P : Program) (md : Region.Mode) (ops : Array Oper) (C : World → Prop) (n : Nat) (L : Array Bool → Act → Prop) : Nat → Array Bool → Act → Prop
  | 0, done, a => L done a
  | f + 1, done, a => Region.ready md ops done ≠ [] ∧ ∀ i, i ∈ Region.ready md ops done → i < n ∧ qOp P ops C i (HeadQ P md ops C n L f (done.setIfInBounds i true)) a

theorem HeadQ.any {n g : Nat} {L : Array Bool → Act → Prop} {Q' : Exit → Act → World → Prop} (hL : ∀ done a w, C w → L done a → wpAny P md ops Q' g done a w) (f : Nat) :
    ∀ done a w, C w → HeadQ P md ops C n L f done a → wpAny P md ops Q' (f + g) done a w := by
  induction f with
  | zero => intro done a w hw h; rw [Nat.zero_add]; exact hL _ _ _ hw h
  | succ f ih =>
    intro done a w hw h
    have e : f + 1 + g = (f + g) + 1 := by omega
    rw [e]
    exact ⟨fun h0 => absurd h0 h.1, fun i hi => wpOp_of_qOp hw (fun a' w' hw' h' => ih _ a' w' hw' h') (h.2 i hi).2⟩

theorem HeadQ.first {n i : Nat} {oi : Oper} {v : Value} {L : Array Bool → Act → Prop} (hi : ops[i]? = some oi) (nosel : ∀ (j : Nat) (o : Oper) cs b, ops[j]? = some o → o.op ≠ .select cs b)
    (I : Array Bool → Prop) (iset : ∀ done j, I done → j ∈ Region.ready md ops done → j < n → I (done.setIfInBounds j true)) (wait : ∀ done, I done → done.getD i true = false → ∀ t, n ≤ t → t ∉ Region.ready md ops done) (hin : i < n) (late : ∀ done a, L done a → ∀ j, j ∈ Region.ready md ops done → n ≤ j) (f : Nat) :
    ∀ done a, I done → (∀ j oj, ops[j]? = some oj → j ≠ i → done.getD j true = false → (∀ e ∈ oj.after, Region.binds md e = true → e.on ≠ i) → oi.apart ops oj = true) →
      i ∈ Region.ready md ops done → YieldsIn P ops C oi v a → HeadQ P md ops C n L f (done.setIfInBounds i true) (a.put oi.dst v) → HeadQ P md ops C n L (f + 1) done a := by
  induction f with
  | zero =>
    intro done a inv _ hr hy H
    have todo := (mem_ready.1 hr).1
    refine ⟨(fun h => by rw [h] at hr; cases hr), fun j hj => ?_⟩
    have hjn : j < n := Nat.lt_of_not_le fun h => wait done inv todo j h hj
    refine ⟨hjn, ?_⟩
    by_cases e : j = i
    · subst e; exact hy.qOp hi H
    · exact absurd (late _ _ H j (ready_mono hj e)) (by omega)
  | succ f ih =>
    intro done a inv fr hr hy H
    have todo := (mem_ready.1 hr).1
    refine ⟨(fun h => by rw [h] at hr; cases hr), fun j hj => ?_⟩
    have hjn : j < n := Nat.lt_of_not_le fun h => wait done inv todo j h hj
    refine ⟨hjn, ?_⟩
    by_cases e : j = i
    · subst e; exact hy.qOp hi H
    · obtain ⟨jtodo, oj, hoj, all⟩ := mem_ready.1 hj
      have hno : ∀ e ∈ oj.after, Region.binds md e = true → e.on ≠ i := fun e' he hb heq => by
        have := all e' he hb
        rw [heq, getD_both todo] at this
        cases this
      have swap := qOp_put hoj (fr j oj hoj e jtodo hno) (fun cs b => nosel i oi cs b hi) (fun cs b => nosel j oj cs b hoj) hy (H.2 j (ready_mono hj e)).2
      refine qOp_mono (fun a' h3 => ih (done.setIfInBounds j true) a' (iset _ _ inv hj hjn) (fun k ok hk hki un no => fr k ok hk hki ?_ no) (ready_mono hr (Ne.symm e)) h3.1 ?_) swap
      · by_cases jk : j = k
        · subst jk; exact jtodo
        · rw [getD_set_ne true jk] at un; exact un
      · rw [Array.setIfInBounds_comm _ _ e]; exact h3.2

theorem HeadQ.lex {n g : Nat} {Lq : Act → Prop} (nosel : Region.noSelect ops = true) (lo : Nat) (I : Array Bool → Prop) (iset : ∀ done j, I done → j ∈ Region.ready md ops done → j < n → I (done.setIfInBounds j true)) (wait : ∀ i, lo ≤ i → i < n → ∀ done, I done → done.getD i true = false → ∀ t, n ≤ t → t ∉ Region.ready md ops done) (l : List Oper) :
    ∀ (k : Nat) (done : Array Bool) (a : Act), lo ≤ k → (∀ j, j < l.length → l[j]? = ops[k + j]?) → k + l.length = n → I done → Region.lexHead md ops g l.length k done = true → wpQuiet P ops C Lq l a →
    HeadQ P md ops C n (fun d a' => Region.seqB md ops g n d = true ∧ Lq a') l.length done a := by
  induction l with
  | nil =>
    intro k done a _ _ hk _ hB h
    obtain rfl : k = n := by simpa using hk
    exact ⟨by simpa [Region.lexHead] using hB, h⟩
  | cons o l ih =>
    intro k done a hlo hl hk inv hB h
    have h0 : ops[k]? = some o := by simpa using (hl 0 (by simp)).symm
    simp only [List.length_cons, Region.lexHead, Bool.and_eq_true] at hB hk
    have hr : k ∈ Region.ready md ops done := by simpa using hB.1.1
    have hq : qOp P ops C k (wpQuiet P ops C Lq l) a := by unfold qOp; simp only [h0]; exact h
    obtain ⟨v, hy, hK⟩ := yieldsIn_of_qOp h0 hq
    refine HeadQ.first h0 (Region.noSelect_spec nosel) I iset (wait k hlo (by omega)) (by omega) (fun d a' hL => seqB_ready hL.1) l.length done a inv (Region.free_spec h0 hB.1.2) hr hy ?_
    exact ih (k + 1) _ _ (by omega) (fun j hj => by have := hl (j + 1) (by simp; omega); simpa [Nat.add_assoc, Nat.add_comm 1 j] using this) (by omega) (iset _ _ inv hr (by omega)) hB.2 hK
end

theorem region_tail {P : Program} {id : Nat} {Q : Exit → Act → World → Prop} {a : Act} {w0 w : World} {l : List Oper} (n : Nat) (hm : P.follows .mixedOrders = true) (hB : Region.lexTailB .any l.toArray n = true) (hb : Below w0.heap.size w0 w)
    (h : wpQuiet P l.toArray (fun W => ∃ x : Later w0, W = x.world) (fun a' => ∀ w' : World, (∃ x : Later w0, w' = x.world) → wpList P l.toArray Q (l.drop n) a' w') (l.take n) a) : (Code.region id l.toArray true).wp P Q a w := by
  simp only [Region.lexTailB, Bool.and_eq_true, decide_eq_true_eq] at hB
  obtain ⟨⟨⟨⟨nosel, hn⟩, sink⟩, chain⟩, hlex⟩ := hB
  have hn' : n < l.length := by simpa using hn
  have tl : (l.take n).length = n := by simp; omega
  have dl : (l.drop n).length = l.toArray.size - n := by simp
  have inv0 : HeadInv .any l.toArray n (Array.replicate l.toArray.size false) :=
    ⟨by simp, fun j oj _ hl => (by rw [getD_replicate_false] at hl; cases hl), fun t _ ht => getD_in (by simpa using ht) (getD_replicate_false _ _)⟩
  have H := HeadQ.lex (md := .any) (g := l.toArray.size - n) nosel 0 (HeadInv .any l.toArray n) (fun _ _ inv h1 h2 => inv.set h1 h2) (fun i _ hi done inv todo => tail_waits sink chain hn inv _ i rfl hi todo) (l.take n) 0 _ a (Nat.le_refl _) (fun j hj => by rw [tl] at hj; simp [hj]) (by simpa using tl) inv0 (by rw [tl]; exact hlex) h
  refine wp_region_any hm ?_
  have := HeadQ.any (Q' := Q) (g := l.toArray.size - n) (fun d a' w' hw' hL => by
    have := wpAny_of_seq (md := .any) (Q' := Q) (l.drop n) n d a' w' (fun j => by simp [List.getElem?_drop]) (by rw [dl]; exact hL.1) (hL.2 w' hw')
    rwa [dl] at this) _ _ _ { w with drawn := w.drawn + 1 } ⟨⟨_, bel_dr hb⟩, rfl⟩ H
  rwa [tl, show n + (l.toArray.size - n) = l.toArray.size by omega] at this
/-- as Region.sinkB, but the first operation may come up late -/
def sink1B (md : Region.Mode) (ops : Array Oper) (n : Nat) : Bool :=
  (List.range n).all fun i => i == 0 || (List.range (n + 1)).any fun j => decide (i < j) && Region.waitsFor md ops j i
theorem tail_waits1 {md : Region.Mode} {ops : Array Oper} {n : Nat} {listed : Array Bool} (hs : sink1B md ops n = true) (hc : Region.chainB md ops n = true) (hn : n < ops.size) (inv : HeadInv md ops n listed) :
    ∀ (d i : Nat), n - i = d → 1 ≤ i → i < n → listed.getD i true = false → ∀ t, n ≤ t → t ∉ Region.ready md ops listed := by
  intro d
  induction d using Nat.strongRecOn with
  | _ d ih =>
    intro i hd hi1 hi hun t ht hr
    obtain ⟨_, ot, hot, hall⟩ := mem_ready.1 hr
    have htlt : t < ops.size := (Array.getElem?_eq_some_iff.1 hot).1
    by_cases htn : t = n
    · subst htn
      have h0 := List.all_eq_true.1 hs i (List.mem_range.2 hi)
      have h1 : ((List.range (t + 1)).any fun j => decide (i < j) && Region.waitsFor md ops j i) = true := by
        simp only [Bool.or_eq_true, beq_iff_eq] at h0
        exact h0.resolve_left (by omega)
      obtain ⟨j, hj, hj2⟩ := List.any_eq_true.1 h1
      simp only [Bool.and_eq_true, decide_eq_true_eq] at hj2
      obtain ⟨oj, hoj, e, he, hb, hon⟩ := Region.waitsFor_spec hj2.2
      have hjle : j ≤ t := by have := List.mem_range.1 hj; omega
      by_cases hjt : j = t
      · subst hjt
        have : oj = ot := Option.some.inj (hoj.symm.trans hot)
        subst this
        have h2 := hall e he hb
        rw [hon, getD_both hun] at h2
        cases h2
      · cases hl : listed.getD j false with
        | true =>
          have h2 := inv.closed j oj hoj hl e he hb
          rw [hon, getD_both hun] at h2
          cases h2
        | false =>
          have hjs : j < listed.size := by rw [inv.size]; omega
          exact ih (t - j) (by omega) j rfl (by omega) (by omega) (getD_in hjs hl) t (Nat.le_refl _) hr
    · have h1 := List.all_eq_true.1 hc t (List.mem_range.2 htlt)
      simp only [Bool.or_eq_true, decide_eq_true_eq] at h1
      rcases h1 with h1 | h1
      · omega
      · obtain ⟨o', ho', e, he, hb, hon⟩ := Region.waitsFor_spec h1
        have : o' = ot := Option.some.inj (ho'.symm.trans hot)
        subst this
        have h2 := hall e he hb
        rw [hon, getD_both (inv.tail (t - 1) (by omega) (by omega))] at h2
        cases h2
def lexTail1B (md : Region.Mode) (ops : Array Oper) (n : Nat) : Bool :=
  Region.noSelect ops && decide (n < ops.size) && decide (0 < n) && sink1B md ops n && Region.chainB md ops n && Region.free md ops (Array.replicate ops.size false) 0 && (Region.ready md ops (Array.replicate ops.size false)).contains 0 &&
    Region.lexHead md ops (ops.size - n) (n - 1) 1 ((Array.replicate ops.size false).setIfInBounds 0 true)
/-- the first operation (a plain move, as the slice that is appended to) is taken first, though it may come up late -/
theorem region_tail1 {P : Program} {id : Nat} {Q : Exit → Act → World → Prop} {a : Act} {w0 w : World} {o0 : Oper} {l : List Oper} {v : Value} (n : Nat) (hm : P.follows .mixedOrders = true) (hB : lexTail1B .any (o0 :: l).toArray (n + 1) = true) (hb : Below w0.heap.size w0 w)
    (hQ : ∀ c a w, Q (.panic c) (a.put o0.dst v) w → Q (.panic c) a w) (hy : Yields P (o0 :: l).toArray o0 v a)
    (h : wpQuiet P (o0 :: l).toArray (fun W => ∃ x : Later w0, W = x.world) (fun a' => ∀ w' : World, (∃ x : Later w0, w' = x.world) → wpList P (o0 :: l).toArray Q (l.drop n) a' w') (l.take n) (a.put o0.dst v)) : (Code.region id (o0 :: l).toArray true).wp P Q a w := by
  simp only [lexTail1B, Bool.and_eq_true, decide_eq_true_eq] at hB
  obtain ⟨⟨⟨⟨⟨⟨⟨nosel, hn⟩, _⟩, sink⟩, chain⟩, free⟩, hr⟩, hlex⟩ := hB
  have hn' : n < l.length := by simpa using hn
  have tl : (l.take n).length = n := by simp; omega
  have dl : (l.drop n).length = (o0 :: l).toArray.size - (n + 1) := by simp
  have inv0 : HeadInv .any (o0 :: l).toArray (n + 1) (Array.replicate (o0 :: l).toArray.size false) :=
    ⟨by simp, fun j oj _ hl => (by rw [getD_replicate_false] at hl; cases hl), fun t _ ht => getD_in (by simpa using ht) (getD_replicate_false _ _)⟩
  have hr' : 0 ∈ Region.ready .any (o0 :: l).toArray (Array.replicate (o0 :: l).toArray.size false) := by simpa using hr
  have inv1 := inv0.set hr' (by omega)
  have H := HeadQ.lex (md := .any) (g := (o0 :: l).toArray.size - (n + 1)) nosel 1 (HeadInv .any (o0 :: l).toArray (n + 1)) (fun _ _ inv h1 h2 => inv.set h1 h2) (fun i h1 hi done inv todo => tail_waits1 sink chain hn inv _ i rfl h1 hi todo) (l.take n) 1 _ _ (Nat.le_refl _) (fun j hj => by rw [tl] at hj; simp [hj, Nat.add_comm 1 j]) (by rw [tl]; omega) inv1 (by rw [tl]; exact hlex) h
  refine wp_region_any hm ?_
  have hs : (o0 :: l).toArray.size = (n + ((o0 :: l).toArray.size - (n + 1))) + 1 := by omega
  have hs2 : (o0 :: l).toArray.size + 1 = ((o0 :: l).toArray.size) + 1 := rfl
  have F := HeadQ.any (Q' := Q) (g := (o0 :: l).toArray.size - (n + 1)) (fun d a' w' hw' hL => by
    have := wpAny_of_seq (md := .any) (Q' := Q) (l.drop n) (n + 1) d a' w' (fun j => by rw [List.getElem?_drop, List.getElem?_toArray, show n + 1 + j = (n + j) + 1 by omega, List.getElem?_cons_succ]) (by rw [dl]; exact hL.1) (hL.2 w' hw')
    rwa [dl] at this) _ _ _ { w with drawn := w.drawn + 1 } ⟨⟨_, bel_dr hb⟩, rfl⟩ H
  rw [tl] at F
  have G := wpAny_take (i := 0) (oi := o0) (by simp) nosel free hr hQ hy F
  rwa [← hs] at G
end
section
open Go.RowKit

def pwB (p k : Int) : Bool := decide (0 ≤ p) && pvB (p % 7) (k - natI p) (p / 7)
def pwS (p k : Int) : Int := if pwB p k then p % 7 else 0
def pwA (p k : Int) : Int := if pwB p k then k - natI p else 0
def pwO (p k : Int) : Int := if pwB p k then p / 7 else 0
def adB (s a o st ha : Int) : Bool := pvB s a o && ivB st ha && pwB (7 * o + s + st) (12 * o + shI s + a + ha)
def adS (s a o st ha : Int) : Int := if adB s a o st ha then (7 * o + s + st) % 7 else 0
def adA (s a o st ha : Int) : Int := if adB s a o st ha then 12 * o + shI s + a + ha - natI (7 * o + s + st) else 0
def adO (s a o st ha : Int) : Int := if adB s a o st ha then (7 * o + s + st) / 7 else 0

theorem tup_to {P : Program} {f : FuncId} {args : Array Value} {w : World} {a b c x y z : Int} {d v : Bool} (h : a = x ∧ b = y ∧ c = z ∧ d = v) (H : Calls P f args w fun e w' => e = .returned (.tuple #[.agg #[.int .i64 (x), .int .i64 (y), .int .i64 (z)], .bool (v)]) ∧ Below w.heap.size w w') :
    Calls P f args w fun e w' => e = .returned (.tuple #[.agg #[.int .i64 (a), .int .i64 (b), .int .i64 (c)], .bool (d)]) ∧ Below w.heap.size w w' := by obtain ⟨rfl, rfl, rfl, rfl⟩ := h; exact H
end
section
open Go.RowKit

def CL (w0 : World) (W : World) : Prop := ∃ x : Later w0, W = x.world
theorem CL.refl (w : World) : CL w w := ⟨⟨w, bel_refl w⟩, rfl⟩
theorem CL.bel {w0 W : World} (h : CL w0 W) : Below w0.heap.size w0 W := by obtain ⟨x, rfl⟩ := h; exact x.bel
theorem CL.of {w0 W : World} (h : Below w0.heap.size w0 W) : CL w0 W := ⟨⟨W, h⟩, rfl⟩
theorem CL.trans {a b c : World} (h : CL a b) (k : CL b c) : CL a c := CL.of (bel_tr h.bel k.bel)
theorem run_same {P : Program} {a b : Nat} {m : Machine} {o o' : Outcome} {w w' : World} (h : runN P a m = .ended o w) (h' : runN P b m = .ended o' w') : o = o' := by
  have k : ∀ (a : Nat) (o : Outcome) (w : World), runN P a m = .ended o w → ∀ c, runN P (a + c) m = .ended o w := fun a o w h c => by rw [runN_add, h]
  have h1 := k a o w h b
  have h2 := k b o' w' h' a
  rw [Nat.add_comm, h2] at h1
  cases h1; rfl
theorem calls_same {P : Program} {f : FuncId} {args : Array Value} {w : World} {v v' : Value} {C C' : World → Prop} (h : Calls P f args w fun e w' => e = .returned v ∧ C w') (h' : Calls P f args w fun e w' => e = .returned v' ∧ C' w') (hi : P.inits.idxOf? f = none) : v = v' := by
  obtain ⟨n, u, w1, r1, e1⟩ := Calls.done (R := fun u _ => u = v) (h.mono (by rintro e w' ⟨rfl, _⟩; exact rfl)) hi
  obtain ⟨m, u', w2, r2, e2⟩ := Calls.done (R := fun u _ => u = v') (h'.mono (by rintro e w' ⟨rfl, _⟩; exact rfl)) hi
  have := run_same r1 r2
  cases this
  exact e1.symm.trans e2
theorem v_enter {P : Program} {α : Type} {s : Sem α} {g : α → Value} {W W' : World} {f : FuncId} {args : Array Value} (h : (s >>= fun x => pure (Next.value (g x)) : Sem Next).run P W = .ok (.enter f args) W') : False := by
  rw [Sem.run_bind] at h
  cases hs : s.run P W with
  | ok u w1 => rw [hs] at h; simp [Result.andThen, Sem.run_pure] at h
  | halt x w1 => rw [hs] at h; simp [Result.andThen] at h
/-- an operation that enters no function but one with a body that is no initializer -/
def headOk (P : Program) (o : Oper) : Bool := match o.op with
  | .move _ | .assign _ | .pick .. | .load .. | .binOp .. | .unOp .. | .build .. | .fieldAddr .. | .field .. | .indexAddr .. | .index .. | .extract .. => true
  | .call c => match c.callee with
    | .value (.func k) => (P.inits.idxOf? k).isNone && (match P.funcs[k]? with | some fn => !fn.body.isNone | none => false)
    | _ => false
  | _ => false
theorem head_enter {P : Program} {o : Oper} {a : Act} {W W' : World} {f : FuncId} {args : Array Value} (h : headOk P o = true) (he : (execOp a.eval o).run P W = .ok (.enter f args) W') : P.inits.idxOf? f = none := by
  obtain ⟨dst, op, type, pos, after, guard⟩ := o
  unfold headOk at h
  cases op <;> simp only at h <;> (try cases h)
  case move x => simp [execOp] at he
  case assign x => simp [execOp] at he
  case pick c x y => exact (v_enter (s := asBool (a.eval c)) (g := fun b => if b then a.eval x else a.eval y) he).elim
  case load t x => exact (v_enter (g := id) he).elim
  case binOp b t x y t2 => exact (v_enter (g := id) he).elim
  case unOp b t x => exact (v_enter (g := id) he).elim
  case build t ps => exact (v_enter (g := id) he).elim
  case fieldAddr t x i => exact (v_enter (g := id) he).elim
  case field t x i => exact (v_enter (g := id) he).elim
  case indexAddr t x i => exact (v_enter (g := id) he).elim
  case index t x i => exact (v_enter (g := id) he).elim
  case extract t i => exact (v_enter (g := id) he).elim
  case call c =>
    obtain ⟨callee, argz, ats⟩ := c
    cases callee with
    | builtin b => cases h
    | invoke r m => cases h
    | value x =>
      cases x with
      | func k =>
        simp only [Bool.and_eq_true, Option.isNone_iff_eq_none] at h
        obtain ⟨h1, h2⟩ := h
        cases hf : P.funcs[k]? with
        | none => rw [hf] at h2; cases h2
        | some fn =>
          rw [hf] at h2
          have h3 : fn.body.isNone = false := by
            have h2' : (!fn.body.isNone) = true := h2
            cases hb : fn.body.isNone
            · rfl
            · rw [hb] at h2'; cases h2'
          simp [execOp, resolve, Deferred.ofValue, Act.eval, invoke, callFunc, hf, h3, Sem.run_bind, Result.andThen] at he
          have h4 : ¬ fn.body = none := by intro c; rw [c] at h3; cases h3
          split at he
          · cases he
          · first | (cases he; exact h1) | (rw [if_neg h4] at he; cases he; exact h1)
      | _ => cases h
theorem quiet_same {P : Program} {o : Oper} {a : Act} {w : World} {v v' : Value} {C C' : World → Prop} (h : o.quietAt P a C w v) (h' : o.quietAt P a C' w v') (hi : headOk P o = true) : v = v' := by
  unfold Oper.quietAt at h h'
  generalize hr : (execOp a.eval o).run P w = r at h h'
  cases r with
  | ok n w' =>
    cases n <;> simp only [Oper.quietUpon] at h h'
    case value u => exact h.2.symm.trans h'.2
    case skip => exact h.2.trans h'.2.symm
    case enter f args => exact calls_same h.2 h'.2 (head_enter hi hr)
  | halt x w' => simp only [Oper.quietUpon] at h
section
variable {P : Program} {ops : Array Oper} {md : Region.Mode} {w0 : World} {n g d : Nat} {oa : Oper} {Z : Array Value} {T : TypeId} {Q' : Exit → Act → World → Prop} {L : Array Bool → Act → Prop}

theorem yields_same {C C' : World → Prop} {o : Oper} {a : Act} {v v' : Value} {W : World} (h : YieldsIn P ops C o v a) (h' : YieldsIn P ops C' o v' a) (hC : C W) (hC' : C' W) (hi : headOk P o = true) : v' = v := by
  rcases h with ⟨w1, h⟩ | ⟨w1, rfl⟩ <;> rcases h' with ⟨w2, h'⟩ | ⟨w2, rfl⟩
  · exact quiet_same (h' W hC') (h W hC) hi
  · rw [w1] at w2; cases w2
  · rw [w1] at w2; cases w2
  · rfl
theorem float_any (hI : ∀ j oj, ops[j]? = some oj → j < n → headOk P oj = true) (ha : ops[n]? = some oa) (hoa : ∀ (a : Act) W, (execOp a.eval oa).run P W = .ok (.value (.pointer (some ⟨W.heap.size, 0, none⟩))) (W.alloc (.cells Z T)))
    (hg : oa.guard = none) (hd : oa.dst = some d) (free : ∀ done : Array Bool, done.getD n true = false → n ∈ Region.ready md ops done) (hsel : ∀ (j : Nat) (o : Oper) cs b, ops[j]? = some o → o.op ≠ .select cs b)
    (apart : ∀ j oj, ops[j]? = some oj → j < n → d ∉ oj.looksAt ops ∧ oj.dst ≠ some d) (late : ∀ done : Array Bool, done.getD n true = false → ∀ j, n < j → j ∉ Region.ready md ops done)
    (hL : ∀ done a W B, L done a → CL w0 W → Blk W B Z T → w0.heap.size ≤ B → wpAny P md ops Q' g done (a.put (some d) (.pointer (some ⟨B, 0, none⟩))) W) (hLl : ∀ done a, L done a → ∀ j, j ∈ Region.ready md ops done → n < j) :
    ∀ f (done : Array Bool) a, HeadQ P md ops (CL w0) n L f (done.setIfInBounds n true) a → (∀ W, CL w0 W → HeadQ P md ops (CL W) n (fun _ _ => True) f (done.setIfInBounds n true) a) →
      (∀ W B, CL w0 W → Blk W B Z T → w0.heap.size ≤ B → wpAny P md ops Q' (f + g) (done.setIfInBounds n true) (a.put (some d) (.pointer (some ⟨B, 0, none⟩))) W) ∧
      (done.getD n true = false → ∀ W, CL w0 W → wpAny P md ops Q' (f + 1 + g) done a W) := by
  have alloc : ∀ (f : Nat) (done : Array Bool) (a : Act) (W : World), CL w0 W → (∀ W B, CL w0 W → Blk W B Z T → w0.heap.size ≤ B → wpAny P md ops Q' (f + g) (done.setIfInBounds n true) (a.put (some d) (.pointer (some ⟨B, 0, none⟩))) W) →
      wpOp P ops Q' n (wpAny P md ops Q' (f + g) (done.setIfInBounds n true)) a W := by
    intro f done a W hW h
    unfold wpOp
    have hw : Region.wanted oa (yielded ops a.tmps) = true := by simp [Region.wanted, hg]
    simp only [ha, hw, if_true]
    refine .inl ?_
    unfold Oper.wp
    rw [hoa]
    simp only [Oper.upon, hd]
    exact h _ _ (CL.of (bel_al hW.bel _)) (Blk.new W _ _) hW.bel.size
  intro f
  induction f with
  | zero =>
    intro done a H _
    have p2 : ∀ W B, CL w0 W → Blk W B Z T → w0.heap.size ≤ B → wpAny P md ops Q' (0 + g) (done.setIfInBounds n true) (a.put (some d) (.pointer (some ⟨B, 0, none⟩))) W := fun W B hW hB hb => by rw [Nat.zero_add]; exact hL _ _ _ _ H hW hB hb
    refine ⟨p2, fun hn W hW => ?_⟩
    have e : 0 + 1 + g = (0 + g) + 1 := by omega
    rw [e]
    refine ⟨fun h0 => (by have := free done hn; rw [h0] at this; cases this), fun i hi => ?_⟩
    by_cases e : i = n
    · subst e; exact alloc 0 done a W hW p2
    · exact absurd hi (late done hn i (hLl _ _ H i (ready_mono hi e)))
  | succ f ih =>
    intro done a H HG
    have step : ∀ i, i ∈ Region.ready md ops (done.setIfInBounds n true) → i ≠ n → ∃ oi v, ops[i]? = some oi ∧ i < n ∧ YieldsIn P ops (CL w0) oi v a ∧ (∀ W, CL w0 W → YieldsIn P ops (CL W) oi v a) ∧
        HeadQ P md ops (CL w0) n L f ((done.setIfInBounds i true).setIfInBounds n true) (a.put oi.dst v) ∧ (∀ W, CL w0 W → HeadQ P md ops (CL W) n (fun _ _ => True) f ((done.setIfInBounds i true).setIfInBounds n true) (a.put oi.dst v)) := by
      intro i hi hne
      obtain ⟨_, oi, hoi, _⟩ := mem_ready.1 hi
      obtain ⟨hin, hq⟩ := H.2 i hi
      obtain ⟨v, hy, hK⟩ := yieldsIn_of_qOp hoi hq
      have comm : (done.setIfInBounds n true).setIfInBounds i true = (done.setIfInBounds i true).setIfInBounds n true := Array.setIfInBounds_comm _ _ (Ne.symm hne)
      refine ⟨oi, v, hoi, hin, hy, fun W hW => ?_, by rw [← comm]; exact hK, fun W hW => ?_⟩
      · obtain ⟨v', hy', _⟩ := yieldsIn_of_qOp hoi ((HG W hW).2 i hi).2
        obtain rfl := yields_same hy hy' hW (CL.refl W) (hI i oi hoi hin)
        exact hy'
      · obtain ⟨v', hy', hK'⟩ := yieldsIn_of_qOp hoi ((HG W hW).2 i hi).2
        obtain rfl := yields_same hy hy' hW (CL.refl W) (hI i oi hoi hin)
        rw [← comm]; exact hK'
    have p2 : ∀ W B, CL w0 W → Blk W B Z T → w0.heap.size ≤ B → wpAny P md ops Q' (f + 1 + g) (done.setIfInBounds n true) (a.put (some d) (.pointer (some ⟨B, 0, none⟩))) W := by
      intro W B hW hB hb
      have e : f + 1 + g = (f + g) + 1 := by omega
      rw [e]
      refine ⟨fun h0 => absurd h0 H.1, fun i hi => ?_⟩
      have hne : i ≠ n := by have := (H.2 i hi).1; omega
      obtain ⟨oi, v, hoi, hin, hy, hyW, H', HG'⟩ := step i hi hne
      obtain ⟨ap1, ap2⟩ := apart i oi hoi hin
      have hdd : ∀ x, (some d : Option Tmp) = some x → x ∉ oi.looksAt ops := fun x e => by cases e; exact ap1
      have hy2 : YieldsIn P ops (CL W) oi v (a.put (some d) (.pointer (some ⟨B, 0, none⟩))) :=
        (hyW W hW).of_same (execOp_put oi (fun cs b => hsel i oi cs b hoi) a _ _ hdd) (wanted_put oi a _ _ hdd)
      refine wpOp_of_qOp (C := CL W) (CL.refl W) (fun a' W' hW' e => ?_) (hy2.qOp (K := fun a' => a' = (a.put (some d) (.pointer (some ⟨B, 0, none⟩))).put oi.dst v) hoi rfl)
      subst e
      rw [Act.put_comm a (x := some d) (y := oi.dst) _ _ (fun x e => by cases e; exact ap2)]
      have comm : (done.setIfInBounds n true).setIfInBounds i true = (done.setIfInBounds i true).setIfInBounds n true := Array.setIfInBounds_comm _ _ (Ne.symm hne)
      rw [comm]
      exact (ih _ _ H' HG').1 W' B (hW.trans hW') (hB.below hW'.bel) hb
    refine ⟨p2, fun hn W hW => ?_⟩
    have e : f + 1 + 1 + g = (f + 1 + g) + 1 := by omega
    rw [e]
    refine ⟨fun h0 => (by have := free done hn; rw [h0] at this; cases this), fun i hi => ?_⟩
    by_cases e : i = n
    · subst e; exact alloc (f + 1) done a W hW p2
    · obtain ⟨oi, v, hoi, hin, hy, hyW, H', HG'⟩ := step i (ready_mono hi e) e
      refine wpOp_of_qOp (C := CL w0) hW (fun a' W' hW' e2 => ?_) (hy.qOp (K := fun a' => a' = a.put oi.dst v) hoi rfl)
      subst e2
      exact (ih _ _ H' HG').2 (by rw [getD_set_ne true e]; exact hn) W' hW'
end

theorem HeadQ.weaken {P : Program} {md : Region.Mode} {ops : Array Oper} {C : World → Prop} {n : Nat} {L : Array Bool → Act → Prop} : ∀ {f : Nat} {done : Array Bool} {a : Act}, HeadQ P md ops C n L f done a → HeadQ P md ops C n (fun _ _ => True) f done a
  | 0, _, _, _ => trivial
  | _ + 1, _, _, h => ⟨h.1, fun i hi => ⟨(h.2 i hi).1, qOp_mono (fun _ h' => HeadQ.weaken h') (h.2 i hi).2⟩⟩
def lexHead2 (md : Region.Mode) (ops : Array Oper) (g : Nat) : Nat → Nat → Array Bool → Bool
  | 0, k, listed => Region.seqB md ops g (k + 1) listed
  | f + 1, k, listed => (Region.ready md ops listed).contains k && Region.free md ops listed k && lexHead2 md ops g f (k + 1) (listed.setIfInBounds k true)
theorem HeadQ.lex2 {P : Program} {ops : Array Oper} {md : Region.Mode} {C : World → Prop} {n g : Nat} {Lq : Act → Prop} (nosel : Region.noSelect ops = true) (wait : ∀ i, i < n → ∀ done : Array Bool, (done.getD n true = true) → done.getD i true = false → ∀ t, n ≤ t → t ∉ Region.ready md ops done) (l : List Oper) :
    ∀ (k : Nat) (done : Array Bool) (a : Act), (∀ j, j < l.length → l[j]? = ops[k + j]?) → k + l.length = n → done.getD n true = true → lexHead2 md ops g l.length k done = true → wpQuiet P ops C Lq l a →
    HeadQ P md ops C n (fun d a' => Region.seqB md ops g (n + 1) d = true ∧ Lq a') l.length done a := by
  induction l with
  | nil =>
    intro k done a _ hk _ hB h
    obtain rfl : k = n := by simpa using hk
    exact ⟨by simpa [lexHead2] using hB, h⟩
  | cons o l ih =>
    intro k done a hl hk inv hB h
    have h0 : ops[k]? = some o := by simpa using (hl 0 (by simp)).symm
    simp only [List.length_cons, lexHead2, Bool.and_eq_true] at hB hk
    have hr : k ∈ Region.ready md ops done := by simpa using hB.1.1
    have hq : qOp P ops C k (wpQuiet P ops C Lq l) a := by unfold qOp; simp only [h0]; exact h
    obtain ⟨v, hy, hK⟩ := yieldsIn_of_qOp h0 hq
    have iset : ∀ (done : Array Bool) j, done.getD n true = true → j ∈ Region.ready md ops done → j < n → (done.setIfInBounds j true).getD n true = true := fun done j hd _ hj => by rw [getD_set_ne true (by omega)]; exact hd
    refine HeadQ.first h0 (Region.noSelect_spec nosel) (fun done => done.getD n true = true) iset (wait k (by omega)) (by omega) (fun d a' hL j hj => by have := seqB_ready hL.1 j hj; omega) l.length done a inv (Region.free_spec h0 hB.1.2) hr hy ?_
    exact ih (k + 1) _ _ (fun j hj => by have := hl (j + 1) (by simp; omega); simpa [Nat.add_assoc, Nat.add_comm 1 j] using this) (by omega) (iset _ _ inv hr (by omega)) hB.2 hK
def floatB (P : Program) (md : Region.Mode) (ops : Array Oper) (n d : Nat) : Bool :=
  ((List.range n).all fun j => match ops[j]? with | some oj => headOk P oj | none => true) && Region.noSelect ops && decide (n + 1 < ops.size) && (match ops[n]? with | some oa => oa.after.isEmpty && oa.guard.isNone && (oa.dst == some d) | none => false) &&
    ((List.range n).all fun j => match ops[j]? with | some oj => !((oj.looksAt ops).contains d) && (oj.dst != some d) | none => true) &&
    ((List.range ops.size).all fun t => decide (t ≤ n) || (List.range (n + 1)).all fun i => Region.waitsFor md ops t i) &&
    lexHead2 md ops (ops.size - (n + 1)) n 0 ((Array.replicate ops.size false).setIfInBounds n true)
theorem region_float {P : Program} {id : Nat} {Q : Exit → Act → World → Prop} {a : Act} {w0 w : World} {l : List Oper} {Z : Array Value} {T : TypeId} (n d : Nat) (hm : P.follows .mixedOrders = true) (hB : floatB P .any l.toArray n d = true) (hb : Below w0.heap.size w0 w)
    (hoa : ∀ (a : Act) W oa, l[n]? = some oa → (execOp a.eval oa).run P W = .ok (.value (.pointer (some ⟨W.heap.size, 0, none⟩))) (W.alloc (.cells Z T)))
    (h : ∀ w1, Below w0.heap.size w0 w1 → wpQuiet P l.toArray (fun W => ∃ x : Later w1, W = x.world) (fun a' => ∀ w' : World, (∃ x : Later w1, w' = x.world) → ∀ B, Blk w' B Z T → w0.heap.size ≤ B → wpList P l.toArray Q (l.drop (n + 1)) (a'.put (some d) (.pointer (some ⟨B, 0, none⟩))) w') (l.take n) a) : (Code.region id l.toArray true).wp P Q a w := by
  simp only [floatB, Bool.and_eq_true, decide_eq_true_eq] at hB
  obtain ⟨⟨⟨⟨⟨⟨hho, nosel⟩, hn⟩, hal⟩, hap⟩, hwt⟩, hlex⟩ := hB
  have hn' : n + 1 < l.length := by simpa using hn
  have tl : (l.take n).length = n := by simp; omega
  have dl : (l.drop (n + 1)).length = l.toArray.size - (n + 1) := by simp
  obtain ⟨oa, ha⟩ : ∃ oa, l.toArray[n]? = some oa := ⟨l[n]'(by omega), by simp⟩
  simp only [ha, Bool.and_eq_true, Array.isEmpty_iff, Option.isNone_iff_eq_none, beq_iff_eq] at hal
  obtain ⟨⟨haf, hgd⟩, hd⟩ := hal
  have hwait : ∀ t i, n < t → i ≤ n → ∀ done : Array Bool, done.getD i true = false → t ∉ Region.ready .any l.toArray done := by
    intro t i ht hi done hdn hr
    obtain ⟨_, ot, hot, hall⟩ := mem_ready.1 hr
    have htlt : t < l.toArray.size := (Array.getElem?_eq_some_iff.1 hot).1
    have h1 := List.all_eq_true.1 hwt t (List.mem_range.2 htlt)
    simp only [Bool.or_eq_true, decide_eq_true_eq] at h1
    have h2 := h1.resolve_left (by omega)
    have h3 := List.all_eq_true.1 h2 i (List.mem_range.2 (by omega))
    obtain ⟨o', ho', e, he, hb', hon⟩ := Region.waitsFor_spec h3
    have : o' = ot := Option.some.inj (ho'.symm.trans hot)
    subst this
    have h4 := hall e he hb'
    rw [hon, getD_both hdn] at h4
    cases h4
  have hidx : ∀ j oj, l.toArray[j]? = some oj → j < n → headOk P oj = true := fun j oj hj hjn => by
    have h1 := List.all_eq_true.1 hho j (List.mem_range.2 hjn)
    simp only [hj] at h1
    exact h1
  have hwq : ∀ i, i < n → ∀ done : Array Bool, done.getD n true = true → done.getD i true = false → ∀ t, n ≤ t → t ∉ Region.ready .any l.toArray done := by
    intro i hi done hdn hun t ht hr
    rcases Nat.lt_or_ge n t with h1 | h1
    · exact hwait t i h1 (by omega) done hun hr
    · obtain rfl : t = n := by omega
      have := (mem_ready.1 hr).1
      rw [hdn] at this; cases this
  have start : ((Array.replicate l.toArray.size false).setIfInBounds n true).getD n true = true := by
    simp [Array.getD, hn', Nat.lt_of_succ_lt hn']
  have HQ := fun w1 (hw1 : Below w0.heap.size w0 w1) => HeadQ.lex2 (md := .any) (g := l.toArray.size - (n + 1)) nosel hwq (l.take n) 0 _ a (fun j hj => by rw [tl] at hj; simp [hj]) (by rw [tl]; omega) start (by rw [tl]; exact hlex) (h w1 hw1)
  rw [tl] at HQ
  refine wp_region_any hm ?_
  have F := (float_any (md := .any) (Q' := Q) (g := l.toArray.size - (n + 1)) (w0 := w0) (Z := Z) (T := T) (L := fun d' a' => Region.seqB .any l.toArray (l.toArray.size - (n + 1)) (n + 1) d' = true ∧ ∀ w' : World, CL w0 w' → ∀ B, Blk w' B Z T → w0.heap.size ≤ B → wpList P l.toArray Q (l.drop (n + 1)) (a'.put (some d) (.pointer (some ⟨B, 0, none⟩))) w')
    hidx ha (fun a W => hoa a W oa (by simpa using ha)) hgd hd (fun done hdn => mem_ready.2 ⟨hdn, oa, ha, fun e he => by rw [haf] at he; simp at he⟩) (Region.noSelect_spec nosel)
    (fun j oj hj hjn => by
      have h1 := List.all_eq_true.1 hap j (List.mem_range.2 hjn)
      simp only [hj, Bool.and_eq_true, Bool.not_eq_true', bne_iff_ne] at h1
      exact ⟨by simpa using h1.1, h1.2⟩)
    (fun done hdn j hj => hwait j n hj (Nat.le_refl _) done hdn)
    (fun done a' W B hL hW hB hb' => by
      have := wpAny_of_seq (md := .any) (Q' := Q) (l.drop (n + 1)) (n + 1) done _ W (fun j => by simp [List.getElem?_drop]) (by rw [dl]; exact hL.1) (hL.2 W hW B hB hb')
      rwa [dl] at this)
    (fun done a' hL j hj => by have := seqB_ready hL.1 j hj; omega) n (Array.replicate l.toArray.size false) a (HQ w0 (bel_refl w0))
    (fun W hW => HeadQ.weaken (HQ W hW.bel))).2 (by simp [Array.getD]; omega) { w with drawn := w.drawn + 1 } (CL.of (bel_dr hb))
  rwa [show n + 1 + (l.toArray.size - (n + 1)) = l.toArray.size by omega] at F
end
end Go.Proofs.Ytdmidimjbhkjoaa
