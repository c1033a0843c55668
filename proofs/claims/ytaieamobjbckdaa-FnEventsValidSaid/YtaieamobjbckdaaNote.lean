/- Notes: when one is valid; of the program and of the reference. -/
import Derived.Test.YtaieamobjbckdaaPitch
import Derived.Test.YtaieamobjbckdaaRowNt
namespace Go.Proofs.Ytaieamobjbckdaa
set_option linter.unusedSimpArgs false
set_option linter.unusedVariables false
open Go.RowKit

def nvB (n : Nt) : Bool := decide (1 ≤ n.ticks ∧ n.ticks ≤ 768) && (if n.rest then (n.step == 0 && n.alter == 0 && n.octave == 0 && !n.tied) else pvB n.step n.alter n.octave)
theorem zero3 (s a o : Int) : (s = 0 ∧ a = 0 ∧ o = 0) ∨ ((s == 0) = false) ∨ (s = 0 ∧ (a == 0) = false) ∨ (s = 0 ∧ a = 0 ∧ (o == 0) = false) := by
  by_cases h1 : s = 0
  · by_cases h2 : a = 0
    · by_cases h3 : o = 0
      · exact .inl ⟨h1, h2, h3⟩
      · exact .inr (.inr (.inr ⟨h1, h2, by simpa using h3⟩))
    · exact .inr (.inr (.inl ⟨h1, by simpa using h2⟩))
  · exact .inr (.inl (by simpa using h1))
theorem bool_to {P : Program} {f : FuncId} {args : Array Value} {w : World} {b v : Bool} (h : b = v) (H : Calls P f args w fun e w' => e = .returned (.bool v) ∧ Below w.heap.size w w') :
    Calls P f args w fun e w' => e = .returned (.bool b) ∧ Below w.heap.size w w' := by subst h; exact H
theorem pv000 : pvB 0 0 0 = true := by decide +kernel

set_option maxHeartbeats 4000000 in
theorem snv_any (n : Nt) (w : World) :
    Calls Try.prog 27 #[.agg #[.bool n.rest, .int .i64 n.step, .int .i64 n.alter, .int .i64 n.octave, .int .i64 n.ticks, .bool n.tied]] w fun e w' => e = .returned (.bool (nvB n)) ∧ Below w.heap.size w w' := by
  obtain ⟨r, s, a, o, t, d⟩ := n
  simp only
  cases r
  · by_cases ht : 1 ≤ t ∧ t ≤ 768
    · cases pv0 : pvB s a o
      · refine bool_to (v := false) (by unfold nvB; simp [pv0]) ?_
        obtain ⟨t0, t1⟩ := ht
        have HP := Lib.hid pv0
        clear pv0
        go_enter Try.func27, Try.ntmps27
        go_wp2_with (first | (go_at_call 11; refine (swin_yes _ _ _ _ (by omega) (by omega)).mono ?_; rintro e w' ⟨rfl, rfl⟩) | (go_at_call 11; refine (swin_no _ _ _ _ (by omega)).mono ?_; rintro e w' ⟨rfl, rfl⟩) | (go_at_call 28; refine (spv_val HP.out _).mono ?_; rintro e w1 ⟨rfl, b1⟩))
        go_ret
        exact ⟨rfl, by repeat (first | (with_reducible assumption) | (exact bel_undr (by with_reducible assumption)) | (with_reducible exact bel_refl _) | (with_reducible refine bel_dr ?_) | (with_reducible refine bel_drN ?_ _) | (with_reducible refine bel_al ?_ _) | (refine bel_set ?_ (by first | (simp; done) | (simp; exact Below.size (by assumption)) | (simp; omega)) _) | (with_reducible refine bel_tr ?_ (by assumption)))⟩
      · refine bool_to (v := true) (by unfold nvB; simp [pv0, ht.1, ht.2]) ?_
        obtain ⟨t0, t1⟩ := ht
        have HP := Lib.hid pv0
        clear pv0
        go_enter Try.func27, Try.ntmps27
        go_wp2_with (first | (go_at_call 11; refine (swin_yes _ _ _ _ (by omega) (by omega)).mono ?_; rintro e w' ⟨rfl, rfl⟩) | (go_at_call 11; refine (swin_no _ _ _ _ (by omega)).mono ?_; rintro e w' ⟨rfl, rfl⟩) | (go_at_call 28; refine (spv_val HP.out _).mono ?_; rintro e w1 ⟨rfl, b1⟩))
        go_ret
        exact ⟨rfl, by repeat (first | (with_reducible assumption) | (exact bel_undr (by with_reducible assumption)) | (with_reducible exact bel_refl _) | (with_reducible refine bel_dr ?_) | (with_reducible refine bel_drN ?_ _) | (with_reducible refine bel_al ?_ _) | (refine bel_set ?_ (by first | (simp; done) | (simp; exact Below.size (by assumption)) | (simp; omega)) _) | (with_reducible refine bel_tr ?_ (by assumption)))⟩
    · refine bool_to (v := false) (by unfold nvB; simp <;> omega) ?_
      have ht2 : t < 1 ∨ 768 < t := by omega
      clear ht
      have HP := Lib.hid (rfl : pvB s a o = pvB s a o)
      go_enter Try.func27, Try.ntmps27
      go_wp2_with (first | (go_at_call 11; refine (swin_yes _ _ _ _ (by omega) (by omega)).mono ?_; rintro e w' ⟨rfl, rfl⟩) | (go_at_call 11; refine (swin_no _ _ _ _ (by omega)).mono ?_; rintro e w' ⟨rfl, rfl⟩) | (go_at_call 28; refine (spv_val HP.out _).mono ?_; rintro e w1 ⟨rfl, b1⟩))
      go_ret
      exact ⟨rfl, by repeat (first | (with_reducible assumption) | (exact bel_undr (by with_reducible assumption)) | (with_reducible exact bel_refl _) | (with_reducible refine bel_dr ?_) | (with_reducible refine bel_drN ?_ _) | (with_reducible refine bel_al ?_ _) | (refine bel_set ?_ (by first | (simp; done) | (simp; exact Below.size (by assumption)) | (simp; omega)) _) | (with_reducible refine bel_tr ?_ (by assumption)))⟩
  · by_cases ht : 1 ≤ t ∧ t ≤ 768
    · cases d
      · rcases zero3 s a o with ⟨rfl, rfl, rfl⟩ | z1 | ⟨rfl, z1⟩ | ⟨rfl, rfl, z1⟩
        · refine bool_to (v := true) (by unfold nvB; simp <;> omega) ?_
          obtain ⟨t0, t1⟩ := ht
          have HP := Lib.hid pv000
          go_enter Try.func27, Try.ntmps27
          go_wp2_with (first | (go_at_call 11; refine (swin_yes _ _ _ _ (by omega) (by omega)).mono ?_; rintro e w' ⟨rfl, rfl⟩) | (go_at_call 11; refine (swin_no _ _ _ _ (by omega)).mono ?_; rintro e w' ⟨rfl, rfl⟩) | (go_at_call 28; refine (spv_val HP.out _).mono ?_; rintro e w1 ⟨rfl, b1⟩))
          go_ret
          exact ⟨rfl, by repeat (first | (with_reducible assumption) | (exact bel_undr (by with_reducible assumption)) | (with_reducible exact bel_refl _) | (with_reducible refine bel_dr ?_) | (with_reducible refine bel_drN ?_ _) | (with_reducible refine bel_al ?_ _) | (refine bel_set ?_ (by first | (simp; done) | (simp; exact Below.size (by assumption)) | (simp; omega)) _) | (with_reducible refine bel_tr ?_ (by assumption)))⟩
        · obtain ⟨t0, t1⟩ := ht
          refine bool_to (v := false) (by unfold nvB; simp [z1]) ?_
          have HP := Lib.hid pv000
          go_enter Try.func27, Try.ntmps27
          go_wp2_with (first | (go_at_call 11; refine (swin_yes _ _ _ _ (by omega) (by omega)).mono ?_; rintro e w' ⟨rfl, rfl⟩) | (go_at_call 11; refine (swin_no _ _ _ _ (by omega)).mono ?_; rintro e w' ⟨rfl, rfl⟩) | (go_at_call 28; refine (spv_val HP.out _).mono ?_; rintro e w1 ⟨rfl, b1⟩))
          go_ret
          exact ⟨rfl, by repeat (first | (with_reducible assumption) | (exact bel_undr (by with_reducible assumption)) | (with_reducible exact bel_refl _) | (with_reducible refine bel_dr ?_) | (with_reducible refine bel_drN ?_ _) | (with_reducible refine bel_al ?_ _) | (refine bel_set ?_ (by first | (simp; done) | (simp; exact Below.size (by assumption)) | (simp; omega)) _) | (with_reducible refine bel_tr ?_ (by assumption)))⟩
        · obtain ⟨t0, t1⟩ := ht
          refine bool_to (v := false) (by unfold nvB; simp [z1]) ?_
          have HP := Lib.hid pv000
          go_enter Try.func27, Try.ntmps27
          go_wp2_with (first | (go_at_call 11; refine (swin_yes _ _ _ _ (by omega) (by omega)).mono ?_; rintro e w' ⟨rfl, rfl⟩) | (go_at_call 11; refine (swin_no _ _ _ _ (by omega)).mono ?_; rintro e w' ⟨rfl, rfl⟩) | (go_at_call 28; refine (spv_val HP.out _).mono ?_; rintro e w1 ⟨rfl, b1⟩))
          go_ret
          exact ⟨rfl, by repeat (first | (with_reducible assumption) | (exact bel_undr (by with_reducible assumption)) | (with_reducible exact bel_refl _) | (with_reducible refine bel_dr ?_) | (with_reducible refine bel_drN ?_ _) | (with_reducible refine bel_al ?_ _) | (refine bel_set ?_ (by first | (simp; done) | (simp; exact Below.size (by assumption)) | (simp; omega)) _) | (with_reducible refine bel_tr ?_ (by assumption)))⟩
        · obtain ⟨t0, t1⟩ := ht
          refine bool_to (v := false) (by unfold nvB; simp [z1]) ?_
          have HP := Lib.hid pv000
          go_enter Try.func27, Try.ntmps27
          go_wp2_with (first | (go_at_call 11; refine (swin_yes _ _ _ _ (by omega) (by omega)).mono ?_; rintro e w' ⟨rfl, rfl⟩) | (go_at_call 11; refine (swin_no _ _ _ _ (by omega)).mono ?_; rintro e w' ⟨rfl, rfl⟩) | (go_at_call 28; refine (spv_val HP.out _).mono ?_; rintro e w1 ⟨rfl, b1⟩))
          go_ret
          exact ⟨rfl, by repeat (first | (with_reducible assumption) | (exact bel_undr (by with_reducible assumption)) | (with_reducible exact bel_refl _) | (with_reducible refine bel_dr ?_) | (with_reducible refine bel_drN ?_ _) | (with_reducible refine bel_al ?_ _) | (refine bel_set ?_ (by first | (simp; done) | (simp; exact Below.size (by assumption)) | (simp; omega)) _) | (with_reducible refine bel_tr ?_ (by assumption)))⟩
      · rcases zero3 s a o with ⟨rfl, rfl, rfl⟩ | z1 | ⟨rfl, z1⟩ | ⟨rfl, rfl, z1⟩
        · obtain ⟨t0, t1⟩ := ht
          refine bool_to (v := false) (by unfold nvB; simp) ?_
          have HP := Lib.hid pv000
          go_enter Try.func27, Try.ntmps27
          go_wp2_with (first | (go_at_call 11; refine (swin_yes _ _ _ _ (by omega) (by omega)).mono ?_; rintro e w' ⟨rfl, rfl⟩) | (go_at_call 11; refine (swin_no _ _ _ _ (by omega)).mono ?_; rintro e w' ⟨rfl, rfl⟩) | (go_at_call 28; refine (spv_val HP.out _).mono ?_; rintro e w1 ⟨rfl, b1⟩))
          go_ret
          exact ⟨rfl, by repeat (first | (with_reducible assumption) | (exact bel_undr (by with_reducible assumption)) | (with_reducible exact bel_refl _) | (with_reducible refine bel_dr ?_) | (with_reducible refine bel_drN ?_ _) | (with_reducible refine bel_al ?_ _) | (refine bel_set ?_ (by first | (simp; done) | (simp; exact Below.size (by assumption)) | (simp; omega)) _) | (with_reducible refine bel_tr ?_ (by assumption)))⟩
        · obtain ⟨t0, t1⟩ := ht
          refine bool_to (v := false) (by unfold nvB; simp [z1]) ?_
          have HP := Lib.hid pv000
          go_enter Try.func27, Try.ntmps27
          go_wp2_with (first | (go_at_call 11; refine (swin_yes _ _ _ _ (by omega) (by omega)).mono ?_; rintro e w' ⟨rfl, rfl⟩) | (go_at_call 11; refine (swin_no _ _ _ _ (by omega)).mono ?_; rintro e w' ⟨rfl, rfl⟩) | (go_at_call 28; refine (spv_val HP.out _).mono ?_; rintro e w1 ⟨rfl, b1⟩))
          go_ret
          exact ⟨rfl, by repeat (first | (with_reducible assumption) | (exact bel_undr (by with_reducible assumption)) | (with_reducible exact bel_refl _) | (with_reducible refine bel_dr ?_) | (with_reducible refine bel_drN ?_ _) | (with_reducible refine bel_al ?_ _) | (refine bel_set ?_ (by first | (simp; done) | (simp; exact Below.size (by assumption)) | (simp; omega)) _) | (with_reducible refine bel_tr ?_ (by assumption)))⟩
        · obtain ⟨t0, t1⟩ := ht
          refine bool_to (v := false) (by unfold nvB; simp [z1]) ?_
          have HP := Lib.hid pv000
          go_enter Try.func27, Try.ntmps27
          go_wp2_with (first | (go_at_call 11; refine (swin_yes _ _ _ _ (by omega) (by omega)).mono ?_; rintro e w' ⟨rfl, rfl⟩) | (go_at_call 11; refine (swin_no _ _ _ _ (by omega)).mono ?_; rintro e w' ⟨rfl, rfl⟩) | (go_at_call 28; refine (spv_val HP.out _).mono ?_; rintro e w1 ⟨rfl, b1⟩))
          go_ret
          exact ⟨rfl, by repeat (first | (with_reducible assumption) | (exact bel_undr (by with_reducible assumption)) | (with_reducible exact bel_refl _) | (with_reducible refine bel_dr ?_) | (with_reducible refine bel_drN ?_ _) | (with_reducible refine bel_al ?_ _) | (refine bel_set ?_ (by first | (simp; done) | (simp; exact Below.size (by assumption)) | (simp; omega)) _) | (with_reducible refine bel_tr ?_ (by assumption)))⟩
        · obtain ⟨t0, t1⟩ := ht
          refine bool_to (v := false) (by unfold nvB; simp [z1]) ?_
          have HP := Lib.hid pv000
          go_enter Try.func27, Try.ntmps27
          go_wp2_with (first | (go_at_call 11; refine (swin_yes _ _ _ _ (by omega) (by omega)).mono ?_; rintro e w' ⟨rfl, rfl⟩) | (go_at_call 11; refine (swin_no _ _ _ _ (by omega)).mono ?_; rintro e w' ⟨rfl, rfl⟩) | (go_at_call 28; refine (spv_val HP.out _).mono ?_; rintro e w1 ⟨rfl, b1⟩))
          go_ret
          exact ⟨rfl, by repeat (first | (with_reducible assumption) | (exact bel_undr (by with_reducible assumption)) | (with_reducible exact bel_refl _) | (with_reducible refine bel_dr ?_) | (with_reducible refine bel_drN ?_ _) | (with_reducible refine bel_al ?_ _) | (refine bel_set ?_ (by first | (simp; done) | (simp; exact Below.size (by assumption)) | (simp; omega)) _) | (with_reducible refine bel_tr ?_ (by assumption)))⟩
    · cases d
      · rcases zero3 s a o with ⟨rfl, rfl, rfl⟩ | z1 | ⟨rfl, z1⟩ | ⟨rfl, rfl, z1⟩
        · have ht2 : t < 1 ∨ 768 < t := by omega
          refine bool_to (v := false) (by unfold nvB; simp <;> omega) ?_
          have HP := Lib.hid pv000
          go_enter Try.func27, Try.ntmps27
          go_wp2_with (first | (go_at_call 11; refine (swin_yes _ _ _ _ (by omega) (by omega)).mono ?_; rintro e w' ⟨rfl, rfl⟩) | (go_at_call 11; refine (swin_no _ _ _ _ (by omega)).mono ?_; rintro e w' ⟨rfl, rfl⟩) | (go_at_call 28; refine (spv_val HP.out _).mono ?_; rintro e w1 ⟨rfl, b1⟩))
          go_ret
          exact ⟨rfl, by repeat (first | (with_reducible assumption) | (exact bel_undr (by with_reducible assumption)) | (with_reducible exact bel_refl _) | (with_reducible refine bel_dr ?_) | (with_reducible refine bel_drN ?_ _) | (with_reducible refine bel_al ?_ _) | (refine bel_set ?_ (by first | (simp; done) | (simp; exact Below.size (by assumption)) | (simp; omega)) _) | (with_reducible refine bel_tr ?_ (by assumption)))⟩
        · have ht2 : t < 1 ∨ 768 < t := by omega
          refine bool_to (v := false) (by unfold nvB; simp [z1]) ?_
          have HP := Lib.hid pv000
          go_enter Try.func27, Try.ntmps27
          go_wp2_with (first | (go_at_call 11; refine (swin_yes _ _ _ _ (by omega) (by omega)).mono ?_; rintro e w' ⟨rfl, rfl⟩) | (go_at_call 11; refine (swin_no _ _ _ _ (by omega)).mono ?_; rintro e w' ⟨rfl, rfl⟩) | (go_at_call 28; refine (spv_val HP.out _).mono ?_; rintro e w1 ⟨rfl, b1⟩))
          go_ret
          exact ⟨rfl, by repeat (first | (with_reducible assumption) | (exact bel_undr (by with_reducible assumption)) | (with_reducible exact bel_refl _) | (with_reducible refine bel_dr ?_) | (with_reducible refine bel_drN ?_ _) | (with_reducible refine bel_al ?_ _) | (refine bel_set ?_ (by first | (simp; done) | (simp; exact Below.size (by assumption)) | (simp; omega)) _) | (with_reducible refine bel_tr ?_ (by assumption)))⟩
        · have ht2 : t < 1 ∨ 768 < t := by omega
          refine bool_to (v := false) (by unfold nvB; simp [z1]) ?_
          have HP := Lib.hid pv000
          go_enter Try.func27, Try.ntmps27
          go_wp2_with (first | (go_at_call 11; refine (swin_yes _ _ _ _ (by omega) (by omega)).mono ?_; rintro e w' ⟨rfl, rfl⟩) | (go_at_call 11; refine (swin_no _ _ _ _ (by omega)).mono ?_; rintro e w' ⟨rfl, rfl⟩) | (go_at_call 28; refine (spv_val HP.out _).mono ?_; rintro e w1 ⟨rfl, b1⟩))
          go_ret
          exact ⟨rfl, by repeat (first | (with_reducible assumption) | (exact bel_undr (by with_reducible assumption)) | (with_reducible exact bel_refl _) | (with_reducible refine bel_dr ?_) | (with_reducible refine bel_drN ?_ _) | (with_reducible refine bel_al ?_ _) | (refine bel_set ?_ (by first | (simp; done) | (simp; exact Below.size (by assumption)) | (simp; omega)) _) | (with_reducible refine bel_tr ?_ (by assumption)))⟩
        · have ht2 : t < 1 ∨ 768 < t := by omega
          refine bool_to (v := false) (by unfold nvB; simp [z1]) ?_
          have HP := Lib.hid pv000
          go_enter Try.func27, Try.ntmps27
          go_wp2_with (first | (go_at_call 11; refine (swin_yes _ _ _ _ (by omega) (by omega)).mono ?_; rintro e w' ⟨rfl, rfl⟩) | (go_at_call 11; refine (swin_no _ _ _ _ (by omega)).mono ?_; rintro e w' ⟨rfl, rfl⟩) | (go_at_call 28; refine (spv_val HP.out _).mono ?_; rintro e w1 ⟨rfl, b1⟩))
          go_ret
          exact ⟨rfl, by repeat (first | (with_reducible assumption) | (exact bel_undr (by with_reducible assumption)) | (with_reducible exact bel_refl _) | (with_reducible refine bel_dr ?_) | (with_reducible refine bel_drN ?_ _) | (with_reducible refine bel_al ?_ _) | (refine bel_set ?_ (by first | (simp; done) | (simp; exact Below.size (by assumption)) | (simp; omega)) _) | (with_reducible refine bel_tr ?_ (by assumption)))⟩
      · rcases zero3 s a o with ⟨rfl, rfl, rfl⟩ | z1 | ⟨rfl, z1⟩ | ⟨rfl, rfl, z1⟩
        · have ht2 : t < 1 ∨ 768 < t := by omega
          refine bool_to (v := false) (by unfold nvB; simp <;> omega) ?_
          have HP := Lib.hid pv000
          go_enter Try.func27, Try.ntmps27
          go_wp2_with (first | (go_at_call 11; refine (swin_yes _ _ _ _ (by omega) (by omega)).mono ?_; rintro e w' ⟨rfl, rfl⟩) | (go_at_call 11; refine (swin_no _ _ _ _ (by omega)).mono ?_; rintro e w' ⟨rfl, rfl⟩) | (go_at_call 28; refine (spv_val HP.out _).mono ?_; rintro e w1 ⟨rfl, b1⟩))
          go_ret
          exact ⟨rfl, by repeat (first | (with_reducible assumption) | (exact bel_undr (by with_reducible assumption)) | (with_reducible exact bel_refl _) | (with_reducible refine bel_dr ?_) | (with_reducible refine bel_drN ?_ _) | (with_reducible refine bel_al ?_ _) | (refine bel_set ?_ (by first | (simp; done) | (simp; exact Below.size (by assumption)) | (simp; omega)) _) | (with_reducible refine bel_tr ?_ (by assumption)))⟩
        · have ht2 : t < 1 ∨ 768 < t := by omega
          refine bool_to (v := false) (by unfold nvB; simp [z1]) ?_
          have HP := Lib.hid pv000
          go_enter Try.func27, Try.ntmps27
          go_wp2_with (first | (go_at_call 11; refine (swin_yes _ _ _ _ (by omega) (by omega)).mono ?_; rintro e w' ⟨rfl, rfl⟩) | (go_at_call 11; refine (swin_no _ _ _ _ (by omega)).mono ?_; rintro e w' ⟨rfl, rfl⟩) | (go_at_call 28; refine (spv_val HP.out _).mono ?_; rintro e w1 ⟨rfl, b1⟩))
          go_ret
          exact ⟨rfl, by repeat (first | (with_reducible assumption) | (exact bel_undr (by with_reducible assumption)) | (with_reducible exact bel_refl _) | (with_reducible refine bel_dr ?_) | (with_reducible refine bel_drN ?_ _) | (with_reducible refine bel_al ?_ _) | (refine bel_set ?_ (by first | (simp; done) | (simp; exact Below.size (by assumption)) | (simp; omega)) _) | (with_reducible refine bel_tr ?_ (by assumption)))⟩
        · have ht2 : t < 1 ∨ 768 < t := by omega
          refine bool_to (v := false) (by unfold nvB; simp [z1]) ?_
          have HP := Lib.hid pv000
          go_enter Try.func27, Try.ntmps27
          go_wp2_with (first | (go_at_call 11; refine (swin_yes _ _ _ _ (by omega) (by omega)).mono ?_; rintro e w' ⟨rfl, rfl⟩) | (go_at_call 11; refine (swin_no _ _ _ _ (by omega)).mono ?_; rintro e w' ⟨rfl, rfl⟩) | (go_at_call 28; refine (spv_val HP.out _).mono ?_; rintro e w1 ⟨rfl, b1⟩))
          go_ret
          exact ⟨rfl, by repeat (first | (with_reducible assumption) | (exact bel_undr (by with_reducible assumption)) | (with_reducible exact bel_refl _) | (with_reducible refine bel_dr ?_) | (with_reducible refine bel_drN ?_ _) | (with_reducible refine bel_al ?_ _) | (refine bel_set ?_ (by first | (simp; done) | (simp; exact Below.size (by assumption)) | (simp; omega)) _) | (with_reducible refine bel_tr ?_ (by assumption)))⟩
        · have ht2 : t < 1 ∨ 768 < t := by omega
          refine bool_to (v := false) (by unfold nvB; simp [z1]) ?_
          have HP := Lib.hid pv000
          go_enter Try.func27, Try.ntmps27
          go_wp2_with (first | (go_at_call 11; refine (swin_yes _ _ _ _ (by omega) (by omega)).mono ?_; rintro e w' ⟨rfl, rfl⟩) | (go_at_call 11; refine (swin_no _ _ _ _ (by omega)).mono ?_; rintro e w' ⟨rfl, rfl⟩) | (go_at_call 28; refine (spv_val HP.out _).mono ?_; rintro e w1 ⟨rfl, b1⟩))
          go_ret
          exact ⟨rfl, by repeat (first | (with_reducible assumption) | (exact bel_undr (by with_reducible assumption)) | (with_reducible exact bel_refl _) | (with_reducible refine bel_dr ?_) | (with_reducible refine bel_drN ?_ _) | (with_reducible refine bel_al ?_ _) | (refine bel_set ?_ (by first | (simp; done) | (simp; exact Below.size (by assumption)) | (simp; omega)) _) | (with_reducible refine bel_tr ?_ (by assumption)))⟩
theorem snv_val {n : Nt} {v : Bool} (h : nvB n = v) (w : World) :
    Calls Try.prog 27 #[.agg #[.bool n.rest, .int .i64 n.step, .int .i64 n.alter, .int .i64 n.octave, .int .i64 n.ticks, .bool n.tied]] w fun e w' => e = .returned (.bool v) ∧ Below w.heap.size w w' := by
  subst h; exact snv_any n w
end Go.Proofs.Ytaieamobjbckdaa
