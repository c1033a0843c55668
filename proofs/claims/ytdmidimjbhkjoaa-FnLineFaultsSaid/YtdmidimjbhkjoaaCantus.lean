/- Lists of pitches: when all are valid; when a list is a cantus. Of the program and of the reference. -/
import Derived.Test.YtdmidimjbhkjoaaBp
import Derived.Test.YtdmidimjbhkjoaaRowPi
namespace Go.Proofs.Ytdmidimjbhkjoaa
set_option linter.unusedSimpArgs false
set_option linter.unusedVariables false
open Go.RowKit

def pvP (t : Pi) : Prop := pvB t.step t.alter t.octave = true
instance (t : Pi) : Decidable (pvP t) := by unfold pvP; infer_instance
def apB (l : List Pi) (lo hi : Int) : Bool := decide ((lo ≤ (l.length : Int) ∧ (l.length : Int) ≤ hi) ∧ ∀ k, k < l.length → pvP (atPi l k))
theorem apB_no {l : List Pi} {lo hi : Int} (h : ¬ (lo ≤ (l.length : Int) ∧ (l.length : Int) ≤ hi)) : apB l lo hi = false := by
  unfold apB; apply decide_eq_false; rintro ⟨a, _⟩; exact h a
theorem apB_bad {l : List Pi} {lo hi : Int} (k : Nat) (hk : k < l.length) (h : ¬ pvP (atPi l k)) : apB l lo hi = false := by
  unfold apB; apply decide_eq_false; rintro ⟨_, d⟩; exact h (d k hk)
theorem apB_yes {l : List Pi} {lo hi : Int} (h : lo ≤ (l.length : Int) ∧ (l.length : Int) ≤ hi) (hk : ∀ k, k < l.length → pvP (atPi l k)) : apB l lo hi = true := by
  unfold apB; exact decide_eq_true ⟨h, hk⟩
theorem apB_of {l : List Pi} {lo hi : Int} (h : apB l lo hi = true) : (lo ≤ (l.length : Int) ∧ (l.length : Int) ≤ hi) ∧ ∀ k, k < l.length → pvP (atPi l k) := of_decide_eq_true h
def ikP (f : Int) (t : Pi) : Prop := ikB f t.step t.alter t.octave = true
instance (f : Int) (t : Pi) : Decidable (ikP f t) := by unfold ikP; infer_instance
theorem ikP_pv {f : Int} {t : Pi} (h : ikP f t) : pvP t := by
  unfold ikP ikB at h; simp only [Bool.and_eq_true] at h; exact h.1.2
theorem ikP_key {f : Int} {t : Pi} (h : ikP f t) : -7 ≤ f ∧ f ≤ 7 := by
  unfold ikP ikB at h; simp only [Bool.and_eq_true, decide_eq_true_eq] at h; exact h.1.1
def cvB (f : Int) (l : List Pi) : Bool := decide ((-7 ≤ f ∧ f ≤ 7) ∧ (2 ≤ l.length ∧ l.length ≤ 10) ∧ ∀ k, k < l.length → ikP f (atPi l k))
theorem cvB_no {f : Int} {l : List Pi} (h : ¬ ((-7 ≤ f ∧ f ≤ 7) ∧ (2 ≤ l.length ∧ l.length ≤ 10))) : cvB f l = false := by
  unfold cvB; apply decide_eq_false; rintro ⟨a, b, _⟩; exact h ⟨a, b⟩
theorem cvB_bad {f : Int} {l : List Pi} (k : Nat) (hk : k < l.length) (h : ¬ ikP f (atPi l k)) : cvB f l = false := by
  unfold cvB; apply decide_eq_false; rintro ⟨_, _, d⟩; exact h (d k hk)
theorem cvB_yes {f : Int} {l : List Pi} (h0 : -7 ≤ f ∧ f ≤ 7) (h : 2 ≤ l.length ∧ l.length ≤ 10) (hk : ∀ k, k < l.length → ikP f (atPi l k)) : cvB f l = true := by
  unfold cvB; exact decide_eq_true ⟨h0, h, hk⟩
theorem cvB_of {f : Int} {l : List Pi} (h : cvB f l = true) : (-7 ≤ f ∧ f ≤ 7) ∧ (2 ≤ l.length ∧ l.length ≤ 10) ∧ ∀ k, k < l.length → ikP f (atPi l k) := of_decide_eq_true h

set_option maxHeartbeats 2000000 in
theorem ap_any (A : Option Addr) (n c : Nat) (l : List Pi) (lo hi : Int) (w : World) (hn : l.length = n) (hm : n ≤ 2000000) (h : RowPi w w.heap.size A l) :
    Calls Try.prog 17 #[.slice A n c, .int .i64 lo, .int .i64 hi] w fun e w' => e = .returned (.bool (apB l lo hi)) ∧ Below w.heap.size w w' := by
  subst hn
  by_cases h0 : lo ≤ (l.length : Int) ∧ (l.length : Int) ≤ hi
  · have H0 := Lib.hid h0
    obtain ⟨h1, h2⟩ := h0
    go_enter Try.func17, Try.ntmps17
    go_wp2_with (go_at_call 36; refine (win_yes _ _ _ _ (by omega) (by omega)).mono ?_; rintro e w' ⟨rfl, rfl⟩)
    go_loopw [17] (fun i wr => ∃ k : Nat, k ≤ l.length ∧ i = .int .i64 k ∧ Below w.heap.size w wr ∧ Hid (∀ j, j < k → pvP (atPi l j))) (fun i _ => l.length - (intOf i).toNat)
    case atStart => exact ⟨0, Nat.zero_le _, rfl, by repeat (first | (with_reducible assumption) | (exact bel_undr (by with_reducible assumption)) | (with_reducible exact bel_refl _) | (with_reducible refine bel_dr ?_) | (with_reducible refine bel_drN ?_ _) | (with_reducible refine bel_al ?_ _) | (refine bel_set ?_ (by first | (simp; done) | (simp; exact Below.size (by assumption)) | (simp; omega)) _) | (with_reducible refine bel_tr ?_ (by assumption))), fun j hj => absurd hj (by omega)⟩
    case round =>
      obtain ⟨k, hk, rfl, hb, HV⟩ := hrel
      by_cases hlt : k < l.length
      · obtain ⟨b, off, rfl, hlb, hc⟩ := (h.below hb) (by omega)
        have hck := hc k hlt
        have hkl : (k : Int) < (l.length : Int) := by omega
        have hk0 : (0 : Int) ≤ (k : Int) := by omega
        clear hc h
        by_cases hv : pvP (atPi l k)
        · have HB : Hid (pvP (atPi l k)) := hv
          unfold pvP at hv
          generalize atPi l k = t at hck hv
          obtain ⟨p0, p1, p2⟩ := hck
          obtain ⟨s, a, o⟩ := t
          simp only at p0 p1 p2 hv
          have HP := Lib.hid hv
          clear hv
          go_wp2_with (go_at_call 20; refine (pv_val HP.out _).mono ?_; rintro e1 w1 ⟨rfl, b1⟩)
          go_roundw
          case rel => exact ⟨k + 1, by omega, by go_num, by repeat (first | (with_reducible assumption) | (exact bel_undr (by with_reducible assumption)) | (with_reducible exact bel_refl _) | (with_reducible refine bel_dr ?_) | (with_reducible refine bel_drN ?_ _) | (with_reducible refine bel_al ?_ _) | (refine bel_set ?_ (by first | (simp; done) | (simp; exact Below.size (by assumption)) | (simp; omega)) _) | (with_reducible refine bel_tr ?_ (by assumption))), hid_snoc HV HB⟩
          case measure => simp [intOf]; omega
        · have HB : Hid (¬ pvP (atPi l k)) := hv
          unfold pvP at hv
          generalize atPi l k = t at hck hv
          obtain ⟨p0, p1, p2⟩ := hck
          obtain ⟨s, a, o⟩ := t
          simp only at p0 p1 p2 hv
          have HP := Lib.hid (Bool.eq_false_iff.2 hv)
          clear hv
          go_wp2_with (go_at_call 20; refine (pv_val HP.out _).mono ?_; rintro e1 w1 ⟨rfl, b1⟩)
          go_ret
          exact ⟨ret_bool (apB_bad k hlt HB).symm, by repeat (first | (with_reducible assumption) | (exact bel_undr (by with_reducible assumption)) | (with_reducible exact bel_refl _) | (with_reducible refine bel_dr ?_) | (with_reducible refine bel_drN ?_ _) | (with_reducible refine bel_al ?_ _) | (refine bel_set ?_ (by first | (simp; done) | (simp; exact Below.size (by assumption)) | (simp; omega)) _) | (with_reducible refine bel_tr ?_ (by assumption)))⟩
      · obtain rfl : k = l.length := by omega
        go_wp2
        go_ret
        exact ⟨ret_bool (apB_yes H0.out HV.out).symm, hb⟩
  · have h3 : (l.length : Int) < lo ∨ hi < (l.length : Int) := by omega
    go_enter Try.func17, Try.ntmps17
    go_wp2_with (go_at_call 36; refine (win_no _ _ _ _ h3).mono ?_; rintro e w' ⟨rfl, rfl⟩)
    go_ret
    exact ⟨ret_bool (apB_no h0).symm, bel_refl _⟩
theorem ap_val {l : List Pi} {lo hi : Int} {v : Bool} (hv : apB l lo hi = v) (A : Option Addr) (n c : Nat) (w : World) (hn : l.length = n) (hm : n ≤ 2000000) (h : RowPi w w.heap.size A l) :
    Calls Try.prog 17 #[.slice A n c, .int .i64 lo, .int .i64 hi] w fun e w' => e = .returned (.bool v) ∧ Below w.heap.size w w' := by
  subst hv; exact ap_any A n c l lo hi w hn hm h

set_option maxHeartbeats 2000000 in
theorem cv_any (A : Option Addr) (n c : Nat) (f : Int) (l : List Pi) (w : World) (hn : l.length = n) (hm : n ≤ 2000000) (h : RowPi w w.heap.size A l) :
    Calls Try.prog 16 #[.int .i64 f, .slice A n c] w fun e w' => e = .returned (.bool (cvB f l)) ∧ Below w.heap.size w w' := by
  subst hn
  by_cases hf : -7 ≤ f ∧ f ≤ 7
  · cases ha : apB l 2 10
    · have hb : cvB f l = false := by
        unfold cvB; apply decide_eq_false; rintro ⟨_, ⟨b1, b2⟩, d⟩
        rw [apB_yes ⟨by omega, by omega⟩ fun k hk => ikP_pv (d k hk)] at ha; cases ha
      refine boolw_to hb ?_
      clear hb
      obtain ⟨f0, f1⟩ := hf
      have HA := Lib.hid ha
      clear ha
      go_enter Try.func16, Try.ntmps16
      go_wp2_with (first | (go_at_call 22; refine (ik_yes _ _ (by omega) (by omega)).mono ?_; rintro e w' ⟨rfl, rfl⟩) | (go_at_call 22; refine (ik_no _ _ (by omega)).mono ?_; rintro e w' ⟨rfl, rfl⟩) | (go_at_call 17; refine (ap_val HA.out _ _ _ _ rfl hm h).mono ?_; rintro e1 w1 ⟨rfl, b1⟩))
      go_ret
      exact ⟨rfl, by repeat (first | (with_reducible assumption) | (exact bel_undr (by with_reducible assumption)) | (with_reducible exact bel_refl _) | (with_reducible refine bel_dr ?_) | (with_reducible refine bel_drN ?_ _) | (with_reducible refine bel_al ?_ _) | (refine bel_set ?_ (by first | (simp; done) | (simp; exact Below.size (by assumption)) | (simp; omega)) _) | (with_reducible refine bel_tr ?_ (by assumption)))⟩
    · have HF := Lib.hid hf
      obtain ⟨f0, f1⟩ := hf
      have H2 := Lib.hid (apB_of ha).1
      have HA := Lib.hid ha
      clear ha
      go_enter Try.func16, Try.ntmps16
      go_wp2_with (first | (go_at_call 22; refine (ik_yes _ _ (by omega) (by omega)).mono ?_; rintro e w' ⟨rfl, rfl⟩) | (go_at_call 22; refine (ik_no _ _ (by omega)).mono ?_; rintro e w' ⟨rfl, rfl⟩) | (go_at_call 17; refine (ap_val HA.out _ _ _ _ rfl hm h).mono ?_; rintro e1 w1 ⟨rfl, b1⟩))
      have h := h.below b1
      go_loopw [17] (fun i wr => ∃ k : Nat, k ≤ l.length ∧ i = .int .i64 k ∧ Below w1.heap.size w1 wr ∧ Hid (∀ j, j < k → ikP f (atPi l j))) (fun i _ => l.length - (intOf i).toNat)
      case atStart => exact ⟨0, Nat.zero_le _, rfl, by repeat (first | (with_reducible assumption) | (exact bel_undr (by with_reducible assumption)) | (with_reducible exact bel_refl _) | (with_reducible refine bel_dr ?_) | (with_reducible refine bel_drN ?_ _) | (with_reducible refine bel_al ?_ _) | (refine bel_set ?_ (by first | (simp; done) | (simp; exact Below.size (by assumption)) | (simp; omega)) _) | (with_reducible refine bel_tr ?_ (by assumption))), fun j hj => absurd hj (by omega)⟩
      case round =>
        obtain ⟨k, hk, rfl, hb, HV⟩ := hrel
        by_cases hlt : k < l.length
        · obtain ⟨b, off, rfl, hlb, hc⟩ := (h.below hb) (by omega)
          have hck := hc k hlt
          have hkl : (k : Int) < (l.length : Int) := by omega
          have hk0 : (0 : Int) ≤ (k : Int) := by omega
          clear hc h
          by_cases hv : ikP f (atPi l k)
          · have HB : Hid (ikP f (atPi l k)) := hv
            unfold ikP at hv
            generalize atPi l k = t at hck hv
            obtain ⟨p0, p1, p2⟩ := hck
            obtain ⟨s, a, o⟩ := t
            simp only at p0 p1 p2 hv
            have HP := Lib.hid hv
            clear hv
            go_wp2_with (go_at_call 10; refine (ink_val HP.out _).mono ?_; rintro e1 w1 ⟨rfl, b1⟩)
            go_roundw
            case rel => exact ⟨k + 1, by omega, by go_num, by repeat (first | (with_reducible assumption) | (exact bel_undr (by with_reducible assumption)) | (with_reducible exact bel_refl _) | (with_reducible refine bel_dr ?_) | (with_reducible refine bel_drN ?_ _) | (with_reducible refine bel_al ?_ _) | (refine bel_set ?_ (by first | (simp; done) | (simp; exact Below.size (by assumption)) | (simp; omega)) _) | (with_reducible refine bel_tr ?_ (by assumption))), hid_snoc HV HB⟩
            case measure => simp [intOf]; omega
          · have HB : Hid (¬ ikP f (atPi l k)) := hv
            unfold ikP at hv
            generalize atPi l k = t at hck hv
            obtain ⟨p0, p1, p2⟩ := hck
            obtain ⟨s, a, o⟩ := t
            simp only at p0 p1 p2 hv
            have HP := Lib.hid (Bool.eq_false_iff.2 hv)
            clear hv
            go_wp2_with (go_at_call 10; refine (ink_val HP.out _).mono ?_; rintro e1 w1 ⟨rfl, b1⟩)
            go_ret
            exact ⟨ret_bool (cvB_bad k hlt HB).symm, by repeat (first | (with_reducible assumption) | (exact bel_undr (by with_reducible assumption)) | (with_reducible exact bel_refl _) | (with_reducible refine bel_dr ?_) | (with_reducible refine bel_drN ?_ _) | (with_reducible refine bel_al ?_ _) | (refine bel_set ?_ (by first | (simp; done) | (simp; exact Below.size (by assumption)) | (simp; omega)) _) | (with_reducible refine bel_tr ?_ (by assumption)))⟩
        · obtain rfl : k = l.length := by omega
          have H3 := H2.out
          go_wp2
          go_ret
          exact ⟨ret_bool (cvB_yes HF.out ⟨by omega, by omega⟩ HV.out).symm, by repeat (first | (with_reducible assumption) | (exact bel_undr (by with_reducible assumption)) | (with_reducible exact bel_refl _) | (with_reducible refine bel_dr ?_) | (with_reducible refine bel_drN ?_ _) | (with_reducible refine bel_al ?_ _) | (refine bel_set ?_ (by first | (simp; done) | (simp; exact Below.size (by assumption)) | (simp; omega)) _) | (with_reducible refine bel_tr ?_ (by assumption)))⟩
  · refine boolw_to (cvB_no fun c => hf c.1) ?_
    have hf2 : f < -7 ∨ 7 < f := by omega
    have HA := Lib.hid (rfl : apB l 2 10 = apB l 2 10)
    go_enter Try.func16, Try.ntmps16
    go_wp2_with (first | (go_at_call 22; refine (ik_yes _ _ (by omega) (by omega)).mono ?_; rintro e w' ⟨rfl, rfl⟩) | (go_at_call 22; refine (ik_no _ _ (by omega)).mono ?_; rintro e w' ⟨rfl, rfl⟩) | (go_at_call 17; refine (ap_val HA.out _ _ _ _ rfl hm h).mono ?_; rintro e1 w1 ⟨rfl, b1⟩))
    go_ret
    exact ⟨rfl, by repeat (first | (with_reducible assumption) | (exact bel_undr (by with_reducible assumption)) | (with_reducible exact bel_refl _) | (with_reducible refine bel_dr ?_) | (with_reducible refine bel_drN ?_ _) | (with_reducible refine bel_al ?_ _) | (refine bel_set ?_ (by first | (simp; done) | (simp; exact Below.size (by assumption)) | (simp; omega)) _) | (with_reducible refine bel_tr ?_ (by assumption)))⟩
theorem cv_val {f : Int} {l : List Pi} {v : Bool} (hv : cvB f l = v) (A : Option Addr) (n c : Nat) (w : World) (hn : l.length = n) (hm : n ≤ 2000000) (h : RowPi w w.heap.size A l) :
    Calls Try.prog 16 #[.int .i64 f, .slice A n c] w fun e w' => e = .returned (.bool v) ∧ Below w.heap.size w w' := by
  subst hv; exact cv_any A n c f l w hn hm h

set_option maxHeartbeats 2000000 in
theorem scv_any (A : Option Addr) (n c : Nat) (f : Int) (l : List Pi) (w : World) (hn : l.length = n) (hm : n ≤ 2000000) (h : RowPi w w.heap.size A l) :
    Calls Try.prog 19 #[.int .i64 f, .slice A n c] w fun e w' => e = .returned (.bool (cvB f l)) ∧ Below w.heap.size w w' := by
  subst hn
  go_enter Try.func19, Try.ntmps19
  go_wp2
  go_loopw [5] (fun i wr => ∃ k : Nat, k ≤ l.length ∧ i = .int .i64 k ∧ Below w.heap.size w wr ∧ Hid (∀ j, j < k → ikP f (atPi l j))) (fun i _ => l.length - (intOf i).toNat)
  case atStart => exact ⟨0, Nat.zero_le _, rfl, by repeat (first | (with_reducible assumption) | (exact bel_undr (by with_reducible assumption)) | (with_reducible exact bel_refl _) | (with_reducible refine bel_dr ?_) | (with_reducible refine bel_drN ?_ _) | (with_reducible refine bel_al ?_ _) | (refine bel_set ?_ (by first | (simp; done) | (simp; exact Below.size (by assumption)) | (simp; omega)) _) | (with_reducible refine bel_tr ?_ (by assumption))), fun j hj => absurd hj (by omega)⟩
  case round =>
    obtain ⟨k, hk, rfl, hb, HV⟩ := hrel
    by_cases hlt : k < l.length
    · obtain ⟨b, off, rfl, hlb, hc⟩ := (h.below hb) (by omega)
      have hck := hc k hlt
      have hkl : (k : Int) < (l.length : Int) := by omega
      have hk0 : (0 : Int) ≤ (k : Int) := by omega
      clear hc h
      by_cases hv : ikP f (atPi l k)
      · have HB : Hid (ikP f (atPi l k)) := hv
        unfold ikP at hv
        generalize atPi l k = t at hck hv
        obtain ⟨p0, p1, p2⟩ := hck
        obtain ⟨s, a, o⟩ := t
        simp only at p0 p1 p2 hv
        have HP := Lib.hid hv
        clear hv
        go_wp2_with (go_at_call 38; refine (sink_val HP.out _).mono ?_; rintro e1 w1 ⟨rfl, b1⟩)
        go_roundw
        case rel => exact ⟨k + 1, by omega, by go_num, by repeat (first | (with_reducible assumption) | (exact bel_undr (by with_reducible assumption)) | (with_reducible exact bel_refl _) | (with_reducible refine bel_dr ?_) | (with_reducible refine bel_drN ?_ _) | (with_reducible refine bel_al ?_ _) | (refine bel_set ?_ (by first | (simp; done) | (simp; exact Below.size (by assumption)) | (simp; omega)) _) | (with_reducible refine bel_tr ?_ (by assumption))), hid_snoc HV HB⟩
        case measure => simp [intOf]; omega
      · have HB : Hid (¬ ikP f (atPi l k)) := hv
        unfold ikP at hv
        generalize atPi l k = t at hck hv
        obtain ⟨p0, p1, p2⟩ := hck
        obtain ⟨s, a, o⟩ := t
        simp only at p0 p1 p2 hv
        have HP := Lib.hid (Bool.eq_false_iff.2 hv)
        clear hv
        go_wp2_with (go_at_call 38; refine (sink_val HP.out _).mono ?_; rintro e1 w1 ⟨rfl, b1⟩)
        go_ret
        exact ⟨ret_bool (cvB_bad k hlt HB).symm, by repeat (first | (with_reducible assumption) | (exact bel_undr (by with_reducible assumption)) | (with_reducible exact bel_refl _) | (with_reducible refine bel_dr ?_) | (with_reducible refine bel_drN ?_ _) | (with_reducible refine bel_al ?_ _) | (refine bel_set ?_ (by first | (simp; done) | (simp; exact Below.size (by assumption)) | (simp; omega)) _) | (with_reducible refine bel_tr ?_ (by assumption)))⟩
    · obtain rfl : k = l.length := by omega
      rcases (show ((2 ≤ l.length ∧ l.length ≤ 10) ∧ (-7 ≤ f ∧ f ≤ 7)) ∨ ((2 ≤ l.length ∧ l.length ≤ 10) ∧ (f < -7 ∨ 7 < f)) ∨ (l.length < 2 ∨ 10 < l.length) from by omega) with ⟨⟨c1, c2⟩, c3, c4⟩ | ⟨⟨c1, c2⟩, c3⟩ | c1
      · have d1 : (2 : Int) ≤ (l.length : Int) := by omega
        have d2 : (l.length : Int) ≤ 10 := by omega
        have HE := Lib.hid (cvB_yes ⟨c3, c4⟩ ⟨c1, c2⟩ HV.out)
        go_wp2_with (first | (go_at_call 37; refine (swin_yes _ _ _ _ (by omega) (by omega)).mono ?_; rintro e w' ⟨rfl, rfl⟩) | (go_at_call 37; refine (swin_no _ _ _ _ (by omega)).mono ?_; rintro e w' ⟨rfl, rfl⟩))
        go_ret
        exact ⟨ret_bool (by rw [HE.out]), hb⟩
      · have d1 : (2 : Int) ≤ (l.length : Int) := by omega
        have d2 : (l.length : Int) ≤ 10 := by omega
        have HE := Lib.hid (cvB_no (f := f) (l := l) (by omega))
        go_wp2_with (first | (go_at_call 37; refine (swin_yes _ _ _ _ (by omega) (by omega)).mono ?_; rintro e w' ⟨rfl, rfl⟩) | (go_at_call 37; refine (swin_no _ _ _ _ (by omega)).mono ?_; rintro e w' ⟨rfl, rfl⟩))
        go_ret
        exact ⟨ret_bool (by rw [HE.out]), hb⟩
      · have d1 : (l.length : Int) < 2 ∨ 10 < (l.length : Int) := by omega
        have HE := Lib.hid (cvB_no (f := f) (l := l) (by omega))
        go_wp2_with (first | (go_at_call 37; refine (swin_yes _ _ _ _ (by omega) (by omega)).mono ?_; rintro e w' ⟨rfl, rfl⟩) | (go_at_call 37; refine (swin_no _ _ _ _ (by omega)).mono ?_; rintro e w' ⟨rfl, rfl⟩))
        go_ret
        exact ⟨ret_bool (by rw [HE.out]), hb⟩
theorem scv_val {f : Int} {l : List Pi} {v : Bool} (hv : cvB f l = v) (A : Option Addr) (n c : Nat) (w : World) (hn : l.length = n) (hm : n ≤ 2000000) (h : RowPi w w.heap.size A l) :
    Calls Try.prog 19 #[.int .i64 f, .slice A n c] w fun e w' => e = .returned (.bool v) ∧ Below w.heap.size w w' := by
  subst hv; exact scv_any A n c f l w hn hm h
end Go.Proofs.Ytdmidimjbhkjoaa
