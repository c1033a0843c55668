/- EventsValid, of the program and of the reference: for every slice. -/
import Derived.Test.YtaieamobjbckdaaRowEv
import Derived.Test.YtaieamobjbckdaaTv
namespace Go.Proofs.Ytaieamobjbckdaa
set_option linter.unusedSimpArgs false
set_option linter.unusedVariables false
open Go.RowKit

/-- the test of event number k -/
def evOk (l : List Ev) (k : Nat) : Prop := 0 ≤ (atEv l k).on ∧ (atEv l k).on < (atEv l k).off ∧ (atEv l k).off ≤ 5000000000 ∧ (0 ≤ (atEv l k).key ∧ (atEv l k).key ≤ 107) ∧ (1 ≤ (atEv l k).loud ∧ (atEv l k).loud ≤ 127) ∧ (0 < k → (atEv l (k - 1)).off ≤ (atEv l k).on)
instance (l : List Ev) (k : Nat) : Decidable (evOk l k) := by unfold evOk; infer_instance
def evB (l : List Ev) : Bool := decide (l.length ≤ 60 ∧ ∀ k, k < l.length → evOk l k)
theorem evB_no {l : List Ev} (h : ¬ l.length ≤ 60) : evB l = false := by
  unfold evB; apply decide_eq_false; rintro ⟨a, _⟩; exact h a
theorem evB_bad {l : List Ev} (k : Nat) (hk : k < l.length) (h : ¬ evOk l k) : evB l = false := by
  unfold evB; apply decide_eq_false; rintro ⟨_, d⟩; exact h (d k hk)
theorem evB_yes {l : List Ev} (h : l.length ≤ 60) (hk : ∀ k, k < l.length → evOk l k) : evB l = true := by
  unfold evB; exact decide_eq_true ⟨h, hk⟩
def EvP (w : World) (l : List Ev) (e : Ending) (w' : World) : Prop := e = .returned (.bool (evB l)) ∧ Below w.heap.size w w'

set_option maxHeartbeats 8000000 in
theorem ev_any (A : Option Addr) (n c : Nat) (l : List Ev) (w : World) (hn : l.length = n) (hm : n ≤ 2000000) (h : RowEv w w.heap.size A l) :
    Calls Try.prog 5 #[.slice A n c] w (EvP w l) := by
  subst hn
  by_cases h60 : l.length ≤ 60
  · go_enter Try.func5, Try.ntmps5
    have h61 : (l.length : Int) ≤ 60 := by omega
    go_wp2
    go_loopw [10] (fun i wr => ∃ k : Nat, k ≤ l.length ∧ i = .int .i64 k ∧ Below w.heap.size w wr ∧ Hid (∀ j, j < k → evOk l j)) (fun i _ => l.length - (intOf i).toNat)
    case atStart => exact ⟨0, Nat.zero_le _, rfl, bel_refl _, fun j hj => by omega⟩
    case round =>
      obtain ⟨k, hk, rfl, hb, HV⟩ := hrel
      by_cases hlt : k < l.length
      · obtain ⟨b, off, rfl, hlb, hc⟩ := (h.below hb) (by omega)
        have hck := hc k hlt
        have hcp := fun (hp : 0 < k) => (hc (k - 1) (by omega)).2.1
        have hkl : (k : Int) < (l.length : Int) := by omega
        have hk0 : (0 : Int) ≤ (k : Int) := by omega
        clear hc h
        by_cases m1 : 0 ≤ (atEv l k).on
        · skip
          by_cases m2 : (atEv l k).on < (atEv l k).off
          · skip
            by_cases m3 : (atEv l k).off ≤ 5000000000
            · skip
              by_cases m4 : 0 ≤ (atEv l k).key ∧ (atEv l k).key ≤ 107
              · skip
                by_cases m5 : 1 ≤ (atEv l k).loud ∧ (atEv l k).loud ≤ 127
                · skip
                  by_cases m0 : 0 < k
                  · obtain ⟨q, rfl⟩ : ∃ q, k = q + 1 := ⟨k - 1, by omega⟩
                    have hcp := hcp m0
                    simp only [Nat.add_sub_cancel] at hcp
                    by_cases m6 : (atEv l q).off ≤ (atEv l (q + 1)).on
                    · have hv : Hid (evOk l (q + 1)) := ⟨m1, m2, m3, m4, m5, fun _ => m6⟩
                      generalize atEv l (q + 1) = t at hck m1 m2 m3 m4 m5 m6
                      generalize (atEv l q).off = pv at hcp m6
                      obtain ⟨p0, p1, p2, p3⟩ := hck
                      obtain ⟨on, off', key, loud⟩ := t
                      simp only at p0 p1 p2 p3 m1 m2 m3 m4 m5 m6
                      have d1 : decide (on < 0) = false := by simp; omega
                      have d2 : decide (off' ≤ on) = false := by simp; omega
                      have d3 : decide (5000000000 < off') = false := by simp; omega
                      have d6 : decide (on < pv) = false := by simp; omega
                      have hq0 : (0 : Int) ≤ (q : Int) := by omega
                      have hq1 : (q : Int) < (l.length : Int) := by omega
                      have hqw : IntKind.i64.wrap (q : Int) = q := IntWalk.i64_in _ (by omega)
                      (go_wp2; go_big_quiet ((first | (go_at_call 10; exact quiet_left (win_yes _ _ _ _ (by omega) (by omega))) | (go_at_call 10; exact quiet_left (win_no _ _ _ _ (by omega))))); go_wp2)
                      go_roundw
                      case rel => exact ⟨q + 1 + 1, by omega, by go_num, by repeat (first | (with_reducible assumption) | (exact bel_undr (by with_reducible assumption)) | (with_reducible exact bel_refl _) | (with_reducible refine bel_dr ?_) | (with_reducible refine bel_drN ?_ _) | (with_reducible refine bel_al ?_ _) | (refine bel_set ?_ (by first | (simp; done) | (simp; exact Below.size (by assumption)) | (simp; omega)) _) | (with_reducible refine bel_tr ?_ (by assumption))), hid_snoc HV hv⟩
                      case measure => simp [intOf]; omega
                    · have hv : Hid (¬ evOk l (q + 1)) := fun h => m6 (h.2.2.2.2.2 m0)
                      generalize atEv l (q + 1) = t at hck m1 m2 m3 m4 m5 m6
                      generalize (atEv l q).off = pv at hcp m6
                      obtain ⟨p0, p1, p2, p3⟩ := hck
                      obtain ⟨on, off', key, loud⟩ := t
                      simp only at p0 p1 p2 p3 m1 m2 m3 m4 m5 m6
                      have d1 : decide (on < 0) = false := by simp; omega
                      have d2 : decide (off' ≤ on) = false := by simp; omega
                      have d3 : decide (5000000000 < off') = false := by simp; omega
                      have d6 : on < pv := by omega
                      have hq0 : (0 : Int) ≤ (q : Int) := by omega
                      have hq1 : (q : Int) < (l.length : Int) := by omega
                      have hqw : IntKind.i64.wrap (q : Int) = q := IntWalk.i64_in _ (by omega)
                      (go_wp2; go_big_quiet ((first | (go_at_call 10; exact quiet_left (win_yes _ _ _ _ (by omega) (by omega))) | (go_at_call 10; exact quiet_left (win_no _ _ _ _ (by omega))))); go_wp2)
                      go_ret
                      exact ⟨ret_bool (evB_bad _ hlt hv).symm, by repeat (first | (with_reducible assumption) | (exact bel_undr (by with_reducible assumption)) | (with_reducible exact bel_refl _) | (with_reducible refine bel_dr ?_) | (with_reducible refine bel_drN ?_ _) | (with_reducible refine bel_al ?_ _) | (refine bel_set ?_ (by first | (simp; done) | (simp; exact Below.size (by assumption)) | (simp; omega)) _) | (with_reducible refine bel_tr ?_ (by assumption)))⟩
                  · obtain rfl : k = 0 := by omega
                    have hv : Hid (evOk l 0) := ⟨m1, m2, m3, m4, m5, fun h => absurd h m0⟩
                    generalize atEv l 0 = t at hck m1 m2 m3 m4 m5
                    obtain ⟨p0, p1, p2, p3⟩ := hck
                    obtain ⟨on, off', key, loud⟩ := t
                    simp only [Nat.zero_mul, Nat.add_zero] at p0 p1 p2 p3 m1 m2 m3 m4 m5
                    have hlt0 := Lib.hid hlt
                    clear hcp m0 hk0 hk hlt
                    have e0 : ((0 : Nat) : Int) = 0 := rfl
                    rw [e0] at hkl ⊢
                    clear e0
                    have d1 : decide (on < 0) = false := by simp; omega
                    have d2 : decide (off' ≤ on) = false := by simp; omega
                    have d3 : decide (5000000000 < off') = false := by simp; omega
                    (go_wp2; go_big_quiet ((first | (go_at_call 10; exact quiet_left (win_yes _ _ _ _ (by omega) (by omega))) | (go_at_call 10; exact quiet_left (win_no _ _ _ _ (by omega))))); go_wp2)
                    go_roundw
                    case rel => exact ⟨1, hlt0.out, by go_num, by repeat (first | (with_reducible assumption) | (exact bel_undr (by with_reducible assumption)) | (with_reducible exact bel_refl _) | (with_reducible refine bel_dr ?_) | (with_reducible refine bel_drN ?_ _) | (with_reducible refine bel_al ?_ _) | (refine bel_set ?_ (by first | (simp; done) | (simp; exact Below.size (by assumption)) | (simp; omega)) _) | (with_reducible refine bel_tr ?_ (by assumption))), hid_snoc HV hv⟩
                    case measure => have hlt := hlt0.out; simp [intOf]; omega
                · have hv : Hid (¬ evOk l k) := fun h => m5 (h.2.2.2.2.1)
                  generalize atEv l k = t at hck m1 m2 m3 m4 m5
                  obtain ⟨p0, p1, p2, p3⟩ := hck
                  obtain ⟨on, off', key, loud⟩ := t
                  simp only at p0 p1 p2 p3 m1 m2 m3 m4 m5
                  clear hcp
                  have d1 : decide (on < 0) = false := by simp; omega
                  have d2 : decide (off' ≤ on) = false := by simp; omega
                  have d3 : decide (5000000000 < off') = false := by simp; omega
                  (go_wp2; go_big_quiet ((first | (go_at_call 10; exact quiet_left (win_yes _ _ _ _ (by omega) (by omega))) | (go_at_call 10; exact quiet_left (win_no _ _ _ _ (by omega))))); go_wp2)
                  go_ret
                  exact ⟨ret_bool (evB_bad _ hlt hv).symm, by repeat (first | (with_reducible assumption) | (exact bel_undr (by with_reducible assumption)) | (with_reducible exact bel_refl _) | (with_reducible refine bel_dr ?_) | (with_reducible refine bel_drN ?_ _) | (with_reducible refine bel_al ?_ _) | (refine bel_set ?_ (by first | (simp; done) | (simp; exact Below.size (by assumption)) | (simp; omega)) _) | (with_reducible refine bel_tr ?_ (by assumption)))⟩
              · have hv : Hid (¬ evOk l k) := fun h => m4 (h.2.2.2.1)
                generalize atEv l k = t at hck m1 m2 m3 m4
                obtain ⟨p0, p1, p2, p3⟩ := hck
                obtain ⟨on, off', key, loud⟩ := t
                simp only at p0 p1 p2 p3 m1 m2 m3 m4
                clear hcp
                have d1 : decide (on < 0) = false := by simp; omega
                have d2 : decide (off' ≤ on) = false := by simp; omega
                have d3 : decide (5000000000 < off') = false := by simp; omega
                (go_wp2; go_big_quiet ((first | (go_at_call 10; exact quiet_left (win_yes _ _ _ _ (by omega) (by omega))) | (go_at_call 10; exact quiet_left (win_no _ _ _ _ (by omega))))); go_wp2)
                go_ret
                exact ⟨ret_bool (evB_bad _ hlt hv).symm, by repeat (first | (with_reducible assumption) | (exact bel_undr (by with_reducible assumption)) | (with_reducible exact bel_refl _) | (with_reducible refine bel_dr ?_) | (with_reducible refine bel_drN ?_ _) | (with_reducible refine bel_al ?_ _) | (refine bel_set ?_ (by first | (simp; done) | (simp; exact Below.size (by assumption)) | (simp; omega)) _) | (with_reducible refine bel_tr ?_ (by assumption)))⟩
            · have hv : Hid (¬ evOk l k) := fun h => m3 (h.2.2.1)
              generalize atEv l k = t at hck m1 m2 m3
              obtain ⟨p0, p1, p2, p3⟩ := hck
              obtain ⟨on, off', key, loud⟩ := t
              simp only at p0 p1 p2 p3 m1 m2 m3
              clear hcp
              have d1 : decide (on < 0) = false := by simp; omega
              have d2 : decide (off' ≤ on) = false := by simp; omega
              have e3 : 5000000000 < off' := by omega
              (go_wp2; go_big_quiet ((first | (go_at_call 10; exact quiet_left (win_yes _ _ _ _ (by omega) (by omega))) | (go_at_call 10; exact quiet_left (win_no _ _ _ _ (by omega))))); go_wp2)
              go_ret
              exact ⟨ret_bool (evB_bad _ hlt hv).symm, by repeat (first | (with_reducible assumption) | (exact bel_undr (by with_reducible assumption)) | (with_reducible exact bel_refl _) | (with_reducible refine bel_dr ?_) | (with_reducible refine bel_drN ?_ _) | (with_reducible refine bel_al ?_ _) | (refine bel_set ?_ (by first | (simp; done) | (simp; exact Below.size (by assumption)) | (simp; omega)) _) | (with_reducible refine bel_tr ?_ (by assumption)))⟩
          · have hv : Hid (¬ evOk l k) := fun h => m2 (h.2.1)
            generalize atEv l k = t at hck m1 m2
            obtain ⟨p0, p1, p2, p3⟩ := hck
            obtain ⟨on, off', key, loud⟩ := t
            simp only at p0 p1 p2 p3 m1 m2
            clear hcp
            have d1 : decide (on < 0) = false := by simp; omega
            have e2 : off' ≤ on := by omega
            (go_wp2; go_big_quiet ((first | (go_at_call 10; exact quiet_left (win_yes _ _ _ _ (by omega) (by omega))) | (go_at_call 10; exact quiet_left (win_no _ _ _ _ (by omega))))); go_wp2)
            go_ret
            exact ⟨ret_bool (evB_bad _ hlt hv).symm, by repeat (first | (with_reducible assumption) | (exact bel_undr (by with_reducible assumption)) | (with_reducible exact bel_refl _) | (with_reducible refine bel_dr ?_) | (with_reducible refine bel_drN ?_ _) | (with_reducible refine bel_al ?_ _) | (refine bel_set ?_ (by first | (simp; done) | (simp; exact Below.size (by assumption)) | (simp; omega)) _) | (with_reducible refine bel_tr ?_ (by assumption)))⟩
        · have hv : Hid (¬ evOk l k) := fun h => m1 (h.1)
          generalize atEv l k = t at hck m1
          obtain ⟨p0, p1, p2, p3⟩ := hck
          obtain ⟨on, off', key, loud⟩ := t
          simp only at p0 p1 p2 p3 m1
          clear hcp
          have e1 : on < 0 := by omega
          (go_wp2; go_big_quiet ((first | (go_at_call 10; exact quiet_left (win_yes _ _ _ _ (by omega) (by omega))) | (go_at_call 10; exact quiet_left (win_no _ _ _ _ (by omega))))); go_wp2)
          go_ret
          exact ⟨ret_bool (evB_bad _ hlt hv).symm, by repeat (first | (with_reducible assumption) | (exact bel_undr (by with_reducible assumption)) | (with_reducible exact bel_refl _) | (with_reducible refine bel_dr ?_) | (with_reducible refine bel_drN ?_ _) | (with_reducible refine bel_al ?_ _) | (refine bel_set ?_ (by first | (simp; done) | (simp; exact Below.size (by assumption)) | (simp; omega)) _) | (with_reducible refine bel_tr ?_ (by assumption)))⟩
      · obtain rfl : k = l.length := by omega
        go_wp2
        go_ret
        exact ⟨ret_bool (evB_yes h60 HV.out).symm, hb⟩
  · have h61 : (60 : Int) < (l.length : Int) := by omega
    go_enter Try.func5, Try.ntmps5
    go_wp2
    go_ret
    exact ⟨ret_bool (evB_no h60).symm, bel_refl _⟩
end Go.Proofs.Ytaieamobjbckdaa
