/- TemposValid of the reference: for every slice. -/
import Derived.Test.YtaieamobjbckdaaTv
namespace Go.Proofs.Ytaieamobjbckdaa
set_option linter.unusedSimpArgs false
set_option linter.unusedVariables false
open Go.RowKit

set_option maxHeartbeats 4000000 in
theorem stv_any (A : Option Addr) (n c : Nat) (l : List Tp) (w : World) (hn : l.length = n) (hm : n ≤ 2000000) (h : RowTp w w.heap.size A l) :
    Calls Try.prog 21 #[.slice A n c] w (TvP w l) := by
  subst hn
  go_enter Try.func21, Try.ntmps21
  go_wp2
  go_loopw [3] (fun i wr => ∃ k : Nat, k ≤ l.length ∧ i = .int .i64 k ∧ Below w.heap.size w wr ∧ Hid (∀ j, j < k → tvOk l j)) (fun i _ => l.length - (intOf i).toNat)
  case atStart => exact ⟨0, Nat.zero_le _, rfl, bel_refl _, fun j hj => by omega⟩
  case round =>
    obtain ⟨k, hk, rfl, hb, HV⟩ := hrel
    by_cases hlt : k < l.length
    · obtain ⟨b, off, rfl, hlb, hc⟩ := (h.below hb) (by omega)
      have hck := hc k hlt
      have hcp := fun (hp : 0 < k) => (hc (k - 1) (by omega)).1
      have hkl : (k : Int) < (l.length : Int) := by omega
      have hk0 : (0 : Int) ≤ (k : Int) := by omega
      clear hc h
      by_cases m1 : 100 ≤ (atTp l k).micros ∧ (atTp l k).micros ≤ 100000
      · obtain ⟨m1, m2⟩ := m1
        by_cases m3 : (atTp l k).tick ≤ 50000
        · by_cases m4 : 0 < k
          · obtain ⟨q, rfl⟩ : ∃ q, k = q + 1 := ⟨k - 1, by omega⟩
            have hcp := hcp m4
            simp only [Nat.add_sub_cancel] at hcp
            by_cases m5 : (atTp l q).tick < (atTp l (q + 1)).tick
            · have hv : Hid (tvOk l (q + 1)) := ⟨m1, m2, m3, fun _ => m5⟩
              generalize atTp l (q + 1) = t at hck m1 m2 m3 m5
              generalize (atTp l q).tick = pv at hcp m5
              obtain ⟨p0, p1⟩ := hck
              obtain ⟨tick, micros⟩ := t
              simp only at p0 p1 m1 m2 m3 m5
              have hq0 : (0 : Int) ≤ (q : Int) := by omega
              have hq1 : (q : Int) < (l.length : Int) := by omega
              have m6 : decide (50000 < tick) = false := by simp; omega
              have hqw : IntKind.i64.wrap (q : Int) = q := IntWalk.i64_in _ (by omega)
              (go_wp2; go_big_quiet ((first | (go_at_call 11; exact quiet_left (swin_yes _ _ _ _ (by omega) (by omega))) | (go_at_call 11; exact quiet_left (swin_no _ _ _ _ (by omega))))); go_wp2)
              go_roundw
              case rel => exact ⟨q + 1 + 1, by omega, by go_num, by repeat (first | (with_reducible assumption) | (exact bel_undr (by with_reducible assumption)) | (with_reducible exact bel_refl _) | (with_reducible refine bel_dr ?_) | (with_reducible refine bel_drN ?_ _) | (with_reducible refine bel_al ?_ _) | (refine bel_set ?_ (by first | (simp; done) | (simp; exact Below.size (by assumption)) | (simp; omega)) _) | (with_reducible refine bel_tr ?_ (by assumption))), hid_snoc HV hv⟩
              case measure => simp [intOf]; omega
            · have hv : Hid (¬ tvOk l (q + 1)) := fun h => m5 (h.2.2.2 m4)
              generalize atTp l (q + 1) = t at hck m1 m2 m3 m5
              generalize (atTp l q).tick = pv at hcp m5
              obtain ⟨p0, p1⟩ := hck
              obtain ⟨tick, micros⟩ := t
              simp only at p0 p1 m1 m2 m3 m5
              have hq0 : (0 : Int) ≤ (q : Int) := by omega
              have hq1 : (q : Int) < (l.length : Int) := by omega
              have m6 : decide (50000 < tick) = false := by simp; omega
              have hqw : IntKind.i64.wrap (q : Int) = q := IntWalk.i64_in _ (by omega)
              (go_wp2; go_big_quiet ((first | (go_at_call 11; exact quiet_left (swin_yes _ _ _ _ (by omega) (by omega))) | (go_at_call 11; exact quiet_left (swin_no _ _ _ _ (by omega))))); go_wp2)
              go_ret
              exact ⟨ret_bool (tvB_bad _ hlt hv).symm, by repeat (first | (with_reducible assumption) | (exact bel_undr (by with_reducible assumption)) | (with_reducible exact bel_refl _) | (with_reducible refine bel_dr ?_) | (with_reducible refine bel_drN ?_ _) | (with_reducible refine bel_al ?_ _) | (refine bel_set ?_ (by first | (simp; done) | (simp; exact Below.size (by assumption)) | (simp; omega)) _) | (with_reducible refine bel_tr ?_ (by assumption)))⟩
          · obtain rfl : k = 0 := by omega
            have hv : Hid (tvOk l 0) := ⟨m1, m2, m3, fun h => absurd h m4⟩
            generalize atTp l 0 = t at hck m1 m2 m3
            obtain ⟨p0, p1⟩ := hck
            obtain ⟨tick, micros⟩ := t
            simp only [Nat.zero_mul, Nat.add_zero] at p0 p1 m1 m2 m3
            have hlt0 := Lib.hid hlt
            clear hcp m4 hk0 hk hlt
            have e0 : ((0 : Nat) : Int) = 0 := rfl
            rw [e0] at hkl ⊢
            clear e0
            have m6 : decide (50000 < tick) = false := by simp; omega
            (go_wp2; go_big_quiet ((first | (go_at_call 11; exact quiet_left (swin_yes _ _ _ _ (by omega) (by omega))) | (go_at_call 11; exact quiet_left (swin_no _ _ _ _ (by omega))))); go_wp2)
            go_roundw
            case rel => exact ⟨1, hlt0.out, by go_num, by repeat (first | (with_reducible assumption) | (exact bel_undr (by with_reducible assumption)) | (with_reducible exact bel_refl _) | (with_reducible refine bel_dr ?_) | (with_reducible refine bel_drN ?_ _) | (with_reducible refine bel_al ?_ _) | (refine bel_set ?_ (by first | (simp; done) | (simp; exact Below.size (by assumption)) | (simp; omega)) _) | (with_reducible refine bel_tr ?_ (by assumption))), hid_snoc HV hv⟩
            case measure => have hlt := hlt0.out; simp [intOf]; omega
        · have hv : Hid (¬ tvOk l k) := fun h => m3 h.2.2.1
          generalize atTp l k = t at hck m1 m2 m3
          obtain ⟨p0, p1⟩ := hck
          obtain ⟨tick, micros⟩ := t
          simp only at p0 p1 m1 m2 m3
          have m6 : 50000 < tick := by omega
          clear hcp
          (go_wp2; go_big_quiet ((first | (go_at_call 11; exact quiet_left (swin_yes _ _ _ _ (by omega) (by omega))) | (go_at_call 11; exact quiet_left (swin_no _ _ _ _ (by omega))))); go_wp2)
          go_ret
          exact ⟨ret_bool (tvB_bad _ hlt hv).symm, by repeat (first | (with_reducible assumption) | (exact bel_undr (by with_reducible assumption)) | (with_reducible exact bel_refl _) | (with_reducible refine bel_dr ?_) | (with_reducible refine bel_drN ?_ _) | (with_reducible refine bel_al ?_ _) | (refine bel_set ?_ (by first | (simp; done) | (simp; exact Below.size (by assumption)) | (simp; omega)) _) | (with_reducible refine bel_tr ?_ (by assumption)))⟩
      · have hv : Hid (¬ tvOk l k) := fun h => m1 ⟨h.1, h.2.1⟩
        generalize atTp l k = t at hck m1
        obtain ⟨p0, p1⟩ := hck
        obtain ⟨tick, micros⟩ := t
        simp only at p0 p1 m1
        clear hcp
        (go_wp2; go_big_quiet ((first | (go_at_call 11; exact quiet_left (swin_yes _ _ _ _ (by omega) (by omega))) | (go_at_call 11; exact quiet_left (swin_no _ _ _ _ (by omega))))); go_wp2)
        go_ret
        exact ⟨ret_bool (tvB_bad _ hlt hv).symm, by repeat (first | (with_reducible assumption) | (exact bel_undr (by with_reducible assumption)) | (with_reducible exact bel_refl _) | (with_reducible refine bel_dr ?_) | (with_reducible refine bel_drN ?_ _) | (with_reducible refine bel_al ?_ _) | (refine bel_set ?_ (by first | (simp; done) | (simp; exact Below.size (by assumption)) | (simp; omega)) _) | (with_reducible refine bel_tr ?_ (by assumption)))⟩
    · obtain rfl : k = l.length := by omega
      by_cases h0 : 1 ≤ l.length ∧ l.length ≤ 8
      · obtain ⟨h0, h1⟩ := h0
        obtain ⟨b, off, rfl, hlb, hc⟩ := (h.below hb) (by omega)
        have c0 := (hc 0 h0).1
        simp only [Nat.zero_mul, Nat.add_zero] at c0
        generalize hg : (atTp l 0).tick = t0 at c0
        have HG := Lib.hid hg
        clear hg hc h
        by_cases hz : t0 = 0
        · subst hz
          go_wp2_with (go_at_call 11; refine (swin_yes _ _ _ _ (by omega) (by omega)).mono ?_; rintro e w' ⟨rfl, rfl⟩)
          go_ret
          exact ⟨ret_bool (tvB_yes ⟨h0, h1, HG.out⟩ HV.out).symm, hb⟩
        · have hz1 : (t0 == 0) = false := by simpa using hz
          have HZ := Lib.hid hz
          clear hz
          go_wp2_with (go_at_call 11; refine (swin_yes _ _ _ _ (by omega) (by omega)).mono ?_; rintro e w' ⟨rfl, rfl⟩)
          go_ret
          exact ⟨ret_bool (tvB_no (fun h => HZ.out (HG.out ▸ h.2.2))).symm, hb⟩
      · have H0 := Lib.hid h0
        go_wp2_with (go_at_call 11; refine (swin_no _ _ _ _ (by omega)).mono ?_; rintro e w' ⟨rfl, rfl⟩)
        go_ret
        exact ⟨ret_bool (tvB_no (fun h => H0.out ⟨h.1, h.2.1⟩)).symm, hb⟩
end Go.Proofs.Ytaieamobjbckdaa
