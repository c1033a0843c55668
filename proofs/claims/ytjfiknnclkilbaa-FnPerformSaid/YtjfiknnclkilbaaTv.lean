/- TemposValid, of the program and of the reference: for every slice. -/
import Derived.Test.YtjfiknnclkilbaaRowTp
namespace Go.Proofs.Ytjfiknnclkilbaa
open Go.RowKit

theorem quiet_left {P : Program} {f : FuncId} {args : Array Value} {w : World} {n : Nat} {v : Value}
    (h : Calls P f args (w.drewN n) fun e w' => e = .returned v ∧ w.drewN n = w') : Calls P f args (w.drewN n) fun e w'' => e = .returned v ∧ ∃ m, w'' = w.drewN m :=
  h.mono fun _ _ ⟨he, hm⟩ => ⟨he, n, hm.symm⟩
/-- the test of tempo number k -/
def tvOk (l : List Tp) (k : Nat) : Prop := 100 ≤ (atTp l k).micros ∧ (atTp l k).micros ≤ 100000 ∧ (atTp l k).tick ≤ 50000 ∧ (0 < k → (atTp l (k - 1)).tick < (atTp l k).tick)
instance (l : List Tp) (k : Nat) : Decidable (tvOk l k) := by unfold tvOk; infer_instance
def tvB (l : List Tp) : Bool := decide (1 ≤ l.length ∧ l.length ≤ 8 ∧ (atTp l 0).tick = 0 ∧ ∀ k, k < l.length → tvOk l k)
theorem tvB_no {l : List Tp} (h : ¬ (1 ≤ l.length ∧ l.length ≤ 8 ∧ (atTp l 0).tick = 0)) : tvB l = false := by
  unfold tvB; apply decide_eq_false; rintro ⟨a, b, c, _⟩; exact h ⟨a, b, c⟩
theorem tvB_bad {l : List Tp} (k : Nat) (hk : k < l.length) (h : ¬ tvOk l k) : tvB l = false := by
  unfold tvB; apply decide_eq_false; rintro ⟨_, _, _, d⟩; exact h (d k hk)
theorem tvB_yes {l : List Tp} (h : 1 ≤ l.length ∧ l.length ≤ 8 ∧ (atTp l 0).tick = 0) (hk : ∀ k, k < l.length → tvOk l k) : tvB l = true := by
  unfold tvB; exact decide_eq_true ⟨h.1, h.2.1, h.2.2, hk⟩
theorem hid_snoc {P : Nat → Prop} {k : Nat} (h : Hid (∀ j, j < k → P j)) (hk : P k) : Hid (∀ j, j < k + 1 → P j) := fun j hj => by
  by_cases e : j = k
  · exact e ▸ hk
  · exact h.out j (by omega)
def TvP (w : World) (l : List Tp) (e : Ending) (w' : World) : Prop := e = .returned (.bool (tvB l)) ∧ Below w.heap.size w w'

set_option maxHeartbeats 4000000 in
theorem tv_any (A : Option Addr) (n c : Nat) (l : List Tp) (w : World) (hn : l.length = n) (hm : n ≤ 2000000) (h : RowTp w w.heap.size A l) :
    Calls Try.prog 15 #[.slice A n c] w (TvP w l) := by
  subst hn
  by_cases h0 : 1 ≤ l.length ∧ l.length ≤ 8
  · obtain ⟨h0, h1⟩ := h0
    obtain ⟨b, off, rfl, hlb, hc⟩ := h h0
    have c0 := (hc 0 h0).1
    simp only [Nat.zero_mul, Nat.add_zero] at c0
    by_cases hz : (atTp l 0).tick = 0
    · rw [hz] at c0
      go_enter Try.func15, Try.ntmps15
      go_wp2_with (go_at_call 36; refine (win_yes _ _ _ _ (by omega) (by omega)).mono ?_; rintro e w' ⟨rfl, rfl⟩)
      clear c0
      have HZ := Lib.hid hz
      clear hz
      go_loopw [18] (fun i wr => ∃ k : Nat, k ≤ l.length ∧ i = .int .i64 k ∧ Below w.heap.size w wr ∧ Hid (∀ j, j < k → tvOk l j)) (fun i _ => l.length - (intOf i).toNat)
      case atStart => exact ⟨0, Nat.zero_le _, rfl, bel_refl _, fun j hj => by omega⟩
      case round =>
        obtain ⟨k, hk, rfl, hb, HV⟩ := hrel
        by_cases hlt : k < l.length
        · have hck := hc k hlt
          have hcp := fun (hp : 0 < k) => (hc (k - 1) (by omega)).1
          have hss := hb.size
          simp only [← (show ∀ o, wr.cell? ⟨b, o, none⟩ = w.cell? ⟨b, o, none⟩ from fun o => hb.cell (p := ⟨b, o, none⟩) hlb)] at hck hcp
          have hlr : b < wr.heap.size := by omega
          have hkl : (k : Int) < (l.length : Int) := by omega
          have hk0 : (0 : Int) ≤ (k : Int) := by omega
          clear hc
          by_cases m1 : 100 ≤ (atTp l k).micros ∧ (atTp l k).micros ≤ 100000
          · obtain ⟨m1, m2⟩ := m1
            by_cases m3 : (atTp l k).tick ≤ 50000
            · by_cases m4 : 0 < k
              · obtain ⟨q, rfl⟩ : ∃ q, k = q + 1 := ⟨k - 1, by omega⟩
                have hcp := hcp m4
                simp only [Nat.add_sub_cancel] at hcp
                by_cases m5 : (atTp l q).tick < (atTp l (q + 1)).tick
                · have hv : tvOk l (q + 1) := ⟨m1, m2, m3, fun _ => m5⟩
                  generalize atTp l (q + 1) = t at hck m1 m2 m3 m5
                  generalize (atTp l q).tick = pv at hcp m5
                  obtain ⟨p0, p1⟩ := hck
                  obtain ⟨tick, micros⟩ := t
                  simp only at p0 p1 m1 m2 m3 m5
                  have hq0 : (0 : Int) ≤ (q : Int) := by omega
                  have hq1 : (q : Int) < (l.length : Int) := by omega
                  have m6 : decide (50000 < tick) = false := by simp; omega
                  have hqw : IntKind.i64.wrap (q : Int) = q := IntWalk.i64_in _ (by omega)
                  (go_wp2; go_big_quiet ((first | (go_at_call 36; exact quiet_left (win_yes _ _ _ _ (by omega) (by omega))) | (go_at_call 36; exact quiet_left (win_no _ _ _ _ (by omega))))); go_wp2)
                  go_roundw
                  case rel => exact ⟨q + 1 + 1, by omega, by go_num, by repeat (first | (with_reducible assumption) | (exact bel_undr (by with_reducible assumption)) | (with_reducible exact bel_refl _) | (with_reducible refine bel_dr ?_) | (with_reducible refine bel_drN ?_ _) | (with_reducible refine bel_al ?_ _) | (refine bel_set ?_ (by first | (simp; done) | (simp; exact Below.size (by assumption)) | (simp; omega)) _) | (with_reducible refine bel_tr ?_ (by assumption))), hid_snoc HV hv⟩
                  case measure => simp [intOf]; omega
                · have hv : ¬ tvOk l (q + 1) := fun h => m5 (h.2.2.2 m4)
                  generalize atTp l (q + 1) = t at hck m1 m2 m3 m5
                  generalize (atTp l q).tick = pv at hcp m5
                  obtain ⟨p0, p1⟩ := hck
                  obtain ⟨tick, micros⟩ := t
                  simp only at p0 p1 m1 m2 m3 m5
                  have hq0 : (0 : Int) ≤ (q : Int) := by omega
                  have hq1 : (q : Int) < (l.length : Int) := by omega
                  have m6 : decide (50000 < tick) = false := by simp; omega
                  have hqw : IntKind.i64.wrap (q : Int) = q := IntWalk.i64_in _ (by omega)
                  (go_wp2; go_big_quiet ((first | (go_at_call 36; exact quiet_left (win_yes _ _ _ _ (by omega) (by omega))) | (go_at_call 36; exact quiet_left (win_no _ _ _ _ (by omega))))); go_wp2)
                  go_ret
                  exact ⟨ret_bool (tvB_bad _ hlt hv).symm, by repeat (first | (with_reducible assumption) | (exact bel_undr (by with_reducible assumption)) | (with_reducible exact bel_refl _) | (with_reducible refine bel_dr ?_) | (with_reducible refine bel_drN ?_ _) | (with_reducible refine bel_al ?_ _) | (refine bel_set ?_ (by first | (simp; done) | (simp; exact Below.size (by assumption)) | (simp; omega)) _) | (with_reducible refine bel_tr ?_ (by assumption)))⟩
              · obtain rfl : k = 0 := by omega
                have hv : Hid (tvOk l 0) := ⟨m1, m2, m3, fun h => absurd h m4⟩
                have hlt0 := Lib.hid hlt
                generalize atTp l 0 = t at hck m1 m2 m3
                obtain ⟨p0, p1⟩ := hck
                obtain ⟨tick, micros⟩ := t
                simp only [Nat.zero_mul, Nat.add_zero] at p0 p1 m1 m2 m3
                clear hcp m4 hk0 hk
                have e0 : ((0 : Nat) : Int) = 0 := rfl
                rw [e0] at hkl ⊢
                clear e0 hlt
                have m6 : decide (50000 < tick) = false := by simp; omega
                (go_wp2; go_big_quiet ((first | (go_at_call 36; exact quiet_left (win_yes _ _ _ _ (by omega) (by omega))) | (go_at_call 36; exact quiet_left (win_no _ _ _ _ (by omega))))); go_wp2)
                go_roundw
                case rel => exact ⟨1, h0, by go_num, by repeat (first | (with_reducible assumption) | (exact bel_undr (by with_reducible assumption)) | (with_reducible exact bel_refl _) | (with_reducible refine bel_dr ?_) | (with_reducible refine bel_drN ?_ _) | (with_reducible refine bel_al ?_ _) | (refine bel_set ?_ (by first | (simp; done) | (simp; exact Below.size (by assumption)) | (simp; omega)) _) | (with_reducible refine bel_tr ?_ (by assumption))), hid_snoc HV hv⟩
                case measure => have hlt := hlt0.out; simp [intOf]; omega
            · have hv : ¬ tvOk l k := fun h => m3 h.2.2.1
              generalize atTp l k = t at hck m1 m2 m3
              obtain ⟨p0, p1⟩ := hck
              obtain ⟨tick, micros⟩ := t
              simp only at p0 p1 m1 m2 m3
              have m6 : 50000 < tick := by omega
              clear hcp
              (go_wp2; go_big_quiet ((first | (go_at_call 36; exact quiet_left (win_yes _ _ _ _ (by omega) (by omega))) | (go_at_call 36; exact quiet_left (win_no _ _ _ _ (by omega))))); go_wp2)
              go_ret
              exact ⟨ret_bool (tvB_bad _ hlt hv).symm, by repeat (first | (with_reducible assumption) | (exact bel_undr (by with_reducible assumption)) | (with_reducible exact bel_refl _) | (with_reducible refine bel_dr ?_) | (with_reducible refine bel_drN ?_ _) | (with_reducible refine bel_al ?_ _) | (refine bel_set ?_ (by first | (simp; done) | (simp; exact Below.size (by assumption)) | (simp; omega)) _) | (with_reducible refine bel_tr ?_ (by assumption)))⟩
          · have hv : ¬ tvOk l k := fun h => m1 ⟨h.1, h.2.1⟩
            generalize atTp l k = t at hck m1
            obtain ⟨p0, p1⟩ := hck
            obtain ⟨tick, micros⟩ := t
            simp only at p0 p1 m1
            clear hcp
            (go_wp2; go_big_quiet ((first | (go_at_call 36; exact quiet_left (win_yes _ _ _ _ (by omega) (by omega))) | (go_at_call 36; exact quiet_left (win_no _ _ _ _ (by omega))))); go_wp2)
            go_ret
            exact ⟨ret_bool (tvB_bad _ hlt hv).symm, by repeat (first | (with_reducible assumption) | (exact bel_undr (by with_reducible assumption)) | (with_reducible exact bel_refl _) | (with_reducible refine bel_dr ?_) | (with_reducible refine bel_drN ?_ _) | (with_reducible refine bel_al ?_ _) | (refine bel_set ?_ (by first | (simp; done) | (simp; exact Below.size (by assumption)) | (simp; omega)) _) | (with_reducible refine bel_tr ?_ (by assumption)))⟩
        · obtain rfl : k = l.length := by omega
          go_wp2
          go_ret
          exact ⟨ret_bool (tvB_yes ⟨h0, h1, HZ.out⟩ HV.out).symm, hb⟩
    · go_enter Try.func15, Try.ntmps15
      generalize hg : (atTp l 0).tick = t0 at c0 hz
      have HG := Lib.hid hg
      clear hg
      have hz1 : (t0 == 0) = false := by simpa using hz
      have hz2 : (t0 != 0) = true := by simpa using hz
      go_wp2_with (go_at_call 36; refine (win_yes _ _ _ _ (by omega) (by omega)).mono ?_; rintro e w' ⟨rfl, rfl⟩)
      go_ret
      exact ⟨ret_bool (tvB_no (fun h => hz (HG.out ▸ h.2.2))).symm, bel_refl _⟩
  · go_enter Try.func15, Try.ntmps15
    go_wp2_with (go_at_call 36; refine (win_no _ _ _ _ (by omega)).mono ?_; rintro e w' ⟨rfl, rfl⟩)
    go_ret
    exact ⟨ret_bool (tvB_no (fun h => h0 ⟨h.1, h.2.1⟩)).symm, bel_refl _⟩

end Go.Proofs.Ytjfiknnclkilbaa
