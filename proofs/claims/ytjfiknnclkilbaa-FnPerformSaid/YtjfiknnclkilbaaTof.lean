/- TimeOf and TickOf, of the program and of the reference. -/
import Derived.Test.YtjfiknnclkilbaaSTo
import Derived.Test.YtjfiknnclkilbaaSTv
namespace Go.Proofs.Ytjfiknnclkilbaa
open Go.RowKit

def timeOfI (l : List Tp) (k : Int) : Int := if tvB l = true ∧ 0 ≤ k ∧ k ≤ 50000 then timeI l k else -1
noncomputable def tickOfI (l : List Tp) (t : Int) : Int := if tvB l = true ∧ 0 ≤ t then tickI l t else -1
theorem tv_val {l : List Tp} {v : Bool} (hv : tvB l = v) (A : Option Addr) (n c : Nat) (w : World) (hn : l.length = n) (hm : n ≤ 2000000) (h : RowTp w w.heap.size A l) :
    Calls Try.prog 15 #[.slice A n c] w fun e w' => e = .returned (.bool v) ∧ Below w.heap.size w w' := by
  subst hv; exact tv_any A n c l w hn hm h
theorem stv_val {l : List Tp} {v : Bool} (hv : tvB l = v) (A : Option Addr) (n c : Nat) (w : World) (hn : l.length = n) (hm : n ≤ 2000000) (h : RowTp w w.heap.size A l) :
    Calls Try.prog 13 #[.slice A n c] w fun e w' => e = .returned (.bool v) ∧ Below w.heap.size w w' := by
  subst hv; exact stv_any A n c l w hn hm h

set_option maxHeartbeats 1000000 in
theorem tof_any (A : Option Addr) (n c : Nat) (l : List Tp) (k : Int) (w : World) (hn : l.length = n) (hm : n ≤ 2000000) (h : RowTp w w.heap.size A l) :
    Calls Try.prog 25 #[.slice A n c, .int .i64 k] w fun e w' => e = .returned (.int .i64 (timeOfI l k)) ∧ Below w.heap.size w w' := by
  cases hv : tvB l
  · have hr : timeOfI l k = -1 := by unfold timeOfI; rw [if_neg (by rw [hv]; simp)]
    rw [hr]; clear hr
    go_enter Try.func25, Try.ntmps25
    go_wp2_with fail
    refine (tv_val hv _ _ _ _ hn hm h).mono ?_
    rintro e1 w1 ⟨rfl, b1⟩
    clear hv
    go_wp2
    go_ret
    exact ⟨rfl, by repeat (first | (with_reducible assumption) | (exact bel_undr (by with_reducible assumption)) | (with_reducible exact bel_refl _) | (with_reducible refine bel_dr ?_) | (with_reducible refine bel_drN ?_ _) | (with_reducible refine bel_al ?_ _) | (refine bel_set ?_ (by first | (simp; done) | (simp; exact Below.size (by assumption)) | (simp; omega)) _) | (with_reducible refine bel_tr ?_ (by assumption)))⟩
  · by_cases hk : 0 ≤ k ∧ k ≤ 50000
    · have hr : timeOfI l k = timeI l k := by unfold timeOfI; rw [if_pos ⟨hv, hk⟩]
      rw [hr]; clear hr
      obtain ⟨h0, h1⟩ := hk
      go_enter Try.func25, Try.ntmps25
      go_wp2_with fail
      refine (tv_val hv _ _ _ _ hn hm h).mono ?_
      rintro e1 w1 ⟨rfl, b1⟩
      have HV := Lib.hid hv
      clear hv
      go_wp2_with fail
      refine (win_yes _ _ _ _ h0 h1).mono ?_
      rintro e2 w2 ⟨rfl, rfl⟩
      go_wp2_with fail
      refine (to_any _ _ _ l _ _ hn (h.below b1) HV.out h0 (by omega)).mono ?_
      rintro e3 w3 ⟨rfl, b3⟩
      go_wp2
      go_ret
      exact ⟨rfl, by repeat (first | (with_reducible assumption) | (exact bel_undr (by with_reducible assumption)) | (with_reducible exact bel_refl _) | (with_reducible refine bel_dr ?_) | (with_reducible refine bel_drN ?_ _) | (with_reducible refine bel_al ?_ _) | (refine bel_set ?_ (by first | (simp; done) | (simp; exact Below.size (by assumption)) | (simp; omega)) _) | (with_reducible refine bel_tr ?_ (by assumption)))⟩
    · have hr : timeOfI l k = -1 := by unfold timeOfI; rw [if_neg (fun c => hk c.2)]
      rw [hr]; clear hr
      go_enter Try.func25, Try.ntmps25
      go_wp2_with fail
      refine (tv_val hv _ _ _ _ hn hm h).mono ?_
      rintro e1 w1 ⟨rfl, b1⟩
      clear hv
      go_wp2_with fail
      refine (win_no _ _ _ _ (by omega)).mono ?_
      rintro e2 w2 ⟨rfl, rfl⟩
      go_wp2
      go_ret
      exact ⟨rfl, by repeat (first | (with_reducible assumption) | (exact bel_undr (by with_reducible assumption)) | (with_reducible exact bel_refl _) | (with_reducible refine bel_dr ?_) | (with_reducible refine bel_drN ?_ _) | (with_reducible refine bel_al ?_ _) | (refine bel_set ?_ (by first | (simp; done) | (simp; exact Below.size (by assumption)) | (simp; omega)) _) | (with_reducible refine bel_tr ?_ (by assumption)))⟩

set_option maxHeartbeats 1000000 in
theorem stof_any (A : Option Addr) (n c : Nat) (l : List Tp) (k : Int) (w : World) (hn : l.length = n) (hm : n ≤ 2000000) (h : RowTp w w.heap.size A l) :
    Calls Try.prog 24 #[.slice A n c, .int .i64 k] w fun e w' => e = .returned (.int .i64 (timeOfI l k)) ∧ Below w.heap.size w w' := by
  cases hv : tvB l
  · have hr : timeOfI l k = -1 := by unfold timeOfI; rw [if_neg (by rw [hv]; simp)]
    rw [hr]; clear hr
    go_enter Try.func24, Try.ntmps24
    go_wp2_with fail
    refine (stv_val hv _ _ _ _ hn hm h).mono ?_
    rintro e1 w1 ⟨rfl, b1⟩
    clear hv
    go_wp2
    go_ret
    exact ⟨rfl, by repeat (first | (with_reducible assumption) | (exact bel_undr (by with_reducible assumption)) | (with_reducible exact bel_refl _) | (with_reducible refine bel_dr ?_) | (with_reducible refine bel_drN ?_ _) | (with_reducible refine bel_al ?_ _) | (refine bel_set ?_ (by first | (simp; done) | (simp; exact Below.size (by assumption)) | (simp; omega)) _) | (with_reducible refine bel_tr ?_ (by assumption)))⟩
  · by_cases hk : 0 ≤ k ∧ k ≤ 50000
    · have hr : timeOfI l k = timeI l k := by unfold timeOfI; rw [if_pos ⟨hv, hk⟩]
      rw [hr]; clear hr
      obtain ⟨h0, h1⟩ := hk
      go_enter Try.func24, Try.ntmps24
      go_wp2_with fail
      refine (stv_val hv _ _ _ _ hn hm h).mono ?_
      rintro e1 w1 ⟨rfl, b1⟩
      have HV := Lib.hid hv
      clear hv
      go_wp2_with fail
      refine (swin_yes _ _ _ _ h0 h1).mono ?_
      rintro e2 w2 ⟨rfl, rfl⟩
      go_wp2_with fail
      refine (sto_any _ _ _ l _ _ hn (h.below b1) HV.out h0 (by omega)).mono ?_
      rintro e3 w3 ⟨rfl, b3⟩
      go_wp2
      go_ret
      exact ⟨rfl, by repeat (first | (with_reducible assumption) | (exact bel_undr (by with_reducible assumption)) | (with_reducible exact bel_refl _) | (with_reducible refine bel_dr ?_) | (with_reducible refine bel_drN ?_ _) | (with_reducible refine bel_al ?_ _) | (refine bel_set ?_ (by first | (simp; done) | (simp; exact Below.size (by assumption)) | (simp; omega)) _) | (with_reducible refine bel_tr ?_ (by assumption)))⟩
    · have hr : timeOfI l k = -1 := by unfold timeOfI; rw [if_neg (fun c => hk c.2)]
      rw [hr]; clear hr
      go_enter Try.func24, Try.ntmps24
      go_wp2_with fail
      refine (stv_val hv _ _ _ _ hn hm h).mono ?_
      rintro e1 w1 ⟨rfl, b1⟩
      clear hv
      go_wp2_with fail
      refine (swin_no _ _ _ _ (by omega)).mono ?_
      rintro e2 w2 ⟨rfl, rfl⟩
      go_wp2
      go_ret
      exact ⟨rfl, by repeat (first | (with_reducible assumption) | (exact bel_undr (by with_reducible assumption)) | (with_reducible exact bel_refl _) | (with_reducible refine bel_dr ?_) | (with_reducible refine bel_drN ?_ _) | (with_reducible refine bel_al ?_ _) | (refine bel_set ?_ (by first | (simp; done) | (simp; exact Below.size (by assumption)) | (simp; omega)) _) | (with_reducible refine bel_tr ?_ (by assumption)))⟩
end Go.Proofs.Ytjfiknnclkilbaa
