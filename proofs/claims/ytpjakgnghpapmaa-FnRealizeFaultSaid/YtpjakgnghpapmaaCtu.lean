/- The generator of cantus: a key and a list of one to six pitches, whatever they are. -/
import Derived.Test.YtpjakgnghpapmaaBa
import Derived.Test.YtpjakgnghpapmaaBt
import Derived.Test.YtpjakgnghpapmaaBp
import Derived.Deep.AppendLies
namespace Go.Proofs.Ytpjakgnghpapmaa
set_option linter.unusedSimpArgs false
set_option linter.unusedVariables false
open Go.RowKit

set_option maxHeartbeats 1000000 in
theorem ska_any (f s : Int) (w : World) : Calls Try.prog 88 #[.int .i64 f, .int .i64 s] w fun e w' => e = .returned (.int .i64 (kaI f s)) ∧ Below w.heap.size w w' := by
  by_cases h : (-7 ≤ f ∧ f ≤ 7) ∧ 0 ≤ s ∧ s ≤ 6
  · refine intw_to (v := alI f s) (by unfold kaI; rw [if_pos h]) ?_
    obtain ⟨⟨f0, f1⟩, s0, s1⟩ := h
    go_enter Try.func88, Try.ntmps88
    go_wp2_with (first | (go_at_call 52; refine (swin_yes _ _ _ _ (by omega) (by omega)).mono ?_; rintro e w' ⟨rfl, rfl⟩) | (go_at_call 52; refine (swin_no _ _ _ _ (by omega)).mono ?_; rintro e w' ⟨rfl, rfl⟩) | (go_at_call 77; refine (sal_any _ _ _ (by omega) (by omega) (by omega) (by omega)).mono ?_; rintro e w' ⟨rfl, bw⟩))
    go_ret
    exact ⟨rfl, by repeat (first | (with_reducible assumption) | (exact bel_undr (by with_reducible assumption)) | (with_reducible exact bel_refl _) | (with_reducible refine bel_dr ?_) | (with_reducible refine bel_drN ?_ _) | (with_reducible refine bel_al ?_ _) | (refine bel_set ?_ (by first | (simp; done) | (simp; exact Below.size (by assumption)) | (simp; omega)) _) | (with_reducible refine bel_tr ?_ (by assumption)))⟩
  · refine intw_to (v := 0) (by unfold kaI; rw [if_neg h]) ?_
    rcases (show (f < -7 ∨ 7 < f) ∨ ((-7 ≤ f ∧ f ≤ 7) ∧ (s < 0 ∨ 6 < s)) from by omega) with h1 | ⟨⟨h1, h2⟩, h3⟩
    · go_enter Try.func88, Try.ntmps88
      go_wp2_with (first | (go_at_call 52; refine (swin_yes _ _ _ _ (by omega) (by omega)).mono ?_; rintro e w' ⟨rfl, rfl⟩) | (go_at_call 52; refine (swin_no _ _ _ _ (by omega)).mono ?_; rintro e w' ⟨rfl, rfl⟩) | (go_at_call 77; refine (sal_any _ _ _ (by omega) (by omega) (by omega) (by omega)).mono ?_; rintro e w' ⟨rfl, bw⟩))
      go_ret
      exact ⟨rfl, by repeat (first | (with_reducible assumption) | (exact bel_undr (by with_reducible assumption)) | (with_reducible exact bel_refl _) | (with_reducible refine bel_dr ?_) | (with_reducible refine bel_drN ?_ _) | (with_reducible refine bel_al ?_ _) | (refine bel_set ?_ (by first | (simp; done) | (simp; exact Below.size (by assumption)) | (simp; omega)) _) | (with_reducible refine bel_tr ?_ (by assumption)))⟩
    · go_enter Try.func88, Try.ntmps88
      go_wp2_with (first | (go_at_call 52; refine (swin_yes _ _ _ _ (by omega) (by omega)).mono ?_; rintro e w' ⟨rfl, rfl⟩) | (go_at_call 52; refine (swin_no _ _ _ _ (by omega)).mono ?_; rintro e w' ⟨rfl, rfl⟩) | (go_at_call 77; refine (sal_any _ _ _ (by omega) (by omega) (by omega) (by omega)).mono ?_; rintro e w' ⟨rfl, bw⟩))
      go_ret
      exact ⟨rfl, by repeat (first | (with_reducible assumption) | (exact bel_undr (by with_reducible assumption)) | (with_reducible exact bel_refl _) | (with_reducible refine bel_dr ?_) | (with_reducible refine bel_drN ?_ _) | (with_reducible refine bel_al ?_ _) | (refine bel_set ?_ (by first | (simp; done) | (simp; exact Below.size (by assumption)) | (simp; omega)) _) | (with_reducible refine bel_tr ?_ (by assumption)))⟩
/-- what the generator leaves -/
def Ctu (w : World) (g B p : Nat) (A : Option Addr) (len cap : Nat) (e : Ending) (w' : World) : Prop :=
  ∃ (f : Int) (v : Value) (l : List Pi), e = .returned (.tuple #[.int .i64 f, v]) ∧ 1 ≤ l.length ∧ l.length ≤ 6 ∧ w'.ownsRow w.heap.size 62 3 v l.length (flat csPi l) ∧ Onb g w w' ∧ ∃ p', p' ≤ p + 20 ∧ Rd w' g B A len cap p'
/-- a key and a cantus that were drawn -/
def DrCv (w : World) (e : Ending) (w' : World) : Prop := ∃ (f : Int) (A : Option Addr) (cap : Nat) (l : List Pi), e = .returned (.tuple #[.int .i64 f, .slice A l.length cap]) ∧ l.length ≤ cap ∧ cap ≤ maxLen ∧ l.length ≤ 6 ∧ RowPi w' w'.heap.size A l ∧ Below w.heap.size w w'
end Go.Proofs.Ytpjakgnghpapmaa
