/- Lists of pitches: when all are valid; when a list is a cantus. Of the program and of the reference. -/
import Derived.Test.YtiapfpjggginoaaBc
import Derived.Test.YtiapfpjggginoaaRowPi
import Derived.Test.YtiapfpjggginoaaHidn
namespace Go.Proofs.Ytiapfpjggginoaa
set_option linter.unusedSimpArgs false
set_option linter.unusedVariables false
open Go.RowKit

def pvP (t : Pi) : Prop := pvB t.step t.alter t.octave = true
instance (t : Pi) : Decidable (pvP t) := by unfold pvP; infer_instance
def apB (l : List Pi) (lo hi : Int) : Bool := decide ((lo ≤ (l.length : Int) ∧ (l.length : Int) ≤ hi) ∧ ∀ k, k < l.length → pvP (atPi l k))
theorem apB_no {l : List Pi} {lo hi : Int} (h : ¬ (lo ≤ (l.length : Int) ∧ (l.length : Int) ≤ hi)) : apB l lo hi = false := by
  unfold apB; apply decide_eq_false; rintro ⟨a, _⟩; exact h a
theorem apB_bad {l : List Pi} {lo hi : Int} (k : Nat) (hk : k < l.length) (h : ¬ pvP (atPi l k)) : apB l lo hi = false := by
  unfold apB; apply decide_eq_false; rintro ⟨_, d⟩; exact h (d k hk)
theorem apB_yes {l : List Pi} {lo hi : Int} (h : lo ≤ (l.length : Int) ∧ (l.length : Int) ≤ hi) (hk : ∀ k, k < l.length → pvP (atPi l k)) : apB l lo hi = true := by
  unfold apB; exact decide_eq_true ⟨h, hk⟩
theorem apB_of {l : List Pi} {lo hi : Int} (h : apB l lo hi = true) : (lo ≤ (l.length : Int) ∧ (l.length : Int) ≤ hi) ∧ ∀ k, k < l.length → pvP (atPi l k) := of_decide_eq_true h
def ikP (f : Int) (t : Pi) : Prop := ikB f t.step t.alter t.octave = true
instance (f : Int) (t : Pi) : Decidable (ikP f t) := by unfold ikP; infer_instance
theorem ikP_pv {f : Int} {t : Pi} (h : ikP f t) : pvP t := by
  unfold ikP ikB at h; simp only [Bool.and_eq_true] at h; exact h.1.2
theorem ikP_key {f : Int} {t : Pi} (h : ikP f t) : -7 ≤ f ∧ f ≤ 7 := by
  unfold ikP ikB at h; simp only [Bool.and_eq_true, decide_eq_true_eq] at h; exact h.1.1
def cvB (f : Int) (l : List Pi) : Bool := decide ((-7 ≤ f ∧ f ≤ 7) ∧ (2 ≤ l.length ∧ l.length ≤ 10) ∧ ∀ k, k < l.length → ikP f (atPi l k))
theorem cvB_no {f : Int} {l : List Pi} (h : ¬ ((-7 ≤ f ∧ f ≤ 7) ∧ (2 ≤ l.length ∧ l.length ≤ 10))) : cvB f l = false := by
  unfold cvB; apply decide_eq_false; rintro ⟨a, b, _⟩; exact h ⟨a, b⟩
theorem cvB_bad {f : Int} {l : List Pi} (k : Nat) (hk : k < l.length) (h : ¬ ikP f (atPi l k)) : cvB f l = false := by
  unfold cvB; apply decide_eq_false; rintro ⟨_, _, d⟩; exact h (d k hk)
theorem cvB_yes {f : Int} {l : List Pi} (h0 : -7 ≤ f ∧ f ≤ 7) (h : 2 ≤ l.length ∧ l.length ≤ 10) (hk : ∀ k, k < l.length → ikP f (atPi l k)) : cvB f l = true := by
  unfold cvB; exact decide_eq_true ⟨h0, h, hk⟩
theorem cvB_of {f : Int} {l : List Pi} (h : cvB f l = true) : (-7 ≤ f ∧ f ≤ 7) ∧ (2 ≤ l.length ∧ l.length ≤ 10) ∧ ∀ k, k < l.length → ikP f (atPi l k) := of_decide_eq_true h

end Go.Proofs.Ytiapfpjggginoaa
