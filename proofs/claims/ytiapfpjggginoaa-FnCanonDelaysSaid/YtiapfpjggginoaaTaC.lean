/- Tonal answers: plain, and what the functions leave. -/
import Derived.Test.YtiapfpjggginoaaBc
import Derived.Deep.DeepCutAuto
namespace Go.Proofs.Ytiapfpjggginoaa
set_option linter.unusedSimpArgs false
set_option linter.unusedVariables false
open Go.RowKit

def taC (f : Int) (m : Bool) (h : Int) (k : Nat) (t : Nt) : Prop := (k : Int) < h ∧ deD f m t.step t.alter t.octave = 4 ∧ deO f t.step t.alter t.octave = 0
instance (f : Int) (m : Bool) (h : Int) (k : Nat) (t : Nt) : Decidable (taC f m h k t) := by unfold taC; infer_instance
def taS (f : Int) (m : Bool) (h : Int) (k : Nat) (t : Nt) : Int := if taC f m h k t then 3 else 4
def taH (f : Int) (m : Bool) (h : Int) (k : Nat) (t : Nt) : Int := if taC f m h k t then 5 else 7
def taK (f : Int) (m : Bool) (h : Int) (l : List Nt) : Nat → List Nt
  | 0 => []
  | k + 1 => taK f m h l k ++ [mvN (taS f m h k (atNt l k)) (taH f m h k (atNt l k)) (atNt l k)]
theorem taK_len (f : Int) (m : Bool) (h : Int) (l : List Nt) : ∀ k, (taK f m h l k).length = k
  | 0 => rfl
  | k + 1 => by unfold taK; rw [List.length_append, taK_len f m h l k]; rfl
def taOk (f : Int) (m : Bool) (h : Int) (l : List Nt) (k : Nat) : Prop := mvOk (taS f m h k (atNt l k)) (taH f m h k (atNt l k)) (atNt l k)
instance (f : Int) (m : Bool) (h : Int) (l : List Nt) (k : Nat) : Decidable (taOk f m h l k) := by unfold taOk; infer_instance
def taP (f : Int) (m : Bool) (l : List Nt) (h : Int) : Prop := (-7 ≤ f ∧ f ≤ 7) ∧ vvB l = true ∧ (0 ≤ h ∧ h ≤ (l.length : Int)) ∧ (∀ k, k < l.length → taOk f m h l k) ∧ vvB (taK f m h l l.length) = true
instance (f : Int) (m : Bool) (l : List Nt) (h : Int) : Decidable (taP f m l h) := by unfold taP; infer_instance
def taB (f : Int) (m : Bool) (l : List Nt) (h : Int) : Bool := decide (taP f m l h)
def taL (f : Int) (m : Bool) (l : List Nt) (h : Int) : List Nt := if taB f m l h = true then taK f m h l l.length else []
theorem ta_no {f : Int} {m : Bool} {l : List Nt} {h : Int} (z : ¬ taP f m l h) : taB f m l h = false ∧ taL f m l h = [] := by
  have e : taB f m l h = false := decide_eq_false z
  exact ⟨e, by unfold taL; rw [e]; rfl⟩
theorem ta_yes {f : Int} {m : Bool} {l : List Nt} {h : Int} (z : taP f m l h) : taB f m l h = true ∧ taL f m l h = taK f m h l l.length := by
  have e : taB f m l h = true := decide_eq_true z
  exact ⟨e, by unfold taL; rw [e]; rfl⟩
theorem taL_len (f : Int) (m : Bool) (l : List Nt) (h : Int) : (taL f m l h).length ≤ 60 ∧ (taL f m l h).length ≤ l.length := by
  unfold taL
  by_cases z : taB f m l h = true
  · rw [if_pos z, taK_len]
    have hp : taP f m l h := of_decide_eq_true z
    have := (vvB_of hp.2.1).len
    omega
  · rw [if_neg z]; simp
end Go.Proofs.Ytiapfpjggginoaa
