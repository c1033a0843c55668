/- Canons: the second voice; contracts of both. -/
import Derived.Test.YtacbkmahofmbcaaNtO
import Derived.Test.YtacbkmahofmbcaaShR
import Derived.Deep.DeepCutAuto
namespace Go.Proofs.Ytacbkmahofmbcaa
set_option linter.unusedSimpArgs false
set_option linter.unusedVariables false
open Go.RowKit

def coB (l : List Nt) (d st ha : Int) : Bool := decide (shB l st ha = true ∧ (1 ≤ d ∧ d ≤ 768) ∧ l.length < 60)
def coL (l : List Nt) (d st ha : Int) : List Nt := if coB l d st ha = true then ⟨true, 0, 0, 0, d, false⟩ :: shL l st ha else []
theorem co_no {l : List Nt} {d st ha : Int} (h : ¬ (shB l st ha = true ∧ (1 ≤ d ∧ d ≤ 768) ∧ l.length < 60)) : coB l d st ha = false ∧ coL l d st ha = [] := by
  have e : coB l d st ha = false := decide_eq_false h
  exact ⟨e, by unfold coL; rw [e]; rfl⟩
theorem co_yes {l : List Nt} {d st ha : Int} (h1 : shB l st ha = true) (h2 : 1 ≤ d ∧ d ≤ 768) (h3 : l.length < 60) : coB l d st ha = true ∧ coL l d st ha = ⟨true, 0, 0, 0, d, false⟩ :: shL l st ha := by
  have e : coB l d st ha = true := decide_eq_true ⟨h1, h2, h3⟩
  exact ⟨e, by unfold coL; rw [e]; rfl⟩
theorem coL_len (l : List Nt) (d st ha : Int) : (coL l d st ha).length ≤ 61 := by
  unfold coL
  by_cases h : coB l d st ha = true
  · rw [if_pos h, List.length_cons]; have := (shL_len l st ha).1; omega
  · rw [if_neg h]; simp
end Go.Proofs.Ytacbkmahofmbcaa
