/- The least head of a tonal answer: contracts of both. -/
import Derived.Test.YtiapfpjggginoaaTaC
import Derived.Deep.AppendLies
import Derived.Test.YtiapfpjggginoaaRowNt
import Derived.Test.YtiapfpjggginoaaBa
import Derived.Test.YtiapfpjggginoaaBc
import Derived.Test.YtiapfpjggginoaaHidn
namespace Go.Proofs.Ytiapfpjggginoaa
set_option linter.unusedSimpArgs false
set_option linter.unusedVariables false
open Go.RowKit

def ahP (f : Int) (m : Bool) (l l' : List Nt) (j : Nat) : Prop := taB f m l (j : Int) = true ∧ taL f m l (j : Int) = l'
def AH (f : Int) (m : Bool) (l l' : List Nt) (x : Int) : Prop := (∃ h : Nat, x = (h : Int) ∧ h ≤ l.length ∧ ahP f m l l' h ∧ ∀ j, j < h → ¬ ahP f m l l' j) ∨ (x = -1 ∧ ∀ j, j ≤ l.length → ¬ ahP f m l l' j)
theorem AH_eq {f : Int} {m : Bool} {l l' : List Nt} {x y : Int} (h : AH f m l l' x) (g : AH f m l l' y) : x = y := by
  rcases h with ⟨a, rfl, ha, pa, qa⟩ | ⟨rfl, qa⟩ <;> rcases g with ⟨b, rfl, hb, pb, qb⟩ | ⟨rfl, qb⟩
  · rcases Nat.lt_trichotomy a b with c | c | c
    · exact absurd pa (qb a c)
    · rw [c]
    · exact absurd pb (qa b c)
  · exact absurd pa (qb a ha)
  · exact absurd pb (qa b hb)
  · rfl
theorem taB_big {f : Int} {m : Bool} {l : List Nt} {h : Int} (z : 60 < l.length) : taB f m l h = false := by
  cases hb : taB f m l h
  · rfl
  · have hp : taP f m l h := of_decide_eq_true hb
    have := (vvB_of hp.2.1).len
    omega
def AhR (f : Int) (m : Bool) (l l' : List Nt) (w : World) (e : Ending) (w' : World) : Prop := ∃ x, e = .returned (.int .i64 x) ∧ AH f m l l' x ∧ Below w.heap.size w w'
end Go.Proofs.Ytiapfpjggginoaa
