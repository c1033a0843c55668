/- Voices moved by an interval: plain, and what the functions leave. -/
import Derived.Test.YtiapfpjggginoaaAdd2
import Derived.Test.YtiapfpjggginoaaVoice
import Derived.Test.YtiapfpjggginoaaSVoice
import Derived.Test.YtiapfpjggginoaaDrN
import Derived.Test.YtiapfpjggginoaaInfNt
import Derived.Deep.AppendLies
namespace Go.Proofs.Ytiapfpjggginoaa
set_option linter.unusedSimpArgs false
set_option linter.unusedVariables false
open Go.RowKit

def mvN (st ha : Int) (t : Nt) : Nt := if t.rest = true then t else ⟨t.rest, adS t.step t.alter t.octave st ha, adA t.step t.alter t.octave st ha, adO t.step t.alter t.octave st ha, t.ticks, t.tied⟩
def mvOk (st ha : Int) (t : Nt) : Prop := t.rest = true ∨ adB t.step t.alter t.octave st ha = true
instance (st ha : Int) (t : Nt) : Decidable (mvOk st ha t) := by unfold mvOk; infer_instance
def mvK (st ha : Int) (l : List Nt) : Nat → List Nt
  | 0 => []
  | k + 1 => mvK st ha l k ++ [mvN st ha (atNt l k)]
theorem mvK_len (st ha : Int) (l : List Nt) : ∀ k, (mvK st ha l k).length = k
  | 0 => rfl
  | k + 1 => by unfold mvK; rw [List.length_append, mvK_len st ha l k]; rfl
def shB (l : List Nt) (st ha : Int) : Bool := decide (vvB l = true ∧ ivB st ha = true ∧ ∀ k, k < l.length → mvOk st ha (atNt l k))
def shL (l : List Nt) (st ha : Int) : List Nt := if shB l st ha = true then mvK st ha l l.length else []
theorem sh_no {l : List Nt} {st ha : Int} (h : ¬ (vvB l = true ∧ ivB st ha = true)) : shB l st ha = false ∧ shL l st ha = [] := by
  have e : shB l st ha = false := decide_eq_false (fun c => h ⟨c.1, c.2.1⟩)
  exact ⟨e, by unfold shL; rw [e]; rfl⟩
theorem sh_bad {l : List Nt} {st ha : Int} (k : Nat) (hk : k < l.length) (h : ¬ mvOk st ha (atNt l k)) : shB l st ha = false ∧ shL l st ha = [] := by
  have e : shB l st ha = false := decide_eq_false (fun c => h (c.2.2 k hk))
  exact ⟨e, by unfold shL; rw [e]; rfl⟩
theorem sh_yes {l : List Nt} {st ha : Int} (h1 : vvB l = true) (h2 : ivB st ha = true) (h : ∀ k, k < l.length → mvOk st ha (atNt l k)) : shB l st ha = true ∧ shL l st ha = mvK st ha l l.length := by
  have e : shB l st ha = true := decide_eq_true ⟨h1, h2, h⟩
  exact ⟨e, by unfold shL; rw [e]; rfl⟩
theorem shL_len (l : List Nt) (st ha : Int) : (shL l st ha).length ≤ 60 ∧ (shL l st ha).length ≤ l.length := by
  unfold shL
  by_cases h : shB l st ha = true
  · rw [if_pos h, mvK_len]
    have := (vvB_of (of_decide_eq_true h).1).len
    omega
  · rw [if_neg h]; simp
theorem own_base {w : World} {base b' : Nat} {e : TypeId} {size : Nat} {v : Value} {n : Nat} {xs : List Value} (h : w.ownsRow base e size v n xs) (hb : b' ≤ base) : w.ownsRow b' e size v n xs := by
  refine ⟨h.1, ?_⟩
  rcases h.2 with h2 | ⟨g, cap, cur, h2, h3, h4⟩
  · exact .inl h2
  · exact .inr ⟨g, cap, cur, h2, Nat.le_trans hb h3, h4⟩
def Sh (w : World) (l : List Nt) (st ha : Int) (e : Ending) (w' : World) : Prop :=
  ∃ v, e = .returned (.tuple #[v, .bool (shB l st ha)]) ∧ w'.ownsRow w.heap.size 55 6 v (shL l st ha).length (flat csNt (shL l st ha)) ∧ Below w.heap.size w w'
end Go.Proofs.Ytiapfpjggginoaa
