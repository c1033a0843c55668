/- What ShiftVoice hands back; its contracts in value form. -/
import Derived.Test.YtacbkmahofmbcaaSh
import Derived.Test.YtacbkmahofmbcaaShC
import Derived.Test.YtacbkmahofmbcaaMkNt
import Derived.Test.YtacbkmahofmbcaaNtE
namespace Go.Proofs.Ytacbkmahofmbcaa
set_option linter.unusedSimpArgs false
set_option linter.unusedVariables false
open Go.RowKit

def ShR (w : World) (L : List Nt) (B : Bool) (e : Ending) (w' : World) : Prop :=
  ∃ A c, e = .returned (.tuple #[.slice A L.length c, .bool B]) ∧ L.length ≤ c ∧ c ≤ maxLen ∧ RowNt w' w'.heap.size A L ∧ OwnNt w' w.heap.size A L.length ∧ Below w.heap.size w w'
theorem shR_of {w : World} {l : List Nt} {st ha : Int} {e : Ending} {w' : World} (h : Sh w l st ha e w') : ShR w (shL l st ha) (shB l st ha) e w' := by
  obtain ⟨v, rfl, h, b⟩ := h
  obtain ⟨A, c, rfl, h1, h2, h3, h4⟩ := own_rowNt h
  exact ⟨A, c, rfl, h1, h2, h3, h4, b⟩
theorem sh_val {l L : List Nt} {st ha : Int} {B : Bool} (hL : shL l st ha = L) (hB : shB l st ha = B) (A : Option Addr) (n c : Nat) (w : World) (hn : l.length = n) (hm : n ≤ 2000000) (h : RowNt w w.heap.size A l) :
    Calls Try.prog 38 #[.slice A n c, .agg #[.int .i64 st, .int .i64 ha]] w (ShR w L B) := by
  refine (shv_any _ _ _ _ _ _ _ hn hm h).mono ?_
  intro e1 w1 h1
  have h2 := shR_of h1
  rw [hL, hB] at h2
  exact h2
end Go.Proofs.Ytacbkmahofmbcaa
