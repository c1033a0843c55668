/- Lines with a number, in value form. -/
import Derived.Test.YtdmidimjbhkjoaaSlno
namespace Go.Proofs.Ytdmidimjbhkjoaa
set_option linter.unusedSimpArgs false
set_option linter.unusedVariables false
open Go.RowKit
def LnQ (w : World) (L : List Pi) (B : Bool) (e : Ending) (w' : World) : Prop :=
  ∃ A c, e = .returned (.tuple #[.slice A L.length c, .bool B]) ∧ L.length ≤ c ∧ c ≤ maxLen ∧ RowPi w' w'.heap.size A L ∧ OwnPi w' w.heap.size A L.length ∧ Below w.heap.size w w'
theorem lnQ_of {w w' : World} {R : Option (List Pi)} {e : Ending} (h : LnP w R e w') : LnQ w (R.getD []) R.isSome e w' := by
  obtain ⟨v, rfl, h, b⟩ := h
  obtain ⟨A, c, rfl, h1, h2, h3, h4⟩ := own_rowPi h
  exact ⟨A, c, rfl, h1, h2, h3, h4, b⟩
theorem lnR_len (f : Int) (c : List Pi) (lo hi num : Int) : ((lnR f c lo hi num).getD []).length ≤ 10 := by
  cases h : lnR f c lo hi num with
  | none => simp
  | some L =>
    unfold lnR at h
    by_cases ho : opB f c lo hi = true ∧ 0 ≤ num
    · rw [if_pos ho] at h
      have := (goL_pre _ _ _ _ h).1
      have := (op_len ho.1).2
      simp at *
      omega
    · rw [if_neg ho] at h; cases h
theorem sln_val {f : Int} {c : List Pi} {lo hi num : Int} {L : List Pi} {B : Bool} (hL : (lnR f c lo hi num).getD [] = L) (hB : (lnR f c lo hi num).isSome = B) (A : Option Addr) (n c1 : Nat) (w : World) (hnum : num ≤ 9223372036854775807) (hn : c.length = n) (hm : n ≤ 2000000) (hc : RowPi w w.heap.size A c) :
    Calls Try.prog 33 #[.int .i64 f, .slice A n c1, .int .i64 lo, .int .i64 hi, .int .i64 num] w (LnQ w L B) := by
  have h := (sln_any f c A n c1 lo hi num w hnum hn hm hc).mono (fun _ _ h => lnQ_of h)
  rw [hL, hB] at h
  exact h
end Go.Proofs.Ytdmidimjbhkjoaa
