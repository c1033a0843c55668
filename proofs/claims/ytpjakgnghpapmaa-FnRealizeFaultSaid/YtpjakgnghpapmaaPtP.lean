/- Slices of slices of pitches that came in: how they read; the faults of parts, plain. -/
import Derived.Test.YtpjakgnghpapmaaMvf
import Derived.Test.YtpjakgnghpapmaaSMvf
import Derived.Test.YtpjakgnghpapmaaLfP
namespace Go.Proofs.Ytpjakgnghpapmaa
set_option linter.unusedSimpArgs false
set_option linter.unusedVariables false
open Go.RowKit

def atPP (ll : List (List Pi)) (i : Nat) : List Pi := ll.getD i []
/-- the slice at address A reads as the list ll of lists, all below block B -/
def RowPP (w : World) (B : Nat) (A : Option Addr) (ll : List (List Pi)) : Prop :=
  0 < ll.length → ∃ b off, A = some ⟨b, off, none⟩ ∧ b < B ∧ ∀ i, i < ll.length → ∃ Ai ci, w.cell? ⟨b, off + i, none⟩ = some (.slice Ai (atPP ll i).length ci) ∧ (atPP ll i).length ≤ ci ∧ ci ≤ maxLen ∧ RowPi w B Ai (atPP ll i)
theorem RowPP.keep {w w' : World} {B B' : Nat} {A : Option Addr} {ll : List (List Pi)} (h : RowPP w B A ll) (hB : B ≤ B') (hk : ∀ b o, b < B → w'.cell? ⟨b, o, none⟩ = w.cell? ⟨b, o, none⟩) : RowPP w' B' A ll := by
  intro hl
  obtain ⟨b, off, e, hb, hc⟩ := h hl
  refine ⟨b, off, e, by omega, fun i hi => ?_⟩
  obtain ⟨Ai, ci, h1, h2, h3, h4⟩ := hc i hi
  exact ⟨Ai, ci, by rw [hk _ _ hb]; exact h1, h2, h3, h4.keep hB hk⟩
theorem RowPP.below {w w' : World} {A : Option Addr} {ll : List (List Pi)} (h : RowPP w w.heap.size A ll) (hb : Below w.heap.size w w') : RowPP w' w'.heap.size A ll :=
  h.keep hb.size fun b o hh => hb.cell (p := ⟨b, o, none⟩) hh
def sfK (ll : List (List Pi)) (k : Nat) : Int := stkF (atPP ll k)
def mfK (ll : List (List Pi)) (k : Nat) : Int := if k = 0 then 0 else mvF (atPP ll (k - 1)) (atPP ll k)
theorem mfK_z (ll : List (List Pi)) : mfK ll 0 = 0 := rfl
theorem mfK_s (ll : List (List Pi)) (j : Nat) : mfK ll (j + 1) = mvF (atPP ll j) (atPP ll (j + 1)) := rfl
def pfK (ll : List (List Pi)) : Nat → List Fa
  | 0 => []
  | k + 1 => (pfK ll k ++ oneF k (sfK ll k)) ++ oneF k (mfK ll k)
/-- the faults of parts -/
def pfL (ll : List (List Pi)) : List Fa := if ll.length ≤ 8 then pfK ll ll.length else []
theorem pfK_len (ll : List (List Pi)) : ∀ k, (pfK ll k).length ≤ 2 * k
  | 0 => by simp [pfK]
  | k + 1 => by
    have a := pfK_len ll k
    have b := oneF_len k (sfK ll k)
    have d := oneF_len k (mfK ll k)
    unfold pfK
    rw [List.length_append, List.length_append]
    omega
theorem pfL_len (ll : List (List Pi)) : (pfL ll).length ≤ 16 := by
  unfold pfL
  split
  · have := pfK_len ll ll.length; omega
  · simp
end Go.Proofs.Ytpjakgnghpapmaa
