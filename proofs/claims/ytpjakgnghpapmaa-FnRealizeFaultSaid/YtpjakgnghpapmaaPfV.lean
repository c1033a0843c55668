/- PartsFaults in value form. -/
import Derived.Test.YtpjakgnghpapmaaPtf
import Derived.Test.YtpjakgnghpapmaaSPtf
namespace Go.Proofs.Ytpjakgnghpapmaa
set_option linter.unusedSimpArgs false
set_option linter.unusedVariables false
open Go.RowKit

theorem pf_val {ll : List (List Pi)} {L : List Fa} (hL : pfL ll = L) (A : Option Addr) (n c : Nat) (w : World) (hn : ll.length = n) (hm : n ≤ 2000000) (h : RowPP w w.heap.size A ll) (hbg : ∀ i, i < ll.length → (atPP ll i).length ≤ 2000000) :
    Calls Try.prog 13 #[.slice A n c] w (LfR w L) := by
  have h := (pf_any A n c ll w hn hm h hbg).mono (fun _ _ h => lfR_of h)
  rw [hL] at h
  exact h
theorem spf_val {ll : List (List Pi)} {L : List Fa} (hL : pfL ll = L) (A : Option Addr) (n c : Nat) (w : World) (hn : ll.length = n) (hm : n ≤ 2000000) (h : RowPP w w.heap.size A ll) (hbg : ∀ i, i < ll.length → (atPP ll i).length ≤ 2000000) :
    Calls Try.prog 11 #[.slice A n c] w (LfR w L) := by
  have h := (spf_any A n c ll w hn hm h hbg).mono (fun _ _ h => lfR_of h)
  rw [hL] at h
  exact h
end Go.Proofs.Ytpjakgnghpapmaa
