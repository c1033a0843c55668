/- Real answers: contracts of both. -/
import Derived.Test.YtacbkmahofmbcaaShR
namespace Go.Proofs.Ytacbkmahofmbcaa
set_option linter.unusedSimpArgs false
set_option linter.unusedVariables false
open Go.RowKit

theorem ra_val {l L : List Nt} {B : Bool} (hL : shL l 4 7 = L) (hB : shB l 4 7 = B) (A : Option Addr) (n c : Nat) (w : World) (hn : l.length = n) (hm : n ≤ 2000000) (h : RowNt w w.heap.size A l) :
    Calls Try.prog 12 #[.slice A n c] w (ShR w L B) := by
  go_enter Try.func12, Try.ntmps12
  go_wp2_with fail
  refine (shv_any _ _ _ _ _ _ _ hn hm h).mono ?_
  intro e1 w1 h1
  obtain ⟨A1, c1, rfl, h1, h2, h3, h4, b1⟩ := shR_of h1
  rw [hL, hB] at *
  go_wp2
  exact bodyPost_ret (v := .tuple #[.slice A1 L.length c1, .bool B]) (by simp [results, Try.results12, go_sem]) rfl ⟨A1, c1, rfl, h1, h2, h3, h4, b1⟩
end Go.Proofs.Ytacbkmahofmbcaa
