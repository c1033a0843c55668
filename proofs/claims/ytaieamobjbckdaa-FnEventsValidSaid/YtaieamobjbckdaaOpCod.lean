/- The bytes that a law is given, opened. -/
import Derived.Test.YtaieamobjbckdaaAlive
import Derived.ProofKit
import Derived.OpenShut
namespace Go.Proofs.Ytaieamobjbckdaa
set_option linter.unusedSimpArgs false
set_option linter.unusedVariables false
open Go.ChangeShapes Go.WideShapes Go.ChangeAt Go.RowKit

theorem cod_of {H : Type} {enc : TypeId × Value → H} {W : World} {a : Option Addr} {len cap : Nat} {d : DataW H} {p : List MemPlace}
    (h : DataW.Trod enc Try.prog W 0 (fun _ => true) true 22 (.slice a len cap) d p) : Cod W a len cap := by
  obtain ⟨fuel, hf⟩ := h
  rcases open_ints Try.underlying22 Try.underlying5 (by kernel_rfl) hf with ⟨hcs, _⟩ | ⟨x, l, c, zs, hcs, _, hl, hm, hz, _, hcell, hwz⟩
  · simp [Value.cells] at hcs
    obtain ⟨rfl, rfl, rfl⟩ := hcs
    exact ⟨Nat.le_refl _, by omega, fun h => absurd h (by omega)⟩
  · simp [Value.cells] at hcs
    obtain ⟨rfl, rfl, rfl⟩ := hcs
    simp only [ite_true] at hz
    refine ⟨hl, by unfold maxLen at hm; exact hm, fun h0 => ?_⟩
    obtain ⟨b, off, spot⟩ := x
    have hs : spot = none := by
      have := hcell 0 (by omega)
      simpa [Addr.add] using World.cell?_spot this
    subst hs
    have ha : ∀ n : Nat, (⟨b, off, none⟩ : Addr).add n = ⟨b, off + n, none⟩ := fun n => by
      unfold Addr.add; by_cases e : n = 0 <;> simp [e]
    simp only [ha] at hcell
    have hbd : ∀ i, 0 ≤ zs.getD i 0 ∧ zs.getD i 0 ≤ 255 := fun i => by
      rw [List.getD_eq_getElem?_getD]; exact Go.range_u8 hwz i
    refine ⟨b, off, zs.take len, rfl, by simpa using World.block_lt_of_cell? _ _ (hcell 0 (by omega)), by rw [List.length_take]; omega, fun i => ?_, fun i hi => ?_⟩
    · by_cases hi : i < len
      · rw [List.getD_eq_getElem?_getD, List.getElem?_take, if_pos hi, ← List.getD_eq_getElem?_getD]; exact hbd i
      · rw [List.getD_eq_getElem?_getD, List.getElem?_take, if_neg hi]; simp
    · rw [hcell i (by omega), List.getD_eq_getElem?_getD, List.getD_eq_getElem?_getD, List.getElem?_take, if_pos hi]
end Go.Proofs.Ytaieamobjbckdaa
