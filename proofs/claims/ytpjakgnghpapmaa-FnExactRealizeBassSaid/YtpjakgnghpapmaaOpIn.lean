/- A slice of numbers that came in reads as a list. -/
import Derived.Test.YtpjakgnghpapmaaRowIn
import Derived.Test.YtpjakgnghpapmaaBa
namespace Go.Proofs.Ytpjakgnghpapmaa
set_option linter.unusedSimpArgs false
set_option linter.unusedVariables false
open Go.ChangeShapes Go.WideShapes Go.Deep Go.RowKit

theorem rowIn_of {H : Type} {enc : TypeId × Value → H} {W : World} {a : Option Addr} {len cap : Nat} {d : DataW H} {p : List MemPlace}
    (h : DataW.Trod enc Try.prog W 0 (fun _ => true) true 43 (.slice a len cap) d p) :
    ∃ l : List Int, l.length = len ∧ len ≤ cap ∧ cap ≤ maxLen ∧ RowIn W W.heap.size a l := by
  obtain ⟨fuel, hf⟩ := h
  have hC : Try.prog.cellsOf 3 = 1 := by kernel_rfl
  rcases open_slice Try.underlying43 hf with ⟨hcs, _⟩ | ⟨x, len', cap', m, fu, D, Pl, hcs, hb, hl, hm, hmm, hx, hi⟩
  · simp [Value.cells] at hcs
    obtain ⟨rfl, rfl, rfl⟩ := hcs
    exact ⟨[], rfl, Nat.le_refl _, by simp [maxLen], fun h => absurd h (by simp)⟩
  · simp [Value.cells] at hcs
    obtain ⟨rfl, rfl, rfl⟩ := hcs
    have hmc : m = cap := by simpa using hmm
    subst hmc
    have hcell : ∀ i, i < len → ∃ y : Int, W.cell? (x.add i) = some (.int .i64 y) := by
      intro i hil
      obtain ⟨cs', hc, ht⟩ := hi i (by omega)
      rw [hC] at hc
      obtain ⟨_, hcl, hat⟩ := World.cells?_some hc
      obtain ⟨v, rfl⟩ : ∃ v, cs' = [v] := List.length_eq_one_iff.1 hcl
      have h0 := hat 0 (by omega)
      have hav : W.cell? (x.add i) = some v := by
        rw [add_add] at h0
        simpa using h0
      obtain ⟨y, e, _, _⟩ := DataW.trod_int Try.underlying3 ht
      simp at e
      subst e
      exact ⟨y, hav⟩
    obtain ⟨l, hll, hq⟩ := list_of (0 : Int) _ len hcell
    refine ⟨l, hll, hl, hm, fun h0 => ?_⟩
    obtain ⟨b, off, spot⟩ := x
    have hs : spot = none := by
      have q := hq 0 (by omega)
      simpa [Addr.add] using World.cell?_spot q
    subst hs
    have ha : ∀ n : Nat, (⟨b, off, none⟩ : Addr).add n = ⟨b, off + n, none⟩ := fun n => by
      unfold Addr.add; by_cases e : n = 0 <;> simp [e]
    simp only [ha] at hq
    refine ⟨b, off, rfl, ?_, fun i hi => hq i (by omega)⟩
    have q := hq 0 (by omega)
    simpa using World.block_lt_of_cell? _ _ q
end Go.Proofs.Ytpjakgnghpapmaa
