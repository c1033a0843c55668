/- A slice of slices of Pitch that came in reads as a list of lists. -/
import Derived.Test.YtpjakgnghpapmaaOpPi
import Derived.Test.YtpjakgnghpapmaaPtP
namespace Go.Proofs.Ytpjakgnghpapmaa
set_option linter.unusedSimpArgs false
set_option linter.unusedVariables false
open Go.ChangeShapes Go.WideShapes Go.Deep Go.RowKit

theorem rowPP_of {H : Type} {enc : TypeId × Value → H} {W : World} {a : Option Addr} {len cap : Nat} {d : DataW H} {p : List MemPlace}
    (h : DataW.Trod enc Try.prog W 0 (fun _ => true) true 22 (.slice a len cap) d p) :
    ∃ ll : List (List Pi), ll.length = len ∧ len ≤ cap ∧ cap ≤ maxLen ∧ RowPP W W.heap.size a ll := by
  obtain ⟨fuel, hf⟩ := h
  have hC : Try.prog.cellsOf 42 = 1 := by kernel_rfl
  rcases open_slice Try.underlying22 hf with ⟨hcs, _⟩ | ⟨x, len', cap', m, fu, D, Pl, hcs, hb, hl, hm, hmm, hx, hi⟩
  · simp [Value.cells] at hcs
    obtain ⟨rfl, rfl, rfl⟩ := hcs
    exact ⟨[], rfl, Nat.le_refl _, by simp [maxLen], fun h => absurd h (by simp)⟩
  · simp [Value.cells] at hcs
    obtain ⟨rfl, rfl, rfl⟩ := hcs
    have hmc : m = cap := by simpa using hmm
    subst hmc
    have hcell : ∀ i, i < len → ∃ y : List Pi, ∃ Ai ci, W.cell? (x.add i) = some (.slice Ai y.length ci) ∧ y.length ≤ ci ∧ ci ≤ maxLen ∧ RowPi W W.heap.size Ai y := by
      intro i hil
      obtain ⟨cs', hc, ht⟩ := hi i (by omega)
      rw [hC] at hc
      obtain ⟨_, hcl, hat⟩ := World.cells?_some hc
      obtain ⟨v, rfl⟩ : ∃ v, cs' = [v] := List.length_eq_one_iff.1 hcl
      have h0 := hat 0 (by omega)
      have hav : W.cell? (x.add i) = some v := by
        rw [add_add] at h0
        simpa using h0
      rcases open_slice Try.underlying42 ht with ⟨hcs, _⟩ | ⟨x', l', c', m', fu', D', Pl', hcs, _⟩
      · simp only [List.cons.injEq, and_true] at hcs
        subst hcs
        exact ⟨[], none, 0, hav, Nat.le_refl _, by simp [maxLen], fun h => absurd h (by simp)⟩
      · simp only [List.cons.injEq, and_true] at hcs
        subst hcs
        obtain ⟨l, e1, e2, e3, e4⟩ := rowPi_of (W := W) (a := some x') (len := l') (cap := c') ⟨_, ht⟩
        subst e1
        exact ⟨l, some x', c', hav, e2, e3, e4⟩
    obtain ⟨ll, hll, hq⟩ := list_of ([] : List Pi) _ len hcell
    refine ⟨ll, hll, hl, hm, fun h0 => ?_⟩
    obtain ⟨b, off, spot⟩ := x
    have hs : spot = none := by
      obtain ⟨_, _, q, _⟩ := hq 0 (by omega)
      simpa [Addr.add] using World.cell?_spot q
    subst hs
    have ha : ∀ n : Nat, (⟨b, off, none⟩ : Addr).add n = ⟨b, off + n, none⟩ := fun n => by
      unfold Addr.add; by_cases e : n = 0 <;> simp [e]
    simp only [ha] at hq
    refine ⟨b, off, rfl, ?_, fun i hi => ?_⟩
    · obtain ⟨_, _, q, _⟩ := hq 0 (by omega)
      simpa using World.block_lt_of_cell? _ _ q
    · obtain ⟨Ai, ci, q1, q2, q3, q4⟩ := hq i (by omega)
      exact ⟨Ai, ci, q1, q2, q3, q4⟩
end Go.Proofs.Ytpjakgnghpapmaa
