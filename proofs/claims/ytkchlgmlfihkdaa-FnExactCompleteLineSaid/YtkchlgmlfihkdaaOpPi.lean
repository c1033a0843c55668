/- A slice of Pitch that came in reads as a list. -/
import Derived.Test.YtkchlgmlfihkdaaBa
import Derived.Test.YtkchlgmlfihkdaaRowPi
namespace Go.Proofs.Ytkchlgmlfihkdaa
set_option linter.unusedSimpArgs false
set_option linter.unusedVariables false
open Go.ChangeShapes Go.WideShapes Go.Deep Go.RowKit

theorem rowPi_of {H : Type} {enc : TypeId × Value → H} {W : World} {a : Option Addr} {len cap : Nat} {d : DataW H} {p : List MemPlace}
    (h : DataW.Trod enc Try.prog W 0 (fun _ => true) true 22 (.slice a len cap) d p) :
    ∃ l : List Pi, l.length = len ∧ len ≤ cap ∧ cap ≤ maxLen ∧ RowPi W W.heap.size a l := by
  obtain ⟨fuel, hf⟩ := h
  rcases open_slice_fields Try.underlying22 Try.underlying60 (by kernel_rfl) (by kernel_rfl) hf with ⟨hcs, _⟩ | ⟨x, len', cap', m, D, Pl, hcs, hb, hl, hm, hmm, hx, hi⟩
  · simp [Value.cells] at hcs
    obtain ⟨rfl, rfl, rfl⟩ := hcs
    exact ⟨[], rfl, Nat.le_refl _, by simp [maxLen], fun h => absurd h (by simp)⟩
  · simp [Value.cells] at hcs
    obtain ⟨rfl, rfl, rfl⟩ := hcs
    have hmc : m = cap := by simpa using hmm
    subst hmc
    have hcell : ∀ i, i < len → ∃ t : Pi, W.cell? (x.add (i * 3 + 0)) = some (.int .i64 t.step) ∧ W.cell? (x.add (i * 3 + 1)) = some (.int .i64 t.alter) ∧ W.cell? (x.add (i * 3 + 2)) = some (.int .i64 t.octave) := by
      intro i hil
      obtain ⟨ys, n, _, _, hyl, hj⟩ := hi i (by omega)
      obtain ⟨v0, y0, c0, _, t0⟩ := hj 0 _ rfl
      obtain ⟨n0, e0, _, _⟩ := DataW.trod_int Try.underlying3 t0
      simp only [List.cons.injEq, and_true] at e0
      subst e0
      obtain ⟨v1, y1, c1, _, t1⟩ := hj 1 _ rfl
      obtain ⟨n1, e1, _, _⟩ := DataW.trod_int Try.underlying3 t1
      simp only [List.cons.injEq, and_true] at e1
      subst e1
      obtain ⟨v2, y2, c2, _, t2⟩ := hj 2 _ rfl
      obtain ⟨n2, e2, _, _⟩ := DataW.trod_int Try.underlying3 t2
      simp only [List.cons.injEq, and_true] at e2
      subst e2
      exact ⟨⟨n0, n1, n2⟩, c0, c1, c2⟩
    obtain ⟨l, hll, hq⟩ := list_of (⟨0, 0, 0⟩ : Pi) _ len hcell
    refine ⟨l, hll, hl, hm, fun h0 => ?_⟩
    obtain ⟨b, off, spot⟩ := x
    have hs : spot = none := by
      have := (hq 0 (by omega)).1
      simpa [Addr.add] using World.cell?_spot this
    subst hs
    have ha : ∀ n : Nat, (⟨b, off, none⟩ : Addr).add n = ⟨b, off + n, none⟩ := fun n => by
      unfold Addr.add; by_cases e : n = 0 <;> simp [e]
    simp only [ha] at hq
    refine ⟨b, off, rfl, by simpa using World.block_lt_of_cell? _ _ (hq 0 (by omega)).1, fun i hi => ?_⟩
    have := hq i (by omega)
    simpa [Nat.add_assoc, atPi] using this
end Go.Proofs.Ytkchlgmlfihkdaa
