/- What a function leaves that only stores into one slice. -/
import Derived.Test.YtkchlgmlfihkdaaBa
namespace Go.Proofs.Ytkchlgmlfihkdaa
set_option linter.unusedSimpArgs false
set_option linter.unusedVariables false
open Go.RowKit

theorem Onl.set {b : Nat} (w : World) (o : Nat) (u : Value) : Onl b w (w.setCell ⟨b, o, none⟩ u) :=
  ⟨rfl, rfl, rfl, by simp [World.setCell], fun k hk => Below.heap_setCell w ⟨b, o, none⟩ u k hk⟩
structure Trn (A : Option Addr) (n : Nat) (w w' : World) : Prop where
  os : w'.os = w.os
  tape : w'.tape = w.tape
  output : w'.output = w.output
  size : w'.heap.size = w.heap.size
  block : ∀ i, i < w.heap.size → (0 < n → ∀ a : Addr, A = some a → a.block ≠ i) → w'.heap[i]? = w.heap[i]?
theorem Trn.of {A : Option Addr} {b off n : Nat} {w w' : World} (h : Onl b w w') (hz : n = 0 → w = w') (hA : 0 < n → A = some ⟨b, off, none⟩) : Trn A n w w' :=
  ⟨h.os, h.tape, h.output, h.size, fun i hi hne => by
    by_cases h0 : n = 0
    · rw [← hz h0]
    · exact h.block i (fun e => hne (by omega) ⟨b, off, none⟩ (hA (by omega)) e.symm)⟩
theorem Trn.below {A : Option Addr} {n B : Nat} {w w' : World} (h : Trn A n w w') (hB : B ≤ w.heap.size) (hne : ∀ a : Addr, 0 < n → A = some a → B ≤ a.block) : Below B w w' :=
  ⟨h.os, h.tape, h.output, by rw [h.size]; exact Nat.le_refl _, fun i hi => h.block i (by omega) fun hn a ha => by have := hne a hn ha; omega⟩
theorem bel_trn {A : Option Addr} {n : Nat} {W w w' : World} (h : Below W.heap.size W w) (t : Trn A n w w') (hne : ∀ a : Addr, 0 < n → A = some a → W.heap.size ≤ a.block) : Below W.heap.size W w' := h.trans (t.below h.size hne)
end Go.Proofs.Ytkchlgmlfihkdaa
