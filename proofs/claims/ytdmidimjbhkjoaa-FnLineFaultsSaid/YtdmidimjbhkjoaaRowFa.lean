/- Rows of Fault: how a slice of them reads; the functions that copy, compare and count them. -/
import Derived.Test.YtdmidimjbhkjoaaBa
import Derived.Laws.MakeOwn
import Derived.Deep.RegionHeld3
namespace Go.Proofs.Ytdmidimjbhkjoaa
set_option linter.unusedSimpArgs false
set_option linter.unusedVariables false
open Go.RowKit

structure Fa where
  pos : Int
  code : Int

def atFa (l : List Fa) (i : Nat) : Fa := l.getD i ⟨0, 0⟩
/-- the slice at address A reads as the list l, all below block B -/
def RowFa (w : World) (B : Nat) (A : Option Addr) (l : List Fa) : Prop :=
  0 < l.length → ∃ b off, A = some ⟨b, off, none⟩ ∧ b < B ∧ ∀ i, i < l.length → w.cell? ⟨b, off + i * 2, none⟩ = some (.int .i64 (atFa l i).pos) ∧ w.cell? ⟨b, off + i * 2 + 1, none⟩ = some (.int .i64 (atFa l i).code)
/-- the first n places of the slice may be written, and lie from block lo on -/
def OwnFa (w : World) (lo : Nat) (A : Option Addr) (n : Nat) : Prop :=
  0 < n → ∃ b off, A = some ⟨b, off, none⟩ ∧ lo ≤ b ∧ ∀ o, w.frozen? ⟨b, o, none⟩ = false
theorem RowFa.keep {w w' : World} {B B' : Nat} {A : Option Addr} {l : List Fa} (h : RowFa w B A l) (hB : B ≤ B') (hk : ∀ b o, b < B → w'.cell? ⟨b, o, none⟩ = w.cell? ⟨b, o, none⟩) : RowFa w' B' A l := by
  intro hl
  obtain ⟨b, off, e, hb, hc⟩ := h hl
  refine ⟨b, off, e, by omega, fun i hi => ?_⟩
  simp only [hk _ _ hb]
  exact hc i hi
theorem RowFa.below {w w' : World} {A : Option Addr} {l : List Fa} (h : RowFa w w.heap.size A l) (hb : Below w.heap.size w w') : RowFa w' w'.heap.size A l :=
  h.keep hb.size fun b o hh => hb.cell (p := ⟨b, o, none⟩) hh
theorem OwnFa.below {w w' : World} {A : Option Addr} {lo : Nat} {l : List Fa} (h : OwnFa w lo A l.length) (hr : RowFa w w.heap.size A l) (hb : Below w.heap.size w w') : OwnFa w' lo A l.length := by
  intro hl
  obtain ⟨b, off, e, h1, h2⟩ := h hl
  obtain ⟨b', off', e', h3, _⟩ := hr hl
  rw [e] at e'
  simp only [Option.some.injEq, Addr.mk.injEq, and_true] at e'
  exact ⟨b, off, e, h1, fun o => by rw [hb.frozen (p := ⟨b, o, none⟩) (by simp only; omega)]; exact h2 o⟩

end Go.Proofs.Ytdmidimjbhkjoaa
