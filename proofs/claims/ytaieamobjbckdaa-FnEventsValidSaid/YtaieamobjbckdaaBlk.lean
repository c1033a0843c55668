/- A block that is known whole: how it lives on, what its cells hold. -/
import Derived.Test.YtaieamobjbckdaaOnb
namespace Go.Proofs.Ytaieamobjbckdaa
set_option linter.unusedSimpArgs false
set_option linter.unusedVariables false
open Go.RowKit

def Blk (w : World) (P : Nat) (cs : Array Value) (T : TypeId) : Prop := w.heap[P]? = some (.cells cs T (0, 0))
theorem Blk.lt {w : World} {P : Nat} {cs : Array Value} {T : TypeId} (h : Blk w P cs T) : P < w.heap.size := by
  rcases Nat.lt_or_ge P w.heap.size with hl | hg
  · exact hl
  · unfold Blk at h; rw [Array.getElem?_eq_none hg] at h; cases h
theorem Blk.cell {w : World} {P : Nat} {cs : Array Value} {T : TypeId} (h : Blk w P cs T) (o : Nat) : w.cell? ⟨P, o, none⟩ = cs[o]? := cell_of_row w P o cs T (0, 0) h
theorem Blk.free {w : World} {P : Nat} {cs : Array Value} {T : TypeId} (h : Blk w P cs T) (o : Nat) : w.frozen? ⟨P, o, none⟩ = false := frozen_of_row w P o cs T h
theorem Blk.new (w : World) (cs : Array Value) (T : TypeId) : Blk (w.alloc (.cells cs T)) w.heap.size cs T := heap_alloc_new w _
theorem Blk.below {w w' : World} {P : Nat} {cs : Array Value} {T : TypeId} (h : Blk w P cs T) (hb : Below w.heap.size w w') : Blk w' P cs T := (hb.block P h.lt).trans h
theorem Blk.alloc {w : World} {P : Nat} {cs : Array Value} {T : TypeId} (h : Blk w P cs T) (o : Obj) : Blk (w.alloc o) P cs T := h.below (bel_al (bel_refl w) o)
theorem Blk.drew {w : World} {P : Nat} {cs : Array Value} {T : TypeId} (h : Blk w P cs T) : Blk w.drew P cs T := h
theorem Blk.onl {g : Nat} {w w' : World} {P : Nat} {cs : Array Value} {T : TypeId} (h : Blk w P cs T) (ho : Onl g w w') (hn : P ≠ g) : Blk w' P cs T := (ho.block P hn).trans h
theorem Blk.onb {g : Nat} {w w' : World} {P : Nat} {cs : Array Value} {T : TypeId} (h : Blk w P cs T) (ho : Onb g w w') (hn : P ≠ g) : Blk w' P cs T := (ho.block P h.lt hn).trans h
theorem Blk.grown {w w' : World} {P : Nat} {cs : Array Value} {T : TypeId} {row : Option Nat} (h : Blk w P cs T) (hg : w.grownBy w' row) (hn : row ≠ some P) : Blk w' P cs T := (hg.block P h.lt (Ne.symm hn)).trans h
theorem Blk.set {w : World} {P : Nat} {cs : Array Value} {T : TypeId} (h : Blk w P cs T) (o : Nat) (u : Value) : Blk (w.setCell ⟨P, o, none⟩ u) P (cs.setIfInBounds o u) T := heap_setCell_same w P o cs T u h
theorem Blk.off {w : World} {P : Nat} {cs : Array Value} {T : TypeId} (h : Blk w P cs T) {q : Addr} (hn : P ≠ q.block) (u : Value) : Blk (w.setCell q u) P cs T := (heap_setCell_other w q P u hn).trans h
theorem Blk.s30 {w : World} {P : Nat} {a b c u : Value} {T : TypeId} (h : Blk w P #[a, b, c] T) : Blk (w.setCell ⟨P, 0, none⟩ u) P #[u, b, c] T := h.set 0 u
theorem Blk.s31 {w : World} {P : Nat} {a b c u : Value} {T : TypeId} (h : Blk w P #[a, b, c] T) : Blk (w.setCell ⟨P, 1, none⟩ u) P #[a, u, c] T := h.set 1 u
theorem Blk.s32 {w : World} {P : Nat} {a b c u : Value} {T : TypeId} (h : Blk w P #[a, b, c] T) : Blk (w.setCell ⟨P, 2, none⟩ u) P #[a, b, u] T := h.set 2 u
theorem Blk.s60 {w : World} {P : Nat} {a b c d e f u : Value} {T : TypeId} (h : Blk w P #[a, b, c, d, e, f] T) : Blk (w.setCell ⟨P, 0, none⟩ u) P #[u, b, c, d, e, f] T := h.set 0 u
theorem Blk.s61 {w : World} {P : Nat} {a b c d e f u : Value} {T : TypeId} (h : Blk w P #[a, b, c, d, e, f] T) : Blk (w.setCell ⟨P, 1, none⟩ u) P #[a, u, c, d, e, f] T := h.set 1 u
theorem Blk.s62 {w : World} {P : Nat} {a b c d e f u : Value} {T : TypeId} (h : Blk w P #[a, b, c, d, e, f] T) : Blk (w.setCell ⟨P, 2, none⟩ u) P #[a, b, u, d, e, f] T := h.set 2 u
theorem Blk.s63 {w : World} {P : Nat} {a b c d e f u : Value} {T : TypeId} (h : Blk w P #[a, b, c, d, e, f] T) : Blk (w.setCell ⟨P, 3, none⟩ u) P #[a, b, c, u, e, f] T := h.set 3 u
theorem Blk.s64 {w : World} {P : Nat} {a b c d e f u : Value} {T : TypeId} (h : Blk w P #[a, b, c, d, e, f] T) : Blk (w.setCell ⟨P, 4, none⟩ u) P #[a, b, c, d, u, f] T := h.set 4 u
theorem Blk.s65 {w : World} {P : Nat} {a b c d e f u : Value} {T : TypeId} (h : Blk w P #[a, b, c, d, e, f] T) : Blk (w.setCell ⟨P, 5, none⟩ u) P #[a, b, c, d, e, u] T := h.set 5 u
theorem Blk.s20 {w : World} {P : Nat} {a b u : Value} {T : TypeId} (h : Blk w P #[a, b] T) : Blk (w.setCell ⟨P, 0, none⟩ u) P #[u, b] T := h.set 0 u
theorem Blk.s21 {w : World} {P : Nat} {a b u : Value} {T : TypeId} (h : Blk w P #[a, b] T) : Blk (w.setCell ⟨P, 1, none⟩ u) P #[a, u] T := h.set 1 u
/-- Blk.set3: the three cells at once -/
theorem Blk.set3 {w : World} {P : Nat} {a b c u v x : Value} {T : TypeId} (h : Blk w P #[a, b, c] T) : Blk (((w.setCell ⟨P, 0, none⟩ u).setCell ⟨P, 1, none⟩ v).setCell ⟨P, 2, none⟩ x) P #[u, v, x] T := (h.s30.s31).s32
end Go.Proofs.Ytaieamobjbckdaa
