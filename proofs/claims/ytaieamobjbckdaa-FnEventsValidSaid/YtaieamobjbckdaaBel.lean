/- Small lemmas on worlds: what stays below, what a cell holds behind a new block, a draw, a store, a call. -/
import Derived.Test.YtaieamobjbckdaaProg
import Derived.WalkKit
import Derived.WalkSpells
import Derived.Laws.ResultCell
import Derived.LoopTactic
import Derived.RegionTactic
import Derived.BigQuiet
import Derived.Deep.QuietTactic
import Derived.Deep.Draws
import Derived.IntWalk
import Derived.Lib.Hide
namespace Go.Proofs.Ytaieamobjbckdaa
set_option linter.unusedSimpArgs false
set_option linter.unusedVariables false
open Go.RowKit

theorem bcell {W w1 : World} (hb : Below W.heap.size W w1) : (∀ b o, b < W.heap.size → w1.cell? ⟨b, o, none⟩ = W.cell? ⟨b, o, none⟩) ∧ (∀ b o, b < W.heap.size → w1.frozen? ⟨b, o, none⟩ = W.frozen? ⟨b, o, none⟩) :=
  ⟨fun b o h => hb.cell (p := ⟨b, o, none⟩) h, fun b o h => hb.frozen (p := ⟨b, o, none⟩) h⟩
theorem ret_int {k : IntKind} {a b : Int} (h : a = b) : Ending.returned (.int k a) = .returned (.int k b) := by rw [h]
theorem ret_bool {a b : Bool} (h : a = b) : Ending.returned (.bool a) = .returned (.bool b) := by rw [h]
theorem bel_new (w : World) (o : Obj) : Below w.heap.size w (w.alloc o) := (Below.refl _ _).alloc (Nat.le_refl _) _
theorem bel_alloc {w w1 : World} {o : Obj} (h : Below (w.alloc o).heap.size (w.alloc o) w1) : Below w.heap.size w w1 := (bel_new w o).trans (h.mono (by simp))
theorem bel_refl (w : World) : Below w.heap.size w w := Below.refl _ _
theorem bel_al {W w : World} (h : Below W.heap.size W w) (o : Obj) : Below W.heap.size W (w.alloc o) := h.alloc h.size o
theorem bel_dr {W w : World} (h : Below W.heap.size W w) : Below W.heap.size W w.drew := h.drew
theorem bel_drN {W w : World} (h : Below W.heap.size W w) (n : Nat) : Below W.heap.size W (w.drewN n) := ⟨h.os, h.tape, h.output, h.size, h.block⟩
theorem bel_tr {W w w' : World} (h : Below W.heap.size W w) (k : Below w.heap.size w w') : Below W.heap.size W w' := h.trans (k.mono h.size)
theorem bel_set {W w : World} (h : Below W.heap.size W w) {p : Addr} (hp : W.heap.size ≤ p.block) (u : Value) : Below W.heap.size W (w.setCell p u) := h.setCell hp u

theorem keep_al {w : World} {a : Addr} {v : Value} (h : w.cell? a = some v) (o : Obj) : (w.alloc o).cell? a = some v := by rw [World.cell?_alloc_lt _ _ _ (World.block_lt_of_cell? w a h)]; exact h
theorem keep_dr {w : World} {a : Addr} {v : Value} (h : w.cell? a = some v) : w.drew.cell? a = some v := h
theorem keep_undr {w : World} {a : Addr} {v : Value} (h : w.drew.cell? a = some v) : w.cell? a = some v := h
theorem bel_undr {W w : World} (h : Below W.heap.size W w.drew) : Below W.heap.size W w := ⟨h.os, h.tape, h.output, h.size, h.block⟩
theorem keep_drN {w : World} {a : Addr} {v : Value} (h : w.cell? a = some v) (n : Nat) : (w.drewN n).cell? a = some v := h
theorem keep_tr {w w1 : World} {a : Addr} {v : Value} (h : w.cell? a = some v) (hb : Below w.heap.size w w1) : w1.cell? a = some v := cell_later hb h
theorem keep_set {w : World} {a p : Addr} {v u : Value} (h : w.cell? a = some v) (hne : a.block ≠ p.block) : (w.setCell p u).cell? a = some v := by
  rw [World.cell?_setCell_other]; exact h
  intro e; exact hne (by rw [e])
theorem set_same {w : World} {p : Addr} {u : Value} (h : (w.cell? p).isSome = true) : (w.setCell p u).cell? p = some u := by
  obtain ⟨v, hv⟩ := Option.isSome_iff_exists.1 h
  exact World.cell?_setCell_same _ _ _ hv
theorem some_tr {w w1 : World} {a : Addr} (h : (w.cell? a).isSome = true) (hb : Below w.heap.size w w1) : (w1.cell? a).isSome = true := by
  obtain ⟨v, hv⟩ := Option.isSome_iff_exists.1 h
  rw [keep_tr hv hb]; rfl
theorem some_al {w : World} {a : Addr} (h : (w.cell? a).isSome = true) (o : Obj) : ((w.alloc o).cell? a).isSome = true := by
  obtain ⟨v, hv⟩ := Option.isSome_iff_exists.1 h
  rw [keep_al hv]; rfl
theorem some_dr {w : World} {a : Addr} (h : (w.cell? a).isSome = true) : (w.drew.cell? a).isSome = true := h
theorem some_set {w : World} {a p : Addr} {u : Value} (h : (w.cell? a).isSome = true) (hne : a ≠ p) : ((w.setCell p u).cell? a).isSome = true := by
  rw [World.cell?_setCell_other _ _ _ _ (Ne.symm hne)]; exact h
theorem some_setx {w : World} {a p : Addr} {u : Value} (h : (w.cell? a).isSome = true) : ((w.setCell p u).cell? a).isSome = true := by
  by_cases e : a = p
  · subst e; rw [set_same h]; rfl
  · exact some_set h e
theorem keep_off {w : World} {a p : Addr} {v u : Value} (h : w.cell? a = some v) (hne : a ≠ p) : (w.setCell p u).cell? a = some v := by
  rw [World.cell?_setCell_other _ _ _ _ (Ne.symm hne)]; exact h
theorem cel {B : Nat} {w w1 : World} (hb : Below B w w1) (g : Nat) (h : g < B) : (∀ o, w1.cell? ⟨g, o, none⟩ = w.cell? ⟨g, o, none⟩) ∧ (∀ o, w1.frozen? ⟨g, o, none⟩ = w.frozen? ⟨g, o, none⟩) :=
  ⟨fun o => hb.cell (p := ⟨g, o, none⟩) h, fun o => hb.frozen (p := ⟨g, o, none⟩) h⟩
theorem bfacts {W w1 : World} (hb : Below W.heap.size W w1) : (∀ b o, b < W.heap.size → w1.cell? ⟨b, o, none⟩ = W.cell? ⟨b, o, none⟩) ∧ (∀ b o, b < W.heap.size → w1.frozen? ⟨b, o, none⟩ = W.frozen? ⟨b, o, none⟩) ∧
    (∀ x, x < W.heap.size → x < w1.heap.size) ∧ (∀ x, x < W.heap.size → x ≤ w1.heap.size) ∧ (∀ x k, x < W.heap.size → x < w1.heap.size + k) :=
  ⟨fun b o h => hb.cell (p := ⟨b, o, none⟩) h, fun b o h => hb.frozen (p := ⟨b, o, none⟩) h, fun x h => Nat.lt_of_lt_of_le h hb.size, fun x h => Nat.le_of_lt (Nat.lt_of_lt_of_le h hb.size), fun x k h => by have := hb.size; omega⟩

theorem fz_dr {w : World} {a : Addr} (h : w.frozen? a = false) : w.drew.frozen? a = false := h
theorem fz_set {w : World} {a p : Addr} {u : Value} (h : w.frozen? a = false) : (w.setCell p u).frozen? a = false := by simpa using h
theorem fz_al {w : World} {a : Addr} (h : w.frozen? a = false) (hlt : a.block < w.heap.size) (o : Obj) : (w.alloc o).frozen? a = false := by rw [World.frozen?_alloc_old w o a (Nat.ne_of_lt hlt)]; exact h
theorem fz_tr {w w1 : World} {a : Addr} (h : w.frozen? a = false) (hb : Below w.heap.size w w1) (hlt : a.block < w.heap.size) : w1.frozen? a = false := by rw [hb.frozen hlt]; exact h

end Go.Proofs.Ytaieamobjbckdaa
