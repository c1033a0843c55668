/- What a generator leaves: of what was there only the reader's block has turned. -/
import Derived.Test.YtaieamobjbckdaaRd
import Derived.Test.YtaieamobjbckdaaOwn
namespace Go.Proofs.Ytaieamobjbckdaa
set_option linter.unusedSimpArgs false
set_option linter.unusedVariables false
open Go.RowKit

/-- of what was there only block g has turned -/
structure Onb (g : Nat) (w w' : World) : Prop where
  os : w'.os = w.os
  tape : w'.tape = w.tape
  output : w'.output = w.output
  size : w.heap.size ≤ w'.heap.size
  block : ∀ k, k < w.heap.size → k ≠ g → w'.heap[k]? = w.heap[k]?
theorem Onb.refl (g : Nat) (w : World) : Onb g w w := ⟨rfl, rfl, rfl, Nat.le_refl _, fun _ _ _ => rfl⟩
theorem Onb.trans {g : Nat} {a b c : World} (h : Onb g a b) (k : Onb g b c) : Onb g a c := ⟨k.os.trans h.os, k.tape.trans h.tape, k.output.trans h.output, Nat.le_trans h.size k.size, fun i hi hn => (k.block i (Nat.lt_of_lt_of_le hi h.size) hn).trans (h.block i hi hn)⟩
theorem Onb.of_onl {g : Nat} {w w' : World} (h : Onl g w w') : Onb g w w' := ⟨h.os, h.tape, h.output, by rw [h.size]; exact Nat.le_refl _, fun i _ hn => h.block i hn⟩
theorem Onb.of_bel {g : Nat} {w w' : World} (h : Below w.heap.size w w') : Onb g w w' := ⟨h.os, h.tape, h.output, h.size, fun i hi _ => h.block i hi⟩
theorem Onb.cell {g : Nat} {w w' : World} (h : Onb g w w') (b o : Nat) (hb : b < w.heap.size) (hn : b ≠ g) : w'.cell? ⟨b, o, none⟩ = w.cell? ⟨b, o, none⟩ := World.cell?_of_block (w := w) (h.block b hb hn)
theorem Onb.frozen {g : Nat} {w w' : World} (h : Onb g w w') (b o : Nat) (hb : b < w.heap.size) (hn : b ≠ g) : w'.frozen? ⟨b, o, none⟩ = w.frozen? ⟨b, o, none⟩ := World.frozen?_of_block (w := w) (h.block b hb hn)
theorem Onb.below {g : Nat} {B : Nat} {w w' : World} (h : Onb g w w') (hB : B ≤ g) (hB' : B ≤ w.heap.size) : Below B w w' := ⟨h.os, h.tape, h.output, h.size, fun k hk => h.block k (by omega) (by omega)⟩
theorem Onb.set {g : Nat} {w w' : World} (h : Onb g w w') {p : Addr} (hp : w.heap.size ≤ p.block) (u : Value) : Onb g w (w'.setCell p u) :=
  ⟨h.os, h.tape, h.output, by simpa [World.setCell] using h.size, fun i hi hn => (Below.heap_setCell w' p u i (by omega)).trans (h.block i hi hn)⟩

theorem lit_at {w : World} {b : Nat} {t : TypeId} {fr : Nat × Nat} {xs : List Int} (h : w.heap[b]? = some (.cells (xs.map (Value.int .i64)).toArray t fr)) {v : Int} (v0 : 0 ≤ v) (v1 : v < xs.length) :
    ∃ u : Int, u ∈ xs ∧ w.cell? ⟨b, v.toNat, none⟩ = some (.int .i64 u) := by
  have hv : v.toNat < xs.length := by omega
  refine ⟨xs[v.toNat], List.getElem_mem hv, ?_⟩
  rw [cell_of_row w b _ _ t fr h]
  simp [hv]
theorem own_gt {w : World} {base : Nat} {e : TypeId} {size : Nat} {v : Value} {n : Nat} {xs : List Value} {g : Nat} (h : w.ownsRow base e size v n xs) (hg : g < base) : ∀ k, v.ownBlock = some k → g < k := fun k hk => by have := (h.lt k hk).1; omega
theorem own_ge {w : World} {base : Nat} {e : TypeId} {size : Nat} {v : Value} {n : Nat} {xs : List Value} (h : w.ownsRow base e size v n xs) : ∀ k, v.ownBlock = some k → base ≤ k := fun k hk => (h.lt k hk).1
theorem Onb.alloc {g : Nat} {w w' : World} (h : Onb g w w') (o : Obj) : Onb g w (w'.alloc o) := h.trans (Onb.of_bel (bel_al (bel_refl w') o))
theorem Onb.drew {g : Nat} {w w' : World} (h : Onb g w w') : Onb g w w'.drew := h.trans (Onb.of_bel (bel_dr (bel_refl w')))
theorem Onb.drewN {g : Nat} {w w' : World} (h : Onb g w w') (k : Nat) : Onb g w (w'.drewN k) := h.trans (Onb.of_bel (bel_drN (bel_refl w') k))
theorem Onb.grown {g : Nat} {w a b : World} {row : Option Nat} (h : Onb g w a) (hg : a.grownBy b row) (hr : ∀ k, row = some k → w.heap.size ≤ k) : Onb g w b :=
  ⟨hg.os.trans h.os, hg.tape.trans h.tape, hg.output.trans h.output, Nat.le_trans h.size hg.size, fun i hi hn => (hg.block i (Nat.lt_of_lt_of_le hi h.size) (fun e => by have := hr i e.symm; omega)).trans (h.block i hi hn)⟩
theorem own_onl {g : Nat} {w w' : World} {base : Nat} {e : TypeId} {size : Nat} {v : Value} {n : Nat} {xs : List Value} (h : w.ownsRow base e size v n xs) (hb : Onl g w w') (hg : g < base) : w'.ownsRow base e size v n xs :=
  h.kept (row := some g) ⟨hb.os, hb.tape, hb.output, by rw [hb.size]; exact Nat.le_refl _, fun k _ hn => hb.block k (fun e => hn (by rw [e]))⟩ (.inr (fun e => by have := (h.lt g e).1; omega))
theorem own_onb {g : Nat} {w w' : World} {base : Nat} {e : TypeId} {size : Nat} {v : Value} {n : Nat} {xs : List Value} (h : w.ownsRow base e size v n xs) (hb : Onb g w w') (hg : g < base) : w'.ownsRow base e size v n xs :=
  h.kept (row := some g) ⟨hb.os, hb.tape, hb.output, hb.size, fun k hk hn => hb.block k hk (fun e => hn (by rw [e]))⟩ (.inr (fun e => by have := (h.lt g e).1; omega))
theorem own_off {w : World} {base : Nat} {e : TypeId} {size : Nat} {v : Value} {n : Nat} {xs : List Value} (h : w.ownsRow base e size v n xs) {q : Addr} (hq : v.ownBlock ≠ some q.block) (u : Value) : (w.setCell q u).ownsRow base e size v n xs :=
  h.kept (row := some q.block) ⟨rfl, rfl, rfl, by simp [World.setCell], fun k _ hn => Below.heap_setCell w q u k (fun e => hn (by rw [e]))⟩ (.inr hq)
theorem Rd.grown {w w' : World} {g B : Nat} {A : Option Addr} {len cap p : Nat} (h : Rd w g B A len cap p) {row : Option Nat} (hg : w.grownBy w' row) (hr : ∀ k, row = some k → g < k) : Rd w' g B A len cap p :=
  h.keep (fun b o hh => World.cell?_of_block (w := w) (a := ⟨b, o, none⟩) (hg.block b (by have := h.gl; have := h.Bg; omega) (fun e => by have := hr b e.symm; have := h.Bg; omega)))
    (World.frozen?_of_block (w := w) (a := ⟨g, 1, none⟩) (hg.block g h.gl (fun e => by have := hr g e.symm; omega)))
theorem Onl.at {g : Nat} {w w' : World} (h : Onl g w w') {a : Addr} {v : Value} (hv : w.cell? a = some v) (hn : a.block ≠ g) : w'.cell? a = some v := by
  rw [World.cell?_of_block (w := w) (h.block a.block hn)]; exact hv
theorem Onb.at {g : Nat} {w w' : World} (h : Onb g w w') {a : Addr} {v : Value} (hv : w.cell? a = some v) (hn : a.block ≠ g) : w'.cell? a = some v := by
  rw [World.cell?_of_block (w := w) (h.block a.block (World.block_lt_of_cell? w a hv) hn)]; exact hv
end Go.Proofs.Ytaieamobjbckdaa
