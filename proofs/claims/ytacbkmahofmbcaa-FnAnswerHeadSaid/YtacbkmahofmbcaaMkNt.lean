/- The marks that a law lays into a slice of Note, and finds again; slices that the call itself made. -/
import Derived.Test.YtacbkmahofmbcaaRowNt
import Derived.Test.YtacbkmahofmbcaaRd
import Derived.Test.YtacbkmahofmbcaaTrn
namespace Go.Proofs.Ytacbkmahofmbcaa
set_option linter.unusedSimpArgs false
set_option linter.unusedVariables false
open Go.RowKit

def CMNt (w : World) (b off : Nat) (t : Nt) (i : Nat) : Prop := w.cell? ⟨b, off + i * 6, none⟩ = some (.bool t.rest) ∧ w.cell? ⟨b, off + i * 6 + 1, none⟩ = some (.int .i64 t.step) ∧ w.cell? ⟨b, off + i * 6 + 2, none⟩ = some (.int .i64 t.alter) ∧ w.cell? ⟨b, off + i * 6 + 3, none⟩ = some (.int .i64 t.octave) ∧ w.cell? ⟨b, off + i * 6 + 4, none⟩ = some (.int .i64 t.ticks) ∧ w.cell? ⟨b, off + i * 6 + 5, none⟩ = some (.bool t.tied)
def mkNt (V : Int) : Nt := ⟨(((V) % 3) == 0), V + 1, V + 1 + 1, V + 1 + 1 + 1, V + 1 + 1 + 1 + 1, (((V + 1 + 1 + 1 + 1 + 1) % 3) == 0)⟩
def mkLNt (n : Nat) (K : Int) : List Nt := (List.range n).map fun (i : Nat) => mkNt (K + 6 * (i : Int))
theorem mkLNt_len (n : Nat) (K : Int) : (mkLNt n K).length = n := by simp [mkLNt]
theorem at_mkLNt (n : Nat) (K : Int) (i : Nat) (h : i < n) : atNt (mkLNt n K) i = mkNt (K + 6 * (i : Int)) := by
  unfold atNt mkLNt; rw [List.getD_eq_getElem?_getD, List.getElem?_map, List.getElem?_range h]; rfl
theorem mstepNt (wr : World) (b off i n : Nat) (f : Nat → Nt) (t : Nt) (ht : f i = t) (hlt : i < n) (hd : ∀ j, j < i → CMNt wr b off (f j) j) (hs : ∀ o, o < n * 6 → (wr.cell? ⟨b, off + o, none⟩).isSome = true) (hf : ∀ o, wr.frozen? ⟨b, o, none⟩ = false) :
    (∀ j, j < i + 1 → CMNt ((((((wr.setCell ⟨b, off + i * 6, none⟩ (.bool t.rest)).setCell ⟨b, off + i * 6 + 1, none⟩ (.int .i64 t.step)).setCell ⟨b, off + i * 6 + 2, none⟩ (.int .i64 t.alter)).setCell ⟨b, off + i * 6 + 3, none⟩ (.int .i64 t.octave)).setCell ⟨b, off + i * 6 + 4, none⟩ (.int .i64 t.ticks)).setCell ⟨b, off + i * 6 + 5, none⟩ (.bool t.tied)) b off (f j) j) ∧ (∀ o, o < n * 6 → (((((((wr.setCell ⟨b, off + i * 6, none⟩ (.bool t.rest)).setCell ⟨b, off + i * 6 + 1, none⟩ (.int .i64 t.step)).setCell ⟨b, off + i * 6 + 2, none⟩ (.int .i64 t.alter)).setCell ⟨b, off + i * 6 + 3, none⟩ (.int .i64 t.octave)).setCell ⟨b, off + i * 6 + 4, none⟩ (.int .i64 t.ticks)).setCell ⟨b, off + i * 6 + 5, none⟩ (.bool t.tied)).cell? ⟨b, off + o, none⟩).isSome = true) ∧ (∀ o, ((((((wr.setCell ⟨b, off + i * 6, none⟩ (.bool t.rest)).setCell ⟨b, off + i * 6 + 1, none⟩ (.int .i64 t.step)).setCell ⟨b, off + i * 6 + 2, none⟩ (.int .i64 t.alter)).setCell ⟨b, off + i * 6 + 3, none⟩ (.int .i64 t.octave)).setCell ⟨b, off + i * 6 + 4, none⟩ (.int .i64 t.ticks)).setCell ⟨b, off + i * 6 + 5, none⟩ (.bool t.tied)).frozen? ⟨b, o, none⟩ = false) ∧ (∀ w, Onl b w wr → Onl b w ((((((wr.setCell ⟨b, off + i * 6, none⟩ (.bool t.rest)).setCell ⟨b, off + i * 6 + 1, none⟩ (.int .i64 t.step)).setCell ⟨b, off + i * 6 + 2, none⟩ (.int .i64 t.alter)).setCell ⟨b, off + i * 6 + 3, none⟩ (.int .i64 t.octave)).setCell ⟨b, off + i * 6 + 4, none⟩ (.int .i64 t.ticks)).setCell ⟨b, off + i * 6 + 5, none⟩ (.bool t.tied))) := by
  have ne : ∀ x y : Nat, x ≠ y → (⟨b, x, none⟩ : Addr) ≠ ⟨b, y, none⟩ := fun x y h e => h (congrArg Addr.off e)
  refine ⟨fun j hj => ?_, fun o ho => ?_, fun o => ?_, fun w h => ?_⟩
  · by_cases hjk : j < i
    · obtain ⟨d0, d1, d2, d3, d4, d5⟩ := hd j hjk
      exact ⟨keep_off (keep_off (keep_off (keep_off (keep_off (keep_off (d0) (ne _ _ (by omega))) (ne _ _ (by omega))) (ne _ _ (by omega))) (ne _ _ (by omega))) (ne _ _ (by omega))) (ne _ _ (by omega)), keep_off (keep_off (keep_off (keep_off (keep_off (keep_off (d1) (ne _ _ (by omega))) (ne _ _ (by omega))) (ne _ _ (by omega))) (ne _ _ (by omega))) (ne _ _ (by omega))) (ne _ _ (by omega)), keep_off (keep_off (keep_off (keep_off (keep_off (keep_off (d2) (ne _ _ (by omega))) (ne _ _ (by omega))) (ne _ _ (by omega))) (ne _ _ (by omega))) (ne _ _ (by omega))) (ne _ _ (by omega)), keep_off (keep_off (keep_off (keep_off (keep_off (keep_off (d3) (ne _ _ (by omega))) (ne _ _ (by omega))) (ne _ _ (by omega))) (ne _ _ (by omega))) (ne _ _ (by omega))) (ne _ _ (by omega)), keep_off (keep_off (keep_off (keep_off (keep_off (keep_off (d4) (ne _ _ (by omega))) (ne _ _ (by omega))) (ne _ _ (by omega))) (ne _ _ (by omega))) (ne _ _ (by omega))) (ne _ _ (by omega)), keep_off (keep_off (keep_off (keep_off (keep_off (keep_off (d5) (ne _ _ (by omega))) (ne _ _ (by omega))) (ne _ _ (by omega))) (ne _ _ (by omega))) (ne _ _ (by omega))) (ne _ _ (by omega))⟩
    · obtain rfl : j = i := by omega
      rw [ht]
      have hs' : ∀ r, r < 6 → (wr.cell? ⟨b, off + j * 6 + r, none⟩).isSome = true := fun r hr => by rw [Nat.add_assoc]; exact hs _ (by omega)
      exact ⟨keep_off (keep_off (keep_off (keep_off (keep_off (set_same ((by simpa using hs' 0 (by omega)))) (ne _ _ (by omega))) (ne _ _ (by omega))) (ne _ _ (by omega))) (ne _ _ (by omega))) (ne _ _ (by omega)), keep_off (keep_off (keep_off (keep_off (set_same (some_set ((by simpa using hs' 1 (by omega))) (ne _ _ (by omega)))) (ne _ _ (by omega))) (ne _ _ (by omega))) (ne _ _ (by omega))) (ne _ _ (by omega)), keep_off (keep_off (keep_off (set_same (some_set (some_set ((by simpa using hs' 2 (by omega))) (ne _ _ (by omega))) (ne _ _ (by omega)))) (ne _ _ (by omega))) (ne _ _ (by omega))) (ne _ _ (by omega)), keep_off (keep_off (set_same (some_set (some_set (some_set ((by simpa using hs' 3 (by omega))) (ne _ _ (by omega))) (ne _ _ (by omega))) (ne _ _ (by omega)))) (ne _ _ (by omega))) (ne _ _ (by omega)), keep_off (set_same (some_set (some_set (some_set (some_set ((by simpa using hs' 4 (by omega))) (ne _ _ (by omega))) (ne _ _ (by omega))) (ne _ _ (by omega))) (ne _ _ (by omega)))) (ne _ _ (by omega)), set_same (some_set (some_set (some_set (some_set (some_set ((by simpa using hs' 5 (by omega))) (ne _ _ (by omega))) (ne _ _ (by omega))) (ne _ _ (by omega))) (ne _ _ (by omega))) (ne _ _ (by omega)))⟩
  · exact some_setx (some_setx (some_setx (some_setx (some_setx (some_setx (hs o ho))))))
  · exact fz_set (fz_set (fz_set (fz_set (fz_set (fz_set (hf o))))))
  · exact (((((h.trans (Onl.set _ _ _)).trans (Onl.set _ _ _)).trans (Onl.set _ _ _)).trans (Onl.set _ _ _)).trans (Onl.set _ _ _)).trans (Onl.set _ _ _)
/-- a slice that lies in one block of its own, from lo on and below hi -/
structure SLNt (w : World) (lo hi : Nat) (A : Option Addr) (l : List Nt) : Prop where
  top : hi ≤ w.heap.size
  at' : 0 < l.length → ∃ b off, A = some ⟨b, off, none⟩ ∧ lo ≤ b ∧ b < hi ∧ (∀ o, w.frozen? ⟨b, o, none⟩ = false) ∧ ∀ i, i < l.length → CMNt w b off (atNt l i) i
theorem SLNt.of {w : World} {lo : Nat} {A : Option Addr} {l : List Nt} (r : RowNt w w.heap.size A l) (o : OwnNt w lo A l.length) : SLNt w lo w.heap.size A l :=
  ⟨Nat.le_refl _, fun hl => by
    obtain ⟨b, off, e, hb, hc⟩ := r hl
    obtain ⟨b', off', e', hb', hf⟩ := o hl
    rw [e] at e'
    simp only [Option.some.injEq, Addr.mk.injEq, and_true] at e'
    exact ⟨b, off, e, by omega, hb, fun o => by rw [e'.1]; exact hf o, hc⟩⟩
theorem SLNt.row {w : World} {lo hi : Nat} {A : Option Addr} {l : List Nt} (h : SLNt w lo hi A l) : RowNt w w.heap.size A l := fun hl => by
  obtain ⟨b, off, e, _, hb, _, hc⟩ := h.at' hl
  exact ⟨b, off, e, Nat.lt_of_lt_of_le hb h.top, hc⟩
theorem SLNt.own {w : World} {lo hi : Nat} {A : Option Addr} {l : List Nt} (h : SLNt w lo hi A l) : OwnNt w lo A l.length := fun hl => by
  obtain ⟨b, off, e, hb, _, hf, _⟩ := h.at' hl
  exact ⟨b, off, e, hb, hf⟩
theorem SLNt.place {w : World} {lo hi : Nat} {A : Option Addr} {l : List Nt} (h : SLNt w lo hi A l) {a : Addr} (hl : 0 < l.length) (ha : A = some a) : lo ≤ a.block ∧ a.block < hi := by
  obtain ⟨b, off, e, h1, h2, _⟩ := h.at' hl
  rw [e] at ha; cases ha; exact ⟨h1, h2⟩
theorem SLNt.keep {w w' : World} {lo hi : Nat} {A : Option Addr} {l : List Nt} (h : SLNt w lo hi A l) (hs : w.heap.size ≤ w'.heap.size) (hb : ∀ i, i < w.heap.size → lo ≤ i → i < hi → w'.heap[i]? = w.heap[i]?) : SLNt w' lo hi A l :=
  ⟨Nat.le_trans h.top hs, fun hl => by
    obtain ⟨b, off, e, h1, h2, hf, hc⟩ := h.at' hl
    have hbb := hb b (Nat.lt_of_lt_of_le h2 h.top) h1 h2
    refine ⟨b, off, e, h1, h2, fun o => by rw [World.frozen?_of_block (w := w) (a := ⟨b, o, none⟩) hbb]; exact hf o, fun i hi => ?_⟩
    have hk : ∀ o, w'.cell? ⟨b, o, none⟩ = w.cell? ⟨b, o, none⟩ := fun o => World.cell?_of_block (w := w) (a := ⟨b, o, none⟩) hbb
    unfold CMNt
    simp only [hk]
    exact hc i hi⟩
theorem SLNt.below {w w' : World} {lo hi : Nat} {A : Option Addr} {l : List Nt} (h : SLNt w lo hi A l) (hb : Below w.heap.size w w') : SLNt w' lo hi A l := h.keep hb.size fun i hi _ _ => hb.block i hi
theorem SLNt.trn {w w' : World} {lo hi n : Nat} {A B : Option Addr} {l : List Nt} (h : SLNt w lo hi A l) (t : Trn B n w w') (hne : ∀ a : Addr, 0 < n → B = some a → a.block < lo ∨ hi ≤ a.block) : SLNt w' lo hi A l :=
  h.keep (by rw [t.size]; exact Nat.le_refl _) fun i hi h1 h2 => t.block i hi fun hn a ha => by have := hne a hn ha; omega
theorem RowNt.trn {w w' : World} {B n : Nat} {A A' : Option Addr} {l : List Nt} (h : RowNt w B A l) (t : Trn A' n w w') (hne : ∀ a : Addr, 0 < n → A' = some a → B ≤ a.block) (hB : B ≤ w.heap.size) : RowNt w' B A l :=
  h.keep (Nat.le_refl _) fun b o hb => World.cell?_of_block (w := w) (a := ⟨b, o, none⟩) (t.block b (by omega) fun hn a ha => by have := hne a hn ha; omega)
theorem RowNt.bel {w w' : World} {B : Nat} {A : Option Addr} {l : List Nt} (h : RowNt w B A l) (hb : Below w.heap.size w w') (hB : B ≤ w.heap.size) : RowNt w' B A l :=
  h.keep (Nat.le_refl _) fun b o hh => hb.cell (p := ⟨b, o, none⟩) (by simp only; omega)
theorem RowNt.up {w : World} {B B' : Nat} {A : Option Addr} {l : List Nt} (h : RowNt w B A l) (hB : B ≤ B') : RowNt w B' A l := h.keep hB fun _ _ _ => rfl
end Go.Proofs.Ytacbkmahofmbcaa
