/- Rows of Event: how a slice of them reads; the functions that copy, compare and count them. -/
import Derived.Test.YtaieamobjbckdaaBel
import Derived.Test.YtaieamobjbckdaaWin
import Derived.Laws.MakeOwn
import Derived.Deep.RegionHeld3
namespace Go.Proofs.Ytaieamobjbckdaa
set_option linter.unusedSimpArgs false
set_option linter.unusedVariables false
open Go.RowKit

structure Ev where
  on : Int
  off : Int
  key : Int
  loud : Int

def atEv (l : List Ev) (i : Nat) : Ev := l.getD i ⟨0, 0, 0, 0⟩
/-- the slice at address A reads as the list l, all below block B -/
def RowEv (w : World) (B : Nat) (A : Option Addr) (l : List Ev) : Prop :=
  0 < l.length → ∃ b off, A = some ⟨b, off, none⟩ ∧ b < B ∧ ∀ i, i < l.length → w.cell? ⟨b, off + i * 4, none⟩ = some (.int .i64 (atEv l i).on) ∧ w.cell? ⟨b, off + i * 4 + 1, none⟩ = some (.int .i64 (atEv l i).off) ∧ w.cell? ⟨b, off + i * 4 + 2, none⟩ = some (.int .i64 (atEv l i).key) ∧ w.cell? ⟨b, off + i * 4 + 3, none⟩ = some (.int .i64 (atEv l i).loud)
/-- the first n places of the slice may be written, and lie from block lo on -/
def OwnEv (w : World) (lo : Nat) (A : Option Addr) (n : Nat) : Prop :=
  0 < n → ∃ b off, A = some ⟨b, off, none⟩ ∧ lo ≤ b ∧ ∀ o, w.frozen? ⟨b, o, none⟩ = false
theorem RowEv.keep {w w' : World} {B B' : Nat} {A : Option Addr} {l : List Ev} (h : RowEv w B A l) (hB : B ≤ B') (hk : ∀ b o, b < B → w'.cell? ⟨b, o, none⟩ = w.cell? ⟨b, o, none⟩) : RowEv w' B' A l := by
  intro hl
  obtain ⟨b, off, e, hb, hc⟩ := h hl
  refine ⟨b, off, e, by omega, fun i hi => ?_⟩
  simp only [hk _ _ hb]
  exact hc i hi
theorem RowEv.below {w w' : World} {A : Option Addr} {l : List Ev} (h : RowEv w w.heap.size A l) (hb : Below w.heap.size w w') : RowEv w' w'.heap.size A l :=
  h.keep hb.size fun b o hh => hb.cell (p := ⟨b, o, none⟩) hh
theorem OwnEv.below {w w' : World} {A : Option Addr} {lo : Nat} {l : List Ev} (h : OwnEv w lo A l.length) (hr : RowEv w w.heap.size A l) (hb : Below w.heap.size w w') : OwnEv w' lo A l.length := by
  intro hl
  obtain ⟨b, off, e, h1, h2⟩ := h hl
  obtain ⟨b', off', e', h3, _⟩ := hr hl
  rw [e] at e'
  simp only [Option.some.injEq, Addr.mk.injEq, and_true] at e'
  exact ⟨b, off, e, h1, fun o => by rw [hb.frozen (p := ⟨b, o, none⟩) (by simp only; omega)]; exact h2 o⟩

theorem stepEv (wr : World) (g k : Nat) (l : List Ev) (t : Ev) (ht : atEv l k = t) (hlt : k < l.length) (hd : ∀ j, j < k → wr.cell? ⟨g, 0 + j * 4, none⟩ = some (.int .i64 (atEv l j).on) ∧ wr.cell? ⟨g, 0 + j * 4 + 1, none⟩ = some (.int .i64 (atEv l j).off) ∧ wr.cell? ⟨g, 0 + j * 4 + 2, none⟩ = some (.int .i64 (atEv l j).key) ∧ wr.cell? ⟨g, 0 + j * 4 + 3, none⟩ = some (.int .i64 (atEv l j).loud)) (hs : ∀ o, o < l.length * 4 → (wr.cell? ⟨g, o, none⟩).isSome = true) (hf : ∀ o, wr.frozen? ⟨g, o, none⟩ = false) :
    (∀ j, j < k + 1 → (((((wr.setCell ⟨g, k * 4, none⟩ (.int .i64 t.on)).setCell ⟨g, k * 4 + 1, none⟩ (.int .i64 t.off)).setCell ⟨g, k * 4 + 2, none⟩ (.int .i64 t.key)).setCell ⟨g, k * 4 + 3, none⟩ (.int .i64 t.loud))).cell? ⟨g, 0 + j * 4, none⟩ = some (.int .i64 (atEv l j).on) ∧ (((((wr.setCell ⟨g, k * 4, none⟩ (.int .i64 t.on)).setCell ⟨g, k * 4 + 1, none⟩ (.int .i64 t.off)).setCell ⟨g, k * 4 + 2, none⟩ (.int .i64 t.key)).setCell ⟨g, k * 4 + 3, none⟩ (.int .i64 t.loud))).cell? ⟨g, 0 + j * 4 + 1, none⟩ = some (.int .i64 (atEv l j).off) ∧ (((((wr.setCell ⟨g, k * 4, none⟩ (.int .i64 t.on)).setCell ⟨g, k * 4 + 1, none⟩ (.int .i64 t.off)).setCell ⟨g, k * 4 + 2, none⟩ (.int .i64 t.key)).setCell ⟨g, k * 4 + 3, none⟩ (.int .i64 t.loud))).cell? ⟨g, 0 + j * 4 + 2, none⟩ = some (.int .i64 (atEv l j).key) ∧ (((((wr.setCell ⟨g, k * 4, none⟩ (.int .i64 t.on)).setCell ⟨g, k * 4 + 1, none⟩ (.int .i64 t.off)).setCell ⟨g, k * 4 + 2, none⟩ (.int .i64 t.key)).setCell ⟨g, k * 4 + 3, none⟩ (.int .i64 t.loud))).cell? ⟨g, 0 + j * 4 + 3, none⟩ = some (.int .i64 (atEv l j).loud)) ∧ (∀ o, o < l.length * 4 → (((((wr.setCell ⟨g, k * 4, none⟩ (.int .i64 t.on)).setCell ⟨g, k * 4 + 1, none⟩ (.int .i64 t.off)).setCell ⟨g, k * 4 + 2, none⟩ (.int .i64 t.key)).setCell ⟨g, k * 4 + 3, none⟩ (.int .i64 t.loud)).cell? ⟨g, o, none⟩).isSome = true) ∧ (∀ o, ((((wr.setCell ⟨g, k * 4, none⟩ (.int .i64 t.on)).setCell ⟨g, k * 4 + 1, none⟩ (.int .i64 t.off)).setCell ⟨g, k * 4 + 2, none⟩ (.int .i64 t.key)).setCell ⟨g, k * 4 + 3, none⟩ (.int .i64 t.loud)).frozen? ⟨g, o, none⟩ = false) := by
  have ne : ∀ a b : Nat, a ≠ b → (⟨g, a, none⟩ : Addr) ≠ ⟨g, b, none⟩ := fun a b h e => h (congrArg Addr.off e)
  refine ⟨fun j hj => ?_, fun o ho => ?_, fun o => ?_⟩
  · simp only [Nat.zero_add] at hd ⊢
    by_cases hjk : j < k
    · obtain ⟨d0, d1, d2, d3⟩ := hd j hjk
      exact ⟨keep_off (keep_off (keep_off (keep_off (d0) (ne _ _ (by omega))) (ne _ _ (by omega))) (ne _ _ (by omega))) (ne _ _ (by omega)), keep_off (keep_off (keep_off (keep_off (d1) (ne _ _ (by omega))) (ne _ _ (by omega))) (ne _ _ (by omega))) (ne _ _ (by omega)), keep_off (keep_off (keep_off (keep_off (d2) (ne _ _ (by omega))) (ne _ _ (by omega))) (ne _ _ (by omega))) (ne _ _ (by omega)), keep_off (keep_off (keep_off (keep_off (d3) (ne _ _ (by omega))) (ne _ _ (by omega))) (ne _ _ (by omega))) (ne _ _ (by omega))⟩
    · obtain rfl : j = k := by omega
      rw [ht]
      exact ⟨keep_off (keep_off (keep_off (set_same (hs _ (by omega))) (ne _ _ (by omega))) (ne _ _ (by omega))) (ne _ _ (by omega)), keep_off (keep_off (set_same (some_set (hs _ (by omega)) (ne _ _ (by omega)))) (ne _ _ (by omega))) (ne _ _ (by omega)), keep_off (set_same (some_set (some_set (hs _ (by omega)) (ne _ _ (by omega))) (ne _ _ (by omega)))) (ne _ _ (by omega)), set_same (some_set (some_set (some_set (hs _ (by omega)) (ne _ _ (by omega))) (ne _ _ (by omega))) (ne _ _ (by omega)))⟩
  · exact some_setx (some_setx (some_setx (some_setx (hs o ho))))
  · exact fz_set (fz_set (fz_set (fz_set (hf o))))
theorem infoEv : (Try.prog.info? 28).map (fun i => (i.zero, i.size, i.bytes)) = some (some (.agg #[.int .i64 0, .int .i64 0, .int .i64 0, .int .i64 0]), 4, 32) := by kernel_rfl
def ToEv (w : World) (l : List Ev) (e : Ending) (w' : World) : Prop :=
  ∃ A, e = .returned (.slice A l.length l.length) ∧ RowEv w' w'.heap.size A l ∧ OwnEv w' w.heap.size A l.length ∧ Below w.heap.size w w'
theorem run_makeEv (n : Nat) (h : n ≤ 2000000) (w : World) :
    (Instr.makeSlice 23 (.int .i64 (n : Int)) (.int .i64 (n : Int))).run Try.prog w = .ok (.slice (some ⟨w.heap.size, 0, none⟩) n n) (w.alloc (.cells (madeCells #[.int .i64 0, .int .i64 0, .int .i64 0, .int .i64 0] (n * 4)) 28)) := by
  obtain ⟨i, hi, hz, hs, hb⟩ := info_parts infoEv
  have hr := run_make (P := Try.prog) w 23 28 i _ Try.underlying23 hi hz .i64 .i64 n n (by omega) (by omega) (by rw [hb]; omega) (by omega)
  simp only [Int.toNat_natCast, hs] at hr
  exact hr
end Go.Proofs.Ytaieamobjbckdaa
