/- Rows of Pitch: how a slice of them reads; the functions that copy, compare and count them. -/
import Derived.Test.YtdmidimjbhkjoaaBa
import Derived.Laws.MakeOwn
import Derived.Deep.RegionHeld3
namespace Go.Proofs.Ytdmidimjbhkjoaa
set_option linter.unusedSimpArgs false
set_option linter.unusedVariables false
open Go.RowKit

structure Pi where
  step : Int
  alter : Int
  octave : Int

def atPi (l : List Pi) (i : Nat) : Pi := l.getD i ⟨0, 0, 0⟩
/-- the slice at address A reads as the list l, all below block B -/
def RowPi (w : World) (B : Nat) (A : Option Addr) (l : List Pi) : Prop :=
  0 < l.length → ∃ b off, A = some ⟨b, off, none⟩ ∧ b < B ∧ ∀ i, i < l.length → w.cell? ⟨b, off + i * 3, none⟩ = some (.int .i64 (atPi l i).step) ∧ w.cell? ⟨b, off + i * 3 + 1, none⟩ = some (.int .i64 (atPi l i).alter) ∧ w.cell? ⟨b, off + i * 3 + 2, none⟩ = some (.int .i64 (atPi l i).octave)
/-- the first n places of the slice may be written, and lie from block lo on -/
def OwnPi (w : World) (lo : Nat) (A : Option Addr) (n : Nat) : Prop :=
  0 < n → ∃ b off, A = some ⟨b, off, none⟩ ∧ lo ≤ b ∧ ∀ o, w.frozen? ⟨b, o, none⟩ = false
theorem RowPi.keep {w w' : World} {B B' : Nat} {A : Option Addr} {l : List Pi} (h : RowPi w B A l) (hB : B ≤ B') (hk : ∀ b o, b < B → w'.cell? ⟨b, o, none⟩ = w.cell? ⟨b, o, none⟩) : RowPi w' B' A l := by
  intro hl
  obtain ⟨b, off, e, hb, hc⟩ := h hl
  refine ⟨b, off, e, by omega, fun i hi => ?_⟩
  simp only [hk _ _ hb]
  exact hc i hi
theorem RowPi.below {w w' : World} {A : Option Addr} {l : List Pi} (h : RowPi w w.heap.size A l) (hb : Below w.heap.size w w') : RowPi w' w'.heap.size A l :=
  h.keep hb.size fun b o hh => hb.cell (p := ⟨b, o, none⟩) hh
theorem OwnPi.below {w w' : World} {A : Option Addr} {lo : Nat} {l : List Pi} (h : OwnPi w lo A l.length) (hr : RowPi w w.heap.size A l) (hb : Below w.heap.size w w') : OwnPi w' lo A l.length := by
  intro hl
  obtain ⟨b, off, e, h1, h2⟩ := h hl
  obtain ⟨b', off', e', h3, _⟩ := hr hl
  rw [e] at e'
  simp only [Option.some.injEq, Addr.mk.injEq, and_true] at e'
  exact ⟨b, off, e, h1, fun o => by rw [hb.frozen (p := ⟨b, o, none⟩) (by simp only; omega)]; exact h2 o⟩

theorem stepPi (wr : World) (g k : Nat) (l : List Pi) (t : Pi) (ht : atPi l k = t) (hlt : k < l.length) (hd : ∀ j, j < k → wr.cell? ⟨g, 0 + j * 3, none⟩ = some (.int .i64 (atPi l j).step) ∧ wr.cell? ⟨g, 0 + j * 3 + 1, none⟩ = some (.int .i64 (atPi l j).alter) ∧ wr.cell? ⟨g, 0 + j * 3 + 2, none⟩ = some (.int .i64 (atPi l j).octave)) (hs : ∀ o, o < l.length * 3 → (wr.cell? ⟨g, o, none⟩).isSome = true) (hf : ∀ o, wr.frozen? ⟨g, o, none⟩ = false) :
    (∀ j, j < k + 1 → ((((wr.setCell ⟨g, k * 3, none⟩ (.int .i64 t.step)).setCell ⟨g, k * 3 + 1, none⟩ (.int .i64 t.alter)).setCell ⟨g, k * 3 + 2, none⟩ (.int .i64 t.octave))).cell? ⟨g, 0 + j * 3, none⟩ = some (.int .i64 (atPi l j).step) ∧ ((((wr.setCell ⟨g, k * 3, none⟩ (.int .i64 t.step)).setCell ⟨g, k * 3 + 1, none⟩ (.int .i64 t.alter)).setCell ⟨g, k * 3 + 2, none⟩ (.int .i64 t.octave))).cell? ⟨g, 0 + j * 3 + 1, none⟩ = some (.int .i64 (atPi l j).alter) ∧ ((((wr.setCell ⟨g, k * 3, none⟩ (.int .i64 t.step)).setCell ⟨g, k * 3 + 1, none⟩ (.int .i64 t.alter)).setCell ⟨g, k * 3 + 2, none⟩ (.int .i64 t.octave))).cell? ⟨g, 0 + j * 3 + 2, none⟩ = some (.int .i64 (atPi l j).octave)) ∧ (∀ o, o < l.length * 3 → ((((wr.setCell ⟨g, k * 3, none⟩ (.int .i64 t.step)).setCell ⟨g, k * 3 + 1, none⟩ (.int .i64 t.alter)).setCell ⟨g, k * 3 + 2, none⟩ (.int .i64 t.octave)).cell? ⟨g, o, none⟩).isSome = true) ∧ (∀ o, (((wr.setCell ⟨g, k * 3, none⟩ (.int .i64 t.step)).setCell ⟨g, k * 3 + 1, none⟩ (.int .i64 t.alter)).setCell ⟨g, k * 3 + 2, none⟩ (.int .i64 t.octave)).frozen? ⟨g, o, none⟩ = false) := by
  have ne : ∀ a b : Nat, a ≠ b → (⟨g, a, none⟩ : Addr) ≠ ⟨g, b, none⟩ := fun a b h e => h (congrArg Addr.off e)
  refine ⟨fun j hj => ?_, fun o ho => ?_, fun o => ?_⟩
  · simp only [Nat.zero_add] at hd ⊢
    by_cases hjk : j < k
    · obtain ⟨d0, d1, d2⟩ := hd j hjk
      exact ⟨keep_off (keep_off (keep_off (d0) (ne _ _ (by omega))) (ne _ _ (by omega))) (ne _ _ (by omega)), keep_off (keep_off (keep_off (d1) (ne _ _ (by omega))) (ne _ _ (by omega))) (ne _ _ (by omega)), keep_off (keep_off (keep_off (d2) (ne _ _ (by omega))) (ne _ _ (by omega))) (ne _ _ (by omega))⟩
    · obtain rfl : j = k := by omega
      rw [ht]
      exact ⟨keep_off (keep_off (set_same (hs _ (by omega))) (ne _ _ (by omega))) (ne _ _ (by omega)), keep_off (set_same (some_set (hs _ (by omega)) (ne _ _ (by omega)))) (ne _ _ (by omega)), set_same (some_set (some_set (hs _ (by omega)) (ne _ _ (by omega))) (ne _ _ (by omega)))⟩
  · exact some_setx (some_setx (some_setx (hs o ho)))
  · exact fz_set (fz_set (fz_set (hf o)))
theorem infoPi : (Try.prog.info? 30).map (fun i => (i.zero, i.size, i.bytes)) = some (some (.agg #[.int .i64 0, .int .i64 0, .int .i64 0]), 3, 24) := by kernel_rfl
def ToPi (w : World) (l : List Pi) (e : Ending) (w' : World) : Prop :=
  ∃ A, e = .returned (.slice A l.length l.length) ∧ RowPi w' w'.heap.size A l ∧ OwnPi w' w.heap.size A l.length ∧ Below w.heap.size w w'
theorem run_makePi (n : Nat) (h : n ≤ 2000000) (w : World) :
    (Instr.makeSlice 23 (.int .i64 (n : Int)) (.int .i64 (n : Int))).run Try.prog w = .ok (.slice (some ⟨w.heap.size, 0, none⟩) n n) (w.alloc (.cells (madeCells #[.int .i64 0, .int .i64 0, .int .i64 0] (n * 3)) 30)) := by
  obtain ⟨i, hi, hz, hs, hb⟩ := info_parts infoPi
  have hr := run_make (P := Try.prog) w 23 30 i _ Try.underlying23 hi hz .i64 .i64 n n (by omega) (by omega) (by rw [hb]; omega) (by omega)
  simp only [Int.toNat_natCast, hs] at hr
  exact hr
end Go.Proofs.Ytdmidimjbhkjoaa
