/- Rows of Nt: how a slice of them reads; one that the call itself has grown. -/
import Derived.Test.YtaieamobjbckdaaOwn
namespace Go.Proofs.Ytaieamobjbckdaa
set_option linter.unusedSimpArgs false
set_option linter.unusedVariables false
open Go.RowKit

@[ext] structure Nt where
  rest : Bool
  step : Int
  alter : Int
  octave : Int
  ticks : Int
  tied : Bool
deriving DecidableEq
def atNt (l : List Nt) (i : Nat) : Nt := l.getD i ⟨false, 0, 0, 0, 0, false⟩
def csNt (t : Nt) : List Value := [.bool t.rest, .int .i64 t.step, .int .i64 t.alter, .int .i64 t.octave, .int .i64 t.ticks, .bool t.tied]
theorem csNt_len (t : Nt) : (csNt t).length = 6 := rfl
/-- the slice at address A reads as the list l, all below block B -/
def RowNt (w : World) (B : Nat) (A : Option Addr) (l : List Nt) : Prop :=
  0 < l.length → ∃ b off, A = some ⟨b, off, none⟩ ∧ b < B ∧ ∀ i, i < l.length → w.cell? ⟨b, off + i * 6, none⟩ = some (.bool (atNt l i).rest) ∧ w.cell? ⟨b, off + i * 6 + 1, none⟩ = some (.int .i64 (atNt l i).step) ∧ w.cell? ⟨b, off + i * 6 + 2, none⟩ = some (.int .i64 (atNt l i).alter) ∧ w.cell? ⟨b, off + i * 6 + 3, none⟩ = some (.int .i64 (atNt l i).octave) ∧ w.cell? ⟨b, off + i * 6 + 4, none⟩ = some (.int .i64 (atNt l i).ticks) ∧ w.cell? ⟨b, off + i * 6 + 5, none⟩ = some (.bool (atNt l i).tied)
/-- the first n places of the slice may be written, and lie from block lo on -/
def OwnNt (w : World) (lo : Nat) (A : Option Addr) (n : Nat) : Prop :=
  0 < n → ∃ b off, A = some ⟨b, off, none⟩ ∧ lo ≤ b ∧ ∀ o, w.frozen? ⟨b, o, none⟩ = false
theorem RowNt.keep {w w' : World} {B B' : Nat} {A : Option Addr} {l : List Nt} (h : RowNt w B A l) (hB : B ≤ B') (hk : ∀ b o, b < B → w'.cell? ⟨b, o, none⟩ = w.cell? ⟨b, o, none⟩) : RowNt w' B' A l := by
  intro hl
  obtain ⟨b, off, e, hb, hc⟩ := h hl
  refine ⟨b, off, e, by omega, fun i hi => ?_⟩
  simp only [hk _ _ hb]
  exact hc i hi
theorem RowNt.below {w w' : World} {A : Option Addr} {l : List Nt} (h : RowNt w w.heap.size A l) (hb : Below w.heap.size w w') : RowNt w' w'.heap.size A l :=
  h.keep hb.size fun b o hh => hb.cell (p := ⟨b, o, none⟩) hh
theorem OwnNt.below {w w' : World} {A : Option Addr} {lo : Nat} {l : List Nt} (h : OwnNt w lo A l.length) (hr : RowNt w w.heap.size A l) (hb : Below w.heap.size w w') : OwnNt w' lo A l.length := by
  intro hl
  obtain ⟨b, off, e, h1, h2⟩ := h hl
  obtain ⟨b', off', e', h3, _⟩ := hr hl
  rw [e] at e'
  simp only [Option.some.injEq, Addr.mk.injEq, and_true] at e'
  exact ⟨b, off, e, h1, fun o => by rw [hb.frozen (p := ⟨b, o, none⟩) (by simp only; omega)]; exact h2 o⟩
theorem RowNt.nil (w : World) (B : Nat) (A : Option Addr) {l : List Nt} (h : l.length = 0) : RowNt w B A l := fun hl => by omega
theorem own_rowNt {w' : World} {base : Nat} {e : TypeId} {v : Value} {l : List Nt} (h : w'.ownsRow base e 6 v l.length (flat csNt l)) :
    ∃ A cap, v = .slice A l.length cap ∧ l.length ≤ cap ∧ cap ≤ maxLen ∧ RowNt w' w'.heap.size A l ∧ OwnNt w' base A l.length := by
  obtain ⟨A, cap, rfl, h1, h2, h3⟩ := own_open csNt_len ⟨false, 0, 0, 0, 0, false⟩ h
  refine ⟨A, cap, rfl, h1, h2, fun hl => ?_, fun hl => ?_⟩
  · obtain ⟨g, rfl, hb, hg, _, hc⟩ := h3 hl
    exact ⟨g, 0, rfl, hg, fun i hi => ⟨by simpa [csNt, atNt] using hc i 0 hi (by omega), by simpa [csNt, atNt] using hc i 1 hi (by omega), by simpa [csNt, atNt] using hc i 2 hi (by omega), by simpa [csNt, atNt] using hc i 3 hi (by omega), by simpa [csNt, atNt] using hc i 4 hi (by omega), by simpa [csNt, atNt] using hc i 5 hi (by omega)⟩⟩
  · obtain ⟨g, rfl, hb, hg, hf, _⟩ := h3 hl
    exact ⟨g, 0, rfl, hb, hf⟩
end Go.Proofs.Ytaieamobjbckdaa
