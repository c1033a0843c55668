/- What the laws on ratios draw. -/
import Derived.Test.YtgjjoaffmflbgaaDr
import Derived.Test.YtgjjoaffmflbgaaAlive
namespace Go.Proofs.Ytgjjoaffmflbgaa
set_option linter.unusedSimpArgs false
set_option linter.unusedVariables false
open Go.RowKit

def Bd (n d : Int) : Prop := -2000001 ≤ n ∧ n ≤ 2000001 ∧ -2000001 ≤ d ∧ d ≤ 2000001
def Dr1 (w : World) (e : Ending) (w' : World) : Prop := ∃ n d : Int, e = .returned (.agg #[.int .i64 n, .int .i64 d]) ∧ Bd n d ∧ Below w.heap.size w w'
def Dr2 (w : World) (e : Ending) (w' : World) : Prop := ∃ a b c d : Int, e = .returned (.tuple #[.agg #[.int .i64 a, .int .i64 b], .agg #[.int .i64 c, .int .i64 d]]) ∧ Bd a b ∧ Bd c d ∧ Below w.heap.size w w'
def DrI (lo hi : Int) (w : World) (e : Ending) (w' : World) : Prop := ∃ x : Int, e = .returned (.int .i64 x) ∧ lo ≤ x ∧ x ≤ hi ∧ Below w.heap.size w w'

set_option maxHeartbeats 400000 in
theorem DrawRatioTimes_any (w : World) (A : Option Addr) (len cap : Nat) (h : Cod w A len cap) : Calls Try.prog 18 #[.slice A len cap] w (Dr2 w) := by
  go_enter Try.func18, Try.ntmps18
  go_wp2_with fail
  refine (open_eq _ A len cap h.lc h.cm).mono ?_
  rintro e1 w1 ⟨rfl, rfl⟩
  go_wp2_with fail
  have hr := h.rd (bel_al (bel_al (bel_refl w) (.cells #[.int .i64 0, .int .i64 0] 39)) (.cells #[.int .i64 0, .int .i64 0] 39))
  simp only [World.size_alloc] at hr
  refine (ratio_any _ _ _ 0 A _ _ _ hr (by omega)).mono ?_
  rintro e w1 ⟨n, d, rfl, nd, ob, p', hp', r⟩
  go_wp2_with fail
  refine (ratio_any _ _ _ p' A _ _ _ r (by omega)).mono ?_
  rintro e w2 ⟨n2, d2, rfl, nd2, ob2, p2, hp2, r2⟩
  have oo := ob.trans ob2
  have s1 := oo.size
  simp at s1
  have c0 : w2.cell? ⟨w.heap.size, 0, none⟩ = some (.int .i64 0) := (oo.cell w.heap.size 0 (by simp <;> omega) (by omega)).trans (keep_al (by simp [go_sem]) _)
  have f0 : w2.frozen? ⟨w.heap.size, 0, none⟩ = false := (oo.frozen w.heap.size 0 (by simp <;> omega) (by omega)).trans (fz_al (by simp [go_sem]) (by simp <;> omega) _)
  have c1 : w2.cell? ⟨w.heap.size, 1, none⟩ = some (.int .i64 0) := (oo.cell w.heap.size 1 (by simp <;> omega) (by omega)).trans (keep_al (by simp [go_sem]) _)
  have f1 : w2.frozen? ⟨w.heap.size, 1, none⟩ = false := (oo.frozen w.heap.size 1 (by simp <;> omega) (by omega)).trans (fz_al (by simp [go_sem]) (by simp <;> omega) _)
  have c2 : w2.cell? ⟨(w.heap.size + 1), 0, none⟩ = some (.int .i64 0) := (oo.cell (w.heap.size + 1) 0 (by simp <;> omega) (by omega)).trans (keep_al (by simp [go_sem]) _)
  have f2 : w2.frozen? ⟨(w.heap.size + 1), 0, none⟩ = false := (oo.frozen (w.heap.size + 1) 0 (by simp <;> omega) (by omega)).trans (fz_al (by simp [go_sem]) (by simp <;> omega) _)
  have c3 : w2.cell? ⟨(w.heap.size + 1), 1, none⟩ = some (.int .i64 0) := (oo.cell (w.heap.size + 1) 1 (by simp <;> omega) (by omega)).trans (keep_al (by simp [go_sem]) _)
  have f3 : w2.frozen? ⟨(w.heap.size + 1), 1, none⟩ = false := (oo.frozen (w.heap.size + 1) 1 (by simp <;> omega) (by omega)).trans (fz_al (by simp [go_sem]) (by simp <;> omega) _)
  have bl := oo.below (B := w.heap.size) (by omega) (by simp <;> omega)
  clear ob ob2 oo r r2 hr
  go_wp2
  exact bodyPost_ret (v := .tuple #[.agg #[.int .i64 n, .int .i64 d], .agg #[.int .i64 n2, .int .i64 d2]]) (by simp [results, Try.results18, go_sem, c0, c1, c2, c3]) rfl ⟨n, d, n2, d2, rfl, nd, nd2, (((((bel_al (bel_al (bel_al (bel_refl w) _) _) _).trans bl).setCell (by simp) _).setCell (by simp) _).setCell (by simp) _).setCell (by simp) _⟩

end Go.Proofs.Ytgjjoaffmflbgaa
