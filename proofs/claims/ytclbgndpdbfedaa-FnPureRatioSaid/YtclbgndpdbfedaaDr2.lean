/- What the laws on ratios draw. -/
import Derived.Test.YtclbgndpdbfedaaDr
import Derived.Test.YtclbgndpdbfedaaAlive
namespace Go.Proofs.Ytclbgndpdbfedaa
open Go.RowKit

def Bd (n d : Int) : Prop := -2000001 ≤ n ∧ n ≤ 2000001 ∧ -2000001 ≤ d ∧ d ≤ 2000001
def Dr1 (w : World) (e : Ending) (w' : World) : Prop := ∃ n d : Int, e = .returned (.agg #[.int .i64 n, .int .i64 d]) ∧ Bd n d ∧ Below w.heap.size w w'
def Dr2 (w : World) (e : Ending) (w' : World) : Prop := ∃ a b c d : Int, e = .returned (.tuple #[.agg #[.int .i64 a, .int .i64 b], .agg #[.int .i64 c, .int .i64 d]]) ∧ Bd a b ∧ Bd c d ∧ Below w.heap.size w w'
def DrI (lo hi : Int) (w : World) (e : Ending) (w' : World) : Prop := ∃ x : Int, e = .returned (.int .i64 x) ∧ lo ≤ x ∧ x ≤ hi ∧ Below w.heap.size w w'

set_option maxHeartbeats 400000 in
theorem DrawRatioValid_any (w : World) (A : Option Addr) (len cap : Nat) (h : Cod w A len cap) : Calls Try.prog 32 #[.slice A len cap] w (Dr1 w) := by
  go_enter Try.func32, Try.ntmps32
  go_wp2_with fail
  refine (open_eq _ A len cap h.lc h.cm).mono ?_
  rintro e1 w1 ⟨rfl, rfl⟩
  go_wp2_with fail
  have hr := h.rd (bel_al (bel_refl w) (.cells #[.int .i64 0, .int .i64 0] 25))
  simp only [World.size_alloc] at hr
  refine (ratio_any _ _ _ 0 A _ _ _ hr (by omega)).mono ?_
  rintro e w1 ⟨n, d, rfl, nd, ob, p', hp', r⟩
  have s1 := ob.size
  simp at s1
  have c0 := ob.cell w.heap.size 0 (by simp <;> omega) (by omega)
  have c1 := ob.cell w.heap.size 1 (by simp <;> omega) (by omega)
  have f0 := ob.frozen w.heap.size 0 (by simp <;> omega) (by omega)
  have f1 := ob.frozen w.heap.size 1 (by simp <;> omega) (by omega)
  simp at c0 c1 f0 f1
  have bl := ob.below (B := w.heap.size) (by omega) (by simp <;> omega)
  go_wp2
  exact bodyPost_ret (v := .agg #[.int .i64 n, .int .i64 d]) (by simp [results, Try.results32, go_sem, c0, c1]) rfl ⟨n, d, rfl, nd, (((bel_al (bel_al (bel_refl w) _) _).trans bl).setCell (by simp) _).setCell (by simp) _⟩

set_option maxHeartbeats 400000 in
theorem DrawRatioBack_any (w : World) (A : Option Addr) (len cap : Nat) (h : Cod w A len cap) : Calls Try.prog 34 #[.slice A len cap] w (Dr1 w) := by
  go_enter Try.func34, Try.ntmps34
  go_wp2_with fail
  refine (open_eq _ A len cap h.lc h.cm).mono ?_
  rintro e1 w1 ⟨rfl, rfl⟩
  go_wp2_with fail
  have hr := h.rd (bel_al (bel_refl w) (.cells #[.int .i64 0, .int .i64 0] 25))
  simp only [World.size_alloc] at hr
  refine (ratio_any _ _ _ 0 A _ _ _ hr (by omega)).mono ?_
  rintro e w1 ⟨n, d, rfl, nd, ob, p', hp', r⟩
  have s1 := ob.size
  simp at s1
  have c0 := ob.cell w.heap.size 0 (by simp <;> omega) (by omega)
  have c1 := ob.cell w.heap.size 1 (by simp <;> omega) (by omega)
  have f0 := ob.frozen w.heap.size 0 (by simp <;> omega) (by omega)
  have f1 := ob.frozen w.heap.size 1 (by simp <;> omega) (by omega)
  simp at c0 c1 f0 f1
  have bl := ob.below (B := w.heap.size) (by omega) (by simp <;> omega)
  go_wp2
  exact bodyPost_ret (v := .agg #[.int .i64 n, .int .i64 d]) (by simp [results, Try.results34, go_sem, c0, c1]) rfl ⟨n, d, rfl, nd, (((bel_al (bel_al (bel_refl w) _) _).trans bl).setCell (by simp) _).setCell (by simp) _⟩

set_option maxHeartbeats 400000 in
theorem DrawRatioTimes_any (w : World) (A : Option Addr) (len cap : Nat) (h : Cod w A len cap) : Calls Try.prog 36 #[.slice A len cap] w (Dr2 w) := by
  go_enter Try.func36, Try.ntmps36
  go_wp2_with fail
  refine (open_eq _ A len cap h.lc h.cm).mono ?_
  rintro e1 w1 ⟨rfl, rfl⟩
  go_wp2_with fail
  have hr := h.rd (bel_al (bel_al (bel_refl w) (.cells #[.int .i64 0, .int .i64 0] 25)) (.cells #[.int .i64 0, .int .i64 0] 25))
  simp only [World.size_alloc] at hr
  refine (ratio_any _ _ _ 0 A _ _ _ hr (by omega)).mono ?_
  rintro e w1 ⟨n, d, rfl, nd, ob, p', hp', r⟩
  go_wp2_with fail
  refine (ratio_any _ _ _ p' A _ _ _ r (by omega)).mono ?_
  rintro e w2 ⟨n2, d2, rfl, nd2, ob2, p2, hp2, r2⟩
  have oo := ob.trans ob2
  have s1 := oo.size
  simp at s1
  have c0 : w2.cell? ⟨w.heap.size, 0, none⟩ = some (.int .i64 0) := (oo.cell w.heap.size 0 (by simp <;> omega) (by omega)).trans (keep_al (by simp [go_sem]) _)
  have f0 : w2.frozen? ⟨w.heap.size, 0, none⟩ = false := (oo.frozen w.heap.size 0 (by simp <;> omega) (by omega)).trans (fz_al (by simp [go_sem]) (by simp <;> omega) _)
  have c1 : w2.cell? ⟨w.heap.size, 1, none⟩ = some (.int .i64 0) := (oo.cell w.heap.size 1 (by simp <;> omega) (by omega)).trans (keep_al (by simp [go_sem]) _)
  have f1 : w2.frozen? ⟨w.heap.size, 1, none⟩ = false := (oo.frozen w.heap.size 1 (by simp <;> omega) (by omega)).trans (fz_al (by simp [go_sem]) (by simp <;> omega) _)
  have c2 : w2.cell? ⟨(w.heap.size + 1), 0, none⟩ = some (.int .i64 0) := (oo.cell (w.heap.size + 1) 0 (by simp <;> omega) (by omega)).trans (keep_al (by simp [go_sem]) _)
  have f2 : w2.frozen? ⟨(w.heap.size + 1), 0, none⟩ = false := (oo.frozen (w.heap.size + 1) 0 (by simp <;> omega) (by omega)).trans (fz_al (by simp [go_sem]) (by simp <;> omega) _)
  have c3 : w2.cell? ⟨(w.heap.size + 1), 1, none⟩ = some (.int .i64 0) := (oo.cell (w.heap.size + 1) 1 (by simp <;> omega) (by omega)).trans (keep_al (by simp [go_sem]) _)
  have f3 : w2.frozen? ⟨(w.heap.size + 1), 1, none⟩ = false := (oo.frozen (w.heap.size + 1) 1 (by simp <;> omega) (by omega)).trans (fz_al (by simp [go_sem]) (by simp <;> omega) _)
  have bl := oo.below (B := w.heap.size) (by omega) (by simp <;> omega)
  clear ob ob2 oo r r2 hr
  go_wp2
  exact bodyPost_ret (v := .tuple #[.agg #[.int .i64 n, .int .i64 d], .agg #[.int .i64 n2, .int .i64 d2]]) (by simp [results, Try.results36, go_sem, c0, c1, c2, c3]) rfl ⟨n, d, n2, d2, rfl, nd, nd2, (((((bel_al (bel_al (bel_al (bel_refl w) _) _) _).trans bl).setCell (by simp) _).setCell (by simp) _).setCell (by simp) _).setCell (by simp) _⟩

set_option maxHeartbeats 400000 in
theorem DrawRatioLess_any (w : World) (A : Option Addr) (len cap : Nat) (h : Cod w A len cap) : Calls Try.prog 35 #[.slice A len cap] w (Dr2 w) := by
  go_enter Try.func35, Try.ntmps35
  go_wp2_with fail
  refine (open_eq _ A len cap h.lc h.cm).mono ?_
  rintro e1 w1 ⟨rfl, rfl⟩
  go_wp2_with fail
  have hr := h.rd (bel_al (bel_al (bel_refl w) (.cells #[.int .i64 0, .int .i64 0] 25)) (.cells #[.int .i64 0, .int .i64 0] 25))
  simp only [World.size_alloc] at hr
  refine (ratio_any _ _ _ 0 A _ _ _ hr (by omega)).mono ?_
  rintro e w1 ⟨n, d, rfl, nd, ob, p', hp', r⟩
  go_wp2_with fail
  refine (ratio_any _ _ _ p' A _ _ _ r (by omega)).mono ?_
  rintro e w2 ⟨n2, d2, rfl, nd2, ob2, p2, hp2, r2⟩
  have oo := ob.trans ob2
  have s1 := oo.size
  simp at s1
  have c0 : w2.cell? ⟨w.heap.size, 0, none⟩ = some (.int .i64 0) := (oo.cell w.heap.size 0 (by simp <;> omega) (by omega)).trans (keep_al (by simp [go_sem]) _)
  have f0 : w2.frozen? ⟨w.heap.size, 0, none⟩ = false := (oo.frozen w.heap.size 0 (by simp <;> omega) (by omega)).trans (fz_al (by simp [go_sem]) (by simp <;> omega) _)
  have c1 : w2.cell? ⟨w.heap.size, 1, none⟩ = some (.int .i64 0) := (oo.cell w.heap.size 1 (by simp <;> omega) (by omega)).trans (keep_al (by simp [go_sem]) _)
  have f1 : w2.frozen? ⟨w.heap.size, 1, none⟩ = false := (oo.frozen w.heap.size 1 (by simp <;> omega) (by omega)).trans (fz_al (by simp [go_sem]) (by simp <;> omega) _)
  have c2 : w2.cell? ⟨(w.heap.size + 1), 0, none⟩ = some (.int .i64 0) := (oo.cell (w.heap.size + 1) 0 (by simp <;> omega) (by omega)).trans (keep_al (by simp [go_sem]) _)
  have f2 : w2.frozen? ⟨(w.heap.size + 1), 0, none⟩ = false := (oo.frozen (w.heap.size + 1) 0 (by simp <;> omega) (by omega)).trans (fz_al (by simp [go_sem]) (by simp <;> omega) _)
  have c3 : w2.cell? ⟨(w.heap.size + 1), 1, none⟩ = some (.int .i64 0) := (oo.cell (w.heap.size + 1) 1 (by simp <;> omega) (by omega)).trans (keep_al (by simp [go_sem]) _)
  have f3 : w2.frozen? ⟨(w.heap.size + 1), 1, none⟩ = false := (oo.frozen (w.heap.size + 1) 1 (by simp <;> omega) (by omega)).trans (fz_al (by simp [go_sem]) (by simp <;> omega) _)
  have bl := oo.below (B := w.heap.size) (by omega) (by simp <;> omega)
  clear ob ob2 oo r r2 hr
  go_wp2
  exact bodyPost_ret (v := .tuple #[.agg #[.int .i64 n, .int .i64 d], .agg #[.int .i64 n2, .int .i64 d2]]) (by simp [results, Try.results35, go_sem, c0, c1, c2, c3]) rfl ⟨n, d, n2, d2, rfl, nd, nd2, (((((bel_al (bel_al (bel_al (bel_refl w) _) _) _).trans bl).setCell (by simp) _).setCell (by simp) _).setCell (by simp) _).setCell (by simp) _⟩

set_option maxHeartbeats 400000 in
theorem DrawPureRatio_any (w : World) (A : Option Addr) (len cap : Nat) (h : Cod w A len cap) : Calls Try.prog 33 #[.slice A len cap] w (DrI (-25) 26 w) := by
  go_enter Try.func33, Try.ntmps33
  go_wp2_with fail
  refine (open_eq _ A len cap h.lc h.cm).mono ?_
  rintro e1 w1 ⟨rfl, rfl⟩
  go_wp2_with fail
  refine (pick_fr _ _ _ 0 A _ _ _ (h.rd (bel_refl w)) (by omega)).mono ?_
  rintro e w1 ⟨v, rfl, ⟨v0, v1, _⟩, o1, r1⟩
  have v1 := v1 (by omega)
  go_wp2
  go_ret
  exact ⟨v - 25, rfl, by omega, by omega, (bel_al (bel_refl w) _).trans (o1.below (Nat.le_refl _))⟩

set_option maxHeartbeats 400000 in
theorem DrawFifthsRatio_any (w : World) (A : Option Addr) (len cap : Nat) (h : Cod w A len cap) : Calls Try.prog 30 #[.slice A len cap] w (DrI (-13) 14 w) := by
  go_enter Try.func30, Try.ntmps30
  go_wp2_with fail
  refine (open_eq _ A len cap h.lc h.cm).mono ?_
  rintro e1 w1 ⟨rfl, rfl⟩
  go_wp2_with fail
  refine (pick_fr _ _ _ 0 A _ _ _ (h.rd (bel_refl w)) (by omega)).mono ?_
  rintro e w1 ⟨v, rfl, ⟨v0, v1, _⟩, o1, r1⟩
  have v1 := v1 (by omega)
  go_wp2
  go_ret
  exact ⟨v - 13, rfl, by omega, by omega, (bel_al (bel_refl w) _).trans (o1.below (Nat.le_refl _))⟩

end Go.Proofs.Ytclbgndpdbfedaa
