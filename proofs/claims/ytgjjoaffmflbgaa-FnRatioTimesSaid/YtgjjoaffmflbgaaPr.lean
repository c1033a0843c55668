/- The contracts of PureRatio, of the program and of the reference: for every number. -/
import Derived.Test.YtgjjoaffmflbgaaFi
import Derived.BigRegion
import Derived.Deep.RegionWith
import Derived.Deep.DeepCutAuto
namespace Go.Proofs.Ytgjjoaffmflbgaa
set_option linter.unusedSimpArgs false
set_option linter.unusedVariables false
open Go.RowKit

def tN (u : Nat) : Int := ([1, 16, 9, 6, 5, 4, 45, 3, 8, 5, 9, 15, 1, 16, 9, 6, 5, 4, 45, 3, 8, 5, 9, 15, 1] : List Int).getD u 1
def tD (u : Nat) : Int := ([1, 15, 8, 5, 4, 3, 32, 2, 5, 3, 5, 8, 1, 15, 8, 5, 4, 3, 32, 2, 5, 3, 5, 8, 1] : List Int).getD u 1
def tQ (u : Nat) : Int := ([1, 16, 9, 6, 5, 4, 45, 3, 8, 5, 9, 15, 2, 32, 18, 12, 10, 8, 90, 6, 16, 10, 18, 30, 4] : List Int).getD u 1
def puN (u : Nat) : Int := ([1, 16, 9, 6, 5, 4, 45, 3, 8, 5, 9, 15, 2, 32, 9, 12, 5, 8, 45, 3, 16, 10, 18, 15, 4] : List Int).getD u 1
def puD (u : Nat) : Int := ([1, 15, 8, 5, 4, 3, 32, 2, 5, 3, 5, 8, 1, 15, 4, 5, 2, 3, 16, 1, 5, 3, 5, 4, 1] : List Int).getD u 1
theorem pu_G (u : Nat) (h : u ≤ 24) : 0 < tQ u ∧ tQ u ≤ 1000 ∧ 0 < tD u ∧ tD u ≤ 1000 ∧ tQ u / G (tQ u) (tD u) = puN u ∧ tD u / G (tQ u) (tD u) = puD u ∧ rvB (puN u) (puD u) = true ∧ backN (puN u) (puD u) = puD u ∧ backD (puN u) (puD u) = puN u := by
  have : ∀ u : Fin 25, 0 < tQ u.1 ∧ tQ u.1 ≤ 1000 ∧ 0 < tD u.1 ∧ tD u.1 ≤ 1000 ∧ tQ u.1 / G (tQ u.1) (tD u.1) = puN u.1 ∧ tD u.1 / G (tQ u.1) (tD u.1) = puD u.1 ∧ rvB (puN u.1) (puD u.1) = true ∧ backN (puN u.1) (puD u.1) = puD u.1 ∧ backD (puN u.1) (puD u.1) = puN u.1 := by decide +kernel
  exact this ⟨u, by omega⟩
theorem pr_shl (u : Nat) (h : u ≤ 24) : ∀ w : World, (Op.shift .shl .i64 (tN u) .i64 (IntKind.i64.wrap ((u : Int) / 12))).run Try.prog w = .ok (.int .i64 (tQ u)) w := by
  match u, h with
  | 0, _ => exact fun _ => by kernel_rfl
  | 1, _ => exact fun _ => by kernel_rfl
  | 2, _ => exact fun _ => by kernel_rfl
  | 3, _ => exact fun _ => by kernel_rfl
  | 4, _ => exact fun _ => by kernel_rfl
  | 5, _ => exact fun _ => by kernel_rfl
  | 6, _ => exact fun _ => by kernel_rfl
  | 7, _ => exact fun _ => by kernel_rfl
  | 8, _ => exact fun _ => by kernel_rfl
  | 9, _ => exact fun _ => by kernel_rfl
  | 10, _ => exact fun _ => by kernel_rfl
  | 11, _ => exact fun _ => by kernel_rfl
  | 12, _ => exact fun _ => by kernel_rfl
  | 13, _ => exact fun _ => by kernel_rfl
  | 14, _ => exact fun _ => by kernel_rfl
  | 15, _ => exact fun _ => by kernel_rfl
  | 16, _ => exact fun _ => by kernel_rfl
  | 17, _ => exact fun _ => by kernel_rfl
  | 18, _ => exact fun _ => by kernel_rfl
  | 19, _ => exact fun _ => by kernel_rfl
  | 20, _ => exact fun _ => by kernel_rfl
  | 21, _ => exact fun _ => by kernel_rfl
  | 22, _ => exact fun _ => by kernel_rfl
  | 23, _ => exact fun _ => by kernel_rfl
  | 24, _ => exact fun _ => by kernel_rfl
  | n + 25, h => exact absurd h (by omega)


theorem back_val (n d a b : Int) (w : World) (h1 : backN n d = a) (h2 : backD n d = b) :
    Calls Try.prog 21 #[.agg #[.int .i64 n, .int .i64 d]] w fun e w' => e = .returned (.agg #[.int .i64 a, .int .i64 b]) ∧ Below w.heap.size w w' := by
  have := back_any n d w
  rw [h1, h2] at this; exact this
theorem sback_val (n d a b : Int) (w : World) (h1 : backN n d = a) (h2 : backD n d = b) :
    Calls Try.prog 58 #[.agg #[.int .i64 n, .int .i64 d]] w fun e w' => e = .returned (.agg #[.int .i64 a, .int .i64 b]) ∧ Below w.heap.size w w' := by
  have := sback_any n d w
  rw [h1, h2] at this; exact this

set_option maxHeartbeats 400000 in
theorem spr_no (x : Int) (w : World) (hh : x < -24 ∨ 24 < x) :
    Calls Try.prog 52 #[.int .i64 x] w fun e w' => e = .returned (.tuple #[.agg #[.int .i64 0, .int .i64 0], .bool false]) ∧ Below w.heap.size w w' := by
  rcases hh with hh | hh
  · go_enter Try.func52, Try.ntmps52
    go_wp2
    refine bodyPost_ret (v := .tuple #[.agg #[.int .i64 0, .int .i64 0], .bool false]) (by simp (maxDischargeDepth := 3) [results, Try.results52, go_sem, *]) rfl ⟨rfl, ?_⟩
    repeat (first | (with_reducible assumption) | (with_reducible exact bel_refl _) | (with_reducible refine bel_dr ?_) | (with_reducible refine bel_drN ?_ _) | (with_reducible refine bel_al ?_ _) | (refine bel_set ?_ (by (try simp) <;> omega) _) | (with_reducible refine bel_tr ?_ (by assumption)))
  · have hh2 : -24 ≤ x := by omega
    have hd : decide (x ≤ 24) = false := by simp; omega
    go_enter Try.func52, Try.ntmps52
    go_wp2
    refine bodyPost_ret (v := .tuple #[.agg #[.int .i64 0, .int .i64 0], .bool false]) (by simp (maxDischargeDepth := 3) [results, Try.results52, go_sem, *]) rfl ⟨rfl, ?_⟩
    repeat (first | (with_reducible assumption) | (with_reducible exact bel_refl _) | (with_reducible refine bel_dr ?_) | (with_reducible refine bel_drN ?_ _) | (with_reducible refine bel_al ?_ _) | (refine bel_set ?_ (by (try simp) <;> omega) _) | (with_reducible refine bel_tr ?_ (by assumption)))

end Go.Proofs.Ytgjjoaffmflbgaa
