/- The pitch to which an interval leads; of the program and of the reference. -/
import Derived.Test.YtpjakgnghpapmaaIv
import Derived.Test.YtpjakgnghpapmaaTail
import Derived.Deep.RegionWith
import Derived.Deep.DeepCutAuto
namespace Go.Proofs.Ytpjakgnghpapmaa
set_option linter.unusedSimpArgs false
set_option linter.unusedVariables false
open Go.RowKit

def pwB (p k : Int) : Bool := decide (0 ≤ p) && pvB (p % 7) (k - natI p) (p / 7)
def pwS (p k : Int) : Int := if pwB p k then p % 7 else 0
def pwA (p k : Int) : Int := if pwB p k then k - natI p else 0
def pwO (p k : Int) : Int := if pwB p k then p / 7 else 0
def adB (s a o st ha : Int) : Bool := pvB s a o && ivB st ha && pwB (7 * o + s + st) (12 * o + shI s + a + ha)
def adS (s a o st ha : Int) : Int := if adB s a o st ha then (7 * o + s + st) % 7 else 0
def adA (s a o st ha : Int) : Int := if adB s a o st ha then 12 * o + shI s + a + ha - natI (7 * o + s + st) else 0
def adO (s a o st ha : Int) : Int := if adB s a o st ha then (7 * o + s + st) / 7 else 0

set_option maxHeartbeats 1000000 in
theorem pp_yes (s a o : Int) (w : World) (hv : pvB s a o = true) : Calls Try.prog 83 #[.agg #[.int .i64 s, .int .i64 a, .int .i64 o]] w fun e w' => e = .returned (.int .i64 (7 * o + s)) ∧ Below w.heap.size w w' := by
  obtain ⟨h0, h1, h2, h3, h4, h5⟩ := pvB_bd hv
  have HV := Lib.hid hv
  clear hv
  have x0 := IntWalk.i64_in (7 * o) (by omega)
  have x1 := IntWalk.i64_in (7 * o + s) (by omega)
  go_enter Try.func83, Try.ntmps83
  go_wp2_with fail
  refine (pv_val HV.out _).mono ?_
  rintro e1 w1 ⟨rfl, b1⟩
  have q0 : w1.cell? ⟨w.heap.size, 0, none⟩ = some (.int .i64 s) := keep_tr (by simp) b1
  have q1 : w1.cell? ⟨w.heap.size, 1, none⟩ = some (.int .i64 a) := keep_tr (by simp) b1
  have q2 : w1.cell? ⟨w.heap.size, 2, none⟩ = some (.int .i64 o) := keep_tr (by simp) b1
  go_wp2
  go_ret
  exact ⟨rfl, by repeat (first | (with_reducible assumption) | (exact bel_undr (by with_reducible assumption)) | (with_reducible exact bel_refl _) | (with_reducible refine bel_dr ?_) | (with_reducible refine bel_drN ?_ _) | (with_reducible refine bel_al ?_ _) | (refine bel_set ?_ (by first | (simp; done) | (simp; exact Below.size (by assumption)) | (simp; omega)) _) | (with_reducible refine bel_tr ?_ (by assumption)))⟩

set_option maxHeartbeats 1000000 in
theorem spp_yes (s a o : Int) (w : World) (hv : pvB s a o = true) : Calls Try.prog 76 #[.agg #[.int .i64 s, .int .i64 a, .int .i64 o]] w fun e w' => e = .returned (.int .i64 (7 * o + s)) ∧ Below w.heap.size w w' := by
  obtain ⟨h0, h1, h2, h3, h4, h5⟩ := pvB_bd hv
  have HV := Lib.hid hv
  clear hv
  have x0 := IntWalk.i64_in (7 * o) (by omega)
  have x1 := IntWalk.i64_in (7 * o + s) (by omega)
  go_enter Try.func76, Try.ntmps76
  go_wp2_with fail
  refine (spv_val HV.out _).mono ?_
  rintro e1 w1 ⟨rfl, b1⟩
  have q0 : w1.cell? ⟨w.heap.size, 0, none⟩ = some (.int .i64 s) := keep_tr (by simp) b1
  have q1 : w1.cell? ⟨w.heap.size, 1, none⟩ = some (.int .i64 a) := keep_tr (by simp) b1
  have q2 : w1.cell? ⟨w.heap.size, 2, none⟩ = some (.int .i64 o) := keep_tr (by simp) b1
  go_wp2
  go_ret
  exact ⟨rfl, by repeat (first | (with_reducible assumption) | (exact bel_undr (by with_reducible assumption)) | (with_reducible exact bel_refl _) | (with_reducible refine bel_dr ?_) | (with_reducible refine bel_drN ?_ _) | (with_reducible refine bel_al ?_ _) | (refine bel_set ?_ (by first | (simp; done) | (simp; exact Below.size (by assumption)) | (simp; omega)) _) | (with_reducible refine bel_tr ?_ (by assumption)))⟩

theorem tup_to {P : Program} {f : FuncId} {args : Array Value} {w : World} {a b c x y z : Int} {d v : Bool} (h : a = x ∧ b = y ∧ c = z ∧ d = v) (H : Calls P f args w fun e w' => e = .returned (.tuple #[.agg #[.int .i64 (x), .int .i64 (y), .int .i64 (z)], .bool (v)]) ∧ Below w.heap.size w w') :
    Calls P f args w fun e w' => e = .returned (.tuple #[.agg #[.int .i64 (a), .int .i64 (b), .int .i64 (c)], .bool (d)]) ∧ Below w.heap.size w w' := by obtain ⟨rfl, rfl, rfl, rfl⟩ := h; exact H
end Go.Proofs.Ytpjakgnghpapmaa
