/- The contracts of the functions that make and multiply ratios, of the program and of the reference. -/
import Derived.Test.YtgjjoaffmflbgaaRat
namespace Go.Proofs.Ytgjjoaffmflbgaa
set_option linter.unusedSimpArgs false
set_option linter.unusedVariables false
open Go.RowKit

def ltB (x y : Int) : Bool := rvB (x / G x y) (y / G x y)
def ltN (x y : Int) : Int := if ltB x y then x / G x y else 0
def ltD (x y : Int) : Int := if ltB x y then y / G x y else 0

set_option maxHeartbeats 400000 in
theorem lt_false (x y : Int) (w : World) (h0 : 0 < x) (h1 : 0 < y) (h2 : x ≤ 9223372036854775807) (h3 : y ≤ 9223372036854775807) (hv : rvB (x / G x y) (y / G x y) = false) :
    Calls Try.prog 44 #[.int .i64 x, .int .i64 y] w fun e w' => e = .returned (.tuple #[.agg #[.int .i64 0, .int .i64 0], .bool false]) ∧ Below w.heap.size w w' := by
  have hg := G_pos x y h0
  go_enter Try.func44, Try.ntmps44
  go_wp2_with (go_at_call 48; refine (gcd_any _ _ _ (by omega) (by omega) (by omega) (by omega)).mono ?_; rintro e w1 ⟨rfl, hb1⟩; obtain ⟨hc1, hf1, hz1, hy1, hx1⟩ := bfacts hb1)
  go_region
  all_goals
    go_wp2_with (go_at_call 22; refine (rv_any _ _ _).mono ?_; rintro e w2 ⟨rfl, hb2⟩; obtain ⟨hc2, hf2, hz2, hy2, hx2⟩ := bfacts hb2)
    refine bodyPost_ret (v := .tuple #[.agg #[.int .i64 0, .int .i64 0], .bool false]) (by simp (maxDischargeDepth := 3) [results, Try.results44, go_sem, *]) rfl ⟨rfl, ?_⟩
    repeat (first | exact bel_refl _ | refine bel_al ?_ _ | refine bel_dr ?_ | refine bel_drN ?_ _ | refine bel_tr ?_ (by assumption) | (refine bel_set ?_ (by simp) _))

set_option maxHeartbeats 400000 in
theorem lt_true (x y : Int) (w : World) (h0 : 0 < x) (h1 : 0 < y) (h2 : x ≤ 9223372036854775807) (h3 : y ≤ 9223372036854775807) (hv : rvB (x / G x y) (y / G x y) = true) :
    Calls Try.prog 44 #[.int .i64 x, .int .i64 y] w fun e w' => e = .returned (.tuple #[.agg #[.int .i64 (x / G x y), .int .i64 (y / G x y)], .bool true]) ∧ Below w.heap.size w w' := by
  have hg := G_pos x y h0
  go_enter Try.func44, Try.ntmps44
  go_wp2_with (go_at_call 48; refine (gcd_any _ _ _ (by omega) (by omega) (by omega) (by omega)).mono ?_; rintro e w1 ⟨rfl, hb1⟩; obtain ⟨hc1, hf1, hz1, hy1, hx1⟩ := bfacts hb1)
  go_region
  all_goals
    go_wp2_with (go_at_call 22; refine (rv_any _ _ _).mono ?_; rintro e w2 ⟨rfl, hb2⟩; obtain ⟨hc2, hf2, hz2, hy2, hx2⟩ := bfacts hb2)
    refine bodyPost_ret (v := .tuple #[.agg #[.int .i64 (x / G x y), .int .i64 (y / G x y)], .bool true]) (by simp (maxDischargeDepth := 3) [results, Try.results44, go_sem, *]) rfl ⟨rfl, ?_⟩
    repeat (first | exact bel_refl _ | refine bel_al ?_ _ | refine bel_dr ?_ | refine bel_drN ?_ _ | refine bel_tr ?_ (by assumption) | (refine bel_set ?_ (by simp) _))

set_option maxHeartbeats 400000 in
theorem slt_false (x y : Int) (w : World) (h0 : 0 < x) (h1 : 0 < y) (h2 : x ≤ 9223372036854775807) (h3 : y ≤ 9223372036854775807) (hv : rvB (x / G x y) (y / G x y) = false) :
    Calls Try.prog 46 #[.int .i64 x, .int .i64 y] w fun e w' => e = .returned (.tuple #[.agg #[.int .i64 0, .int .i64 0], .bool false]) ∧ Below w.heap.size w w' := by
  have hg := G_pos x y h0
  go_enter Try.func46, Try.ntmps46
  go_wp2_with (go_at_call 54; refine (sgcd_any _ _ _ (by omega) (by omega) (by omega) (by omega)).mono ?_; rintro e w1 ⟨rfl, hb1⟩; obtain ⟨hc1, hf1, hz1, hy1, hx1⟩ := bfacts hb1)
  go_region
  all_goals
    go_wp2_with (go_at_call 45; refine (srv_any _ _ _).mono ?_; rintro e w2 ⟨rfl, hb2⟩; obtain ⟨hc2, hf2, hz2, hy2, hx2⟩ := bfacts hb2)
    refine bodyPost_ret (v := .tuple #[.agg #[.int .i64 0, .int .i64 0], .bool false]) (by simp (maxDischargeDepth := 3) [results, Try.results46, go_sem, *]) rfl ⟨rfl, ?_⟩
    repeat (first | exact bel_refl _ | refine bel_al ?_ _ | refine bel_dr ?_ | refine bel_drN ?_ _ | refine bel_tr ?_ (by assumption) | (refine bel_set ?_ (by simp) _))

set_option maxHeartbeats 400000 in
theorem slt_true (x y : Int) (w : World) (h0 : 0 < x) (h1 : 0 < y) (h2 : x ≤ 9223372036854775807) (h3 : y ≤ 9223372036854775807) (hv : rvB (x / G x y) (y / G x y) = true) :
    Calls Try.prog 46 #[.int .i64 x, .int .i64 y] w fun e w' => e = .returned (.tuple #[.agg #[.int .i64 (x / G x y), .int .i64 (y / G x y)], .bool true]) ∧ Below w.heap.size w w' := by
  have hg := G_pos x y h0
  go_enter Try.func46, Try.ntmps46
  go_wp2_with (go_at_call 54; refine (sgcd_any _ _ _ (by omega) (by omega) (by omega) (by omega)).mono ?_; rintro e w1 ⟨rfl, hb1⟩; obtain ⟨hc1, hf1, hz1, hy1, hx1⟩ := bfacts hb1)
  go_region
  all_goals
    go_wp2_with (go_at_call 45; refine (srv_any _ _ _).mono ?_; rintro e w2 ⟨rfl, hb2⟩; obtain ⟨hc2, hf2, hz2, hy2, hx2⟩ := bfacts hb2)
    refine bodyPost_ret (v := .tuple #[.agg #[.int .i64 (x / G x y), .int .i64 (y / G x y)], .bool true]) (by simp (maxDischargeDepth := 3) [results, Try.results46, go_sem, *]) rfl ⟨rfl, ?_⟩
    repeat (first | exact bel_refl _ | refine bel_al ?_ _ | refine bel_dr ?_ | refine bel_drN ?_ _ | refine bel_tr ?_ (by assumption) | (refine bel_set ?_ (by simp) _))

end Go.Proofs.Ytgjjoaffmflbgaa
