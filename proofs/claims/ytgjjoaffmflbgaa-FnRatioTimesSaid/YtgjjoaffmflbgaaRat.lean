/- The contracts of the functions of ratios that return ratios, of the program and of the reference. -/
import Derived.Test.YtgjjoaffmflbgaaRv
import Derived.Laws.ResultCell
namespace Go.Proofs.Ytgjjoaffmflbgaa
set_option linter.unusedSimpArgs false
set_option linter.unusedVariables false
open Go.RowKit

def backN (n d : Int) : Int := if rvB n d then d else 0
def backD (n d : Int) : Int := if rvB n d then n else 0

set_option maxHeartbeats 400000 in
theorem back_any (n d : Int) (w : World) :
    Calls Try.prog 21 #[.agg #[.int .i64 n, .int .i64 d]] w fun e w' => e = .returned (.agg #[.int .i64 (backN n d), .int .i64 (backD n d)]) ∧ Below w.heap.size w w' := by
  cases hv : rvB n d
  · have e1 : backN n d = 0 := by simp [backN, hv]
    have e2 : backD n d = 0 := by simp [backD, hv]
    rw [e1, e2]
    clear e1 e2
    go_enter Try.func21, Try.ntmps21
    go_wp2_with (go_at_call 22; refine (rv_any _ _ _).mono ?_; rintro e w1 ⟨rfl, hb1⟩; obtain ⟨hc1, hf1⟩ := bcell hb1; have hz1 := hb1.size)
    refine bodyPost_ret (v := .agg #[.int .i64 0, .int .i64 0]) (by simp [results, Try.results21, go_sem, hc1]) rfl ⟨rfl, ?_⟩
    repeat (first | exact bel_refl _ | refine bel_al ?_ _ | refine bel_dr ?_ | refine bel_drN ?_ _ | refine bel_tr ?_ (by assumption) | (refine bel_set ?_ (by simp) _))
  · have e1 : backN n d = d := by simp [backN, hv]
    have e2 : backD n d = n := by simp [backD, hv]
    rw [e1, e2]
    clear e1 e2
    go_enter Try.func21, Try.ntmps21
    go_wp2_with (go_at_call 22; refine (rv_any _ _ _).mono ?_; rintro e w1 ⟨rfl, hb1⟩; obtain ⟨hc1, hf1⟩ := bcell hb1; have hz1 := hb1.size)
    refine bodyPost_ret (v := .agg #[.int .i64 d, .int .i64 n]) (by simp [results, Try.results21, go_sem, hc1]) rfl ⟨rfl, ?_⟩
    repeat (first | exact bel_refl _ | refine bel_al ?_ _ | refine bel_dr ?_ | refine bel_drN ?_ _ | refine bel_tr ?_ (by assumption) | (refine bel_set ?_ (by simp) _))

set_option maxHeartbeats 400000 in
theorem sback_any (n d : Int) (w : World) :
    Calls Try.prog 58 #[.agg #[.int .i64 n, .int .i64 d]] w fun e w' => e = .returned (.agg #[.int .i64 (backN n d), .int .i64 (backD n d)]) ∧ Below w.heap.size w w' := by
  cases hv : rvB n d
  · have e1 : backN n d = 0 := by simp [backN, hv]
    have e2 : backD n d = 0 := by simp [backD, hv]
    rw [e1, e2]
    clear e1 e2
    go_enter Try.func58, Try.ntmps58
    go_wp2_with (go_at_call 45; refine (srv_any _ _ _).mono ?_; rintro e w1 ⟨rfl, hb1⟩; obtain ⟨hc1, hf1⟩ := bcell hb1; have hz1 := hb1.size)
    refine bodyPost_ret (v := .agg #[.int .i64 0, .int .i64 0]) (by simp [results, Try.results58, go_sem, hc1]) rfl ⟨rfl, ?_⟩
    repeat (first | exact bel_refl _ | refine bel_al ?_ _ | refine bel_dr ?_ | refine bel_drN ?_ _ | refine bel_tr ?_ (by assumption) | (refine bel_set ?_ (by simp) _))
  · have e1 : backN n d = d := by simp [backN, hv]
    have e2 : backD n d = n := by simp [backD, hv]
    rw [e1, e2]
    clear e1 e2
    go_enter Try.func58, Try.ntmps58
    go_wp2_with (go_at_call 45; refine (srv_any _ _ _).mono ?_; rintro e w1 ⟨rfl, hb1⟩; obtain ⟨hc1, hf1⟩ := bcell hb1; have hz1 := hb1.size)
    refine bodyPost_ret (v := .agg #[.int .i64 d, .int .i64 n]) (by simp [results, Try.results58, go_sem, hc1]) rfl ⟨rfl, ?_⟩
    repeat (first | exact bel_refl _ | refine bel_al ?_ _ | refine bel_dr ?_ | refine bel_drN ?_ _ | refine bel_tr ?_ (by assumption) | (refine bel_set ?_ (by simp) _))

end Go.Proofs.Ytgjjoaffmflbgaa
