/- The contracts of the two tests of a range. -/
import Derived.Test.YtaieamobjbckdaaProg
import Derived.WalkKit
import Derived.WalkSpells
namespace Go.Proofs.Ytaieamobjbckdaa
set_option linter.unusedSimpArgs false
set_option linter.unusedVariables false
open Go.RowKit

theorem ret_bool' {a b : Bool} (h : a = b) : Ending.returned (.bool a) = .returned (.bool b) := by rw [h]

set_option maxHeartbeats 400000 in
theorem win_any (x lo hi : Int) (w : World) :
    Calls Try.prog 10 #[.int .i64 x, .int .i64 lo, .int .i64 hi] w fun e w' => e = .returned (.bool (decide (lo ≤ x) && decide (x ≤ hi))) ∧ w = w' := by
  by_cases h : lo ≤ x
  · go_enter Try.func10, Try.ntmps10
    go_wp2
    go_ret
    exact ⟨ret_bool' (by simp [h]), rfl⟩
  · have hd : decide (lo ≤ x) = false := by simpa using h
    go_enter Try.func10, Try.ntmps10
    go_wp2
    go_ret
    exact ⟨ret_bool' (by simp [h]), rfl⟩
theorem win_yes (x lo hi : Int) (w : World) (h0 : lo ≤ x) (h1 : x ≤ hi) :
    Calls Try.prog 10 #[.int .i64 x, .int .i64 lo, .int .i64 hi] w fun e w' => e = .returned (.bool true) ∧ w = w' :=
  (win_any x lo hi w).mono fun _ _ ⟨he, hw⟩ => ⟨by rw [he]; simp [h0, h1], hw⟩
theorem win_no (x lo hi : Int) (w : World) (h : x < lo ∨ hi < x) :
    Calls Try.prog 10 #[.int .i64 x, .int .i64 lo, .int .i64 hi] w fun e w' => e = .returned (.bool false) ∧ w = w' :=
  (win_any x lo hi w).mono fun _ _ ⟨he, hw⟩ => ⟨by rw [he]; exact ret_bool' (by rcases h with h | h <;> simp <;> omega), hw⟩

set_option maxHeartbeats 400000 in
theorem swin_any (x lo hi : Int) (w : World) :
    Calls Try.prog 11 #[.int .i64 x, .int .i64 lo, .int .i64 hi] w fun e w' => e = .returned (.bool (decide (lo ≤ x) && decide (x ≤ hi))) ∧ w = w' := by
  by_cases h : lo ≤ x
  · go_enter Try.func11, Try.ntmps11
    go_wp2
    go_ret
    exact ⟨ret_bool' (by simp [h]), rfl⟩
  · have hd : decide (lo ≤ x) = false := by simpa using h
    go_enter Try.func11, Try.ntmps11
    go_wp2
    go_ret
    exact ⟨ret_bool' (by simp [h]), rfl⟩
theorem swin_yes (x lo hi : Int) (w : World) (h0 : lo ≤ x) (h1 : x ≤ hi) :
    Calls Try.prog 11 #[.int .i64 x, .int .i64 lo, .int .i64 hi] w fun e w' => e = .returned (.bool true) ∧ w = w' :=
  (swin_any x lo hi w).mono fun _ _ ⟨he, hw⟩ => ⟨by rw [he]; simp [h0, h1], hw⟩
theorem swin_no (x lo hi : Int) (w : World) (h : x < lo ∨ hi < x) :
    Calls Try.prog 11 #[.int .i64 x, .int .i64 lo, .int .i64 hi] w fun e w' => e = .returned (.bool false) ∧ w = w' :=
  (swin_any x lo hi w).mono fun _ _ ⟨he, hw⟩ => ⟨by rw [he]; exact ret_bool' (by rcases h with h | h <;> simp <;> omega), hw⟩

end Go.Proofs.Ytaieamobjbckdaa
