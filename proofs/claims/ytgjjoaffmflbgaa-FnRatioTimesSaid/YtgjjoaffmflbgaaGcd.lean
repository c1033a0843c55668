/- The contracts of the two functions for the greatest common divisor: for every world; the arguments are not negative. -/
import Derived.Test.YtgjjoaffmflbgaaBel
import Derived.WalkKit
import Derived.WalkSpells
import Derived.LoopTactic
import Derived.RegionTactic
import Derived.BigQuiet
import Derived.Deep.QuietTactic
import Derived.IntWalk
import Derived.Lib.Hide
namespace Go.Proofs.Ytgjjoaffmflbgaa
set_option linter.unusedSimpArgs false
set_option linter.unusedVariables false
open Go.RowKit

/-- the greatest common divisor of two numbers that are not negative -/
def G (a b : Int) : Int := (Nat.gcd a.toNat b.toNat : Nat)

theorem G_step (a b : Int) (h0 : 0 ≤ a) (h : 0 < b) : G a b = G b (a % b) := by
  obtain ⟨m, rfl⟩ := Int.eq_ofNat_of_zero_le h0
  obtain ⟨n, rfl⟩ := Int.eq_ofNat_of_zero_le (Int.le_of_lt h)
  unfold G
  have e : ((m : Int) % (n : Int)).toNat = m % n := by
    rw [← Int.natCast_emod]; exact Int.toNat_natCast _
  rw [e, Int.toNat_natCast, Int.toNat_natCast, Nat.gcd_comm m n, Nat.gcd_rec n m, Nat.gcd_comm]
theorem G_zero (a : Int) (h0 : 0 ≤ a) : G a 0 = a := by
  unfold G; simp; omega
theorem G_pos (a b : Int) (h : 0 < a) : 0 < G a b := by
  unfold G
  have := Nat.gcd_pos_of_pos_left b.toNat (show 0 < a.toNat by omega)
  omega

set_option maxHeartbeats 400000 in
theorem gcd_any (a b : Int) (w : World) (h0 : 0 ≤ a) (h1 : 0 ≤ b) (h2 : a ≤ 9223372036854775807) (h3 : b ≤ 9223372036854775807) :
    Calls Try.prog 48 #[.int .i64 a, .int .i64 b] w fun e w' => e = .returned (.int .i64 (G a b)) ∧ Below w.heap.size w w' := by
  go_enter Try.func48, Try.ntmps48
  go_wp2
  go_loopw [0, 1] (fun x y wr => ∃ c d : Int, 0 ≤ c ∧ 0 ≤ d ∧ c ≤ 9223372036854775807 ∧ d ≤ 9223372036854775807 ∧ x = .int .i64 c ∧ y = .int .i64 d ∧ Hid (G c d = G a b) ∧ Below w.heap.size w wr) (fun _ y _ => (intOf y).toNat)
  case atStart => exact ⟨a, b, h0, h1, h2, h3, rfl, rfl, rfl, Below.refl _ _⟩
  case round =>
    obtain ⟨c, d, hc, hd, hc2, hd2, rfl, rfl, hg, hb⟩ := hrel
    by_cases hz : d = 0
    · subst hz
      go_wp2
      go_ret
      exact ⟨ret_int (by rw [← hg.out, G_zero c hc]), hb⟩
    · have hp : 0 < d := by omega
      have hm0 : 0 ≤ c % d := Int.emod_nonneg _ hz
      have hm1 : c % d < d := Int.emod_lt_of_pos _ hp
      go_wp2
      go_region
      all_goals go_wp2
      all_goals go_roundw
      case rel => exact ⟨d, c % d, by omega, hm0, by omega, by omega, rfl, rfl, (G_step c d hc hp).symm.trans hg.out, hb.drew⟩
      case measure => simp [intOf]; omega

set_option maxHeartbeats 400000 in
theorem sgcd_any (a b : Int) (w : World) (h0 : 0 ≤ a) (h1 : 0 ≤ b) (h2 : a ≤ 9223372036854775807) (h3 : b ≤ 9223372036854775807) :
    Calls Try.prog 54 #[.int .i64 a, .int .i64 b] w fun e w' => e = .returned (.int .i64 (G a b)) ∧ Below w.heap.size w w' := by
  go_enter Try.func54, Try.ntmps54
  go_wp2
  go_loopw [0, 1] (fun x y wr => ∃ c d : Int, 0 ≤ c ∧ 0 ≤ d ∧ c ≤ 9223372036854775807 ∧ d ≤ 9223372036854775807 ∧ x = .int .i64 c ∧ y = .int .i64 d ∧ Hid (G c d = G a b) ∧ Below w.heap.size w wr) (fun _ y _ => (intOf y).toNat)
  case atStart => exact ⟨a, b, h0, h1, h2, h3, rfl, rfl, rfl, Below.refl _ _⟩
  case round =>
    obtain ⟨c, d, hc, hd, hc2, hd2, rfl, rfl, hg, hb⟩ := hrel
    by_cases hz : d = 0
    · subst hz
      go_wp2
      go_ret
      exact ⟨ret_int (by rw [← hg.out, G_zero c hc]), hb⟩
    · have hp : 0 < d := by omega
      have hm0 : 0 ≤ c % d := Int.emod_nonneg _ hz
      have hm1 : c % d < d := Int.emod_lt_of_pos _ hp
      go_wp2
      go_roundw
      case rel => exact ⟨d, c % d, by omega, hm0, by omega, by omega, rfl, rfl, (G_step c d hc hp).symm.trans hg.out, hb⟩
      case measure => simp [intOf]; omega

end Go.Proofs.Ytgjjoaffmflbgaa
