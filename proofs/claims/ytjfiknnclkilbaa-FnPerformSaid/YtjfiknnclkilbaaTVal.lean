/- The contracts of times and ticks, with the values that the caller knows. -/
import Derived.Test.YtjfiknnclkilbaaTk
import Derived.Test.YtjfiknnclkilbaaAlive
namespace Go.Proofs.Ytjfiknnclkilbaa
open Go.RowKit

theorem tof_val {l : List Tp} {k v : Int} (h : timeOfI l k = v) (A : Option Addr) (n c : Nat) (w : World) (hn : l.length = n) (hm : n ≤ 2000000) (hr : RowTp w w.heap.size A l) :
    Calls Try.prog 25 #[.slice A n c, .int .i64 k] w fun e w' => e = .returned (.int .i64 v) ∧ Below w.heap.size w w' := by
  subst h; exact tof_any A n c l k w hn hm hr
theorem stof_val {l : List Tp} {k v : Int} (h : timeOfI l k = v) (A : Option Addr) (n c : Nat) (w : World) (hn : l.length = n) (hm : n ≤ 2000000) (hr : RowTp w w.heap.size A l) :
    Calls Try.prog 24 #[.slice A n c, .int .i64 k] w fun e w' => e = .returned (.int .i64 v) ∧ Below w.heap.size w w' := by
  subst h; exact stof_any A n c l k w hn hm hr
theorem tk_val {l : List Tp} {k v : Int} (h : tickOfI l k = v) (A : Option Addr) (n c : Nat) (w : World) (hn : l.length = n) (hm : n ≤ 2000000) (hr : RowTp w w.heap.size A l) :
    Calls Try.prog 27 #[.slice A n c, .int .i64 k] w fun e w' => e = .returned (.int .i64 v) ∧ Below w.heap.size w w' := by
  subst h; exact tk_any A n c l k w hn hm hr
theorem stk_val {l : List Tp} {k v : Int} (h : tickOfI l k = v) (A : Option Addr) (n c : Nat) (w : World) (hn : l.length = n) (hm : n ≤ 2000000) (hr : RowTp w w.heap.size A l) :
    Calls Try.prog 26 #[.slice A n c, .int .i64 k] w fun e w' => e = .returned (.int .i64 v) ∧ Below w.heap.size w w' := by
  subst h; exact stk_any A n c l k w hn hm hr
theorem TvF.tick_ex {l : List Tp} (h : TvF l) {t : Int} (ht : 0 ≤ t) (N : Nat) : ∃ m : Nat, m ≤ N ∧ timeI l m ≤ t ∧ (m < N → t < timeI l ((m : Int) + 1)) := by
  induction N with
  | zero => exact ⟨0, Nat.le_refl _, by rw [show ((0 : Nat) : Int) = 0 from rfl, h.zero]; exact ht, fun c => absurd c (by omega)⟩
  | succ N ih =>
    obtain ⟨m, h1, h2, h3⟩ := ih
    by_cases e : m < N
    · exact ⟨m, by omega, h2, fun _ => h3 e⟩
    · by_cases c : t < timeI l ((m : Int) + 1)
      · exact ⟨m, by omega, h2, fun _ => c⟩
      · exact ⟨m + 1, by omega, by rw [show ((m + 1 : Nat) : Int) = (m : Int) + 1 from by omega]; omega, fun d => absurd d (by omega)⟩
theorem TvF.tickI_P {l : List Tp} (h : TvF l) {t : Int} (ht : 0 ≤ t) : tickP l t (tickI l t) := by
  obtain ⟨m, h1, h2, h3⟩ := h.tick_ex ht 50000
  exact Classical.epsilon_spec (p := tickP l t) ⟨(m : Int), by omega, by omega, h2, fun c => h3 (by omega)⟩
end Go.Proofs.Ytjfiknnclkilbaa
