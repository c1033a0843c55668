/- Two slices of pitches compared by the laws. -/
import Derived.Test.YtkchlgmlfihkdaaRowPi
import Derived.Test.YtkchlgmlfihkdaaBa
namespace Go.Proofs.Ytkchlgmlfihkdaa
set_option linter.unusedSimpArgs false
set_option linter.unusedVariables false
open Go.RowKit

set_option maxHeartbeats 2000000 in
theorem sp_same (A A' : Option Addr) (n c c' : Nat) (l : List Pi) (w : World) (hn : l.length = n) (hm : n ≤ 2000000) (h : RowPi w w.heap.size A l) (h' : RowPi w w.heap.size A' l) :
    Calls Try.prog 39 #[.slice A n c, .slice A' n c'] w fun e w' => e = .returned (.bool true) ∧ Below w.heap.size w w' := by
  subst hn
  go_enter Try.func39, Try.ntmps39
  go_wp2
  go_loopw [5] (fun i wr => ∃ k : Nat, k ≤ l.length ∧ i = .int .i64 k ∧ Below w.heap.size w wr) (fun i _ => l.length - (intOf i).toNat)
  case atStart => exact ⟨0, Nat.zero_le _, rfl, bel_refl _⟩
  case round =>
    obtain ⟨k, hk, rfl, hb⟩ := hrel
    by_cases hlt : k < l.length
    · obtain ⟨b, off, rfl, hlb, hc⟩ := (h.below hb) (by omega)
      obtain ⟨b', off', rfl, hlb', hc'⟩ := (h'.below hb) (by omega)
      have hck := hc k hlt
      have hck' := hc' k hlt
      generalize atPi l k = x at hck hck'
      obtain ⟨s, a, o⟩ := x
      obtain ⟨p0, p1, p2⟩ := hck
      obtain ⟨q0, q1, q2⟩ := hck'
      simp only at p0 p1 p2 q0 q1 q2
      clear hc hc' h h'
      have hki : (k : Int) < (l.length : Int) := by omega
      have hk0 : (0 : Int) ≤ (k : Int) := by omega
      go_wp2_with fail
      have lf0 : ∀ xL : Later wr, xL.world.cell? ⟨b, off + k * 3, none⟩ = some (.int .i64 s) := fun xL => xL.at (p0)
      have lf1 : ∀ xL : Later wr, xL.world.cell? ⟨b, off + k * 3 + 1, none⟩ = some (.int .i64 a) := fun xL => xL.at (p1)
      have lf2 : ∀ xL : Later wr, xL.world.cell? ⟨b, off + k * 3 + 2, none⟩ = some (.int .i64 o) := fun xL => xL.at (p2)
      have lf3 : ∀ xL : Later wr, xL.world.cell? ⟨b', off' + k * 3, none⟩ = some (.int .i64 s) := fun xL => xL.at (q0)
      have lf4 : ∀ xL : Later wr, xL.world.cell? ⟨b', off' + k * 3 + 1, none⟩ = some (.int .i64 a) := fun xL => xL.at (q1)
      have lf5 : ∀ xL : Later wr, xL.world.cell? ⟨b', off' + k * 3 + 2, none⟩ = some (.int .i64 o) := fun xL => xL.at (q2)
      refine region_later (w0 := wr) (by kernel_rfl) (by kernel_rfl) (bel_refl _) ?_
      repeat (go_big_quiet_step ((fail)))
      refine wpQuiet_nil ?_
      rintro w' ⟨x, rfl⟩
      obtain ⟨w2, b2⟩ := x
      clear lf0 lf1 lf2 lf3 lf4 lf5
      go_wp2
      go_roundw
      case rel => exact ⟨k + 1, by omega, by go_num, by repeat (first | (with_reducible assumption) | (exact bel_undr (by with_reducible assumption)) | (with_reducible exact bel_refl _) | (with_reducible refine bel_dr ?_) | (with_reducible refine bel_drN ?_ _) | (with_reducible refine bel_al ?_ _) | (refine bel_set ?_ (by first | (simp; done) | (simp; exact Below.size (by assumption)) | (simp; omega)) _) | (with_reducible refine bel_tr ?_ (by assumption)))⟩
      case measure => simp [intOf]; omega
    · go_wp2
      go_ret
      exact ⟨rfl, hb⟩
end Go.Proofs.Ytkchlgmlfihkdaa
