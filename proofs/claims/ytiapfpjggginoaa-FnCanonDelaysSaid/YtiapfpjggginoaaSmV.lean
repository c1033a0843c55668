/- Two voices compared by the laws. -/
import Derived.Test.YtiapfpjggginoaaRowNt
import Derived.Test.YtiapfpjggginoaaBa
import Derived.Test.YtiapfpjggginoaaBc
namespace Go.Proofs.Ytiapfpjggginoaa
set_option linter.unusedSimpArgs false
set_option linter.unusedVariables false
open Go.RowKit

set_option maxRecDepth 20000 in
set_option maxHeartbeats 2000000 in
/-- two voices that read alike -/
theorem sm_same (A A' : Option Addr) (n c c' : Nat) (l : List Nt) (w : World) (hn : l.length = n) (hm : n ≤ 2000000) (h : RowNt w w.heap.size A l) (h' : RowNt w w.heap.size A' l) :
    Calls Try.prog 36 #[.slice A n c, .slice A' n c'] w fun e w' => e = .returned (.bool true) ∧ Below w.heap.size w w' := by
  subst hn
  go_enter Try.func36, Try.ntmps36
  go_wp2
  go_loopw [5] (fun i wr => ∃ k : Nat, k ≤ l.length ∧ i = .int .i64 k ∧ Below w.heap.size w wr) (fun i _ => l.length - (intOf i).toNat)
  case atStart => exact ⟨0, Nat.zero_le _, rfl, bel_refl _⟩
  case round =>
    obtain ⟨k, hk, rfl, hb⟩ := hrel
    by_cases hlt : k < l.length
    · obtain ⟨b, off, rfl, hlb, hc⟩ := (h.below hb) (by omega)
      obtain ⟨b', off', rfl, hlb', hc'⟩ := (h'.below hb) (by omega)
      have hck := hc k hlt
      have hck' := hc' k hlt
      generalize atNt l k = x at hck hck'
      obtain ⟨r, s, a, o, t, d⟩ := x
      obtain ⟨p0, p1, p2, p3, p4, p5⟩ := hck
      obtain ⟨q0, q1, q2, q3, q4, q5⟩ := hck'
      simp only at p0 p1 p2 p3 p4 p5 q0 q1 q2 q3 q4 q5
      clear hc hc' h h'
      have hki : (k : Int) < (l.length : Int) := by omega
      have hk0 : (0 : Int) ≤ (k : Int) := by omega
      go_wp2_with fail
      have lf0 : ∀ xL : Later wr, xL.world.cell? ⟨b, off + k * 6, none⟩ = some (.bool r) := fun xL => xL.at (p0)
      have lf1 : ∀ xL : Later wr, xL.world.cell? ⟨b, off + k * 6 + 1, none⟩ = some (.int .i64 s) := fun xL => xL.at (p1)
      have lf2 : ∀ xL : Later wr, xL.world.cell? ⟨b, off + k * 6 + 2, none⟩ = some (.int .i64 a) := fun xL => xL.at (p2)
      have lf3 : ∀ xL : Later wr, xL.world.cell? ⟨b, off + k * 6 + 3, none⟩ = some (.int .i64 o) := fun xL => xL.at (p3)
      have lf4 : ∀ xL : Later wr, xL.world.cell? ⟨b, off + k * 6 + 4, none⟩ = some (.int .i64 t) := fun xL => xL.at (p4)
      have lf5 : ∀ xL : Later wr, xL.world.cell? ⟨b, off + k * 6 + 5, none⟩ = some (.bool d) := fun xL => xL.at (p5)
      have lf6 : ∀ xL : Later wr, xL.world.cell? ⟨b', off' + k * 6, none⟩ = some (.bool r) := fun xL => xL.at (q0)
      have lf7 : ∀ xL : Later wr, xL.world.cell? ⟨b', off' + k * 6 + 1, none⟩ = some (.int .i64 s) := fun xL => xL.at (q1)
      have lf8 : ∀ xL : Later wr, xL.world.cell? ⟨b', off' + k * 6 + 2, none⟩ = some (.int .i64 a) := fun xL => xL.at (q2)
      have lf9 : ∀ xL : Later wr, xL.world.cell? ⟨b', off' + k * 6 + 3, none⟩ = some (.int .i64 o) := fun xL => xL.at (q3)
      have lf10 : ∀ xL : Later wr, xL.world.cell? ⟨b', off' + k * 6 + 4, none⟩ = some (.int .i64 t) := fun xL => xL.at (q4)
      have lf11 : ∀ xL : Later wr, xL.world.cell? ⟨b', off' + k * 6 + 5, none⟩ = some (.bool d) := fun xL => xL.at (q5)
      refine region_later (w0 := wr) (by kernel_rfl) (by kernel_rfl) (bel_refl _) ?_
      repeat (go_big_quiet_step ((fail)))
      refine wpQuiet_nil ?_
      rintro w' ⟨x, rfl⟩
      obtain ⟨w2, b2⟩ := x
      clear lf0 lf1 lf2 lf3 lf4 lf5 lf6 lf7 lf8 lf9 lf10 lf11
      go_wp2
      go_roundw
      case rel => exact ⟨k + 1, by omega, by go_num, by repeat (first | (with_reducible assumption) | (exact bel_undr (by with_reducible assumption)) | (with_reducible exact bel_refl _) | (with_reducible refine bel_dr ?_) | (with_reducible refine bel_drN ?_ _) | (with_reducible refine bel_al ?_ _) | (refine bel_set ?_ (by first | (simp; done) | (simp; exact Below.size (by assumption)) | (simp; omega)) _) | (with_reducible refine bel_tr ?_ (by assumption)))⟩
      case measure => simp [intOf]; omega
    · go_wp2
      go_ret
      exact ⟨rfl, hb⟩
end Go.Proofs.Ytiapfpjggginoaa
