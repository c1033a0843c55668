/- Tempos with a tick, and with a time, drawn. -/
import Derived.Test.YtjfiknnclkilbaaTps
import Derived.Deep.RegionWith
import Derived.Deep.DrawnRows
namespace Go.Proofs.Ytjfiknnclkilbaa
open Go.RowKit
attribute [local go_sem ↓] Go.wp_at_zero Go.wp_at_succ

theorem lit_seven {v : Int} (v0 : 0 ≤ v) (v1 : v < 7) : ∃ t : Int, (∀ h, (#[Value.int .i64 0, Value.int .i64 0, Value.int .i64 0, Value.int .i64 1, Value.int .i64 2, Value.int .i64 3, Value.int .i64 4] : Array Value)[v.toNat]'h = .int .i64 t) ∧ (0 ≤ t ∧ t < 5) := by
  rcases (show v = 0 ∨ v = 1 ∨ v = 2 ∨ v = 3 ∨ v = 4 ∨ v = 5 ∨ v = 6 from by omega) with rfl | rfl | rfl | rfl | rfl | rfl | rfl <;> exact ⟨_, fun _ => rfl, by omega⟩
theorem lit_six {v : Int} (v0 : 0 ≤ v) (v1 : v < 6) : ∃ t : Int, (∀ h, (#[Value.int .i64 0, Value.int .i64 0, Value.int .i64 0, Value.int .i64 1, Value.int .i64 2, Value.int .i64 3] : Array Value)[v.toNat]'h = .int .i64 t) ∧ (0 ≤ t ∧ t < 4) := by
  rcases (show v = 0 ∨ v = 1 ∨ v = 2 ∨ v = 3 ∨ v = 4 ∨ v = 5 from by omega) with rfl | rfl | rfl | rfl | rfl | rfl <;> exact ⟨_, fun _ => rfl, by omega⟩
theorem lit_5 {a b : Int} (ha : 0 ≤ a ∧ a < 256) (hb : 0 ≤ b ∧ b < 256) {u : Int} (u0 : 0 ≤ u) (u1 : u < 5) : ∃ t : Int, (∀ h, (#[Value.int .i64 a, Value.int .i64 (b * 190), Value.int .i64 50000, Value.int .i64 (-1), Value.int .i64 50001] : Array Value)[u.toNat]'h = .int .i64 t) ∧ (-1 ≤ t ∧ t ≤ 9223372036854775807) := by
  rcases (show u = 0 ∨ u = 1 ∨ u = 2 ∨ u = 3 ∨ u = 4 from by omega) with rfl | rfl | rfl | rfl | rfl <;> exact ⟨_, fun _ => rfl, by omega⟩
theorem lit_4 {a b : Int} (ha : 0 ≤ a ∧ a < 256) (hb : 0 ≤ b ∧ b < 256) {u : Int} (u0 : 0 ≤ u) (u1 : u < 4) : ∃ t : Int, (∀ h, (#[Value.int .i64 (a * 4001), Value.int .i64 b, Value.int .i64 (-1), Value.int .i64 9223372036854775807] : Array Value)[u.toNat]'h = .int .i64 t) ∧ (-1 ≤ t ∧ t ≤ 9223372036854775807) := by
  rcases (show u = 0 ∨ u = 1 ∨ u = 2 ∨ u = 3 from by omega) with rfl | rfl | rfl | rfl <;> exact ⟨_, fun _ => rfl, by omega⟩
/-- a slice of tempos and a number that were drawn -/
def DrTI (w : World) (e : Ending) (w' : World) : Prop := ∃ (A : Option Addr) (cap : Nat) (l : List Tp) (t : Int), e = .returned (.tuple #[.slice A l.length cap, .int .i64 t]) ∧ l.length ≤ cap ∧ cap ≤ maxLen ∧ l.length ≤ 4 ∧ -1 ≤ t ∧ t ≤ 9223372036854775807 ∧ RowTp w' w'.heap.size A l ∧ Below w.heap.size w w'
theorem drti_end {w w2 wf : World} {v : Value} {l : List Tp} {t : Int} (own2 : w2.ownsRow (w.heap.size + 1) 57 2 v l.length (flat csTp l)) (l4 : l.length ≤ 4) (t0 : -1 ≤ t ∧ t ≤ 9223372036854775807) (k2 : Onb w.heap.size w w2) (kf : Onb w.heap.size w2 wf) : DrTI w (.returned (.tuple #[v, .int .i64 t])) wf := by
  obtain ⟨A2, c2, rfl, lc, cm, hr, _⟩ := tps_row (own_onb own2 kf (by omega))
  exact ⟨A2, c2, l, t, rfl, lc, cm, l4, t0.1, t0.2, hr, (k2.trans kf).below (Nat.le_refl _) (Nat.le_refl _)⟩

set_option maxHeartbeats 8000000 in
theorem DrawTimeOf_any (w : World) (A : Option Addr) (len cap : Nat) (h : Cod w A len cap) : Calls Try.prog 28 #[.slice A len cap] w (DrTI w) := by
  go_enter Try.func28, Try.ntmps28
  go_wp2_with fail
  refine (open_eq _ A len cap h.lc h.cm).mono ?_
  rintro e w1 ⟨rfl, rfl⟩
  have r1 := open_ok w A len cap w.heap.size (Nat.le_refl _) h.bt
  have k1 : Onb w.heap.size w (w.alloc (.cells #[.slice A (min len 2000) cap, .int .i64 0] 79)) := Onb.of_bel (bel_al (bel_refl _) _)
  go_wp2_with fail
  refine (tempos_any _ _ _ _ _ _ _ _ r1 (by omega)).mono ?_
  rintro e w2 ⟨v, l, rfl, l4, own2, o2, p2, hp2, r2⟩
  have k2 := k1.trans o2
  have g2 := r2.gl
  have own2 : w2.ownsRow (w.heap.size + 1) 57 2 v l.length (flat csTp l) := by simpa using own2
  have OWN2 := Lib.hid own2
  clear own2
  clear k1 o2 r1
  generalize min len 2000 = len' at *
  go_wp2_with fail
  go_region_with (first | (go_at_call_of 47 (Value.int IntKind.i64 7); refine (pick_fr _ _ ?_ ?_ ?_ ?_ ?_ (7) ?_ ?_).mono ?_; rotate_left 5; (focus (repeat (first | (with_reducible assumption) | (with_reducible refine Rd.drew ?_) | (with_reducible refine Rd.drewN ?_ _) | (with_reducible refine Rd.alloc ?_ _)))); (focus omega); rintro e w_c ⟨c, rfl, ⟨c0, c1, _⟩, o_c, r_c⟩; have c1 := c1 (by omega); have s_c : w_b.heap.size ≤ w_c.heap.size := (by have := o_c.size; (try simp at this); omega); (try have t_c0 : w2.heap.size < w_c.heap.size := (by have := o_c.size; (try simp at this); omega)); (try have t_c1 : w_a.heap.size < w_c.heap.size := (by have := o_c.size; (try simp at this); omega)); (try have t_c2 : w_b.heap.size < w_c.heap.size := (by have := o_c.size; (try simp at this); omega)); (try have t_c3 : w_b.heap.size + 1 < w_c.heap.size := (by have := o_c.size; (try simp at this); omega)); have c_c0 := fun o => o_c.cell (w2.heap.size) o (by omega); have c_c1 := fun o => o_c.cell (w_a.heap.size) o (by omega); have c_c2 := fun o => o_c.cell (w_b.heap.size) o (by omega); have c_c3 := fun o => o_c.cell (w_b.heap.size + 1) o (by omega); obtain ⟨u, hu, u0, u1⟩ := lit_seven c0 c1; obtain ⟨t, ht, t0⟩ := lit_5 ⟨a0, a1⟩ ⟨b0, b1⟩ u0 u1; have _hu := hu (by simp; omega); have _ht := ht (by simp; omega)) | (go_at_call_of 47 (Value.int IntKind.i64 256); have _ := a0; refine (pick_fr _ _ ?_ ?_ ?_ ?_ ?_ (256) ?_ ?_).mono ?_; rotate_left 5; (focus (repeat (first | (with_reducible assumption) | (with_reducible refine Rd.drew ?_) | (with_reducible refine Rd.drewN ?_ _) | (with_reducible refine Rd.alloc ?_ _)))); (focus omega); rintro e w_b ⟨b, rfl, ⟨b0, b1, _⟩, o_b, r_b⟩; have b1 := b1 (by omega); have wb := IntWalk.i64_in (b * 190) (by omega); have s_b : w_a.heap.size ≤ w_b.heap.size := (by have := o_b.size; (try simp at this); omega); (try have t_b0 : w2.heap.size < w_b.heap.size := (by have := o_b.size; (try simp at this); omega)); (try have t_b1 : w_a.heap.size < w_b.heap.size := (by have := o_b.size; (try simp at this); omega)); have c_b0 := fun o => o_b.cell (w2.heap.size) o (by omega); have c_b1 := fun o => o_b.cell (w_a.heap.size) o (by omega)) | (go_at_call_of 47 (Value.int IntKind.i64 256); refine (pick_fr _ _ ?_ ?_ ?_ ?_ ?_ (256) ?_ ?_).mono ?_; rotate_left 5; (focus (repeat (first | (with_reducible assumption) | (with_reducible refine Rd.drew ?_) | (with_reducible refine Rd.drewN ?_ _) | (with_reducible refine Rd.alloc ?_ _)))); (focus omega); rintro e w_a ⟨a, rfl, ⟨a0, a1, _⟩, o_a, r_a⟩; have a1 := a1 (by omega); have s_a : w2.heap.size ≤ w_a.heap.size := (by have := o_a.size; (try simp at this); omega); (try have t_a0 : w2.heap.size < w_a.heap.size := (by have := o_a.size; (try simp at this); omega)); have c_a0 := fun o => o_a.cell (w2.heap.size) o (by omega)))
  all_goals
    go_wp2
    go_ret2
    exact drti_end OWN2.out l4 t0 k2 (by repeat (first | (with_reducible assumption) | (with_reducible exact Onb.refl _ _) | (with_reducible refine Onb.drew ?_) | (with_reducible refine Onb.drewN ?_ _) | (with_reducible refine Onb.alloc ?_ _) | (with_reducible refine Onb.trans ?_ (Onb.of_onl (by with_reducible assumption))) | (with_reducible refine Onb.trans ?_ (by with_reducible assumption))))
end Go.Proofs.Ytjfiknnclkilbaa
