/- A voice, tempos and a loudness, drawn. -/
import Derived.Test.YtjfiknnclkilbaaDrV
import Derived.Test.YtjfiknnclkilbaaTps
import Derived.Deep.RegionWith
import Derived.Deep.DrawnRows
namespace Go.Proofs.Ytjfiknnclkilbaa
open Go.RowKit
attribute [local go_sem ↓] Go.wp_at_zero Go.wp_at_succ

theorem pf_lit {v : Int} (v0 : 0 ≤ v) (v1 : v < 7) : ∃ t u : Int, (∀ h, (#[Value.int .i64 0, Value.int .i64 0, Value.int .i64 0, Value.int .i64 1, Value.int .i64 2, Value.int .i64 3, Value.int .i64 4] : Array Value)[v.toNat]'h = .int .i64 t) ∧ (0 ≤ t ∧ t < 5) ∧ (∀ h, (#[Value.int .i64 64, Value.int .i64 1, Value.int .i64 127, Value.int .i64 0, Value.int .i64 128] : Array Value)[t.toNat]'h = .int .i64 u) := by
  rcases (show v = 0 ∨ v = 1 ∨ v = 2 ∨ v = 3 ∨ v = 4 ∨ v = 5 ∨ v = 6 from by omega) with rfl | rfl | rfl | rfl | rfl | rfl | rfl <;> exact ⟨_, _, fun _ => rfl, by omega, fun _ => rfl⟩

def DrPf (w : World) (e : Ending) (w' : World) : Prop := ∃ (A A' : Option Addr) (c c' : Nat) (l : List Nt) (T : List Tp) (loud : Int), e = .returned (.tuple #[.slice A l.length c, .slice A' T.length c', .int .i64 loud]) ∧
  (l.length ≤ c ∧ c ≤ maxLen ∧ l.length ≤ 70) ∧ (T.length ≤ c' ∧ c' ≤ maxLen ∧ T.length ≤ 4) ∧ RowNt w' w'.heap.size A l ∧ RowTp w' w'.heap.size A' T ∧ Below w.heap.size w w'
theorem drpf_end {w w3 wf : World} {v v' : Value} {l : List Nt} {T : List Tp} {loud : Int} {b1 b2 : Nat} (o1 : w3.ownsRow b1 54 6 v l.length (flat csNt l)) (o2 : w3.ownsRow b2 57 2 v' T.length (flat csTp T)) (h1 : w.heap.size < b1) (h2 : w.heap.size < b2) (l7 : l.length ≤ 70) (t4 : T.length ≤ 4) (k3 : Onb w.heap.size w w3) (kf : Onb w.heap.size w3 wf) :
    DrPf w (.returned (.tuple #[v, v', .int .i64 loud])) wf := by
  obtain ⟨A1, c1, rfl, lc, cm, hr, _⟩ := own_rowNt (own_onb o1 kf h1)
  obtain ⟨A2, c2, rfl, lc2, cm2, hr2, _⟩ := tps_row (own_onb o2 kf h2)
  exact ⟨A1, A2, c1, c2, l, T, loud, rfl, ⟨lc, cm, l7⟩, ⟨lc2, cm2, t4⟩, hr, hr2, (k3.trans kf).below (Nat.le_refl _) (Nat.le_refl _)⟩
set_option maxHeartbeats 8000000 in
theorem DrawPerform_any (w : World) (A : Option Addr) (len cap : Nat) (h : Cod w A len cap) : Calls Try.prog 31 #[.slice A len cap] w (DrPf w) := by
  go_enter Try.func31, Try.ntmps31
  go_wp2_with fail
  refine (open_eq _ A len cap h.lc h.cm).mono ?_
  rintro e w1 ⟨rfl, rfl⟩
  have r1 := open_ok w A len cap w.heap.size (Nat.le_refl _) h.bt
  have k1 : Onb w.heap.size w (w.alloc (.cells #[.slice A (min len 2000) cap, .int .i64 0] 79)) := Onb.of_bel (bel_al (bel_refl _) _)
  go_wp2_with fail
  refine (voice_any _ _ _ _ _ _ _ _ r1 (by omega)).mono ?_
  rintro e w2 ⟨v, l, rfl, l7, own2, o2, p2, hp2, r2⟩
  have k2 := k1.trans o2
  have ownA : w2.ownsRow (w.heap.size + 1) 54 6 v l.length (flat csNt l) := by simpa using own2
  clear own2
  have hw2 : w.heap.size + 1 ≤ w2.heap.size := by have := o2.size; simpa using this
  clear k1 o2 r1
  generalize min len 2000 = len' at *
  go_wp2_with fail
  refine (tempos_any _ _ _ _ _ _ _ _ r2 (by omega)).mono ?_
  rintro e w3 ⟨v', T, rfl, t4, own3, o3, p3, hp3, r3⟩
  have k3 := k2.trans o3
  have g3 := r3.gl
  have OWN2 := Lib.hid (own_onb ownA o3 (by omega))
  have OWN3 := Lib.hid own3
  clear ownA own3 k2 o3 r2
  go_wp2_with fail
  go_region_with ((go_at_call 47; refine (pick_fr _ _ ?_ ?_ ?_ ?_ ?_ (7) ?_ ?_).mono ?_; rotate_left 5; (focus (repeat (first | (with_reducible assumption) | (with_reducible refine Rd.drew ?_) | (with_reducible refine Rd.drewN ?_ _) | (with_reducible refine Rd.alloc ?_ _)))); (focus omega); rintro e w_c ⟨c, rfl, ⟨c0, c1, _⟩, o_c, r_c⟩; have c1 := c1 (by omega); have s_c : w3.heap.size ≤ w_c.heap.size := (by have := o_c.size; (try simp at this); omega); (try have t_c0 : w3.heap.size < w_c.heap.size := (by have := o_c.size; (try simp at this); omega)); (try have t_c1 : w3.heap.size + 1 < w_c.heap.size := (by have := o_c.size; (try simp at this); omega)); have c_c0 := fun o => o_c.cell (w3.heap.size) o (by omega); have c_c1 := fun o => o_c.cell (w3.heap.size + 1) o (by omega); obtain ⟨t, u, hu, ⟨u0, u1⟩, ht⟩ := pf_lit c0 c1; have _hu := hu (by simp; omega); have _ht := ht (by simp; omega)))
  all_goals
    go_wp2
    exact bodyPost_ret (v := .tuple #[v, v', .int .i64 u]) (by simp [results, Try.results31, go_sem]) rfl (drpf_end OWN2.out OWN3.out (by omega) (by omega) l7 t4 k3 (by repeat (first | (with_reducible assumption) | (with_reducible exact Onb.refl _ _) | (with_reducible refine Onb.drew ?_) | (with_reducible refine Onb.drewN ?_ _) | (with_reducible refine Onb.alloc ?_ _) | (with_reducible refine Onb.trans ?_ (Onb.of_onl (by with_reducible assumption))) | (with_reducible refine Onb.trans ?_ (by with_reducible assumption)))))
end Go.Proofs.Ytjfiknnclkilbaa
