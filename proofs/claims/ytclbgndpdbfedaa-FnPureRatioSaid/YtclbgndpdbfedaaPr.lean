/- The contracts of PureRatio, of the program and of the reference: for every number. -/
import Derived.Test.YtclbgndpdbfedaaFi
import Derived.BigRegion
import Derived.Deep.RegionWith
import Derived.Deep.DeepCutAuto
namespace Go.Proofs.Ytclbgndpdbfedaa
open Go.RowKit

def tN (u : Nat) : Int := ([1, 16, 9, 6, 5, 4, 45, 3, 8, 5, 9, 15, 1, 16, 9, 6, 5, 4, 45, 3, 8, 5, 9, 15, 1] : List Int).getD u 1
def tD (u : Nat) : Int := ([1, 15, 8, 5, 4, 3, 32, 2, 5, 3, 5, 8, 1, 15, 8, 5, 4, 3, 32, 2, 5, 3, 5, 8, 1] : List Int).getD u 1
def tQ (u : Nat) : Int := ([1, 16, 9, 6, 5, 4, 45, 3, 8, 5, 9, 15, 2, 32, 18, 12, 10, 8, 90, 6, 16, 10, 18, 30, 4] : List Int).getD u 1
def puN (u : Nat) : Int := ([1, 16, 9, 6, 5, 4, 45, 3, 8, 5, 9, 15, 2, 32, 9, 12, 5, 8, 45, 3, 16, 10, 18, 15, 4] : List Int).getD u 1
def puD (u : Nat) : Int := ([1, 15, 8, 5, 4, 3, 32, 2, 5, 3, 5, 8, 1, 15, 4, 5, 2, 3, 16, 1, 5, 3, 5, 4, 1] : List Int).getD u 1
theorem pu_G (u : Nat) (h : u ≤ 24) : 0 < tQ u ∧ tQ u ≤ 1000 ∧ 0 < tD u ∧ tD u ≤ 1000 ∧ tQ u / G (tQ u) (tD u) = puN u ∧ tD u / G (tQ u) (tD u) = puD u ∧ rvB (puN u) (puD u) = true ∧ backN (puN u) (puD u) = puD u ∧ backD (puN u) (puD u) = puN u := by
  have : ∀ u : Fin 25, 0 < tQ u.1 ∧ tQ u.1 ≤ 1000 ∧ 0 < tD u.1 ∧ tD u.1 ≤ 1000 ∧ tQ u.1 / G (tQ u.1) (tD u.1) = puN u.1 ∧ tD u.1 / G (tQ u.1) (tD u.1) = puD u.1 ∧ rvB (puN u.1) (puD u.1) = true ∧ backN (puN u.1) (puD u.1) = puD u.1 ∧ backD (puN u.1) (puD u.1) = puN u.1 := by decide +kernel
  exact this ⟨u, by omega⟩
theorem pr_idx (u : Nat) (h : u ≤ 24) : ∀ w : World, (Instr.index 46 (.agg #[.int .i64 1, .int .i64 1, .int .i64 16, .int .i64 15, .int .i64 9, .int .i64 8, .int .i64 6, .int .i64 5, .int .i64 5, .int .i64 4, .int .i64 4, .int .i64 3, .int .i64 45, .int .i64 32, .int .i64 3, .int .i64 2, .int .i64 8, .int .i64 5, .int .i64 5, .int .i64 3, .int .i64 9, .int .i64 5, .int .i64 15, .int .i64 8]) (.int .i64 ((u : Int) % 12))).run Try.prog w = .ok (.agg #[.int .i64 (tN u), .int .i64 (tD u)]) w := by
  match u, h with
  | 0, _ => exact fun _ => by kernel_rfl
  | 1, _ => exact fun _ => by kernel_rfl
  | 2, _ => exact fun _ => by kernel_rfl
  | 3, _ => exact fun _ => by kernel_rfl
  | 4, _ => exact fun _ => by kernel_rfl
  | 5, _ => exact fun _ => by kernel_rfl
  | 6, _ => exact fun _ => by kernel_rfl
  | 7, _ => exact fun _ => by kernel_rfl
  | 8, _ => exact fun _ => by kernel_rfl
  | 9, _ => exact fun _ => by kernel_rfl
  | 10, _ => exact fun _ => by kernel_rfl
  | 11, _ => exact fun _ => by kernel_rfl
  | 12, _ => exact fun _ => by kernel_rfl
  | 13, _ => exact fun _ => by kernel_rfl
  | 14, _ => exact fun _ => by kernel_rfl
  | 15, _ => exact fun _ => by kernel_rfl
  | 16, _ => exact fun _ => by kernel_rfl
  | 17, _ => exact fun _ => by kernel_rfl
  | 18, _ => exact fun _ => by kernel_rfl
  | 19, _ => exact fun _ => by kernel_rfl
  | 20, _ => exact fun _ => by kernel_rfl
  | 21, _ => exact fun _ => by kernel_rfl
  | 22, _ => exact fun _ => by kernel_rfl
  | 23, _ => exact fun _ => by kernel_rfl
  | 24, _ => exact fun _ => by kernel_rfl
  | n + 25, h => exact absurd h (by omega)

theorem pr_shl (u : Nat) (h : u ≤ 24) : ∀ w : World, (Op.shift .shl .i64 (tN u) .i64 (IntKind.i64.wrap ((u : Int) / 12))).run Try.prog w = .ok (.int .i64 (tQ u)) w := by
  match u, h with
  | 0, _ => exact fun _ => by kernel_rfl
  | 1, _ => exact fun _ => by kernel_rfl
  | 2, _ => exact fun _ => by kernel_rfl
  | 3, _ => exact fun _ => by kernel_rfl
  | 4, _ => exact fun _ => by kernel_rfl
  | 5, _ => exact fun _ => by kernel_rfl
  | 6, _ => exact fun _ => by kernel_rfl
  | 7, _ => exact fun _ => by kernel_rfl
  | 8, _ => exact fun _ => by kernel_rfl
  | 9, _ => exact fun _ => by kernel_rfl
  | 10, _ => exact fun _ => by kernel_rfl
  | 11, _ => exact fun _ => by kernel_rfl
  | 12, _ => exact fun _ => by kernel_rfl
  | 13, _ => exact fun _ => by kernel_rfl
  | 14, _ => exact fun _ => by kernel_rfl
  | 15, _ => exact fun _ => by kernel_rfl
  | 16, _ => exact fun _ => by kernel_rfl
  | 17, _ => exact fun _ => by kernel_rfl
  | 18, _ => exact fun _ => by kernel_rfl
  | 19, _ => exact fun _ => by kernel_rfl
  | 20, _ => exact fun _ => by kernel_rfl
  | 21, _ => exact fun _ => by kernel_rfl
  | 22, _ => exact fun _ => by kernel_rfl
  | 23, _ => exact fun _ => by kernel_rfl
  | 24, _ => exact fun _ => by kernel_rfl
  | n + 25, h => exact absurd h (by omega)


theorem back_val (n d a b : Int) (w : World) (h1 : backN n d = a) (h2 : backD n d = b) :
    Calls Try.prog 22 #[.agg #[.int .i64 n, .int .i64 d]] w fun e w' => e = .returned (.agg #[.int .i64 a, .int .i64 b]) ∧ Below w.heap.size w w' := by
  have := back_any n d w
  rw [h1, h2] at this; exact this
theorem sback_val (n d a b : Int) (w : World) (h1 : backN n d = a) (h2 : backD n d = b) :
    Calls Try.prog 21 #[.agg #[.int .i64 n, .int .i64 d]] w fun e w' => e = .returned (.agg #[.int .i64 a, .int .i64 b]) ∧ Below w.heap.size w w' := by
  have := sback_any n d w
  rw [h1, h2] at this; exact this

set_option maxHeartbeats 400000 in
theorem pr_no (x : Int) (w : World) (hh : x < -24 ∨ 24 < x) :
    Calls Try.prog 27 #[.int .i64 x] w fun e w' => e = .returned (.tuple #[.agg #[.int .i64 0, .int .i64 0], .bool false]) ∧ Below w.heap.size w w' := by
  rcases hh with hh | hh
  · go_enter Try.func27, Try.ntmps27
    go_wp2
    refine bodyPost_ret (v := .tuple #[.agg #[.int .i64 0, .int .i64 0], .bool false]) (by simp (maxDischargeDepth := 3) [results, Try.results27, go_sem, *]) rfl ⟨rfl, ?_⟩
    repeat (first | (with_reducible assumption) | (with_reducible exact bel_refl _) | (with_reducible refine bel_dr ?_) | (with_reducible refine bel_drN ?_ _) | (with_reducible refine bel_al ?_ _) | (refine bel_set ?_ (by (try simp) <;> omega) _) | (with_reducible refine bel_tr ?_ (by assumption)))
  · have hh2 : -24 ≤ x := by omega
    have hd : decide (x ≤ 24) = false := by simp; omega
    go_enter Try.func27, Try.ntmps27
    go_wp2
    refine bodyPost_ret (v := .tuple #[.agg #[.int .i64 0, .int .i64 0], .bool false]) (by simp (maxDischargeDepth := 3) [results, Try.results27, go_sem, *]) rfl ⟨rfl, ?_⟩
    repeat (first | (with_reducible assumption) | (with_reducible exact bel_refl _) | (with_reducible refine bel_dr ?_) | (with_reducible refine bel_drN ?_ _) | (with_reducible refine bel_al ?_ _) | (refine bel_set ?_ (by (try simp) <;> omega) _) | (with_reducible refine bel_tr ?_ (by assumption)))

set_option maxHeartbeats 400000 in
theorem spr_no (x : Int) (w : World) (hh : x < -24 ∨ 24 < x) :
    Calls Try.prog 26 #[.int .i64 x] w fun e w' => e = .returned (.tuple #[.agg #[.int .i64 0, .int .i64 0], .bool false]) ∧ Below w.heap.size w w' := by
  rcases hh with hh | hh
  · go_enter Try.func26, Try.ntmps26
    go_wp2
    refine bodyPost_ret (v := .tuple #[.agg #[.int .i64 0, .int .i64 0], .bool false]) (by simp (maxDischargeDepth := 3) [results, Try.results26, go_sem, *]) rfl ⟨rfl, ?_⟩
    repeat (first | (with_reducible assumption) | (with_reducible exact bel_refl _) | (with_reducible refine bel_dr ?_) | (with_reducible refine bel_drN ?_ _) | (with_reducible refine bel_al ?_ _) | (refine bel_set ?_ (by (try simp) <;> omega) _) | (with_reducible refine bel_tr ?_ (by assumption)))
  · have hh2 : -24 ≤ x := by omega
    have hd : decide (x ≤ 24) = false := by simp; omega
    go_enter Try.func26, Try.ntmps26
    go_wp2
    refine bodyPost_ret (v := .tuple #[.agg #[.int .i64 0, .int .i64 0], .bool false]) (by simp (maxDischargeDepth := 3) [results, Try.results26, go_sem, *]) rfl ⟨rfl, ?_⟩
    repeat (first | (with_reducible assumption) | (with_reducible exact bel_refl _) | (with_reducible refine bel_dr ?_) | (with_reducible refine bel_drN ?_ _) | (with_reducible refine bel_al ?_ _) | (refine bel_set ?_ (by (try simp) <;> omega) _) | (with_reducible refine bel_tr ?_ (by assumption)))

set_option maxHeartbeats 1000000 in
theorem pr_up (u : Nat) (w : World) (h : u ≤ 24) :
    Calls Try.prog 27 #[.int .i64 (u : Int)] w fun e w' => e = .returned (.tuple #[.agg #[.int .i64 (puN u), .int .i64 (puD u)], .bool true]) ∧ Below w.heap.size w w' := by
  have hix := pr_idx u h
  have hsh := pr_shl u h
  obtain ⟨t0, t1, t2, t3, g1, g2, g3, g4, g5⟩ := pu_G u h
  have G1 := Lib.hid g1
  have G2 := Lib.hid g2
  have G4 := Lib.hid g4
  have G5 := Lib.hid g5
  clear g1 g2 g4 g5
  have hnn : (0 : Int) ≤ (u : Int) := by omega
  have hn2 : (u : Int) ≤ 24 := by omega
  have hmx : max (u : Int) (-(u : Int)) = u := by omega
  go_enter Try.func27, Try.ntmps27
  go_wp2_with (go_at_call 39; refine (win_yes _ _ _ _ (by omega) (by omega)).mono ?_; rintro e w' ⟨rfl, rfl⟩)
  go_cut [] (fun wx => wx.cell? ⟨w.heap.size + 1, 0, none⟩ = some (.int .i64 (puN u)) ∧ wx.cell? ⟨w.heap.size + 1, 1, none⟩ = some (.int .i64 (puD u)) ∧ Below (w.alloc (.cells #[.int .i64 0, .int .i64 0] 25)).heap.size (w.alloc (.cells #[.int .i64 0, .int .i64 0] 25)) wx)
  case first =>
    go_region_with (go_at_call 42; refine (lt_val _ _ _ _ _ t0 t2 (by omega) (by omega) G1.out G2.out g3).mono ?_; rintro e w1 ⟨rfl, hb1⟩; obtain ⟨bc1, bf1⟩ := bcell hb1)
    all_goals
      go_wp2_with fail
      go_meet
      refine ⟨?_, ?_, ?_⟩ <;> first | ((repeat (first | (with_reducible refine set_same ?_) | (refine keep_off ?_ (by first | (simp; done) | (simp; omega))) | (simp [go_sem]; done) | (with_reducible refine some_dr ?_) | (refine some_set ?_ (by first | (simp; done) | (simp; omega))) | (with_reducible refine some_al ?_ _) | (with_reducible refine some_tr ?_ (by assumption)))); done) | ((repeat (first | (with_reducible assumption) | (exact bel_undr (by with_reducible assumption)) | (with_reducible exact bel_refl _) | (with_reducible refine bel_dr ?_) | (with_reducible refine bel_drN ?_ _) | (with_reducible refine bel_al ?_ _) | (refine bel_set ?_ (by first | (simp; done) | (simp; exact Below.size (by assumption)) | (simp; omega)) _) | (with_reducible refine bel_tr ?_ (by assumption)))); done)
  case rest =>
    obtain ⟨q1, q2, qb⟩ := hcut
    have r1 := fun o => qb.cell (p := ⟨w.heap.size, o, none⟩) (by simp)
    have r2 := fun o => qb.frozen (p := ⟨w.heap.size, o, none⟩) (by simp)
    go_wp2
    refine bodyPost_ret (v := .tuple #[.agg #[.int .i64 (puN u), .int .i64 (puD u)], .bool true]) (by simp [results, Try.results27, go_sem, r1, q1, q2]) rfl ⟨rfl, ?_⟩
    repeat (first | (with_reducible assumption) | (exact bel_undr (by with_reducible assumption)) | (with_reducible exact bel_refl _) | (with_reducible refine bel_dr ?_) | (with_reducible refine bel_drN ?_ _) | (with_reducible refine bel_al ?_ _) | (refine bel_set ?_ (by first | (simp; done) | (simp; exact Below.size (by assumption)) | (simp; omega)) _) | (with_reducible refine bel_tr ?_ (by assumption)))
set_option maxHeartbeats 1000000 in
theorem pr_dn (u : Nat) (w : World) (h1 : 1 ≤ u) (h : u ≤ 24) :
    Calls Try.prog 27 #[.int .i64 (-(u : Int))] w fun e w' => e = .returned (.tuple #[.agg #[.int .i64 (puD u), .int .i64 (puN u)], .bool true]) ∧ Below w.heap.size w w' := by
  have hix := pr_idx u h
  have hsh := pr_shl u h
  obtain ⟨t0, t1, t2, t3, g1, g2, g3, g4, g5⟩ := pu_G u h
  have G1 := Lib.hid g1
  have G2 := Lib.hid g2
  have G4 := Lib.hid g4
  have G5 := Lib.hid g5
  clear g1 g2 g4 g5
  have hnn : (0 : Int) ≤ (u : Int) := by omega
  have hn2 : (u : Int) ≤ 24 := by omega
  have hmx : max (-(u : Int)) (u : Int) = u := by omega
  go_enter Try.func27, Try.ntmps27
  go_wp2_with (go_at_call 39; refine (win_yes _ _ _ _ (by omega) (by omega)).mono ?_; rintro e w' ⟨rfl, rfl⟩)
  go_cut [] (fun wx => wx.cell? ⟨w.heap.size + 1, 0, none⟩ = some (.int .i64 (puN u)) ∧ wx.cell? ⟨w.heap.size + 1, 1, none⟩ = some (.int .i64 (puD u)) ∧ Below (w.alloc (.cells #[.int .i64 0, .int .i64 0] 25)).heap.size (w.alloc (.cells #[.int .i64 0, .int .i64 0] 25)) wx)
  case first =>
    go_region_with (go_at_call 42; refine (lt_val _ _ _ _ _ t0 t2 (by omega) (by omega) G1.out G2.out g3).mono ?_; rintro e w1 ⟨rfl, hb1⟩; obtain ⟨bc1, bf1⟩ := bcell hb1)
    all_goals
      go_wp2_with fail
      go_meet
      refine ⟨?_, ?_, ?_⟩ <;> first | ((repeat (first | (with_reducible refine set_same ?_) | (refine keep_off ?_ (by first | (simp; done) | (simp; omega))) | (simp [go_sem]; done) | (with_reducible refine some_dr ?_) | (refine some_set ?_ (by first | (simp; done) | (simp; omega))) | (with_reducible refine some_al ?_ _) | (with_reducible refine some_tr ?_ (by assumption)))); done) | ((repeat (first | (with_reducible assumption) | (exact bel_undr (by with_reducible assumption)) | (with_reducible exact bel_refl _) | (with_reducible refine bel_dr ?_) | (with_reducible refine bel_drN ?_ _) | (with_reducible refine bel_al ?_ _) | (refine bel_set ?_ (by first | (simp; done) | (simp; exact Below.size (by assumption)) | (simp; omega)) _) | (with_reducible refine bel_tr ?_ (by assumption)))); done)
  case rest =>
    obtain ⟨q1, q2, qb⟩ := hcut
    have r1 := fun o => qb.cell (p := ⟨w.heap.size, o, none⟩) (by simp)
    have r2 := fun o => qb.frozen (p := ⟨w.heap.size, o, none⟩) (by simp)
    have hneg : -(u : Int) < 0 := by omega
    go_wp2_with (go_at_call 22; refine (back_val _ _ _ _ _ G4.out G5.out).mono ?_; rintro e w1 ⟨rfl, hb1⟩; obtain ⟨c1_0, f1_0⟩ := cel hb1 w.heap.size (Nat.lt_of_lt_of_le (by simp) qb.size))
    refine bodyPost_ret (v := .tuple #[.agg #[.int .i64 (puD u), .int .i64 (puN u)], .bool true]) (by simp [results, Try.results27, go_sem, *]) rfl ⟨rfl, ?_⟩
    repeat (first | (with_reducible assumption) | (exact bel_undr (by with_reducible assumption)) | (with_reducible exact bel_refl _) | (with_reducible refine bel_dr ?_) | (with_reducible refine bel_drN ?_ _) | (with_reducible refine bel_al ?_ _) | (refine bel_set ?_ (by first | (simp; done) | (simp; exact Below.size (by assumption)) | (simp; omega)) _) | (with_reducible refine bel_tr ?_ (by assumption)))
end Go.Proofs.Ytclbgndpdbfedaa
