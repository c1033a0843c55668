/- The contract of PureRatio of the reference. -/
import Derived.Test.YtgjjoaffmflbgaaPr
import Derived.Deep.RegionHeld3
namespace Go.Proofs.Ytgjjoaffmflbgaa
set_option linter.unusedSimpArgs false
set_option linter.unusedVariables false
open Go.RowKit

theorem tab_num (u : Nat) (h : u ≤ 24) (w : World) (n : Nat) (hn : n = w.heap.size) : (w.alloc (.cells #[.int .i64 1, .int .i64 16, .int .i64 9, .int .i64 6, .int .i64 5, .int .i64 4, .int .i64 45, .int .i64 3, .int .i64 8, .int .i64 5, .int .i64 9, .int .i64 15] 3)).cell? ⟨n, ((u : Int) % 12).toNat, none⟩ = some (.int .i64 (tN u)) := by
  rw [World.cell?_alloc_at (hn := hn)]
  match u, h with
  | 0, _ => exact rfl
  | 1, _ => exact rfl
  | 2, _ => exact rfl
  | 3, _ => exact rfl
  | 4, _ => exact rfl
  | 5, _ => exact rfl
  | 6, _ => exact rfl
  | 7, _ => exact rfl
  | 8, _ => exact rfl
  | 9, _ => exact rfl
  | 10, _ => exact rfl
  | 11, _ => exact rfl
  | 12, _ => exact rfl
  | 13, _ => exact rfl
  | 14, _ => exact rfl
  | 15, _ => exact rfl
  | 16, _ => exact rfl
  | 17, _ => exact rfl
  | 18, _ => exact rfl
  | 19, _ => exact rfl
  | 20, _ => exact rfl
  | 21, _ => exact rfl
  | 22, _ => exact rfl
  | 23, _ => exact rfl
  | 24, _ => exact rfl
  | n + 25, h => exact absurd h (by omega)
theorem tab_den (u : Nat) (h : u ≤ 24) (w : World) (n : Nat) (hn : n = w.heap.size) : (w.alloc (.cells #[.int .i64 1, .int .i64 15, .int .i64 8, .int .i64 5, .int .i64 4, .int .i64 3, .int .i64 32, .int .i64 2, .int .i64 5, .int .i64 3, .int .i64 5, .int .i64 8] 3)).cell? ⟨n, ((u : Int) % 12).toNat, none⟩ = some (.int .i64 (tD u)) := by
  rw [World.cell?_alloc_at (hn := hn)]
  match u, h with
  | 0, _ => exact rfl
  | 1, _ => exact rfl
  | 2, _ => exact rfl
  | 3, _ => exact rfl
  | 4, _ => exact rfl
  | 5, _ => exact rfl
  | 6, _ => exact rfl
  | 7, _ => exact rfl
  | 8, _ => exact rfl
  | 9, _ => exact rfl
  | 10, _ => exact rfl
  | 11, _ => exact rfl
  | 12, _ => exact rfl
  | 13, _ => exact rfl
  | 14, _ => exact rfl
  | 15, _ => exact rfl
  | 16, _ => exact rfl
  | 17, _ => exact rfl
  | 18, _ => exact rfl
  | 19, _ => exact rfl
  | 20, _ => exact rfl
  | 21, _ => exact rfl
  | 22, _ => exact rfl
  | 23, _ => exact rfl
  | 24, _ => exact rfl
  | n + 25, h => exact absurd h (by omega)

set_option maxHeartbeats 1000000 in
theorem spr_up (u : Nat) (w : World) (h : u ≤ 24) :
    Calls Try.prog 52 #[.int .i64 ((u : Int))] w fun e w' => e = .returned (.tuple #[.agg #[.int .i64 (puN u), .int .i64 (puD u)], .bool true]) ∧ Below w.heap.size w w' := by
  have hsh := pr_shl u h
  obtain ⟨t0, t1, t2, t3, g1, g2, g3, g4, g5⟩ := pu_G u h
  have G1 := Lib.hid g1
  have G2 := Lib.hid g2
  have G4 := Lib.hid g4
  have G5 := Lib.hid g5
  clear g1 g2 g4 g5
  have hnn : (0 : Int) ≤ (u : Int) := by omega
  have hn2 : (u : Int) ≤ 24 := by omega
  have hmx : max (u : Int) (-(u : Int)) = u := by omega
  have hi0 : (0 : Int) ≤ (u : Int) % 12 := by omega
  have hi1 : (u : Int) % 12 < 12 := by omega
  have tn := tab_num u h
  have td := tab_den u h
  go_enter Try.func52, Try.ntmps52
  go_upto_region 5 with (go_at_call 26; refine (swin_yes _ _ _ _ (by omega) (by omega)).mono ?_; rintro e w' ⟨rfl, rfl⟩)
  go_cut [6] (fun s6 wx => s6 = .int .i64 u ∧ wx.cell? ⟨w.heap.size + 1, ((u : Int) % 12).toNat, none⟩ = some (.int .i64 (tN u)) ∧ wx.cell? ⟨w.heap.size + 1 + 1, ((u : Int) % 12).toNat, none⟩ = some (.int .i64 (tD u)) ∧ wx.cell? ⟨w.heap.size, 0, none⟩ = some (.int .i64 0) ∧ wx.cell? ⟨w.heap.size, 1, none⟩ = some (.int .i64 0) ∧ wx.frozen? ⟨w.heap.size, 0, none⟩ = false ∧ wx.frozen? ⟨w.heap.size, 1, none⟩ = false ∧ Below w.heap.size w wx)
  case first =>
    go_wp2
    go_meet
    refine ⟨rfl, ?_, ?_, ?_, ?_, ?_, ?_, ?_⟩ <;> first | exact td _ _ (by simp) | exact keep_al (tn _ _ (by simp)) _ | ((repeat (first | (with_reducible refine set_same ?_) | (refine keep_off ?_ (by first | (simp; done) | (simp; omega))) | (simp [go_sem]; done) | (with_reducible refine some_dr ?_) | (refine some_set ?_ (by first | (simp; done) | (simp; omega))) | (with_reducible refine some_al ?_ _) | (with_reducible refine some_tr ?_ (by assumption)))); done) | (simp [go_sem]; done) | ((repeat (first | (with_reducible assumption) | (exact bel_undr (by with_reducible assumption)) | (with_reducible exact bel_refl _) | (with_reducible refine bel_dr ?_) | (with_reducible refine bel_drN ?_ _) | (with_reducible refine bel_al ?_ _) | (refine bel_set ?_ (by first | (simp; done) | (simp; exact Below.size (by assumption)) | (simp; omega)) _) | (with_reducible refine bel_tr ?_ (by assumption)))); done)
  case rest =>
    obtain ⟨rfl, q1, q2, q3, q4, z1, z2, qb⟩ := hcut
    have l1 := World.block_lt_of_cell? _ _ q1
    have l2 := World.block_lt_of_cell? _ _ q2
    have l3 := World.block_lt_of_cell? _ _ q3
    simp only at l1 l2 l3
    clear tn td 
    have hm1 : Int.tmod (u : Int) 12 = (u : Int) % 12 := Int.tmod_eq_emod_of_nonneg hnn
    have hm2 : IntKind.i64.wrap ((u : Int) % 12) = (u : Int) % 12 := IntWalk.i64_in _ (by omega)
    go_upto_region 6 with fail
    go_cut [7] (fun s7 wx => ∃ g : Nat, w.heap.size < g ∧ s7 = .pointer (some ⟨g, 0, none⟩) ∧ wx.cell? ⟨w.heap.size, 0, none⟩ = some (.int .i64 0) ∧ wx.cell? ⟨w.heap.size, 1, none⟩ = some (.int .i64 0) ∧ wx.cell? ⟨g, 0, none⟩ = some (.int .i64 (puN u)) ∧ wx.cell? ⟨g, 1, none⟩ = some (.int .i64 (puD u)) ∧ wx.frozen? ⟨w.heap.size, 0, none⟩ = false ∧ wx.frozen? ⟨w.heap.size, 1, none⟩ = false ∧ wx.frozen? ⟨g, 0, none⟩ = false ∧ wx.frozen? ⟨g, 1, none⟩ = false ∧ Below w.heap.size w wx)
    case first =>
      go_region_held3 (fun W => W.cell? ⟨w.heap.size + 1, ((u : Int) % 12).toNat, none⟩ = some (.int .i64 (tN u)) ∧ W.cell? ⟨w.heap.size + 1 + 1, ((u : Int) % 12).toNat, none⟩ = some (.int .i64 (tD u)) ∧ W.cell? ⟨w.heap.size, 0, none⟩ = some (.int .i64 0) ∧ W.cell? ⟨w.heap.size, 1, none⟩ = some (.int .i64 0) ∧ Below w.heap.size w W) (((try go_split_ands); (repeat' (with_reducible refine And.intro ?_ ?_)) <;> (first | (with_reducible assumption) | ((repeat (first | (with_reducible assumption) | (exact keep_undr (by with_reducible assumption)) | (simp [go_sem]; done) | (with_reducible refine keep_dr ?_) | (with_reducible refine keep_drN ?_ _) | (with_reducible refine keep_al ?_ _) | (refine keep_set ?_ (by first | (simp; done) | (simp; omega) | omega)) | (with_reducible refine keep_tr ?_ (by assumption)))); done) | ((repeat (first | (with_reducible assumption) | (exact bel_undr (by with_reducible assumption)) | (with_reducible exact bel_refl _) | (with_reducible refine bel_dr ?_) | (with_reducible refine bel_drN ?_ _) | (with_reducible refine bel_al ?_ _) | (refine bel_set ?_ (by first | (simp; done) | (simp; exact Below.size (by assumption)) | (simp; omega)) _) | (with_reducible refine bel_tr ?_ (by assumption)))); done) | (simp [go_sem]; done) | go_keep))) (first | (go_at_call 46; refine (slt_val _ _ _ _ _ t0 t2 (by omega) (by omega) G1.out G2.out g3).mono ?_; rintro e1 w1 ⟨rfl, hb1⟩; obtain ⟨bc1, bf1, sl1, se1, sk1⟩ := bfacts hb1; have hz1 := hb1.size; (try simp at hz1)))
      all_goals
        go_wp2_with fail
        go_meet
        go_split_ands
        refine ⟨_, ?_, rfl, ?_, ?_, ?_, ?_, ?_, ?_, ?_, ?_, ?_⟩ <;> first | omega | (simp [go_sem]; done) | ((repeat (first | (with_reducible refine set_same ?_) | (refine keep_off ?_ (by first | (simp; done) | (simp; omega))) | (simp [go_sem]; done) | (with_reducible refine some_dr ?_) | (refine some_set ?_ (by first | (simp; done) | (simp; omega))) | (with_reducible refine some_al ?_ _) | (with_reducible refine some_tr ?_ (by assumption)))); done) | ((repeat (first | (with_reducible assumption) | (exact keep_undr (by with_reducible assumption)) | (simp [go_sem]; done) | (with_reducible refine keep_dr ?_) | (with_reducible refine keep_drN ?_ _) | (with_reducible refine keep_al ?_ _) | (refine keep_set ?_ (by first | (simp; done) | (simp; omega) | omega)) | (with_reducible refine keep_tr ?_ (by assumption)))); done) | ((repeat (first | (with_reducible assumption) | (simp [go_sem]; done) | (with_reducible refine fz_dr ?_) | (with_reducible refine fz_set ?_) | (refine fz_al ?_ (by (try simp) <;> omega) _) | (refine fz_tr ?_ (by assumption) (by (try simp) <;> omega)))); done) | ((repeat (first | (with_reducible assumption) | (exact bel_undr (by with_reducible assumption)) | (with_reducible exact bel_refl _) | (with_reducible refine bel_dr ?_) | (with_reducible refine bel_drN ?_ _) | (with_reducible refine bel_al ?_ _) | (refine bel_set ?_ (by first | (simp; done) | (simp; exact Below.size (by assumption)) | (simp; omega)) _) | (with_reducible refine bel_tr ?_ (by assumption)))); done)
    case rest =>
      obtain ⟨g, hg, rfl, q1, q2, q5, q6, z1, z2, z3, z4, qb⟩ := hcut
      have l4 := World.block_lt_of_cell? _ _ q5
      simp only at l4
      have hge : ¬ (u : Int) < 0 := by omega
      go_wp2
      refine bodyPost_ret (v := .tuple #[.agg #[.int .i64 (puN u), .int .i64 (puD u)], .bool true]) (by simp [results, Try.results52, go_sem, *]) rfl ⟨rfl, ?_⟩
      repeat (first | (with_reducible assumption) | (exact bel_undr (by with_reducible assumption)) | (with_reducible exact bel_refl _) | (with_reducible refine bel_dr ?_) | (with_reducible refine bel_drN ?_ _) | (with_reducible refine bel_al ?_ _) | (refine bel_set ?_ (by first | (simp; done) | (simp; exact Below.size (by assumption)) | (simp; omega)) _) | (with_reducible refine bel_tr ?_ (by assumption)))

set_option maxHeartbeats 1000000 in
theorem spr_dn (u : Nat) (w : World) (h1 : 1 ≤ u) (h : u ≤ 24) :
    Calls Try.prog 52 #[.int .i64 (-(u : Int))] w fun e w' => e = .returned (.tuple #[.agg #[.int .i64 (puD u), .int .i64 (puN u)], .bool true]) ∧ Below w.heap.size w w' := by
  have hsh := pr_shl u h
  obtain ⟨t0, t1, t2, t3, g1, g2, g3, g4, g5⟩ := pu_G u h
  have G1 := Lib.hid g1
  have G2 := Lib.hid g2
  have G4 := Lib.hid g4
  have G5 := Lib.hid g5
  clear g1 g2 g4 g5
  have hnn : (0 : Int) ≤ (u : Int) := by omega
  have hn2 : (u : Int) ≤ 24 := by omega
  have hmx : max (-(u : Int)) (u : Int) = u := by omega
  have hi0 : (0 : Int) ≤ (u : Int) % 12 := by omega
  have hi1 : (u : Int) % 12 < 12 := by omega
  have tn := tab_num u h
  have td := tab_den u h
  go_enter Try.func52, Try.ntmps52
  go_upto_region 5 with (go_at_call 26; refine (swin_yes _ _ _ _ (by omega) (by omega)).mono ?_; rintro e w' ⟨rfl, rfl⟩)
  go_cut [6] (fun s6 wx => s6 = .int .i64 u ∧ wx.cell? ⟨w.heap.size + 1, ((u : Int) % 12).toNat, none⟩ = some (.int .i64 (tN u)) ∧ wx.cell? ⟨w.heap.size + 1 + 1, ((u : Int) % 12).toNat, none⟩ = some (.int .i64 (tD u)) ∧ wx.cell? ⟨w.heap.size, 0, none⟩ = some (.int .i64 0) ∧ wx.cell? ⟨w.heap.size, 1, none⟩ = some (.int .i64 0) ∧ wx.frozen? ⟨w.heap.size, 0, none⟩ = false ∧ wx.frozen? ⟨w.heap.size, 1, none⟩ = false ∧ Below w.heap.size w wx)
  case first =>
    go_wp2
    go_meet
    refine ⟨rfl, ?_, ?_, ?_, ?_, ?_, ?_, ?_⟩ <;> first | exact td _ _ (by simp) | exact keep_al (tn _ _ (by simp)) _ | ((repeat (first | (with_reducible refine set_same ?_) | (refine keep_off ?_ (by first | (simp; done) | (simp; omega))) | (simp [go_sem]; done) | (with_reducible refine some_dr ?_) | (refine some_set ?_ (by first | (simp; done) | (simp; omega))) | (with_reducible refine some_al ?_ _) | (with_reducible refine some_tr ?_ (by assumption)))); done) | (simp [go_sem]; done) | ((repeat (first | (with_reducible assumption) | (exact bel_undr (by with_reducible assumption)) | (with_reducible exact bel_refl _) | (with_reducible refine bel_dr ?_) | (with_reducible refine bel_drN ?_ _) | (with_reducible refine bel_al ?_ _) | (refine bel_set ?_ (by first | (simp; done) | (simp; exact Below.size (by assumption)) | (simp; omega)) _) | (with_reducible refine bel_tr ?_ (by assumption)))); done)
  case rest =>
    obtain ⟨rfl, q1, q2, q3, q4, z1, z2, qb⟩ := hcut
    have l1 := World.block_lt_of_cell? _ _ q1
    have l2 := World.block_lt_of_cell? _ _ q2
    have l3 := World.block_lt_of_cell? _ _ q3
    simp only at l1 l2 l3
    clear tn td 
    have hm1 : Int.tmod (u : Int) 12 = (u : Int) % 12 := Int.tmod_eq_emod_of_nonneg hnn
    have hm2 : IntKind.i64.wrap ((u : Int) % 12) = (u : Int) % 12 := IntWalk.i64_in _ (by omega)
    go_upto_region 6 with fail
    go_cut [7] (fun s7 wx => ∃ g : Nat, w.heap.size < g ∧ s7 = .pointer (some ⟨g, 0, none⟩) ∧ wx.cell? ⟨w.heap.size, 0, none⟩ = some (.int .i64 0) ∧ wx.cell? ⟨w.heap.size, 1, none⟩ = some (.int .i64 0) ∧ wx.cell? ⟨g, 0, none⟩ = some (.int .i64 (puN u)) ∧ wx.cell? ⟨g, 1, none⟩ = some (.int .i64 (puD u)) ∧ wx.frozen? ⟨w.heap.size, 0, none⟩ = false ∧ wx.frozen? ⟨w.heap.size, 1, none⟩ = false ∧ wx.frozen? ⟨g, 0, none⟩ = false ∧ wx.frozen? ⟨g, 1, none⟩ = false ∧ Below w.heap.size w wx)
    case first =>
      go_region_held3 (fun W => W.cell? ⟨w.heap.size + 1, ((u : Int) % 12).toNat, none⟩ = some (.int .i64 (tN u)) ∧ W.cell? ⟨w.heap.size + 1 + 1, ((u : Int) % 12).toNat, none⟩ = some (.int .i64 (tD u)) ∧ W.cell? ⟨w.heap.size, 0, none⟩ = some (.int .i64 0) ∧ W.cell? ⟨w.heap.size, 1, none⟩ = some (.int .i64 0) ∧ Below w.heap.size w W) (((try go_split_ands); (repeat' (with_reducible refine And.intro ?_ ?_)) <;> (first | (with_reducible assumption) | ((repeat (first | (with_reducible assumption) | (exact keep_undr (by with_reducible assumption)) | (simp [go_sem]; done) | (with_reducible refine keep_dr ?_) | (with_reducible refine keep_drN ?_ _) | (with_reducible refine keep_al ?_ _) | (refine keep_set ?_ (by first | (simp; done) | (simp; omega) | omega)) | (with_reducible refine keep_tr ?_ (by assumption)))); done) | ((repeat (first | (with_reducible assumption) | (exact bel_undr (by with_reducible assumption)) | (with_reducible exact bel_refl _) | (with_reducible refine bel_dr ?_) | (with_reducible refine bel_drN ?_ _) | (with_reducible refine bel_al ?_ _) | (refine bel_set ?_ (by first | (simp; done) | (simp; exact Below.size (by assumption)) | (simp; omega)) _) | (with_reducible refine bel_tr ?_ (by assumption)))); done) | (simp [go_sem]; done) | go_keep))) (first | (go_at_call 46; refine (slt_val _ _ _ _ _ t0 t2 (by omega) (by omega) G1.out G2.out g3).mono ?_; rintro e1 w1 ⟨rfl, hb1⟩; obtain ⟨bc1, bf1, sl1, se1, sk1⟩ := bfacts hb1; have hz1 := hb1.size; (try simp at hz1)))
      all_goals
        go_wp2_with fail
        go_meet
        go_split_ands
        refine ⟨_, ?_, rfl, ?_, ?_, ?_, ?_, ?_, ?_, ?_, ?_, ?_⟩ <;> first | omega | (simp [go_sem]; done) | ((repeat (first | (with_reducible refine set_same ?_) | (refine keep_off ?_ (by first | (simp; done) | (simp; omega))) | (simp [go_sem]; done) | (with_reducible refine some_dr ?_) | (refine some_set ?_ (by first | (simp; done) | (simp; omega))) | (with_reducible refine some_al ?_ _) | (with_reducible refine some_tr ?_ (by assumption)))); done) | ((repeat (first | (with_reducible assumption) | (exact keep_undr (by with_reducible assumption)) | (simp [go_sem]; done) | (with_reducible refine keep_dr ?_) | (with_reducible refine keep_drN ?_ _) | (with_reducible refine keep_al ?_ _) | (refine keep_set ?_ (by first | (simp; done) | (simp; omega) | omega)) | (with_reducible refine keep_tr ?_ (by assumption)))); done) | ((repeat (first | (with_reducible assumption) | (simp [go_sem]; done) | (with_reducible refine fz_dr ?_) | (with_reducible refine fz_set ?_) | (refine fz_al ?_ (by (try simp) <;> omega) _) | (refine fz_tr ?_ (by assumption) (by (try simp) <;> omega)))); done) | ((repeat (first | (with_reducible assumption) | (exact bel_undr (by with_reducible assumption)) | (with_reducible exact bel_refl _) | (with_reducible refine bel_dr ?_) | (with_reducible refine bel_drN ?_ _) | (with_reducible refine bel_al ?_ _) | (refine bel_set ?_ (by first | (simp; done) | (simp; exact Below.size (by assumption)) | (simp; omega)) _) | (with_reducible refine bel_tr ?_ (by assumption)))); done)
    case rest =>
      obtain ⟨g, hg, rfl, q1, q2, q5, q6, z1, z2, z3, z4, qb⟩ := hcut
      have l4 := World.block_lt_of_cell? _ _ q5
      simp only at l4
      have hneg : -(u : Int) < 0 := by omega
      go_wp2_with (go_at_call 58; refine (sback_val _ _ _ _ _ G4.out G5.out).mono ?_; rintro e w1 ⟨rfl, hb1⟩; obtain ⟨c1_0, f1_0⟩ := cel hb1 w.heap.size (by omega); obtain ⟨c1_1, f1_1⟩ := cel hb1 g (by omega); have hz1 := hb1.size)
      refine bodyPost_ret (v := .tuple #[.agg #[.int .i64 (puD u), .int .i64 (puN u)], .bool true]) (by simp [results, Try.results52, go_sem, *]) rfl ⟨rfl, ?_⟩
      repeat (first | (with_reducible assumption) | (exact bel_undr (by with_reducible assumption)) | (with_reducible exact bel_refl _) | (with_reducible refine bel_dr ?_) | (with_reducible refine bel_drN ?_ _) | (with_reducible refine bel_al ?_ _) | (refine bel_set ?_ (by first | (simp; done) | (simp; exact Below.size (by assumption)) | (simp; omega)) _) | (with_reducible refine bel_tr ?_ (by assumption)))

end Go.Proofs.Ytgjjoaffmflbgaa
