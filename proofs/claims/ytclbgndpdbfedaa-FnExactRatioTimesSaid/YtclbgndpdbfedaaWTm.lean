/- The walk of the law FnExactRatioTimes: for every input it returns true and turns nothing that was there. -/
import Derived.Test.YtclbgndpdbfedaaTm
import Derived.Deep.RegionHeld3
import Derived.Deep.DeepCutAuto
namespace Go.Proofs.Ytclbgndpdbfedaa.FnExactRatioTimes
open Go.RowKit

set_option maxHeartbeats 1600000 in
theorem walk (a b c d : Int) (w : World) (_h0 : (Lit.int .i64 a).wf = true) (_h1 : (Lit.int .i64 b).wf = true) (_h2 : (Lit.int .i64 c).wf = true) (_h3 : (Lit.int .i64 d).wf = true) :
    Calls Try.prog 6 #[.agg #[.int .i64 a, .int .i64 b], .agg #[.int .i64 c, .int .i64 d]] w fun e w' => e = .returned (.bool true) ∧ Below w.heap.size w w' := by
  go_enter Try.func6, Try.ntmps6
  go_upto_region 1 with fail
  have hB : Below w.heap.size w ((w.alloc (.cells #[.int .i64 a, .int .i64 b] 23)).alloc (.cells #[.int .i64 c, .int .i64 d] 23)) := bel_al (bel_al (bel_refl _) _) _
  go_cut [5, 6] (fun s5 s6 wx => ∃ g : Nat, s5 = .pointer (some ⟨g, 0, none⟩) ∧ s6 = .bool (tmB a b c d) ∧ wx.cell? ⟨w.heap.size, 0, none⟩ = some (.int .i64 a) ∧ wx.cell? ⟨w.heap.size, 1, none⟩ = some (.int .i64 b) ∧ wx.cell? ⟨w.heap.size + 1, 0, none⟩ = some (.int .i64 c) ∧ wx.cell? ⟨w.heap.size + 1, 1, none⟩ = some (.int .i64 d) ∧ wx.cell? ⟨g, 0, none⟩ = some (.int .i64 (tmN a b c d)) ∧ wx.cell? ⟨g, 1, none⟩ = some (.int .i64 (tmD a b c d)) ∧ Below w.heap.size w wx)
  case first =>
    go_region_held3 (fun W => W.cell? ⟨w.heap.size, 0, none⟩ = some (.int .i64 a) ∧ W.cell? ⟨w.heap.size, 1, none⟩ = some (.int .i64 b) ∧ W.cell? ⟨w.heap.size + 1, 0, none⟩ = some (.int .i64 c) ∧ W.cell? ⟨w.heap.size + 1, 1, none⟩ = some (.int .i64 d) ∧ Below w.heap.size w W) (((try go_split_ands); (repeat' (with_reducible refine And.intro ?_ ?_)) <;> (first | (with_reducible assumption) | ((repeat (first | (with_reducible assumption) | (exact keep_undr (by with_reducible assumption)) | (simp [go_sem]; done) | (with_reducible refine keep_dr ?_) | (with_reducible refine keep_drN ?_ _) | (with_reducible refine keep_al ?_ _) | (refine keep_set ?_ (by first | (simp; done) | (simp; omega) | omega)) | (with_reducible refine keep_tr ?_ (by assumption)))); done) | ((repeat (first | (with_reducible assumption) | (exact bel_undr (by with_reducible assumption)) | (with_reducible exact bel_refl _) | (with_reducible refine bel_dr ?_) | (with_reducible refine bel_drN ?_ _) | (with_reducible refine bel_al ?_ _) | (refine bel_set ?_ (by first | (simp; done) | (simp; exact Below.size (by assumption)) | (simp; omega)) _) | (with_reducible refine bel_tr ?_ (by assumption)))); done) | (simp [go_sem]; done) | go_keep))) (first | (go_at_call 17; refine (toRatio_eq _ _ _).mono ?_; rintro e w1 ⟨rfl, rfl⟩) | (go_at_call 24; refine (stm_any _ _ _ _ _).mono ?_; rintro e1 w1 ⟨rfl, hb1⟩; obtain ⟨bc1, bf1, sl1, se1, sk1⟩ := bfacts hb1; have hz1 := hb1.size; (try simp at hz1)) | (go_at_call 25; refine (tm_any _ _ _ _ _).mono ?_; rintro e1 w1 ⟨rfl, hb1⟩; obtain ⟨bc1, bf1, sl1, se1, sk1⟩ := bfacts hb1; have hz1 := hb1.size; (try simp at hz1)))
    all_goals
      go_wp2_with fail
      go_meet
      go_split_ands
      refine ⟨_, rfl, rfl, ?_⟩
      (repeat' (with_reducible refine And.intro ?_ ?_)) <;> first | ((repeat (first | (with_reducible assumption) | (exact keep_undr (by with_reducible assumption)) | (simp [go_sem]; done) | (with_reducible refine keep_dr ?_) | (with_reducible refine keep_drN ?_ _) | (with_reducible refine keep_al ?_ _) | (refine keep_set ?_ (by first | (simp; done) | (simp; omega) | omega)) | (with_reducible refine keep_tr ?_ (by assumption)))); done) | ((repeat (first | (with_reducible assumption) | (exact bel_undr (by with_reducible assumption)) | (with_reducible exact bel_refl _) | (with_reducible refine bel_dr ?_) | (with_reducible refine bel_drN ?_ _) | (with_reducible refine bel_al ?_ _) | (refine bel_set ?_ (by first | (simp; done) | (simp; exact Below.size (by assumption)) | (simp; omega)) _) | (with_reducible refine bel_tr ?_ (by assumption)))); done) | ((repeat (first | (with_reducible refine set_same ?_) | (refine keep_off ?_ (by first | (simp; done) | (simp; omega))) | (simp [go_sem]; done) | (with_reducible refine some_dr ?_) | (refine some_set ?_ (by first | (simp; done) | (simp; omega))) | (with_reducible refine some_al ?_ _) | (with_reducible refine some_tr ?_ (by assumption)))); done) | (simp [go_sem, *]; done)
  case rest =>
    obtain ⟨g, rfl, rfl, q1, q2, q3, q4, q5, q6, qb⟩ := hcut
    have lt0 := World.block_lt_of_cell? _ _ q1
    have lt1 := World.block_lt_of_cell? _ _ q3
    have lt2 := World.block_lt_of_cell? _ _ q5
    simp only at lt0 lt1 lt2
    go_upto_region 2 with fail
    go_cut [7, 8] (fun s7 s8 wx => ∃ g2 : Nat, s7 = .pointer (some ⟨g2, 0, none⟩) ∧ s8 = .bool (tmB a b c d) ∧ wx.cell? ⟨g, 0, none⟩ = some (.int .i64 (tmN a b c d)) ∧ wx.cell? ⟨g, 1, none⟩ = some (.int .i64 (tmD a b c d)) ∧ wx.cell? ⟨g2, 0, none⟩ = some (.int .i64 (tmN a b c d)) ∧ wx.cell? ⟨g2, 1, none⟩ = some (.int .i64 (tmD a b c d)) ∧ Below w.heap.size w wx)
    case first =>
      go_region_held3 (fun W => W.cell? ⟨w.heap.size, 0, none⟩ = some (.int .i64 a) ∧ W.cell? ⟨w.heap.size, 1, none⟩ = some (.int .i64 b) ∧ W.cell? ⟨w.heap.size + 1, 0, none⟩ = some (.int .i64 c) ∧ W.cell? ⟨w.heap.size + 1, 1, none⟩ = some (.int .i64 d) ∧ W.cell? ⟨g, 0, none⟩ = some (.int .i64 (tmN a b c d)) ∧ W.cell? ⟨g, 1, none⟩ = some (.int .i64 (tmD a b c d)) ∧ Below w.heap.size w W) (((try go_split_ands); (repeat' (with_reducible refine And.intro ?_ ?_)) <;> (first | (with_reducible assumption) | ((repeat (first | (with_reducible assumption) | (exact keep_undr (by with_reducible assumption)) | (simp [go_sem]; done) | (with_reducible refine keep_dr ?_) | (with_reducible refine keep_drN ?_ _) | (with_reducible refine keep_al ?_ _) | (refine keep_set ?_ (by first | (simp; done) | (simp; omega) | omega)) | (with_reducible refine keep_tr ?_ (by assumption)))); done) | ((repeat (first | (with_reducible assumption) | (exact bel_undr (by with_reducible assumption)) | (with_reducible exact bel_refl _) | (with_reducible refine bel_dr ?_) | (with_reducible refine bel_drN ?_ _) | (with_reducible refine bel_al ?_ _) | (refine bel_set ?_ (by first | (simp; done) | (simp; exact Below.size (by assumption)) | (simp; omega)) _) | (with_reducible refine bel_tr ?_ (by assumption)))); done) | (simp [go_sem]; done) | go_keep))) (first | (go_at_call 17; refine (toRatio_eq _ _ _).mono ?_; rintro e w1 ⟨rfl, rfl⟩) | (go_at_call 24; refine (stm_any _ _ _ _ _).mono ?_; rintro e1 w1 ⟨rfl, hb1⟩; obtain ⟨bc1, bf1, sl1, se1, sk1⟩ := bfacts hb1; have hz1 := hb1.size; (try simp at hz1)) | (go_at_call 25; refine (tm_any _ _ _ _ _).mono ?_; rintro e1 w1 ⟨rfl, hb1⟩; obtain ⟨bc1, bf1, sl1, se1, sk1⟩ := bfacts hb1; have hz1 := hb1.size; (try simp at hz1)))
      all_goals
        go_wp2_with fail
        go_meet
        go_split_ands
        refine ⟨_, rfl, rfl, ?_⟩
        (repeat' (with_reducible refine And.intro ?_ ?_)) <;> first | ((repeat (first | (with_reducible assumption) | (exact keep_undr (by with_reducible assumption)) | (simp [go_sem]; done) | (with_reducible refine keep_dr ?_) | (with_reducible refine keep_drN ?_ _) | (with_reducible refine keep_al ?_ _) | (refine keep_set ?_ (by first | (simp; done) | (simp; omega) | omega)) | (with_reducible refine keep_tr ?_ (by assumption)))); done) | ((repeat (first | (with_reducible assumption) | (exact bel_undr (by with_reducible assumption)) | (with_reducible exact bel_refl _) | (with_reducible refine bel_dr ?_) | (with_reducible refine bel_drN ?_ _) | (with_reducible refine bel_al ?_ _) | (refine bel_set ?_ (by first | (simp; done) | (simp; exact Below.size (by assumption)) | (simp; omega)) _) | (with_reducible refine bel_tr ?_ (by assumption)))); done) | ((repeat (first | (with_reducible refine set_same ?_) | (refine keep_off ?_ (by first | (simp; done) | (simp; omega))) | (simp [go_sem]; done) | (with_reducible refine some_dr ?_) | (refine some_set ?_ (by first | (simp; done) | (simp; omega))) | (with_reducible refine some_al ?_ _) | (with_reducible refine some_tr ?_ (by assumption)))); done) | (simp [go_sem, *]; done)
    case rest =>
      obtain ⟨g2, rfl, rfl, q5, q6, q7, q8, qb⟩ := hcut
      go_wp2
      go_ret
      exact ⟨rfl, by repeat (first | (with_reducible assumption) | (exact bel_undr (by with_reducible assumption)) | (with_reducible exact bel_refl _) | (with_reducible refine bel_dr ?_) | (with_reducible refine bel_drN ?_ _) | (with_reducible refine bel_al ?_ _) | (refine bel_set ?_ (by first | (simp; done) | (simp; exact Below.size (by assumption)) | (simp; omega)) _) | (with_reducible refine bel_tr ?_ (by assumption)))⟩

end Go.Proofs.Ytclbgndpdbfedaa.FnExactRatioTimes
