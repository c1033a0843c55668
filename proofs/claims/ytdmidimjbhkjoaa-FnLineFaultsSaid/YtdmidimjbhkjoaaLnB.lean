/- The faults of a tone and of a step, of the program: what toneFault, stepFault and toneAt answer. -/
import Derived.Test.YtdmidimjbhkjoaaLnA
import Derived.Test.YtdmidimjbhkjoaaBp
import Derived.Test.YtdmidimjbhkjoaaInv
import Derived.Deep.DeepCutAuto
import Derived.Deep.RegionWith
namespace Go.Proofs.Ytdmidimjbhkjoaa
set_option linter.unusedSimpArgs false
set_option linter.unusedVariables false
open Go.RowKit

theorem Blk.s10 {w : World} {P : Nat} {a u : Value} {T : TypeId} (h : Blk w P #[a] T) : Blk (w.setCell ⟨P, 0, none⟩ u) P #[u] T := h.set 0 u
theorem stK_fb {x y x' y' d a b : Int} (hd : dsI y y' = d) (ha : (y - x) % 12 = a) (hb : (y' - x') % 12 = b) : (if (d == 0) = true then (7 : Int) else if decide (9 < d) = true then 6 else if decide (a = b ∧ (a = 0 ∨ a = 7)) = true then 5 else 0) = stK x y x' y' := by
  unfold stK
  rw [hd, ha, hb]
  simp
theorem tnK_fb {ik : Bool} {x y m : Int} {z la : Bool} (hm : dsI x y % 12 = m) : (if (!ik) = true then (1 : Int) else if (!decide (0 ≤ y - x ∧ y - x ≤ 16)) = true then 3 else if disB m = true then 2 else if e4B m z la = true then 4 else 0) = tnK ik x y z la := by
  unfold tnK
  rw [hm]
  cases ik
  · rfl
  · by_cases h : 0 ≤ y - x ∧ y - x ≤ 16
    · have e : (¬ (0 ≤ y - x ∧ y - x ≤ 16)) = False := eq_false (fun c => c h)
      simp only [decide_eq_true h, e, Bool.not_true, Bool.false_eq_true, Bool.true_eq_false, if_false]
    · have e : (¬ (0 ≤ y - x ∧ y - x ≤ 16)) = True := eq_true h
      simp only [decide_eq_false h, e, Bool.not_true, Bool.not_false, Bool.false_eq_true, Bool.true_eq_false, if_false, if_true]
set_option maxHeartbeats 4000000 in
theorem sf_any (f at0 : Int) (la : Bool) (c0 c1 c2 p0 p1 p2 f2 at2 : Int) (la2 : Bool) (b0 b1 b2 q0 q1 q2 x y x' y' : Int) (hx : pkI c0 c1 c2 = x) (hy : pkI p0 p1 p2 = y) (hx' : pkI b0 b1 b2 = x') (hy' : pkI q0 q1 q2 = y') (w : World) :
    Calls Try.prog 26 #[.agg #[.int .i64 f, .int .i64 at0, .bool la, .int .i64 c0, .int .i64 c1, .int .i64 c2, .int .i64 p0, .int .i64 p1, .int .i64 p2], .agg #[.int .i64 f2, .int .i64 at2, .bool la2, .int .i64 b0, .int .i64 b1, .int .i64 b2, .int .i64 q0, .int .i64 q1, .int .i64 q2]] w fun e w' => e = .returned (.int .i64 (stK x y x' y')) ∧ Below w.heap.size w w' := by
  obtain ⟨x0, x1⟩ := pkI_bd c0 c1 c2
  obtain ⟨y0, y1⟩ := pkI_bd p0 p1 p2
  obtain ⟨x2, x3⟩ := pkI_bd b0 b1 b2
  obtain ⟨y2, y3⟩ := pkI_bd q0 q1 q2
  rw [hx] at x0 x1
  rw [hy] at y0 y1
  rw [hx'] at x2 x3
  rw [hy'] at y2 y3
  obtain ⟨d, hd⟩ : ∃ d, dsI y y' = d := ⟨_, rfl⟩
  obtain ⟨a, ha⟩ : ∃ a, (y - x) % 12 = a := ⟨_, rfl⟩
  obtain ⟨ev, he⟩ : ∃ ev, (y' - x') % 12 = ev := ⟨_, rfl⟩
  have HX := Lib.hid hx
  have HY := Lib.hid hy
  have HX' := Lib.hid hx'
  have HY' := Lib.hid hy'
  have HD := Lib.hid hd
  have HA := Lib.hid ha
  have HE := Lib.hid he
  have i1 := IntWalk.i64_in (y - x) (by omega)
  have i2 := IntWalk.i64_in (y' - x') (by omega)
  clear hx hy hx' hy' hd ha he
  go_enter Try.func26, Try.ntmps26
  go_upto_region 1 with fail
  have bP : Blk ((w.alloc (.cells #[.int .i64 f, .int .i64 at0, .bool la, .int .i64 c0, .int .i64 c1, .int .i64 c2, .int .i64 p0, .int .i64 p1, .int .i64 p2] 47)).alloc (.cells #[.int .i64 f2, .int .i64 at2, .bool la2, .int .i64 b0, .int .i64 b1, .int .i64 b2, .int .i64 q0, .int .i64 q1, .int .i64 q2] 47)) w.heap.size #[.int .i64 f, .int .i64 at0, .bool la, .int .i64 c0, .int .i64 c1, .int .i64 c2, .int .i64 p0, .int .i64 p1, .int .i64 p2] 47 := (Blk.new w _ _).alloc _
  have bQ : Blk ((w.alloc (.cells #[.int .i64 f, .int .i64 at0, .bool la, .int .i64 c0, .int .i64 c1, .int .i64 c2, .int .i64 p0, .int .i64 p1, .int .i64 p2] 47)).alloc (.cells #[.int .i64 f2, .int .i64 at2, .bool la2, .int .i64 b0, .int .i64 b1, .int .i64 b2, .int .i64 q0, .int .i64 q1, .int .i64 q2] 47)) (w.heap.size + 1) #[.int .i64 f2, .int .i64 at2, .bool la2, .int .i64 b0, .int .i64 b1, .int .i64 b2, .int .i64 q0, .int .i64 q1, .int .i64 q2] 47 := by have h := Blk.new (w.alloc (.cells #[.int .i64 f, .int .i64 at0, .bool la, .int .i64 c0, .int .i64 c1, .int .i64 c2, .int .i64 p0, .int .i64 p1, .int .i64 p2] 47)) #[.int .i64 f2, .int .i64 at2, .bool la2, .int .i64 b0, .int .i64 b1, .int .i64 b2, .int .i64 q0, .int .i64 q1, .int .i64 q2] 47; simpa using h
  have bw : Below w.heap.size w ((w.alloc (.cells #[.int .i64 f, .int .i64 at0, .bool la, .int .i64 c0, .int .i64 c1, .int .i64 c2, .int .i64 p0, .int .i64 p1, .int .i64 p2] 47)).alloc (.cells #[.int .i64 f2, .int .i64 at2, .bool la2, .int .i64 b0, .int .i64 b1, .int .i64 b2, .int .i64 q0, .int .i64 q1, .int .i64 q2] 47)) := bel_al (bel_al (bel_refl _) _) _
  generalize ((w.alloc (.cells #[.int .i64 f, .int .i64 at0, .bool la, .int .i64 c0, .int .i64 c1, .int .i64 c2, .int .i64 p0, .int .i64 p1, .int .i64 p2] 47)).alloc (.cells #[.int .i64 f2, .int .i64 at2, .bool la2, .int .i64 b0, .int .i64 b1, .int .i64 b2, .int .i64 q0, .int .i64 q1, .int .i64 q2] 47)) = w0 at *
  have cP3 : w0.cell? ⟨w.heap.size, 3, none⟩ = some (.int .i64 c0) := by rw [Blk.cell bP]; rfl
  have cP4 : w0.cell? ⟨w.heap.size, 4, none⟩ = some (.int .i64 c1) := by rw [Blk.cell bP]; rfl
  have cP5 : w0.cell? ⟨w.heap.size, 5, none⟩ = some (.int .i64 c2) := by rw [Blk.cell bP]; rfl
  have cP6 : w0.cell? ⟨w.heap.size, 6, none⟩ = some (.int .i64 p0) := by rw [Blk.cell bP]; rfl
  have cP7 : w0.cell? ⟨w.heap.size, 7, none⟩ = some (.int .i64 p1) := by rw [Blk.cell bP]; rfl
  have cP8 : w0.cell? ⟨w.heap.size, 8, none⟩ = some (.int .i64 p2) := by rw [Blk.cell bP]; rfl
  have cQ3 : w0.cell? ⟨w.heap.size + 1, 3, none⟩ = some (.int .i64 b0) := by rw [Blk.cell bQ]; rfl
  have cQ4 : w0.cell? ⟨w.heap.size + 1, 4, none⟩ = some (.int .i64 b1) := by rw [Blk.cell bQ]; rfl
  have cQ5 : w0.cell? ⟨w.heap.size + 1, 5, none⟩ = some (.int .i64 b2) := by rw [Blk.cell bQ]; rfl
  have cQ6 : w0.cell? ⟨w.heap.size + 1, 6, none⟩ = some (.int .i64 q0) := by rw [Blk.cell bQ]; rfl
  have cQ7 : w0.cell? ⟨w.heap.size + 1, 7, none⟩ = some (.int .i64 q1) := by rw [Blk.cell bQ]; rfl
  have cQ8 : w0.cell? ⟨w.heap.size + 1, 8, none⟩ = some (.int .i64 q2) := by rw [Blk.cell bQ]; rfl
  refine region_float (w0 := w0) (Z := #[.int .i64 0]) (T := 3) 7 5 (by kernel_rfl) (by kernel_rfl) (bel_refl _) (by intro a W oa hoa; simp at hoa; subst hoa; kernel_rfl) ?_
  intro wq hq
  have lf0 : ∀ xL : Later wq, xL.world.cell? ⟨w.heap.size, 3, none⟩ = some (.int .i64 c0) := fun xL => xL.at (keep_tr (cP3) hq)
  have lf1 : ∀ xL : Later wq, xL.world.cell? ⟨w.heap.size, 4, none⟩ = some (.int .i64 c1) := fun xL => xL.at (keep_tr (cP4) hq)
  have lf2 : ∀ xL : Later wq, xL.world.cell? ⟨w.heap.size, 5, none⟩ = some (.int .i64 c2) := fun xL => xL.at (keep_tr (cP5) hq)
  have lf3 : ∀ xL : Later wq, xL.world.cell? ⟨w.heap.size, 6, none⟩ = some (.int .i64 p0) := fun xL => xL.at (keep_tr (cP6) hq)
  have lf4 : ∀ xL : Later wq, xL.world.cell? ⟨w.heap.size, 7, none⟩ = some (.int .i64 p1) := fun xL => xL.at (keep_tr (cP7) hq)
  have lf5 : ∀ xL : Later wq, xL.world.cell? ⟨w.heap.size, 8, none⟩ = some (.int .i64 p2) := fun xL => xL.at (keep_tr (cP8) hq)
  have lf6 : ∀ xL : Later wq, xL.world.cell? ⟨w.heap.size + 1, 3, none⟩ = some (.int .i64 b0) := fun xL => xL.at (keep_tr (cQ3) hq)
  have lf7 : ∀ xL : Later wq, xL.world.cell? ⟨w.heap.size + 1, 4, none⟩ = some (.int .i64 b1) := fun xL => xL.at (keep_tr (cQ4) hq)
  have lf8 : ∀ xL : Later wq, xL.world.cell? ⟨w.heap.size + 1, 5, none⟩ = some (.int .i64 b2) := fun xL => xL.at (keep_tr (cQ5) hq)
  have lf9 : ∀ xL : Later wq, xL.world.cell? ⟨w.heap.size + 1, 6, none⟩ = some (.int .i64 q0) := fun xL => xL.at (keep_tr (cQ6) hq)
  have lf10 : ∀ xL : Later wq, xL.world.cell? ⟨w.heap.size + 1, 7, none⟩ = some (.int .i64 q1) := fun xL => xL.at (keep_tr (cQ7) hq)
  have lf11 : ∀ xL : Later wq, xL.world.cell? ⟨w.heap.size + 1, 8, none⟩ = some (.int .i64 q2) := fun xL => xL.at (keep_tr (cQ8) hq)
  have LA : ∀ xL : Later wq, Calls Try.prog 9 #[.agg #[.int .i64 p0, .int .i64 p1, .int .i64 p2]] xL.world fun e w'' => e = .returned (.int .i64 y) ∧ ∃ z : Later wq, w'' = z.world := fun xL => later_call (pk_val HY.out _)
  have LB : ∀ xL : Later wq, Calls Try.prog 9 #[.agg #[.int .i64 q0, .int .i64 q1, .int .i64 q2]] xL.world fun e w'' => e = .returned (.int .i64 y') ∧ ∃ z : Later wq, w'' = z.world := fun xL => later_call (pk_val HY'.out _)
  have LC : ∀ xL : Later wq, Calls Try.prog 39 #[.int .i64 y, .int .i64 y'] xL.world fun e w'' => e = .returned (.int .i64 d) ∧ ∃ z : Later wq, w'' = z.world := fun xL => later_call (ds_val HD.out _ ⟨y0, y1⟩ ⟨y2, y3⟩)
  simp only [List.take_succ_cons, List.take_zero, List.drop_succ_cons, List.drop_zero]
  repeat (go_big_quiet_step ((first | (go_at_call 9; with_reducible exact LA _) | (go_at_call 9; with_reducible exact LB _) | (go_at_call 39; with_reducible exact LC _))))
  refine wpQuiet_nil ?_
  rintro w' ⟨x, rfl⟩ B1 hB1 hw1
  obtain ⟨v1, bl0⟩ := x
  have bl1 := bel_tr hq bl0
  clear lf0 lf1 lf2 lf3 lf4 lf5 lf6 lf7 lf8 lf9 lf10 lf11 LA LB LC
  go_simp
  clear cP3 cP4 cP5 cP6 cP7 cP8 cQ3 cQ4 cQ5 cQ6 cQ7 cQ8
  have lP := bP.lt
  have lQ := bQ.lt
  have bP := bP.below bl1
  have bQ := bQ.below bl1
  have bw := bel_tr bw bl1
  have cB : v1.cell? ⟨B1, 0, none⟩ = some (.int .i64 0) := by rw [Blk.cell hB1]; rfl
  have fB := Blk.free hB1 0
  have lB := hB1.lt
  go_upto_region 2 with fail
  have qB1 : Blk (v1.setCell ⟨B1, 0, none⟩ (.int .i64 d)) B1 #[.int .i64 d] 3 := hB1.s10
  have bP := bP.off (q := ⟨B1, 0, none⟩) (by simp only; omega) (.int .i64 d)
  have bQ := bQ.off (q := ⟨B1, 0, none⟩) (by simp only; omega) (.int .i64 d)
  have bw : Below w.heap.size w (v1.setCell ⟨B1, 0, none⟩ (.int .i64 d)) := bel_set bw (by simp only; have := bP.lt; omega) _
  clear cB fB lB hB1 bl1 lP lQ 
  generalize (v1.setCell ⟨B1, 0, none⟩ (.int .i64 d)) = w1 at *
  have cP3 : w1.cell? ⟨w.heap.size, 3, none⟩ = some (.int .i64 c0) := by rw [Blk.cell bP]; rfl
  have cP4 : w1.cell? ⟨w.heap.size, 4, none⟩ = some (.int .i64 c1) := by rw [Blk.cell bP]; rfl
  have cP5 : w1.cell? ⟨w.heap.size, 5, none⟩ = some (.int .i64 c2) := by rw [Blk.cell bP]; rfl
  have cP6 : w1.cell? ⟨w.heap.size, 6, none⟩ = some (.int .i64 p0) := by rw [Blk.cell bP]; rfl
  have cP7 : w1.cell? ⟨w.heap.size, 7, none⟩ = some (.int .i64 p1) := by rw [Blk.cell bP]; rfl
  have cP8 : w1.cell? ⟨w.heap.size, 8, none⟩ = some (.int .i64 p2) := by rw [Blk.cell bP]; rfl
  have cQ3 : w1.cell? ⟨w.heap.size + 1, 3, none⟩ = some (.int .i64 b0) := by rw [Blk.cell bQ]; rfl
  have cQ4 : w1.cell? ⟨w.heap.size + 1, 4, none⟩ = some (.int .i64 b1) := by rw [Blk.cell bQ]; rfl
  have cQ5 : w1.cell? ⟨w.heap.size + 1, 5, none⟩ = some (.int .i64 b2) := by rw [Blk.cell bQ]; rfl
  have cQ6 : w1.cell? ⟨w.heap.size + 1, 6, none⟩ = some (.int .i64 q0) := by rw [Blk.cell bQ]; rfl
  have cQ7 : w1.cell? ⟨w.heap.size + 1, 7, none⟩ = some (.int .i64 q1) := by rw [Blk.cell bQ]; rfl
  have cQ8 : w1.cell? ⟨w.heap.size + 1, 8, none⟩ = some (.int .i64 q2) := by rw [Blk.cell bQ]; rfl
  refine region_float (w0 := w1) (Z := #[.int .i64 0]) (T := 3) 8 6 (by kernel_rfl) (by kernel_rfl) (bel_refl _) (by intro a W oa hoa; simp at hoa; subst hoa; kernel_rfl) ?_
  intro wq hq
  have lf0 : ∀ xL : Later wq, xL.world.cell? ⟨w.heap.size, 3, none⟩ = some (.int .i64 c0) := fun xL => xL.at (keep_tr (cP3) hq)
  have lf1 : ∀ xL : Later wq, xL.world.cell? ⟨w.heap.size, 4, none⟩ = some (.int .i64 c1) := fun xL => xL.at (keep_tr (cP4) hq)
  have lf2 : ∀ xL : Later wq, xL.world.cell? ⟨w.heap.size, 5, none⟩ = some (.int .i64 c2) := fun xL => xL.at (keep_tr (cP5) hq)
  have lf3 : ∀ xL : Later wq, xL.world.cell? ⟨w.heap.size, 6, none⟩ = some (.int .i64 p0) := fun xL => xL.at (keep_tr (cP6) hq)
  have lf4 : ∀ xL : Later wq, xL.world.cell? ⟨w.heap.size, 7, none⟩ = some (.int .i64 p1) := fun xL => xL.at (keep_tr (cP7) hq)
  have lf5 : ∀ xL : Later wq, xL.world.cell? ⟨w.heap.size, 8, none⟩ = some (.int .i64 p2) := fun xL => xL.at (keep_tr (cP8) hq)
  have lf6 : ∀ xL : Later wq, xL.world.cell? ⟨w.heap.size + 1, 3, none⟩ = some (.int .i64 b0) := fun xL => xL.at (keep_tr (cQ3) hq)
  have lf7 : ∀ xL : Later wq, xL.world.cell? ⟨w.heap.size + 1, 4, none⟩ = some (.int .i64 b1) := fun xL => xL.at (keep_tr (cQ4) hq)
  have lf8 : ∀ xL : Later wq, xL.world.cell? ⟨w.heap.size + 1, 5, none⟩ = some (.int .i64 b2) := fun xL => xL.at (keep_tr (cQ5) hq)
  have lf9 : ∀ xL : Later wq, xL.world.cell? ⟨w.heap.size + 1, 6, none⟩ = some (.int .i64 q0) := fun xL => xL.at (keep_tr (cQ6) hq)
  have lf10 : ∀ xL : Later wq, xL.world.cell? ⟨w.heap.size + 1, 7, none⟩ = some (.int .i64 q1) := fun xL => xL.at (keep_tr (cQ7) hq)
  have lf11 : ∀ xL : Later wq, xL.world.cell? ⟨w.heap.size + 1, 8, none⟩ = some (.int .i64 q2) := fun xL => xL.at (keep_tr (cQ8) hq)
  have LA : ∀ xL : Later wq, Calls Try.prog 9 #[.agg #[.int .i64 p0, .int .i64 p1, .int .i64 p2]] xL.world fun e w'' => e = .returned (.int .i64 y) ∧ ∃ z : Later wq, w'' = z.world := fun xL => later_call (pk_val HY.out _)
  have LB : ∀ xL : Later wq, Calls Try.prog 9 #[.agg #[.int .i64 c0, .int .i64 c1, .int .i64 c2]] xL.world fun e w'' => e = .returned (.int .i64 x) ∧ ∃ z : Later wq, w'' = z.world := fun xL => later_call (pk_val HX.out _)
  have LC : ∀ xL : Later wq, Calls Try.prog 46 #[.int .i64 (y - x), .int .i64 12] xL.world fun e w'' => e = .returned (.int .i64 a) ∧ ∃ z : Later wq, w'' = z.world := fun xL => later_call (md_val HA.out _ (by omega))
  simp only [List.take_succ_cons, List.take_zero, List.drop_succ_cons, List.drop_zero]
  repeat (go_big_quiet_step ((first | (go_at_call 9; with_reducible exact LA _) | (go_at_call 9; with_reducible exact LB _) | (go_at_call 46; with_reducible exact LC _))))
  refine wpQuiet_nil ?_
  rintro w' ⟨x, rfl⟩ B2 hB2 hw2
  obtain ⟨v2, bl0⟩ := x
  have bl2 := bel_tr hq bl0
  clear lf0 lf1 lf2 lf3 lf4 lf5 lf6 lf7 lf8 lf9 lf10 lf11 LA LB LC
  go_simp
  clear cP3 cP4 cP5 cP6 cP7 cP8 cQ3 cQ4 cQ5 cQ6 cQ7 cQ8
  have lP := bP.lt
  have lQ := bQ.lt
  have lqB1 := qB1.lt
  have bP := bP.below bl2
  have bQ := bQ.below bl2
  have bw := bel_tr bw bl2
  have qB1 := qB1.below bl2
  have cB : v2.cell? ⟨B2, 0, none⟩ = some (.int .i64 0) := by rw [Blk.cell hB2]; rfl
  have fB := Blk.free hB2 0
  have lB := hB2.lt
  go_upto_region 3 with fail
  have qB2 : Blk (v2.setCell ⟨B2, 0, none⟩ (.int .i64 a)) B2 #[.int .i64 a] 3 := hB2.s10
  have bP := bP.off (q := ⟨B2, 0, none⟩) (by simp only; omega) (.int .i64 a)
  have bQ := bQ.off (q := ⟨B2, 0, none⟩) (by simp only; omega) (.int .i64 a)
  have qB1 := qB1.off (q := ⟨B2, 0, none⟩) (by simp only; omega) (.int .i64 a)
  have bw : Below w.heap.size w (v2.setCell ⟨B2, 0, none⟩ (.int .i64 a)) := bel_set bw (by simp only; have := bP.lt; omega) _
  clear cB fB lB hB2 bl2 lP lQ lqB1
  generalize (v2.setCell ⟨B2, 0, none⟩ (.int .i64 a)) = w2 at *
  have cP3 : w2.cell? ⟨w.heap.size, 3, none⟩ = some (.int .i64 c0) := by rw [Blk.cell bP]; rfl
  have cP4 : w2.cell? ⟨w.heap.size, 4, none⟩ = some (.int .i64 c1) := by rw [Blk.cell bP]; rfl
  have cP5 : w2.cell? ⟨w.heap.size, 5, none⟩ = some (.int .i64 c2) := by rw [Blk.cell bP]; rfl
  have cP6 : w2.cell? ⟨w.heap.size, 6, none⟩ = some (.int .i64 p0) := by rw [Blk.cell bP]; rfl
  have cP7 : w2.cell? ⟨w.heap.size, 7, none⟩ = some (.int .i64 p1) := by rw [Blk.cell bP]; rfl
  have cP8 : w2.cell? ⟨w.heap.size, 8, none⟩ = some (.int .i64 p2) := by rw [Blk.cell bP]; rfl
  have cQ3 : w2.cell? ⟨w.heap.size + 1, 3, none⟩ = some (.int .i64 b0) := by rw [Blk.cell bQ]; rfl
  have cQ4 : w2.cell? ⟨w.heap.size + 1, 4, none⟩ = some (.int .i64 b1) := by rw [Blk.cell bQ]; rfl
  have cQ5 : w2.cell? ⟨w.heap.size + 1, 5, none⟩ = some (.int .i64 b2) := by rw [Blk.cell bQ]; rfl
  have cQ6 : w2.cell? ⟨w.heap.size + 1, 6, none⟩ = some (.int .i64 q0) := by rw [Blk.cell bQ]; rfl
  have cQ7 : w2.cell? ⟨w.heap.size + 1, 7, none⟩ = some (.int .i64 q1) := by rw [Blk.cell bQ]; rfl
  have cQ8 : w2.cell? ⟨w.heap.size + 1, 8, none⟩ = some (.int .i64 q2) := by rw [Blk.cell bQ]; rfl
  refine region_float (w0 := w2) (Z := #[.int .i64 0]) (T := 3) 8 7 (by kernel_rfl) (by kernel_rfl) (bel_refl _) (by intro a W oa hoa; simp at hoa; subst hoa; kernel_rfl) ?_
  intro wq hq
  have lf0 : ∀ xL : Later wq, xL.world.cell? ⟨w.heap.size, 3, none⟩ = some (.int .i64 c0) := fun xL => xL.at (keep_tr (cP3) hq)
  have lf1 : ∀ xL : Later wq, xL.world.cell? ⟨w.heap.size, 4, none⟩ = some (.int .i64 c1) := fun xL => xL.at (keep_tr (cP4) hq)
  have lf2 : ∀ xL : Later wq, xL.world.cell? ⟨w.heap.size, 5, none⟩ = some (.int .i64 c2) := fun xL => xL.at (keep_tr (cP5) hq)
  have lf3 : ∀ xL : Later wq, xL.world.cell? ⟨w.heap.size, 6, none⟩ = some (.int .i64 p0) := fun xL => xL.at (keep_tr (cP6) hq)
  have lf4 : ∀ xL : Later wq, xL.world.cell? ⟨w.heap.size, 7, none⟩ = some (.int .i64 p1) := fun xL => xL.at (keep_tr (cP7) hq)
  have lf5 : ∀ xL : Later wq, xL.world.cell? ⟨w.heap.size, 8, none⟩ = some (.int .i64 p2) := fun xL => xL.at (keep_tr (cP8) hq)
  have lf6 : ∀ xL : Later wq, xL.world.cell? ⟨w.heap.size + 1, 3, none⟩ = some (.int .i64 b0) := fun xL => xL.at (keep_tr (cQ3) hq)
  have lf7 : ∀ xL : Later wq, xL.world.cell? ⟨w.heap.size + 1, 4, none⟩ = some (.int .i64 b1) := fun xL => xL.at (keep_tr (cQ4) hq)
  have lf8 : ∀ xL : Later wq, xL.world.cell? ⟨w.heap.size + 1, 5, none⟩ = some (.int .i64 b2) := fun xL => xL.at (keep_tr (cQ5) hq)
  have lf9 : ∀ xL : Later wq, xL.world.cell? ⟨w.heap.size + 1, 6, none⟩ = some (.int .i64 q0) := fun xL => xL.at (keep_tr (cQ6) hq)
  have lf10 : ∀ xL : Later wq, xL.world.cell? ⟨w.heap.size + 1, 7, none⟩ = some (.int .i64 q1) := fun xL => xL.at (keep_tr (cQ7) hq)
  have lf11 : ∀ xL : Later wq, xL.world.cell? ⟨w.heap.size + 1, 8, none⟩ = some (.int .i64 q2) := fun xL => xL.at (keep_tr (cQ8) hq)
  have LA : ∀ xL : Later wq, Calls Try.prog 9 #[.agg #[.int .i64 q0, .int .i64 q1, .int .i64 q2]] xL.world fun e w'' => e = .returned (.int .i64 y') ∧ ∃ z : Later wq, w'' = z.world := fun xL => later_call (pk_val HY'.out _)
  have LB : ∀ xL : Later wq, Calls Try.prog 9 #[.agg #[.int .i64 b0, .int .i64 b1, .int .i64 b2]] xL.world fun e w'' => e = .returned (.int .i64 x') ∧ ∃ z : Later wq, w'' = z.world := fun xL => later_call (pk_val HX'.out _)
  have LC : ∀ xL : Later wq, Calls Try.prog 46 #[.int .i64 (y' - x'), .int .i64 12] xL.world fun e w'' => e = .returned (.int .i64 ev) ∧ ∃ z : Later wq, w'' = z.world := fun xL => later_call (md_val HE.out _ (by omega))
  simp only [List.take_succ_cons, List.take_zero, List.drop_succ_cons, List.drop_zero]
  repeat (go_big_quiet_step ((first | (go_at_call 9; with_reducible exact LA _) | (go_at_call 9; with_reducible exact LB _) | (go_at_call 46; with_reducible exact LC _))))
  refine wpQuiet_nil ?_
  rintro w' ⟨x, rfl⟩ B3 hB3 hw3
  obtain ⟨v3, bl0⟩ := x
  have bl3 := bel_tr hq bl0
  clear lf0 lf1 lf2 lf3 lf4 lf5 lf6 lf7 lf8 lf9 lf10 lf11 LA LB LC
  go_simp
  clear cP3 cP4 cP5 cP6 cP7 cP8 cQ3 cQ4 cQ5 cQ6 cQ7 cQ8
  have lP := bP.lt
  have lQ := bQ.lt
  have lqB1 := qB1.lt
  have lqB2 := qB2.lt
  have bP := bP.below bl3
  have bQ := bQ.below bl3
  have bw := bel_tr bw bl3
  have qB1 := qB1.below bl3
  have qB2 := qB2.below bl3
  have cB : v3.cell? ⟨B3, 0, none⟩ = some (.int .i64 0) := by rw [Blk.cell hB3]; rfl
  have fB := Blk.free hB3 0
  have lB := hB3.lt
  go_upto_region 4 with fail
  have qB3 : Blk (v3.setCell ⟨B3, 0, none⟩ (.int .i64 ev)) B3 #[.int .i64 ev] 3 := hB3.s10
  have bP := bP.off (q := ⟨B3, 0, none⟩) (by simp only; omega) (.int .i64 ev)
  have bQ := bQ.off (q := ⟨B3, 0, none⟩) (by simp only; omega) (.int .i64 ev)
  have qB1 := qB1.off (q := ⟨B3, 0, none⟩) (by simp only; omega) (.int .i64 ev)
  have qB2 := qB2.off (q := ⟨B3, 0, none⟩) (by simp only; omega) (.int .i64 ev)
  have bw : Below w.heap.size w (v3.setCell ⟨B3, 0, none⟩ (.int .i64 ev)) := bel_set bw (by simp only; have := bP.lt; omega) _
  clear cB fB lB hB3 bl3 lP lQ lqB1 lqB2
  generalize (v3.setCell ⟨B3, 0, none⟩ (.int .i64 ev)) = w3 at *
  go_wp2_with fail
  have bR : Blk (w3.alloc (.cells #[.int .i64 7, .func (.func 47) #[] #[.pointer (some ⟨B1, 0, none⟩)], .int .i64 6, .func (.func 48) #[] #[.pointer (some ⟨B1, 0, none⟩)], .int .i64 5, .func (.func 49) #[] #[.pointer (some ⟨B2, 0, none⟩), .pointer (some ⟨B3, 0, none⟩)]] 66)) w3.heap.size #[.int .i64 7, .func (.func 47) #[] #[.pointer (some ⟨B1, 0, none⟩)], .int .i64 6, .func (.func 48) #[] #[.pointer (some ⟨B1, 0, none⟩)], .int .i64 5, .func (.func 49) #[] #[.pointer (some ⟨B2, 0, none⟩), .pointer (some ⟨B3, 0, none⟩)]] 66 := Blk.new w3 _ _
  have hbl := bel_al (bel_refl w3) (.cells #[.int .i64 7, .func (.func 47) #[] #[.pointer (some ⟨B1, 0, none⟩)], .int .i64 6, .func (.func 48) #[] #[.pointer (some ⟨B1, 0, none⟩)], .int .i64 5, .func (.func 49) #[] #[.pointer (some ⟨B2, 0, none⟩), .pointer (some ⟨B3, 0, none⟩)]] 66)
  have qB1 := qB1.below hbl
  have qB2 := qB2.below hbl
  have qB3 := qB3.below hbl
  have bw := bel_tr bw hbl
  clear hbl bP bQ
  generalize w3.alloc (.cells #[.int .i64 7, .func (.func 47) #[] #[.pointer (some ⟨B1, 0, none⟩)], .int .i64 6, .func (.func 48) #[] #[.pointer (some ⟨B1, 0, none⟩)], .int .i64 5, .func (.func 49) #[] #[.pointer (some ⟨B2, 0, none⟩), .pointer (some ⟨B3, 0, none⟩)]] 66) = w4 at *
  generalize w3.heap.size = R at *
  have c1 := qB1
  refine (fb3_any R w4 (d == 0) #[.pointer (some ⟨B1, 0, none⟩)] (fun W hW => sc1_any d B1 W (by rw [(qB1.below hW).cell]; rfl)) (decide (9 < d)) #[.pointer (some ⟨B1, 0, none⟩)] (fun W hW => sc2_any d B1 W (by rw [(qB1.below hW).cell]; rfl)) (decide (a = ev ∧ (a = 0 ∨ a = 7))) #[.pointer (some ⟨B2, 0, none⟩), .pointer (some ⟨B3, 0, none⟩)] (fun W hW => sc3_any a ev B2 B3 W (by rw [(qB2.below hW).cell]; rfl) (by rw [(qB3.below hW).cell]; rfl)) (by rw [bR.cell]; rfl) (by rw [bR.cell]; rfl) (by rw [bR.cell]; rfl) (by rw [bR.cell]; rfl) (by rw [bR.cell]; rfl) (by rw [bR.cell]; rfl)).mono ?_
  rintro e9 w9 ⟨rfl, b9⟩
  have hx := stK_fb HD.out HA.out HE.out
  rw [hx]
  clear hx
  go_wp2
  go_ret
  exact ⟨rfl, bel_tr bw b9⟩
set_option maxHeartbeats 4000000 in
theorem tf_any (f at0 : Int) (la : Bool) (c0 c1 c2 p0 p1 p2 x y : Int) (ik z : Bool) (hx : pkI c0 c1 c2 = x) (hy : pkI p0 p1 p2 = y) (hi : ikB f p0 p1 p2 = ik) (hz : (at0 == 0) = z) (w : World) :
    Calls Try.prog 25 #[.agg #[.int .i64 f, .int .i64 at0, .bool la, .int .i64 c0, .int .i64 c1, .int .i64 c2, .int .i64 p0, .int .i64 p1, .int .i64 p2]] w fun e w' => e = .returned (.int .i64 (tnK ik x y z la)) ∧ Below w.heap.size w w' := by
  obtain ⟨x0, x1⟩ := pkI_bd c0 c1 c2
  obtain ⟨y0, y1⟩ := pkI_bd p0 p1 p2
  rw [hx] at x0 x1
  rw [hy] at y0 y1
  obtain ⟨d, hd⟩ : ∃ d, dsI x y = d := ⟨_, rfl⟩
  obtain ⟨m, hm⟩ : ∃ m, d % 12 = m := ⟨_, rfl⟩
  have hdb := dsI_bd (x := x) (y := y) ⟨x0, x1⟩ ⟨y0, y1⟩
  rw [hd] at hdb
  have hMM := tmodE hdb.1 12
  rw [hm] at hMM
  have HX := Lib.hid hx
  have HY := Lib.hid hy
  have HD := Lib.hid hd
  have HM := Lib.hid hm
  have HI := Lib.hid hi
  have HZ := Lib.hid hz
  clear hx hy hd hm hi hz
  go_enter Try.func25, Try.ntmps25
  go_upto_region 1 with fail
  have bP : Blk (w.alloc (.cells #[.int .i64 f, .int .i64 at0, .bool la, .int .i64 c0, .int .i64 c1, .int .i64 c2, .int .i64 p0, .int .i64 p1, .int .i64 p2] 47)) w.heap.size #[.int .i64 f, .int .i64 at0, .bool la, .int .i64 c0, .int .i64 c1, .int .i64 c2, .int .i64 p0, .int .i64 p1, .int .i64 p2] 47 := Blk.new w _ _
  have bw : Below w.heap.size w (w.alloc (.cells #[.int .i64 f, .int .i64 at0, .bool la, .int .i64 c0, .int .i64 c1, .int .i64 c2, .int .i64 p0, .int .i64 p1, .int .i64 p2] 47)) := bel_al (bel_refl _) _
  generalize (w.alloc (.cells #[.int .i64 f, .int .i64 at0, .bool la, .int .i64 c0, .int .i64 c1, .int .i64 c2, .int .i64 p0, .int .i64 p1, .int .i64 p2] 47)) = w0 at *
  have lP := bP.lt
  have cP3 : w0.cell? ⟨w.heap.size, 3, none⟩ = some (.int .i64 c0) := by rw [Blk.cell bP]; rfl
  have cP4 : w0.cell? ⟨w.heap.size, 4, none⟩ = some (.int .i64 c1) := by rw [Blk.cell bP]; rfl
  have cP5 : w0.cell? ⟨w.heap.size, 5, none⟩ = some (.int .i64 c2) := by rw [Blk.cell bP]; rfl
  have cP6 : w0.cell? ⟨w.heap.size, 6, none⟩ = some (.int .i64 p0) := by rw [Blk.cell bP]; rfl
  have cP7 : w0.cell? ⟨w.heap.size, 7, none⟩ = some (.int .i64 p1) := by rw [Blk.cell bP]; rfl
  have cP8 : w0.cell? ⟨w.heap.size, 8, none⟩ = some (.int .i64 p2) := by rw [Blk.cell bP]; rfl
  go_cut [3, 4] (fun s3 s4 wx => ∃ g h : Nat, s3 = .pointer (some ⟨g, 0, none⟩) ∧ s4 = .pointer (some ⟨h, 0, none⟩) ∧ Blk wx g #[.int .i64 x] 3 ∧ Blk wx h #[.int .i64 y] 3 ∧ Blk wx w.heap.size #[.int .i64 f, .int .i64 at0, .bool la, .int .i64 c0, .int .i64 c1, .int .i64 c2, .int .i64 p0, .int .i64 p1, .int .i64 p2] 47 ∧ Below w.heap.size w wx)
  case first =>
    refine region_slots (by kernel_rfl) (by kernel_rfl) [6, 7, 8, 9, 10, 11, 3, 4] (fun D us W => ∃ u6 u7 u8 u9 u10 u11 u3 u4 : Value, us = [u6, u7, u8, u9, u10, u11, u3, u4] ∧ Below w0.heap.size w0 W ∧ (D 0 = true → u6 = .pointer (some ⟨w.heap.size, 3, none⟩)) ∧ (D 1 = true → u7 = .agg #[.int .i64 c0, .int .i64 c1, .int .i64 c2]) ∧ (D 2 = true → u8 = .int .i64 x) ∧ (D 3 = true → u9 = .pointer (some ⟨w.heap.size, 6, none⟩)) ∧ (D 4 = true → u10 = .agg #[.int .i64 p0, .int .i64 p1, .int .i64 p2]) ∧ (D 5 = true → u11 = .int .i64 y) ∧ (D 6 = true → ∃ g : Nat, w0.heap.size ≤ g ∧ u3 = .pointer (some ⟨g, 0, none⟩) ∧ Blk W g (if D 8 = true then #[.int .i64 x] else #[.int .i64 0]) 3) ∧ (D 6 = false → D 8 = false) ∧ (D 7 = true → ∃ g : Nat, w0.heap.size ≤ g ∧ u4 = .pointer (some ⟨g, 0, none⟩) ∧ Blk W g (if D 9 = true then #[.int .i64 y] else #[.int .i64 0]) 3) ∧ (D 7 = false → D 9 = false) ∧ (D 6 = true → D 7 = true → u3 ≠ u4)) ?_ ?_ ?_
    · intro us hu
      obtain ⟨u6, u7, u8, u9, u10, u11, u3, u4, rfl⟩ : ∃ u6 u7 u8 u9 u10 u11 u3 u4, us = [u6, u7, u8, u9, u10, u11, u3, u4] := by
        match us, hu with
        | [u6, u7, u8, u9, u10, u11, u3, u4], _ => exact ⟨_, _, _, _, _, _, _, _, rfl⟩
      exact ⟨_, _, _, _, _, _, _, _, rfl, bel_dr (bel_refl _), fun h => absurd h (by simp), fun h => absurd h (by simp), fun h => absurd h (by simp), fun h => absurd h (by simp), fun h => absurd h (by simp), fun h => absurd h (by simp), fun h => absurd h (by simp), fun _ => by simp, fun h => absurd h (by simp), fun _ => by simp, fun h => absurd h (by simp)⟩
    · rintro i o hi ho D us W hu hd hdep ⟨u6, u7, u8, u9, u10, u11, u3, u4, rfl, hb, f0, f1, f2, f3, f4, f5, f6, n6, f7, n7, p6_7⟩
      have hi' : i < 10 := by simpa using hi
      clear hi hu
      rcases (show i = 0 ∨ i = 1 ∨ i = 2 ∨ i = 3 ∨ i = 4 ∨ i = 5 ∨ i = 6 ∨ i = 7 ∨ i = 8 ∨ i = 9 from by omega) with rfl | rfl | rfl | rfl | rfl | rfl | rfl | rfl | rfl | rfl
      · simp only [List.getElem?_cons_zero, List.getElem?_cons_succ, Option.some.injEq] at ho
        subst ho
        clear hi'
        clear hdep
        refine wpOp_step rfl (fun K hK => ?_)
        simp only [List.zip_cons_cons, List.zip_nil_right, puts]
        go_simp
        refine hK _ _ ⟨[.pointer (some ⟨w.heap.size, 3, none⟩), u7, u8, u9, u10, u11, u3, u4], rfl, by kernel_rfl, _, _, _, _, _, _, _, _, rfl, hb, (fun _ => rfl), f1, f2, f3, f4, f5, (fun h => by obtain ⟨g, h1, h2, h3⟩ := f6 h; exact ⟨g, h1, h2, h3⟩), n6, (fun h => by obtain ⟨g, h1, h2, h3⟩ := f7 h; exact ⟨g, h1, h2, h3⟩), n7, p6_7⟩
      · simp only [List.getElem?_cons_zero, List.getElem?_cons_succ, Option.some.injEq] at ho
        subst ho
        clear hi'
        have d0 : D 0 = true := hdep ⟨0, Ground.data⟩ (by simp) rfl
        clear hdep
        have v0 := f0 d0
        subst v0
        refine wpOp_step rfl (fun K hK => ?_)
        simp only [List.zip_cons_cons, List.zip_nil_right, puts]
        have cW3 : W.cell? ⟨w.heap.size, 3, none⟩ = some (.int .i64 c0) := keep_tr cP3 hb
        have cW4 : W.cell? ⟨w.heap.size, 4, none⟩ = some (.int .i64 c1) := keep_tr cP4 hb
        have cW5 : W.cell? ⟨w.heap.size, 5, none⟩ = some (.int .i64 c2) := keep_tr cP5 hb
        go_simp
        refine hK _ _ ⟨[.pointer (some ⟨w.heap.size, 3, none⟩), .agg #[.int .i64 c0, .int .i64 c1, .int .i64 c2], u8, u9, u10, u11, u3, u4], rfl, by kernel_rfl, _, _, _, _, _, _, _, _, rfl, hb, (fun _ => rfl), (fun _ => rfl), f2, f3, f4, f5, (fun h => by obtain ⟨g, h1, h2, h3⟩ := f6 h; exact ⟨g, h1, h2, h3⟩), n6, (fun h => by obtain ⟨g, h1, h2, h3⟩ := f7 h; exact ⟨g, h1, h2, h3⟩), n7, p6_7⟩
      · simp only [List.getElem?_cons_zero, List.getElem?_cons_succ, Option.some.injEq] at ho
        subst ho
        clear hi'
        have d1 : D 1 = true := hdep ⟨1, Ground.data⟩ (by simp) rfl
        clear hdep
        have v1 := f1 d1
        subst v1
        refine wpOp_step rfl (fun K hK => ?_)
        simp only [List.zip_cons_cons, List.zip_nil_right, puts]
        have Hf0 := Lib.hid f0
        have Hf1 := Lib.hid f1
        have Hf2 := Lib.hid f2
        have Hf3 := Lib.hid f3
        have Hf4 := Lib.hid f4
        have Hf5 := Lib.hid f5
        have Hf6 := Lib.hid f6
        have Hn6 := Lib.hid n6
        have Hf7 := Lib.hid f7
        have Hn7 := Lib.hid n7
        have Hp6_7 := Lib.hid p6_7
        have HK := Lib.hid hK
        clear hK f0 f1 f2 f3 f4 f5 f6 n6 f7 n7 p6_7
        go_simp
        go_wp2_with (go_at_call 9; refine (pk_val HX.out _).mono ?_; rintro e w9 ⟨rfl, b9⟩)
        have f0 := Hf0.out
        have f1 := Hf1.out
        have f2 := Hf2.out
        have f3 := Hf3.out
        have f4 := Hf4.out
        have f5 := Hf5.out
        have f6 := Hf6.out
        have n6 := Hn6.out
        have f7 := Hf7.out
        have n7 := Hn7.out
        have p6_7 := Hp6_7.out
        skip
        refine HK.out _ _ ⟨[u6, .agg #[.int .i64 c0, .int .i64 c1, .int .i64 c2], .int .i64 x, u9, u10, u11, u3, u4], rfl, by kernel_rfl, _, _, _, _, _, _, _, _, rfl, (bel_tr hb b9), f0, (fun _ => rfl), (fun _ => rfl), f3, f4, f5, (fun h => by obtain ⟨g, h1, h2, h3⟩ := f6 h; exact ⟨g, h1, h2, h3.below b9⟩), n6, (fun h => by obtain ⟨g, h1, h2, h3⟩ := f7 h; exact ⟨g, h1, h2, h3.below b9⟩), n7, p6_7⟩
      · simp only [List.getElem?_cons_zero, List.getElem?_cons_succ, Option.some.injEq] at ho
        subst ho
        clear hi'
        clear hdep
        refine wpOp_step rfl (fun K hK => ?_)
        simp only [List.zip_cons_cons, List.zip_nil_right, puts]
        go_simp
        refine hK _ _ ⟨[u6, u7, u8, .pointer (some ⟨w.heap.size, 6, none⟩), u10, u11, u3, u4], rfl, by kernel_rfl, _, _, _, _, _, _, _, _, rfl, hb, f0, f1, f2, (fun _ => rfl), f4, f5, (fun h => by obtain ⟨g, h1, h2, h3⟩ := f6 h; exact ⟨g, h1, h2, h3⟩), n6, (fun h => by obtain ⟨g, h1, h2, h3⟩ := f7 h; exact ⟨g, h1, h2, h3⟩), n7, p6_7⟩
      · simp only [List.getElem?_cons_zero, List.getElem?_cons_succ, Option.some.injEq] at ho
        subst ho
        clear hi'
        have d3 : D 3 = true := hdep ⟨3, Ground.data⟩ (by simp) rfl
        clear hdep
        have v3 := f3 d3
        subst v3
        refine wpOp_step rfl (fun K hK => ?_)
        simp only [List.zip_cons_cons, List.zip_nil_right, puts]
        have cW6 : W.cell? ⟨w.heap.size, 6, none⟩ = some (.int .i64 p0) := keep_tr cP6 hb
        have cW7 : W.cell? ⟨w.heap.size, 7, none⟩ = some (.int .i64 p1) := keep_tr cP7 hb
        have cW8 : W.cell? ⟨w.heap.size, 8, none⟩ = some (.int .i64 p2) := keep_tr cP8 hb
        go_simp
        refine hK _ _ ⟨[u6, u7, u8, .pointer (some ⟨w.heap.size, 6, none⟩), .agg #[.int .i64 p0, .int .i64 p1, .int .i64 p2], u11, u3, u4], rfl, by kernel_rfl, _, _, _, _, _, _, _, _, rfl, hb, f0, f1, f2, (fun _ => rfl), (fun _ => rfl), f5, (fun h => by obtain ⟨g, h1, h2, h3⟩ := f6 h; exact ⟨g, h1, h2, h3⟩), n6, (fun h => by obtain ⟨g, h1, h2, h3⟩ := f7 h; exact ⟨g, h1, h2, h3⟩), n7, p6_7⟩
      · simp only [List.getElem?_cons_zero, List.getElem?_cons_succ, Option.some.injEq] at ho
        subst ho
        clear hi'
        have d4 : D 4 = true := hdep ⟨4, Ground.data⟩ (by simp) rfl
        clear hdep
        have v4 := f4 d4
        subst v4
        refine wpOp_step rfl (fun K hK => ?_)
        simp only [List.zip_cons_cons, List.zip_nil_right, puts]
        have Hf0 := Lib.hid f0
        have Hf1 := Lib.hid f1
        have Hf2 := Lib.hid f2
        have Hf3 := Lib.hid f3
        have Hf4 := Lib.hid f4
        have Hf5 := Lib.hid f5
        have Hf6 := Lib.hid f6
        have Hn6 := Lib.hid n6
        have Hf7 := Lib.hid f7
        have Hn7 := Lib.hid n7
        have Hp6_7 := Lib.hid p6_7
        have HK := Lib.hid hK
        clear hK f0 f1 f2 f3 f4 f5 f6 n6 f7 n7 p6_7
        go_simp
        go_wp2_with (go_at_call 9; refine (pk_val HY.out _).mono ?_; rintro e w9 ⟨rfl, b9⟩)
        have f0 := Hf0.out
        have f1 := Hf1.out
        have f2 := Hf2.out
        have f3 := Hf3.out
        have f4 := Hf4.out
        have f5 := Hf5.out
        have f6 := Hf6.out
        have n6 := Hn6.out
        have f7 := Hf7.out
        have n7 := Hn7.out
        have p6_7 := Hp6_7.out
        skip
        refine HK.out _ _ ⟨[u6, u7, u8, u9, .agg #[.int .i64 p0, .int .i64 p1, .int .i64 p2], .int .i64 y, u3, u4], rfl, by kernel_rfl, _, _, _, _, _, _, _, _, rfl, (bel_tr hb b9), f0, f1, f2, f3, (fun _ => rfl), (fun _ => rfl), (fun h => by obtain ⟨g, h1, h2, h3⟩ := f6 h; exact ⟨g, h1, h2, h3.below b9⟩), n6, (fun h => by obtain ⟨g, h1, h2, h3⟩ := f7 h; exact ⟨g, h1, h2, h3.below b9⟩), n7, p6_7⟩
      · simp only [List.getElem?_cons_zero, List.getElem?_cons_succ, Option.some.injEq] at ho
        subst ho
        clear hi'
        clear hdep
        refine wpOp_step rfl (fun K hK => ?_)
        simp only [List.zip_cons_cons, List.zip_nil_right, puts]
        go_simp
        refine hK _ _ ⟨[u6, u7, u8, u9, u10, u11, .pointer (some ⟨W.heap.size, 0, none⟩), u4], rfl, by kernel_rfl, _, _, _, _, _, _, _, _, rfl, bel_al hb _, f0, f1, f2, f3, f4, f5, (fun _ => ⟨W.heap.size, hb.size, rfl, by rw [if_neg (by show ¬ D 8 = true; rw [n6 hd]; simp)]; exact Blk.new W _ _⟩), (fun h => absurd h (by simp [updD])), (fun h => by obtain ⟨g, h1, h2, h3⟩ := f7 h; exact ⟨g, h1, h2, h3.alloc _⟩), n7, (fun _ h => fun e => by obtain ⟨g, h1, h2, h3⟩ := f7 h; have := h3.lt; rw [h2] at e; simp at e; (try omega))⟩
      · simp only [List.getElem?_cons_zero, List.getElem?_cons_succ, Option.some.injEq] at ho
        subst ho
        clear hi'
        clear hdep
        refine wpOp_step rfl (fun K hK => ?_)
        simp only [List.zip_cons_cons, List.zip_nil_right, puts]
        go_simp
        refine hK _ _ ⟨[u6, u7, u8, u9, u10, u11, u3, .pointer (some ⟨W.heap.size, 0, none⟩)], rfl, by kernel_rfl, _, _, _, _, _, _, _, _, rfl, bel_al hb _, f0, f1, f2, f3, f4, f5, (fun h => by obtain ⟨g, h1, h2, h3⟩ := f6 h; exact ⟨g, h1, h2, h3.alloc _⟩), n6, (fun _ => ⟨W.heap.size, hb.size, rfl, by rw [if_neg (by show ¬ D 9 = true; rw [n7 hd]; simp)]; exact Blk.new W _ _⟩), (fun h => absurd h (by simp [updD])), (fun h _ => fun e => by obtain ⟨g, h1, h2, h3⟩ := f6 h; have := h3.lt; rw [h2] at e; simp at e; (try omega))⟩
      · simp only [List.getElem?_cons_zero, List.getElem?_cons_succ, Option.some.injEq] at ho
        subst ho
        clear hi'
        have d2 : D 2 = true := hdep ⟨2, Ground.data⟩ (by simp) rfl
        have d6 : D 6 = true := hdep ⟨6, Ground.data⟩ (by simp) rfl
        clear hdep
        have v2 := f2 d2
        subst v2
        obtain ⟨g, hg, v6, hB⟩ := f6 d6
        subst v6
        rw [if_neg (by rw [hd]; simp)] at hB
        have cB : W.cell? ⟨g, 0, none⟩ = some (.int .i64 0) := by rw [Blk.cell hB]; rfl
        have fB := Blk.free hB 0
        have lB := hB.lt
        refine wpOp_step rfl (fun K hK => ?_)
        simp only [List.zip_cons_cons, List.zip_nil_right, puts]
        go_simp
        refine hK _ _ ⟨[u6, u7, .int .i64 x, u9, u10, u11, .pointer (some ⟨g, 0, none⟩), u4], rfl, by kernel_rfl, _, _, _, _, _, _, _, _, rfl, bel_set hb hg _, f0, f1, (fun _ => rfl), f3, f4, f5, (fun _ => ⟨g, hg, rfl, by rw [if_pos (show updD D 8 8 = true from rfl)]; exact hB.s10⟩), (fun h => absurd (h.symm.trans d6) (by simp)), (fun h => by obtain ⟨k, h1, h2, h3⟩ := f7 h; have hne := p6_7 d6 h; rw [h2] at hne; exact ⟨k, h1, h2, h3.off (by simp only; intro e; exact hne (by rw [e])) _⟩), n7, p6_7⟩
      · simp only [List.getElem?_cons_zero, List.getElem?_cons_succ, Option.some.injEq] at ho
        subst ho
        clear hi'
        have d5 : D 5 = true := hdep ⟨5, Ground.data⟩ (by simp) rfl
        have d7 : D 7 = true := hdep ⟨7, Ground.data⟩ (by simp) rfl
        clear hdep
        have v5 := f5 d5
        subst v5
        obtain ⟨g, hg, v7, hB⟩ := f7 d7
        subst v7
        rw [if_neg (by rw [hd]; simp)] at hB
        have cB : W.cell? ⟨g, 0, none⟩ = some (.int .i64 0) := by rw [Blk.cell hB]; rfl
        have fB := Blk.free hB 0
        have lB := hB.lt
        refine wpOp_step rfl (fun K hK => ?_)
        simp only [List.zip_cons_cons, List.zip_nil_right, puts]
        go_simp
        refine hK _ _ ⟨[u6, u7, u8, u9, u10, .int .i64 y, u3, .pointer (some ⟨g, 0, none⟩)], rfl, by kernel_rfl, _, _, _, _, _, _, _, _, rfl, bel_set hb hg _, f0, f1, f2, f3, f4, (fun _ => rfl), (fun h => by obtain ⟨k, h1, h2, h3⟩ := f6 h; have hne := p6_7 h d7; rw [h2] at hne; exact ⟨k, h1, h2, h3.off (by simp only; intro e; exact hne (by rw [e])) _⟩), n6, (fun _ => ⟨g, hg, rfl, by rw [if_pos (show updD D 9 9 = true from rfl)]; exact hB.s10⟩), (fun h => absurd (h.symm.trans d7) (by simp)), p6_7⟩
    · rintro D us W hu hall ⟨u6, u7, u8, u9, u10, u11, u3, u4, rfl, hb, f0, f1, f2, f3, f4, f5, f6, n6, f7, n7, p6_7⟩
      have d0 : D 0 = true := hall 0 (by simp)
      have d1 : D 1 = true := hall 1 (by simp)
      have d2 : D 2 = true := hall 2 (by simp)
      have d3 : D 3 = true := hall 3 (by simp)
      have d4 : D 4 = true := hall 4 (by simp)
      have d5 : D 5 = true := hall 5 (by simp)
      have d6 : D 6 = true := hall 6 (by simp)
      have d7 : D 7 = true := hall 7 (by simp)
      have d8 : D 8 = true := hall 8 (by simp)
      have d9 : D 9 = true := hall 9 (by simp)
      have v0 := f0 d0
      subst v0
      have v1 := f1 d1
      subst v1
      have v2 := f2 d2
      subst v2
      have v3 := f3 d3
      subst v3
      have v4 := f4 d4
      subst v4
      have v5 := f5 d5
      subst v5
      obtain ⟨G, hG, v6, bG⟩ := f6 d6
      subst v6
      rw [if_pos d8] at bG
      obtain ⟨H, hH, v7, bH⟩ := f7 d7
      subst v7
      rw [if_pos d9] at bH
      clear f0 f1 f2 f3 f4 f5 f6 n6 f7 n7 p6_7 d0 d1 d2 d3 d4 d5 d6 d7 d8 d9 hall hu
      simp only [List.zip_cons_cons, List.zip_nil_right, puts]
      go_wp2_with fail
      go_meet
      exact ⟨_, _, rfl, rfl, bG, bH, bP.below hb, bel_tr bw hb⟩
  case rest =>
    obtain ⟨g, h, rfl, rfl, bG, bH, bP, bw⟩ := hcut
    clear cP3 cP4 cP5 cP6 cP7 cP8
    have cG : wc.cell? ⟨g, 0, none⟩ = some (.int .i64 x) := by rw [Blk.cell bG]; rfl
    have cH : wc.cell? ⟨h, 0, none⟩ = some (.int .i64 y) := by rw [Blk.cell bH]; rfl
    go_wp2_with fail
    refine (ds_val HD.out _ ⟨x0, x1⟩ ⟨y0, y1⟩).mono ?_
    rintro e2 w2 ⟨rfl, b2⟩
    clear cG cH
    have bG := bG.below b2
    have bH := bH.below b2
    have bP := bP.below b2
    have bw := bel_tr bw b2
    clear b2
    go_upto_region 3 with fail
    have bM : Blk (w2.alloc (.cells #[.int .i64 m] 3)) w2.heap.size #[.int .i64 m] 3 := Blk.new w2 _ _
    have hbl := bel_al (bel_refl w2) (.cells #[.int .i64 m] 3)
    have bG := bG.below hbl
    have bH := bH.below hbl
    have bP := bP.below hbl
    have bw := bel_tr bw hbl
    clear hbl
    generalize (w2.alloc (.cells #[.int .i64 m] 3)) = w3 at *
    generalize w2.heap.size = m3 at *
    go_wp2_with fail
    have bR : Blk (w3.alloc (.cells #[.int .i64 1, .func (.func 41) #[] #[.pointer (some ⟨w.heap.size, 0, none⟩)], .int .i64 3, .func (.func 42) #[] #[.pointer (some ⟨h, 0, none⟩), .pointer (some ⟨g, 0, none⟩)], .int .i64 2, .func (.func 43) #[] #[.pointer (some ⟨g, 0, none⟩), .pointer (some ⟨h, 0, none⟩)], .int .i64 4, .func (.func 45) #[] #[.pointer (some ⟨w.heap.size, 0, none⟩), .pointer (some ⟨m3, 0, none⟩)]] 66)) w3.heap.size #[.int .i64 1, .func (.func 41) #[] #[.pointer (some ⟨w.heap.size, 0, none⟩)], .int .i64 3, .func (.func 42) #[] #[.pointer (some ⟨h, 0, none⟩), .pointer (some ⟨g, 0, none⟩)], .int .i64 2, .func (.func 43) #[] #[.pointer (some ⟨g, 0, none⟩), .pointer (some ⟨h, 0, none⟩)], .int .i64 4, .func (.func 45) #[] #[.pointer (some ⟨w.heap.size, 0, none⟩), .pointer (some ⟨m3, 0, none⟩)]] 66 := Blk.new w3 _ _
    have hbl := bel_al (bel_refl w3) (.cells #[.int .i64 1, .func (.func 41) #[] #[.pointer (some ⟨w.heap.size, 0, none⟩)], .int .i64 3, .func (.func 42) #[] #[.pointer (some ⟨h, 0, none⟩), .pointer (some ⟨g, 0, none⟩)], .int .i64 2, .func (.func 43) #[] #[.pointer (some ⟨g, 0, none⟩), .pointer (some ⟨h, 0, none⟩)], .int .i64 4, .func (.func 45) #[] #[.pointer (some ⟨w.heap.size, 0, none⟩), .pointer (some ⟨m3, 0, none⟩)]] 66)
    have bG := bG.below hbl
    have bH := bH.below hbl
    have bP := bP.below hbl
    have bM := bM.below hbl
    have bw := bel_tr bw hbl
    clear hbl
    generalize w3.alloc (.cells #[.int .i64 1, .func (.func 41) #[] #[.pointer (some ⟨w.heap.size, 0, none⟩)], .int .i64 3, .func (.func 42) #[] #[.pointer (some ⟨h, 0, none⟩), .pointer (some ⟨g, 0, none⟩)], .int .i64 2, .func (.func 43) #[] #[.pointer (some ⟨g, 0, none⟩), .pointer (some ⟨h, 0, none⟩)], .int .i64 4, .func (.func 45) #[] #[.pointer (some ⟨w.heap.size, 0, none⟩), .pointer (some ⟨m3, 0, none⟩)]] 66) = w4 at *
    generalize w3.heap.size = R at *
    refine (fb4_any R w4 (!ik) #[.pointer (some ⟨w.heap.size, 0, none⟩)] (fun W hW => tc1_any f p0 p1 p2 ik w.heap.size W HI.out (by rw [(bP.below hW).cell]; rfl) (by rw [(bP.below hW).cell]; rfl) (by rw [(bP.below hW).cell]; rfl) (by rw [(bP.below hW).cell]; rfl)) (!decide (0 ≤ y - x ∧ y - x ≤ 16)) #[.pointer (some ⟨h, 0, none⟩), .pointer (some ⟨g, 0, none⟩)] (fun W hW => tc2_any x y ⟨x0, x1⟩ ⟨y0, y1⟩ g h W (by rw [(bH.below hW).cell]; rfl) (by rw [(bG.below hW).cell]; rfl)) (disB m) #[.pointer (some ⟨g, 0, none⟩), .pointer (some ⟨h, 0, none⟩)] (fun W hW => tc3_any x y m (disB m) ⟨x0, x1⟩ ⟨y0, y1⟩ (by rw [HD.out]; exact HM.out) rfl g h W (by rw [(bH.below hW).cell]; rfl) (by rw [(bG.below hW).cell]; rfl)) (e4B m z la) #[.pointer (some ⟨w.heap.size, 0, none⟩), .pointer (some ⟨m3, 0, none⟩)] (fun W hW => tc4_any at0 m z la HZ.out w.heap.size m3 W (by rw [(bP.below hW).cell]; rfl) (by rw [(bP.below hW).cell]; rfl) (by rw [(bM.below hW).cell]; rfl)) (by rw [bR.cell]; rfl) (by rw [bR.cell]; rfl) (by rw [bR.cell]; rfl) (by rw [bR.cell]; rfl) (by rw [bR.cell]; rfl) (by rw [bR.cell]; rfl) (by rw [bR.cell]; rfl) (by rw [bR.cell]; rfl)).mono ?_
    rintro e9 w9 ⟨rfl, b9⟩
    have hx := tnK_fb (ik := ik) (x := x) (y := y) (m := m) (z := z) (la := la) (by rw [HD.out]; exact HM.out)
    rw [hx]
    clear hx
    go_wp2
    go_ret
    exact ⟨rfl, bel_tr bw b9⟩
set_option maxHeartbeats 4000000 in
theorem ta_any (f : Int) (A : Option Addr) (n c : Nat) (l : List Pi) (k : Nat) (s a o : Int) (la : Bool) (w : World) (hk : k < l.length) (hn : l.length = n) (hm : n ≤ 2000000) (hla : ((k : Int) == (n : Int) - 1) = la) (h : RowPi w w.heap.size A l) :
    Calls Try.prog 24 #[.int .i64 f, .slice A n c, .int .i64 k, .agg #[.int .i64 s, .int .i64 a, .int .i64 o]] w fun e w' => e = .returned (.agg #[.int .i64 f, .int .i64 k, .bool la, .int .i64 (atPi l k).step, .int .i64 (atPi l k).alter, .int .i64 (atPi l k).octave, .int .i64 s, .int .i64 a, .int .i64 o]) ∧ Below w.heap.size w w' := by
  subst hn
  obtain ⟨b, off, rfl, hlb, hc⟩ := h (by omega)
  have hck := hc k hk
  have hkl : (k : Int) < (l.length : Int) := by omega
  have hk0 : (0 : Int) ≤ (k : Int) := by omega
  have i1 := IntWalk.i64_in ((l.length : Int) - 1) (by omega)
  clear hc h
  generalize atPi l k = t at hck ⊢
  obtain ⟨p0, p1, p2⟩ := hck
  go_enter Try.func24, Try.ntmps24
  go_upto_region 1 with fail
  have bP : Blk ((w.alloc (.cells #[.int .i64 s, .int .i64 a, .int .i64 o] 30)).alloc (.cells #[.int .i64 0, .int .i64 0, .bool false, .int .i64 0, .int .i64 0, .int .i64 0, .int .i64 0, .int .i64 0, .int .i64 0] 47)) w.heap.size #[.int .i64 s, .int .i64 a, .int .i64 o] 30 := (Blk.new w _ _).alloc _
  have bQ : Blk ((w.alloc (.cells #[.int .i64 s, .int .i64 a, .int .i64 o] 30)).alloc (.cells #[.int .i64 0, .int .i64 0, .bool false, .int .i64 0, .int .i64 0, .int .i64 0, .int .i64 0, .int .i64 0, .int .i64 0] 47)) (w.heap.size + 1) #[.int .i64 0, .int .i64 0, .bool false, .int .i64 0, .int .i64 0, .int .i64 0, .int .i64 0, .int .i64 0, .int .i64 0] 47 := by have h := Blk.new (w.alloc (.cells #[.int .i64 s, .int .i64 a, .int .i64 o] 30)) #[.int .i64 0, .int .i64 0, .bool false, .int .i64 0, .int .i64 0, .int .i64 0, .int .i64 0, .int .i64 0, .int .i64 0] 47; simpa using h
  have bw : Below w.heap.size w ((w.alloc (.cells #[.int .i64 s, .int .i64 a, .int .i64 o] 30)).alloc (.cells #[.int .i64 0, .int .i64 0, .bool false, .int .i64 0, .int .i64 0, .int .i64 0, .int .i64 0, .int .i64 0, .int .i64 0] 47)) := bel_al (bel_al (bel_refl _) _) _
  have p0 := keep_tr p0 bw
  have p1 := keep_tr p1 bw
  have p2 := keep_tr p2 bw
  generalize ((w.alloc (.cells #[.int .i64 s, .int .i64 a, .int .i64 o] 30)).alloc (.cells #[.int .i64 0, .int .i64 0, .bool false, .int .i64 0, .int .i64 0, .int .i64 0, .int .i64 0, .int .i64 0, .int .i64 0] 47)) = w0 at *
  have lQ := bQ.lt
  have cP0 : w0.cell? ⟨w.heap.size, 0, none⟩ = some (.int .i64 s) := by rw [Blk.cell bP]; rfl
  have cP1 : w0.cell? ⟨w.heap.size, 1, none⟩ = some (.int .i64 a) := by rw [Blk.cell bP]; rfl
  have cP2 : w0.cell? ⟨w.heap.size, 2, none⟩ = some (.int .i64 o) := by rw [Blk.cell bP]; rfl
  have cQ0 : w0.cell? ⟨w.heap.size + 1, 0, none⟩ = some (.int .i64 0) := by rw [Blk.cell bQ]; rfl
  have fQ0 := Blk.free bQ 0
  have cQ1 : w0.cell? ⟨w.heap.size + 1, 1, none⟩ = some (.int .i64 0) := by rw [Blk.cell bQ]; rfl
  have fQ1 := Blk.free bQ 1
  have cQ2 : w0.cell? ⟨w.heap.size + 1, 2, none⟩ = some (.bool false) := by rw [Blk.cell bQ]; rfl
  have fQ2 := Blk.free bQ 2
  have cQ3 : w0.cell? ⟨w.heap.size + 1, 3, none⟩ = some (.int .i64 0) := by rw [Blk.cell bQ]; rfl
  have fQ3 := Blk.free bQ 3
  have cQ4 : w0.cell? ⟨w.heap.size + 1, 4, none⟩ = some (.int .i64 0) := by rw [Blk.cell bQ]; rfl
  have fQ4 := Blk.free bQ 4
  have cQ5 : w0.cell? ⟨w.heap.size + 1, 5, none⟩ = some (.int .i64 0) := by rw [Blk.cell bQ]; rfl
  have fQ5 := Blk.free bQ 5
  have cQ6 : w0.cell? ⟨w.heap.size + 1, 6, none⟩ = some (.int .i64 0) := by rw [Blk.cell bQ]; rfl
  have fQ6 := Blk.free bQ 6
  have cQ7 : w0.cell? ⟨w.heap.size + 1, 7, none⟩ = some (.int .i64 0) := by rw [Blk.cell bQ]; rfl
  have fQ7 := Blk.free bQ 7
  have cQ8 : w0.cell? ⟨w.heap.size + 1, 8, none⟩ = some (.int .i64 0) := by rw [Blk.cell bQ]; rfl
  have fQ8 := Blk.free bQ 8
  go_region
  all_goals
    go_wp2
    exact bodyPost_ret (v := .agg #[.int .i64 f, .int .i64 k, .bool la, .int .i64 t.step, .int .i64 t.alter, .int .i64 t.octave, .int .i64 s, .int .i64 a, .int .i64 o]) (by simp [results, Try.results24, go_sem, cQ0, cQ1, cQ2, cQ3, cQ4, cQ5, cQ6, cQ7, cQ8, fQ0, fQ1, fQ2, fQ3, fQ4, fQ5, fQ6, fQ7, fQ8]) rfl ⟨rfl, by repeat (first | (with_reducible assumption) | (exact bel_undr (by with_reducible assumption)) | (with_reducible exact bel_refl _) | (with_reducible refine bel_dr ?_) | (with_reducible refine bel_drN ?_ _) | (with_reducible refine bel_al ?_ _) | (refine bel_set ?_ (by first | (simp; done) | (simp; exact Below.size (by assumption)) | (simp; omega)) _) | (with_reducible refine bel_tr ?_ (by assumption)))⟩
end Go.Proofs.Ytdmidimjbhkjoaa
