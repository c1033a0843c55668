/- The interval from one valid pitch to another; of the program and of the reference. -/
import Derived.Test.YtldgpgljapohiaaAdd2
namespace Go.Proofs.Ytldgpgljapohiaa
set_option linter.unusedSimpArgs false
set_option linter.unusedVariables false
open Go.RowKit

set_option maxRecDepth 20000 in
set_option maxHeartbeats 4000000 in
theorem io_val {s a o s1 a1 o1 p k : Int} {v : Bool} (hp : pvB s a o = true) (hq : pvB s1 a1 o1 = true) (hP : 7 * o1 + s1 - (7 * o + s) = p) (hK : 12 * o1 + shI s1 + a1 - (12 * o + shI s + a) = k) (hv : ivB p k = v) (w : World) :
    Calls Try.prog 38 #[.agg #[.int .i64 s, .int .i64 a, .int .i64 o], .agg #[.int .i64 s1, .int .i64 a1, .int .i64 o1]] w fun e w' => e = .returned (.tuple #[.agg #[.int .i64 (if v = true then p else 0), .int .i64 (if v = true then k else 0)], .bool v]) ∧ Below w.heap.size w w' := by
  have hs := shI_bd s
  have hs1 := shI_bd s1
  obtain ⟨h0, h1, h2, h3, h4, h5⟩ := pvB_bd hp
  obtain ⟨g0, g1, g2, g3, g4, g5⟩ := pvB_bd hq
  have ka : pkI s a o = 12 * o + shI s + a := by unfold pkI; rw [hp]; rfl
  have kb : pkI s1 a1 o1 = 12 * o1 + shI s1 + a1 := by unfold pkI; rw [hq]; rfl
  obtain ⟨x, hx⟩ : ∃ x, 12 * o + shI s + a = x := ⟨_, rfl⟩
  obtain ⟨x1, hx1⟩ : ∃ x, 12 * o1 + shI s1 + a1 = x := ⟨_, rfl⟩
  obtain ⟨y, hy⟩ : ∃ x, 7 * o + s = x := ⟨_, rfl⟩
  obtain ⟨y1, hy1⟩ : ∃ x, 7 * o1 + s1 = x := ⟨_, rfl⟩
  rw [hx] at ka hK
  rw [hx1] at kb hK
  rw [hy, hy1] at hP
  have xb0 : -10 ≤ x := by omega
  have xb1 : x ≤ 200 := by omega
  have xb2 : -10 ≤ x1 := by omega
  have xb3 : x1 ≤ 200 := by omega
  have yb0 : 0 ≤ y := by omega
  have yb1 : y ≤ 100 := by omega
  have yb2 : 0 ≤ y1 := by omega
  have yb3 : y1 ≤ 100 := by omega
  subst hP hK
  have HA := Lib.hid hp
  have HB := Lib.hid hq
  have HKA := Lib.hid ka
  have HKB := Lib.hid kb
  have HY := Lib.hid hy
  have HY1 := Lib.hid hy1
  have HV := Lib.hid hv
  have i1 := IntWalk.i64_in (y1 - y) (by omega)
  have i2 := IntWalk.i64_in (x1 - x) (by omega)
  clear hp hq ka kb hx hx1 hy hy1 hv hs hs1 h0 h1 h2 h3 h4 h5 g0 g1 g2 g3 g4 g5
  have z1 : (w.alloc (.cells #[.int .i64 s, .int .i64 a, .int .i64 o] 35)).heap.size = w.heap.size + 1 := by simp
  have z2 : ((w.alloc (.cells #[.int .i64 s, .int .i64 a, .int .i64 o] 35)).alloc (.cells #[.int .i64 s1, .int .i64 a1, .int .i64 o1] 35)).heap.size = w.heap.size + 2 := by simp
  have bP : Blk (((w.alloc (.cells #[.int .i64 s, .int .i64 a, .int .i64 o] 35)).alloc (.cells #[.int .i64 s1, .int .i64 a1, .int .i64 o1] 35)).alloc (.cells #[.int .i64 0, .int .i64 0] 25)) w.heap.size #[.int .i64 s, .int .i64 a, .int .i64 o] 35 := ((Blk.new w _ _).alloc _).alloc _
  have bQ : Blk (((w.alloc (.cells #[.int .i64 s, .int .i64 a, .int .i64 o] 35)).alloc (.cells #[.int .i64 s1, .int .i64 a1, .int .i64 o1] 35)).alloc (.cells #[.int .i64 0, .int .i64 0] 25)) (w.heap.size + 1) #[.int .i64 s1, .int .i64 a1, .int .i64 o1] 35 := by rw [← z1]; exact (Blk.new (w.alloc (.cells #[.int .i64 s, .int .i64 a, .int .i64 o] 35)) _ _).alloc _
  have bR : Blk (((w.alloc (.cells #[.int .i64 s, .int .i64 a, .int .i64 o] 35)).alloc (.cells #[.int .i64 s1, .int .i64 a1, .int .i64 o1] 35)).alloc (.cells #[.int .i64 0, .int .i64 0] 25)) (w.heap.size + 2) #[.int .i64 0, .int .i64 0] 25 := by rw [← z2]; exact Blk.new ((w.alloc (.cells #[.int .i64 s, .int .i64 a, .int .i64 o] 35)).alloc (.cells #[.int .i64 s1, .int .i64 a1, .int .i64 o1] 35)) _ _
  have bw : Below w.heap.size w (((w.alloc (.cells #[.int .i64 s, .int .i64 a, .int .i64 o] 35)).alloc (.cells #[.int .i64 s1, .int .i64 a1, .int .i64 o1] 35)).alloc (.cells #[.int .i64 0, .int .i64 0] 25)) := bel_al (bel_al (bel_al (bel_refl w) _) _) _
  clear z1 z2
  go_enter Try.func38, Try.ntmps38
  go_upto_region 1 with fail
  generalize (((w.alloc (.cells #[.int .i64 s, .int .i64 a, .int .i64 o] 35)).alloc (.cells #[.int .i64 s1, .int .i64 a1, .int .i64 o1] 35)).alloc (.cells #[.int .i64 0, .int .i64 0] 25)) = w0 at *
  have cP0 : w0.cell? ⟨w.heap.size, 0, none⟩ = some (.int .i64 s) := by rw [Blk.cell bP]; rfl
  have cP1 : w0.cell? ⟨w.heap.size, 1, none⟩ = some (.int .i64 a) := by rw [Blk.cell bP]; rfl
  have cP2 : w0.cell? ⟨w.heap.size, 2, none⟩ = some (.int .i64 o) := by rw [Blk.cell bP]; rfl
  have cQ0 : w0.cell? ⟨w.heap.size + 1, 0, none⟩ = some (.int .i64 s1) := by rw [Blk.cell bQ]; rfl
  have cQ1 : w0.cell? ⟨w.heap.size + 1, 1, none⟩ = some (.int .i64 a1) := by rw [Blk.cell bQ]; rfl
  have cQ2 : w0.cell? ⟨w.heap.size + 1, 2, none⟩ = some (.int .i64 o1) := by rw [Blk.cell bQ]; rfl
  refine region_float (w0 := w0) (Z := #[.int .i64 0, .int .i64 0]) (T := 25) 11 6 (by kernel_rfl) (by kernel_rfl) (bel_refl _) (by intro a W oa hoa; simp at hoa; subst hoa; kernel_rfl) ?_
  intro wq hq
  have lf0 : ∀ xL : Later wq, xL.world.cell? ⟨w.heap.size, 0, none⟩ = some (.int .i64 s) := fun xL => xL.at (keep_tr (cP0) hq)
  have lf1 : ∀ xL : Later wq, xL.world.cell? ⟨w.heap.size, 1, none⟩ = some (.int .i64 a) := fun xL => xL.at (keep_tr (cP1) hq)
  have lf2 : ∀ xL : Later wq, xL.world.cell? ⟨w.heap.size, 2, none⟩ = some (.int .i64 o) := fun xL => xL.at (keep_tr (cP2) hq)
  have lf3 : ∀ xL : Later wq, xL.world.cell? ⟨w.heap.size + 1, 0, none⟩ = some (.int .i64 s1) := fun xL => xL.at (keep_tr (cQ0) hq)
  have lf4 : ∀ xL : Later wq, xL.world.cell? ⟨w.heap.size + 1, 1, none⟩ = some (.int .i64 a1) := fun xL => xL.at (keep_tr (cQ1) hq)
  have lf5 : ∀ xL : Later wq, xL.world.cell? ⟨w.heap.size + 1, 2, none⟩ = some (.int .i64 o1) := fun xL => xL.at (keep_tr (cQ2) hq)
  have LA : ∀ xL : Later wq, Calls Try.prog 59 #[.agg #[.int .i64 s, .int .i64 a, .int .i64 o]] xL.world fun e w'' => e = .returned (.int .i64 y) ∧ ∃ z : Later wq, w'' = z.world := fun xL => later_call (by have h := pp_yes s a o xL.world HA.out; rw [HY.out] at h; exact h)
  have LB : ∀ xL : Later wq, Calls Try.prog 59 #[.agg #[.int .i64 s1, .int .i64 a1, .int .i64 o1]] xL.world fun e w'' => e = .returned (.int .i64 y1) ∧ ∃ z : Later wq, w'' = z.world := fun xL => later_call (by have h := pp_yes s1 a1 o1 xL.world HB.out; rw [HY1.out] at h; exact h)
  have LC : ∀ xL : Later wq, Calls Try.prog 33 #[.agg #[.int .i64 s, .int .i64 a, .int .i64 o]] xL.world fun e w'' => e = .returned (.int .i64 x) ∧ ∃ z : Later wq, w'' = z.world := fun xL => later_call (pk_val HKA.out _)
  have LD : ∀ xL : Later wq, Calls Try.prog 33 #[.agg #[.int .i64 s1, .int .i64 a1, .int .i64 o1]] xL.world fun e w'' => e = .returned (.int .i64 x1) ∧ ∃ z : Later wq, w'' = z.world := fun xL => later_call (pk_val HKB.out _)
  simp only [List.take_succ_cons, List.take_zero, List.drop_succ_cons, List.drop_zero]
  repeat (go_big_quiet_step ((first | (go_at_call 59; with_reducible exact LA _) | (go_at_call 59; with_reducible exact LB _) | (go_at_call 33; with_reducible exact LC _) | (go_at_call 33; with_reducible exact LD _))))
  refine wpQuiet_nil ?_
  rintro w' ⟨x, rfl⟩ B hB hBw
  obtain ⟨wl, bl0⟩ := x
  have bl := bel_tr hq bl0
  clear lf0 lf1 lf2 lf3 lf4 lf5 LA LB LC LD
  go_simp
  have lR0 := bR.lt
  have bP := bP.below bl
  have bQ := bQ.below bl
  have bR := bR.below bl
  have bw := bel_tr bw bl
  clear cP0 cP1 cP2 cQ0 cQ1 cQ2
  have cB0 : wl.cell? ⟨B, 0, none⟩ = some (.int .i64 0) := by rw [Blk.cell hB]; rfl
  have cB1 : wl.cell? ⟨B, 1, none⟩ = some (.int .i64 0) := by rw [Blk.cell hB]; rfl
  have fB0 := Blk.free hB 0
  have fB1 := Blk.free hB 1
  have lB := hB.lt
  go_upto_region 2 with fail
  have bB : Blk ((wl.setCell ⟨B, 0, none⟩ (.int .i64 (y1 - y))).setCell ⟨B, 1, none⟩ (.int .i64 (x1 - x))) B #[.int .i64 (y1 - y), .int .i64 (x1 - x)] 25 := (hB.s20).s21
  have bP := (bP.off (q := ⟨B, 0, none⟩) (by simp only; omega) (.int .i64 (y1 - y))).off (q := ⟨B, 1, none⟩) (by simp only; omega) (.int .i64 (x1 - x))
  have bQ := (bQ.off (q := ⟨B, 0, none⟩) (by simp only; omega) (.int .i64 (y1 - y))).off (q := ⟨B, 1, none⟩) (by simp only; omega) (.int .i64 (x1 - x))
  have bR := (bR.off (q := ⟨B, 0, none⟩) (by simp only; omega) (.int .i64 (y1 - y))).off (q := ⟨B, 1, none⟩) (by simp only; omega) (.int .i64 (x1 - x))
  have bw : Below w.heap.size w ((wl.setCell ⟨B, 0, none⟩ (.int .i64 (y1 - y))).setCell ⟨B, 1, none⟩ (.int .i64 (x1 - x))) := bel_set (bel_set bw (by simp only; omega) _) (by simp only; omega) _
  clear cB0 cB1 fB0 fB1 lB hB
  generalize ((wl.setCell ⟨B, 0, none⟩ (.int .i64 (y1 - y))).setCell ⟨B, 1, none⟩ (.int .i64 (x1 - x))) = v7 at *
  have cP0 : v7.cell? ⟨w.heap.size, 0, none⟩ = some (.int .i64 s) := by rw [Blk.cell bP]; rfl
  have cP1 : v7.cell? ⟨w.heap.size, 1, none⟩ = some (.int .i64 a) := by rw [Blk.cell bP]; rfl
  have cP2 : v7.cell? ⟨w.heap.size, 2, none⟩ = some (.int .i64 o) := by rw [Blk.cell bP]; rfl
  have cQ0 : v7.cell? ⟨w.heap.size + 1, 0, none⟩ = some (.int .i64 s1) := by rw [Blk.cell bQ]; rfl
  have cQ1 : v7.cell? ⟨w.heap.size + 1, 1, none⟩ = some (.int .i64 a1) := by rw [Blk.cell bQ]; rfl
  have cQ2 : v7.cell? ⟨w.heap.size + 1, 2, none⟩ = some (.int .i64 o1) := by rw [Blk.cell bQ]; rfl
  go_wp2_with fail
  refine (pv_val HA.out _).mono ?_
  rintro e1 w1 ⟨rfl, b1⟩
  have bP := bP.below b1
  have bQ := bQ.below b1
  have bR := bR.below b1
  have bB := bB.below b1
  have bw := bel_tr bw b1
  clear cP0 cP1 cP2 cQ0 cQ1 cQ2
  clear b1
  have cP0 : w1.cell? ⟨w.heap.size, 0, none⟩ = some (.int .i64 s) := by rw [Blk.cell bP]; rfl
  have cP1 : w1.cell? ⟨w.heap.size, 1, none⟩ = some (.int .i64 a) := by rw [Blk.cell bP]; rfl
  have cP2 : w1.cell? ⟨w.heap.size, 2, none⟩ = some (.int .i64 o) := by rw [Blk.cell bP]; rfl
  have cQ0 : w1.cell? ⟨w.heap.size + 1, 0, none⟩ = some (.int .i64 s1) := by rw [Blk.cell bQ]; rfl
  have cQ1 : w1.cell? ⟨w.heap.size + 1, 1, none⟩ = some (.int .i64 a1) := by rw [Blk.cell bQ]; rfl
  have cQ2 : w1.cell? ⟨w.heap.size + 1, 2, none⟩ = some (.int .i64 o1) := by rw [Blk.cell bQ]; rfl
  go_wp2_with fail
  refine (pv_val HB.out _).mono ?_
  rintro e2 w2 ⟨rfl, b2⟩
  have bP := bP.below b2
  have bQ := bQ.below b2
  have bR := bR.below b2
  have bB := bB.below b2
  have bw := bel_tr bw b2
  clear cP0 cP1 cP2 cQ0 cQ1 cQ2
  clear b2
  have cP0 : w2.cell? ⟨w.heap.size, 0, none⟩ = some (.int .i64 s) := by rw [Blk.cell bP]; rfl
  have cP1 : w2.cell? ⟨w.heap.size, 1, none⟩ = some (.int .i64 a) := by rw [Blk.cell bP]; rfl
  have cP2 : w2.cell? ⟨w.heap.size, 2, none⟩ = some (.int .i64 o) := by rw [Blk.cell bP]; rfl
  have cQ0 : w2.cell? ⟨w.heap.size + 1, 0, none⟩ = some (.int .i64 s1) := by rw [Blk.cell bQ]; rfl
  have cQ1 : w2.cell? ⟨w.heap.size + 1, 1, none⟩ = some (.int .i64 a1) := by rw [Blk.cell bQ]; rfl
  have cQ2 : w2.cell? ⟨w.heap.size + 1, 2, none⟩ = some (.int .i64 o1) := by rw [Blk.cell bQ]; rfl
  have cB0 : w2.cell? ⟨B, 0, none⟩ = some (.int .i64 (y1 - y)) := by rw [Blk.cell bB]; rfl
  have cB1 : w2.cell? ⟨B, 1, none⟩ = some (.int .i64 (x1 - x)) := by rw [Blk.cell bB]; rfl
  go_wp2_with fail
  refine (iv_val HV.out _).mono ?_
  rintro e3 w3 ⟨rfl, b3⟩
  have bP := bP.below b3
  have bQ := bQ.below b3
  have bR := bR.below b3
  have bB := bB.below b3
  have bw := bel_tr bw b3
  clear cP0 cP1 cP2 cQ0 cQ1 cQ2
  clear b3
  have cP0 : w3.cell? ⟨w.heap.size, 0, none⟩ = some (.int .i64 s) := by rw [Blk.cell bP]; rfl
  have cP1 : w3.cell? ⟨w.heap.size, 1, none⟩ = some (.int .i64 a) := by rw [Blk.cell bP]; rfl
  have cP2 : w3.cell? ⟨w.heap.size, 2, none⟩ = some (.int .i64 o) := by rw [Blk.cell bP]; rfl
  have cQ0 : w3.cell? ⟨w.heap.size + 1, 0, none⟩ = some (.int .i64 s1) := by rw [Blk.cell bQ]; rfl
  have cQ1 : w3.cell? ⟨w.heap.size + 1, 1, none⟩ = some (.int .i64 a1) := by rw [Blk.cell bQ]; rfl
  have cQ2 : w3.cell? ⟨w.heap.size + 1, 2, none⟩ = some (.int .i64 o1) := by rw [Blk.cell bQ]; rfl
  clear cB0 cB1
  have cB0 : w3.cell? ⟨B, 0, none⟩ = some (.int .i64 (y1 - y)) := by rw [Blk.cell bB]; rfl
  have cB1 : w3.cell? ⟨B, 1, none⟩ = some (.int .i64 (x1 - x)) := by rw [Blk.cell bB]; rfl
  have cR0 : w3.cell? ⟨w.heap.size + 2, 0, none⟩ = some (.int .i64 0) := by rw [Blk.cell bR]; rfl
  have cR1 : w3.cell? ⟨w.heap.size + 2, 1, none⟩ = some (.int .i64 0) := by rw [Blk.cell bR]; rfl
  have fR0 := Blk.free bR 0
  have fR1 := Blk.free bR 1
  have lR := Blk.lt bR
  cases v
  · go_wp2
    exact bodyPost_ret (v := .tuple #[.agg #[.int .i64 (0), .int .i64 (0)], .bool false]) (by simp [results, Try.results38, go_sem, cR0, cR1, fR0, fR1]) rfl ⟨rfl, by repeat (first | (with_reducible assumption) | (exact bel_undr (by with_reducible assumption)) | (with_reducible exact bel_refl _) | (with_reducible refine bel_dr ?_) | (with_reducible refine bel_drN ?_ _) | (with_reducible refine bel_al ?_ _) | (refine bel_set ?_ (by first | (simp; done) | (simp; exact Below.size (by assumption)) | (simp; omega)) _) | (with_reducible refine bel_tr ?_ (by assumption)))⟩
  · go_wp2
    exact bodyPost_ret (v := .tuple #[.agg #[.int .i64 (y1 - y), .int .i64 (x1 - x)], .bool true]) (by simp [results, Try.results38, go_sem, cR0, cR1, fR0, fR1]) rfl ⟨rfl, by repeat (first | (with_reducible assumption) | (exact bel_undr (by with_reducible assumption)) | (with_reducible exact bel_refl _) | (with_reducible refine bel_dr ?_) | (with_reducible refine bel_drN ?_ _) | (with_reducible refine bel_al ?_ _) | (refine bel_set ?_ (by first | (simp; done) | (simp; exact Below.size (by assumption)) | (simp; omega)) _) | (with_reducible refine bel_tr ?_ (by assumption)))⟩
set_option maxRecDepth 20000 in
set_option maxHeartbeats 4000000 in
theorem sio_val {s a o s1 a1 o1 p k : Int} {v : Bool} (hp : pvB s a o = true) (hq : pvB s1 a1 o1 = true) (hP : 7 * o1 + s1 - (7 * o + s) = p) (hK : 12 * o1 + shI s1 + a1 - (12 * o + shI s + a) = k) (hv : ivB p k = v) (w : World) :
    Calls Try.prog 41 #[.agg #[.int .i64 s, .int .i64 a, .int .i64 o], .agg #[.int .i64 s1, .int .i64 a1, .int .i64 o1]] w fun e w' => e = .returned (.tuple #[.agg #[.int .i64 (if v = true then p else 0), .int .i64 (if v = true then k else 0)], .bool v]) ∧ Below w.heap.size w w' := by
  have hs := shI_bd s
  have hs1 := shI_bd s1
  obtain ⟨h0, h1, h2, h3, h4, h5⟩ := pvB_bd hp
  obtain ⟨g0, g1, g2, g3, g4, g5⟩ := pvB_bd hq
  have ka : pkI s a o = 12 * o + shI s + a := by unfold pkI; rw [hp]; rfl
  have kb : pkI s1 a1 o1 = 12 * o1 + shI s1 + a1 := by unfold pkI; rw [hq]; rfl
  obtain ⟨x, hx⟩ : ∃ x, 12 * o + shI s + a = x := ⟨_, rfl⟩
  obtain ⟨x1, hx1⟩ : ∃ x, 12 * o1 + shI s1 + a1 = x := ⟨_, rfl⟩
  obtain ⟨y, hy⟩ : ∃ x, 7 * o + s = x := ⟨_, rfl⟩
  obtain ⟨y1, hy1⟩ : ∃ x, 7 * o1 + s1 = x := ⟨_, rfl⟩
  rw [hx] at ka hK
  rw [hx1] at kb hK
  rw [hy, hy1] at hP
  have xb0 : -10 ≤ x := by omega
  have xb1 : x ≤ 200 := by omega
  have xb2 : -10 ≤ x1 := by omega
  have xb3 : x1 ≤ 200 := by omega
  have yb0 : 0 ≤ y := by omega
  have yb1 : y ≤ 100 := by omega
  have yb2 : 0 ≤ y1 := by omega
  have yb3 : y1 ≤ 100 := by omega
  subst hP hK
  have HA := Lib.hid hp
  have HB := Lib.hid hq
  have HKA := Lib.hid ka
  have HKB := Lib.hid kb
  have HY := Lib.hid hy
  have HY1 := Lib.hid hy1
  have HV := Lib.hid hv
  have i1 := IntWalk.i64_in (y1 - y) (by omega)
  have i2 := IntWalk.i64_in (x1 - x) (by omega)
  clear hp hq ka kb hx hx1 hy hy1 hv hs hs1 h0 h1 h2 h3 h4 h5 g0 g1 g2 g3 g4 g5
  have z1 : (w.alloc (.cells #[.int .i64 s, .int .i64 a, .int .i64 o] 35)).heap.size = w.heap.size + 1 := by simp
  have z2 : ((w.alloc (.cells #[.int .i64 s, .int .i64 a, .int .i64 o] 35)).alloc (.cells #[.int .i64 s1, .int .i64 a1, .int .i64 o1] 35)).heap.size = w.heap.size + 2 := by simp
  have bP : Blk (((w.alloc (.cells #[.int .i64 s, .int .i64 a, .int .i64 o] 35)).alloc (.cells #[.int .i64 s1, .int .i64 a1, .int .i64 o1] 35)).alloc (.cells #[.int .i64 0, .int .i64 0] 25)) w.heap.size #[.int .i64 s, .int .i64 a, .int .i64 o] 35 := ((Blk.new w _ _).alloc _).alloc _
  have bQ : Blk (((w.alloc (.cells #[.int .i64 s, .int .i64 a, .int .i64 o] 35)).alloc (.cells #[.int .i64 s1, .int .i64 a1, .int .i64 o1] 35)).alloc (.cells #[.int .i64 0, .int .i64 0] 25)) (w.heap.size + 1) #[.int .i64 s1, .int .i64 a1, .int .i64 o1] 35 := by rw [← z1]; exact (Blk.new (w.alloc (.cells #[.int .i64 s, .int .i64 a, .int .i64 o] 35)) _ _).alloc _
  have bR : Blk (((w.alloc (.cells #[.int .i64 s, .int .i64 a, .int .i64 o] 35)).alloc (.cells #[.int .i64 s1, .int .i64 a1, .int .i64 o1] 35)).alloc (.cells #[.int .i64 0, .int .i64 0] 25)) (w.heap.size + 2) #[.int .i64 0, .int .i64 0] 25 := by rw [← z2]; exact Blk.new ((w.alloc (.cells #[.int .i64 s, .int .i64 a, .int .i64 o] 35)).alloc (.cells #[.int .i64 s1, .int .i64 a1, .int .i64 o1] 35)) _ _
  have bw : Below w.heap.size w (((w.alloc (.cells #[.int .i64 s, .int .i64 a, .int .i64 o] 35)).alloc (.cells #[.int .i64 s1, .int .i64 a1, .int .i64 o1] 35)).alloc (.cells #[.int .i64 0, .int .i64 0] 25)) := bel_al (bel_al (bel_al (bel_refl w) _) _) _
  clear z1 z2
  go_enter Try.func41, Try.ntmps41
  go_upto_region 1 with fail
  generalize (((w.alloc (.cells #[.int .i64 s, .int .i64 a, .int .i64 o] 35)).alloc (.cells #[.int .i64 s1, .int .i64 a1, .int .i64 o1] 35)).alloc (.cells #[.int .i64 0, .int .i64 0] 25)) = w0 at *
  have cP0 : w0.cell? ⟨w.heap.size, 0, none⟩ = some (.int .i64 s) := by rw [Blk.cell bP]; rfl
  have cP1 : w0.cell? ⟨w.heap.size, 1, none⟩ = some (.int .i64 a) := by rw [Blk.cell bP]; rfl
  have cP2 : w0.cell? ⟨w.heap.size, 2, none⟩ = some (.int .i64 o) := by rw [Blk.cell bP]; rfl
  have cQ0 : w0.cell? ⟨w.heap.size + 1, 0, none⟩ = some (.int .i64 s1) := by rw [Blk.cell bQ]; rfl
  have cQ1 : w0.cell? ⟨w.heap.size + 1, 1, none⟩ = some (.int .i64 a1) := by rw [Blk.cell bQ]; rfl
  have cQ2 : w0.cell? ⟨w.heap.size + 1, 2, none⟩ = some (.int .i64 o1) := by rw [Blk.cell bQ]; rfl
  go_wp2_with fail
  refine (spv_val HA.out _).mono ?_
  rintro e1 w1 ⟨rfl, b1⟩
  have bP := bP.below b1
  have bQ := bQ.below b1
  have bR := bR.below b1
  have bw := bel_tr bw b1
  clear cP0 cP1 cP2 cQ0 cQ1 cQ2
  clear b1
  have cP0 : w1.cell? ⟨w.heap.size, 0, none⟩ = some (.int .i64 s) := by rw [Blk.cell bP]; rfl
  have cP1 : w1.cell? ⟨w.heap.size, 1, none⟩ = some (.int .i64 a) := by rw [Blk.cell bP]; rfl
  have cP2 : w1.cell? ⟨w.heap.size, 2, none⟩ = some (.int .i64 o) := by rw [Blk.cell bP]; rfl
  have cQ0 : w1.cell? ⟨w.heap.size + 1, 0, none⟩ = some (.int .i64 s1) := by rw [Blk.cell bQ]; rfl
  have cQ1 : w1.cell? ⟨w.heap.size + 1, 1, none⟩ = some (.int .i64 a1) := by rw [Blk.cell bQ]; rfl
  have cQ2 : w1.cell? ⟨w.heap.size + 1, 2, none⟩ = some (.int .i64 o1) := by rw [Blk.cell bQ]; rfl
  go_wp2_with fail
  refine (spv_val HB.out _).mono ?_
  rintro e2 w2 ⟨rfl, b2⟩
  have bP := bP.below b2
  have bQ := bQ.below b2
  have bR := bR.below b2
  have bw := bel_tr bw b2
  clear cP0 cP1 cP2 cQ0 cQ1 cQ2
  clear b2
  have cP0 : w2.cell? ⟨w.heap.size, 0, none⟩ = some (.int .i64 s) := by rw [Blk.cell bP]; rfl
  have cP1 : w2.cell? ⟨w.heap.size, 1, none⟩ = some (.int .i64 a) := by rw [Blk.cell bP]; rfl
  have cP2 : w2.cell? ⟨w.heap.size, 2, none⟩ = some (.int .i64 o) := by rw [Blk.cell bP]; rfl
  have cQ0 : w2.cell? ⟨w.heap.size + 1, 0, none⟩ = some (.int .i64 s1) := by rw [Blk.cell bQ]; rfl
  have cQ1 : w2.cell? ⟨w.heap.size + 1, 1, none⟩ = some (.int .i64 a1) := by rw [Blk.cell bQ]; rfl
  have cQ2 : w2.cell? ⟨w.heap.size + 1, 2, none⟩ = some (.int .i64 o1) := by rw [Blk.cell bQ]; rfl
  go_upto_region 3 with fail
  refine region_float (w0 := w2) (Z := #[.int .i64 0, .int .i64 0]) (T := 25) 11 6 (by kernel_rfl) (by kernel_rfl) (bel_refl _) (by intro a W oa hoa; simp at hoa; subst hoa; kernel_rfl) ?_
  intro wq hq
  have lf0 : ∀ xL : Later wq, xL.world.cell? ⟨w.heap.size, 0, none⟩ = some (.int .i64 s) := fun xL => xL.at (keep_tr (cP0) hq)
  have lf1 : ∀ xL : Later wq, xL.world.cell? ⟨w.heap.size, 1, none⟩ = some (.int .i64 a) := fun xL => xL.at (keep_tr (cP1) hq)
  have lf2 : ∀ xL : Later wq, xL.world.cell? ⟨w.heap.size, 2, none⟩ = some (.int .i64 o) := fun xL => xL.at (keep_tr (cP2) hq)
  have lf3 : ∀ xL : Later wq, xL.world.cell? ⟨w.heap.size + 1, 0, none⟩ = some (.int .i64 s1) := fun xL => xL.at (keep_tr (cQ0) hq)
  have lf4 : ∀ xL : Later wq, xL.world.cell? ⟨w.heap.size + 1, 1, none⟩ = some (.int .i64 a1) := fun xL => xL.at (keep_tr (cQ1) hq)
  have lf5 : ∀ xL : Later wq, xL.world.cell? ⟨w.heap.size + 1, 2, none⟩ = some (.int .i64 o1) := fun xL => xL.at (keep_tr (cQ2) hq)
  have LA : ∀ xL : Later wq, Calls Try.prog 62 #[.agg #[.int .i64 s, .int .i64 a, .int .i64 o]] xL.world fun e w'' => e = .returned (.int .i64 y) ∧ ∃ z : Later wq, w'' = z.world := fun xL => later_call (by have h := spp_yes s a o xL.world HA.out; rw [HY.out] at h; exact h)
  have LB : ∀ xL : Later wq, Calls Try.prog 62 #[.agg #[.int .i64 s1, .int .i64 a1, .int .i64 o1]] xL.world fun e w'' => e = .returned (.int .i64 y1) ∧ ∃ z : Later wq, w'' = z.world := fun xL => later_call (by have h := spp_yes s1 a1 o1 xL.world HB.out; rw [HY1.out] at h; exact h)
  have LC : ∀ xL : Later wq, Calls Try.prog 63 #[.agg #[.int .i64 s, .int .i64 a, .int .i64 o]] xL.world fun e w'' => e = .returned (.int .i64 x) ∧ ∃ z : Later wq, w'' = z.world := fun xL => later_call (spk_val HKA.out _)
  have LD : ∀ xL : Later wq, Calls Try.prog 63 #[.agg #[.int .i64 s1, .int .i64 a1, .int .i64 o1]] xL.world fun e w'' => e = .returned (.int .i64 x1) ∧ ∃ z : Later wq, w'' = z.world := fun xL => later_call (spk_val HKB.out _)
  simp only [List.take_succ_cons, List.take_zero, List.drop_succ_cons, List.drop_zero]
  repeat (go_big_quiet_step ((first | (go_at_call 62; with_reducible exact LA _) | (go_at_call 62; with_reducible exact LB _) | (go_at_call 63; with_reducible exact LC _) | (go_at_call 63; with_reducible exact LD _))))
  refine wpQuiet_nil ?_
  rintro w' ⟨x, rfl⟩ B hB hBw
  obtain ⟨wl, bl0⟩ := x
  have bl := bel_tr hq bl0
  clear lf0 lf1 lf2 lf3 lf4 lf5 LA LB LC LD
  go_simp
  have lR0 := bR.lt
  have bP := bP.below bl
  have bQ := bQ.below bl
  have bR := bR.below bl
  have bw := bel_tr bw bl
  clear cP0 cP1 cP2 cQ0 cQ1 cQ2
  have cB0 : wl.cell? ⟨B, 0, none⟩ = some (.int .i64 0) := by rw [Blk.cell hB]; rfl
  have cB1 : wl.cell? ⟨B, 1, none⟩ = some (.int .i64 0) := by rw [Blk.cell hB]; rfl
  have fB0 := Blk.free hB 0
  have fB1 := Blk.free hB 1
  have lB := hB.lt
  go_upto_region 4 with fail
  have bB : Blk ((wl.setCell ⟨B, 0, none⟩ (.int .i64 (y1 - y))).setCell ⟨B, 1, none⟩ (.int .i64 (x1 - x))) B #[.int .i64 (y1 - y), .int .i64 (x1 - x)] 25 := (hB.s20).s21
  have bP := (bP.off (q := ⟨B, 0, none⟩) (by simp only; omega) (.int .i64 (y1 - y))).off (q := ⟨B, 1, none⟩) (by simp only; omega) (.int .i64 (x1 - x))
  have bQ := (bQ.off (q := ⟨B, 0, none⟩) (by simp only; omega) (.int .i64 (y1 - y))).off (q := ⟨B, 1, none⟩) (by simp only; omega) (.int .i64 (x1 - x))
  have bR := (bR.off (q := ⟨B, 0, none⟩) (by simp only; omega) (.int .i64 (y1 - y))).off (q := ⟨B, 1, none⟩) (by simp only; omega) (.int .i64 (x1 - x))
  have bw : Below w.heap.size w ((wl.setCell ⟨B, 0, none⟩ (.int .i64 (y1 - y))).setCell ⟨B, 1, none⟩ (.int .i64 (x1 - x))) := bel_set (bel_set bw (by simp only; omega) _) (by simp only; omega) _
  clear cB0 cB1 fB0 fB1 lB hB
  generalize ((wl.setCell ⟨B, 0, none⟩ (.int .i64 (y1 - y))).setCell ⟨B, 1, none⟩ (.int .i64 (x1 - x))) = v7 at *
  have cP0 : v7.cell? ⟨w.heap.size, 0, none⟩ = some (.int .i64 s) := by rw [Blk.cell bP]; rfl
  have cP1 : v7.cell? ⟨w.heap.size, 1, none⟩ = some (.int .i64 a) := by rw [Blk.cell bP]; rfl
  have cP2 : v7.cell? ⟨w.heap.size, 2, none⟩ = some (.int .i64 o) := by rw [Blk.cell bP]; rfl
  have cQ0 : v7.cell? ⟨w.heap.size + 1, 0, none⟩ = some (.int .i64 s1) := by rw [Blk.cell bQ]; rfl
  have cQ1 : v7.cell? ⟨w.heap.size + 1, 1, none⟩ = some (.int .i64 a1) := by rw [Blk.cell bQ]; rfl
  have cQ2 : v7.cell? ⟨w.heap.size + 1, 2, none⟩ = some (.int .i64 o1) := by rw [Blk.cell bQ]; rfl
  have cB0 : v7.cell? ⟨B, 0, none⟩ = some (.int .i64 (y1 - y)) := by rw [Blk.cell bB]; rfl
  have cB1 : v7.cell? ⟨B, 1, none⟩ = some (.int .i64 (x1 - x)) := by rw [Blk.cell bB]; rfl
  go_wp2_with fail
  refine (siv_val HV.out _).mono ?_
  rintro e3 w3 ⟨rfl, b3⟩
  have bP := bP.below b3
  have bQ := bQ.below b3
  have bR := bR.below b3
  have bB := bB.below b3
  have bw := bel_tr bw b3
  clear cP0 cP1 cP2 cQ0 cQ1 cQ2
  clear b3
  have cP0 : w3.cell? ⟨w.heap.size, 0, none⟩ = some (.int .i64 s) := by rw [Blk.cell bP]; rfl
  have cP1 : w3.cell? ⟨w.heap.size, 1, none⟩ = some (.int .i64 a) := by rw [Blk.cell bP]; rfl
  have cP2 : w3.cell? ⟨w.heap.size, 2, none⟩ = some (.int .i64 o) := by rw [Blk.cell bP]; rfl
  have cQ0 : w3.cell? ⟨w.heap.size + 1, 0, none⟩ = some (.int .i64 s1) := by rw [Blk.cell bQ]; rfl
  have cQ1 : w3.cell? ⟨w.heap.size + 1, 1, none⟩ = some (.int .i64 a1) := by rw [Blk.cell bQ]; rfl
  have cQ2 : w3.cell? ⟨w.heap.size + 1, 2, none⟩ = some (.int .i64 o1) := by rw [Blk.cell bQ]; rfl
  clear cB0 cB1
  have cB0 : w3.cell? ⟨B, 0, none⟩ = some (.int .i64 (y1 - y)) := by rw [Blk.cell bB]; rfl
  have cB1 : w3.cell? ⟨B, 1, none⟩ = some (.int .i64 (x1 - x)) := by rw [Blk.cell bB]; rfl
  have cR0 : w3.cell? ⟨w.heap.size + 2, 0, none⟩ = some (.int .i64 0) := by rw [Blk.cell bR]; rfl
  have cR1 : w3.cell? ⟨w.heap.size + 2, 1, none⟩ = some (.int .i64 0) := by rw [Blk.cell bR]; rfl
  have fR0 := Blk.free bR 0
  have fR1 := Blk.free bR 1
  have lR := Blk.lt bR
  cases v
  · go_wp2
    exact bodyPost_ret (v := .tuple #[.agg #[.int .i64 (0), .int .i64 (0)], .bool false]) (by simp [results, Try.results41, go_sem, cR0, cR1, fR0, fR1]) rfl ⟨rfl, by repeat (first | (with_reducible assumption) | (exact bel_undr (by with_reducible assumption)) | (with_reducible exact bel_refl _) | (with_reducible refine bel_dr ?_) | (with_reducible refine bel_drN ?_ _) | (with_reducible refine bel_al ?_ _) | (refine bel_set ?_ (by first | (simp; done) | (simp; exact Below.size (by assumption)) | (simp; omega)) _) | (with_reducible refine bel_tr ?_ (by assumption)))⟩
  · go_wp2
    exact bodyPost_ret (v := .tuple #[.agg #[.int .i64 (y1 - y), .int .i64 (x1 - x)], .bool true]) (by simp [results, Try.results41, go_sem, cR0, cR1, fR0, fR1]) rfl ⟨rfl, by repeat (first | (with_reducible assumption) | (exact bel_undr (by with_reducible assumption)) | (with_reducible exact bel_refl _) | (with_reducible refine bel_dr ?_) | (with_reducible refine bel_drN ?_ _) | (with_reducible refine bel_al ?_ _) | (refine bel_set ?_ (by first | (simp; done) | (simp; exact Below.size (by assumption)) | (simp; omega)) _) | (with_reducible refine bel_tr ?_ (by assumption)))⟩
end Go.Proofs.Ytldgpgljapohiaa
