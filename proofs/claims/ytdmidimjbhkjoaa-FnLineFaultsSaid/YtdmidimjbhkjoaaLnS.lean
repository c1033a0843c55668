/- The faults of a tone and of a step, of the reference: l14One, l14Two. -/
import Derived.Test.YtdmidimjbhkjoaaLnA
import Derived.Deep.DeepCutAuto
namespace Go.Proofs.Ytdmidimjbhkjoaa
set_option linter.unusedSimpArgs false
set_option linter.unusedVariables false
open Go.RowKit

theorem tnK_1 {x y : Int} {z la : Bool} : tnK false x y z la = 1 := rfl
theorem tnK_3 {x y : Int} {z la : Bool} (h : ¬ (0 ≤ y - x ∧ y - x ≤ 16)) : tnK true x y z la = 3 := by unfold tnK; rw [if_neg (by simp), if_pos h]
theorem tnK_2 {x y : Int} {z la : Bool} (h : 0 ≤ y - x ∧ y - x ≤ 16) (hd : disB (dsI x y % 12) = true) : tnK true x y z la = 2 := by unfold tnK; rw [if_neg (by simp), if_neg (fun c => c h), if_pos hd]
theorem tnK_4 {x y : Int} {z la : Bool} (h : 0 ≤ y - x ∧ y - x ≤ 16) (hd : disB (dsI x y % 12) = false) (he : e4B (dsI x y % 12) z la = true) : tnK true x y z la = 4 := by unfold tnK; rw [if_neg (by simp), if_neg (fun c => c h), if_neg (by rw [hd]; simp), if_pos he]
theorem tnK_0 {x y : Int} {z la : Bool} (h : 0 ≤ y - x ∧ y - x ≤ 16) (hd : disB (dsI x y % 12) = false) (he : e4B (dsI x y % 12) z la = false) : tnK true x y z la = 0 := by unfold tnK; rw [if_neg (by simp), if_neg (fun c => c h), if_neg (by rw [hd]; simp), if_neg (by rw [he]; simp)]
theorem dsI_up {x y : Int} (h : 0 ≤ y - x) : dsI x y = y - x := by unfold dsI; rw [if_pos (by omega)]
theorem stK_7 {x y x' : Int} : stK x y x' y = 7 := by unfold stK; rw [if_pos (by unfold dsI; rw [if_pos (Int.le_refl _)]; omega)]
theorem stK_6 {x y x' y' : Int} (h : 9 < dsI y y') : stK x y x' y' = 6 := by unfold stK; rw [if_neg (by omega), if_pos h]
theorem stK_5 {x y x' y' : Int} (h0 : dsI y y' ≠ 0) (h : ¬ 9 < dsI y y') (h5 : (y - x) % 12 = (y' - x') % 12 ∧ ((y - x) % 12 = 0 ∨ (y - x) % 12 = 7)) : stK x y x' y' = 5 := by unfold stK; rw [if_neg h0, if_neg h, if_pos h5]
theorem stK_0 {x y x' y' : Int} (h0 : dsI y y' ≠ 0) (h : ¬ 9 < dsI y y') (h5 : ¬ ((y - x) % 12 = (y' - x') % 12 ∧ ((y - x) % 12 = 0 ∨ (y - x) % 12 = 7))) : stK x y x' y' = 0 := by unfold stK; rw [if_neg h0, if_neg h, if_neg h5]
theorem tmod12_zero {a b : Int} : (Int.tmod (a - b) 12 = 0) ↔ (a % 12 = b % 12) := by
  have h : Int.tmod (a - b) 12 = 0 ↔ (a - b) % 12 = 0 := by
    rw [← Int.dvd_iff_tmod_eq_zero, Int.dvd_iff_emod_eq_zero]
  rw [h]; omega
set_option maxHeartbeats 4000000 in
theorem so_any (f at0 n : Int) (c0 c1 c2 p0 p1 p2 x y : Int) (ik z la : Bool) (hx : pkI c0 c1 c2 = x) (hy : pkI p0 p1 p2 = y) (hi : ikB f p0 p1 p2 = ik) (hz : (at0 == 0) = z) (hl : (at0 == n - 1) = la) (hn : 0 ≤ n ∧ n ≤ 2000000) (w : World) :
    Calls Try.prog 27 #[.int .i64 f, .agg #[.int .i64 c0, .int .i64 c1, .int .i64 c2], .agg #[.int .i64 p0, .int .i64 p1, .int .i64 p2], .int .i64 at0, .int .i64 n] w fun e w' => e = .returned (.int .i64 (tnK ik x y z la)) ∧ Below w.heap.size w w' := by
  obtain ⟨x0, x1⟩ := pkI_bd c0 c1 c2
  obtain ⟨y0, y1⟩ := pkI_bd p0 p1 p2
  rw [hx] at x0 x1
  rw [hy] at y0 y1
  obtain ⟨n0', n1'⟩ := hn
  have i1 := IntWalk.i64_in (y - x) (by omega)
  have i2 := IntWalk.i64_in (n - 1) (by omega)
  have HX := Lib.hid hx
  have HY := Lib.hid hy
  have HI := Lib.hid hi
  clear hx hy hi
  go_enter Try.func27, Try.ntmps27
  go_upto_region 1 with fail
  have bP : Blk ((w.alloc (.cells #[.int .i64 c0, .int .i64 c1, .int .i64 c2] 30)).alloc (.cells #[.int .i64 p0, .int .i64 p1, .int .i64 p2] 30)) w.heap.size #[.int .i64 c0, .int .i64 c1, .int .i64 c2] 30 := (Blk.new w _ _).alloc _
  have bQ : Blk ((w.alloc (.cells #[.int .i64 c0, .int .i64 c1, .int .i64 c2] 30)).alloc (.cells #[.int .i64 p0, .int .i64 p1, .int .i64 p2] 30)) (w.heap.size + 1) #[.int .i64 p0, .int .i64 p1, .int .i64 p2] 30 := by have h := Blk.new (w.alloc (.cells #[.int .i64 c0, .int .i64 c1, .int .i64 c2] 30)) #[.int .i64 p0, .int .i64 p1, .int .i64 p2] 30; simpa using h
  have bw : Below w.heap.size w ((w.alloc (.cells #[.int .i64 c0, .int .i64 c1, .int .i64 c2] 30)).alloc (.cells #[.int .i64 p0, .int .i64 p1, .int .i64 p2] 30)) := bel_al (bel_al (bel_refl _) _) _
  generalize ((w.alloc (.cells #[.int .i64 c0, .int .i64 c1, .int .i64 c2] 30)).alloc (.cells #[.int .i64 p0, .int .i64 p1, .int .i64 p2] 30)) = w0 at *
  have cP0 : w0.cell? ⟨w.heap.size, 0, none⟩ = some (.int .i64 c0) := by rw [Blk.cell bP]; rfl
  have cP1 : w0.cell? ⟨w.heap.size, 1, none⟩ = some (.int .i64 c1) := by rw [Blk.cell bP]; rfl
  have cP2 : w0.cell? ⟨w.heap.size, 2, none⟩ = some (.int .i64 c2) := by rw [Blk.cell bP]; rfl
  have cQ0 : w0.cell? ⟨w.heap.size + 1, 0, none⟩ = some (.int .i64 p0) := by rw [Blk.cell bQ]; rfl
  have cQ1 : w0.cell? ⟨w.heap.size + 1, 1, none⟩ = some (.int .i64 p1) := by rw [Blk.cell bQ]; rfl
  have cQ2 : w0.cell? ⟨w.heap.size + 1, 2, none⟩ = some (.int .i64 p2) := by rw [Blk.cell bQ]; rfl
  have LA : ∀ xL : Later w0, Calls Try.prog 50 #[.agg #[.int .i64 c0, .int .i64 c1, .int .i64 c2]] xL.world fun e w'' => e = .returned (.int .i64 x) ∧ ∃ z : Later w0, w'' = z.world := fun xL => later_call (spk_val HX.out _)
  have LB : ∀ xL : Later w0, Calls Try.prog 50 #[.agg #[.int .i64 p0, .int .i64 p1, .int .i64 p2]] xL.world fun e w'' => e = .returned (.int .i64 y) ∧ ∃ z : Later w0, w'' = z.world := fun xL => later_call (spk_val HY.out _)
  have lf0 : ∀ xL : Later w0, xL.world.cell? ⟨w.heap.size, 0, none⟩ = some (.int .i64 c0) := fun xL => xL.at (cP0)
  have lf1 : ∀ xL : Later w0, xL.world.cell? ⟨w.heap.size, 1, none⟩ = some (.int .i64 c1) := fun xL => xL.at (cP1)
  have lf2 : ∀ xL : Later w0, xL.world.cell? ⟨w.heap.size, 2, none⟩ = some (.int .i64 c2) := fun xL => xL.at (cP2)
  have lf3 : ∀ xL : Later w0, xL.world.cell? ⟨w.heap.size + 1, 0, none⟩ = some (.int .i64 p0) := fun xL => xL.at (cQ0)
  have lf4 : ∀ xL : Later w0, xL.world.cell? ⟨w.heap.size + 1, 1, none⟩ = some (.int .i64 p1) := fun xL => xL.at (cQ1)
  have lf5 : ∀ xL : Later w0, xL.world.cell? ⟨w.heap.size + 1, 2, none⟩ = some (.int .i64 p2) := fun xL => xL.at (cQ2)
  refine region_later (w0 := w0) (by kernel_rfl) (by kernel_rfl) (bel_refl _) ?_
  repeat (go_big_quiet_step ((first | (go_at_call 50; with_reducible exact LA _) | (go_at_call 50; with_reducible exact LB _))))
  refine wpQuiet_nil ?_
  rintro w' ⟨x, rfl⟩
  obtain ⟨w1, b1⟩ := x
  clear lf0 lf1 lf2 lf3 lf4 lf5
  clear LA LB
  clear cP0 cP1 cP2 cQ0 cQ1 cQ2
  have bQ := bQ.below b1
  have bw := bel_tr bw b1
  clear bP
  have cQ0 : w1.cell? ⟨w.heap.size + 1, 0, none⟩ = some (.int .i64 p0) := by rw [Blk.cell bQ]; rfl
  have cQ1 : w1.cell? ⟨w.heap.size + 1, 1, none⟩ = some (.int .i64 p1) := by rw [Blk.cell bQ]; rfl
  have cQ2 : w1.cell? ⟨w.heap.size + 1, 2, none⟩ = some (.int .i64 p2) := by rw [Blk.cell bQ]; rfl
  go_wp2_with fail
  refine (sink_val HI.out _).mono ?_
  rintro e2 w2 ⟨rfl, b2⟩
  have bw := bel_tr bw b2
  clear b2
  clear cQ0 cQ1 cQ2
  clear bQ
  cases ik
  · go_wp2
    go_ret
    exact ⟨ret_int tnK_1.symm, bw⟩
  · by_cases hr : 0 ≤ y - x ∧ y - x ≤ 16
    · have hd := dsI_up hr.1
      obtain ⟨m, hm⟩ : ∃ m, dsI x y % 12 = m := ⟨_, rfl⟩
      have hM := tmodE hr.1 12
      rw [← hd, hm, hd] at hM
      have HR := Lib.hid hr
      have HM := Lib.hid hm
      clear hd hm
      obtain ⟨r0, r1⟩ := hr
      go_wp2_with fail
      refine (swin_yes _ _ _ _ r0 r1).mono ?_
      rintro e3 w3 ⟨rfl, rfl⟩
      cases hv : disB m
      · obtain ⟨n1, n2, n3, n4, n5, n6⟩ := disB_not hv
        have HV := Lib.hid hv
        clear hv
        rcases e4_cases m z la with ⟨he, ⟨rfl, n0, n7⟩ | ⟨rfl, rfl, n0⟩ | ⟨rfl, rfl, rfl⟩⟩ | ⟨he, ⟨rfl, rfl, rfl⟩ | ⟨rfl, rfl, rfl⟩ | ⟨rfl, rfl, rfl⟩ | ⟨rfl, rfl⟩ | ⟨rfl, rfl, rfl⟩⟩
        all_goals
          have HE := Lib.hid he
          clear he
          go_wp2
          go_ret
          first | exact ⟨ret_int (tnK_4 HR.out (by rw [HM.out]; exact HV.out) (by rw [HM.out]; exact HE.out)).symm, bw⟩ | exact ⟨ret_int (tnK_0 HR.out (by rw [HM.out]; exact HV.out) (by rw [HM.out]; exact HE.out)).symm, bw⟩
      · have ho := disB_or hv
        have HV := Lib.hid hv
        clear hv
        rcases ho with rfl | rfl | rfl | rfl | rfl | rfl
        all_goals
          go_wp2
          go_ret
          exact ⟨ret_int (tnK_2 HR.out (by rw [HM.out]; rfl)).symm, bw⟩
    · go_wp2_with fail
      refine (swin_no _ _ _ _ (by omega)).mono ?_
      rintro e3 w3 ⟨rfl, rfl⟩
      go_wp2
      go_ret
      exact ⟨ret_int (tnK_3 hr).symm, bw⟩
set_option maxHeartbeats 4000000 in
theorem st_any (c0 c1 c2 p0 p1 p2 e0 e1 e2 q0 q1 q2 x y x' y' : Int) (hx : pkI c0 c1 c2 = x) (hy : pkI p0 p1 p2 = y) (hx' : pkI e0 e1 e2 = x') (hy' : pkI q0 q1 q2 = y') (hbx : -2 ≤ x) (hby : -2 ≤ y) (w : World) :
    Calls Try.prog 28 #[.agg #[.int .i64 c0, .int .i64 c1, .int .i64 c2], .agg #[.int .i64 p0, .int .i64 p1, .int .i64 p2], .agg #[.int .i64 e0, .int .i64 e1, .int .i64 e2], .agg #[.int .i64 q0, .int .i64 q1, .int .i64 q2]] w fun e w' => e = .returned (.int .i64 (stK x y x' y')) ∧ Below w.heap.size w w' := by
  obtain ⟨x0, x1⟩ := pkI_bd c0 c1 c2
  obtain ⟨y0, y1⟩ := pkI_bd p0 p1 p2
  obtain ⟨x2, x3⟩ := pkI_bd e0 e1 e2
  obtain ⟨y2, y3⟩ := pkI_bd q0 q1 q2
  rw [hx] at x0 x1
  rw [hy] at y0 y1
  rw [hx'] at x2 x3
  rw [hy'] at y2 y3
  have HX := Lib.hid hx
  have HY := Lib.hid hy
  have HX' := Lib.hid hx'
  have HY' := Lib.hid hy'
  have i1 := IntWalk.i64_in (y - x) (by omega)
  have i2 := IntWalk.i64_in (y' - x') (by omega)
  have i3 := IntWalk.i64_in (y' - y) (by omega)
  have i4 := IntWalk.i64_in (-(y' - y)) (by omega)
  have i5 := IntWalk.i64_in (y - x - (y' - x')) (by omega)
  have i6 := IntWalk.i64_in (y - x + 120) (by omega)
  clear hx hy hx' hy'
  go_enter Try.func28, Try.ntmps28
  go_upto_region 1 with fail
  have k0 : Blk (w.alloc (.cells #[.int .i64 c0, .int .i64 c1, .int .i64 c2] 30)) (w.heap.size) #[.int .i64 c0, .int .i64 c1, .int .i64 c2] 30 := by have h := Blk.new w #[.int .i64 c0, .int .i64 c1, .int .i64 c2] 30; simpa using h
  have k0 : Blk ((((w.alloc (.cells #[.int .i64 c0, .int .i64 c1, .int .i64 c2] 30)).alloc (.cells #[.int .i64 p0, .int .i64 p1, .int .i64 p2] 30)).alloc (.cells #[.int .i64 e0, .int .i64 e1, .int .i64 e2] 30)).alloc (.cells #[.int .i64 q0, .int .i64 q1, .int .i64 q2] 30)) (w.heap.size) #[.int .i64 c0, .int .i64 c1, .int .i64 c2] 30 := (((k0.alloc _).alloc _).alloc _)
  have k1 : Blk ((w.alloc (.cells #[.int .i64 c0, .int .i64 c1, .int .i64 c2] 30)).alloc (.cells #[.int .i64 p0, .int .i64 p1, .int .i64 p2] 30)) (w.heap.size + 1) #[.int .i64 p0, .int .i64 p1, .int .i64 p2] 30 := by have h := Blk.new (w.alloc (.cells #[.int .i64 c0, .int .i64 c1, .int .i64 c2] 30)) #[.int .i64 p0, .int .i64 p1, .int .i64 p2] 30; simpa using h
  have k1 : Blk ((((w.alloc (.cells #[.int .i64 c0, .int .i64 c1, .int .i64 c2] 30)).alloc (.cells #[.int .i64 p0, .int .i64 p1, .int .i64 p2] 30)).alloc (.cells #[.int .i64 e0, .int .i64 e1, .int .i64 e2] 30)).alloc (.cells #[.int .i64 q0, .int .i64 q1, .int .i64 q2] 30)) (w.heap.size + 1) #[.int .i64 p0, .int .i64 p1, .int .i64 p2] 30 := ((k1.alloc _).alloc _)
  have k2 : Blk (((w.alloc (.cells #[.int .i64 c0, .int .i64 c1, .int .i64 c2] 30)).alloc (.cells #[.int .i64 p0, .int .i64 p1, .int .i64 p2] 30)).alloc (.cells #[.int .i64 e0, .int .i64 e1, .int .i64 e2] 30)) (w.heap.size + 2) #[.int .i64 e0, .int .i64 e1, .int .i64 e2] 30 := by have h := Blk.new ((w.alloc (.cells #[.int .i64 c0, .int .i64 c1, .int .i64 c2] 30)).alloc (.cells #[.int .i64 p0, .int .i64 p1, .int .i64 p2] 30)) #[.int .i64 e0, .int .i64 e1, .int .i64 e2] 30; simpa using h
  have k2 : Blk ((((w.alloc (.cells #[.int .i64 c0, .int .i64 c1, .int .i64 c2] 30)).alloc (.cells #[.int .i64 p0, .int .i64 p1, .int .i64 p2] 30)).alloc (.cells #[.int .i64 e0, .int .i64 e1, .int .i64 e2] 30)).alloc (.cells #[.int .i64 q0, .int .i64 q1, .int .i64 q2] 30)) (w.heap.size + 2) #[.int .i64 e0, .int .i64 e1, .int .i64 e2] 30 := (k2.alloc _)
  have k3 : Blk ((((w.alloc (.cells #[.int .i64 c0, .int .i64 c1, .int .i64 c2] 30)).alloc (.cells #[.int .i64 p0, .int .i64 p1, .int .i64 p2] 30)).alloc (.cells #[.int .i64 e0, .int .i64 e1, .int .i64 e2] 30)).alloc (.cells #[.int .i64 q0, .int .i64 q1, .int .i64 q2] 30)) (w.heap.size + 3) #[.int .i64 q0, .int .i64 q1, .int .i64 q2] 30 := by have h := Blk.new (((w.alloc (.cells #[.int .i64 c0, .int .i64 c1, .int .i64 c2] 30)).alloc (.cells #[.int .i64 p0, .int .i64 p1, .int .i64 p2] 30)).alloc (.cells #[.int .i64 e0, .int .i64 e1, .int .i64 e2] 30)) #[.int .i64 q0, .int .i64 q1, .int .i64 q2] 30; simpa using h
  have k3 : Blk ((((w.alloc (.cells #[.int .i64 c0, .int .i64 c1, .int .i64 c2] 30)).alloc (.cells #[.int .i64 p0, .int .i64 p1, .int .i64 p2] 30)).alloc (.cells #[.int .i64 e0, .int .i64 e1, .int .i64 e2] 30)).alloc (.cells #[.int .i64 q0, .int .i64 q1, .int .i64 q2] 30)) (w.heap.size + 3) #[.int .i64 q0, .int .i64 q1, .int .i64 q2] 30 := k3
  have bw : Below w.heap.size w ((((w.alloc (.cells #[.int .i64 c0, .int .i64 c1, .int .i64 c2] 30)).alloc (.cells #[.int .i64 p0, .int .i64 p1, .int .i64 p2] 30)).alloc (.cells #[.int .i64 e0, .int .i64 e1, .int .i64 e2] 30)).alloc (.cells #[.int .i64 q0, .int .i64 q1, .int .i64 q2] 30)) := bel_al (bel_al (bel_al (bel_al (bel_refl _) _) _) _) _
  generalize ((((w.alloc (.cells #[.int .i64 c0, .int .i64 c1, .int .i64 c2] 30)).alloc (.cells #[.int .i64 p0, .int .i64 p1, .int .i64 p2] 30)).alloc (.cells #[.int .i64 e0, .int .i64 e1, .int .i64 e2] 30)).alloc (.cells #[.int .i64 q0, .int .i64 q1, .int .i64 q2] 30)) = w0 at *
  have c1_0 : w0.cell? ⟨w.heap.size + 1, 0, none⟩ = some (.int .i64 p0) := by rw [Blk.cell k1]; rfl
  have c1_1 : w0.cell? ⟨w.heap.size + 1, 1, none⟩ = some (.int .i64 p1) := by rw [Blk.cell k1]; rfl
  have c1_2 : w0.cell? ⟨w.heap.size + 1, 2, none⟩ = some (.int .i64 p2) := by rw [Blk.cell k1]; rfl
  have c0_0 : w0.cell? ⟨w.heap.size, 0, none⟩ = some (.int .i64 c0) := by rw [Blk.cell k0]; rfl
  have c0_1 : w0.cell? ⟨w.heap.size, 1, none⟩ = some (.int .i64 c1) := by rw [Blk.cell k0]; rfl
  have c0_2 : w0.cell? ⟨w.heap.size, 2, none⟩ = some (.int .i64 c2) := by rw [Blk.cell k0]; rfl
  have LA : ∀ xL : Later w0, Calls Try.prog 50 #[.agg #[.int .i64 p0, .int .i64 p1, .int .i64 p2]] xL.world fun e w'' => e = .returned (.int .i64 y) ∧ ∃ z : Later w0, w'' = z.world := fun xL => later_call (spk_val HY.out _)
  have LB : ∀ xL : Later w0, Calls Try.prog 50 #[.agg #[.int .i64 c0, .int .i64 c1, .int .i64 c2]] xL.world fun e w'' => e = .returned (.int .i64 x) ∧ ∃ z : Later w0, w'' = z.world := fun xL => later_call (spk_val HX.out _)
  have lf0 : ∀ xL : Later w0, xL.world.cell? ⟨w.heap.size + 1, 0, none⟩ = some (.int .i64 p0) := fun xL => xL.at (c1_0)
  have lf1 : ∀ xL : Later w0, xL.world.cell? ⟨w.heap.size + 1, 1, none⟩ = some (.int .i64 p1) := fun xL => xL.at (c1_1)
  have lf2 : ∀ xL : Later w0, xL.world.cell? ⟨w.heap.size + 1, 2, none⟩ = some (.int .i64 p2) := fun xL => xL.at (c1_2)
  have lf3 : ∀ xL : Later w0, xL.world.cell? ⟨w.heap.size, 0, none⟩ = some (.int .i64 c0) := fun xL => xL.at (c0_0)
  have lf4 : ∀ xL : Later w0, xL.world.cell? ⟨w.heap.size, 1, none⟩ = some (.int .i64 c1) := fun xL => xL.at (c0_1)
  have lf5 : ∀ xL : Later w0, xL.world.cell? ⟨w.heap.size, 2, none⟩ = some (.int .i64 c2) := fun xL => xL.at (c0_2)
  refine region_later (w0 := w0) (by kernel_rfl) (by kernel_rfl) (bel_refl _) ?_
  repeat (go_big_quiet_step ((first | (go_at_call 50; with_reducible exact LA _) | (go_at_call 50; with_reducible exact LB _))))
  refine wpQuiet_nil ?_
  rintro w' ⟨x, rfl⟩
  obtain ⟨w1, b1⟩ := x
  clear lf0 lf1 lf2 lf3 lf4 lf5
  clear LA LB c1_0 c1_1 c1_2 c0_0 c0_1 c0_2
  have bw := bel_tr bw b1
  have k0 := k0.below b1
  have k1 := k1.below b1
  have k2 := k2.below b1
  have k3 := k3.below b1
  go_wp2_with fail
  have c3_0 : w1.cell? ⟨w.heap.size + 3, 0, none⟩ = some (.int .i64 q0) := by rw [Blk.cell k3]; rfl
  have c3_1 : w1.cell? ⟨w.heap.size + 3, 1, none⟩ = some (.int .i64 q1) := by rw [Blk.cell k3]; rfl
  have c3_2 : w1.cell? ⟨w.heap.size + 3, 2, none⟩ = some (.int .i64 q2) := by rw [Blk.cell k3]; rfl
  have c2_0 : w1.cell? ⟨w.heap.size + 2, 0, none⟩ = some (.int .i64 e0) := by rw [Blk.cell k2]; rfl
  have c2_1 : w1.cell? ⟨w.heap.size + 2, 1, none⟩ = some (.int .i64 e1) := by rw [Blk.cell k2]; rfl
  have c2_2 : w1.cell? ⟨w.heap.size + 2, 2, none⟩ = some (.int .i64 e2) := by rw [Blk.cell k2]; rfl
  have LA : ∀ xL : Later w1, Calls Try.prog 50 #[.agg #[.int .i64 q0, .int .i64 q1, .int .i64 q2]] xL.world fun e w'' => e = .returned (.int .i64 y') ∧ ∃ z : Later w1, w'' = z.world := fun xL => later_call (spk_val HY'.out _)
  have LB : ∀ xL : Later w1, Calls Try.prog 50 #[.agg #[.int .i64 e0, .int .i64 e1, .int .i64 e2]] xL.world fun e w'' => e = .returned (.int .i64 x') ∧ ∃ z : Later w1, w'' = z.world := fun xL => later_call (spk_val HX'.out _)
  have lf0 : ∀ xL : Later w1, xL.world.cell? ⟨w.heap.size + 3, 0, none⟩ = some (.int .i64 q0) := fun xL => xL.at (c3_0)
  have lf1 : ∀ xL : Later w1, xL.world.cell? ⟨w.heap.size + 3, 1, none⟩ = some (.int .i64 q1) := fun xL => xL.at (c3_1)
  have lf2 : ∀ xL : Later w1, xL.world.cell? ⟨w.heap.size + 3, 2, none⟩ = some (.int .i64 q2) := fun xL => xL.at (c3_2)
  have lf3 : ∀ xL : Later w1, xL.world.cell? ⟨w.heap.size + 2, 0, none⟩ = some (.int .i64 e0) := fun xL => xL.at (c2_0)
  have lf4 : ∀ xL : Later w1, xL.world.cell? ⟨w.heap.size + 2, 1, none⟩ = some (.int .i64 e1) := fun xL => xL.at (c2_1)
  have lf5 : ∀ xL : Later w1, xL.world.cell? ⟨w.heap.size + 2, 2, none⟩ = some (.int .i64 e2) := fun xL => xL.at (c2_2)
  refine region_later (w0 := w1) (by kernel_rfl) (by kernel_rfl) (bel_refl _) ?_
  repeat (go_big_quiet_step ((first | (go_at_call 50; with_reducible exact LA _) | (go_at_call 50; with_reducible exact LB _))))
  refine wpQuiet_nil ?_
  rintro w' ⟨x, rfl⟩
  obtain ⟨w2, b2⟩ := x
  clear lf0 lf1 lf2 lf3 lf4 lf5
  clear LA LB c3_0 c3_1 c3_2 c2_0 c2_1 c2_2
  have bw := bel_tr bw b2
  have k0 := k0.below b2
  have k1 := k1.below b2
  have k2 := k2.below b2
  have k3 := k3.below b2
  go_wp2_with fail
  have c3_0 : w2.cell? ⟨w.heap.size + 3, 0, none⟩ = some (.int .i64 q0) := by rw [Blk.cell k3]; rfl
  have c3_1 : w2.cell? ⟨w.heap.size + 3, 1, none⟩ = some (.int .i64 q1) := by rw [Blk.cell k3]; rfl
  have c3_2 : w2.cell? ⟨w.heap.size + 3, 2, none⟩ = some (.int .i64 q2) := by rw [Blk.cell k3]; rfl
  have c1_0 : w2.cell? ⟨w.heap.size + 1, 0, none⟩ = some (.int .i64 p0) := by rw [Blk.cell k1]; rfl
  have c1_1 : w2.cell? ⟨w.heap.size + 1, 1, none⟩ = some (.int .i64 p1) := by rw [Blk.cell k1]; rfl
  have c1_2 : w2.cell? ⟨w.heap.size + 1, 2, none⟩ = some (.int .i64 p2) := by rw [Blk.cell k1]; rfl
  have LA : ∀ xL : Later w2, Calls Try.prog 50 #[.agg #[.int .i64 q0, .int .i64 q1, .int .i64 q2]] xL.world fun e w'' => e = .returned (.int .i64 y') ∧ ∃ z : Later w2, w'' = z.world := fun xL => later_call (spk_val HY'.out _)
  have LB : ∀ xL : Later w2, Calls Try.prog 50 #[.agg #[.int .i64 p0, .int .i64 p1, .int .i64 p2]] xL.world fun e w'' => e = .returned (.int .i64 y) ∧ ∃ z : Later w2, w'' = z.world := fun xL => later_call (spk_val HY.out _)
  have lf0 : ∀ xL : Later w2, xL.world.cell? ⟨w.heap.size + 3, 0, none⟩ = some (.int .i64 q0) := fun xL => xL.at (c3_0)
  have lf1 : ∀ xL : Later w2, xL.world.cell? ⟨w.heap.size + 3, 1, none⟩ = some (.int .i64 q1) := fun xL => xL.at (c3_1)
  have lf2 : ∀ xL : Later w2, xL.world.cell? ⟨w.heap.size + 3, 2, none⟩ = some (.int .i64 q2) := fun xL => xL.at (c3_2)
  have lf3 : ∀ xL : Later w2, xL.world.cell? ⟨w.heap.size + 1, 0, none⟩ = some (.int .i64 p0) := fun xL => xL.at (c1_0)
  have lf4 : ∀ xL : Later w2, xL.world.cell? ⟨w.heap.size + 1, 1, none⟩ = some (.int .i64 p1) := fun xL => xL.at (c1_1)
  have lf5 : ∀ xL : Later w2, xL.world.cell? ⟨w.heap.size + 1, 2, none⟩ = some (.int .i64 p2) := fun xL => xL.at (c1_2)
  refine region_later (w0 := w2) (by kernel_rfl) (by kernel_rfl) (bel_refl _) ?_
  repeat (go_big_quiet_step ((first | (go_at_call 50; with_reducible exact LA _) | (go_at_call 50; with_reducible exact LB _))))
  refine wpQuiet_nil ?_
  rintro w' ⟨x, rfl⟩
  obtain ⟨w3, b3⟩ := x
  clear lf0 lf1 lf2 lf3 lf4 lf5
  clear LA LB c3_0 c3_1 c3_2 c1_0 c1_1 c1_2
  have bw := bel_tr bw b3
  have k0 := k0.below b3
  have k1 := k1.below b3
  have k2 := k2.below b3
  have k3 := k3.below b3
  clear k0 k1 k2 k3
  by_cases he : y' = y
  · subst he
    have ee0 : y' - y' = 0 := by omega
    rw [ee0]
    go_wp2
    go_ret
    exact ⟨ret_int stK_7.symm, bw⟩
  · have hmb : (y' - y == 0) = false := by simp only [beq_eq_false_iff_ne, ne_eq]; omega
    obtain ⟨mx, hmx⟩ : ∃ mx, dsI y y' = mx := ⟨_, rfl⟩
    have hd0 : dsI y y' ≠ 0 := by unfold dsI; split <;> omega
    have HD0 := Lib.hid hd0
    clear hd0
    by_cases hs : y < y'
    · have hu : dsI y y' = y' - y := by unfold dsI; rw [if_pos (by omega)]
      have m1 : -(y' - y) ≤ y' - y := by omega
      have m2 : ¬ y' - y < -(y' - y) := by omega
      by_cases hf : 9 < dsI y y'
      · have HF := Lib.hid hf
        rw [hu] at hf
        have f1 : 9 < y' - y := by omega
        clear hf hu hmx
        go_wp2
        go_ret
        exact ⟨ret_int (stK_6 (by have := HF.out; omega)).symm, bw⟩
      · have HF := Lib.hid hf
        rw [hu] at hf
        have f1 : ¬ 9 < y' - y := by omega
        clear hf hu hmx
        obtain ⟨q, hq⟩ : ∃ q, Int.tmod (y - x - (y' - x')) 12 = q := ⟨_, rfl⟩
        obtain ⟨r, hr⟩ : ∃ r, Int.tmod (y - x + 120) 12 = r := ⟨_, rfl⟩
        have g1 : (q == 0) = decide ((y - x) % 12 = (y' - x') % 12) := by
          rw [← hq, Bool.eq_iff_iff]; simp only [beq_iff_eq, decide_eq_true_eq]; exact tmod12_zero
        have g2 : r = (y - x) % 12 := by rw [← hr, tmodE (by omega)]; omega
        by_cases hp : (y - x) % 12 = (y' - x') % 12
        · rw [decide_eq_true hp] at g1
          have HP := Lib.hid hp
          have HG := Lib.hid g2
          clear hp g2
          rcases (show r = 0 ∨ r = 7 ∨ ((r == 0) = false ∧ (r == 7) = false) from by simp only [beq_eq_false_iff_ne, ne_eq]; omega) with rfl | rfl | ⟨n0, n7⟩
          · go_wp2
            go_ret
            exact ⟨ret_int (stK_5 HD0.out (by have := HF.out; omega) ⟨HP.out, by rw [← HG.out]; omega⟩).symm, bw⟩
          · go_wp2
            go_ret
            exact ⟨ret_int (stK_5 HD0.out (by have := HF.out; omega) ⟨HP.out, by rw [← HG.out]; omega⟩).symm, bw⟩
          · go_wp2
            go_ret
            exact ⟨ret_int (stK_0 HD0.out (by have := HF.out; omega) (fun h => by rw [← HG.out] at h; simp only [beq_eq_false_iff_ne, ne_eq] at n0 n7; omega)).symm, bw⟩
        · rw [decide_eq_false hp] at g1
          have HP := Lib.hid hp
          clear hp g2
          go_wp2
          go_ret
          exact ⟨ret_int (stK_0 HD0.out (by have := HF.out; omega) (fun h => HP.out h.1)).symm, bw⟩
    · have hu : dsI y y' = y - y' := by unfold dsI; rw [if_neg (by omega)]
      have m1 : y' - y ≤ -(y' - y) := by omega
      have m2 : ¬ -(y' - y) < y' - y := by omega
      have m3 : ¬ -(y' - y) ≤ y' - y := by omega
      by_cases hf : 9 < dsI y y'
      · have HF := Lib.hid hf
        rw [hu] at hf
        have f1 : 9 < -(y' - y) := by omega
        clear hf hu hmx
        go_wp2
        go_ret
        exact ⟨ret_int (stK_6 (by have := HF.out; omega)).symm, bw⟩
      · have HF := Lib.hid hf
        rw [hu] at hf
        have f1 : ¬ 9 < -(y' - y) := by omega
        clear hf hu hmx
        obtain ⟨q, hq⟩ : ∃ q, Int.tmod (y - x - (y' - x')) 12 = q := ⟨_, rfl⟩
        obtain ⟨r, hr⟩ : ∃ r, Int.tmod (y - x + 120) 12 = r := ⟨_, rfl⟩
        have g1 : (q == 0) = decide ((y - x) % 12 = (y' - x') % 12) := by
          rw [← hq, Bool.eq_iff_iff]; simp only [beq_iff_eq, decide_eq_true_eq]; exact tmod12_zero
        have g2 : r = (y - x) % 12 := by rw [← hr, tmodE (by omega)]; omega
        by_cases hp : (y - x) % 12 = (y' - x') % 12
        · rw [decide_eq_true hp] at g1
          have HP := Lib.hid hp
          have HG := Lib.hid g2
          clear hp g2
          rcases (show r = 0 ∨ r = 7 ∨ ((r == 0) = false ∧ (r == 7) = false) from by simp only [beq_eq_false_iff_ne, ne_eq]; omega) with rfl | rfl | ⟨n0, n7⟩
          · go_wp2
            go_ret
            exact ⟨ret_int (stK_5 HD0.out (by have := HF.out; omega) ⟨HP.out, by rw [← HG.out]; omega⟩).symm, bw⟩
          · go_wp2
            go_ret
            exact ⟨ret_int (stK_5 HD0.out (by have := HF.out; omega) ⟨HP.out, by rw [← HG.out]; omega⟩).symm, bw⟩
          · go_wp2
            go_ret
            exact ⟨ret_int (stK_0 HD0.out (by have := HF.out; omega) (fun h => by rw [← HG.out] at h; simp only [beq_eq_false_iff_ne, ne_eq] at n0 n7; omega)).symm, bw⟩
        · rw [decide_eq_false hp] at g1
          have HP := Lib.hid hp
          clear hp g2
          go_wp2
          go_ret
          exact ⟨ret_int (stK_0 HD0.out (by have := HF.out; omega) (fun h => HP.out h.1)).symm, bw⟩
end Go.Proofs.Ytdmidimjbhkjoaa
