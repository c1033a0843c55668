/- The pitch to which an interval leads; of the reference. -/
import Derived.Test.YtpjakgnghpapmaaAdd
import Derived.Test.YtpjakgnghpapmaaFloat
namespace Go.Proofs.Ytpjakgnghpapmaa
set_option linter.unusedSimpArgs false
set_option linter.unusedVariables false
open Go.RowKit

set_option maxHeartbeats 8000000 in
theorem sad_any (s a o st ha : Int) (w : World) : Calls Try.prog 72 #[.agg #[.int .i64 s, .int .i64 a, .int .i64 o], .agg #[.int .i64 st, .int .i64 ha]] w fun e w' => e = .returned (.tuple #[.agg #[.int .i64 (adS s a o st ha), .int .i64 (adA s a o st ha), .int .i64 (adO s a o st ha)], .bool (adB s a o st ha)]) ∧ Below w.heap.size w w' := by
  cases hp : pvB s a o
  · refine tup_to (x := 0) (y := 0) (z := 0) (v := false) (by have e : adB s a o st ha = false := (by unfold adB; rw [hp]; rfl); unfold adS adA adO; rw [e]; exact ⟨rfl, rfl, rfl, rfl⟩) ?_
    have HP := Lib.hid hp
    clear hp
    go_enter Try.func72, Try.ntmps72
    have bP : Blk (((w.alloc (.cells #[.int .i64 s, .int .i64 a, .int .i64 o] 62)).alloc (.cells #[.int .i64 st, .int .i64 ha] 95)).alloc (.cells #[.int .i64 0, .int .i64 0, .int .i64 0] 62)) w.heap.size #[.int .i64 s, .int .i64 a, .int .i64 o] 62 := ((Blk.new w _ _).alloc _).alloc _
    have bV : Blk (((w.alloc (.cells #[.int .i64 s, .int .i64 a, .int .i64 o] 62)).alloc (.cells #[.int .i64 st, .int .i64 ha] 95)).alloc (.cells #[.int .i64 0, .int .i64 0, .int .i64 0] 62)) (w.heap.size + 1) #[.int .i64 st, .int .i64 ha] 95 := by simpa using (Blk.new (w.alloc (.cells #[.int .i64 s, .int .i64 a, .int .i64 o] 62)) #[.int .i64 st, .int .i64 ha] 95).alloc (.cells #[.int .i64 0, .int .i64 0, .int .i64 0] 62)
    have bR : Blk (((w.alloc (.cells #[.int .i64 s, .int .i64 a, .int .i64 o] 62)).alloc (.cells #[.int .i64 st, .int .i64 ha] 95)).alloc (.cells #[.int .i64 0, .int .i64 0, .int .i64 0] 62)) (w.heap.size + 2) #[.int .i64 0, .int .i64 0, .int .i64 0] 62 := by simpa using Blk.new ((w.alloc (.cells #[.int .i64 s, .int .i64 a, .int .i64 o] 62)).alloc (.cells #[.int .i64 st, .int .i64 ha] 95)) #[.int .i64 0, .int .i64 0, .int .i64 0] 62
    have bw : Below w.heap.size w (((w.alloc (.cells #[.int .i64 s, .int .i64 a, .int .i64 o] 62)).alloc (.cells #[.int .i64 st, .int .i64 ha] 95)).alloc (.cells #[.int .i64 0, .int .i64 0, .int .i64 0] 62)) := bel_al (bel_al (bel_al (bel_refl w) _) _) _
    go_wp2_with fail
    generalize (((w.alloc (.cells #[.int .i64 s, .int .i64 a, .int .i64 o] 62)).alloc (.cells #[.int .i64 st, .int .i64 ha] 95)).alloc (.cells #[.int .i64 0, .int .i64 0, .int .i64 0] 62)) = w0 at *
    refine (spv_val HP.out _).mono ?_
    rintro e1 w1 ⟨rfl, b1⟩
    have bP := bP.below b1
    have bV := bV.below b1
    have bR := bR.below b1
    have bw := bel_tr bw b1
    clear b1
    have cP0 : w1.cell? ⟨w.heap.size, 0, none⟩ = some (.int .i64 s) := by rw [Blk.cell bP]; rfl
    have cP1 : w1.cell? ⟨w.heap.size, 1, none⟩ = some (.int .i64 a) := by rw [Blk.cell bP]; rfl
    have cP2 : w1.cell? ⟨w.heap.size, 2, none⟩ = some (.int .i64 o) := by rw [Blk.cell bP]; rfl
    have cV0 : w1.cell? ⟨w.heap.size + 1, 0, none⟩ = some (.int .i64 st) := by rw [Blk.cell bV]; rfl
    have cV1 : w1.cell? ⟨w.heap.size + 1, 1, none⟩ = some (.int .i64 ha) := by rw [Blk.cell bV]; rfl
    have cR0 : w1.cell? ⟨w.heap.size + 2, 0, none⟩ = some (.int .i64 0) := by rw [Blk.cell bR]; rfl
    have fR0 := Blk.free bR 0
    have cR1 : w1.cell? ⟨w.heap.size + 2, 1, none⟩ = some (.int .i64 0) := by rw [Blk.cell bR]; rfl
    have fR1 := Blk.free bR 1
    have cR2 : w1.cell? ⟨w.heap.size + 2, 2, none⟩ = some (.int .i64 0) := by rw [Blk.cell bR]; rfl
    have fR2 := Blk.free bR 2
    have lR := Blk.lt bR
    go_wp2
    exact bodyPost_ret (v := .tuple #[.agg #[.int .i64 (0), .int .i64 (0), .int .i64 (0)], .bool false]) (by simp [results, Try.results72, go_sem, cR0, fR0, cR1, fR1, cR2, fR2]) rfl ⟨rfl, by repeat (first | (with_reducible assumption) | (exact bel_undr (by with_reducible assumption)) | (with_reducible exact bel_refl _) | (with_reducible refine bel_dr ?_) | (with_reducible refine bel_drN ?_ _) | (with_reducible refine bel_al ?_ _) | (refine bel_set ?_ (by first | (simp; done) | (simp; exact Below.size (by assumption)) | (simp; omega)) _) | (with_reducible refine bel_tr ?_ (by assumption)))⟩
  · cases hi : ivB st ha
    · refine tup_to (x := 0) (y := 0) (z := 0) (v := false) (by have e : adB s a o st ha = false := (by unfold adB; rw [hp, hi]; rfl); unfold adS adA adO; rw [e]; exact ⟨rfl, rfl, rfl, rfl⟩) ?_
      have HP := Lib.hid hp
      have HI := Lib.hid hi
      clear hp hi
      go_enter Try.func72, Try.ntmps72
      have bP : Blk (((w.alloc (.cells #[.int .i64 s, .int .i64 a, .int .i64 o] 62)).alloc (.cells #[.int .i64 st, .int .i64 ha] 95)).alloc (.cells #[.int .i64 0, .int .i64 0, .int .i64 0] 62)) w.heap.size #[.int .i64 s, .int .i64 a, .int .i64 o] 62 := ((Blk.new w _ _).alloc _).alloc _
      have bV : Blk (((w.alloc (.cells #[.int .i64 s, .int .i64 a, .int .i64 o] 62)).alloc (.cells #[.int .i64 st, .int .i64 ha] 95)).alloc (.cells #[.int .i64 0, .int .i64 0, .int .i64 0] 62)) (w.heap.size + 1) #[.int .i64 st, .int .i64 ha] 95 := by simpa using (Blk.new (w.alloc (.cells #[.int .i64 s, .int .i64 a, .int .i64 o] 62)) #[.int .i64 st, .int .i64 ha] 95).alloc (.cells #[.int .i64 0, .int .i64 0, .int .i64 0] 62)
      have bR : Blk (((w.alloc (.cells #[.int .i64 s, .int .i64 a, .int .i64 o] 62)).alloc (.cells #[.int .i64 st, .int .i64 ha] 95)).alloc (.cells #[.int .i64 0, .int .i64 0, .int .i64 0] 62)) (w.heap.size + 2) #[.int .i64 0, .int .i64 0, .int .i64 0] 62 := by simpa using Blk.new ((w.alloc (.cells #[.int .i64 s, .int .i64 a, .int .i64 o] 62)).alloc (.cells #[.int .i64 st, .int .i64 ha] 95)) #[.int .i64 0, .int .i64 0, .int .i64 0] 62
      have bw : Below w.heap.size w (((w.alloc (.cells #[.int .i64 s, .int .i64 a, .int .i64 o] 62)).alloc (.cells #[.int .i64 st, .int .i64 ha] 95)).alloc (.cells #[.int .i64 0, .int .i64 0, .int .i64 0] 62)) := bel_al (bel_al (bel_al (bel_refl w) _) _) _
      go_wp2_with fail
      generalize (((w.alloc (.cells #[.int .i64 s, .int .i64 a, .int .i64 o] 62)).alloc (.cells #[.int .i64 st, .int .i64 ha] 95)).alloc (.cells #[.int .i64 0, .int .i64 0, .int .i64 0] 62)) = w0 at *
      refine (spv_val HP.out _).mono ?_
      rintro e1 w1 ⟨rfl, b1⟩
      have bP := bP.below b1
      have bV := bV.below b1
      have bR := bR.below b1
      have bw := bel_tr bw b1
      clear b1
      have cP0 : w1.cell? ⟨w.heap.size, 0, none⟩ = some (.int .i64 s) := by rw [Blk.cell bP]; rfl
      have cP1 : w1.cell? ⟨w.heap.size, 1, none⟩ = some (.int .i64 a) := by rw [Blk.cell bP]; rfl
      have cP2 : w1.cell? ⟨w.heap.size, 2, none⟩ = some (.int .i64 o) := by rw [Blk.cell bP]; rfl
      have cV0 : w1.cell? ⟨w.heap.size + 1, 0, none⟩ = some (.int .i64 st) := by rw [Blk.cell bV]; rfl
      have cV1 : w1.cell? ⟨w.heap.size + 1, 1, none⟩ = some (.int .i64 ha) := by rw [Blk.cell bV]; rfl
      have cR0 : w1.cell? ⟨w.heap.size + 2, 0, none⟩ = some (.int .i64 0) := by rw [Blk.cell bR]; rfl
      have fR0 := Blk.free bR 0
      have cR1 : w1.cell? ⟨w.heap.size + 2, 1, none⟩ = some (.int .i64 0) := by rw [Blk.cell bR]; rfl
      have fR1 := Blk.free bR 1
      have cR2 : w1.cell? ⟨w.heap.size + 2, 2, none⟩ = some (.int .i64 0) := by rw [Blk.cell bR]; rfl
      have fR2 := Blk.free bR 2
      have lR := Blk.lt bR
      go_wp2_with fail
      refine (siv_val HI.out _).mono ?_
      rintro e2 w2 ⟨rfl, b2⟩
      have bP := bP.below b2
      have bV := bV.below b2
      have bR := bR.below b2
      have bw := bel_tr bw b2
      clear b2
      have cP0 : w2.cell? ⟨w.heap.size, 0, none⟩ = some (.int .i64 s) := by rw [Blk.cell bP]; rfl
      have cP1 : w2.cell? ⟨w.heap.size, 1, none⟩ = some (.int .i64 a) := by rw [Blk.cell bP]; rfl
      have cP2 : w2.cell? ⟨w.heap.size, 2, none⟩ = some (.int .i64 o) := by rw [Blk.cell bP]; rfl
      have cV0 : w2.cell? ⟨w.heap.size + 1, 0, none⟩ = some (.int .i64 st) := by rw [Blk.cell bV]; rfl
      have cV1 : w2.cell? ⟨w.heap.size + 1, 1, none⟩ = some (.int .i64 ha) := by rw [Blk.cell bV]; rfl
      have cR0 : w2.cell? ⟨w.heap.size + 2, 0, none⟩ = some (.int .i64 0) := by rw [Blk.cell bR]; rfl
      have fR0 := Blk.free bR 0
      have cR1 : w2.cell? ⟨w.heap.size + 2, 1, none⟩ = some (.int .i64 0) := by rw [Blk.cell bR]; rfl
      have fR1 := Blk.free bR 1
      have cR2 : w2.cell? ⟨w.heap.size + 2, 2, none⟩ = some (.int .i64 0) := by rw [Blk.cell bR]; rfl
      have fR2 := Blk.free bR 2
      have lR := Blk.lt bR
      go_wp2
      exact bodyPost_ret (v := .tuple #[.agg #[.int .i64 (0), .int .i64 (0), .int .i64 (0)], .bool false]) (by simp [results, Try.results72, go_sem, cR0, fR0, cR1, fR1, cR2, fR2]) rfl ⟨rfl, by repeat (first | (with_reducible assumption) | (exact bel_undr (by with_reducible assumption)) | (with_reducible exact bel_refl _) | (with_reducible refine bel_dr ?_) | (with_reducible refine bel_drN ?_ _) | (with_reducible refine bel_al ?_ _) | (refine bel_set ?_ (by first | (simp; done) | (simp; exact Below.size (by assumption)) | (simp; omega)) _) | (with_reducible refine bel_tr ?_ (by assumption)))⟩
    · have hB : adB s a o st ha = pwB (7 * o + s + st) (12 * o + shI s + a + ha) := by unfold adB; rw [hp, hi]; rfl
      have hs := shI_bd s
      obtain ⟨h0, h1, h2, h3, h4, h5⟩ := pvB_bd hp
      obtain ⟨⟨j0, j1⟩, j2, j3⟩ := ivB_bd hi
      have hk : pkI s a o = 12 * o + shI s + a := by unfold pkI; rw [hp]; rfl
      obtain ⟨k, hk'⟩ : ∃ k, 12 * o + shI s + a = k := ⟨_, rfl⟩
      obtain ⟨p, hp'⟩ : ∃ p, 7 * o + s = p := ⟨_, rfl⟩
      refine tup_to (x := pwS (p + st) (k + ha)) (y := pwA (p + st) (k + ha)) (z := pwO (p + st) (k + ha)) (v := pwB (p + st) (k + ha)) (by
        unfold adS adA adO pwS pwA pwO
        rw [hB, hk', hp']; exact ⟨rfl, rfl, rfl, rfl⟩) ?_
      rw [hk'] at hk
      have HK := Lib.hid hk
      have HP := Lib.hid hp
      have HPP := Lib.hid hp'
      have HI := Lib.hid hi
      have k0 : -10 ≤ k := by omega
      have k1 : k ≤ 200 := by omega
      have p0 : 0 ≤ p := by omega
      have p1 : p ≤ 100 := by omega
      obtain ⟨m, hm⟩ : ∃ m, p + st = m := ⟨_, rfl⟩
      have x1 := IntWalk.i64_in (p + st) (by omega)
      have x2 := IntWalk.i64_in (k + ha) (by omega)
      rw [hm] at x1 ⊢
      have m1 : m ≤ 200 := by omega
      have m2 : -100 ≤ m := by omega
      have HM := Lib.hid hm
      clear hB hk hk' hp hp' hi hs hm
      by_cases hneg : m < 0
      · have e : pwB m (k + ha) = false := by unfold pwB; rw [decide_eq_false (by omega)]; rfl
        refine tup_to (x := 0) (y := 0) (z := 0) (v := false) (by unfold pwS pwA pwO; rw [e]; exact ⟨rfl, rfl, rfl, rfl⟩) ?_
        clear e
        go_enter Try.func72, Try.ntmps72
        have bP : Blk (((w.alloc (.cells #[.int .i64 s, .int .i64 a, .int .i64 o] 62)).alloc (.cells #[.int .i64 st, .int .i64 ha] 95)).alloc (.cells #[.int .i64 0, .int .i64 0, .int .i64 0] 62)) w.heap.size #[.int .i64 s, .int .i64 a, .int .i64 o] 62 := ((Blk.new w _ _).alloc _).alloc _
        have bV : Blk (((w.alloc (.cells #[.int .i64 s, .int .i64 a, .int .i64 o] 62)).alloc (.cells #[.int .i64 st, .int .i64 ha] 95)).alloc (.cells #[.int .i64 0, .int .i64 0, .int .i64 0] 62)) (w.heap.size + 1) #[.int .i64 st, .int .i64 ha] 95 := by simpa using (Blk.new (w.alloc (.cells #[.int .i64 s, .int .i64 a, .int .i64 o] 62)) #[.int .i64 st, .int .i64 ha] 95).alloc (.cells #[.int .i64 0, .int .i64 0, .int .i64 0] 62)
        have bR : Blk (((w.alloc (.cells #[.int .i64 s, .int .i64 a, .int .i64 o] 62)).alloc (.cells #[.int .i64 st, .int .i64 ha] 95)).alloc (.cells #[.int .i64 0, .int .i64 0, .int .i64 0] 62)) (w.heap.size + 2) #[.int .i64 0, .int .i64 0, .int .i64 0] 62 := by simpa using Blk.new ((w.alloc (.cells #[.int .i64 s, .int .i64 a, .int .i64 o] 62)).alloc (.cells #[.int .i64 st, .int .i64 ha] 95)) #[.int .i64 0, .int .i64 0, .int .i64 0] 62
        have bw : Below w.heap.size w (((w.alloc (.cells #[.int .i64 s, .int .i64 a, .int .i64 o] 62)).alloc (.cells #[.int .i64 st, .int .i64 ha] 95)).alloc (.cells #[.int .i64 0, .int .i64 0, .int .i64 0] 62)) := bel_al (bel_al (bel_al (bel_refl w) _) _) _
        go_wp2_with fail
        generalize (((w.alloc (.cells #[.int .i64 s, .int .i64 a, .int .i64 o] 62)).alloc (.cells #[.int .i64 st, .int .i64 ha] 95)).alloc (.cells #[.int .i64 0, .int .i64 0, .int .i64 0] 62)) = w0 at *
        refine (spv_val HP.out _).mono ?_
        rintro e1 w1 ⟨rfl, b1⟩
        have bP := bP.below b1
        have bV := bV.below b1
        have bR := bR.below b1
        have bw := bel_tr bw b1
        clear b1
        have cP0 : w1.cell? ⟨w.heap.size, 0, none⟩ = some (.int .i64 s) := by rw [Blk.cell bP]; rfl
        have cP1 : w1.cell? ⟨w.heap.size, 1, none⟩ = some (.int .i64 a) := by rw [Blk.cell bP]; rfl
        have cP2 : w1.cell? ⟨w.heap.size, 2, none⟩ = some (.int .i64 o) := by rw [Blk.cell bP]; rfl
        have cV0 : w1.cell? ⟨w.heap.size + 1, 0, none⟩ = some (.int .i64 st) := by rw [Blk.cell bV]; rfl
        have cV1 : w1.cell? ⟨w.heap.size + 1, 1, none⟩ = some (.int .i64 ha) := by rw [Blk.cell bV]; rfl
        have cR0 : w1.cell? ⟨w.heap.size + 2, 0, none⟩ = some (.int .i64 0) := by rw [Blk.cell bR]; rfl
        have fR0 := Blk.free bR 0
        have cR1 : w1.cell? ⟨w.heap.size + 2, 1, none⟩ = some (.int .i64 0) := by rw [Blk.cell bR]; rfl
        have fR1 := Blk.free bR 1
        have cR2 : w1.cell? ⟨w.heap.size + 2, 2, none⟩ = some (.int .i64 0) := by rw [Blk.cell bR]; rfl
        have fR2 := Blk.free bR 2
        have lR := Blk.lt bR
        go_wp2_with fail
        refine (siv_val HI.out _).mono ?_
        rintro e2 w2 ⟨rfl, b2⟩
        have bP := bP.below b2
        have bV := bV.below b2
        have bR := bR.below b2
        have bw := bel_tr bw b2
        clear b2
        have cP0 : w2.cell? ⟨w.heap.size, 0, none⟩ = some (.int .i64 s) := by rw [Blk.cell bP]; rfl
        have cP1 : w2.cell? ⟨w.heap.size, 1, none⟩ = some (.int .i64 a) := by rw [Blk.cell bP]; rfl
        have cP2 : w2.cell? ⟨w.heap.size, 2, none⟩ = some (.int .i64 o) := by rw [Blk.cell bP]; rfl
        have cV0 : w2.cell? ⟨w.heap.size + 1, 0, none⟩ = some (.int .i64 st) := by rw [Blk.cell bV]; rfl
        have cV1 : w2.cell? ⟨w.heap.size + 1, 1, none⟩ = some (.int .i64 ha) := by rw [Blk.cell bV]; rfl
        have cR0 : w2.cell? ⟨w.heap.size + 2, 0, none⟩ = some (.int .i64 0) := by rw [Blk.cell bR]; rfl
        have fR0 := Blk.free bR 0
        have cR1 : w2.cell? ⟨w.heap.size + 2, 1, none⟩ = some (.int .i64 0) := by rw [Blk.cell bR]; rfl
        have fR1 := Blk.free bR 1
        have cR2 : w2.cell? ⟨w.heap.size + 2, 2, none⟩ = some (.int .i64 0) := by rw [Blk.cell bR]; rfl
        have fR2 := Blk.free bR 2
        have lR := Blk.lt bR
        go_wp2_with fail
        have LA : ∀ xL : Later w2, Calls Try.prog 76 #[.agg #[.int .i64 s, .int .i64 a, .int .i64 o]] xL.world fun e w'' => e = .returned (.int .i64 p) ∧ ∃ z : Later w2, w'' = z.world := fun xL => later_call (by have h := spp_yes s a o xL.world HP.out; rw [HPP.out] at h; exact h)
        have e1 := HM.out
        have lf0 : ∀ xL : Later w2, xL.world.cell? ⟨w.heap.size, 0, none⟩ = some (.int .i64 s) := fun xL => xL.at (cP0)
        have lf1 : ∀ xL : Later w2, xL.world.cell? ⟨w.heap.size, 1, none⟩ = some (.int .i64 a) := fun xL => xL.at (cP1)
        have lf2 : ∀ xL : Later w2, xL.world.cell? ⟨w.heap.size, 2, none⟩ = some (.int .i64 o) := fun xL => xL.at (cP2)
        have lf3 : ∀ xL : Later w2, xL.world.cell? ⟨w.heap.size + 1, 0, none⟩ = some (.int .i64 st) := fun xL => xL.at (cV0)
        have lf4 : ∀ xL : Later w2, xL.world.cell? ⟨w.heap.size + 1, 1, none⟩ = some (.int .i64 ha) := fun xL => xL.at (cV1)
        refine region_later (w0 := w2) (by kernel_rfl) (by kernel_rfl) (bel_refl _) ?_
        repeat (go_big_quiet_step ((go_at_call 76; exact LA _)))
        refine wpQuiet_nil ?_
        rintro w' ⟨x, rfl⟩
        obtain ⟨w3, b3⟩ := x
        clear lf0 lf1 lf2 lf3 lf4
        clear e1 LA
        have bP := bP.below b3
        have bV := bV.below b3
        have bR := bR.below b3
        have bw := bel_tr bw b3
        have cP0 := keep_tr cP0 b3
        have cP1 := keep_tr cP1 b3
        have cP2 := keep_tr cP2 b3
        have cV0 := keep_tr cV0 b3
        have cV1 := keep_tr cV1 b3
        have cT0 : w3.cell? ⟨w.heap.size + 2, 0, none⟩ = some (.int .i64 0) := by rw [Blk.cell bR]; rfl
        have fT0 := Blk.free bR 0
        have cT1 : w3.cell? ⟨w.heap.size + 2, 1, none⟩ = some (.int .i64 0) := by rw [Blk.cell bR]; rfl
        have fT1 := Blk.free bR 1
        have cT2 : w3.cell? ⟨w.heap.size + 2, 2, none⟩ = some (.int .i64 0) := by rw [Blk.cell bR]; rfl
        have fT2 := Blk.free bR 2
        have lT := Blk.lt bR
        go_wp2
        exact bodyPost_ret (v := .tuple #[.agg #[.int .i64 (0), .int .i64 (0), .int .i64 (0)], .bool false]) (by simp [results, Try.results72, go_sem, cT0, fT0, cT1, fT1, cT2, fT2]) rfl ⟨rfl, by repeat (first | (with_reducible assumption) | (exact bel_undr (by with_reducible assumption)) | (with_reducible exact bel_refl _) | (with_reducible refine bel_dr ?_) | (with_reducible refine bel_drN ?_ _) | (with_reducible refine bel_al ?_ _) | (refine bel_set ?_ (by first | (simp; done) | (simp; exact Below.size (by assumption)) | (simp; omega)) _) | (with_reducible refine bel_tr ?_ (by assumption)))⟩
      · have m0 : 0 ≤ m := by omega
        have hn := natI_bd m m0 (by omega)
        obtain ⟨z, hz⟩ : ∃ z, natI m = z := ⟨_, rfl⟩
        have e0 : decide (0 ≤ m) = true := decide_eq_true m0
        have d0 : decide (m < 0) = false := decide_eq_false hneg
        obtain ⟨v, hv⟩ : ∃ v, pvB (m % 7) (k + ha - z) (m / 7) = v := ⟨_, rfl⟩
        have hB : pwB m (k + ha) = v := by unfold pwB; rw [e0, hz, hv]; rfl
        have key : ∀ x y t, (x = if v then m % 7 else 0) ∧ (y = if v then k + ha - z else 0) ∧ (t = if v then m / 7 else 0) → pwS m (k + ha) = x ∧ pwA m (k + ha) = y ∧ pwO m (k + ha) = t ∧ pwB m (k + ha) = v := by
          rintro x y t ⟨rfl, rfl, rfl⟩
          unfold pwS pwA pwO
          rw [hB, hz]
          exact ⟨rfl, rfl, rfl, rfl⟩
        have KEY := Lib.hid key
        have HZ := Lib.hid hz
        have HV := Lib.hid hv
        rw [hz] at hn
        have r0 : 0 ≤ m % 7 := by omega
        have r1 : 0 ≤ m / 7 := by omega
        have x3 := IntWalk.i64_in (k + ha - z) (by omega)
        clear hz hv hB key e0
        go_enter Try.func72, Try.ntmps72
        have bP : Blk (((w.alloc (.cells #[.int .i64 s, .int .i64 a, .int .i64 o] 62)).alloc (.cells #[.int .i64 st, .int .i64 ha] 95)).alloc (.cells #[.int .i64 0, .int .i64 0, .int .i64 0] 62)) w.heap.size #[.int .i64 s, .int .i64 a, .int .i64 o] 62 := ((Blk.new w _ _).alloc _).alloc _
        have bV : Blk (((w.alloc (.cells #[.int .i64 s, .int .i64 a, .int .i64 o] 62)).alloc (.cells #[.int .i64 st, .int .i64 ha] 95)).alloc (.cells #[.int .i64 0, .int .i64 0, .int .i64 0] 62)) (w.heap.size + 1) #[.int .i64 st, .int .i64 ha] 95 := by simpa using (Blk.new (w.alloc (.cells #[.int .i64 s, .int .i64 a, .int .i64 o] 62)) #[.int .i64 st, .int .i64 ha] 95).alloc (.cells #[.int .i64 0, .int .i64 0, .int .i64 0] 62)
        have bR : Blk (((w.alloc (.cells #[.int .i64 s, .int .i64 a, .int .i64 o] 62)).alloc (.cells #[.int .i64 st, .int .i64 ha] 95)).alloc (.cells #[.int .i64 0, .int .i64 0, .int .i64 0] 62)) (w.heap.size + 2) #[.int .i64 0, .int .i64 0, .int .i64 0] 62 := by simpa using Blk.new ((w.alloc (.cells #[.int .i64 s, .int .i64 a, .int .i64 o] 62)).alloc (.cells #[.int .i64 st, .int .i64 ha] 95)) #[.int .i64 0, .int .i64 0, .int .i64 0] 62
        have bw : Below w.heap.size w (((w.alloc (.cells #[.int .i64 s, .int .i64 a, .int .i64 o] 62)).alloc (.cells #[.int .i64 st, .int .i64 ha] 95)).alloc (.cells #[.int .i64 0, .int .i64 0, .int .i64 0] 62)) := bel_al (bel_al (bel_al (bel_refl w) _) _) _
        go_wp2_with fail
        generalize (((w.alloc (.cells #[.int .i64 s, .int .i64 a, .int .i64 o] 62)).alloc (.cells #[.int .i64 st, .int .i64 ha] 95)).alloc (.cells #[.int .i64 0, .int .i64 0, .int .i64 0] 62)) = w0 at *
        refine (spv_val HP.out _).mono ?_
        rintro e1 w1 ⟨rfl, b1⟩
        have bP := bP.below b1
        have bV := bV.below b1
        have bR := bR.below b1
        have bw := bel_tr bw b1
        clear b1
        have cP0 : w1.cell? ⟨w.heap.size, 0, none⟩ = some (.int .i64 s) := by rw [Blk.cell bP]; rfl
        have cP1 : w1.cell? ⟨w.heap.size, 1, none⟩ = some (.int .i64 a) := by rw [Blk.cell bP]; rfl
        have cP2 : w1.cell? ⟨w.heap.size, 2, none⟩ = some (.int .i64 o) := by rw [Blk.cell bP]; rfl
        have cV0 : w1.cell? ⟨w.heap.size + 1, 0, none⟩ = some (.int .i64 st) := by rw [Blk.cell bV]; rfl
        have cV1 : w1.cell? ⟨w.heap.size + 1, 1, none⟩ = some (.int .i64 ha) := by rw [Blk.cell bV]; rfl
        have cR0 : w1.cell? ⟨w.heap.size + 2, 0, none⟩ = some (.int .i64 0) := by rw [Blk.cell bR]; rfl
        have fR0 := Blk.free bR 0
        have cR1 : w1.cell? ⟨w.heap.size + 2, 1, none⟩ = some (.int .i64 0) := by rw [Blk.cell bR]; rfl
        have fR1 := Blk.free bR 1
        have cR2 : w1.cell? ⟨w.heap.size + 2, 2, none⟩ = some (.int .i64 0) := by rw [Blk.cell bR]; rfl
        have fR2 := Blk.free bR 2
        have lR := Blk.lt bR
        go_wp2_with fail
        refine (siv_val HI.out _).mono ?_
        rintro e2 w2 ⟨rfl, b2⟩
        have bP := bP.below b2
        have bV := bV.below b2
        have bR := bR.below b2
        have bw := bel_tr bw b2
        clear b2
        have cP0 : w2.cell? ⟨w.heap.size, 0, none⟩ = some (.int .i64 s) := by rw [Blk.cell bP]; rfl
        have cP1 : w2.cell? ⟨w.heap.size, 1, none⟩ = some (.int .i64 a) := by rw [Blk.cell bP]; rfl
        have cP2 : w2.cell? ⟨w.heap.size, 2, none⟩ = some (.int .i64 o) := by rw [Blk.cell bP]; rfl
        have cV0 : w2.cell? ⟨w.heap.size + 1, 0, none⟩ = some (.int .i64 st) := by rw [Blk.cell bV]; rfl
        have cV1 : w2.cell? ⟨w.heap.size + 1, 1, none⟩ = some (.int .i64 ha) := by rw [Blk.cell bV]; rfl
        have cR0 : w2.cell? ⟨w.heap.size + 2, 0, none⟩ = some (.int .i64 0) := by rw [Blk.cell bR]; rfl
        have fR0 := Blk.free bR 0
        have cR1 : w2.cell? ⟨w.heap.size + 2, 1, none⟩ = some (.int .i64 0) := by rw [Blk.cell bR]; rfl
        have fR1 := Blk.free bR 1
        have cR2 : w2.cell? ⟨w.heap.size + 2, 2, none⟩ = some (.int .i64 0) := by rw [Blk.cell bR]; rfl
        have fR2 := Blk.free bR 2
        have lR := Blk.lt bR
        go_wp2_with fail
        have LA : ∀ xL : Later w2, Calls Try.prog 76 #[.agg #[.int .i64 s, .int .i64 a, .int .i64 o]] xL.world fun e w'' => e = .returned (.int .i64 p) ∧ ∃ z : Later w2, w'' = z.world := fun xL => later_call (by have h := spp_yes s a o xL.world HP.out; rw [HPP.out] at h; exact h)
        have e1 := HM.out
        have lf0 : ∀ xL : Later w2, xL.world.cell? ⟨w.heap.size, 0, none⟩ = some (.int .i64 s) := fun xL => xL.at (cP0)
        have lf1 : ∀ xL : Later w2, xL.world.cell? ⟨w.heap.size, 1, none⟩ = some (.int .i64 a) := fun xL => xL.at (cP1)
        have lf2 : ∀ xL : Later w2, xL.world.cell? ⟨w.heap.size, 2, none⟩ = some (.int .i64 o) := fun xL => xL.at (cP2)
        have lf3 : ∀ xL : Later w2, xL.world.cell? ⟨w.heap.size + 1, 0, none⟩ = some (.int .i64 st) := fun xL => xL.at (cV0)
        have lf4 : ∀ xL : Later w2, xL.world.cell? ⟨w.heap.size + 1, 1, none⟩ = some (.int .i64 ha) := fun xL => xL.at (cV1)
        refine region_later (w0 := w2) (by kernel_rfl) (by kernel_rfl) (bel_refl _) ?_
        repeat (go_big_quiet_step ((go_at_call 76; exact LA _)))
        refine wpQuiet_nil ?_
        rintro w' ⟨x, rfl⟩
        obtain ⟨w3, b3⟩ := x
        clear lf0 lf1 lf2 lf3 lf4
        clear e1 LA
        have bP := bP.below b3
        have bV := bV.below b3
        have bR := bR.below b3
        have bw := bel_tr bw b3
        have cP0 := keep_tr cP0 b3
        have cP1 := keep_tr cP1 b3
        have cP2 := keep_tr cP2 b3
        have cV0 := keep_tr cV0 b3
        have cV1 := keep_tr cV1 b3
        have hR3 := bR.lt
        go_wp2_with fail
        refine region_float (w0 := w3) (Z := #[.int .i64 0, .int .i64 0, .int .i64 0]) (T := 62) 13 7 (by kernel_rfl) (by kernel_rfl) (bel_refl _) (by intro a W oa hoa; simp at hoa; subst hoa; kernel_rfl) ?_
        intro wq hq
        have lf0 : ∀ xL : Later wq, xL.world.cell? ⟨w.heap.size, 0, none⟩ = some (.int .i64 s) := fun xL => xL.at (keep_tr (cP0) hq)
        have lf1 : ∀ xL : Later wq, xL.world.cell? ⟨w.heap.size, 1, none⟩ = some (.int .i64 a) := fun xL => xL.at (keep_tr (cP1) hq)
        have lf2 : ∀ xL : Later wq, xL.world.cell? ⟨w.heap.size, 2, none⟩ = some (.int .i64 o) := fun xL => xL.at (keep_tr (cP2) hq)
        have lf3 : ∀ xL : Later wq, xL.world.cell? ⟨w.heap.size + 1, 0, none⟩ = some (.int .i64 st) := fun xL => xL.at (keep_tr (cV0) hq)
        have lf4 : ∀ xL : Later wq, xL.world.cell? ⟨w.heap.size + 1, 1, none⟩ = some (.int .i64 ha) := fun xL => xL.at (keep_tr (cV1) hq)
        have LA : ∀ xL : Later wq, Calls Try.prog 70 #[.agg #[.int .i64 s, .int .i64 a, .int .i64 o]] xL.world fun e w'' => e = .returned (.int .i64 k) ∧ ∃ z : Later wq, w'' = z.world := fun xL => later_call (spk_val HK.out _)
        have LB : ∀ xL : Later wq, Calls Try.prog 85 #[.int .i64 m] xL.world fun e w'' => e = .returned (.int .i64 z) ∧ ∃ z : Later wq, w'' = z.world := fun xL => later_call (nat_val HZ.out _ (by omega) (by omega))
        simp only [List.take_succ_cons, List.take_zero, List.drop_succ_cons, List.drop_zero]
        repeat (go_big_quiet_step ((first | (go_at_call 70; exact LA _) | (go_at_call 85; exact LB _))))
        refine wpQuiet_nil ?_
        rintro w' ⟨x, rfl⟩ B hB hBw
        obtain ⟨wl, bl0⟩ := x
        have bl := bel_tr hq bl0
        clear lf0 lf1 lf2 lf3 lf4 LA LB
        go_simp
        have bR := bR.below bl
        have bw := bel_tr bw bl
        have cB0 : wl.cell? ⟨B, 0, none⟩ = some (.int .i64 0) := by rw [Blk.cell hB]; rfl
        have fB0 := Blk.free hB 0
        have cB1 : wl.cell? ⟨B, 1, none⟩ = some (.int .i64 0) := by rw [Blk.cell hB]; rfl
        have fB1 := Blk.free hB 1
        have cB2 : wl.cell? ⟨B, 2, none⟩ = some (.int .i64 0) := by rw [Blk.cell hB]; rfl
        have fB2 := Blk.free hB 2
        have lB := hB.lt
        go_upto_region 7 with fail
        have bB : Blk (((wl.setCell ⟨B, 0, none⟩ (.int .i64 (m % 7))).setCell ⟨B, 1, none⟩ (.int .i64 (k + ha - z))).setCell ⟨B, 2, none⟩ (.int .i64 (m / 7))) B #[.int .i64 (m % 7), .int .i64 (k + ha - z), .int .i64 (m / 7)] 62 := hB.set3
        have hR0 := bR.lt
        have bR : Blk (((wl.setCell ⟨B, 0, none⟩ (.int .i64 (m % 7))).setCell ⟨B, 1, none⟩ (.int .i64 (k + ha - z))).setCell ⟨B, 2, none⟩ (.int .i64 (m / 7))) (w.heap.size + 2) #[.int .i64 0, .int .i64 0, .int .i64 0] 62 := ((bR.off (by simp only; omega) _).off (by simp only; omega) _).off (by simp only; omega) _
        have bw : Below w.heap.size w (((wl.setCell ⟨B, 0, none⟩ (.int .i64 (m % 7))).setCell ⟨B, 1, none⟩ (.int .i64 (k + ha - z))).setCell ⟨B, 2, none⟩ (.int .i64 (m / 7))) := bel_set (bel_set (bel_set bw (by simp only; omega) _) (by simp only; omega) _) (by simp only; omega) _
        clear cB0 cB1 cB2 fB0 fB1 fB2 lB hB
        generalize (((wl.setCell ⟨B, 0, none⟩ (.int .i64 (m % 7))).setCell ⟨B, 1, none⟩ (.int .i64 (k + ha - z))).setCell ⟨B, 2, none⟩ (.int .i64 (m / 7))) = v7 at *
        have cB0 : v7.cell? ⟨B, 0, none⟩ = some (.int .i64 (m % 7)) := by rw [Blk.cell bB]; rfl
        have cB1 : v7.cell? ⟨B, 1, none⟩ = some (.int .i64 (k + ha - z)) := by rw [Blk.cell bB]; rfl
        have cB2 : v7.cell? ⟨B, 2, none⟩ = some (.int .i64 (m / 7)) := by rw [Blk.cell bB]; rfl
        go_wp2_with fail
        refine (spv_val HV.out _).mono ?_
        rintro e8 w8 ⟨rfl, b8⟩
        have bR := bR.below b8
        have bB := bB.below b8
        have bw := bel_tr bw b8
        clear cB0 cB1 cB2
        have cB0 : w8.cell? ⟨B, 0, none⟩ = some (.int .i64 (m % 7)) := by rw [Blk.cell bB]; rfl
        have cB1 : w8.cell? ⟨B, 1, none⟩ = some (.int .i64 (k + ha - z)) := by rw [Blk.cell bB]; rfl
        have cB2 : w8.cell? ⟨B, 2, none⟩ = some (.int .i64 (m / 7)) := by rw [Blk.cell bB]; rfl
        have cU0 : w8.cell? ⟨w.heap.size + 2, 0, none⟩ = some (.int .i64 0) := by rw [Blk.cell bR]; rfl
        have fU0 := Blk.free bR 0
        have cU1 : w8.cell? ⟨w.heap.size + 2, 1, none⟩ = some (.int .i64 0) := by rw [Blk.cell bR]; rfl
        have fU1 := Blk.free bR 1
        have cU2 : w8.cell? ⟨w.heap.size + 2, 2, none⟩ = some (.int .i64 0) := by rw [Blk.cell bR]; rfl
        have fU2 := Blk.free bR 2
        have lU := Blk.lt bR
        cases v
        · obtain ⟨K1', K2', K3', K4'⟩ := KEY.out 0 0 0 ⟨rfl, rfl, rfl⟩
          have y1 := Lib.hid K1'
          have y2 := Lib.hid K2'
          have y3 := Lib.hid K3'
          have y4 := Lib.hid K4'
          clear K1' K2' K3' K4'
          go_wp2
          exact bodyPost_ret (v := .tuple #[.agg #[.int .i64 (0), .int .i64 (0), .int .i64 (0)], .bool false]) (by simp [results, Try.results72, go_sem, cU0, fU0, cU1, fU1, cU2, fU2]) rfl ⟨(by rw [y1.out, y2.out, y3.out, y4.out]), by repeat (first | (with_reducible assumption) | (exact bel_undr (by with_reducible assumption)) | (with_reducible exact bel_refl _) | (with_reducible refine bel_dr ?_) | (with_reducible refine bel_drN ?_ _) | (with_reducible refine bel_al ?_ _) | (refine bel_set ?_ (by first | (simp; done) | (simp; exact Below.size (by assumption)) | (simp; omega)) _) | (with_reducible refine bel_tr ?_ (by assumption)))⟩
        · obtain ⟨K1', K2', K3', K4'⟩ := KEY.out (m % 7) (k + ha - z) (m / 7) ⟨rfl, rfl, rfl⟩
          have y1 := Lib.hid K1'
          have y2 := Lib.hid K2'
          have y3 := Lib.hid K3'
          have y4 := Lib.hid K4'
          clear K1' K2' K3' K4'
          go_wp2
          exact bodyPost_ret (v := .tuple #[.agg #[.int .i64 (m % 7), .int .i64 (k + ha - z), .int .i64 (m / 7)], .bool true]) (by simp [results, Try.results72, go_sem, cU0, fU0, cU1, fU1, cU2, fU2]) rfl ⟨(by rw [y1.out, y2.out, y3.out, y4.out]), by repeat (first | (with_reducible assumption) | (exact bel_undr (by with_reducible assumption)) | (with_reducible exact bel_refl _) | (with_reducible refine bel_dr ?_) | (with_reducible refine bel_drN ?_ _) | (with_reducible refine bel_al ?_ _) | (refine bel_set ?_ (by first | (simp; done) | (simp; exact Below.size (by assumption)) | (simp; omega)) _) | (with_reducible refine bel_tr ?_ (by assumption)))⟩
theorem sad_val {s a o st ha x y z : Int} {v : Bool} (h1 : adS s a o st ha = x) (h2 : adA s a o st ha = y) (h3 : adO s a o st ha = z) (h4 : adB s a o st ha = v) (w : World) :
    Calls Try.prog 72 #[.agg #[.int .i64 s, .int .i64 a, .int .i64 o], .agg #[.int .i64 st, .int .i64 ha]] w fun e w' => e = .returned (.tuple #[.agg #[.int .i64 (x), .int .i64 (y), .int .i64 (z)], .bool (v)]) ∧ Below w.heap.size w w' := by
  subst h1 h2 h3 h4; exact sad_any s a o st ha w
end Go.Proofs.Ytpjakgnghpapmaa
