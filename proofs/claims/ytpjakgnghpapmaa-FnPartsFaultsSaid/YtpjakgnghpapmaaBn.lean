/- The pitch to which an interval leads; of the reference. An interval, drawn. A chord near another one, drawn. Rows of chords that a call makes; chords for the faults of parts, drawn. -/
import Derived.Test.YtpjakgnghpapmaaBp
import Derived.Test.YtpjakgnghpapmaaDrP
import Derived.Deep.RegionWith
import Derived.Test.YtpjakgnghpapmaaDrS
import Derived.Test.YtpjakgnghpapmaaLfP
import Derived.Test.YtpjakgnghpapmaaBm
import Derived.Test.YtpjakgnghpapmaaBa
namespace Go.Proofs.Ytpjakgnghpapmaa
set_option linter.unusedSimpArgs false
set_option linter.unusedVariables false
section
open Go.RowKit

set_option maxHeartbeats 8000000 in
theorem sad_any (s a o st ha : Int) (w : World) : Calls Try.prog 72 #[.agg #[.int .i64 s, .int .i64 a, .int .i64 o], .agg #[.int .i64 st, .int .i64 ha]] w fun e w' => e = .returned (.tuple #[.agg #[.int .i64 (adS s a o st ha), .int .i64 (adA s a o st ha), .int .i64 (adO s a o st ha)], .bool (adB s a o st ha)]) ∧ Below w.heap.size w w' := by
  cases hp : pvB s a o
  · refine tup_to (x := 0) (y := 0) (z := 0) (v := false) (by have e : adB s a o st ha = false := (by unfold adB; rw [hp]; rfl); unfold adS adA adO; rw [e]; exact ⟨rfl, rfl, rfl, rfl⟩) ?_
    have HP := Lib.hid hp
    clear hp
    go_enter Try.func72, Try.ntmps72
    have bP : Blk (((w.alloc (.cells #[.int .i64 s, .int .i64 a, .int .i64 o] 62)).alloc (.cells #[.int .i64 st, .int .i64 ha] 95)).alloc (.cells #[.int .i64 0, .int .i64 0, .int .i64 0] 62)) w.heap.size #[.int .i64 s, .int .i64 a, .int .i64 o] 62 := ((Blk.new w _ _).alloc _).alloc _
    have bV : Blk (((w.alloc (.cells #[.int .i64 s, .int .i64 a, .int .i64 o] 62)).alloc (.cells #[.int .i64 st, .int .i64 ha] 95)).alloc (.cells #[.int .i64 0, .int .i64 0, .int .i64 0] 62)) (w.heap.size + 1) #[.int .i64 st, .int .i64 ha] 95 := by simpa using (Blk.new (w.alloc (.cells #[.int .i64 s, .int .i64 a, .int .i64 o] 62)) #[.int .i64 st, .int .i64 ha] 95).alloc (.cells #[.int .i64 0, .int .i64 0, .int .i64 0] 62)
    have bR : Blk (((w.alloc (.cells #[.int .i64 s, .int .i64 a, .int .i64 o] 62)).alloc (.cells #[.int .i64 st, .int .i64 ha] 95)).alloc (.cells #[.int .i64 0, .int .i64 0, .int .i64 0] 62)) (w.heap.size + 2) #[.int .i64 0, .int .i64 0, .int .i64 0] 62 := by simpa using Blk.new ((w.alloc (.cells #[.int .i64 s, .int .i64 a, .int .i64 o] 62)).alloc (.cells #[.int .i64 st, .int .i64 ha] 95)) #[.int .i64 0, .int .i64 0, .int .i64 0] 62
    have bw : Below w.heap.size w (((w.alloc (.cells #[.int .i64 s, .int .i64 a, .int .i64 o] 62)).alloc (.cells #[.int .i64 st, .int .i64 ha] 95)).alloc (.cells #[.int .i64 0, .int .i64 0, .int .i64 0] 62)) := bel_al (bel_al (bel_al (bel_refl w) _) _) _
    go_wp2_with fail
    generalize (((w.alloc (.cells #[.int .i64 s, .int .i64 a, .int .i64 o] 62)).alloc (.cells #[.int .i64 st, .int .i64 ha] 95)).alloc (.cells #[.int .i64 0, .int .i64 0, .int .i64 0] 62)) = w0 at *
    refine (spv_val HP.out _).mono ?_
    rintro e1 w1 ⟨rfl, b1⟩
    have bP := bP.below b1
    have bV := bV.below b1
    have bR := bR.below b1
    have bw := bel_tr bw b1
    clear b1
    have cP0 : w1.cell? ⟨w.heap.size, 0, none⟩ = some (.int .i64 s) := by rw [Blk.cell bP]; rfl
    have cP1 : w1.cell? ⟨w.heap.size, 1, none⟩ = some (.int .i64 a) := by rw [Blk.cell bP]; rfl
    have cP2 : w1.cell? ⟨w.heap.size, 2, none⟩ = some (.int .i64 o) := by rw [Blk.cell bP]; rfl
    have cV0 : w1.cell? ⟨w.heap.size + 1, 0, none⟩ = some (.int .i64 st) := by rw [Blk.cell bV]; rfl
    have cV1 : w1.cell? ⟨w.heap.size + 1, 1, none⟩ = some (.int .i64 ha) := by rw [Blk.cell bV]; rfl
    have cR0 : w1.cell? ⟨w.heap.size + 2, 0, none⟩ = some (.int .i64 0) := by rw [Blk.cell bR]; rfl
    have fR0 := Blk.free bR 0
    have cR1 : w1.cell? ⟨w.heap.size + 2, 1, none⟩ = some (.int .i64 0) := by rw [Blk.cell bR]; rfl
    have fR1 := Blk.free bR 1
    have cR2 : w1.cell? ⟨w.heap.size + 2, 2, none⟩ = some (.int .i64 0) := by rw [Blk.cell bR]; rfl
    have fR2 := Blk.free bR 2
    have lR := Blk.lt bR
    go_wp2
    exact bodyPost_ret (v := .tuple #[.agg #[.int .i64 (0), .int .i64 (0), .int .i64 (0)], .bool false]) (by simp [results, Try.results72, go_sem, cR0, fR0, cR1, fR1, cR2, fR2]) rfl ⟨rfl, by repeat (first | (with_reducible assumption) | (exact bel_undr (by with_reducible assumption)) | (with_reducible exact bel_refl _) | (with_reducible refine bel_dr ?_) | (with_reducible refine bel_drN ?_ _) | (with_reducible refine bel_al ?_ _) | (refine bel_set ?_ (by first | (simp; done) | (simp; exact Below.size (by assumption)) | (simp; omega)) _) | (with_reducible refine bel_tr ?_ (by assumption)))⟩
  · cases hi : ivB st ha
    · refine tup_to (x := 0) (y := 0) (z := 0) (v := false) (by have e : adB s a o st ha = false := (by unfold adB; rw [hp, hi]; rfl); unfold adS adA adO; rw [e]; exact ⟨rfl, rfl, rfl, rfl⟩) ?_
      have HP := Lib.hid hp
      have HI := Lib.hid hi
      clear hp hi
      go_enter Try.func72, Try.ntmps72
      have bP : Blk (((w.alloc (.cells #[.int .i64 s, .int .i64 a, .int .i64 o] 62)).alloc (.cells #[.int .i64 st, .int .i64 ha] 95)).alloc (.cells #[.int .i64 0, .int .i64 0, .int .i64 0] 62)) w.heap.size #[.int .i64 s, .int .i64 a, .int .i64 o] 62 := ((Blk.new w _ _).alloc _).alloc _
      have bV : Blk (((w.alloc (.cells #[.int .i64 s, .int .i64 a, .int .i64 o] 62)).alloc (.cells #[.int .i64 st, .int .i64 ha] 95)).alloc (.cells #[.int .i64 0, .int .i64 0, .int .i64 0] 62)) (w.heap.size + 1) #[.int .i64 st, .int .i64 ha] 95 := by simpa using (Blk.new (w.alloc (.cells #[.int .i64 s, .int .i64 a, .int .i64 o] 62)) #[.int .i64 st, .int .i64 ha] 95).alloc (.cells #[.int .i64 0, .int .i64 0, .int .i64 0] 62)
      have bR : Blk (((w.alloc (.cells #[.int .i64 s, .int .i64 a, .int .i64 o] 62)).alloc (.cells #[.int .i64 st, .int .i64 ha] 95)).alloc (.cells #[.int .i64 0, .int .i64 0, .int .i64 0] 62)) (w.heap.size + 2) #[.int .i64 0, .int .i64 0, .int .i64 0] 62 := by simpa using Blk.new ((w.alloc (.cells #[.int .i64 s, .int .i64 a, .int .i64 o] 62)).alloc (.cells #[.int .i64 st, .int .i64 ha] 95)) #[.int .i64 0, .int .i64 0, .int .i64 0] 62
      have bw : Below w.heap.size w (((w.alloc (.cells #[.int .i64 s, .int .i64 a, .int .i64 o] 62)).alloc (.cells #[.int .i64 st, .int .i64 ha] 95)).alloc (.cells #[.int .i64 0, .int .i64 0, .int .i64 0] 62)) := bel_al (bel_al (bel_al (bel_refl w) _) _) _
      go_wp2_with fail
      generalize (((w.alloc (.cells #[.int .i64 s, .int .i64 a, .int .i64 o] 62)).alloc (.cells #[.int .i64 st, .int .i64 ha] 95)).alloc (.cells #[.int .i64 0, .int .i64 0, .int .i64 0] 62)) = w0 at *
      refine (spv_val HP.out _).mono ?_
      rintro e1 w1 ⟨rfl, b1⟩
      have bP := bP.below b1
      have bV := bV.below b1
      have bR := bR.below b1
      have bw := bel_tr bw b1
      clear b1
      have cP0 : w1.cell? ⟨w.heap.size, 0, none⟩ = some (.int .i64 s) := by rw [Blk.cell bP]; rfl
      have cP1 : w1.cell? ⟨w.heap.size, 1, none⟩ = some (.int .i64 a) := by rw [Blk.cell bP]; rfl
      have cP2 : w1.cell? ⟨w.heap.size, 2, none⟩ = some (.int .i64 o) := by rw [Blk.cell bP]; rfl
      have cV0 : w1.cell? ⟨w.heap.size + 1, 0, none⟩ = some (.int .i64 st) := by rw [Blk.cell bV]; rfl
      have cV1 : w1.cell? ⟨w.heap.size + 1, 1, none⟩ = some (.int .i64 ha) := by rw [Blk.cell bV]; rfl
      have cR0 : w1.cell? ⟨w.heap.size + 2, 0, none⟩ = some (.int .i64 0) := by rw [Blk.cell bR]; rfl
      have fR0 := Blk.free bR 0
      have cR1 : w1.cell? ⟨w.heap.size + 2, 1, none⟩ = some (.int .i64 0) := by rw [Blk.cell bR]; rfl
      have fR1 := Blk.free bR 1
      have cR2 : w1.cell? ⟨w.heap.size + 2, 2, none⟩ = some (.int .i64 0) := by rw [Blk.cell bR]; rfl
      have fR2 := Blk.free bR 2
      have lR := Blk.lt bR
      go_wp2_with fail
      refine (siv_val HI.out _).mono ?_
      rintro e2 w2 ⟨rfl, b2⟩
      have bP := bP.below b2
      have bV := bV.below b2
      have bR := bR.below b2
      have bw := bel_tr bw b2
      clear b2
      have cP0 : w2.cell? ⟨w.heap.size, 0, none⟩ = some (.int .i64 s) := by rw [Blk.cell bP]; rfl
      have cP1 : w2.cell? ⟨w.heap.size, 1, none⟩ = some (.int .i64 a) := by rw [Blk.cell bP]; rfl
      have cP2 : w2.cell? ⟨w.heap.size, 2, none⟩ = some (.int .i64 o) := by rw [Blk.cell bP]; rfl
      have cV0 : w2.cell? ⟨w.heap.size + 1, 0, none⟩ = some (.int .i64 st) := by rw [Blk.cell bV]; rfl
      have cV1 : w2.cell? ⟨w.heap.size + 1, 1, none⟩ = some (.int .i64 ha) := by rw [Blk.cell bV]; rfl
      have cR0 : w2.cell? ⟨w.heap.size + 2, 0, none⟩ = some (.int .i64 0) := by rw [Blk.cell bR]; rfl
      have fR0 := Blk.free bR 0
      have cR1 : w2.cell? ⟨w.heap.size + 2, 1, none⟩ = some (.int .i64 0) := by rw [Blk.cell bR]; rfl
      have fR1 := Blk.free bR 1
      have cR2 : w2.cell? ⟨w.heap.size + 2, 2, none⟩ = some (.int .i64 0) := by rw [Blk.cell bR]; rfl
      have fR2 := Blk.free bR 2
      have lR := Blk.lt bR
      go_wp2
      exact bodyPost_ret (v := .tuple #[.agg #[.int .i64 (0), .int .i64 (0), .int .i64 (0)], .bool false]) (by simp [results, Try.results72, go_sem, cR0, fR0, cR1, fR1, cR2, fR2]) rfl ⟨rfl, by repeat (first | (with_reducible assumption) | (exact bel_undr (by with_reducible assumption)) | (with_reducible exact bel_refl _) | (with_reducible refine bel_dr ?_) | (with_reducible refine bel_drN ?_ _) | (with_reducible refine bel_al ?_ _) | (refine bel_set ?_ (by first | (simp; done) | (simp; exact Below.size (by assumption)) | (simp; omega)) _) | (with_reducible refine bel_tr ?_ (by assumption)))⟩
    · have hB : adB s a o st ha = pwB (7 * o + s + st) (12 * o + shI s + a + ha) := by unfold adB; rw [hp, hi]; rfl
      have hs := shI_bd s
      obtain ⟨h0, h1, h2, h3, h4, h5⟩ := pvB_bd hp
      obtain ⟨⟨j0, j1⟩, j2, j3⟩ := ivB_bd hi
      have hk : pkI s a o = 12 * o + shI s + a := by unfold pkI; rw [hp]; rfl
      obtain ⟨k, hk'⟩ : ∃ k, 12 * o + shI s + a = k := ⟨_, rfl⟩
      obtain ⟨p, hp'⟩ : ∃ p, 7 * o + s = p := ⟨_, rfl⟩
      refine tup_to (x := pwS (p + st) (k + ha)) (y := pwA (p + st) (k + ha)) (z := pwO (p + st) (k + ha)) (v := pwB (p + st) (k + ha)) (by
        unfold adS adA adO pwS pwA pwO
        rw [hB, hk', hp']; exact ⟨rfl, rfl, rfl, rfl⟩) ?_
      rw [hk'] at hk
      have HK := Lib.hid hk
      have HP := Lib.hid hp
      have HPP := Lib.hid hp'
      have HI := Lib.hid hi
      have k0 : -10 ≤ k := by omega
      have k1 : k ≤ 200 := by omega
      have p0 : 0 ≤ p := by omega
      have p1 : p ≤ 100 := by omega
      obtain ⟨m, hm⟩ : ∃ m, p + st = m := ⟨_, rfl⟩
      have x1 := IntWalk.i64_in (p + st) (by omega)
      have x2 := IntWalk.i64_in (k + ha) (by omega)
      rw [hm] at x1 ⊢
      have m1 : m ≤ 200 := by omega
      have m2 : -100 ≤ m := by omega
      have HM := Lib.hid hm
      clear hB hk hk' hp hp' hi hs hm
      by_cases hneg : m < 0
      · have e : pwB m (k + ha) = false := by unfold pwB; rw [decide_eq_false (by omega)]; rfl
        refine tup_to (x := 0) (y := 0) (z := 0) (v := false) (by unfold pwS pwA pwO; rw [e]; exact ⟨rfl, rfl, rfl, rfl⟩) ?_
        clear e
        go_enter Try.func72, Try.ntmps72
        have bP : Blk (((w.alloc (.cells #[.int .i64 s, .int .i64 a, .int .i64 o] 62)).alloc (.cells #[.int .i64 st, .int .i64 ha] 95)).alloc (.cells #[.int .i64 0, .int .i64 0, .int .i64 0] 62)) w.heap.size #[.int .i64 s, .int .i64 a, .int .i64 o] 62 := ((Blk.new w _ _).alloc _).alloc _
        have bV : Blk (((w.alloc (.cells #[.int .i64 s, .int .i64 a, .int .i64 o] 62)).alloc (.cells #[.int .i64 st, .int .i64 ha] 95)).alloc (.cells #[.int .i64 0, .int .i64 0, .int .i64 0] 62)) (w.heap.size + 1) #[.int .i64 st, .int .i64 ha] 95 := by simpa using (Blk.new (w.alloc (.cells #[.int .i64 s, .int .i64 a, .int .i64 o] 62)) #[.int .i64 st, .int .i64 ha] 95).alloc (.cells #[.int .i64 0, .int .i64 0, .int .i64 0] 62)
        have bR : Blk (((w.alloc (.cells #[.int .i64 s, .int .i64 a, .int .i64 o] 62)).alloc (.cells #[.int .i64 st, .int .i64 ha] 95)).alloc (.cells #[.int .i64 0, .int .i64 0, .int .i64 0] 62)) (w.heap.size + 2) #[.int .i64 0, .int .i64 0, .int .i64 0] 62 := by simpa using Blk.new ((w.alloc (.cells #[.int .i64 s, .int .i64 a, .int .i64 o] 62)).alloc (.cells #[.int .i64 st, .int .i64 ha] 95)) #[.int .i64 0, .int .i64 0, .int .i64 0] 62
        have bw : Below w.heap.size w (((w.alloc (.cells #[.int .i64 s, .int .i64 a, .int .i64 o] 62)).alloc (.cells #[.int .i64 st, .int .i64 ha] 95)).alloc (.cells #[.int .i64 0, .int .i64 0, .int .i64 0] 62)) := bel_al (bel_al (bel_al (bel_refl w) _) _) _
        go_wp2_with fail
        generalize (((w.alloc (.cells #[.int .i64 s, .int .i64 a, .int .i64 o] 62)).alloc (.cells #[.int .i64 st, .int .i64 ha] 95)).alloc (.cells #[.int .i64 0, .int .i64 0, .int .i64 0] 62)) = w0 at *
        refine (spv_val HP.out _).mono ?_
        rintro e1 w1 ⟨rfl, b1⟩
        have bP := bP.below b1
        have bV := bV.below b1
        have bR := bR.below b1
        have bw := bel_tr bw b1
        clear b1
        have cP0 : w1.cell? ⟨w.heap.size, 0, none⟩ = some (.int .i64 s) := by rw [Blk.cell bP]; rfl
        have cP1 : w1.cell? ⟨w.heap.size, 1, none⟩ = some (.int .i64 a) := by rw [Blk.cell bP]; rfl
        have cP2 : w1.cell? ⟨w.heap.size, 2, none⟩ = some (.int .i64 o) := by rw [Blk.cell bP]; rfl
        have cV0 : w1.cell? ⟨w.heap.size + 1, 0, none⟩ = some (.int .i64 st) := by rw [Blk.cell bV]; rfl
        have cV1 : w1.cell? ⟨w.heap.size + 1, 1, none⟩ = some (.int .i64 ha) := by rw [Blk.cell bV]; rfl
        have cR0 : w1.cell? ⟨w.heap.size + 2, 0, none⟩ = some (.int .i64 0) := by rw [Blk.cell bR]; rfl
        have fR0 := Blk.free bR 0
        have cR1 : w1.cell? ⟨w.heap.size + 2, 1, none⟩ = some (.int .i64 0) := by rw [Blk.cell bR]; rfl
        have fR1 := Blk.free bR 1
        have cR2 : w1.cell? ⟨w.heap.size + 2, 2, none⟩ = some (.int .i64 0) := by rw [Blk.cell bR]; rfl
        have fR2 := Blk.free bR 2
        have lR := Blk.lt bR
        go_wp2_with fail
        refine (siv_val HI.out _).mono ?_
        rintro e2 w2 ⟨rfl, b2⟩
        have bP := bP.below b2
        have bV := bV.below b2
        have bR := bR.below b2
        have bw := bel_tr bw b2
        clear b2
        have cP0 : w2.cell? ⟨w.heap.size, 0, none⟩ = some (.int .i64 s) := by rw [Blk.cell bP]; rfl
        have cP1 : w2.cell? ⟨w.heap.size, 1, none⟩ = some (.int .i64 a) := by rw [Blk.cell bP]; rfl
        have cP2 : w2.cell? ⟨w.heap.size, 2, none⟩ = some (.int .i64 o) := by rw [Blk.cell bP]; rfl
        have cV0 : w2.cell? ⟨w.heap.size + 1, 0, none⟩ = some (.int .i64 st) := by rw [Blk.cell bV]; rfl
        have cV1 : w2.cell? ⟨w.heap.size + 1, 1, none⟩ = some (.int .i64 ha) := by rw [Blk.cell bV]; rfl
        have cR0 : w2.cell? ⟨w.heap.size + 2, 0, none⟩ = some (.int .i64 0) := by rw [Blk.cell bR]; rfl
        have fR0 := Blk.free bR 0
        have cR1 : w2.cell? ⟨w.heap.size + 2, 1, none⟩ = some (.int .i64 0) := by rw [Blk.cell bR]; rfl
        have fR1 := Blk.free bR 1
        have cR2 : w2.cell? ⟨w.heap.size + 2, 2, none⟩ = some (.int .i64 0) := by rw [Blk.cell bR]; rfl
        have fR2 := Blk.free bR 2
        have lR := Blk.lt bR
        go_wp2_with fail
        have LA : ∀ xL : Later w2, Calls Try.prog 76 #[.agg #[.int .i64 s, .int .i64 a, .int .i64 o]] xL.world fun e w'' => e = .returned (.int .i64 p) ∧ ∃ z : Later w2, w'' = z.world := fun xL => later_call (by have h := spp_yes s a o xL.world HP.out; rw [HPP.out] at h; exact h)
        have e1 := HM.out
        have lf0 : ∀ xL : Later w2, xL.world.cell? ⟨w.heap.size, 0, none⟩ = some (.int .i64 s) := fun xL => xL.at (cP0)
        have lf1 : ∀ xL : Later w2, xL.world.cell? ⟨w.heap.size, 1, none⟩ = some (.int .i64 a) := fun xL => xL.at (cP1)
        have lf2 : ∀ xL : Later w2, xL.world.cell? ⟨w.heap.size, 2, none⟩ = some (.int .i64 o) := fun xL => xL.at (cP2)
        have lf3 : ∀ xL : Later w2, xL.world.cell? ⟨w.heap.size + 1, 0, none⟩ = some (.int .i64 st) := fun xL => xL.at (cV0)
        have lf4 : ∀ xL : Later w2, xL.world.cell? ⟨w.heap.size + 1, 1, none⟩ = some (.int .i64 ha) := fun xL => xL.at (cV1)
        refine region_later (w0 := w2) (by kernel_rfl) (by kernel_rfl) (bel_refl _) ?_
        repeat (go_big_quiet_step ((go_at_call 76; exact LA _)))
        refine wpQuiet_nil ?_
        rintro w' ⟨x, rfl⟩
        obtain ⟨w3, b3⟩ := x
        clear lf0 lf1 lf2 lf3 lf4
        clear e1 LA
        have bP := bP.below b3
        have bV := bV.below b3
        have bR := bR.below b3
        have bw := bel_tr bw b3
        have cP0 := keep_tr cP0 b3
        have cP1 := keep_tr cP1 b3
        have cP2 := keep_tr cP2 b3
        have cV0 := keep_tr cV0 b3
        have cV1 := keep_tr cV1 b3
        have cT0 : w3.cell? ⟨w.heap.size + 2, 0, none⟩ = some (.int .i64 0) := by rw [Blk.cell bR]; rfl
        have fT0 := Blk.free bR 0
        have cT1 : w3.cell? ⟨w.heap.size + 2, 1, none⟩ = some (.int .i64 0) := by rw [Blk.cell bR]; rfl
        have fT1 := Blk.free bR 1
        have cT2 : w3.cell? ⟨w.heap.size + 2, 2, none⟩ = some (.int .i64 0) := by rw [Blk.cell bR]; rfl
        have fT2 := Blk.free bR 2
        have lT := Blk.lt bR
        go_wp2
        exact bodyPost_ret (v := .tuple #[.agg #[.int .i64 (0), .int .i64 (0), .int .i64 (0)], .bool false]) (by simp [results, Try.results72, go_sem, cT0, fT0, cT1, fT1, cT2, fT2]) rfl ⟨rfl, by repeat (first | (with_reducible assumption) | (exact bel_undr (by with_reducible assumption)) | (with_reducible exact bel_refl _) | (with_reducible refine bel_dr ?_) | (with_reducible refine bel_drN ?_ _) | (with_reducible refine bel_al ?_ _) | (refine bel_set ?_ (by first | (simp; done) | (simp; exact Below.size (by assumption)) | (simp; omega)) _) | (with_reducible refine bel_tr ?_ (by assumption)))⟩
      · have m0 : 0 ≤ m := by omega
        have hn := natI_bd m m0 (by omega)
        obtain ⟨z, hz⟩ : ∃ z, natI m = z := ⟨_, rfl⟩
        have e0 : decide (0 ≤ m) = true := decide_eq_true m0
        have d0 : decide (m < 0) = false := decide_eq_false hneg
        obtain ⟨v, hv⟩ : ∃ v, pvB (m % 7) (k + ha - z) (m / 7) = v := ⟨_, rfl⟩
        have hB : pwB m (k + ha) = v := by unfold pwB; rw [e0, hz, hv]; rfl
        have key : ∀ x y t, (x = if v then m % 7 else 0) ∧ (y = if v then k + ha - z else 0) ∧ (t = if v then m / 7 else 0) → pwS m (k + ha) = x ∧ pwA m (k + ha) = y ∧ pwO m (k + ha) = t ∧ pwB m (k + ha) = v := by
          rintro x y t ⟨rfl, rfl, rfl⟩
          unfold pwS pwA pwO
          rw [hB, hz]
          exact ⟨rfl, rfl, rfl, rfl⟩
        have KEY := Lib.hid key
        have HZ := Lib.hid hz
        have HV := Lib.hid hv
        rw [hz] at hn
        have r0 : 0 ≤ m % 7 := by omega
        have r1 : 0 ≤ m / 7 := by omega
        have x3 := IntWalk.i64_in (k + ha - z) (by omega)
        clear hz hv hB key e0
        go_enter Try.func72, Try.ntmps72
        have bP : Blk (((w.alloc (.cells #[.int .i64 s, .int .i64 a, .int .i64 o] 62)).alloc (.cells #[.int .i64 st, .int .i64 ha] 95)).alloc (.cells #[.int .i64 0, .int .i64 0, .int .i64 0] 62)) w.heap.size #[.int .i64 s, .int .i64 a, .int .i64 o] 62 := ((Blk.new w _ _).alloc _).alloc _
        have bV : Blk (((w.alloc (.cells #[.int .i64 s, .int .i64 a, .int .i64 o] 62)).alloc (.cells #[.int .i64 st, .int .i64 ha] 95)).alloc (.cells #[.int .i64 0, .int .i64 0, .int .i64 0] 62)) (w.heap.size + 1) #[.int .i64 st, .int .i64 ha] 95 := by simpa using (Blk.new (w.alloc (.cells #[.int .i64 s, .int .i64 a, .int .i64 o] 62)) #[.int .i64 st, .int .i64 ha] 95).alloc (.cells #[.int .i64 0, .int .i64 0, .int .i64 0] 62)
        have bR : Blk (((w.alloc (.cells #[.int .i64 s, .int .i64 a, .int .i64 o] 62)).alloc (.cells #[.int .i64 st, .int .i64 ha] 95)).alloc (.cells #[.int .i64 0, .int .i64 0, .int .i64 0] 62)) (w.heap.size + 2) #[.int .i64 0, .int .i64 0, .int .i64 0] 62 := by simpa using Blk.new ((w.alloc (.cells #[.int .i64 s, .int .i64 a, .int .i64 o] 62)).alloc (.cells #[.int .i64 st, .int .i64 ha] 95)) #[.int .i64 0, .int .i64 0, .int .i64 0] 62
        have bw : Below w.heap.size w (((w.alloc (.cells #[.int .i64 s, .int .i64 a, .int .i64 o] 62)).alloc (.cells #[.int .i64 st, .int .i64 ha] 95)).alloc (.cells #[.int .i64 0, .int .i64 0, .int .i64 0] 62)) := bel_al (bel_al (bel_al (bel_refl w) _) _) _
        go_wp2_with fail
        generalize (((w.alloc (.cells #[.int .i64 s, .int .i64 a, .int .i64 o] 62)).alloc (.cells #[.int .i64 st, .int .i64 ha] 95)).alloc (.cells #[.int .i64 0, .int .i64 0, .int .i64 0] 62)) = w0 at *
        refine (spv_val HP.out _).mono ?_
        rintro e1 w1 ⟨rfl, b1⟩
        have bP := bP.below b1
        have bV := bV.below b1
        have bR := bR.below b1
        have bw := bel_tr bw b1
        clear b1
        have cP0 : w1.cell? ⟨w.heap.size, 0, none⟩ = some (.int .i64 s) := by rw [Blk.cell bP]; rfl
        have cP1 : w1.cell? ⟨w.heap.size, 1, none⟩ = some (.int .i64 a) := by rw [Blk.cell bP]; rfl
        have cP2 : w1.cell? ⟨w.heap.size, 2, none⟩ = some (.int .i64 o) := by rw [Blk.cell bP]; rfl
        have cV0 : w1.cell? ⟨w.heap.size + 1, 0, none⟩ = some (.int .i64 st) := by rw [Blk.cell bV]; rfl
        have cV1 : w1.cell? ⟨w.heap.size + 1, 1, none⟩ = some (.int .i64 ha) := by rw [Blk.cell bV]; rfl
        have cR0 : w1.cell? ⟨w.heap.size + 2, 0, none⟩ = some (.int .i64 0) := by rw [Blk.cell bR]; rfl
        have fR0 := Blk.free bR 0
        have cR1 : w1.cell? ⟨w.heap.size + 2, 1, none⟩ = some (.int .i64 0) := by rw [Blk.cell bR]; rfl
        have fR1 := Blk.free bR 1
        have cR2 : w1.cell? ⟨w.heap.size + 2, 2, none⟩ = some (.int .i64 0) := by rw [Blk.cell bR]; rfl
        have fR2 := Blk.free bR 2
        have lR := Blk.lt bR
        go_wp2_with fail
        refine (siv_val HI.out _).mono ?_
        rintro e2 w2 ⟨rfl, b2⟩
        have bP := bP.below b2
        have bV := bV.below b2
        have bR := bR.below b2
        have bw := bel_tr bw b2
        clear b2
        have cP0 : w2.cell? ⟨w.heap.size, 0, none⟩ = some (.int .i64 s) := by rw [Blk.cell bP]; rfl
        have cP1 : w2.cell? ⟨w.heap.size, 1, none⟩ = some (.int .i64 a) := by rw [Blk.cell bP]; rfl
        have cP2 : w2.cell? ⟨w.heap.size, 2, none⟩ = some (.int .i64 o) := by rw [Blk.cell bP]; rfl
        have cV0 : w2.cell? ⟨w.heap.size + 1, 0, none⟩ = some (.int .i64 st) := by rw [Blk.cell bV]; rfl
        have cV1 : w2.cell? ⟨w.heap.size + 1, 1, none⟩ = some (.int .i64 ha) := by rw [Blk.cell bV]; rfl
        have cR0 : w2.cell? ⟨w.heap.size + 2, 0, none⟩ = some (.int .i64 0) := by rw [Blk.cell bR]; rfl
        have fR0 := Blk.free bR 0
        have cR1 : w2.cell? ⟨w.heap.size + 2, 1, none⟩ = some (.int .i64 0) := by rw [Blk.cell bR]; rfl
        have fR1 := Blk.free bR 1
        have cR2 : w2.cell? ⟨w.heap.size + 2, 2, none⟩ = some (.int .i64 0) := by rw [Blk.cell bR]; rfl
        have fR2 := Blk.free bR 2
        have lR := Blk.lt bR
        go_wp2_with fail
        have LA : ∀ xL : Later w2, Calls Try.prog 76 #[.agg #[.int .i64 s, .int .i64 a, .int .i64 o]] xL.world fun e w'' => e = .returned (.int .i64 p) ∧ ∃ z : Later w2, w'' = z.world := fun xL => later_call (by have h := spp_yes s a o xL.world HP.out; rw [HPP.out] at h; exact h)
        have e1 := HM.out
        have lf0 : ∀ xL : Later w2, xL.world.cell? ⟨w.heap.size, 0, none⟩ = some (.int .i64 s) := fun xL => xL.at (cP0)
        have lf1 : ∀ xL : Later w2, xL.world.cell? ⟨w.heap.size, 1, none⟩ = some (.int .i64 a) := fun xL => xL.at (cP1)
        have lf2 : ∀ xL : Later w2, xL.world.cell? ⟨w.heap.size, 2, none⟩ = some (.int .i64 o) := fun xL => xL.at (cP2)
        have lf3 : ∀ xL : Later w2, xL.world.cell? ⟨w.heap.size + 1, 0, none⟩ = some (.int .i64 st) := fun xL => xL.at (cV0)
        have lf4 : ∀ xL : Later w2, xL.world.cell? ⟨w.heap.size + 1, 1, none⟩ = some (.int .i64 ha) := fun xL => xL.at (cV1)
        refine region_later (w0 := w2) (by kernel_rfl) (by kernel_rfl) (bel_refl _) ?_
        repeat (go_big_quiet_step ((go_at_call 76; exact LA _)))
        refine wpQuiet_nil ?_
        rintro w' ⟨x, rfl⟩
        obtain ⟨w3, b3⟩ := x
        clear lf0 lf1 lf2 lf3 lf4
        clear e1 LA
        have bP := bP.below b3
        have bV := bV.below b3
        have bR := bR.below b3
        have bw := bel_tr bw b3
        have cP0 := keep_tr cP0 b3
        have cP1 := keep_tr cP1 b3
        have cP2 := keep_tr cP2 b3
        have cV0 := keep_tr cV0 b3
        have cV1 := keep_tr cV1 b3
        have hR3 := bR.lt
        go_wp2_with fail
        refine region_float (w0 := w3) (Z := #[.int .i64 0, .int .i64 0, .int .i64 0]) (T := 62) 13 7 (by kernel_rfl) (by kernel_rfl) (bel_refl _) (by intro a W oa hoa; simp at hoa; subst hoa; kernel_rfl) ?_
        intro wq hq
        have lf0 : ∀ xL : Later wq, xL.world.cell? ⟨w.heap.size, 0, none⟩ = some (.int .i64 s) := fun xL => xL.at (keep_tr (cP0) hq)
        have lf1 : ∀ xL : Later wq, xL.world.cell? ⟨w.heap.size, 1, none⟩ = some (.int .i64 a) := fun xL => xL.at (keep_tr (cP1) hq)
        have lf2 : ∀ xL : Later wq, xL.world.cell? ⟨w.heap.size, 2, none⟩ = some (.int .i64 o) := fun xL => xL.at (keep_tr (cP2) hq)
        have lf3 : ∀ xL : Later wq, xL.world.cell? ⟨w.heap.size + 1, 0, none⟩ = some (.int .i64 st) := fun xL => xL.at (keep_tr (cV0) hq)
        have lf4 : ∀ xL : Later wq, xL.world.cell? ⟨w.heap.size + 1, 1, none⟩ = some (.int .i64 ha) := fun xL => xL.at (keep_tr (cV1) hq)
        have LA : ∀ xL : Later wq, Calls Try.prog 70 #[.agg #[.int .i64 s, .int .i64 a, .int .i64 o]] xL.world fun e w'' => e = .returned (.int .i64 k) ∧ ∃ z : Later wq, w'' = z.world := fun xL => later_call (spk_val HK.out _)
        have LB : ∀ xL : Later wq, Calls Try.prog 85 #[.int .i64 m] xL.world fun e w'' => e = .returned (.int .i64 z) ∧ ∃ z : Later wq, w'' = z.world := fun xL => later_call (nat_val HZ.out _ (by omega) (by omega))
        simp only [List.take_succ_cons, List.take_zero, List.drop_succ_cons, List.drop_zero]
        repeat (go_big_quiet_step ((first | (go_at_call 70; exact LA _) | (go_at_call 85; exact LB _))))
        refine wpQuiet_nil ?_
        rintro w' ⟨x, rfl⟩ B hB hBw
        obtain ⟨wl, bl0⟩ := x
        have bl := bel_tr hq bl0
        clear lf0 lf1 lf2 lf3 lf4 LA LB
        go_simp
        have bR := bR.below bl
        have bw := bel_tr bw bl
        have cB0 : wl.cell? ⟨B, 0, none⟩ = some (.int .i64 0) := by rw [Blk.cell hB]; rfl
        have fB0 := Blk.free hB 0
        have cB1 : wl.cell? ⟨B, 1, none⟩ = some (.int .i64 0) := by rw [Blk.cell hB]; rfl
        have fB1 := Blk.free hB 1
        have cB2 : wl.cell? ⟨B, 2, none⟩ = some (.int .i64 0) := by rw [Blk.cell hB]; rfl
        have fB2 := Blk.free hB 2
        have lB := hB.lt
        go_upto_region 7 with fail
        have bB : Blk (((wl.setCell ⟨B, 0, none⟩ (.int .i64 (m % 7))).setCell ⟨B, 1, none⟩ (.int .i64 (k + ha - z))).setCell ⟨B, 2, none⟩ (.int .i64 (m / 7))) B #[.int .i64 (m % 7), .int .i64 (k + ha - z), .int .i64 (m / 7)] 62 := hB.set3
        have hR0 := bR.lt
        have bR : Blk (((wl.setCell ⟨B, 0, none⟩ (.int .i64 (m % 7))).setCell ⟨B, 1, none⟩ (.int .i64 (k + ha - z))).setCell ⟨B, 2, none⟩ (.int .i64 (m / 7))) (w.heap.size + 2) #[.int .i64 0, .int .i64 0, .int .i64 0] 62 := ((bR.off (by simp only; omega) _).off (by simp only; omega) _).off (by simp only; omega) _
        have bw : Below w.heap.size w (((wl.setCell ⟨B, 0, none⟩ (.int .i64 (m % 7))).setCell ⟨B, 1, none⟩ (.int .i64 (k + ha - z))).setCell ⟨B, 2, none⟩ (.int .i64 (m / 7))) := bel_set (bel_set (bel_set bw (by simp only; omega) _) (by simp only; omega) _) (by simp only; omega) _
        clear cB0 cB1 cB2 fB0 fB1 fB2 lB hB
        generalize (((wl.setCell ⟨B, 0, none⟩ (.int .i64 (m % 7))).setCell ⟨B, 1, none⟩ (.int .i64 (k + ha - z))).setCell ⟨B, 2, none⟩ (.int .i64 (m / 7))) = v7 at *
        have cB0 : v7.cell? ⟨B, 0, none⟩ = some (.int .i64 (m % 7)) := by rw [Blk.cell bB]; rfl
        have cB1 : v7.cell? ⟨B, 1, none⟩ = some (.int .i64 (k + ha - z)) := by rw [Blk.cell bB]; rfl
        have cB2 : v7.cell? ⟨B, 2, none⟩ = some (.int .i64 (m / 7)) := by rw [Blk.cell bB]; rfl
        go_wp2_with fail
        refine (spv_val HV.out _).mono ?_
        rintro e8 w8 ⟨rfl, b8⟩
        have bR := bR.below b8
        have bB := bB.below b8
        have bw := bel_tr bw b8
        clear cB0 cB1 cB2
        have cB0 : w8.cell? ⟨B, 0, none⟩ = some (.int .i64 (m % 7)) := by rw [Blk.cell bB]; rfl
        have cB1 : w8.cell? ⟨B, 1, none⟩ = some (.int .i64 (k + ha - z)) := by rw [Blk.cell bB]; rfl
        have cB2 : w8.cell? ⟨B, 2, none⟩ = some (.int .i64 (m / 7)) := by rw [Blk.cell bB]; rfl
        have cU0 : w8.cell? ⟨w.heap.size + 2, 0, none⟩ = some (.int .i64 0) := by rw [Blk.cell bR]; rfl
        have fU0 := Blk.free bR 0
        have cU1 : w8.cell? ⟨w.heap.size + 2, 1, none⟩ = some (.int .i64 0) := by rw [Blk.cell bR]; rfl
        have fU1 := Blk.free bR 1
        have cU2 : w8.cell? ⟨w.heap.size + 2, 2, none⟩ = some (.int .i64 0) := by rw [Blk.cell bR]; rfl
        have fU2 := Blk.free bR 2
        have lU := Blk.lt bR
        cases v
        · obtain ⟨K1', K2', K3', K4'⟩ := KEY.out 0 0 0 ⟨rfl, rfl, rfl⟩
          have y1 := Lib.hid K1'
          have y2 := Lib.hid K2'
          have y3 := Lib.hid K3'
          have y4 := Lib.hid K4'
          clear K1' K2' K3' K4'
          go_wp2
          exact bodyPost_ret (v := .tuple #[.agg #[.int .i64 (0), .int .i64 (0), .int .i64 (0)], .bool false]) (by simp [results, Try.results72, go_sem, cU0, fU0, cU1, fU1, cU2, fU2]) rfl ⟨(by rw [y1.out, y2.out, y3.out, y4.out]), by repeat (first | (with_reducible assumption) | (exact bel_undr (by with_reducible assumption)) | (with_reducible exact bel_refl _) | (with_reducible refine bel_dr ?_) | (with_reducible refine bel_drN ?_ _) | (with_reducible refine bel_al ?_ _) | (refine bel_set ?_ (by first | (simp; done) | (simp; exact Below.size (by assumption)) | (simp; omega)) _) | (with_reducible refine bel_tr ?_ (by assumption)))⟩
        · obtain ⟨K1', K2', K3', K4'⟩ := KEY.out (m % 7) (k + ha - z) (m / 7) ⟨rfl, rfl, rfl⟩
          have y1 := Lib.hid K1'
          have y2 := Lib.hid K2'
          have y3 := Lib.hid K3'
          have y4 := Lib.hid K4'
          clear K1' K2' K3' K4'
          go_wp2
          exact bodyPost_ret (v := .tuple #[.agg #[.int .i64 (m % 7), .int .i64 (k + ha - z), .int .i64 (m / 7)], .bool true]) (by simp [results, Try.results72, go_sem, cU0, fU0, cU1, fU1, cU2, fU2]) rfl ⟨(by rw [y1.out, y2.out, y3.out, y4.out]), by repeat (first | (with_reducible assumption) | (exact bel_undr (by with_reducible assumption)) | (with_reducible exact bel_refl _) | (with_reducible refine bel_dr ?_) | (with_reducible refine bel_drN ?_ _) | (with_reducible refine bel_al ?_ _) | (refine bel_set ?_ (by first | (simp; done) | (simp; exact Below.size (by assumption)) | (simp; omega)) _) | (with_reducible refine bel_tr ?_ (by assumption)))⟩
theorem sad_val {s a o st ha x y z : Int} {v : Bool} (h1 : adS s a o st ha = x) (h2 : adA s a o st ha = y) (h3 : adO s a o st ha = z) (h4 : adB s a o st ha = v) (w : World) :
    Calls Try.prog 72 #[.agg #[.int .i64 s, .int .i64 a, .int .i64 o], .agg #[.int .i64 st, .int .i64 ha]] w fun e w' => e = .returned (.tuple #[.agg #[.int .i64 (x), .int .i64 (y), .int .i64 (z)], .bool (v)]) ∧ Below w.heap.size w w' := by
  subst h1 h2 h3 h4; exact sad_any s a o st ha w
end
section
open Go.RowKit

theorem lit_nine {v : Int} (v0 : 0 ≤ v) (v1 : v < 2) : ∃ t : Int, (∀ h, (#[Value.int .i64 9, Value.int .i64 (-9)] : Array Value)[v.toNat]'h = .int .i64 t) ∧ -9 ≤ t ∧ t ≤ 9 := by
  rcases (show v = 0 ∨ v = 1 from by omega) with rfl | rfl <;> exact ⟨_, fun _ => rfl, by omega⟩
def DrW (w : World) (g B p : Nat) (A : Option Addr) (len cap : Nat) (e : Ending) (w' : World) : Prop :=
  ∃ s h : Int, e = .returned (.agg #[.int .i64 s, .int .i64 h]) ∧ Onb g w w' ∧ ∃ p', p' ≤ p + 6 ∧ Rd w' g B A len cap p'
set_option maxHeartbeats 8000000 in
theorem way_any (w : World) (g B p : Nat) (A : Option Addr) (len cap : Nat) (m : Int) (h : Rd w g B A len cap p) (hp : p < 1000000) :
    Calls Try.prog 71 #[.pointer (some ⟨g, 0, none⟩), .int .i64 m] w (DrW w g B p A len cap) := by
  have hg := h.gl
  go_enter Try.func71, Try.ntmps71
  go_wp2_with fail
  have qR0 : Blk (w.alloc (.cells #[.int .i64 0, .int .i64 0] 95)) w.heap.size #[.int .i64 0, .int .i64 0] 95 := Blk.new w _ _
  have r0 := h.alloc (.cells #[.int .i64 0, .int .i64 0] 95)
  have k0 := (Onb.refl g w).alloc (.cells #[.int .i64 0, .int .i64 0] 95)
  generalize (w.alloc (.cells #[.int .i64 0, .int .i64 0] 95)) = w0 at *
  go_wp2_with fail
  refine (pick_fr _ _ _ _ _ _ _ _ r0 (by omega)).mono ?_
  rintro e w1 ⟨x, rfl, ⟨x0, x1, _⟩, o1, r1⟩
  have k1 := (k0).trans (Onb.of_onl o1)
  have qR1 := (qR0).onl o1 (by omega)
  have hg1 := r1.gl
  have x1 := x1 (by omega)
  clear r0 k0 o1 qR0
  obtain ⟨y, hy⟩ : ∃ y, x - 7 = y := ⟨_, rfl⟩
  have y0 : -7 ≤ y := by omega
  have y1 : y ≤ 7 := by omega
  have iy := IntWalk.i64_in (x - 7) (by omega)
  rw [hy] at iy
  have HYX := Lib.hid hy
  by_cases hneg : y < 0
  · have h1 : y < -y := by omega
    have h2 : ¬ -y ≤ y := by omega
    have h3 : ¬ -y < y := by omega
    obtain ⟨z, hz⟩ : ∃ z, natI (-y) = z := ⟨_, rfl⟩
    obtain ⟨z0, z1⟩ := nat21 (s := (-y)) (by omega) (by omega)
    rw [hz] at z0 z1
    have HZ := Lib.hid hz
    clear hz
    go_wp2_with fail
    refine (nat_val HZ.out _ (by omega) (by omega)).mono ?_
    rintro e w2 ⟨rfl, b2⟩
    have r2 := r1.below b2
    have k2 := k1.trans (Onb.of_bel b2)
    have qR2 := qR1.below b2
    have hg2 := r2.gl
    clear r1 k1 qR1 b2
    go_wp2_with fail
    refine (pick_fr _ _ _ _ _ _ _ _ r2 (by omega)).mono ?_
    rintro e w3 ⟨v, rfl, ⟨v0, v1, _⟩, o3, r3⟩
    have k3 := (k2).trans (Onb.of_onl o3)
    have qR3 := (qR2).onl o3 (by omega)
    have hg3 := r3.gl
    have v1 := v1 (by omega)
    clear r2 k2 o3 qR2
    go_wp2_with fail
    refine (pick_fr _ _ _ _ _ _ _ _ (r3.alloc _) (by omega)).mono ?_
    rintro e w4 ⟨q, rfl, ⟨q0, q1, _⟩, o4, r4⟩
    have k4 := ((k3.alloc _)).trans (Onb.of_onl o4)
    have qR4 := ((qR3.alloc _)).onl o4 (by omega)
    have hg4 := r4.gl
    have q1 := q1 (by omega)
    obtain ⟨uq, muq, huq⟩ := lit_at (w := w4) (b := w3.heap.size) (xs := [0, 0, 0, -1, 1, v - 3]) ((o4.block _ (by omega)).trans (heap_alloc_new w3 _)) q0 q1
    clear r3 k3 o4 qR3
    have uq0 : -3 ≤ uq ∧ uq ≤ 3 := by simp at muq; omega
    clear muq
    obtain ⟨uq1, uq2⟩ := uq0
    obtain ⟨t, ht⟩ : ∃ t, z + uq = t := ⟨_, rfl⟩
    have t0 : -3 ≤ t := by omega
    have t1 : t ≤ 39 := by omega
    have it := IntWalk.i64_in (z + uq) (by omega)
    rw [ht] at it
    go_upto_region 3 with fail
    clear it iy huq
    have qP5 : Blk (w4.alloc (.cells #[.int .i64 y, .int .i64 t] 95)) w4.heap.size #[.int .i64 y, .int .i64 t] 95 := Blk.new w4 _ _
    have r5 := r4.alloc (.cells #[.int .i64 y, .int .i64 t] 95)
    have k5 := k4.alloc (.cells #[.int .i64 y, .int .i64 t] 95)
    have qR5 := qR4.alloc (.cells #[.int .i64 y, .int .i64 t] 95)
    have hP : w.heap.size < w4.heap.size := qR4.lt
    have hPg : g < w4.heap.size := hg4
    have hg5 : g < (w4.alloc (.cells #[.int .i64 y, .int .i64 t] 95)).heap.size := r5.gl
    clear r4 k4 qR4
    generalize (w4.alloc (.cells #[.int .i64 y, .int .i64 t] 95)) = w5 at *
    generalize w4.heap.size = P at *
    have cqP0 : w5.cell? ⟨P, 0, none⟩ = some (.int .i64 y) := by rw [Blk.cell qP5]; rfl
    have cqP1 : w5.cell? ⟨P, 1, none⟩ = some (.int .i64 t) := by rw [Blk.cell qP5]; rfl
    have fqP0 := Blk.free qP5 0
    have fqP1 := Blk.free qP5 1
    have lqP := Blk.lt qP5
    have hPs : w.heap.size ≤ P := by omega
    have fgP : ¬ P = g := by omega
    go_upto_region 5 with fail
    have qP6 : Blk (w5.setCell ⟨P, 1, none⟩ (.int .i64 (-t))) P #[.int .i64 y, .int .i64 (-t)] 95 := qP5.s21
    have qR6 : Blk (w5.setCell ⟨P, 1, none⟩ (.int .i64 (-t))) w.heap.size #[.int .i64 0, .int .i64 0] 95 := qR5.off (by first | omega | (simp only; omega)) _
    have k6 : Onb g w (w5.setCell ⟨P, 1, none⟩ (.int .i64 (-t))) := k5.set (by first | omega | (simp only; omega)) _
    have r6 : Rd (w5.setCell ⟨P, 1, none⟩ (.int .i64 (-t))) g B A len cap _ := r5.set (by have := r5.Bg; first | omega | (simp only; omega)) (by first | omega | (simp only; omega)) _
    clear qP5 qR5 k5 r5 cqP0 cqP1 fqP0 fqP1 lqP
    generalize (w5.setCell ⟨P, 1, none⟩ (.int .i64 (-t))) = w6 at *
    have hg6 := r6.gl
    obtain ⟨hh, hhh⟩ : ∃ hh, -t = hh := ⟨_, rfl⟩
    have hb0 : -40 ≤ hh := by omega
    have hb1 : hh ≤ 40 := by omega
    rw [hhh] at qP6
    clear hhh
    go_wp2_with fail
    refine (odd_any _ _ _ _ _ _ _ _ r6 (by omega)).mono ?_
    rintro e w7 ⟨b5, rfl, _, o7, p7, hp7, r7⟩
    have k7 := (k6).trans (Onb.of_onl o7)
    have qR7 := (qR6).onl o7 (by omega)
    have qP7 := (qP6).onl o7 (by omega)
    have hg7 := r7.gl
    clear r6 k6 o7 qR6 qP6
    cases b5
    · have cqP0 : w7.cell? ⟨P, 0, none⟩ = some (.int .i64 y) := by rw [Blk.cell qP7]; rfl
      have cqP1 : w7.cell? ⟨P, 1, none⟩ = some (.int .i64 hh) := by rw [Blk.cell qP7]; rfl
      have lqP := Blk.lt qP7
      have cqR0 : w7.cell? ⟨w.heap.size, 0, none⟩ = some (.int .i64 0) := by rw [Blk.cell qR7]; rfl
      have cqR1 : w7.cell? ⟨w.heap.size, 1, none⟩ = some (.int .i64 0) := by rw [Blk.cell qR7]; rfl
      have fqR0 := Blk.free qR7 0
      have fqR1 := Blk.free qR7 1
      have lqR := Blk.lt qR7
      have hRg : w.heap.size ≠ g := by omega
      go_wp2
      exact bodyPost_ret (v := .agg #[.int .i64 y, .int .i64 hh]) (by simp [results, Try.results71, go_sem, cqR0, fqR0, cqR1, fqR1]) rfl ⟨y, hh, rfl, ((k7.set (by first | omega | (simp only; omega)) _).set (by first | omega | (simp only; omega)) _), _, by omega, ((r7.set (by have := r7.Bg; first | omega | (simp only; omega)) (by first | omega | (simp only; omega)) _).set (by have := r7.Bg; first | omega | (simp only; omega)) (by first | omega | (simp only; omega)) _)⟩
    · go_wp2_with fail
      refine (pick_fr _ _ _ _ _ _ _ _ r7 (by omega)).mono ?_
      rintro e w8 ⟨c, rfl, ⟨c0, c1, _⟩, o8, r8⟩
      have k8 := (k7).trans (Onb.of_onl o8)
      have qR8 := (qR7).onl o8 (by omega)
      have qP8 := (qP7).onl o8 (by omega)
      have hg8 := r8.gl
      have c1 := c1 (by omega)
      clear r7 k7 o8 qR7 qP7
      rcases (show c = 0 ∨ c = 1 ∨ (¬ c = 0 ∧ ¬ c = 1) from by omega) with rfl | rfl | ⟨c2, c3⟩
      · go_upto_region 9 with fail
        have cP0 : w8.cell? ⟨P, 0, none⟩ = some (.int .i64 y) := by rw [Blk.cell qP8]; rfl
        have cP1 : w8.cell? ⟨P, 1, none⟩ = some (.int .i64 hh) := by rw [Blk.cell qP8]; rfl
        have lP := qP8.lt
        have lR0 := qR8.lt
        have hBg := r8.Bg
        have hBR : B ≤ w.heap.size := by omega
        have hBP : B ≤ P := by omega
        have hRg : w.heap.size ≠ g := by omega
        have hPg2 : P ≠ g := by omega
        have hPs : w.heap.size ≤ P := by omega
        have hPR : ¬ P = w.heap.size := by omega
        have hRP : ¬ w.heap.size = P := by omega
        go_region_with (first | (go_at_call 43; refine (pick_fr _ _ ?_ ?_ ?_ ?_ ?_ (2) ?_ ?_).mono ?_; rotate_left 5; (focus (repeat (first | (with_reducible assumption) | (with_reducible refine Rd.drew ?_) | (with_reducible refine Rd.drewN ?_ _) | (with_reducible refine Rd.alloc ?_ _)))); (focus omega); rintro e w_q ⟨nq, rfl, ⟨n0, n1, _⟩, o_q, r_q⟩; have n1 := n1 (by omega); have qPq : Blk w_q P #[.int .i64 y, .int .i64 hh] 95 := (by first | exact (qP8.onl o_q (by omega)) | exact (qP8.drew.onl o_q (by omega)) | exact ((qP8.alloc _).onl o_q (by omega)) | exact ((qP8.drew.alloc _).onl o_q (by omega)) | exact ((qP8.alloc _).drew.onl o_q (by omega))); have qRq : Blk w_q w.heap.size #[.int .i64 0, .int .i64 0] 95 := (by first | exact (qR8.onl o_q (by omega)) | exact (qR8.drew.onl o_q (by omega)) | exact ((qR8.alloc _).onl o_q (by omega)) | exact ((qR8.drew.alloc _).onl o_q (by omega)) | exact ((qR8.alloc _).drew.onl o_q (by omega))); have kq : Onb g w w_q := (by repeat (first | (with_reducible assumption) | (with_reducible exact Onb.refl _ _) | (with_reducible refine Onb.drew ?_) | (with_reducible refine Onb.drewN ?_ _) | (with_reducible refine Onb.alloc ?_ _) | (with_reducible refine Onb.trans ?_ (Onb.of_onl (by with_reducible assumption))) | (with_reducible refine Onb.trans ?_ (by with_reducible assumption)))); (try have lq := fun o => o_q.cell (w8.heap.size) o (by omega)); obtain ⟨u, hu, u0, u1⟩ := lit_nine n0 n1; have _hu := hu (by simp; omega); have cP0 : w_q.cell? ⟨P, 0, none⟩ = some (.int .i64 y) := (by rw [Blk.cell qPq]; rfl); have fP0 := Blk.free qPq 0; have cP1 : w_q.cell? ⟨P, 1, none⟩ = some (.int .i64 hh) := (by rw [Blk.cell qPq]; rfl); have fP1 := Blk.free qPq 1; have cR0 : w_q.cell? ⟨w.heap.size, 0, none⟩ = some (.int .i64 0) := (by rw [Blk.cell qRq]; rfl); have fR0 := Blk.free qRq 0; have cR1 : w_q.cell? ⟨w.heap.size, 1, none⟩ = some (.int .i64 0) := (by rw [Blk.cell qRq]; rfl); have fR1 := Blk.free qRq 1; have lR := qRq.lt; have lPq := qPq.lt))
        all_goals
          go_wp2
          exact bodyPost_ret (v := .agg #[.int .i64 y, .int .i64 (hh + u)]) (by simp [results, Try.results71, go_sem, cR0, fR0, cR1, fR1, lR, lPq, cP0, cP1, fP0, fP1]) rfl ⟨y, hh + u, rfl, by repeat (first | (with_reducible assumption) | (refine Onb.set ?_ (by first | exact Nat.le_refl _ | exact hPs) _) | (with_reducible refine Onb.drew ?_) | (with_reducible refine Onb.alloc ?_ _)), p7 + 1 + 1, by omega, by repeat (first | (with_reducible assumption) | (refine Rd.set ?_ (by first | exact hBR | exact hBP) (by first | exact hRg | exact hPg2) _) | (with_reducible refine Rd.drew ?_) | (with_reducible refine Rd.alloc ?_ _))⟩
      · go_wp2_with fail
        refine (pick_fr _ _ _ _ _ _ _ _ (r8.alloc _) (by omega)).mono ?_
        rintro e w9 ⟨n, rfl, ⟨n0, n1, _⟩, o9, r9⟩
        have k9 := ((k8.alloc _)).trans (Onb.of_onl o9)
        have qR9 := ((qR8.alloc _)).onl o9 (by omega)
        have qP9 := ((qP8.alloc _)).onl o9 (by omega)
        have hg9 := r9.gl
        have n1 := n1 (by omega)
        obtain ⟨un, _, hun⟩ := lit_at (w := w9) (b := w8.heap.size) (xs := [-22, 22]) ((o9.block _ (by omega)).trans (heap_alloc_new w8 _)) n0 n1
        clear r8 k8 o9 qR8 qP8
        have cqP0 : w9.cell? ⟨P, 0, none⟩ = some (.int .i64 y) := by rw [Blk.cell qP9]; rfl
        have cqP1 : w9.cell? ⟨P, 1, none⟩ = some (.int .i64 hh) := by rw [Blk.cell qP9]; rfl
        have fqP0 := Blk.free qP9 0
        have fqP1 := Blk.free qP9 1
        have lqP := Blk.lt qP9
        have hPs : w.heap.size ≤ P := by omega
        go_upto_region 12 with fail
        have qP10 : Blk (w9.setCell ⟨P, 0, none⟩ (.int .i64 un)) P #[.int .i64 un, .int .i64 hh] 95 := qP9.s20
        have qR10 : Blk (w9.setCell ⟨P, 0, none⟩ (.int .i64 un)) w.heap.size #[.int .i64 0, .int .i64 0] 95 := qR9.off (by first | omega | (simp only; omega)) _
        have k10 : Onb g w (w9.setCell ⟨P, 0, none⟩ (.int .i64 un)) := k9.set (by first | omega | (simp only; omega)) _
        have r10 : Rd (w9.setCell ⟨P, 0, none⟩ (.int .i64 un)) g B A len cap _ := r9.set (by have := r9.Bg; first | omega | (simp only; omega)) (by first | omega | (simp only; omega)) _
        clear qP9 qR9 k9 r9 cqP0 cqP1 fqP0 fqP1 lqP
        generalize (w9.setCell ⟨P, 0, none⟩ (.int .i64 un)) = w10 at *
        have hg10 := r10.gl
        have cqP0 : w10.cell? ⟨P, 0, none⟩ = some (.int .i64 un) := by rw [Blk.cell qP10]; rfl
        have cqP1 : w10.cell? ⟨P, 1, none⟩ = some (.int .i64 hh) := by rw [Blk.cell qP10]; rfl
        have lqP := Blk.lt qP10
        have cqR0 : w10.cell? ⟨w.heap.size, 0, none⟩ = some (.int .i64 0) := by rw [Blk.cell qR10]; rfl
        have cqR1 : w10.cell? ⟨w.heap.size, 1, none⟩ = some (.int .i64 0) := by rw [Blk.cell qR10]; rfl
        have fqR0 := Blk.free qR10 0
        have fqR1 := Blk.free qR10 1
        have lqR := Blk.lt qR10
        have hRg : w.heap.size ≠ g := by omega
        go_wp2
        exact bodyPost_ret (v := .agg #[.int .i64 un, .int .i64 hh]) (by simp [results, Try.results71, go_sem, cqR0, fqR0, cqR1, fqR1]) rfl ⟨un, hh, rfl, ((k10.set (by first | omega | (simp only; omega)) _).set (by first | omega | (simp only; omega)) _), _, by omega, ((r10.set (by have := r10.Bg; first | omega | (simp only; omega)) (by first | omega | (simp only; omega)) _).set (by have := r10.Bg; first | omega | (simp only; omega)) (by first | omega | (simp only; omega)) _)⟩
      · go_wp2_with fail
        refine (pick_fr _ _ _ _ _ _ _ _ (r8.alloc _) (by omega)).mono ?_
        rintro e w9 ⟨n, rfl, ⟨n0, n1, _⟩, o9, r9⟩
        have k9 := ((k8.alloc _)).trans (Onb.of_onl o9)
        have qR9 := ((qR8.alloc _)).onl o9 (by omega)
        have qP9 := ((qP8.alloc _)).onl o9 (by omega)
        have hg9 := r9.gl
        have n1 := n1 (by omega)
        obtain ⟨un, _, hun⟩ := lit_at (w := w9) (b := w8.heap.size) (xs := [61, -61, 9223372036854775807]) ((o9.block _ (by omega)).trans (heap_alloc_new w8 _)) n0 n1
        clear r8 k8 o9 qR8 qP8
        have cqP0 : w9.cell? ⟨P, 0, none⟩ = some (.int .i64 y) := by rw [Blk.cell qP9]; rfl
        have cqP1 : w9.cell? ⟨P, 1, none⟩ = some (.int .i64 hh) := by rw [Blk.cell qP9]; rfl
        have fqP0 := Blk.free qP9 0
        have fqP1 := Blk.free qP9 1
        have lqP := Blk.lt qP9
        have hPs : w.heap.size ≤ P := by omega
        go_upto_region 12 with fail
        have qP10 : Blk (w9.setCell ⟨P, 1, none⟩ (.int .i64 un)) P #[.int .i64 y, .int .i64 un] 95 := qP9.s21
        have qR10 : Blk (w9.setCell ⟨P, 1, none⟩ (.int .i64 un)) w.heap.size #[.int .i64 0, .int .i64 0] 95 := qR9.off (by first | omega | (simp only; omega)) _
        have k10 : Onb g w (w9.setCell ⟨P, 1, none⟩ (.int .i64 un)) := k9.set (by first | omega | (simp only; omega)) _
        have r10 : Rd (w9.setCell ⟨P, 1, none⟩ (.int .i64 un)) g B A len cap _ := r9.set (by have := r9.Bg; first | omega | (simp only; omega)) (by first | omega | (simp only; omega)) _
        clear qP9 qR9 k9 r9 cqP0 cqP1 fqP0 fqP1 lqP
        generalize (w9.setCell ⟨P, 1, none⟩ (.int .i64 un)) = w10 at *
        have hg10 := r10.gl
        have cqP0 : w10.cell? ⟨P, 0, none⟩ = some (.int .i64 y) := by rw [Blk.cell qP10]; rfl
        have cqP1 : w10.cell? ⟨P, 1, none⟩ = some (.int .i64 un) := by rw [Blk.cell qP10]; rfl
        have lqP := Blk.lt qP10
        have cqR0 : w10.cell? ⟨w.heap.size, 0, none⟩ = some (.int .i64 0) := by rw [Blk.cell qR10]; rfl
        have cqR1 : w10.cell? ⟨w.heap.size, 1, none⟩ = some (.int .i64 0) := by rw [Blk.cell qR10]; rfl
        have fqR0 := Blk.free qR10 0
        have fqR1 := Blk.free qR10 1
        have lqR := Blk.lt qR10
        have hRg : w.heap.size ≠ g := by omega
        go_wp2
        exact bodyPost_ret (v := .agg #[.int .i64 y, .int .i64 un]) (by simp [results, Try.results71, go_sem, cqR0, fqR0, cqR1, fqR1]) rfl ⟨y, un, rfl, ((k10.set (by first | omega | (simp only; omega)) _).set (by first | omega | (simp only; omega)) _), _, by omega, ((r10.set (by have := r10.Bg; first | omega | (simp only; omega)) (by first | omega | (simp only; omega)) _).set (by have := r10.Bg; first | omega | (simp only; omega)) (by first | omega | (simp only; omega)) _)⟩
  · have h1 : ¬ y < -y := by omega
    have h2 : -y ≤ y := by omega
    obtain ⟨z, hz⟩ : ∃ z, natI y = z := ⟨_, rfl⟩
    obtain ⟨z0, z1⟩ := nat21 (s := y) (by omega) (by omega)
    rw [hz] at z0 z1
    have HZ := Lib.hid hz
    clear hz
    go_wp2_with fail
    refine (nat_val HZ.out _ (by omega) (by omega)).mono ?_
    rintro e w2 ⟨rfl, b2⟩
    have r2 := r1.below b2
    have k2 := k1.trans (Onb.of_bel b2)
    have qR2 := qR1.below b2
    have hg2 := r2.gl
    clear r1 k1 qR1 b2
    go_wp2_with fail
    refine (pick_fr _ _ _ _ _ _ _ _ r2 (by omega)).mono ?_
    rintro e w3 ⟨v, rfl, ⟨v0, v1, _⟩, o3, r3⟩
    have k3 := (k2).trans (Onb.of_onl o3)
    have qR3 := (qR2).onl o3 (by omega)
    have hg3 := r3.gl
    have v1 := v1 (by omega)
    clear r2 k2 o3 qR2
    go_wp2_with fail
    refine (pick_fr _ _ _ _ _ _ _ _ (r3.alloc _) (by omega)).mono ?_
    rintro e w4 ⟨q, rfl, ⟨q0, q1, _⟩, o4, r4⟩
    have k4 := ((k3.alloc _)).trans (Onb.of_onl o4)
    have qR4 := ((qR3.alloc _)).onl o4 (by omega)
    have hg4 := r4.gl
    have q1 := q1 (by omega)
    obtain ⟨uq, muq, huq⟩ := lit_at (w := w4) (b := w3.heap.size) (xs := [0, 0, 0, -1, 1, v - 3]) ((o4.block _ (by omega)).trans (heap_alloc_new w3 _)) q0 q1
    clear r3 k3 o4 qR3
    have uq0 : -3 ≤ uq ∧ uq ≤ 3 := by simp at muq; omega
    clear muq
    obtain ⟨uq1, uq2⟩ := uq0
    obtain ⟨t, ht⟩ : ∃ t, z + uq = t := ⟨_, rfl⟩
    have t0 : -3 ≤ t := by omega
    have t1 : t ≤ 39 := by omega
    have it := IntWalk.i64_in (z + uq) (by omega)
    rw [ht] at it
    go_upto_region 3 with fail
    clear it iy huq
    have qP5 : Blk (w4.alloc (.cells #[.int .i64 y, .int .i64 t] 95)) w4.heap.size #[.int .i64 y, .int .i64 t] 95 := Blk.new w4 _ _
    have r5 := r4.alloc (.cells #[.int .i64 y, .int .i64 t] 95)
    have k5 := k4.alloc (.cells #[.int .i64 y, .int .i64 t] 95)
    have qR5 := qR4.alloc (.cells #[.int .i64 y, .int .i64 t] 95)
    have hP : w.heap.size < w4.heap.size := qR4.lt
    have hPg : g < w4.heap.size := hg4
    have hg5 : g < (w4.alloc (.cells #[.int .i64 y, .int .i64 t] 95)).heap.size := r5.gl
    clear r4 k4 qR4
    generalize (w4.alloc (.cells #[.int .i64 y, .int .i64 t] 95)) = w5 at *
    generalize w4.heap.size = P at *
    go_wp2_with fail
    refine (odd_any _ _ _ _ _ _ _ _ r5 (by omega)).mono ?_
    rintro e w6 ⟨b5, rfl, _, o6, p6, hp6, r6⟩
    have k6 := (k5).trans (Onb.of_onl o6)
    have qR6 := (qR5).onl o6 (by omega)
    have qP6 := (qP5).onl o6 (by omega)
    have hg6 := r6.gl
    clear r5 k5 o6 qR5 qP5
    cases b5
    · have cqP0 : w6.cell? ⟨P, 0, none⟩ = some (.int .i64 y) := by rw [Blk.cell qP6]; rfl
      have cqP1 : w6.cell? ⟨P, 1, none⟩ = some (.int .i64 t) := by rw [Blk.cell qP6]; rfl
      have lqP := Blk.lt qP6
      have cqR0 : w6.cell? ⟨w.heap.size, 0, none⟩ = some (.int .i64 0) := by rw [Blk.cell qR6]; rfl
      have cqR1 : w6.cell? ⟨w.heap.size, 1, none⟩ = some (.int .i64 0) := by rw [Blk.cell qR6]; rfl
      have fqR0 := Blk.free qR6 0
      have fqR1 := Blk.free qR6 1
      have lqR := Blk.lt qR6
      have hRg : w.heap.size ≠ g := by omega
      go_wp2
      exact bodyPost_ret (v := .agg #[.int .i64 y, .int .i64 t]) (by simp [results, Try.results71, go_sem, cqR0, fqR0, cqR1, fqR1]) rfl ⟨y, t, rfl, ((k6.set (by first | omega | (simp only; omega)) _).set (by first | omega | (simp only; omega)) _), _, by omega, ((r6.set (by have := r6.Bg; first | omega | (simp only; omega)) (by first | omega | (simp only; omega)) _).set (by have := r6.Bg; first | omega | (simp only; omega)) (by first | omega | (simp only; omega)) _)⟩
    · go_wp2_with fail
      refine (pick_fr _ _ _ _ _ _ _ _ r6 (by omega)).mono ?_
      rintro e w7 ⟨c, rfl, ⟨c0, c1, _⟩, o7, r7⟩
      have k7 := (k6).trans (Onb.of_onl o7)
      have qR7 := (qR6).onl o7 (by omega)
      have qP7 := (qP6).onl o7 (by omega)
      have hg7 := r7.gl
      have c1 := c1 (by omega)
      clear r6 k6 o7 qR6 qP6
      rcases (show c = 0 ∨ c = 1 ∨ (¬ c = 0 ∧ ¬ c = 1) from by omega) with rfl | rfl | ⟨c2, c3⟩
      · go_upto_region 9 with fail
        have cP0 : w7.cell? ⟨P, 0, none⟩ = some (.int .i64 y) := by rw [Blk.cell qP7]; rfl
        have cP1 : w7.cell? ⟨P, 1, none⟩ = some (.int .i64 t) := by rw [Blk.cell qP7]; rfl
        have lP := qP7.lt
        have lR0 := qR7.lt
        have hBg := r7.Bg
        have hBR : B ≤ w.heap.size := by omega
        have hBP : B ≤ P := by omega
        have hRg : w.heap.size ≠ g := by omega
        have hPg2 : P ≠ g := by omega
        have hPs : w.heap.size ≤ P := by omega
        have hPR : ¬ P = w.heap.size := by omega
        have hRP : ¬ w.heap.size = P := by omega
        go_region_with (first | (go_at_call 43; refine (pick_fr _ _ ?_ ?_ ?_ ?_ ?_ (2) ?_ ?_).mono ?_; rotate_left 5; (focus (repeat (first | (with_reducible assumption) | (with_reducible refine Rd.drew ?_) | (with_reducible refine Rd.drewN ?_ _) | (with_reducible refine Rd.alloc ?_ _)))); (focus omega); rintro e w_q ⟨nq, rfl, ⟨n0, n1, _⟩, o_q, r_q⟩; have n1 := n1 (by omega); have qPq : Blk w_q P #[.int .i64 y, .int .i64 t] 95 := (by first | exact (qP7.onl o_q (by omega)) | exact (qP7.drew.onl o_q (by omega)) | exact ((qP7.alloc _).onl o_q (by omega)) | exact ((qP7.drew.alloc _).onl o_q (by omega)) | exact ((qP7.alloc _).drew.onl o_q (by omega))); have qRq : Blk w_q w.heap.size #[.int .i64 0, .int .i64 0] 95 := (by first | exact (qR7.onl o_q (by omega)) | exact (qR7.drew.onl o_q (by omega)) | exact ((qR7.alloc _).onl o_q (by omega)) | exact ((qR7.drew.alloc _).onl o_q (by omega)) | exact ((qR7.alloc _).drew.onl o_q (by omega))); have kq : Onb g w w_q := (by repeat (first | (with_reducible assumption) | (with_reducible exact Onb.refl _ _) | (with_reducible refine Onb.drew ?_) | (with_reducible refine Onb.drewN ?_ _) | (with_reducible refine Onb.alloc ?_ _) | (with_reducible refine Onb.trans ?_ (Onb.of_onl (by with_reducible assumption))) | (with_reducible refine Onb.trans ?_ (by with_reducible assumption)))); (try have lq := fun o => o_q.cell (w7.heap.size) o (by omega)); obtain ⟨u, hu, u0, u1⟩ := lit_nine n0 n1; have _hu := hu (by simp; omega); have cP0 : w_q.cell? ⟨P, 0, none⟩ = some (.int .i64 y) := (by rw [Blk.cell qPq]; rfl); have fP0 := Blk.free qPq 0; have cP1 : w_q.cell? ⟨P, 1, none⟩ = some (.int .i64 t) := (by rw [Blk.cell qPq]; rfl); have fP1 := Blk.free qPq 1; have cR0 : w_q.cell? ⟨w.heap.size, 0, none⟩ = some (.int .i64 0) := (by rw [Blk.cell qRq]; rfl); have fR0 := Blk.free qRq 0; have cR1 : w_q.cell? ⟨w.heap.size, 1, none⟩ = some (.int .i64 0) := (by rw [Blk.cell qRq]; rfl); have fR1 := Blk.free qRq 1; have lR := qRq.lt; have lPq := qPq.lt))
        all_goals
          go_wp2
          exact bodyPost_ret (v := .agg #[.int .i64 y, .int .i64 (t + u)]) (by simp [results, Try.results71, go_sem, cR0, fR0, cR1, fR1, lR, lPq, cP0, cP1, fP0, fP1]) rfl ⟨y, t + u, rfl, by repeat (first | (with_reducible assumption) | (refine Onb.set ?_ (by first | exact Nat.le_refl _ | exact hPs) _) | (with_reducible refine Onb.drew ?_) | (with_reducible refine Onb.alloc ?_ _)), p6 + 1 + 1, by omega, by repeat (first | (with_reducible assumption) | (refine Rd.set ?_ (by first | exact hBR | exact hBP) (by first | exact hRg | exact hPg2) _) | (with_reducible refine Rd.drew ?_) | (with_reducible refine Rd.alloc ?_ _))⟩
      · go_wp2_with fail
        refine (pick_fr _ _ _ _ _ _ _ _ (r7.alloc _) (by omega)).mono ?_
        rintro e w8 ⟨n, rfl, ⟨n0, n1, _⟩, o8, r8⟩
        have k8 := ((k7.alloc _)).trans (Onb.of_onl o8)
        have qR8 := ((qR7.alloc _)).onl o8 (by omega)
        have qP8 := ((qP7.alloc _)).onl o8 (by omega)
        have hg8 := r8.gl
        have n1 := n1 (by omega)
        obtain ⟨un, _, hun⟩ := lit_at (w := w8) (b := w7.heap.size) (xs := [-22, 22]) ((o8.block _ (by omega)).trans (heap_alloc_new w7 _)) n0 n1
        clear r7 k7 o8 qR7 qP7
        have cqP0 : w8.cell? ⟨P, 0, none⟩ = some (.int .i64 y) := by rw [Blk.cell qP8]; rfl
        have cqP1 : w8.cell? ⟨P, 1, none⟩ = some (.int .i64 t) := by rw [Blk.cell qP8]; rfl
        have fqP0 := Blk.free qP8 0
        have fqP1 := Blk.free qP8 1
        have lqP := Blk.lt qP8
        have hPs : w.heap.size ≤ P := by omega
        go_upto_region 12 with fail
        have qP9 : Blk (w8.setCell ⟨P, 0, none⟩ (.int .i64 un)) P #[.int .i64 un, .int .i64 t] 95 := qP8.s20
        have qR9 : Blk (w8.setCell ⟨P, 0, none⟩ (.int .i64 un)) w.heap.size #[.int .i64 0, .int .i64 0] 95 := qR8.off (by first | omega | (simp only; omega)) _
        have k9 : Onb g w (w8.setCell ⟨P, 0, none⟩ (.int .i64 un)) := k8.set (by first | omega | (simp only; omega)) _
        have r9 : Rd (w8.setCell ⟨P, 0, none⟩ (.int .i64 un)) g B A len cap _ := r8.set (by have := r8.Bg; first | omega | (simp only; omega)) (by first | omega | (simp only; omega)) _
        clear qP8 qR8 k8 r8 cqP0 cqP1 fqP0 fqP1 lqP
        generalize (w8.setCell ⟨P, 0, none⟩ (.int .i64 un)) = w9 at *
        have hg9 := r9.gl
        have cqP0 : w9.cell? ⟨P, 0, none⟩ = some (.int .i64 un) := by rw [Blk.cell qP9]; rfl
        have cqP1 : w9.cell? ⟨P, 1, none⟩ = some (.int .i64 t) := by rw [Blk.cell qP9]; rfl
        have lqP := Blk.lt qP9
        have cqR0 : w9.cell? ⟨w.heap.size, 0, none⟩ = some (.int .i64 0) := by rw [Blk.cell qR9]; rfl
        have cqR1 : w9.cell? ⟨w.heap.size, 1, none⟩ = some (.int .i64 0) := by rw [Blk.cell qR9]; rfl
        have fqR0 := Blk.free qR9 0
        have fqR1 := Blk.free qR9 1
        have lqR := Blk.lt qR9
        have hRg : w.heap.size ≠ g := by omega
        go_wp2
        exact bodyPost_ret (v := .agg #[.int .i64 un, .int .i64 t]) (by simp [results, Try.results71, go_sem, cqR0, fqR0, cqR1, fqR1]) rfl ⟨un, t, rfl, ((k9.set (by first | omega | (simp only; omega)) _).set (by first | omega | (simp only; omega)) _), _, by omega, ((r9.set (by have := r9.Bg; first | omega | (simp only; omega)) (by first | omega | (simp only; omega)) _).set (by have := r9.Bg; first | omega | (simp only; omega)) (by first | omega | (simp only; omega)) _)⟩
      · go_wp2_with fail
        refine (pick_fr _ _ _ _ _ _ _ _ (r7.alloc _) (by omega)).mono ?_
        rintro e w8 ⟨n, rfl, ⟨n0, n1, _⟩, o8, r8⟩
        have k8 := ((k7.alloc _)).trans (Onb.of_onl o8)
        have qR8 := ((qR7.alloc _)).onl o8 (by omega)
        have qP8 := ((qP7.alloc _)).onl o8 (by omega)
        have hg8 := r8.gl
        have n1 := n1 (by omega)
        obtain ⟨un, _, hun⟩ := lit_at (w := w8) (b := w7.heap.size) (xs := [61, -61, 9223372036854775807]) ((o8.block _ (by omega)).trans (heap_alloc_new w7 _)) n0 n1
        clear r7 k7 o8 qR7 qP7
        have cqP0 : w8.cell? ⟨P, 0, none⟩ = some (.int .i64 y) := by rw [Blk.cell qP8]; rfl
        have cqP1 : w8.cell? ⟨P, 1, none⟩ = some (.int .i64 t) := by rw [Blk.cell qP8]; rfl
        have fqP0 := Blk.free qP8 0
        have fqP1 := Blk.free qP8 1
        have lqP := Blk.lt qP8
        have hPs : w.heap.size ≤ P := by omega
        go_upto_region 12 with fail
        have qP9 : Blk (w8.setCell ⟨P, 1, none⟩ (.int .i64 un)) P #[.int .i64 y, .int .i64 un] 95 := qP8.s21
        have qR9 : Blk (w8.setCell ⟨P, 1, none⟩ (.int .i64 un)) w.heap.size #[.int .i64 0, .int .i64 0] 95 := qR8.off (by first | omega | (simp only; omega)) _
        have k9 : Onb g w (w8.setCell ⟨P, 1, none⟩ (.int .i64 un)) := k8.set (by first | omega | (simp only; omega)) _
        have r9 : Rd (w8.setCell ⟨P, 1, none⟩ (.int .i64 un)) g B A len cap _ := r8.set (by have := r8.Bg; first | omega | (simp only; omega)) (by first | omega | (simp only; omega)) _
        clear qP8 qR8 k8 r8 cqP0 cqP1 fqP0 fqP1 lqP
        generalize (w8.setCell ⟨P, 1, none⟩ (.int .i64 un)) = w9 at *
        have hg9 := r9.gl
        have cqP0 : w9.cell? ⟨P, 0, none⟩ = some (.int .i64 y) := by rw [Blk.cell qP9]; rfl
        have cqP1 : w9.cell? ⟨P, 1, none⟩ = some (.int .i64 un) := by rw [Blk.cell qP9]; rfl
        have lqP := Blk.lt qP9
        have cqR0 : w9.cell? ⟨w.heap.size, 0, none⟩ = some (.int .i64 0) := by rw [Blk.cell qR9]; rfl
        have cqR1 : w9.cell? ⟨w.heap.size, 1, none⟩ = some (.int .i64 0) := by rw [Blk.cell qR9]; rfl
        have fqR0 := Blk.free qR9 0
        have fqR1 := Blk.free qR9 1
        have lqR := Blk.lt qR9
        have hRg : w.heap.size ≠ g := by omega
        go_wp2
        exact bodyPost_ret (v := .agg #[.int .i64 y, .int .i64 un]) (by simp [results, Try.results71, go_sem, cqR0, fqR0, cqR1, fqR1]) rfl ⟨y, un, rfl, ((k9.set (by first | omega | (simp only; omega)) _).set (by first | omega | (simp only; omega)) _), _, by omega, ((r9.set (by have := r9.Bg; first | omega | (simp only; omega)) (by first | omega | (simp only; omega)) _).set (by have := r9.Bg; first | omega | (simp only; omega)) (by first | omega | (simp only; omega)) _)⟩
end
section
open Go.RowKit

def DrX (n : Nat) (w : World) (g B p : Nat) (A : Option Addr) (len cap : Nat) (e : Ending) (w' : World) : Prop :=
  ∃ (v : Option Addr) (c : Nat) (l : List Pi), e = .returned (.slice v n c) ∧ l.length = n ∧ l.length ≤ c ∧ c ≤ maxLen ∧ StP w' w.heap.size v l ∧ Onb g w w' ∧ ∃ p', p' ≤ p + 60 ∧ Rd w' g B A len cap p'
set_option maxRecDepth 20000 in
set_option maxHeartbeats 8000000 in
theorem next_any (w : World) (g B p : Nat) (A : Option Addr) (len cap : Nat) (Aa : Option Addr) (ca : Nat) (l : List Pi) (h : Rd w g B A len cap p) (hp : p < 100000) (hl : l.length ≤ 8) (hr : RowPi w w.heap.size Aa l) (hne : ∀ ad, Aa = some ad → 0 < l.length → ad.block ≠ g) :
    Calls Try.prog 44 #[.pointer (some ⟨g, 0, none⟩), .slice Aa l.length ca] w (DrX l.length w g B p A len cap) := by
  have hbq : 0 < l.length → ∃ bb bo, Aa = some ⟨bb, bo, none⟩ ∧ bb ≠ g ∧ ∀ i, i < l.length → w.cell? ⟨bb, bo + i * 3, none⟩ = some (.int .i64 (atPi l i).step) ∧ w.cell? ⟨bb, bo + i * 3 + 1, none⟩ = some (.int .i64 (atPi l i).alter) ∧ w.cell? ⟨bb, bo + i * 3 + 2, none⟩ = some (.int .i64 (atPi l i).octave) := fun h0 => by
    obtain ⟨b, o, e, _, hc⟩ := hr h0
    exact ⟨b, o, e, hne _ e h0, hc⟩
  have hbr : ∃ bb bo, (0 < l.length → Aa = some ⟨bb, bo, none⟩) ∧ bb ≠ g ∧ ∀ i, i < l.length → w.cell? ⟨bb, bo + i * 3, none⟩ = some (.int .i64 (atPi l i).step) ∧ w.cell? ⟨bb, bo + i * 3 + 1, none⟩ = some (.int .i64 (atPi l i).alter) ∧ w.cell? ⟨bb, bo + i * 3 + 2, none⟩ = some (.int .i64 (atPi l i).octave) := by
    by_cases h0 : 0 < l.length
    · obtain ⟨b, o, e, h1, h2⟩ := hbq h0
      exact ⟨b, o, fun _ => e, h1, h2⟩
    · exact ⟨g + 1, 0, fun z => absurd z h0, by omega, fun i hi => absurd hi (by omega)⟩
  obtain ⟨bb, bo, hA, hbg, hbc⟩ := hbr
  clear hbq hr hne
  have hg := h.gl
  obtain ⟨i0, hi0, hz0, hz1, hz2⟩ := info_parts infoPi
  have own0 : (w.alloc (.cells #[] 62)).ownsRow w.heap.size 62 3 (.slice (some ⟨w.heap.size, 0, none⟩) 0 0) ([] : List Pi).length (flat csPi []) := World.ownsRow_lit w #[] 0 (Nat.le_refl _) (by simp [maxLen]) rfl
  have k0 : Onb g w (w.alloc (.cells #[] 62)) := Onb.of_bel (bel_al (bel_refl w) _)
  have r0 := h.alloc (.cells #[] 62)
  have hBg := h.Bg
  go_enter Try.func44, Try.ntmps44
  go_wp2_with fail
  generalize (w.alloc (.cells #[] 62)) = w1 at *
  refine (way_any _ _ _ _ _ _ _ _ r0 (by omega)).mono ?_
  rintro e w2 ⟨st, ha, rfl, o2, p2, hp2, r2⟩
  replace own0 := own_onb own0 o2 hg
  replace k0 := k0.trans o2
  replace own0 := own0.alloc (.cells #[.int .i64 st, .int .i64 ha] 95)
  replace k0 := k0.alloc (.cells #[.int .i64 st, .int .i64 ha] 95)
  replace r0 := r2.alloc (.cells #[.int .i64 st, .int .i64 ha] 95)
  have bI0 : Blk (w2.alloc (.cells #[.int .i64 st, .int .i64 ha] 95)) w2.heap.size #[.int .i64 st, .int .i64 ha] 95 := Blk.new w2 _ _
  have hIg : w2.heap.size ≠ g := by have := r2.gl; omega
  clear o2
  go_upto_region 3 with fail
  have hIs : w2.heap.size < (w2.alloc (.cells #[.int .i64 st, .int .i64 ha] 95)).heap.size := bI0.lt
  generalize (w2.alloc (.cells #[.int .i64 st, .int .i64 ha] 95)) = w3 at *
  have hsI : w.heap.size ≤ w3.heap.size := k0.size
  generalize w2.heap.size = IV at *
  go_wp2_with fail
  go_loopw [5, 7, 8, 9] (fun o i _ _ wr => ∃ (k : Nat) (acc : List Pi) (pk : Nat), k ≤ l.length ∧ acc.length = k ∧ i = .int .i64 k ∧ wr.ownsRow w.heap.size 62 3 o acc.length (flat csPi acc) ∧ Onb g w wr ∧ Blk wr IV #[.int .i64 st, .int .i64 ha] 95 ∧ pk ≤ p + 6 + 6 * k ∧ Rd wr g B A len cap pk) (fun _ i _ _ _ => l.length - (intOf i).toNat)
  case atStart => exact ⟨0, [], p2, by omega, rfl, rfl, own0, k0, bI0, by omega, r0⟩
  case round =>
    obtain ⟨k, acc, pk, hk, hacc, rfl, hown, hkO, bI, hpk, rk⟩ := hrel
    clear own0 k0 r0 bI0
    by_cases hlt : k < l.length
    · have hA1 := hA (by omega)
      subst hA1
      obtain ⟨d0, d1, d2⟩ := hbc k hlt
      have hkl : (k : Int) < (l.length : Int) := by omega
      have hk0 : (0 : Int) ≤ (k : Int) := by omega
      obtain ⟨p, hp⟩ : ∃ p, atPi l k = p := ⟨_, rfl⟩
      rw [hp] at d0 d1 d2
      obtain ⟨p0, p1, p2⟩ := p
      simp only at d0 d1 d2
      clear hp
      have hgr : g < wr.heap.size := rk.gl
      have d0 := hkO.at d0 hbg
      have d1 := hkO.at d1 hbg
      have d2 := hkO.at d2 hbg
      have v0 : wr.cell? ⟨IV, 0, none⟩ = some (.int .i64 st) := by rw [Blk.cell bI]; rfl
      have v1 : wr.cell? ⟨IV, 1, none⟩ = some (.int .i64 ha) := by rw [Blk.cell bI]; rfl
      obtain ⟨x0, hx0⟩ : ∃ z, adS p0 p1 p2 st ha = z := ⟨_, rfl⟩
      obtain ⟨x1, hx1⟩ : ∃ z, adA p0 p1 p2 st ha = z := ⟨_, rfl⟩
      obtain ⟨x2, hx2⟩ : ∃ z, adO p0 p1 p2 st ha = z := ⟨_, rfl⟩
      obtain ⟨xv, hxv⟩ : ∃ z, adB p0 p1 p2 st ha = z := ⟨_, rfl⟩
      have HA0 := Lib.hid hx0
      have HA1 := Lib.hid hx1
      have HA2 := Lib.hid hx2
      have HA3 := Lib.hid hxv
      obtain ⟨ky, hky⟩ : ∃ z, pkI p0 p1 p2 = z := ⟨_, rfl⟩
      have hkb := pkI_bd p0 p1 p2
      rw [hky] at hkb
      obtain ⟨kb0, kb1⟩ := hkb
      have HKY := Lib.hid hky
      have HACC := Lib.hid hacc
      clear hx0 hx1 hx2 hxv hky hacc
      have hIlt := bI.lt
      have d0w := d0
      have d1w := d1
      have d2w := d2
      go_upto_region 6 with fail
      go_cut [8, 9] (fun u8 u9 wx => ∃ (X : Nat) (s0 a0 o0 : Int), u8 = .pointer (some ⟨X, 0, none⟩) ∧ u9 = .bool xv ∧ Onb g wr wx ∧ wr.heap.size ≤ X ∧ Blk wx X #[.int .i64 s0, .int .i64 a0, .int .i64 o0] 62 ∧ Blk wx IV #[.int .i64 st, .int .i64 ha] 95 ∧ Rd wx g B A len cap pk)
      case first =>
        refine region_slots (by kernel_rfl) (by kernel_rfl) [20, 21, 22, 23, 24, 25, 19, 26, 27, 8, 9] (fun D us W => ∃ u20 u21 u22 u23 u24 u25 u19 u26 u27 u8 u9 : Value, us = [u20, u21, u22, u23, u24, u25, u19, u26, u27, u8, u9] ∧ (Onb g wr W ∧ Rd W g B A len cap pk ∧ Blk W IV #[.int .i64 st, .int .i64 ha] 95 ∧ (D 9 = true → ∃ (b : Nat) (s a o : Int), u8 = .pointer (some ⟨b, 0, none⟩) ∧ wr.heap.size ≤ b ∧ Blk W b #[.int .i64 s, .int .i64 a, .int .i64 o] 62)) ∧ (D 0 = true → u20 = .slice (some ⟨bb, bo, none⟩) l.length ca) ∧ (D 1 = true → u21 = .int .i64 k) ∧ (D 2 = true → u22 = .pointer (some ⟨bb, bo + k * 3, none⟩)) ∧ (D 3 = true → u23 = .agg #[.int .i64 p0, .int .i64 p1, .int .i64 p2]) ∧ (D 4 = true → u24 = .agg #[.int .i64 st, .int .i64 ha]) ∧ (D 5 = true → u25 = .tuple #[.agg #[.int .i64 x0, .int .i64 x1, .int .i64 x2], .bool xv]) ∧ (D 6 = true → u19 = .tuple #[.agg #[.int .i64 x0, .int .i64 x1, .int .i64 x2], .bool xv]) ∧ (D 7 = true → u26 = .agg #[.int .i64 x0, .int .i64 x1, .int .i64 x2]) ∧ (D 8 = true → u27 = .bool xv) ∧ (D 9 = true → True) ∧ (D 11 = true → u9 = .bool xv)) ?_ ?_ ?_
        · intro us hu
          obtain ⟨u20, u21, u22, u23, u24, u25, u19, u26, u27, u8, u9, rfl⟩ : ∃ u20 u21 u22 u23 u24 u25 u19 u26 u27 u8 u9, us = [u20, u21, u22, u23, u24, u25, u19, u26, u27, u8, u9] := by
            match us, hu with
            | [u20, u21, u22, u23, u24, u25, u19, u26, u27, u8, u9], _ => exact ⟨_, _, _, _, _, _, _, _, _, _, _, rfl⟩
          exact ⟨_, _, _, _, _, _, _, _, _, _, _, rfl, ⟨(Onb.refl g wr).drew, rk.drew, bI.drew, fun h => absurd h (by simp)⟩, fun h => absurd h (by simp), fun h => absurd h (by simp), fun h => absurd h (by simp), fun h => absurd h (by simp), fun h => absurd h (by simp), fun h => absurd h (by simp), fun h => absurd h (by simp), fun h => absurd h (by simp), fun h => absurd h (by simp), fun h => absurd h (by simp), fun h => absurd h (by simp)⟩
        · rintro i o hi ho D us W hu hd hdep ⟨u20, u21, u22, u23, u24, u25, u19, u26, u27, u8, u9, rfl, hJ, f0, f1, f2, f3, f4, f5, f6, f7, f8, f9, f11⟩
          have hi' : i < 12 := by simpa using hi
          clear hi hu
          rcases (show i = 0 ∨ i = 1 ∨ i = 2 ∨ i = 3 ∨ i = 4 ∨ i = 5 ∨ i = 6 ∨ i = 7 ∨ i = 8 ∨ i = 9 ∨ i = 10 ∨ i = 11 from by omega) with rfl | rfl | rfl | rfl | rfl | rfl | rfl | rfl | rfl | rfl | rfl | rfl
          · simp only [List.getElem?_cons_zero, List.getElem?_cons_succ, Option.some.injEq] at ho
            subst ho
            clear hi'
            clear hdep
            have hI := hJ
            refine wpOp_step rfl (fun K hK => ?_)
            simp only [List.zip_cons_cons, List.zip_nil_right, puts]
            have Hf0 := Lib.hid f0
            have Hf1 := Lib.hid f1
            have Hf2 := Lib.hid f2
            have Hf3 := Lib.hid f3
            have Hf4 := Lib.hid f4
            have Hf5 := Lib.hid f5
            have Hf6 := Lib.hid f6
            have Hf7 := Lib.hid f7
            have Hf8 := Lib.hid f8
            have Hf9 := Lib.hid f9
            have Hf11 := Lib.hid f11
            have HhK := Lib.hid hK
            have Hhd := Lib.hid hd
            have HhJ := Lib.hid hJ
            clear hd hK hJ f0 f1 f2 f3 f4 f5 f6 f7 f8 f9 f11
            go_simp
            have f0 := Hf0.out
            have f1 := Hf1.out
            have f2 := Hf2.out
            have f3 := Hf3.out
            have f4 := Hf4.out
            have f5 := Hf5.out
            have f6 := Hf6.out
            have f7 := Hf7.out
            have f8 := Hf8.out
            have f9 := Hf9.out
            have f11 := Hf11.out
            have hK := HhK.out
            have hd := Hhd.out
            have hJ := HhJ.out
            exact hK _ _ ⟨[(.slice (some ⟨bb, bo, none⟩) l.length ca), u21, u22, u23, u24, u25, u19, u26, u27, u8, u9], rfl, by kernel_rfl, _, _, _, _, _, _, _, _, _, _, _, rfl, hI, (fun _ => rfl), f1, f2, f3, f4, f5, f6, f7, f8, f9, f11⟩
          · simp only [List.getElem?_cons_zero, List.getElem?_cons_succ, Option.some.injEq] at ho
            subst ho
            clear hi'
            clear hdep
            have hI := hJ
            refine wpOp_step rfl (fun K hK => ?_)
            simp only [List.zip_cons_cons, List.zip_nil_right, puts]
            have Hf0 := Lib.hid f0
            have Hf1 := Lib.hid f1
            have Hf2 := Lib.hid f2
            have Hf3 := Lib.hid f3
            have Hf4 := Lib.hid f4
            have Hf5 := Lib.hid f5
            have Hf6 := Lib.hid f6
            have Hf7 := Lib.hid f7
            have Hf8 := Lib.hid f8
            have Hf9 := Lib.hid f9
            have Hf11 := Lib.hid f11
            have HhK := Lib.hid hK
            have Hhd := Lib.hid hd
            have HhJ := Lib.hid hJ
            clear hd hK hJ f0 f1 f2 f3 f4 f5 f6 f7 f8 f9 f11
            go_simp
            have f0 := Hf0.out
            have f1 := Hf1.out
            have f2 := Hf2.out
            have f3 := Hf3.out
            have f4 := Hf4.out
            have f5 := Hf5.out
            have f6 := Hf6.out
            have f7 := Hf7.out
            have f8 := Hf8.out
            have f9 := Hf9.out
            have f11 := Hf11.out
            have hK := HhK.out
            have hd := Hhd.out
            have hJ := HhJ.out
            exact hK _ _ ⟨[u20, (.int .i64 k), u22, u23, u24, u25, u19, u26, u27, u8, u9], rfl, by kernel_rfl, _, _, _, _, _, _, _, _, _, _, _, rfl, hI, f0, (fun _ => rfl), f2, f3, f4, f5, f6, f7, f8, f9, f11⟩
          · simp only [List.getElem?_cons_zero, List.getElem?_cons_succ, Option.some.injEq] at ho
            subst ho
            clear hi'
            have d0 : D 0 = true := hdep ⟨0, Ground.data⟩ (by simp) rfl
            have d1 : D 1 = true := hdep ⟨1, Ground.data⟩ (by simp) rfl
            clear hdep
            have hI := hJ
            obtain rfl := f0 d0
            obtain rfl := f1 d1
            refine wpOp_step rfl (fun K hK => ?_)
            simp only [List.zip_cons_cons, List.zip_nil_right, puts]
            have Hf0 := Lib.hid f0
            have Hf1 := Lib.hid f1
            have Hf2 := Lib.hid f2
            have Hf3 := Lib.hid f3
            have Hf4 := Lib.hid f4
            have Hf5 := Lib.hid f5
            have Hf6 := Lib.hid f6
            have Hf7 := Lib.hid f7
            have Hf8 := Lib.hid f8
            have Hf9 := Lib.hid f9
            have Hf11 := Lib.hid f11
            have HhK := Lib.hid hK
            have Hhd := Lib.hid hd
            have HhJ := Lib.hid hJ
            clear hd hK hJ f0 f1 f2 f3 f4 f5 f6 f7 f8 f9 f11
            go_simp
            have f0 := Hf0.out
            have f1 := Hf1.out
            have f2 := Hf2.out
            have f3 := Hf3.out
            have f4 := Hf4.out
            have f5 := Hf5.out
            have f6 := Hf6.out
            have f7 := Hf7.out
            have f8 := Hf8.out
            have f9 := Hf9.out
            have f11 := Hf11.out
            have hK := HhK.out
            have hd := Hhd.out
            have hJ := HhJ.out
            exact hK _ _ ⟨[(.slice (some ⟨bb, bo, none⟩) l.length ca), (.int .i64 k), (.pointer (some ⟨bb, bo + k * 3, none⟩)), u23, u24, u25, u19, u26, u27, u8, u9], rfl, by kernel_rfl, _, _, _, _, _, _, _, _, _, _, _, rfl, hI, (fun _ => rfl), (fun _ => rfl), (fun _ => rfl), f3, f4, f5, f6, f7, f8, f9, f11⟩
          · simp only [List.getElem?_cons_zero, List.getElem?_cons_succ, Option.some.injEq] at ho
            subst ho
            clear hi'
            have d2 : D 2 = true := hdep ⟨2, Ground.data⟩ (by simp) rfl
            clear hdep
            have hI := hJ
            obtain rfl := f2 d2
            have e0 := hI.1.at d0w hbg
            have e1 := hI.1.at d1w hbg
            have e2 := hI.1.at d2w hbg
            refine wpOp_step rfl (fun K hK => ?_)
            simp only [List.zip_cons_cons, List.zip_nil_right, puts]
            have Hf0 := Lib.hid f0
            have Hf1 := Lib.hid f1
            have Hf2 := Lib.hid f2
            have Hf3 := Lib.hid f3
            have Hf4 := Lib.hid f4
            have Hf5 := Lib.hid f5
            have Hf6 := Lib.hid f6
            have Hf7 := Lib.hid f7
            have Hf8 := Lib.hid f8
            have Hf9 := Lib.hid f9
            have Hf11 := Lib.hid f11
            have HhK := Lib.hid hK
            have Hhd := Lib.hid hd
            have HhJ := Lib.hid hJ
            clear hd hK hJ f0 f1 f2 f3 f4 f5 f6 f7 f8 f9 f11
            go_simp
            have f0 := Hf0.out
            have f1 := Hf1.out
            have f2 := Hf2.out
            have f3 := Hf3.out
            have f4 := Hf4.out
            have f5 := Hf5.out
            have f6 := Hf6.out
            have f7 := Hf7.out
            have f8 := Hf8.out
            have f9 := Hf9.out
            have f11 := Hf11.out
            have hK := HhK.out
            have hd := Hhd.out
            have hJ := HhJ.out
            exact hK _ _ ⟨[u20, u21, (.pointer (some ⟨bb, bo + k * 3, none⟩)), (.agg #[.int .i64 p0, .int .i64 p1, .int .i64 p2]), u24, u25, u19, u26, u27, u8, u9], rfl, by kernel_rfl, _, _, _, _, _, _, _, _, _, _, _, rfl, hI, f0, f1, (fun _ => rfl), (fun _ => rfl), f4, f5, f6, f7, f8, f9, f11⟩
          · simp only [List.getElem?_cons_zero, List.getElem?_cons_succ, Option.some.injEq] at ho
            subst ho
            clear hi'
            clear hdep
            have hI := hJ
            have e0 : W.cell? ⟨IV, 0, none⟩ = some (.int .i64 st) := by rw [Blk.cell hI.2.2.1]; rfl
            have e1 : W.cell? ⟨IV, 1, none⟩ = some (.int .i64 ha) := by rw [Blk.cell hI.2.2.1]; rfl
            refine wpOp_step rfl (fun K hK => ?_)
            simp only [List.zip_cons_cons, List.zip_nil_right, puts]
            have Hf0 := Lib.hid f0
            have Hf1 := Lib.hid f1
            have Hf2 := Lib.hid f2
            have Hf3 := Lib.hid f3
            have Hf4 := Lib.hid f4
            have Hf5 := Lib.hid f5
            have Hf6 := Lib.hid f6
            have Hf7 := Lib.hid f7
            have Hf8 := Lib.hid f8
            have Hf9 := Lib.hid f9
            have Hf11 := Lib.hid f11
            have HhK := Lib.hid hK
            have Hhd := Lib.hid hd
            have HhJ := Lib.hid hJ
            clear hd hK hJ f0 f1 f2 f3 f4 f5 f6 f7 f8 f9 f11
            go_simp
            have f0 := Hf0.out
            have f1 := Hf1.out
            have f2 := Hf2.out
            have f3 := Hf3.out
            have f4 := Hf4.out
            have f5 := Hf5.out
            have f6 := Hf6.out
            have f7 := Hf7.out
            have f8 := Hf8.out
            have f9 := Hf9.out
            have f11 := Hf11.out
            have hK := HhK.out
            have hd := Hhd.out
            have hJ := HhJ.out
            exact hK _ _ ⟨[u20, u21, u22, u23, (.agg #[.int .i64 st, .int .i64 ha]), u25, u19, u26, u27, u8, u9], rfl, by kernel_rfl, _, _, _, _, _, _, _, _, _, _, _, rfl, hI, f0, f1, f2, f3, (fun _ => rfl), f5, f6, f7, f8, f9, f11⟩
          · simp only [List.getElem?_cons_zero, List.getElem?_cons_succ, Option.some.injEq] at ho
            subst ho
            clear hi'
            have d3 : D 3 = true := hdep ⟨3, Ground.data⟩ (by simp) rfl
            have d4 : D 4 = true := hdep ⟨4, Ground.data⟩ (by simp) rfl
            clear hdep
            have hI := hJ
            obtain rfl := f3 d3
            obtain rfl := f4 d4
            obtain ⟨kO, rd, bIW, h3⟩ := hI
            refine wpOp_step rfl (fun K hK => ?_)
            simp only [List.zip_cons_cons, List.zip_nil_right, puts]
            have Hf0 := Lib.hid f0
            have Hf1 := Lib.hid f1
            have Hf2 := Lib.hid f2
            have Hf3 := Lib.hid f3
            have Hf4 := Lib.hid f4
            have Hf5 := Lib.hid f5
            have Hf6 := Lib.hid f6
            have Hf7 := Lib.hid f7
            have Hf8 := Lib.hid f8
            have Hf9 := Lib.hid f9
            have Hf11 := Lib.hid f11
            have HhK := Lib.hid hK
            have Hhd := Lib.hid hd
            have HhJ := Lib.hid hJ
            clear hd hK hJ f0 f1 f2 f3 f4 f5 f6 f7 f8 f9 f11
            go_simp
            go_wp2_with (go_at_call 72; refine (sad_val HA0.out HA1.out HA2.out HA3.out _).mono ?_; rintro e w9 ⟨rfl, b9⟩)
            have f0 := Hf0.out
            have f1 := Hf1.out
            have f2 := Hf2.out
            have f3 := Hf3.out
            have f4 := Hf4.out
            have f5 := Hf5.out
            have f6 := Hf6.out
            have f7 := Hf7.out
            have f8 := Hf8.out
            have f9 := Hf9.out
            have f11 := Hf11.out
            have hK := HhK.out
            have hd := Hhd.out
            have hJ := HhJ.out
            exact hK _ _ ⟨[u20, u21, u22, (.agg #[.int .i64 p0, .int .i64 p1, .int .i64 p2]), (.agg #[.int .i64 st, .int .i64 ha]), (.tuple #[.agg #[.int .i64 x0, .int .i64 x1, .int .i64 x2], .bool xv]), u19, u26, u27, u8, u9], rfl, by kernel_rfl, _, _, _, _, _, _, _, _, _, _, _, rfl, ⟨kO.trans (Onb.of_bel (g := g) b9), rd.below b9, bIW.below b9, (fun h => by obtain ⟨b, s, a, o, e, hl, hb⟩ := h3 h; exact ⟨b, s, a, o, e, hl, hb.onb (Onb.of_bel (g := g) b9) (by omega)⟩)⟩, f0, f1, f2, (fun _ => rfl), (fun _ => rfl), (fun _ => rfl), f6, f7, f8, f9, f11⟩
          · simp only [List.getElem?_cons_zero, List.getElem?_cons_succ, Option.some.injEq] at ho
            subst ho
            clear hi'
            have d5 : D 5 = true := hdep ⟨5, Ground.data⟩ (by simp) rfl
            clear hdep
            have hI := hJ
            obtain rfl := f5 d5
            refine wpOp_step rfl (fun K hK => ?_)
            simp only [List.zip_cons_cons, List.zip_nil_right, puts]
            have Hf0 := Lib.hid f0
            have Hf1 := Lib.hid f1
            have Hf2 := Lib.hid f2
            have Hf3 := Lib.hid f3
            have Hf4 := Lib.hid f4
            have Hf5 := Lib.hid f5
            have Hf6 := Lib.hid f6
            have Hf7 := Lib.hid f7
            have Hf8 := Lib.hid f8
            have Hf9 := Lib.hid f9
            have Hf11 := Lib.hid f11
            have HhK := Lib.hid hK
            have Hhd := Lib.hid hd
            have HhJ := Lib.hid hJ
            clear hd hK hJ f0 f1 f2 f3 f4 f5 f6 f7 f8 f9 f11
            go_simp
            have f0 := Hf0.out
            have f1 := Hf1.out
            have f2 := Hf2.out
            have f3 := Hf3.out
            have f4 := Hf4.out
            have f5 := Hf5.out
            have f6 := Hf6.out
            have f7 := Hf7.out
            have f8 := Hf8.out
            have f9 := Hf9.out
            have f11 := Hf11.out
            have hK := HhK.out
            have hd := Hhd.out
            have hJ := HhJ.out
            exact hK _ _ ⟨[u20, u21, u22, u23, u24, (.tuple #[.agg #[.int .i64 x0, .int .i64 x1, .int .i64 x2], .bool xv]), (.tuple #[.agg #[.int .i64 x0, .int .i64 x1, .int .i64 x2], .bool xv]), u26, u27, u8, u9], rfl, by kernel_rfl, _, _, _, _, _, _, _, _, _, _, _, rfl, hI, f0, f1, f2, f3, f4, (fun _ => rfl), (fun _ => rfl), f7, f8, f9, f11⟩
          · simp only [List.getElem?_cons_zero, List.getElem?_cons_succ, Option.some.injEq] at ho
            subst ho
            clear hi'
            have d6 : D 6 = true := hdep ⟨6, Ground.data⟩ (by simp) rfl
            clear hdep
            have hI := hJ
            obtain rfl := f6 d6
            refine wpOp_step rfl (fun K hK => ?_)
            simp only [List.zip_cons_cons, List.zip_nil_right, puts]
            have Hf0 := Lib.hid f0
            have Hf1 := Lib.hid f1
            have Hf2 := Lib.hid f2
            have Hf3 := Lib.hid f3
            have Hf4 := Lib.hid f4
            have Hf5 := Lib.hid f5
            have Hf6 := Lib.hid f6
            have Hf7 := Lib.hid f7
            have Hf8 := Lib.hid f8
            have Hf9 := Lib.hid f9
            have Hf11 := Lib.hid f11
            have HhK := Lib.hid hK
            have Hhd := Lib.hid hd
            have HhJ := Lib.hid hJ
            clear hd hK hJ f0 f1 f2 f3 f4 f5 f6 f7 f8 f9 f11
            go_simp
            have f0 := Hf0.out
            have f1 := Hf1.out
            have f2 := Hf2.out
            have f3 := Hf3.out
            have f4 := Hf4.out
            have f5 := Hf5.out
            have f6 := Hf6.out
            have f7 := Hf7.out
            have f8 := Hf8.out
            have f9 := Hf9.out
            have f11 := Hf11.out
            have hK := HhK.out
            have hd := Hhd.out
            have hJ := HhJ.out
            exact hK _ _ ⟨[u20, u21, u22, u23, u24, u25, (.tuple #[.agg #[.int .i64 x0, .int .i64 x1, .int .i64 x2], .bool xv]), (.agg #[.int .i64 x0, .int .i64 x1, .int .i64 x2]), u27, u8, u9], rfl, by kernel_rfl, _, _, _, _, _, _, _, _, _, _, _, rfl, hI, f0, f1, f2, f3, f4, f5, (fun _ => rfl), (fun _ => rfl), f8, f9, f11⟩
          · simp only [List.getElem?_cons_zero, List.getElem?_cons_succ, Option.some.injEq] at ho
            subst ho
            clear hi'
            have d6 : D 6 = true := hdep ⟨6, Ground.data⟩ (by simp) rfl
            clear hdep
            have hI := hJ
            obtain rfl := f6 d6
            refine wpOp_step rfl (fun K hK => ?_)
            simp only [List.zip_cons_cons, List.zip_nil_right, puts]
            have Hf0 := Lib.hid f0
            have Hf1 := Lib.hid f1
            have Hf2 := Lib.hid f2
            have Hf3 := Lib.hid f3
            have Hf4 := Lib.hid f4
            have Hf5 := Lib.hid f5
            have Hf6 := Lib.hid f6
            have Hf7 := Lib.hid f7
            have Hf8 := Lib.hid f8
            have Hf9 := Lib.hid f9
            have Hf11 := Lib.hid f11
            have HhK := Lib.hid hK
            have Hhd := Lib.hid hd
            have HhJ := Lib.hid hJ
            clear hd hK hJ f0 f1 f2 f3 f4 f5 f6 f7 f8 f9 f11
            go_simp
            have f0 := Hf0.out
            have f1 := Hf1.out
            have f2 := Hf2.out
            have f3 := Hf3.out
            have f4 := Hf4.out
            have f5 := Hf5.out
            have f6 := Hf6.out
            have f7 := Hf7.out
            have f8 := Hf8.out
            have f9 := Hf9.out
            have f11 := Hf11.out
            have hK := HhK.out
            have hd := Hhd.out
            have hJ := HhJ.out
            exact hK _ _ ⟨[u20, u21, u22, u23, u24, u25, (.tuple #[.agg #[.int .i64 x0, .int .i64 x1, .int .i64 x2], .bool xv]), u26, (.bool xv), u8, u9], rfl, by kernel_rfl, _, _, _, _, _, _, _, _, _, _, _, rfl, hI, f0, f1, f2, f3, f4, f5, (fun _ => rfl), f7, (fun _ => rfl), f9, f11⟩
          · simp only [List.getElem?_cons_zero, List.getElem?_cons_succ, Option.some.injEq] at ho
            subst ho
            clear hi'
            clear hdep
            have hI := hJ
            obtain ⟨kO, rd, bIW, h3⟩ := hI
            refine wpOp_step rfl (fun K hK => ?_)
            simp only [List.zip_cons_cons, List.zip_nil_right, puts]
            have Hf0 := Lib.hid f0
            have Hf1 := Lib.hid f1
            have Hf2 := Lib.hid f2
            have Hf3 := Lib.hid f3
            have Hf4 := Lib.hid f4
            have Hf5 := Lib.hid f5
            have Hf6 := Lib.hid f6
            have Hf7 := Lib.hid f7
            have Hf8 := Lib.hid f8
            have Hf9 := Lib.hid f9
            have Hf11 := Lib.hid f11
            have HhK := Lib.hid hK
            have Hhd := Lib.hid hd
            have HhJ := Lib.hid hJ
            clear hd hK hJ f0 f1 f2 f3 f4 f5 f6 f7 f8 f9 f11
            go_simp
            have f0 := Hf0.out
            have f1 := Hf1.out
            have f2 := Hf2.out
            have f3 := Hf3.out
            have f4 := Hf4.out
            have f5 := Hf5.out
            have f6 := Hf6.out
            have f7 := Hf7.out
            have f8 := Hf8.out
            have f9 := Hf9.out
            have f11 := Hf11.out
            have hK := HhK.out
            have hd := Hhd.out
            have hJ := HhJ.out
            exact hK _ _ ⟨[u20, u21, u22, u23, u24, u25, u19, u26, u27, (.pointer (some ⟨W.heap.size, 0, none⟩)), u9], rfl, by kernel_rfl, _, _, _, _, _, _, _, _, _, _, _, rfl, ⟨kO.trans (Onb.of_bel (g := g) (bel_al (bel_refl W) (.cells #[.int .i64 0, .int .i64 0, .int .i64 0] 62))), rd.alloc _, bIW.alloc _, fun _ => ⟨W.heap.size, 0, 0, 0, rfl, kO.size, Blk.new W _ _⟩⟩, f0, f1, f2, f3, f4, f5, f6, f7, f8, (fun _ => trivial), f11⟩
          · simp only [List.getElem?_cons_zero, List.getElem?_cons_succ, Option.some.injEq] at ho
            subst ho
            clear hi'
            have d9 : D 9 = true := hdep ⟨9, Ground.data⟩ (by simp) rfl
            have d7 : D 7 = true := hdep ⟨7, Ground.data⟩ (by simp) rfl
            clear hdep
            have hI := hJ
            obtain _ := f9 d9
            obtain rfl := f7 d7
            obtain ⟨kO, rd, bIW, h3⟩ := hI
            have hBg9 := rd.Bg
            have hIl9 := hIlt
            obtain ⟨bx, s0, a0, o0, rfl, hlb, hb⟩ := h3 d9
            have c0 : W.cell? ⟨bx, 0, none⟩ = some (.int .i64 s0) := by rw [Blk.cell hb]; rfl
            have c1 : W.cell? ⟨bx, 1, none⟩ = some (.int .i64 a0) := by rw [Blk.cell hb]; rfl
            have c2 : W.cell? ⟨bx, 2, none⟩ = some (.int .i64 o0) := by rw [Blk.cell hb]; rfl
            have f0' := Blk.free hb 0
            have f1' := Blk.free hb 1
            have f2' := Blk.free hb 2
            have lb' := hb.lt
            refine wpOp_step rfl (fun K hK => ?_)
            simp only [List.zip_cons_cons, List.zip_nil_right, puts]
            have Hf0 := Lib.hid f0
            have Hf1 := Lib.hid f1
            have Hf2 := Lib.hid f2
            have Hf3 := Lib.hid f3
            have Hf4 := Lib.hid f4
            have Hf5 := Lib.hid f5
            have Hf6 := Lib.hid f6
            have Hf7 := Lib.hid f7
            have Hf8 := Lib.hid f8
            have Hf9 := Lib.hid f9
            have Hf11 := Lib.hid f11
            have HhK := Lib.hid hK
            have Hhd := Lib.hid hd
            have HhJ := Lib.hid hJ
            clear hd hK hJ f0 f1 f2 f3 f4 f5 f6 f7 f8 f9 f11
            go_simp
            have f0 := Hf0.out
            have f1 := Hf1.out
            have f2 := Hf2.out
            have f3 := Hf3.out
            have f4 := Hf4.out
            have f5 := Hf5.out
            have f6 := Hf6.out
            have f7 := Hf7.out
            have f8 := Hf8.out
            have f9 := Hf9.out
            have f11 := Hf11.out
            have hK := HhK.out
            have hd := Hhd.out
            have hJ := HhJ.out
            exact hK _ _ ⟨[u20, u21, u22, u23, u24, u25, u19, (.agg #[.int .i64 x0, .int .i64 x1, .int .i64 x2]), u27, (.pointer (some ⟨bx, 0, none⟩)), u9], rfl, by kernel_rfl, _, _, _, _, _, _, _, _, _, _, _, rfl, ⟨((kO.set hlb _).set hlb _).set hlb _, ((rd.set (by first | omega | (simp only; omega)) (by first | omega | (simp only; omega)) _).set (by first | omega | (simp only; omega)) (by first | omega | (simp only; omega)) _).set (by first | omega | (simp only; omega)) (by first | omega | (simp only; omega)) _, ((bIW.off (by first | omega | (simp only; omega)) _).off (by first | omega | (simp only; omega)) _).off (by first | omega | (simp only; omega)) _, fun _ => ⟨bx, x0, x1, x2, rfl, hlb, hb.set3⟩⟩, f0, f1, f2, f3, f4, f5, f6, (fun _ => rfl), f8, f9, f11⟩
          · simp only [List.getElem?_cons_zero, List.getElem?_cons_succ, Option.some.injEq] at ho
            subst ho
            clear hi'
            have d8 : D 8 = true := hdep ⟨8, Ground.data⟩ (by simp) rfl
            clear hdep
            have hI := hJ
            obtain rfl := f8 d8
            refine wpOp_step rfl (fun K hK => ?_)
            simp only [List.zip_cons_cons, List.zip_nil_right, puts]
            have Hf0 := Lib.hid f0
            have Hf1 := Lib.hid f1
            have Hf2 := Lib.hid f2
            have Hf3 := Lib.hid f3
            have Hf4 := Lib.hid f4
            have Hf5 := Lib.hid f5
            have Hf6 := Lib.hid f6
            have Hf7 := Lib.hid f7
            have Hf8 := Lib.hid f8
            have Hf9 := Lib.hid f9
            have Hf11 := Lib.hid f11
            have HhK := Lib.hid hK
            have Hhd := Lib.hid hd
            have HhJ := Lib.hid hJ
            clear hd hK hJ f0 f1 f2 f3 f4 f5 f6 f7 f8 f9 f11
            go_simp
            have f0 := Hf0.out
            have f1 := Hf1.out
            have f2 := Hf2.out
            have f3 := Hf3.out
            have f4 := Hf4.out
            have f5 := Hf5.out
            have f6 := Hf6.out
            have f7 := Hf7.out
            have f8 := Hf8.out
            have f9 := Hf9.out
            have f11 := Hf11.out
            have hK := HhK.out
            have hd := Hhd.out
            have hJ := HhJ.out
            exact hK _ _ ⟨[u20, u21, u22, u23, u24, u25, u19, u26, (.bool xv), u8, (.bool xv)], rfl, by kernel_rfl, _, _, _, _, _, _, _, _, _, _, _, rfl, hI, f0, f1, f2, f3, f4, f5, f6, f7, (fun _ => rfl), f9, (fun _ => rfl)⟩
        · rintro D us W hu hall ⟨u20, u21, u22, u23, u24, u25, u19, u26, u27, u8, u9, rfl, hJ, f0, f1, f2, f3, f4, f5, f6, f7, f8, f9, f11⟩
          have d0 : D 0 = true := hall 0 (by simp)
          have d1 : D 1 = true := hall 1 (by simp)
          have d2 : D 2 = true := hall 2 (by simp)
          have d3 : D 3 = true := hall 3 (by simp)
          have d4 : D 4 = true := hall 4 (by simp)
          have d5 : D 5 = true := hall 5 (by simp)
          have d6 : D 6 = true := hall 6 (by simp)
          have d7 : D 7 = true := hall 7 (by simp)
          have d8 : D 8 = true := hall 8 (by simp)
          have d9 : D 9 = true := hall 9 (by simp)
          have d10 : D 10 = true := hall 10 (by simp)
          have d11 : D 11 = true := hall 11 (by simp)
          have hI := hJ
          clear hJ
          obtain ⟨kW, r6, bIW, h3⟩ := hI
          obtain ⟨bx, s0, a0, o0, rfl, hlb, hb⟩ := h3 d9
          have e9 := f11 d11
          clear h3 f0 f1 f2 f3 f4 f5 f6 f7 f8 f9 d0 d1 d2 d3 d4 d5 d6 d7 d8 d9 d10 hall hu
          subst e9
          simp only [List.zip_cons_cons, List.zip_nil_right, puts]
          go_simp
          apply_assumption
          go_meet
          exact ⟨bx, s0, a0, o0, rfl, rfl, kW, hlb, hb, bIW, r6⟩
      case rest =>
      obtain ⟨X, x0, x1, x2, rfl, rfl, kY, hXw, hXY, bIY, rY⟩ := hcut
      obtain ⟨wv, hwv⟩ : ∃ z : World, z = wc := ⟨_, rfl⟩
      rw [← hwv] at kY hXY bIY rY ⊢
      clear hwv d0w d1w d2w HA0 HA1 HA2 HA3
      have hIX : IV ≠ X := by omega
      have hBg := rk.Bg
      go_upto_region 7 with fail
      replace d0 := kY.at d0 hbg
      replace d1 := kY.at d1 hbg
      replace d2 := kY.at d2 hbg
      clear v0 v1 bI rk
      go_cut [34] (fun u wx => ∃ tb : Bool, u = .bool tb ∧ Onl g wv wx ∧ ∃ q, q ≤ pk + 1 ∧ Rd wx g B A len cap q)
      case first =>
        cases xv
        · go_wp2
          go_meet
          exact ⟨_, rfl, Onl.refl g wv, pk, by omega, rY⟩
        · go_wp2_with fail
          refine (pick_fr _ _ _ _ _ _ _ _ rY (by omega)).mono ?_
          rintro e wx ⟨x, rfl, _, ox, rx⟩
          go_wp2
          go_meet
          exact ⟨_, rfl, ox, pk + 1, by omega, rx⟩
      case rest =>
        obtain ⟨tb, rfl, o9, q9, hq9, r9⟩ := hcut
        obtain ⟨wy, hwy⟩ : ∃ z : World, z = wc := ⟨_, rfl⟩
        rw [← hwy] at o9 r9 ⊢
        clear hwy
        replace d0 := o9.at d0 hbg
        replace d1 := o9.at d1 hbg
        replace d2 := o9.at d2 hbg
        have hXg : X ≠ g := by omega
        have bXY := hXY.onl o9 hXg
        have bIZ := bIY.onl o9 hIg
        have kZ := kY.trans (Onb.of_onl o9)
        have hsz := kZ.size
        clear hXY bIY kY rY o9
        go_upto_if 34 with fail
        go_cut [] (fun wx => ∃ s a o : Int, Blk wx X #[.int .i64 s, .int .i64 a, .int .i64 o] 62 ∧ Blk wx IV #[.int .i64 st, .int .i64 ha] 95 ∧ Onb g wr wx ∧ ∃ q, q ≤ q9 + 1 ∧ Rd wx g B A len cap q)
        case first =>
          cases tb
          · go_wp2
            go_meet
            exact ⟨x0, x1, x2, bXY, bIZ, kZ, q9, by omega, r9⟩
          · go_wp2_with fail
            refine (spk_val HKY.out _).mono ?_
            rintro e wa ⟨rfl, ba⟩
            replace bXY := bXY.below ba
            replace bIZ := bIZ.below ba
            replace kZ := kZ.trans (Onb.of_bel ba)
            have ra := r9.below ba
            clear ba r9 d0 d1 d2
            go_wp2_with fail
            refine (pick_fr _ _ _ _ _ _ _ _ ra (by omega)).mono ?_
            rintro e wb ⟨x, rfl, ⟨y0, y1, _⟩, ob, rb⟩
            have y1 := y1 (by omega)
            replace bXY := bXY.onl ob hXg
            replace bIZ := bIZ.onl ob hIg
            replace kZ := kZ.trans (Onb.of_onl ob)
            clear ob ra
            have i1 := IntWalk.i64_in (ky + x) (by omega)
            have i2 := IntWalk.i64_in (ky + x - 2) (by omega)
            by_cases hm : 3 ≤ ky + x
            · have hmx : max (0 : Int) (ky + x - 2) = ky + x - 2 := by omega
              go_wp2_with fail
              refine (spel_any _ _ _ (by omega) (by omega)).mono ?_
              rintro e we ⟨s7, a7, o7, bq, rfl, be⟩
              replace bXY := bXY.below be
              replace bIZ := bIZ.below be
              replace kZ := kZ.trans (Onb.of_bel be)
              have re := rb.below be
              have hwe := be.size
              clear be rb
              have hlX2 := bXY.lt
              have hBg2 := re.Bg
              have c0 : we.cell? ⟨X, 0, none⟩ = some (.int .i64 x0) := by rw [Blk.cell bXY]; rfl
              have c1 : we.cell? ⟨X, 1, none⟩ = some (.int .i64 x1) := by rw [Blk.cell bXY]; rfl
              have c2 : we.cell? ⟨X, 2, none⟩ = some (.int .i64 x2) := by rw [Blk.cell bXY]; rfl
              have f0 := Blk.free bXY 0
              have f1 := Blk.free bXY 1
              have f2 := Blk.free bXY 2
              have HB := Lib.hid (bXY.set3 (u := .int .i64 s7) (v := .int .i64 a7) (x := .int .i64 o7))
              have HI := Lib.hid (((bIZ.off (q := ⟨X, 0, none⟩) (by simp only; omega) (.int .i64 s7)).off (q := ⟨X, 1, none⟩) (by simp only; omega) (.int .i64 a7)).off (q := ⟨X, 2, none⟩) (by simp only; omega) (.int .i64 o7))
              have HK := Lib.hid (((kZ.set (p := ⟨X, 0, none⟩) (by simp only; omega) (.int .i64 s7)).set (p := ⟨X, 1, none⟩) (by simp only; omega) (.int .i64 a7)).set (p := ⟨X, 2, none⟩) (by simp only; omega) (.int .i64 o7))
              have HR := Lib.hid (((re.set (q := ⟨X, 0, none⟩) (by simp only; omega) (by simp only; omega) (.int .i64 s7)).set (q := ⟨X, 1, none⟩) (by simp only; omega) (by simp only; omega) (.int .i64 a7)).set (q := ⟨X, 2, none⟩) (by simp only; omega) (by simp only; omega) (.int .i64 o7))
              clear bXY bIZ kZ re
              go_wp2
              go_meet
              exact ⟨s7, a7, o7, HB.out, HI.out, HK.out, q9 + 1, by omega, HR.out⟩
            · have hmx : max (0 : Int) (ky + x - 2) = 0 := by omega
              go_wp2_with fail
              refine (spel_any _ _ _ (by omega) (by omega)).mono ?_
              rintro e we ⟨s7, a7, o7, bq, rfl, be⟩
              replace bXY := bXY.below be
              replace bIZ := bIZ.below be
              replace kZ := kZ.trans (Onb.of_bel be)
              have re := rb.below be
              have hwe := be.size
              clear be rb
              have hlX2 := bXY.lt
              have hBg2 := re.Bg
              have c0 : we.cell? ⟨X, 0, none⟩ = some (.int .i64 x0) := by rw [Blk.cell bXY]; rfl
              have c1 : we.cell? ⟨X, 1, none⟩ = some (.int .i64 x1) := by rw [Blk.cell bXY]; rfl
              have c2 : we.cell? ⟨X, 2, none⟩ = some (.int .i64 x2) := by rw [Blk.cell bXY]; rfl
              have f0 := Blk.free bXY 0
              have f1 := Blk.free bXY 1
              have f2 := Blk.free bXY 2
              have HB := Lib.hid (bXY.set3 (u := .int .i64 s7) (v := .int .i64 a7) (x := .int .i64 o7))
              have HI := Lib.hid (((bIZ.off (q := ⟨X, 0, none⟩) (by simp only; omega) (.int .i64 s7)).off (q := ⟨X, 1, none⟩) (by simp only; omega) (.int .i64 a7)).off (q := ⟨X, 2, none⟩) (by simp only; omega) (.int .i64 o7))
              have HK := Lib.hid (((kZ.set (p := ⟨X, 0, none⟩) (by simp only; omega) (.int .i64 s7)).set (p := ⟨X, 1, none⟩) (by simp only; omega) (.int .i64 a7)).set (p := ⟨X, 2, none⟩) (by simp only; omega) (.int .i64 o7))
              have HR := Lib.hid (((re.set (q := ⟨X, 0, none⟩) (by simp only; omega) (by simp only; omega) (.int .i64 s7)).set (q := ⟨X, 1, none⟩) (by simp only; omega) (by simp only; omega) (.int .i64 a7)).set (q := ⟨X, 2, none⟩) (by simp only; omega) (by simp only; omega) (.int .i64 o7))
              clear bXY bIZ kZ re
              go_wp2
              go_meet
              exact ⟨s7, a7, o7, HB.out, HI.out, HK.out, q9 + 1, by omega, HR.out⟩
        case rest =>
          obtain ⟨s7, a7, o7, bX, bI, kZ, q8, hq8, r8⟩ := hcut
          obtain ⟨wd, hwd⟩ : ∃ z : World, z = wc := ⟨_, rfl⟩
          rw [← hwd] at bX bI kZ r8 ⊢
          clear hwd bXY bIZ r9
          replace hown := own_onb hown kZ (by omega)
          replace hkO := hkO.trans kZ
          have m0 : wd.cell? ⟨X, 0, none⟩ = some (.int .i64 s7) := by rw [Blk.cell bX]; rfl
          have m1 : wd.cell? ⟨X, 1, none⟩ = some (.int .i64 a7) := by rw [Blk.cell bX]; rfl
          have m2 : wd.cell? ⟨X, 2, none⟩ = some (.int .i64 o7) := by rw [Blk.cell bX]; rfl
          have hs8 := hkO.size
          have hal : acc.length ≤ 8 := by have := HACC.out; omega
          have hIl := bI.lt
          clear d0 d1 d2
          go_wp2_with (at_builtin; go_must (refine wpList_append_lies _ rfl _ _ 37 rfl w.heap.size 62 i0 _ 3 24 Try.underlying37 hi0 hz0 hz1 hz2 rfl (by omega) _ acc.length (flat csPi acc) rfl (hown.alloc _) ⟨wd.heap.size, 0, none⟩ 1 1 [.int .i64 s7, .int .i64 a7, .int .i64 o7] rfl rfl (World.news_of_block (cs := #[.int .i64 s7, .int .i64 a7, .int .i64 o7]) (t := 62) (fr := (0, 0)) (heap_alloc_new wd _)) (by simp [Value.oneCell']) (by omega) (by unfold maxLen; omega) (by omega) (by simp; omega) _ rfl ?_; intro gg9 cp9 w9 hown9 hgrow9 hat9 hlt9))
          have hkA := (hkO.alloc (.cells #[.int .i64 s7, .int .i64 a7, .int .i64 o7] 62)).grown hgrow9 (fun k hk => own_ge hown k hk)
          have hrA := (r8.alloc (.cells #[.int .i64 s7, .int .i64 a7, .int .i64 o7] 62)).grown hgrow9 (fun k hk => by have := own_ge hown k hk; omega)
          have bIA := (bI.alloc (.cells #[.int .i64 s7, .int .i64 a7, .int .i64 o7] 62)).grown hgrow9 (own_ne hown bI (by decide))
          have hqq := own_push (t := (⟨s7, a7, o7⟩ : Pi)) hown9 rfl
          have HAL := Lib.hid (show (acc ++ [(⟨s7, a7, o7⟩ : Pi)]).length = k + 1 from by rw [List.length_append, List.length_singleton, HACC.out])
          go_wp2
          go_roundw
          case rel => exact ⟨k + 1, acc ++ [⟨s7, a7, o7⟩], _, by omega, HAL.out, by go_num, hqq, hkA, bIA, by omega, hrA⟩
          case measure => simp [intOf]; omega
    · obtain rfl : k = l.length := by omega
      obtain ⟨A9, c9, rfl, lc9, cm9, hS⟩ := StP.of hown
      have hS := hS
      rw [hacc] at lc9 ⊢
      go_wp2
      exact bodyPost_ret (v := .slice A9 l.length c9) (by simp [results, Try.results44, go_sem]) rfl ⟨A9, c9, acc, rfl, hacc, by rw [hacc]; exact lc9, cm9, hS, hkO, pk, by omega, rk⟩
end
section
open Go.RowKit

theorem infoPS : (Try.prog.info? 37).map (fun i => (i.zero, i.size, i.bytes)) = some (some (.slice none 0 0), 1, 24) := by kernel_rfl
theorem StP.grown {w w' : World} {lo : Nat} {A : Option Addr} {l : List Pi} {row : Option Nat} (h : StP w lo A l) (hg : w.grownBy w' row) (hne : ∀ b cs, Blk w b cs 62 → row ≠ some b) : StP w' lo A l := fun hl => by
  obtain ⟨b, off, cs, e, h1, h2, h3⟩ := h hl
  exact ⟨b, off, cs, e, h1, h2.grown hg (hne b cs h2), h3⟩
theorem StP.alloc {w : World} {lo : Nat} {A : Option Addr} {l : List Pi} (h : StP w lo A l) (o : Obj) : StP (w.alloc o) lo A l := fun hl => by
  obtain ⟨b, off, cs, e, h1, h2, h3⟩ := h hl
  exact ⟨b, off, cs, e, h1, h2.alloc o, h3⟩
/-- a row of chords of one's own, from block lo on, and the slices that it holds -/
def OwPV (w : World) (lo : Nat) (v : Value) (ll : List (List Pi)) (vs : List Value) : Prop :=
  w.ownsRow lo 37 1 v ll.length vs ∧ ∀ i, i < ll.length → ∃ Ai ci, vs[i]? = some (.slice Ai (atPP ll i).length ci) ∧ (atPP ll i).length ≤ ci ∧ ci ≤ maxLen ∧ StP w lo Ai (atPP ll i)
def OwPP (w : World) (lo : Nat) (v : Value) (ll : List (List Pi)) : Prop := ∃ vs, OwPV w lo v ll vs
theorem OwPV.onb {g : Nat} {w w' : World} {lo : Nat} {v : Value} {ll : List (List Pi)} {vs : List Value} (h : OwPV w lo v ll vs) (ho : Onb g w w') (hg : g < lo) : OwPV w' lo v ll vs :=
  ⟨own_onb h.1 ho hg, fun i hi => by obtain ⟨Ai, ci, h1, h2, h3, h4⟩ := h.2 i hi; exact ⟨Ai, ci, h1, h2, h3, h4.onb ho hg⟩⟩
theorem OwPV.alloc {w : World} {lo : Nat} {v : Value} {ll : List (List Pi)} {vs : List Value} (h : OwPV w lo v ll vs) (o : Obj) : OwPV (w.alloc o) lo v ll vs :=
  ⟨h.1.alloc o, fun i hi => by obtain ⟨Ai, ci, h1, h2, h3, h4⟩ := h.2 i hi; exact ⟨Ai, ci, h1, h2, h3, h4.alloc o⟩⟩
theorem OwPV.at' {w : World} {lo : Nat} {v : Value} {ll : List (List Pi)} {vs : List Value} (h : OwPV w lo v ll vs) (i : Nat) (hi : i < ll.length) :
    ∃ gb cap Ai ci, v = .slice (some ⟨gb, 0, none⟩) ll.length cap ∧ lo ≤ gb ∧ gb < w.heap.size ∧ ll.length ≤ cap ∧ cap ≤ maxLen ∧ w.cell? ⟨gb, i, none⟩ = some (.slice Ai (atPP ll i).length ci) ∧ (atPP ll i).length ≤ ci ∧ ci ≤ maxLen ∧ StP w lo Ai (atPP ll i) := by
  obtain ⟨Ai, ci, h1, h2, h3, h4⟩ := h.2 i hi
  rcases h.1.2 with ⟨_, h0⟩ | ⟨g, cap, cur, rfl, hb, hg, hnc, hcm, _, _⟩
  · omega
  · exact ⟨g, cap, Ai, ci, rfl, hb, (own_lt h.1 rfl).2, hnc, hcm, by rw [h.1.cellAt i (by omega)]; exact h1, h2, h3, h4⟩
theorem OwPV.row {w : World} {lo : Nat} {v : Value} {ll : List (List Pi)} {vs : List Value} (h : OwPV w lo v ll vs) : ∃ A c, v = .slice A ll.length c ∧ ll.length ≤ c ∧ c ≤ maxLen ∧ RowPP w w.heap.size A ll := by
  by_cases h0 : 0 < ll.length
  · obtain ⟨gb, cap, _, _, rfl, _, h2, h3, h4, _⟩ := h.at' 0 h0
    refine ⟨_, cap, rfl, h3, h4, fun _ => ⟨gb, 0, rfl, h2, fun i hi => ?_⟩⟩
    obtain ⟨gb', cap', Ai, ci, e, _, _, _, _, c1, c2, c3, c4⟩ := h.at' i hi
    cases e
    exact ⟨Ai, ci, by rw [Nat.zero_add]; exact c1, c2, c3, c4.row⟩
  · rcases h.1.2 with ⟨rfl, e0⟩ | ⟨g, cap, cur, rfl, hb, hg, hnc, hcm, _, _⟩
    · exact ⟨none, 0, by rw [e0], by omega, by simp [maxLen], fun z => absurd z h0⟩
    · exact ⟨_, cap, rfl, hnc, hcm, fun z => absurd z h0⟩
theorem atPP_snoc (ll : List (List Pi)) (l : List Pi) (i : Nat) (hi : i < ll.length + 1) : atPP (ll ++ [l]) i = if i = ll.length then l else atPP ll i := by
  unfold atPP
  by_cases e : i = ll.length
  · rw [if_pos e, e, List.getD_eq_getElem?_getD]; simp
  · rw [if_neg e, List.getD_eq_getElem?_getD, List.getElem?_append_left (by omega), ← List.getD_eq_getElem?_getD]
theorem OwPV.push {w w' : World} {lo : Nat} {v v' : Value} {ll : List (List Pi)} {vs : List Value} {l : List Pi} {Al : Option Addr} {cl : Nat} (h : OwPV w lo v ll vs) (hg : w.grownBy w' v.ownBlock) (ho : w'.ownsRow lo 37 1 v' (ll.length + 1) (vs ++ [.slice Al l.length cl])) (hl : l.length ≤ cl) (hm : cl ≤ maxLen) (hs : StP w lo Al l) : OwPV w' lo v' (ll ++ [l]) (vs ++ [.slice Al l.length cl]) := by
  have hvl : vs.length = ll.length := by have := h.1.1; omega
  have hne : ∀ b cs, Blk w b cs 62 → v.ownBlock ≠ some b := fun b cs hb => own_ne h.1 hb (by decide)
  refine ⟨by rw [List.length_append]; exact ho, fun i hi => ?_⟩
  rw [List.length_append, List.length_singleton] at hi
  rw [atPP_snoc ll l i hi]
  by_cases e : i = ll.length
  · subst e
    rw [if_pos rfl]
    exact ⟨Al, cl, by rw [← hvl]; simp, hl, hm, hs.grown hg hne⟩
  · rw [if_neg e]
    obtain ⟨Ai, ci, h1, h2, h3, h4⟩ := h.2 i (by omega)
    exact ⟨Ai, ci, by rw [List.getElem?_append_left (by omega)]; exact h1, h2, h3, h4.grown hg hne⟩
/-- every chord is short -/
def shortPP (ll : List (List Pi)) : Prop := ∀ i, i < ll.length → (atPP ll i).length ≤ 4
theorem shortPP.snoc {ll : List (List Pi)} {l : List Pi} (h : shortPP ll) (hl : l.length ≤ 4) : shortPP (ll ++ [l]) := fun i hi => by
  rw [List.length_append, List.length_singleton] at hi
  rw [atPP_snoc ll l i hi]
  split
  · exact hl
  · exact h i (by omega)
def DrPp (w : World) (e : Ending) (w' : World) : Prop := ∃ (A : Option Addr) (c : Nat) (ll : List (List Pi)), e = .returned (.slice A ll.length c) ∧ ll.length ≤ c ∧ c ≤ maxLen ∧ ll.length ≤ 9 ∧ shortPP ll ∧ RowPP w' w'.heap.size A ll ∧ Below w.heap.size w w'
theorem short9 : shortPP (List.replicate 9 []) := fun i hi => by
  unfold atPP
  rw [List.getD_eq_getElem?_getD, List.getElem?_replicate]
  split <;> simp
theorem row9 (w : World) : RowPP (w.alloc (.cells (madeCells #[.slice none 0 0] 9) 37)) (w.alloc (.cells (madeCells #[.slice none 0 0] 9) 37)).heap.size (some ⟨w.heap.size, 0, none⟩) (List.replicate 9 []) := fun _ => ⟨_, _, rfl, by simp, fun i hi => by
  have hi9 : i < 9 := hi
  have e : atPP (List.replicate 9 []) i = [] := by unfold atPP; rw [List.getD_eq_getElem?_getD, List.getElem?_replicate]; split <;> rfl
  refine ⟨none, 0, ?_, by rw [e]; simp, by simp [maxLen], by rw [e]; exact fun z => absurd z (by simp)⟩
  rw [e, World.cell?_alloc_new, Nat.zero_add]
  rcases (show i = 0 ∨ i = 1 ∨ i = 2 ∨ i = 3 ∨ i = 4 ∨ i = 5 ∨ i = 6 ∨ i = 7 ∨ i = 8 from by omega) with rfl | rfl | rfl | rfl | rfl | rfl | rfl | rfl | rfl <;> kernel_rfl⟩
set_option maxRecDepth 20000 in
set_option maxHeartbeats 8000000 in
theorem DrawPartsFaults_any (w : World) (A : Option Addr) (len cap : Nat) (h : Cod w A len cap) : Calls Try.prog 19 #[.slice A len cap] w (DrPp w) := by
  have r1 := open_ok w A len cap w.heap.size (Nat.le_refl _) h.bt
  have k1 : Onb w.heap.size w (w.alloc (.cells #[.slice A (min len 2000) cap, .int .i64 0] 93)) := Onb.of_bel (bel_al (bel_refl _) _)
  have hLO : (w.alloc (.cells #[.slice A (min len 2000) cap, .int .i64 0] 93)).heap.size = w.heap.size + 1 := by simp
  obtain ⟨i0, hi0, hz0, hz1, hz2⟩ := info_parts infoPS
  go_enter Try.func19, Try.ntmps19
  go_wp2_with fail
  refine (open_eq _ A len cap h.lc h.cm).mono ?_
  rintro e w1 ⟨rfl, rfl⟩
  go_upto_region 2 with fail
  generalize (w.alloc (.cells #[.slice A (min len 2000) cap, .int .i64 0] 93)) = w1 at *
  generalize min len 2000 = len' at *
  obtain ⟨LO, hLe⟩ : ∃ LO, w.heap.size + 1 = LO := ⟨_, rfl⟩
  have hgL : w.heap.size < LO := by omega
  have own0 : OwPV (w1.alloc (.cells #[] 37)) LO (.slice (some ⟨w1.heap.size, 0, none⟩) 0 0) [] [] := ⟨World.ownsRow_lit w1 #[] 0 (by omega) (by simp [maxLen]) rfl, fun i hi => absurd hi (by simp)⟩
  have k0 : Onb w.heap.size w1 (w1.alloc (.cells #[] 37)) := Onb.of_bel (bel_al (bel_refl w1) _)
  have r0 := r1.alloc (.cells #[] 37)
  rw [hLO] at own0
  go_wp2_with fail
  refine (pick_fr _ _ _ _ _ _ _ _ r0 (by omega)).mono ?_
  rintro e w3 ⟨x, rfl, ⟨x0, x1, _⟩, o3, r3⟩
  have x1 := x1 (by omega)
  replace own0 := own0.onb (Onb.of_onl o3) hgL
  replace k0 := k0.trans (Onb.of_onl o3)
  clear r0 o3 r1
  obtain ⟨x, rfl⟩ := Int.eq_ofNat_of_zero_le x0
  rw [hLe] at own0
  go_wp2_with fail
  go_loopw [4, 5, 6] (fun o i _ wr => ∃ (m : Nat) (ll : List (List Pi)) (pk : Nat), ll.length + m ≤ 5 ∧ i = .int .i64 m ∧ (∃ vs, OwPV wr LO o ll vs) ∧ shortPP ll ∧ Onb w.heap.size w1 wr ∧ pk + 70 * m ≤ 400 ∧ Rd wr w.heap.size w.heap.size A len' cap pk) (fun _ i _ _ => (intOf i).toNat)
  case atStart => exact ⟨x, [], 1, by simp; omega, rfl, ⟨_, own0⟩, fun i hi => absurd hi (by simp), k0, by omega, r3⟩
  case round =>
    obtain ⟨m', ll, pk, hlm, rfl, ⟨vs, hown⟩, hsh, hkO, hpk, rk⟩ := hrel
    clear own0 k0
    cases m' with
    | zero =>
      have hsz := hkO.size
      obtain ⟨A3, c3, rfl, lc3, cm3, hrow3⟩ := hown.row
      unfold maxLen at cm3
      rw [show ((0 : Nat) : Int) = 0 from rfl]
      go_wp2_with fail
      refine (odd_any _ _ _ _ _ _ _ _ rk (by omega)).mono ?_
      rintro e wf ⟨bq, rfl, _, of, pf, hpf, rf⟩
      have kF := hkO.trans (Onb.of_onl of)
      replace hown := hown.onb (Onb.of_onl of) hgL
      cases bq
      · obtain ⟨A4, c4, e4, lc4, cm4, hrow4⟩ := hown.row
        cases e4
        go_wp2
        exact bodyPost_ret (v := .slice A3 ll.length c3) (by simp [results, Try.results19, go_sem]) rfl ⟨A3, c3, ll, rfl, lc3, by unfold maxLen; omega, by omega, hsh, hrow4, (k1.trans kF).below (Nat.le_refl _) (Nat.le_refl _)⟩
      · have hmk : ∀ w, (Instr.makeSlice 26 (.int .i64 9) (.int .i64 9)).run Try.prog w = .ok (.slice (some ⟨w.heap.size, 0, none⟩) 9 9) (w.alloc (.cells (madeCells #[.slice none 0 0] 9) 37)) := run_makePP 9 (by omega)
        have kX := ((k1.trans kF).alloc (.cells (madeCells #[.slice none 0 0] 9) 37)).below (Nat.le_refl w.heap.size) (Nat.le_refl _)
        go_wp2
        exact bodyPost_ret (v := .slice (some ⟨wf.heap.size, 0, none⟩) 9 9) (by simp [results, Try.results19, go_sem]) rfl ⟨_, 9, List.replicate 9 [], rfl, by decide, by simp [maxLen], by decide, short9, row9 wf, kX⟩
    | succ m =>
      have hm0 : (0 : Int) < ((m + 1 : Nat) : Int) := by omega
      have hm1 : ((m + 1 : Nat) : Int) - 1 = (m : Int) := by omega
      obtain ⟨N, hN⟩ : ∃ N : Int, ((m + 1 : Nat) : Int) = N := ⟨_, rfl⟩
      rw [hN] at hm0 hm1 ⊢
      have HN := Lib.hid hN
      have HM1 := Lib.hid hm1
      have hN6 : N ≤ 6 := by omega
      clear hN hm1
      obtain ⟨A3, c3, rfl, lc3, cm3, hrow3⟩ := hown.row
      unfold maxLen at cm3
      have hll5 : ll.length ≤ 5 := by omega
      have hsz := hkO.size
      go_upto_region 7 with fail
      go_cut [24] (fun u wx => ∃ tb : Bool, u = .bool tb ∧ (tb = true → 0 < ll.length) ∧ Onl w.heap.size wr wx ∧ ∃ q, q ≤ pk + 1 ∧ Rd wx w.heap.size w.heap.size A len' cap q)
      case first =>
        by_cases h0 : 0 < ll.length
        · have i0 : (0 : Int) < (ll.length : Int) := by omega
          go_wp2_with fail
          refine (pick_fr _ _ _ _ _ _ _ _ rk (by omega)).mono ?_
          rintro e wx ⟨x, rfl, _, ox, rx⟩
          go_wp2
          go_meet
          exact ⟨_, rfl, fun _ => h0, ox, pk + 1, by omega, rx⟩
        · have i0 : ¬ (0 : Int) < (ll.length : Int) := by omega
          have i1 : decide (0 < ll.length) = false := decide_eq_false h0
          go_wp2
          go_meet
          exact ⟨false, rfl, fun h => (by cases h), Onl.refl w.heap.size wr, pk, by omega, rk⟩
      case rest =>
        obtain ⟨tb, rfl, htb, o9, q9, hq9, r9⟩ := hcut
        obtain ⟨wy, hwy⟩ : ∃ z : World, z = wc := ⟨_, rfl⟩
        rw [← hwy] at o9 r9 ⊢
        clear hwy rk
        replace hown := hown.onb (Onb.of_onl o9) hgL
        replace hkO := hkO.trans (Onb.of_onl o9)
        clear o9 hrow3
        have hsz2 := hkO.size
        cases tb
        · clear htb
          go_wp2_with fail
          refine (stack_any _ _ _ _ _ _ _ _ r9 (by omega)).mono ?_
          rintro e wd ⟨zA, zc, zl, rfl, zlc, zcm, zl4, zS, zk, zp, hzp, zr⟩
          have zS := zS.lo (lo' := LO) (by omega)
          replace hown := hown.onb zk hgL
          replace hkO := hkO.trans zk
          have hszd := hkO.size
          clear r9 zk
          go_wp2_with (at_builtin; go_must (refine wpList_append_lies _ rfl _ _ 26 rfl LO 37 i0 _ 1 24 Try.underlying26 hi0 hz0 hz1 hz2 rfl (by omega) _ ll.length vs rfl (hown.1.alloc _) ⟨wd.heap.size, 0, none⟩ 1 1 [.slice zA zl.length zc] rfl rfl (World.news_of_block (cs := #[.slice zA zl.length zc]) (t := 37) (fr := (0, 0)) (heap_alloc_new wd _)) (by simp [Value.oneCell']) (by omega) (by unfold maxLen; omega) (by omega) (by simp; omega) _ rfl ?_; intro gg9 cp9 w9 hown9 hgrow9 hat9 hlt9))
          have oA := (hown.alloc (.cells #[.slice zA zl.length zc] 37)).push hgrow9 hown9 zlc zcm (zS.alloc _)
          have kA := (hkO.alloc (.cells #[.slice zA zl.length zc] 37)).grown hgrow9 (fun k hk => by have := own_ge hown.1 k hk; omega)
          have rA := (zr.alloc (.cells #[.slice zA zl.length zc] 37)).grown hgrow9 (fun k hk => by have := own_ge hown.1 k hk; omega)
          have hsA := hsh.snoc zl4
          have HLN := Lib.hid (show (ll ++ [zl]).length + m ≤ 5 from by rw [List.length_append, List.length_singleton]; omega)
          have HOA := Lib.hid oA
          have HSA := Lib.hid hsA
          clear oA hsA hown hsh hown9
          go_wp2
          go_roundw
          case rel => exact ⟨m, ll ++ [zl], _, HLN.out, by rw [HM1.out], ⟨_, HOA.out⟩, HSA.out, kA, by omega, rA⟩
          case measure => simp [intOf]; omega
        · have h0 := htb rfl
          clear htb
          obtain ⟨j, hj⟩ : ∃ j, ll.length = j + 1 := ⟨ll.length - 1, by omega⟩
          obtain ⟨gb, cap9, Ai, ci, e9, b1, b2, b3, b4, b5, b6, b7, b8⟩ := hown.at' j (by omega)
          cases e9
          have hjj : (ll.length : Int) - 1 = (j : Int) := by omega
          have hj0 : (0 : Int) ≤ (j : Int) := by omega
          have hj1 : (j : Int) < (ll.length : Int) := by omega
          have hs4 := hsh j (by omega)
          have b9 := b8.row
          have hne : ∀ ad, Ai = some ad → 0 < (atPP ll j).length → ad.block ≠ w.heap.size := fun ad e h0 => by
            obtain ⟨b, o, _, e2, h1, _⟩ := b8 h0
            rw [e2] at e
            cases e
            show b ≠ w.heap.size
            omega
          have HJ := Lib.hid hj
          clear hj
          obtain ⟨x, hx⟩ : ∃ x, atPP ll j = x := ⟨_, rfl⟩
          rw [hx] at b5 b6 b9 hs4 hne
          clear hx b8
          go_wp2_with fail
          refine (next_any _ _ _ _ _ _ _ Ai ci x r9 (by omega) (by omega) b9 hne).mono ?_
          rintro e wd ⟨zA, zc, zl, rfl, zn, zlc, zcm, zS, zk, zp, hzp, zr⟩
          have zl4 : zl.length ≤ 4 := by omega
          have zS := zS.lo (lo' := LO) (by omega)
          replace hown := hown.onb zk hgL
          replace hkO := hkO.trans zk
          have hszd := hkO.size
          clear r9 zk b5 b9 hjj
          rw [← zn]
          clear zn
          go_wp2_with (at_builtin; go_must (refine wpList_append_lies _ rfl _ _ 26 rfl LO 37 i0 _ 1 24 Try.underlying26 hi0 hz0 hz1 hz2 rfl (by omega) _ ll.length vs rfl (hown.1.alloc _) ⟨wd.heap.size, 0, none⟩ 1 1 [.slice zA zl.length zc] rfl rfl (World.news_of_block (cs := #[.slice zA zl.length zc]) (t := 37) (fr := (0, 0)) (heap_alloc_new wd _)) (by simp [Value.oneCell']) (by omega) (by unfold maxLen; omega) (by omega) (by simp; omega) _ rfl ?_; intro gg9 cp9 w9 hown9 hgrow9 hat9 hlt9))
          have oA := (hown.alloc (.cells #[.slice zA zl.length zc] 37)).push hgrow9 hown9 zlc zcm (zS.alloc _)
          have kA := (hkO.alloc (.cells #[.slice zA zl.length zc] 37)).grown hgrow9 (fun k hk => by have := own_ge hown.1 k hk; omega)
          have rA := (zr.alloc (.cells #[.slice zA zl.length zc] 37)).grown hgrow9 (fun k hk => by have := own_ge hown.1 k hk; omega)
          have hsA := hsh.snoc zl4
          have HLN := Lib.hid (show (ll ++ [zl]).length + m ≤ 5 from by rw [List.length_append, List.length_singleton]; omega)
          have HOA := Lib.hid oA
          have HSA := Lib.hid hsA
          clear oA hsA hown hsh hown9
          go_wp2
          go_roundw
          case rel => exact ⟨m, ll ++ [zl], _, HLN.out, by rw [HM1.out], ⟨_, HOA.out⟩, HSA.out, kA, by omega, rA⟩
          case measure => simp [intOf]; omega
end
end Go.Proofs.Ytpjakgnghpapmaa
