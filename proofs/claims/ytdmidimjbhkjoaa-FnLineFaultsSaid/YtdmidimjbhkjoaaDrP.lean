/- The generator of pitches: whatever three numbers. -/
import Derived.Test.YtdmidimjbhkjoaaBa
import Derived.Deep.DeepCutAuto
namespace Go.Proofs.Ytdmidimjbhkjoaa
set_option linter.unusedSimpArgs false
set_option linter.unusedVariables false
open Go.RowKit

/-- what a generator of pitches leaves -/
def DrP (w : World) (g B p : Nat) (A : Option Addr) (len cap : Nat) (e : Ending) (w' : World) : Prop :=
  ∃ s a o : Int, e = .returned (.agg #[.int .i64 s, .int .i64 a, .int .i64 o]) ∧ Onb g w w' ∧ ∃ p', p' ≤ p + 14 ∧ Rd w' g B A len cap p'
set_option maxHeartbeats 4000000 in
theorem pitch_any (w : World) (g B p : Nat) (A : Option Addr) (len cap : Nat) (m : Int) (h : Rd w g B A len cap p) (hp : p < 1000000) :
    Calls Try.prog 35 #[.pointer (some ⟨g, 0, none⟩), .int .i64 m] w (DrP w g B p A len cap) := by
  have hg := h.gl
  go_enter Try.func35, Try.ntmps35
  go_wp2_with fail
  have qR0 : Blk (w.alloc (.cells #[.int .i64 0, .int .i64 0, .int .i64 0] 30)) w.heap.size #[.int .i64 0, .int .i64 0, .int .i64 0] 30 := Blk.new w _ _
  have r0 := h.alloc (.cells #[.int .i64 0, .int .i64 0, .int .i64 0] 30)
  have k0 := (Onb.refl g w).alloc (.cells #[.int .i64 0, .int .i64 0, .int .i64 0] 30)
  generalize (w.alloc (.cells #[.int .i64 0, .int .i64 0, .int .i64 0] 30)) = w0 at *
  refine (pick_fr _ _ _ _ _ _ _ _ r0 (by omega)).mono ?_
  rintro e w1 ⟨x1, rfl, ⟨x10, x11, _⟩, o1, r1⟩
  have k1 := (k0).trans (Onb.of_onl o1)
  have qR1 := (qR0).onl o1 (by omega)
  have hg1 := r1.gl
  have x11 := x11 (by omega)
  clear r0 k0 o1 qR0
  go_wp2_with fail
  refine (pick_fr _ _ _ _ _ _ _ _ r1 (by omega)).mono ?_
  rintro e w2 ⟨x2, rfl, ⟨x20, x21, _⟩, o2, r2⟩
  have k2 := (k1).trans (Onb.of_onl o2)
  have qR2 := (qR1).onl o2 (by omega)
  have hg2 := r2.gl
  have x21 := x21 (by omega)
  clear r1 k1 o2 qR1
  go_wp2_with fail
  have qP3 : Blk (w2.alloc (.cells #[.int .i64 x1, .int .i64 0, .int .i64 (2 + x2)] 30)) w2.heap.size #[.int .i64 x1, .int .i64 0, .int .i64 (2 + x2)] 30 := Blk.new w2 _ _
  have r3 := r2.alloc (.cells #[.int .i64 x1, .int .i64 0, .int .i64 (2 + x2)] 30)
  have k3 := k2.alloc (.cells #[.int .i64 x1, .int .i64 0, .int .i64 (2 + x2)] 30)
  have qR3 := qR2.alloc (.cells #[.int .i64 x1, .int .i64 0, .int .i64 (2 + x2)] 30)
  have hP : w.heap.size < w2.heap.size := qR2.lt
  have hg3 : g < (w2.alloc (.cells #[.int .i64 x1, .int .i64 0, .int .i64 (2 + x2)] 30)).heap.size := r3.gl
  clear r2 k2 qR2
  generalize (w2.alloc (.cells #[.int .i64 x1, .int .i64 0, .int .i64 (2 + x2)] 30)) = w3 at *
  generalize w2.heap.size = P at *
  refine (pick_fr _ _ _ _ _ _ _ _ r3 (by omega)).mono ?_
  rintro e w4 ⟨x3, rfl, ⟨x30, x31, _⟩, o4, r4⟩
  have k4 := (k3).trans (Onb.of_onl o4)
  have qR4 := (qR3).onl o4 (by omega)
  have qP4 := (qP3).onl o4 (by omega)
  have hg4 := r4.gl
  have x31 := x31 (by omega)
  clear r3 k3 o4 qR3 qP3
  go_upto_if 14 with fail
  go_cut [] (fun wx => ∃ s a o : Int, Blk wx w.heap.size #[.int .i64 0, .int .i64 0, .int .i64 0] 30 ∧ Blk wx P #[.int .i64 s, .int .i64 a, .int .i64 o] 30 ∧ Onb g w wx ∧ ∃ p', p' ≤ p + 4 ∧ Rd wx g B A len cap p')
  case first =>
    by_cases hu : x3 = 0
    · subst hu
      go_wp2_with fail
      refine (pick_fr _ _ _ _ _ _ _ _ r4 (by omega)).mono ?_
      rintro e w5 ⟨x4, rfl, ⟨x40, x41, _⟩, o5, r5⟩
      have k5 := (k4).trans (Onb.of_onl o5)
      have qR5 := (qR4).onl o5 (by omega)
      have qP5 := (qP4).onl o5 (by omega)
      have hg5 := r5.gl
      have x41 := x41 (by omega)
      clear r4 k4 o5 qR4 qP4
      have cqP1 : w5.cell? ⟨P, 1, none⟩ = some (.int .i64 0) := by rw [Blk.cell qP5]; rfl
      have fqP1 := Blk.free qP5 1
      go_wp2_with fail
      go_meet
      exact ⟨x1, x4 - 1, 2 + x2, qR5.off (by first | omega | (simp only; omega)) _, qP5.s31, k5.set (by first | omega | (simp only; omega)) _, _, by omega, r5.set (by have := r5.Bg; first | omega | (simp only; omega)) (by first | omega | (simp only; omega)) _⟩
    · have hu1 : (x3 == 0) = false := by simpa using hu
      clear hu
      go_wp2_with fail
      go_meet
      exact ⟨x1, 0, 2 + x2, qR4, qP4, k4, _, by omega, r4⟩
  case rest =>
    obtain ⟨s1, a1, o1, qR5, qP5, k5, p5, hp5, r5⟩ := hcut
    have hg5 := r5.gl
    go_wp2_with fail
    refine (pick_fr _ _ _ _ _ _ _ _ r5 (by omega)).mono ?_
    rintro e w6 ⟨x5, rfl, ⟨x50, x51, _⟩, o6, r6⟩
    have k6 := (k5).trans (Onb.of_onl o6)
    have qR6 := (qR5).onl o6 (by omega)
    have qP6 := (qP5).onl o6 (by omega)
    have hg6 := r6.gl
    have x51 := x51 (by omega)
    clear r5 k5 o6 qR5 qP5
    go_upto_if 21 with fail
    go_cut [] (fun wx => ∃ s a o : Int, Blk wx w.heap.size #[.int .i64 0, .int .i64 0, .int .i64 0] 30 ∧ Blk wx P #[.int .i64 s, .int .i64 a, .int .i64 o] 30 ∧ Onb g w wx ∧ ∃ p', p' ≤ p + 6 ∧ Rd wx g B A len cap p')
    case first =>
      by_cases hu : x5 = 0
      · subst hu
        go_wp2_with fail
        refine (pick_fr _ _ _ _ _ _ _ _ (r6.alloc _) (by omega)).mono ?_
        rintro e w7 ⟨x6, rfl, ⟨x60, x61, _⟩, o7, r7⟩
        have k7 := ((k6.alloc _)).trans (Onb.of_onl o7)
        have qR7 := ((qR6.alloc _)).onl o7 (by omega)
        have qP7 := ((qP6.alloc _)).onl o7 (by omega)
        have hg7 := r7.gl
        have x61 := x61 (by omega)
        obtain ⟨ux6, _, hux6⟩ := lit_at (w := w7) (b := w6.heap.size) (xs := [2, -2]) ((o7.block _ (by omega)).trans (heap_alloc_new w6 _)) x60 x61
        clear r6 k6 o7 qR6 qP6
        have cqP1 : w7.cell? ⟨P, 1, none⟩ = some (.int .i64 a1) := by rw [Blk.cell qP7]; rfl
        have fqP1 := Blk.free qP7 1
        go_wp2_with fail
        go_meet
        exact ⟨s1, ux6, o1, qR7.off (by first | omega | (simp only; omega)) _, qP7.s31, k7.set (by first | omega | (simp only; omega)) _, _, by omega, r7.set (by have := r7.Bg; first | omega | (simp only; omega)) (by first | omega | (simp only; omega)) _⟩
      · have hu1 : (x5 == 0) = false := by simpa using hu
        clear hu
        go_wp2_with fail
        go_meet
        exact ⟨s1, a1, o1, qR6, qP6, k6, _, by omega, r6⟩
    case rest =>
      obtain ⟨s2, a2, o2, qR7, qP7, k7, p7, hp7, r7⟩ := hcut
      have hg7 := r7.gl
      go_wp2_with fail
      refine (pick_fr _ _ _ _ _ _ _ _ r7 (by omega)).mono ?_
      rintro e w8 ⟨x7, rfl, ⟨x70, x71, _⟩, o8, r8⟩
      have k8 := (k7).trans (Onb.of_onl o8)
      have qR8 := (qR7).onl o8 (by omega)
      have qP8 := (qP7).onl o8 (by omega)
      have hg8 := r8.gl
      have x71 := x71 (by omega)
      clear r7 k7 o8 qR7 qP7
      go_upto_if 30 with fail
      go_cut [] (fun wx => ∃ s a o : Int, Blk wx w.heap.size #[.int .i64 0, .int .i64 0, .int .i64 0] 30 ∧ Blk wx P #[.int .i64 s, .int .i64 a, .int .i64 o] 30 ∧ Onb g w wx ∧ ∃ p', p' ≤ p + 8 ∧ Rd wx g B A len cap p')
      case first =>
        by_cases hu : x7 = 0
        · subst hu
          go_wp2_with fail
          refine (pick_fr _ _ _ _ _ _ _ _ (r8.alloc _) (by omega)).mono ?_
          rintro e w9 ⟨x8, rfl, ⟨x80, x81, _⟩, o9, r9⟩
          have k9 := ((k8.alloc _)).trans (Onb.of_onl o9)
          have qR9 := ((qR8.alloc _)).onl o9 (by omega)
          have qP9 := ((qP8.alloc _)).onl o9 (by omega)
          have hg9 := r9.gl
          have x81 := x81 (by omega)
          obtain ⟨ux8, _, hux8⟩ := lit_at (w := w9) (b := w8.heap.size) (xs := [0, 8]) ((o9.block _ (by omega)).trans (heap_alloc_new w8 _)) x80 x81
          clear r8 k8 o9 qR8 qP8
          have cqP2 : w9.cell? ⟨P, 2, none⟩ = some (.int .i64 o2) := by rw [Blk.cell qP9]; rfl
          have fqP2 := Blk.free qP9 2
          go_wp2_with fail
          go_meet
          exact ⟨s2, a2, ux8, qR9.off (by first | omega | (simp only; omega)) _, qP9.s32, k9.set (by first | omega | (simp only; omega)) _, _, by omega, r9.set (by have := r9.Bg; first | omega | (simp only; omega)) (by first | omega | (simp only; omega)) _⟩
        · have hu1 : (x7 == 0) = false := by simpa using hu
          clear hu
          go_wp2_with fail
          go_meet
          exact ⟨s2, a2, o2, qR8, qP8, k8, _, by omega, r8⟩
      case rest =>
        obtain ⟨s3, a3, o3, qR9, qP9, k9, p9, hp9, r9⟩ := hcut
        have hg9 := r9.gl
        go_wp2_with fail
        refine (odd_any _ _ _ _ _ _ _ _ r9 (by omega)).mono ?_
        rintro e w10 ⟨b, rfl, _, o10, p10, hp10, r10⟩
        have k10 := (k9).trans (Onb.of_onl o10)
        have qR10 := (qR9).onl o10 (by omega)
        have qP10 := (qP9).onl o10 (by omega)
        have hg10 := r10.gl
        clear r9 k9 o10 qR9 qP9
        cases b
        · have cqP0 : w10.cell? ⟨P, 0, none⟩ = some (.int .i64 s3) := by rw [Blk.cell qP10]; rfl
          have cqP1 : w10.cell? ⟨P, 1, none⟩ = some (.int .i64 a3) := by rw [Blk.cell qP10]; rfl
          have cqP2 : w10.cell? ⟨P, 2, none⟩ = some (.int .i64 o3) := by rw [Blk.cell qP10]; rfl
          have lqP := Blk.lt qP10
          have cqR0 : w10.cell? ⟨w.heap.size, 0, none⟩ = some (.int .i64 0) := by rw [Blk.cell qR10]; rfl
          have cqR1 : w10.cell? ⟨w.heap.size, 1, none⟩ = some (.int .i64 0) := by rw [Blk.cell qR10]; rfl
          have cqR2 : w10.cell? ⟨w.heap.size, 2, none⟩ = some (.int .i64 0) := by rw [Blk.cell qR10]; rfl
          have fqR0 := Blk.free qR10 0
          have fqR1 := Blk.free qR10 1
          have fqR2 := Blk.free qR10 2
          have lqR := Blk.lt qR10
          go_wp2
          exact bodyPost_ret (v := .agg #[.int .i64 s3, .int .i64 a3, .int .i64 o3]) (by simp [results, Try.results35, go_sem, cqR0, cqR1, cqR2, fqR0, fqR1, fqR2]) rfl ⟨s3, a3, o3, rfl, ((k10.set (by first | omega | (simp only; omega)) _).set (by first | omega | (simp only; omega)) _).set (by first | omega | (simp only; omega)) _, _, by omega, ((r10.set (by have := r10.Bg; first | omega | (simp only; omega)) (by first | omega | (simp only; omega)) _).set (by have := r10.Bg; first | omega | (simp only; omega)) (by first | omega | (simp only; omega)) _).set (by have := r10.Bg; first | omega | (simp only; omega)) (by first | omega | (simp only; omega)) _⟩
        · go_wp2_with fail
          refine (pick_fr _ _ _ _ _ _ _ _ r10 (by omega)).mono ?_
          rintro e w11 ⟨y, rfl, ⟨y0, y1, _⟩, o11, r11⟩
          have k11 := (k10).trans (Onb.of_onl o11)
          have qR11 := (qR10).onl o11 (by omega)
          have qP11 := (qP10).onl o11 (by omega)
          have hg11 := r11.gl
          have y1 := y1 (by omega)
          clear r10 k10 o11 qR10 qP10
          rcases (show y = 0 ∨ y = 1 ∨ y = 2 from by omega) with rfl | rfl | rfl
          · go_wp2_with fail
            refine (pick_fr _ _ _ _ _ _ _ _ (r11.alloc _) (by omega)).mono ?_
            rintro e w12 ⟨z, rfl, ⟨z0, z1, _⟩, o12, r12⟩
            have k12 := ((k11.alloc _)).trans (Onb.of_onl o12)
            have qR12 := ((qR11.alloc _)).onl o12 (by omega)
            have qP12 := ((qP11.alloc _)).onl o12 (by omega)
            have hg12 := r12.gl
            have z1 := z1 (by omega)
            obtain ⟨uz, _, huz⟩ := lit_at (w := w12) (b := w11.heap.size) (xs := [-1, 7]) ((o12.block _ (by omega)).trans (heap_alloc_new w11 _)) z0 z1
            clear r11 k11 o12 qR11 qP11
            have cqP0 : w12.cell? ⟨P, 0, none⟩ = some (.int .i64 s3) := by rw [Blk.cell qP12]; rfl
            have fqP0 := Blk.free qP12 0
            have qP13 : Blk (w12.setCell ⟨P, 0, none⟩ (.int .i64 uz)) P #[.int .i64 uz, .int .i64 a3, .int .i64 o3] 30 := qP12.s30
            have qR13 : Blk (w12.setCell ⟨P, 0, none⟩ (.int .i64 uz)) w.heap.size #[.int .i64 0, .int .i64 0, .int .i64 0] 30 := qR12.off (by first | omega | (simp only; omega)) _
            have k13 : Onb g w (w12.setCell ⟨P, 0, none⟩ (.int .i64 uz)) := k12.set (by first | omega | (simp only; omega)) _
            have r13 : Rd (w12.setCell ⟨P, 0, none⟩ (.int .i64 uz)) g B A len cap _ := r12.set (by have := r12.Bg; first | omega | (simp only; omega)) (by first | omega | (simp only; omega)) _
            have cqP0 : (w12.setCell ⟨P, 0, none⟩ (.int .i64 uz)).cell? ⟨P, 0, none⟩ = some (.int .i64 uz) := by rw [Blk.cell qP13]; rfl
            have cqP1 : (w12.setCell ⟨P, 0, none⟩ (.int .i64 uz)).cell? ⟨P, 1, none⟩ = some (.int .i64 a3) := by rw [Blk.cell qP13]; rfl
            have cqP2 : (w12.setCell ⟨P, 0, none⟩ (.int .i64 uz)).cell? ⟨P, 2, none⟩ = some (.int .i64 o3) := by rw [Blk.cell qP13]; rfl
            have lqP := Blk.lt qP13
            have cqR0 : (w12.setCell ⟨P, 0, none⟩ (.int .i64 uz)).cell? ⟨w.heap.size, 0, none⟩ = some (.int .i64 0) := by rw [Blk.cell qR13]; rfl
            have cqR1 : (w12.setCell ⟨P, 0, none⟩ (.int .i64 uz)).cell? ⟨w.heap.size, 1, none⟩ = some (.int .i64 0) := by rw [Blk.cell qR13]; rfl
            have cqR2 : (w12.setCell ⟨P, 0, none⟩ (.int .i64 uz)).cell? ⟨w.heap.size, 2, none⟩ = some (.int .i64 0) := by rw [Blk.cell qR13]; rfl
            have fqR0 := Blk.free qR13 0
            have fqR1 := Blk.free qR13 1
            have fqR2 := Blk.free qR13 2
            have lqR := Blk.lt qR13
            go_wp2
            exact bodyPost_ret (v := .agg #[.int .i64 uz, .int .i64 a3, .int .i64 o3]) (by simp [results, Try.results35, go_sem, cqR0, cqR1, cqR2, fqR0, fqR1, fqR2]) rfl ⟨uz, a3, o3, rfl, ((k13.set (by first | omega | (simp only; omega)) _).set (by first | omega | (simp only; omega)) _).set (by first | omega | (simp only; omega)) _, _, by omega, ((r13.set (by have := r13.Bg; first | omega | (simp only; omega)) (by first | omega | (simp only; omega)) _).set (by have := r13.Bg; first | omega | (simp only; omega)) (by first | omega | (simp only; omega)) _).set (by have := r13.Bg; first | omega | (simp only; omega)) (by first | omega | (simp only; omega)) _⟩
          · go_wp2_with fail
            refine (pick_fr _ _ _ _ _ _ _ _ (r11.alloc _) (by omega)).mono ?_
            rintro e w12 ⟨z, rfl, ⟨z0, z1, _⟩, o12, r12⟩
            have k12 := ((k11.alloc _)).trans (Onb.of_onl o12)
            have qR12 := ((qR11.alloc _)).onl o12 (by omega)
            have qP12 := ((qP11.alloc _)).onl o12 (by omega)
            have hg12 := r12.gl
            have z1 := z1 (by omega)
            obtain ⟨uz, _, huz⟩ := lit_at (w := w12) (b := w11.heap.size) (xs := [-3, 3]) ((o12.block _ (by omega)).trans (heap_alloc_new w11 _)) z0 z1
            clear r11 k11 o12 qR11 qP11
            have cqP1 : w12.cell? ⟨P, 1, none⟩ = some (.int .i64 a3) := by rw [Blk.cell qP12]; rfl
            have fqP1 := Blk.free qP12 1
            have qP13 : Blk (w12.setCell ⟨P, 1, none⟩ (.int .i64 uz)) P #[.int .i64 s3, .int .i64 uz, .int .i64 o3] 30 := qP12.s31
            have qR13 : Blk (w12.setCell ⟨P, 1, none⟩ (.int .i64 uz)) w.heap.size #[.int .i64 0, .int .i64 0, .int .i64 0] 30 := qR12.off (by first | omega | (simp only; omega)) _
            have k13 : Onb g w (w12.setCell ⟨P, 1, none⟩ (.int .i64 uz)) := k12.set (by first | omega | (simp only; omega)) _
            have r13 : Rd (w12.setCell ⟨P, 1, none⟩ (.int .i64 uz)) g B A len cap _ := r12.set (by have := r12.Bg; first | omega | (simp only; omega)) (by first | omega | (simp only; omega)) _
            have cqP0 : (w12.setCell ⟨P, 1, none⟩ (.int .i64 uz)).cell? ⟨P, 0, none⟩ = some (.int .i64 s3) := by rw [Blk.cell qP13]; rfl
            have cqP1 : (w12.setCell ⟨P, 1, none⟩ (.int .i64 uz)).cell? ⟨P, 1, none⟩ = some (.int .i64 uz) := by rw [Blk.cell qP13]; rfl
            have cqP2 : (w12.setCell ⟨P, 1, none⟩ (.int .i64 uz)).cell? ⟨P, 2, none⟩ = some (.int .i64 o3) := by rw [Blk.cell qP13]; rfl
            have lqP := Blk.lt qP13
            have cqR0 : (w12.setCell ⟨P, 1, none⟩ (.int .i64 uz)).cell? ⟨w.heap.size, 0, none⟩ = some (.int .i64 0) := by rw [Blk.cell qR13]; rfl
            have cqR1 : (w12.setCell ⟨P, 1, none⟩ (.int .i64 uz)).cell? ⟨w.heap.size, 1, none⟩ = some (.int .i64 0) := by rw [Blk.cell qR13]; rfl
            have cqR2 : (w12.setCell ⟨P, 1, none⟩ (.int .i64 uz)).cell? ⟨w.heap.size, 2, none⟩ = some (.int .i64 0) := by rw [Blk.cell qR13]; rfl
            have fqR0 := Blk.free qR13 0
            have fqR1 := Blk.free qR13 1
            have fqR2 := Blk.free qR13 2
            have lqR := Blk.lt qR13
            go_wp2
            exact bodyPost_ret (v := .agg #[.int .i64 s3, .int .i64 uz, .int .i64 o3]) (by simp [results, Try.results35, go_sem, cqR0, cqR1, cqR2, fqR0, fqR1, fqR2]) rfl ⟨s3, uz, o3, rfl, ((k13.set (by first | omega | (simp only; omega)) _).set (by first | omega | (simp only; omega)) _).set (by first | omega | (simp only; omega)) _, _, by omega, ((r13.set (by have := r13.Bg; first | omega | (simp only; omega)) (by first | omega | (simp only; omega)) _).set (by have := r13.Bg; first | omega | (simp only; omega)) (by first | omega | (simp only; omega)) _).set (by have := r13.Bg; first | omega | (simp only; omega)) (by first | omega | (simp only; omega)) _⟩
          · go_wp2_with fail
            refine (pick_fr _ _ _ _ _ _ _ _ (r11.alloc _) (by omega)).mono ?_
            rintro e w12 ⟨z, rfl, ⟨z0, z1, _⟩, o12, r12⟩
            have k12 := ((k11.alloc _)).trans (Onb.of_onl o12)
            have qR12 := ((qR11.alloc _)).onl o12 (by omega)
            have qP12 := ((qP11.alloc _)).onl o12 (by omega)
            have hg12 := r12.gl
            have z1 := z1 (by omega)
            obtain ⟨uz, _, huz⟩ := lit_at (w := w12) (b := w11.heap.size) (xs := [-1, 9]) ((o12.block _ (by omega)).trans (heap_alloc_new w11 _)) z0 z1
            clear r11 k11 o12 qR11 qP11
            have cqP2 : w12.cell? ⟨P, 2, none⟩ = some (.int .i64 o3) := by rw [Blk.cell qP12]; rfl
            have fqP2 := Blk.free qP12 2
            have qP13 : Blk (w12.setCell ⟨P, 2, none⟩ (.int .i64 uz)) P #[.int .i64 s3, .int .i64 a3, .int .i64 uz] 30 := qP12.s32
            have qR13 : Blk (w12.setCell ⟨P, 2, none⟩ (.int .i64 uz)) w.heap.size #[.int .i64 0, .int .i64 0, .int .i64 0] 30 := qR12.off (by first | omega | (simp only; omega)) _
            have k13 : Onb g w (w12.setCell ⟨P, 2, none⟩ (.int .i64 uz)) := k12.set (by first | omega | (simp only; omega)) _
            have r13 : Rd (w12.setCell ⟨P, 2, none⟩ (.int .i64 uz)) g B A len cap _ := r12.set (by have := r12.Bg; first | omega | (simp only; omega)) (by first | omega | (simp only; omega)) _
            have cqP0 : (w12.setCell ⟨P, 2, none⟩ (.int .i64 uz)).cell? ⟨P, 0, none⟩ = some (.int .i64 s3) := by rw [Blk.cell qP13]; rfl
            have cqP1 : (w12.setCell ⟨P, 2, none⟩ (.int .i64 uz)).cell? ⟨P, 1, none⟩ = some (.int .i64 a3) := by rw [Blk.cell qP13]; rfl
            have cqP2 : (w12.setCell ⟨P, 2, none⟩ (.int .i64 uz)).cell? ⟨P, 2, none⟩ = some (.int .i64 uz) := by rw [Blk.cell qP13]; rfl
            have lqP := Blk.lt qP13
            have cqR0 : (w12.setCell ⟨P, 2, none⟩ (.int .i64 uz)).cell? ⟨w.heap.size, 0, none⟩ = some (.int .i64 0) := by rw [Blk.cell qR13]; rfl
            have cqR1 : (w12.setCell ⟨P, 2, none⟩ (.int .i64 uz)).cell? ⟨w.heap.size, 1, none⟩ = some (.int .i64 0) := by rw [Blk.cell qR13]; rfl
            have cqR2 : (w12.setCell ⟨P, 2, none⟩ (.int .i64 uz)).cell? ⟨w.heap.size, 2, none⟩ = some (.int .i64 0) := by rw [Blk.cell qR13]; rfl
            have fqR0 := Blk.free qR13 0
            have fqR1 := Blk.free qR13 1
            have fqR2 := Blk.free qR13 2
            have lqR := Blk.lt qR13
            go_wp2
            exact bodyPost_ret (v := .agg #[.int .i64 s3, .int .i64 a3, .int .i64 uz]) (by simp [results, Try.results35, go_sem, cqR0, cqR1, cqR2, fqR0, fqR1, fqR2]) rfl ⟨s3, a3, uz, rfl, ((k13.set (by first | omega | (simp only; omega)) _).set (by first | omega | (simp only; omega)) _).set (by first | omega | (simp only; omega)) _, _, by omega, ((r13.set (by have := r13.Bg; first | omega | (simp only; omega)) (by first | omega | (simp only; omega)) _).set (by have := r13.Bg; first | omega | (simp only; omega)) (by first | omega | (simp only; omega)) _).set (by have := r13.Bg; first | omega | (simp only; omega)) (by first | omega | (simp only; omega)) _⟩
end Go.Proofs.Ytdmidimjbhkjoaa
