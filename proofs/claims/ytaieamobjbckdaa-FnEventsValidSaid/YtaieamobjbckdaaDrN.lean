/- The generator of notes: whatever six values. -/
import Derived.Test.YtaieamobjbckdaaDrP
namespace Go.Proofs.Ytaieamobjbckdaa
set_option linter.unusedSimpArgs false
set_option linter.unusedVariables false
open Go.RowKit

/-- what a generator of notes leaves -/
def DrN (w : World) (g B p : Nat) (A : Option Addr) (len cap : Nat) (e : Ending) (w' : World) : Prop :=
  ∃ (r : Bool) (s a o t : Int) (d : Bool), e = .returned (.agg #[.bool r, .int .i64 s, .int .i64 a, .int .i64 o, .int .i64 t, .bool d]) ∧ Onb g w w' ∧ ∃ p', p' ≤ p + 25 ∧ Rd w' g B A len cap p'
set_option maxHeartbeats 4000000 in
theorem note_any (w : World) (g B p : Nat) (A : Option Addr) (len cap : Nat) (m : Int) (h : Rd w g B A len cap p) (hp : p < 1000000) :
    Calls Try.prog 26 #[.pointer (some ⟨g, 0, none⟩), .int .i64 m] w (DrN w g B p A len cap) := by
  have hg := h.gl
  go_enter Try.func26, Try.ntmps26
  go_wp2_with fail
  have qR0 : Blk (w.alloc (.cells #[.bool false, .int .i64 0, .int .i64 0, .int .i64 0, .int .i64 0, .bool false] 56)) w.heap.size #[.bool false, .int .i64 0, .int .i64 0, .int .i64 0, .int .i64 0, .bool false] 56 := Blk.new w _ _
  have r0 := h.alloc (.cells #[.bool false, .int .i64 0, .int .i64 0, .int .i64 0, .int .i64 0, .bool false] 56)
  have k0 := (Onb.refl g w).alloc (.cells #[.bool false, .int .i64 0, .int .i64 0, .int .i64 0, .int .i64 0, .bool false] 56)
  generalize (w.alloc (.cells #[.bool false, .int .i64 0, .int .i64 0, .int .i64 0, .int .i64 0, .bool false] 56)) = w0 at *
  refine (pitch_any _ _ _ _ _ _ _ _ r0 (by omega)).mono ?_
  rintro e w1 ⟨s, a, o, rfl, o1, p1, hp1, r1⟩
  have k1 := (k0).trans (o1)
  have qR1 := (qR0).onb o1 (by omega)
  have hg1 := r1.gl
  clear r0 k0 o1 qR0
  go_wp2_with fail
  refine (pick_fr _ _ _ _ _ _ _ _ (r1.alloc _) (by omega)).mono ?_
  rintro e w2 ⟨x2, rfl, ⟨x20, x21, _⟩, o2, r2⟩
  have k2 := ((k1.alloc _)).trans (Onb.of_onl o2)
  have qR2 := ((qR1.alloc _)).onl o2 (by omega)
  have hg2 := r2.gl
  have x21 := x21 (by omega)
  obtain ⟨ux2, _, hux2⟩ := lit_at (w := w2) (b := w1.heap.size) (xs := [12, 24, 48, 96, 36, 16, 72]) ((o2.block _ (by omega)).trans (heap_alloc_new w1 _)) x20 x21
  clear r1 k1 o2 qR1
  go_wp2_with fail
  have qP3 : Blk (w2.alloc (.cells #[.bool false, .int .i64 s, .int .i64 a, .int .i64 o, .int .i64 ux2, .bool false] 56)) w2.heap.size #[.bool false, .int .i64 s, .int .i64 a, .int .i64 o, .int .i64 ux2, .bool false] 56 := Blk.new w2 _ _
  have r3 := r2.alloc (.cells #[.bool false, .int .i64 s, .int .i64 a, .int .i64 o, .int .i64 ux2, .bool false] 56)
  have k3 := k2.alloc (.cells #[.bool false, .int .i64 s, .int .i64 a, .int .i64 o, .int .i64 ux2, .bool false] 56)
  have qR3 := qR2.alloc (.cells #[.bool false, .int .i64 s, .int .i64 a, .int .i64 o, .int .i64 ux2, .bool false] 56)
  have hP : w.heap.size < w2.heap.size := qR2.lt
  have hg3 : g < (w2.alloc (.cells #[.bool false, .int .i64 s, .int .i64 a, .int .i64 o, .int .i64 ux2, .bool false] 56)).heap.size := r3.gl
  clear r2 k2 qR2
  generalize (w2.alloc (.cells #[.bool false, .int .i64 s, .int .i64 a, .int .i64 o, .int .i64 ux2, .bool false] 56)) = w3 at *
  generalize w2.heap.size = P at *
  refine (pick_fr _ _ _ _ _ _ _ _ r3 (by omega)).mono ?_
  rintro e w4 ⟨x3, rfl, ⟨x30, x31, _⟩, o4, r4⟩
  have k4 := (k3).trans (Onb.of_onl o4)
  have qR4 := (qR3).onl o4 (by omega)
  have qP4 := (qP3).onl o4 (by omega)
  have hg4 := r4.gl
  have x31 := x31 (by omega)
  clear r3 k3 o4 qR3 qP3
  go_upto_if 16 with fail
  go_cut [] (fun wx => ∃ (r : Bool) (s a o t : Int) (d : Bool), Blk wx w.heap.size #[.bool false, .int .i64 0, .int .i64 0, .int .i64 0, .int .i64 0, .bool false] 56 ∧ Blk wx P #[.bool r, .int .i64 s, .int .i64 a, .int .i64 o, .int .i64 t, .bool d] 56 ∧ Onb g w wx ∧ ∃ p', p' ≤ p + 18 ∧ Rd wx g B A len cap p')
  case first =>
    by_cases hu : x3 = 0
    · subst hu
      go_wp2_with fail
      refine (pick_fr _ _ _ _ _ _ _ _ (r4.alloc _) (by omega)).mono ?_
      rintro e w5 ⟨x4, rfl, ⟨x40, x41, _⟩, o5, r5⟩
      have k5 := ((k4.alloc _)).trans (Onb.of_onl o5)
      have qR5 := ((qR4.alloc _)).onl o5 (by omega)
      have qP5 := ((qP4.alloc _)).onl o5 (by omega)
      have hg5 := r5.gl
      have x41 := x41 (by omega)
      obtain ⟨ux4, _, hux4⟩ := lit_at (w := w5) (b := w4.heap.size) (xs := [1, 768, 700]) ((o5.block _ (by omega)).trans (heap_alloc_new w4 _)) x40 x41
      clear r4 k4 o5 qR4 qP4
      have cqP4 : w5.cell? ⟨P, 4, none⟩ = some (.int .i64 ux2) := by rw [Blk.cell qP5]; rfl
      have fqP4 := Blk.free qP5 4
      go_wp2_with fail
      go_meet
      exact ⟨false, s, a, o, ux4, false, (qR5.off (by first | omega | (simp only; omega)) _), qP5.s64, (k5.set (by first | omega | (simp only; omega)) _), _, by omega, (r5.set (by have := r5.Bg; first | omega | (simp only; omega)) (by first | omega | (simp only; omega)) _)⟩
    · have hu1 : (x3 == 0) = false := by simpa using hu
      clear hu
      go_wp2_with fail
      go_meet
      exact ⟨false, s, a, o, ux2, false, qR4, qP4, k4, _, by omega, r4⟩
  case rest =>
    obtain ⟨R1, s1, a1, o1, t1, d1, qR5, qP5, k5, p5, hp5, r5⟩ := hcut
    have hg5 := r5.gl
    go_wp2_with fail
    refine (pick_fr _ _ _ _ _ _ _ _ r5 (by omega)).mono ?_
    rintro e w6 ⟨x5, rfl, ⟨x50, x51, _⟩, o6, r6⟩
    have k6 := (k5).trans (Onb.of_onl o6)
    have qR6 := (qR5).onl o6 (by omega)
    have qP6 := (qP5).onl o6 (by omega)
    have hg6 := r6.gl
    have x51 := x51 (by omega)
    clear r5 k5 o6 qR5 qP5
    go_upto_if 25 with fail
    go_cut [] (fun wx => ∃ (r : Bool) (s a o t : Int) (d : Bool), Blk wx w.heap.size #[.bool false, .int .i64 0, .int .i64 0, .int .i64 0, .int .i64 0, .bool false] 56 ∧ Blk wx P #[.bool r, .int .i64 s, .int .i64 a, .int .i64 o, .int .i64 t, .bool d] 56 ∧ Onb g w wx ∧ ∃ p', p' ≤ p + 19 ∧ Rd wx g B A len cap p')
    case first =>
      by_cases hu : x5 = 0
      · subst hu
        have cqP0 : w6.cell? ⟨P, 0, none⟩ = some (.bool R1) := by rw [Blk.cell qP6]; rfl
        have cqP1 : w6.cell? ⟨P, 1, none⟩ = some (.int .i64 s1) := by rw [Blk.cell qP6]; rfl
        have cqP2 : w6.cell? ⟨P, 2, none⟩ = some (.int .i64 a1) := by rw [Blk.cell qP6]; rfl
        have cqP3 : w6.cell? ⟨P, 3, none⟩ = some (.int .i64 o1) := by rw [Blk.cell qP6]; rfl
        have fqP0 := Blk.free qP6 0
        have fqP1 := Blk.free qP6 1
        have fqP2 := Blk.free qP6 2
        have fqP3 := Blk.free qP6 3
        go_wp2_with fail
        go_meet
        exact ⟨true, 0, 0, 0, t1, d1, ((((qR6.off (by first | omega | (simp only; omega)) _).off (by first | omega | (simp only; omega)) _).off (by first | omega | (simp only; omega)) _).off (by first | omega | (simp only; omega)) _), qP6.s60.s61.s62.s63, ((((k6.set (by first | omega | (simp only; omega)) _).set (by first | omega | (simp only; omega)) _).set (by first | omega | (simp only; omega)) _).set (by first | omega | (simp only; omega)) _), _, by omega, ((((r6.set (by have := r6.Bg; first | omega | (simp only; omega)) (by first | omega | (simp only; omega)) _).set (by have := r6.Bg; first | omega | (simp only; omega)) (by first | omega | (simp only; omega)) _).set (by have := r6.Bg; first | omega | (simp only; omega)) (by first | omega | (simp only; omega)) _).set (by have := r6.Bg; first | omega | (simp only; omega)) (by first | omega | (simp only; omega)) _)⟩
      · have hu1 : (x5 == 0) = false := by simpa using hu
        clear hu
        go_wp2_with fail
        go_meet
        exact ⟨R1, s1, a1, o1, t1, d1, qR6, qP6, k6, _, by omega, r6⟩
    case rest =>
      obtain ⟨R2, s2, a2, o2, t2, d2, qR7, qP7, k7, p7, hp7, r7⟩ := hcut
      have hg7 := r7.gl
      go_wp2_with fail
      refine (odd_any _ _ _ _ _ _ _ _ r7 (by omega)).mono ?_
      rintro e w8 ⟨b, rfl, _, o8, p8, hp8, r8⟩
      have k8 := (k7).trans (Onb.of_onl o8)
      have qR8 := (qR7).onl o8 (by omega)
      have qP8 := (qP7).onl o8 (by omega)
      have hg8 := r8.gl
      clear r7 k7 o8 qR7 qP7
      cases b
      · have cqP0 : w8.cell? ⟨P, 0, none⟩ = some (.bool R2) := by rw [Blk.cell qP8]; rfl
        have cqP1 : w8.cell? ⟨P, 1, none⟩ = some (.int .i64 s2) := by rw [Blk.cell qP8]; rfl
        have cqP2 : w8.cell? ⟨P, 2, none⟩ = some (.int .i64 a2) := by rw [Blk.cell qP8]; rfl
        have cqP3 : w8.cell? ⟨P, 3, none⟩ = some (.int .i64 o2) := by rw [Blk.cell qP8]; rfl
        have cqP4 : w8.cell? ⟨P, 4, none⟩ = some (.int .i64 t2) := by rw [Blk.cell qP8]; rfl
        have cqP5 : w8.cell? ⟨P, 5, none⟩ = some (.bool d2) := by rw [Blk.cell qP8]; rfl
        have lqP := Blk.lt qP8
        have cqR0 : w8.cell? ⟨w.heap.size, 0, none⟩ = some (.bool false) := by rw [Blk.cell qR8]; rfl
        have cqR1 : w8.cell? ⟨w.heap.size, 1, none⟩ = some (.int .i64 0) := by rw [Blk.cell qR8]; rfl
        have cqR2 : w8.cell? ⟨w.heap.size, 2, none⟩ = some (.int .i64 0) := by rw [Blk.cell qR8]; rfl
        have cqR3 : w8.cell? ⟨w.heap.size, 3, none⟩ = some (.int .i64 0) := by rw [Blk.cell qR8]; rfl
        have cqR4 : w8.cell? ⟨w.heap.size, 4, none⟩ = some (.int .i64 0) := by rw [Blk.cell qR8]; rfl
        have cqR5 : w8.cell? ⟨w.heap.size, 5, none⟩ = some (.bool false) := by rw [Blk.cell qR8]; rfl
        have fqR0 := Blk.free qR8 0
        have fqR1 := Blk.free qR8 1
        have fqR2 := Blk.free qR8 2
        have fqR3 := Blk.free qR8 3
        have fqR4 := Blk.free qR8 4
        have fqR5 := Blk.free qR8 5
        have lqR := Blk.lt qR8
        go_wp2
        exact bodyPost_ret (v := .agg #[.bool R2, .int .i64 s2, .int .i64 a2, .int .i64 o2, .int .i64 t2, .bool d2]) (by simp [results, Try.results26, go_sem, cqR0, fqR0, cqR1, fqR1, cqR2, fqR2, cqR3, fqR3, cqR4, fqR4, cqR5, fqR5]) rfl ⟨R2, s2, a2, o2, t2, d2, rfl, ((((((k8.set (by first | omega | (simp only; omega)) _).set (by first | omega | (simp only; omega)) _).set (by first | omega | (simp only; omega)) _).set (by first | omega | (simp only; omega)) _).set (by first | omega | (simp only; omega)) _).set (by first | omega | (simp only; omega)) _), _, by omega, ((((((r8.set (by have := r8.Bg; first | omega | (simp only; omega)) (by first | omega | (simp only; omega)) _).set (by have := r8.Bg; first | omega | (simp only; omega)) (by first | omega | (simp only; omega)) _).set (by have := r8.Bg; first | omega | (simp only; omega)) (by first | omega | (simp only; omega)) _).set (by have := r8.Bg; first | omega | (simp only; omega)) (by first | omega | (simp only; omega)) _).set (by have := r8.Bg; first | omega | (simp only; omega)) (by first | omega | (simp only; omega)) _).set (by have := r8.Bg; first | omega | (simp only; omega)) (by first | omega | (simp only; omega)) _)⟩
      · go_wp2_with fail
        refine (pick_fr _ _ _ _ _ _ _ _ r8 (by omega)).mono ?_
        rintro e w9 ⟨y, rfl, ⟨y0, y1, _⟩, o9, r9⟩
        have k9 := (k8).trans (Onb.of_onl o9)
        have qR9 := (qR8).onl o9 (by omega)
        have qP9 := (qP8).onl o9 (by omega)
        have hg9 := r9.gl
        have y1 := y1 (by omega)
        clear r8 k8 o9 qR8 qP8
        rcases (show y = 0 ∨ y = 1 ∨ y = 2 ∨ y = 3 from by omega) with rfl | rfl | rfl | rfl
        · go_wp2_with fail
          refine (pick_fr _ _ _ _ _ _ _ _ (r9.alloc _) (by omega)).mono ?_
          rintro e w10 ⟨z, rfl, ⟨z0, z1, _⟩, o10, r10⟩
          have k10 := ((k9.alloc _)).trans (Onb.of_onl o10)
          have qR10 := ((qR9.alloc _)).onl o10 (by omega)
          have qP10 := ((qP9.alloc _)).onl o10 (by omega)
          have hg10 := r10.gl
          have z1 := z1 (by omega)
          obtain ⟨uz, _, huz⟩ := lit_at (w := w10) (b := w9.heap.size) (xs := [0, 769]) ((o10.block _ (by omega)).trans (heap_alloc_new w9 _)) z0 z1
          clear r9 k9 o10 qR9 qP9
          have cqP4 : w10.cell? ⟨P, 4, none⟩ = some (.int .i64 t2) := by rw [Blk.cell qP10]; rfl
          have fqP4 := Blk.free qP10 4
          have qP11 : Blk (w10.setCell ⟨P, 4, none⟩ (.int .i64 uz)) P #[.bool R2, .int .i64 s2, .int .i64 a2, .int .i64 o2, .int .i64 uz, .bool d2] 56 := qP10.s64
          have qR11 : Blk (w10.setCell ⟨P, 4, none⟩ (.int .i64 uz)) w.heap.size #[.bool false, .int .i64 0, .int .i64 0, .int .i64 0, .int .i64 0, .bool false] 56 := (qR10.off (by first | omega | (simp only; omega)) _)
          have k11 : Onb g w (w10.setCell ⟨P, 4, none⟩ (.int .i64 uz)) := (k10.set (by first | omega | (simp only; omega)) _)
          have r11 : Rd (w10.setCell ⟨P, 4, none⟩ (.int .i64 uz)) g B A len cap _ := (r10.set (by have := r10.Bg; first | omega | (simp only; omega)) (by first | omega | (simp only; omega)) _)
          have cqP0 : (w10.setCell ⟨P, 4, none⟩ (.int .i64 uz)).cell? ⟨P, 0, none⟩ = some (.bool R2) := by rw [Blk.cell qP11]; rfl
          have cqP1 : (w10.setCell ⟨P, 4, none⟩ (.int .i64 uz)).cell? ⟨P, 1, none⟩ = some (.int .i64 s2) := by rw [Blk.cell qP11]; rfl
          have cqP2 : (w10.setCell ⟨P, 4, none⟩ (.int .i64 uz)).cell? ⟨P, 2, none⟩ = some (.int .i64 a2) := by rw [Blk.cell qP11]; rfl
          have cqP3 : (w10.setCell ⟨P, 4, none⟩ (.int .i64 uz)).cell? ⟨P, 3, none⟩ = some (.int .i64 o2) := by rw [Blk.cell qP11]; rfl
          have cqP4 : (w10.setCell ⟨P, 4, none⟩ (.int .i64 uz)).cell? ⟨P, 4, none⟩ = some (.int .i64 uz) := by rw [Blk.cell qP11]; rfl
          have cqP5 : (w10.setCell ⟨P, 4, none⟩ (.int .i64 uz)).cell? ⟨P, 5, none⟩ = some (.bool d2) := by rw [Blk.cell qP11]; rfl
          have lqP := Blk.lt qP11
          have cqR0 : (w10.setCell ⟨P, 4, none⟩ (.int .i64 uz)).cell? ⟨w.heap.size, 0, none⟩ = some (.bool false) := by rw [Blk.cell qR11]; rfl
          have cqR1 : (w10.setCell ⟨P, 4, none⟩ (.int .i64 uz)).cell? ⟨w.heap.size, 1, none⟩ = some (.int .i64 0) := by rw [Blk.cell qR11]; rfl
          have cqR2 : (w10.setCell ⟨P, 4, none⟩ (.int .i64 uz)).cell? ⟨w.heap.size, 2, none⟩ = some (.int .i64 0) := by rw [Blk.cell qR11]; rfl
          have cqR3 : (w10.setCell ⟨P, 4, none⟩ (.int .i64 uz)).cell? ⟨w.heap.size, 3, none⟩ = some (.int .i64 0) := by rw [Blk.cell qR11]; rfl
          have cqR4 : (w10.setCell ⟨P, 4, none⟩ (.int .i64 uz)).cell? ⟨w.heap.size, 4, none⟩ = some (.int .i64 0) := by rw [Blk.cell qR11]; rfl
          have cqR5 : (w10.setCell ⟨P, 4, none⟩ (.int .i64 uz)).cell? ⟨w.heap.size, 5, none⟩ = some (.bool false) := by rw [Blk.cell qR11]; rfl
          have fqR0 := Blk.free qR11 0
          have fqR1 := Blk.free qR11 1
          have fqR2 := Blk.free qR11 2
          have fqR3 := Blk.free qR11 3
          have fqR4 := Blk.free qR11 4
          have fqR5 := Blk.free qR11 5
          have lqR := Blk.lt qR11
          go_wp2
          exact bodyPost_ret (v := .agg #[.bool R2, .int .i64 s2, .int .i64 a2, .int .i64 o2, .int .i64 uz, .bool d2]) (by simp [results, Try.results26, go_sem, cqR0, fqR0, cqR1, fqR1, cqR2, fqR2, cqR3, fqR3, cqR4, fqR4, cqR5, fqR5]) rfl ⟨R2, s2, a2, o2, uz, d2, rfl, ((((((k11.set (by first | omega | (simp only; omega)) _).set (by first | omega | (simp only; omega)) _).set (by first | omega | (simp only; omega)) _).set (by first | omega | (simp only; omega)) _).set (by first | omega | (simp only; omega)) _).set (by first | omega | (simp only; omega)) _), _, by omega, ((((((r11.set (by have := r11.Bg; first | omega | (simp only; omega)) (by first | omega | (simp only; omega)) _).set (by have := r11.Bg; first | omega | (simp only; omega)) (by first | omega | (simp only; omega)) _).set (by have := r11.Bg; first | omega | (simp only; omega)) (by first | omega | (simp only; omega)) _).set (by have := r11.Bg; first | omega | (simp only; omega)) (by first | omega | (simp only; omega)) _).set (by have := r11.Bg; first | omega | (simp only; omega)) (by first | omega | (simp only; omega)) _).set (by have := r11.Bg; first | omega | (simp only; omega)) (by first | omega | (simp only; omega)) _)⟩
        · have cqP0 : w9.cell? ⟨P, 0, none⟩ = some (.bool R2) := by rw [Blk.cell qP9]; rfl
          have cqP5 : w9.cell? ⟨P, 5, none⟩ = some (.bool d2) := by rw [Blk.cell qP9]; rfl
          have fqP0 := Blk.free qP9 0
          have fqP5 := Blk.free qP9 5
          have qP10 : Blk ((w9.setCell ⟨P, 0, none⟩ (.bool true)).setCell ⟨P, 5, none⟩ (.bool true)) P #[.bool true, .int .i64 s2, .int .i64 a2, .int .i64 o2, .int .i64 t2, .bool true] 56 := qP9.s60.s65
          have qR10 : Blk ((w9.setCell ⟨P, 0, none⟩ (.bool true)).setCell ⟨P, 5, none⟩ (.bool true)) w.heap.size #[.bool false, .int .i64 0, .int .i64 0, .int .i64 0, .int .i64 0, .bool false] 56 := ((qR9.off (by first | omega | (simp only; omega)) _).off (by first | omega | (simp only; omega)) _)
          have k10 : Onb g w ((w9.setCell ⟨P, 0, none⟩ (.bool true)).setCell ⟨P, 5, none⟩ (.bool true)) := ((k9.set (by first | omega | (simp only; omega)) _).set (by first | omega | (simp only; omega)) _)
          have r10 : Rd ((w9.setCell ⟨P, 0, none⟩ (.bool true)).setCell ⟨P, 5, none⟩ (.bool true)) g B A len cap _ := ((r9.set (by have := r9.Bg; first | omega | (simp only; omega)) (by first | omega | (simp only; omega)) _).set (by have := r9.Bg; first | omega | (simp only; omega)) (by first | omega | (simp only; omega)) _)
          have cqP0 : ((w9.setCell ⟨P, 0, none⟩ (.bool true)).setCell ⟨P, 5, none⟩ (.bool true)).cell? ⟨P, 0, none⟩ = some (.bool true) := by rw [Blk.cell qP10]; rfl
          have cqP1 : ((w9.setCell ⟨P, 0, none⟩ (.bool true)).setCell ⟨P, 5, none⟩ (.bool true)).cell? ⟨P, 1, none⟩ = some (.int .i64 s2) := by rw [Blk.cell qP10]; rfl
          have cqP2 : ((w9.setCell ⟨P, 0, none⟩ (.bool true)).setCell ⟨P, 5, none⟩ (.bool true)).cell? ⟨P, 2, none⟩ = some (.int .i64 a2) := by rw [Blk.cell qP10]; rfl
          have cqP3 : ((w9.setCell ⟨P, 0, none⟩ (.bool true)).setCell ⟨P, 5, none⟩ (.bool true)).cell? ⟨P, 3, none⟩ = some (.int .i64 o2) := by rw [Blk.cell qP10]; rfl
          have cqP4 : ((w9.setCell ⟨P, 0, none⟩ (.bool true)).setCell ⟨P, 5, none⟩ (.bool true)).cell? ⟨P, 4, none⟩ = some (.int .i64 t2) := by rw [Blk.cell qP10]; rfl
          have cqP5 : ((w9.setCell ⟨P, 0, none⟩ (.bool true)).setCell ⟨P, 5, none⟩ (.bool true)).cell? ⟨P, 5, none⟩ = some (.bool true) := by rw [Blk.cell qP10]; rfl
          have lqP := Blk.lt qP10
          have cqR0 : ((w9.setCell ⟨P, 0, none⟩ (.bool true)).setCell ⟨P, 5, none⟩ (.bool true)).cell? ⟨w.heap.size, 0, none⟩ = some (.bool false) := by rw [Blk.cell qR10]; rfl
          have cqR1 : ((w9.setCell ⟨P, 0, none⟩ (.bool true)).setCell ⟨P, 5, none⟩ (.bool true)).cell? ⟨w.heap.size, 1, none⟩ = some (.int .i64 0) := by rw [Blk.cell qR10]; rfl
          have cqR2 : ((w9.setCell ⟨P, 0, none⟩ (.bool true)).setCell ⟨P, 5, none⟩ (.bool true)).cell? ⟨w.heap.size, 2, none⟩ = some (.int .i64 0) := by rw [Blk.cell qR10]; rfl
          have cqR3 : ((w9.setCell ⟨P, 0, none⟩ (.bool true)).setCell ⟨P, 5, none⟩ (.bool true)).cell? ⟨w.heap.size, 3, none⟩ = some (.int .i64 0) := by rw [Blk.cell qR10]; rfl
          have cqR4 : ((w9.setCell ⟨P, 0, none⟩ (.bool true)).setCell ⟨P, 5, none⟩ (.bool true)).cell? ⟨w.heap.size, 4, none⟩ = some (.int .i64 0) := by rw [Blk.cell qR10]; rfl
          have cqR5 : ((w9.setCell ⟨P, 0, none⟩ (.bool true)).setCell ⟨P, 5, none⟩ (.bool true)).cell? ⟨w.heap.size, 5, none⟩ = some (.bool false) := by rw [Blk.cell qR10]; rfl
          have fqR0 := Blk.free qR10 0
          have fqR1 := Blk.free qR10 1
          have fqR2 := Blk.free qR10 2
          have fqR3 := Blk.free qR10 3
          have fqR4 := Blk.free qR10 4
          have fqR5 := Blk.free qR10 5
          have lqR := Blk.lt qR10
          go_wp2
          exact bodyPost_ret (v := .agg #[.bool true, .int .i64 s2, .int .i64 a2, .int .i64 o2, .int .i64 t2, .bool true]) (by simp [results, Try.results26, go_sem, cqR0, fqR0, cqR1, fqR1, cqR2, fqR2, cqR3, fqR3, cqR4, fqR4, cqR5, fqR5]) rfl ⟨true, s2, a2, o2, t2, true, rfl, ((((((k10.set (by first | omega | (simp only; omega)) _).set (by first | omega | (simp only; omega)) _).set (by first | omega | (simp only; omega)) _).set (by first | omega | (simp only; omega)) _).set (by first | omega | (simp only; omega)) _).set (by first | omega | (simp only; omega)) _), _, by omega, ((((((r10.set (by have := r10.Bg; first | omega | (simp only; omega)) (by first | omega | (simp only; omega)) _).set (by have := r10.Bg; first | omega | (simp only; omega)) (by first | omega | (simp only; omega)) _).set (by have := r10.Bg; first | omega | (simp only; omega)) (by first | omega | (simp only; omega)) _).set (by have := r10.Bg; first | omega | (simp only; omega)) (by first | omega | (simp only; omega)) _).set (by have := r10.Bg; first | omega | (simp only; omega)) (by first | omega | (simp only; omega)) _).set (by have := r10.Bg; first | omega | (simp only; omega)) (by first | omega | (simp only; omega)) _)⟩
        · have cqP1 : w9.cell? ⟨P, 1, none⟩ = some (.int .i64 s2) := by rw [Blk.cell qP9]; rfl
          have fqP1 := Blk.free qP9 1
          have qP10 : Blk (w9.setCell ⟨P, 1, none⟩ (.int .i64 7)) P #[.bool R2, .int .i64 7, .int .i64 a2, .int .i64 o2, .int .i64 t2, .bool d2] 56 := qP9.s61
          have qR10 : Blk (w9.setCell ⟨P, 1, none⟩ (.int .i64 7)) w.heap.size #[.bool false, .int .i64 0, .int .i64 0, .int .i64 0, .int .i64 0, .bool false] 56 := (qR9.off (by first | omega | (simp only; omega)) _)
          have k10 : Onb g w (w9.setCell ⟨P, 1, none⟩ (.int .i64 7)) := (k9.set (by first | omega | (simp only; omega)) _)
          have r10 : Rd (w9.setCell ⟨P, 1, none⟩ (.int .i64 7)) g B A len cap _ := (r9.set (by have := r9.Bg; first | omega | (simp only; omega)) (by first | omega | (simp only; omega)) _)
          have cqP0 : (w9.setCell ⟨P, 1, none⟩ (.int .i64 7)).cell? ⟨P, 0, none⟩ = some (.bool R2) := by rw [Blk.cell qP10]; rfl
          have cqP1 : (w9.setCell ⟨P, 1, none⟩ (.int .i64 7)).cell? ⟨P, 1, none⟩ = some (.int .i64 7) := by rw [Blk.cell qP10]; rfl
          have cqP2 : (w9.setCell ⟨P, 1, none⟩ (.int .i64 7)).cell? ⟨P, 2, none⟩ = some (.int .i64 a2) := by rw [Blk.cell qP10]; rfl
          have cqP3 : (w9.setCell ⟨P, 1, none⟩ (.int .i64 7)).cell? ⟨P, 3, none⟩ = some (.int .i64 o2) := by rw [Blk.cell qP10]; rfl
          have cqP4 : (w9.setCell ⟨P, 1, none⟩ (.int .i64 7)).cell? ⟨P, 4, none⟩ = some (.int .i64 t2) := by rw [Blk.cell qP10]; rfl
          have cqP5 : (w9.setCell ⟨P, 1, none⟩ (.int .i64 7)).cell? ⟨P, 5, none⟩ = some (.bool d2) := by rw [Blk.cell qP10]; rfl
          have lqP := Blk.lt qP10
          have cqR0 : (w9.setCell ⟨P, 1, none⟩ (.int .i64 7)).cell? ⟨w.heap.size, 0, none⟩ = some (.bool false) := by rw [Blk.cell qR10]; rfl
          have cqR1 : (w9.setCell ⟨P, 1, none⟩ (.int .i64 7)).cell? ⟨w.heap.size, 1, none⟩ = some (.int .i64 0) := by rw [Blk.cell qR10]; rfl
          have cqR2 : (w9.setCell ⟨P, 1, none⟩ (.int .i64 7)).cell? ⟨w.heap.size, 2, none⟩ = some (.int .i64 0) := by rw [Blk.cell qR10]; rfl
          have cqR3 : (w9.setCell ⟨P, 1, none⟩ (.int .i64 7)).cell? ⟨w.heap.size, 3, none⟩ = some (.int .i64 0) := by rw [Blk.cell qR10]; rfl
          have cqR4 : (w9.setCell ⟨P, 1, none⟩ (.int .i64 7)).cell? ⟨w.heap.size, 4, none⟩ = some (.int .i64 0) := by rw [Blk.cell qR10]; rfl
          have cqR5 : (w9.setCell ⟨P, 1, none⟩ (.int .i64 7)).cell? ⟨w.heap.size, 5, none⟩ = some (.bool false) := by rw [Blk.cell qR10]; rfl
          have fqR0 := Blk.free qR10 0
          have fqR1 := Blk.free qR10 1
          have fqR2 := Blk.free qR10 2
          have fqR3 := Blk.free qR10 3
          have fqR4 := Blk.free qR10 4
          have fqR5 := Blk.free qR10 5
          have lqR := Blk.lt qR10
          go_wp2
          exact bodyPost_ret (v := .agg #[.bool R2, .int .i64 7, .int .i64 a2, .int .i64 o2, .int .i64 t2, .bool d2]) (by simp [results, Try.results26, go_sem, cqR0, fqR0, cqR1, fqR1, cqR2, fqR2, cqR3, fqR3, cqR4, fqR4, cqR5, fqR5]) rfl ⟨R2, 7, a2, o2, t2, d2, rfl, ((((((k10.set (by first | omega | (simp only; omega)) _).set (by first | omega | (simp only; omega)) _).set (by first | omega | (simp only; omega)) _).set (by first | omega | (simp only; omega)) _).set (by first | omega | (simp only; omega)) _).set (by first | omega | (simp only; omega)) _), _, by omega, ((((((r10.set (by have := r10.Bg; first | omega | (simp only; omega)) (by first | omega | (simp only; omega)) _).set (by have := r10.Bg; first | omega | (simp only; omega)) (by first | omega | (simp only; omega)) _).set (by have := r10.Bg; first | omega | (simp only; omega)) (by first | omega | (simp only; omega)) _).set (by have := r10.Bg; first | omega | (simp only; omega)) (by first | omega | (simp only; omega)) _).set (by have := r10.Bg; first | omega | (simp only; omega)) (by first | omega | (simp only; omega)) _).set (by have := r10.Bg; first | omega | (simp only; omega)) (by first | omega | (simp only; omega)) _)⟩
        · have cqP0 : w9.cell? ⟨P, 0, none⟩ = some (.bool R2) := by rw [Blk.cell qP9]; rfl
          have cqP1 : w9.cell? ⟨P, 1, none⟩ = some (.int .i64 s2) := by rw [Blk.cell qP9]; rfl
          have cqP2 : w9.cell? ⟨P, 2, none⟩ = some (.int .i64 a2) := by rw [Blk.cell qP9]; rfl
          have cqP3 : w9.cell? ⟨P, 3, none⟩ = some (.int .i64 o2) := by rw [Blk.cell qP9]; rfl
          have fqP0 := Blk.free qP9 0
          have fqP1 := Blk.free qP9 1
          have fqP2 := Blk.free qP9 2
          have fqP3 := Blk.free qP9 3
          have qP10 : Blk ((((w9.setCell ⟨P, 0, none⟩ (.bool true)).setCell ⟨P, 1, none⟩ (.int .i64 1)).setCell ⟨P, 2, none⟩ (.int .i64 0)).setCell ⟨P, 3, none⟩ (.int .i64 0)) P #[.bool true, .int .i64 1, .int .i64 0, .int .i64 0, .int .i64 t2, .bool d2] 56 := qP9.s60.s61.s62.s63
          have qR10 : Blk ((((w9.setCell ⟨P, 0, none⟩ (.bool true)).setCell ⟨P, 1, none⟩ (.int .i64 1)).setCell ⟨P, 2, none⟩ (.int .i64 0)).setCell ⟨P, 3, none⟩ (.int .i64 0)) w.heap.size #[.bool false, .int .i64 0, .int .i64 0, .int .i64 0, .int .i64 0, .bool false] 56 := ((((qR9.off (by first | omega | (simp only; omega)) _).off (by first | omega | (simp only; omega)) _).off (by first | omega | (simp only; omega)) _).off (by first | omega | (simp only; omega)) _)
          have k10 : Onb g w ((((w9.setCell ⟨P, 0, none⟩ (.bool true)).setCell ⟨P, 1, none⟩ (.int .i64 1)).setCell ⟨P, 2, none⟩ (.int .i64 0)).setCell ⟨P, 3, none⟩ (.int .i64 0)) := ((((k9.set (by first | omega | (simp only; omega)) _).set (by first | omega | (simp only; omega)) _).set (by first | omega | (simp only; omega)) _).set (by first | omega | (simp only; omega)) _)
          have r10 : Rd ((((w9.setCell ⟨P, 0, none⟩ (.bool true)).setCell ⟨P, 1, none⟩ (.int .i64 1)).setCell ⟨P, 2, none⟩ (.int .i64 0)).setCell ⟨P, 3, none⟩ (.int .i64 0)) g B A len cap _ := ((((r9.set (by have := r9.Bg; first | omega | (simp only; omega)) (by first | omega | (simp only; omega)) _).set (by have := r9.Bg; first | omega | (simp only; omega)) (by first | omega | (simp only; omega)) _).set (by have := r9.Bg; first | omega | (simp only; omega)) (by first | omega | (simp only; omega)) _).set (by have := r9.Bg; first | omega | (simp only; omega)) (by first | omega | (simp only; omega)) _)
          have cqP0 : ((((w9.setCell ⟨P, 0, none⟩ (.bool true)).setCell ⟨P, 1, none⟩ (.int .i64 1)).setCell ⟨P, 2, none⟩ (.int .i64 0)).setCell ⟨P, 3, none⟩ (.int .i64 0)).cell? ⟨P, 0, none⟩ = some (.bool true) := by rw [Blk.cell qP10]; rfl
          have cqP1 : ((((w9.setCell ⟨P, 0, none⟩ (.bool true)).setCell ⟨P, 1, none⟩ (.int .i64 1)).setCell ⟨P, 2, none⟩ (.int .i64 0)).setCell ⟨P, 3, none⟩ (.int .i64 0)).cell? ⟨P, 1, none⟩ = some (.int .i64 1) := by rw [Blk.cell qP10]; rfl
          have cqP2 : ((((w9.setCell ⟨P, 0, none⟩ (.bool true)).setCell ⟨P, 1, none⟩ (.int .i64 1)).setCell ⟨P, 2, none⟩ (.int .i64 0)).setCell ⟨P, 3, none⟩ (.int .i64 0)).cell? ⟨P, 2, none⟩ = some (.int .i64 0) := by rw [Blk.cell qP10]; rfl
          have cqP3 : ((((w9.setCell ⟨P, 0, none⟩ (.bool true)).setCell ⟨P, 1, none⟩ (.int .i64 1)).setCell ⟨P, 2, none⟩ (.int .i64 0)).setCell ⟨P, 3, none⟩ (.int .i64 0)).cell? ⟨P, 3, none⟩ = some (.int .i64 0) := by rw [Blk.cell qP10]; rfl
          have cqP4 : ((((w9.setCell ⟨P, 0, none⟩ (.bool true)).setCell ⟨P, 1, none⟩ (.int .i64 1)).setCell ⟨P, 2, none⟩ (.int .i64 0)).setCell ⟨P, 3, none⟩ (.int .i64 0)).cell? ⟨P, 4, none⟩ = some (.int .i64 t2) := by rw [Blk.cell qP10]; rfl
          have cqP5 : ((((w9.setCell ⟨P, 0, none⟩ (.bool true)).setCell ⟨P, 1, none⟩ (.int .i64 1)).setCell ⟨P, 2, none⟩ (.int .i64 0)).setCell ⟨P, 3, none⟩ (.int .i64 0)).cell? ⟨P, 5, none⟩ = some (.bool d2) := by rw [Blk.cell qP10]; rfl
          have lqP := Blk.lt qP10
          have cqR0 : ((((w9.setCell ⟨P, 0, none⟩ (.bool true)).setCell ⟨P, 1, none⟩ (.int .i64 1)).setCell ⟨P, 2, none⟩ (.int .i64 0)).setCell ⟨P, 3, none⟩ (.int .i64 0)).cell? ⟨w.heap.size, 0, none⟩ = some (.bool false) := by rw [Blk.cell qR10]; rfl
          have cqR1 : ((((w9.setCell ⟨P, 0, none⟩ (.bool true)).setCell ⟨P, 1, none⟩ (.int .i64 1)).setCell ⟨P, 2, none⟩ (.int .i64 0)).setCell ⟨P, 3, none⟩ (.int .i64 0)).cell? ⟨w.heap.size, 1, none⟩ = some (.int .i64 0) := by rw [Blk.cell qR10]; rfl
          have cqR2 : ((((w9.setCell ⟨P, 0, none⟩ (.bool true)).setCell ⟨P, 1, none⟩ (.int .i64 1)).setCell ⟨P, 2, none⟩ (.int .i64 0)).setCell ⟨P, 3, none⟩ (.int .i64 0)).cell? ⟨w.heap.size, 2, none⟩ = some (.int .i64 0) := by rw [Blk.cell qR10]; rfl
          have cqR3 : ((((w9.setCell ⟨P, 0, none⟩ (.bool true)).setCell ⟨P, 1, none⟩ (.int .i64 1)).setCell ⟨P, 2, none⟩ (.int .i64 0)).setCell ⟨P, 3, none⟩ (.int .i64 0)).cell? ⟨w.heap.size, 3, none⟩ = some (.int .i64 0) := by rw [Blk.cell qR10]; rfl
          have cqR4 : ((((w9.setCell ⟨P, 0, none⟩ (.bool true)).setCell ⟨P, 1, none⟩ (.int .i64 1)).setCell ⟨P, 2, none⟩ (.int .i64 0)).setCell ⟨P, 3, none⟩ (.int .i64 0)).cell? ⟨w.heap.size, 4, none⟩ = some (.int .i64 0) := by rw [Blk.cell qR10]; rfl
          have cqR5 : ((((w9.setCell ⟨P, 0, none⟩ (.bool true)).setCell ⟨P, 1, none⟩ (.int .i64 1)).setCell ⟨P, 2, none⟩ (.int .i64 0)).setCell ⟨P, 3, none⟩ (.int .i64 0)).cell? ⟨w.heap.size, 5, none⟩ = some (.bool false) := by rw [Blk.cell qR10]; rfl
          have fqR0 := Blk.free qR10 0
          have fqR1 := Blk.free qR10 1
          have fqR2 := Blk.free qR10 2
          have fqR3 := Blk.free qR10 3
          have fqR4 := Blk.free qR10 4
          have fqR5 := Blk.free qR10 5
          have lqR := Blk.lt qR10
          go_wp2
          exact bodyPost_ret (v := .agg #[.bool true, .int .i64 1, .int .i64 0, .int .i64 0, .int .i64 t2, .bool d2]) (by simp [results, Try.results26, go_sem, cqR0, fqR0, cqR1, fqR1, cqR2, fqR2, cqR3, fqR3, cqR4, fqR4, cqR5, fqR5]) rfl ⟨true, 1, 0, 0, t2, d2, rfl, ((((((k10.set (by first | omega | (simp only; omega)) _).set (by first | omega | (simp only; omega)) _).set (by first | omega | (simp only; omega)) _).set (by first | omega | (simp only; omega)) _).set (by first | omega | (simp only; omega)) _).set (by first | omega | (simp only; omega)) _), _, by omega, ((((((r10.set (by have := r10.Bg; first | omega | (simp only; omega)) (by first | omega | (simp only; omega)) _).set (by have := r10.Bg; first | omega | (simp only; omega)) (by first | omega | (simp only; omega)) _).set (by have := r10.Bg; first | omega | (simp only; omega)) (by first | omega | (simp only; omega)) _).set (by have := r10.Bg; first | omega | (simp only; omega)) (by first | omega | (simp only; omega)) _).set (by have := r10.Bg; first | omega | (simp only; omega)) (by first | omega | (simp only; omega)) _).set (by have := r10.Bg; first | omega | (simp only; omega)) (by first | omega | (simp only; omega)) _)⟩
end Go.Proofs.Ytaieamobjbckdaa
