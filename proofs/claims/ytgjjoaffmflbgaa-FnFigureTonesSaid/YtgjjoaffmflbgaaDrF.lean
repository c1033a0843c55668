/- A key, a bass pitch and a figure, drawn. -/
import Derived.Test.YtgjjoaffmflbgaaCtu
import Derived.Test.YtgjjoaffmflbgaaDrP
import Derived.Deep.RegionWith
namespace Go.Proofs.Ytgjjoaffmflbgaa
set_option linter.unusedSimpArgs false
set_option linter.unusedVariables false
open Go.RowKit

theorem lit_fig {v : Int} (v0 : 0 ≤ v) (v1 : v < 6) : ∃ t : Int, ∀ h, (#[Value.int .i64 5, Value.int .i64 6, Value.int .i64 4, Value.int .i64 7, Value.int .i64 5, Value.int .i64 3] : Array Value)[v.toNat]'h = .int .i64 t := by
  rcases (show v = 0 ∨ v = 1 ∨ v = 2 ∨ v = 3 ∨ v = 4 ∨ v = 5 from by omega) with rfl | rfl | rfl | rfl | rfl | rfl <;> exact ⟨_, fun _ => rfl⟩
def DrN1 (w : World) (g B p : Nat) (A : Option Addr) (len cap : Nat) (e : Ending) (w' : World) : Prop :=
  ∃ f : Int, e = .returned (.int .i64 f) ∧ Onb g w w' ∧ ∃ p', p' ≤ p + 4 ∧ Rd w' g B A len cap p'
def DrB (w : World) (g B p : Nat) (A : Option Addr) (len cap : Nat) (e : Ending) (w' : World) : Prop :=
  ∃ s a o : Int, e = .returned (.agg #[.int .i64 s, .int .i64 a, .int .i64 o]) ∧ Onb g w w' ∧ ∃ p', p' ≤ p + 2 ∧ Rd w' g B A len cap p'
set_option maxHeartbeats 4000000 in
theorem fifths_any (w : World) (g B p : Nat) (A : Option Addr) (len cap : Nat) (m : Int) (h : Rd w g B A len cap p) (hp : p < 1000000) :
    Calls Try.prog 36 #[.pointer (some ⟨g, 0, none⟩), .int .i64 m] w (DrN1 w g B p A len cap) := by
  have hg := h.gl
  have r0 := h
  have k0 := Onb.refl g w
  go_enter Try.func36, Try.ntmps36
  go_wp2_with fail
  refine (odd_any _ _ _ _ _ _ _ _ r0 (by omega)).mono ?_
  rintro e w1 ⟨b, rfl, _, o1, p1, hp1, r1⟩
  have k1 := (k0).trans (Onb.of_onl o1)
  have hg1 := r1.gl
  clear r0 k0 o1
  cases b
  · go_wp2_with fail
    refine (pick_fr _ _ _ _ _ _ _ _ r1 (by omega)).mono ?_
    rintro e w2 ⟨x, rfl, ⟨x0, x1, _⟩, o2, r2⟩
    have k2 := (k1).trans (Onb.of_onl o2)
    have hg2 := r2.gl
    have x1 := x1 (by omega)
    clear r1 k1 o2
    go_wp2_with fail
    refine (pick_fr _ _ _ _ _ _ _ _ r2 (by omega)).mono ?_
    rintro e w3 ⟨y, rfl, ⟨y0, y1, _⟩, o3, r3⟩
    have k3 := (k2).trans (Onb.of_onl o3)
    have hg3 := r3.gl
    have y1 := y1 (by omega)
    clear r2 k2 o3
    go_wp2_with fail
    refine (pick_fr _ _ _ _ _ _ _ _ (r3.alloc _) (by omega)).mono ?_
    rintro e w4 ⟨z, rfl, ⟨z0, z1, _⟩, o4, r4⟩
    have k4 := ((k3.alloc _)).trans (Onb.of_onl o4)
    have hg4 := r4.gl
    have z1 := z1 (by omega)
    obtain ⟨uz, _, huz⟩ := lit_at (w := w4) (b := w3.heap.size) (xs := [x - 7, 0, y - 2]) ((o4.block _ (by omega)).trans (heap_alloc_new w3 _)) z0 z1
    clear r3 k3 o4
    go_wp2
    exact bodyPost_ret (v := .int .i64 uz) (by simp [results, Try.results36, go_sem]) rfl ⟨_, rfl, k4, _, by omega, r4⟩
  · go_wp2_with fail
    refine (pick_fr _ _ _ _ _ _ _ _ (r1.alloc _) (by omega)).mono ?_
    rintro e w2 ⟨v, rfl, ⟨v0, v1, _⟩, o2, r2⟩
    have k2 := ((k1.alloc _)).trans (Onb.of_onl o2)
    have hg2 := r2.gl
    have v1 := v1 (by omega)
    obtain ⟨uv, _, huv⟩ := lit_at (w := w2) (b := w1.heap.size) (xs := [-8, 8]) ((o2.block _ (by omega)).trans (heap_alloc_new w1 _)) v0 v1
    clear r1 k1 o2
    go_wp2
    exact bodyPost_ret (v := .int .i64 uv) (by simp [results, Try.results36, go_sem]) rfl ⟨_, rfl, k2, _, by omega, r2⟩
set_option maxHeartbeats 4000000 in
theorem bass_any (w : World) (g B p : Nat) (A : Option Addr) (len cap : Nat) (f : Int) (h : Rd w g B A len cap p) (hp : p < 1000000) :
    Calls Try.prog 37 #[.pointer (some ⟨g, 0, none⟩), .int .i64 f] w (DrB w g B p A len cap) := by
  have hg := h.gl
  go_enter Try.func37, Try.ntmps37
  go_wp2_with fail
  have qR0 : Blk (w.alloc (.cells #[.int .i64 0, .int .i64 0, .int .i64 0] 26)) w.heap.size #[.int .i64 0, .int .i64 0, .int .i64 0] 26 := Blk.new w _ _
  have r0 := h.alloc (.cells #[.int .i64 0, .int .i64 0, .int .i64 0] 26)
  have k0 := (Onb.refl g w).alloc (.cells #[.int .i64 0, .int .i64 0, .int .i64 0] 26)
  generalize (w.alloc (.cells #[.int .i64 0, .int .i64 0, .int .i64 0] 26)) = w0 at *
  go_wp2_with fail
  refine (pick_fr _ _ _ _ _ _ _ _ r0 (by omega)).mono ?_
  rintro e w1 ⟨x, rfl, ⟨x0, x1, _⟩, o1, r1⟩
  have k1 := (k0).trans (Onb.of_onl o1)
  have qR1 := (qR0).onl o1 (by omega)
  have hg1 := r1.gl
  have x1 := x1 (by omega)
  clear r0 k0 o1 qR0
  go_wp2_with fail
  refine (ska_any f x _).mono ?_
  rintro e w2 ⟨rfl, b2⟩
  have r2 := r1.below b2
  have k2 := k1.trans (Onb.of_bel b2)
  have qR2 := qR1.below b2
  have hg2 := r2.gl
  clear r1 k1 qR1 b2
  go_wp2_with fail
  refine (pick_fr _ _ _ _ _ _ _ _ r2 (by omega)).mono ?_
  rintro e w3 ⟨y, rfl, ⟨y0, y1, _⟩, o3, r3⟩
  have k3 := (k2).trans (Onb.of_onl o3)
  have qR3 := (qR2).onl o3 (by omega)
  have hg3 := r3.gl
  have y1 := y1 (by omega)
  clear r2 k2 o3 qR2
  have cqR0 : w3.cell? ⟨w.heap.size, 0, none⟩ = some (.int .i64 0) := by rw [Blk.cell qR3]; rfl
  have cqR1 : w3.cell? ⟨w.heap.size, 1, none⟩ = some (.int .i64 0) := by rw [Blk.cell qR3]; rfl
  have cqR2 : w3.cell? ⟨w.heap.size, 2, none⟩ = some (.int .i64 0) := by rw [Blk.cell qR3]; rfl
  have fqR0 := Blk.free qR3 0
  have fqR1 := Blk.free qR3 1
  have fqR2 := Blk.free qR3 2
  have lqR := Blk.lt qR3
  have xk := kaI_bd f x
  go_wp2
  exact bodyPost_ret (v := .agg #[.int .i64 x, .int .i64 (kaI f x), .int .i64 (2 + y)]) (by simp [results, Try.results37, go_sem, cqR0, fqR0, cqR1, fqR1, cqR2, fqR2]) rfl ⟨x, kaI f x, 2 + y, rfl, (((k3.set (by first | omega | (simp only; omega)) _).set (by first | omega | (simp only; omega)) _).set (by first | omega | (simp only; omega)) _), _, by omega, (((r3.set (by have := r3.Bg; first | omega | (simp only; omega)) (by first | omega | (simp only; omega)) _).set (by have := r3.Bg; first | omega | (simp only; omega)) (by first | omega | (simp only; omega)) _).set (by have := r3.Bg; first | omega | (simp only; omega)) (by first | omega | (simp only; omega)) _)⟩
def DrFg (w : World) (e : Ending) (w' : World) : Prop := ∃ f s a o g : Int, e = .returned (.tuple #[.int .i64 f, .agg #[.int .i64 s, .int .i64 a, .int .i64 o], .int .i64 g]) ∧ Below w.heap.size w w'
set_option maxHeartbeats 8000000 in
theorem DrawFigureTones_any (w : World) (A : Option Addr) (len cap : Nat) (h : Cod w A len cap) : Calls Try.prog 13 #[.slice A len cap] w (DrFg w) := by
  go_enter Try.func13, Try.ntmps13
  go_wp2_with fail
  have bR : Blk (w.alloc (.cells #[.int .i64 0, .int .i64 0, .int .i64 0] 26)) w.heap.size #[.int .i64 0, .int .i64 0, .int .i64 0] 26 := Blk.new w _ _
  have b0 : Below w.heap.size w (w.alloc (.cells #[.int .i64 0, .int .i64 0, .int .i64 0] 26)) := bel_al (bel_refl w) _
  generalize (w.alloc (.cells #[.int .i64 0, .int .i64 0, .int .i64 0] 26)) = w0 at *
  refine (open_eq _ A len cap h.lc h.cm).mono ?_
  rintro e w1 ⟨rfl, rfl⟩
  have r1 := h.rd b0
  have hgR : w.heap.size < w0.heap.size := bR.lt
  have qR1 := bR.alloc (.cells #[.slice A (min len 2000) cap, .int .i64 0] 70)
  have k1 : Onb w0.heap.size w0 (w0.alloc (.cells #[.slice A (min len 2000) cap, .int .i64 0] 70)) := Onb.of_bel (bel_al (bel_refl _) _)
  have hg1 := r1.gl
  have hsz : w.heap.size ≤ w0.heap.size := b0.size
  clear bR
  generalize hW1 : w0.alloc (.cells #[.slice A (min len 2000) cap, .int .i64 0] 70) = w1 at *
  generalize hgg : w0.heap.size = g at *
  clear hW1
  generalize min len 2000 = len' at *
  go_wp2_with fail
  refine (fifths_any _ _ _ _ _ _ _ _ r1 (by omega)).mono ?_
  rintro e w2 ⟨f, rfl, o2, p2, hp2, r2⟩
  have k2 := (k1).trans (o2)
  have qR2 := (qR1).onb o2 (by omega)
  have hg2 := r2.gl
  clear r1 k1 o2 qR1
  go_wp2_with fail
  refine (bass_any _ _ _ _ _ _ _ f r2 (by omega)).mono ?_
  rintro e w3 ⟨s, a, o, rfl, o3, p3, hp3, r3⟩
  have k3 := (k2).trans (o3)
  have qR3 := (qR2).onb o3 (by omega)
  have hg3 := r3.gl
  clear r2 k2 o3 qR2
  go_wp2_with fail
  have qP4 : Blk (w3.alloc (.cells #[.int .i64 s, .int .i64 a, .int .i64 o] 26)) w3.heap.size #[.int .i64 s, .int .i64 a, .int .i64 o] 26 := Blk.new w3 _ _
  have r4 := r3.alloc (.cells #[.int .i64 s, .int .i64 a, .int .i64 o] 26)
  have k4 := k3.alloc (.cells #[.int .i64 s, .int .i64 a, .int .i64 o] 26)
  have qR4 := qR3.alloc (.cells #[.int .i64 s, .int .i64 a, .int .i64 o] 26)
  have hP : w.heap.size < w3.heap.size := qR3.lt
  have hPg : g < w3.heap.size := hg3
  have hg4 : g < (w3.alloc (.cells #[.int .i64 s, .int .i64 a, .int .i64 o] 26)).heap.size := r4.gl
  clear r3 k3 qR3
  generalize (w3.alloc (.cells #[.int .i64 s, .int .i64 a, .int .i64 o] 26)) = w4 at *
  generalize w3.heap.size = P at *
  go_wp2_with fail
  refine (odd_any _ _ _ _ _ _ _ _ r4 (by omega)).mono ?_
  rintro e w5 ⟨b9, rfl, _, o5, p5, hp5, r5⟩
  have k5 := (k4).trans (Onb.of_onl o5)
  have qR5 := (qR4).onl o5 (by omega)
  have qP5 := (qP4).onl o5 (by omega)
  have hg5 := r5.gl
  clear r4 k4 o5 qR4 qP4
  cases b9
  · go_upto_region 6 with fail
    have cP0 : w5.cell? ⟨P, 0, none⟩ = some (.int .i64 s) := by rw [Blk.cell qP5]; rfl
    have cP1 : w5.cell? ⟨P, 1, none⟩ = some (.int .i64 a) := by rw [Blk.cell qP5]; rfl
    have cP2 : w5.cell? ⟨P, 2, none⟩ = some (.int .i64 o) := by rw [Blk.cell qP5]; rfl
    have lP := qP5.lt
    have lR0 := qR5.lt
    go_region_with (first | (go_at_call 40; refine (pick_fr _ _ ?_ ?_ ?_ ?_ ?_ (6) ?_ ?_).mono ?_; rotate_left 5; (focus (repeat (first | (with_reducible assumption) | (with_reducible refine Rd.drew ?_) | (with_reducible refine Rd.drewN ?_ _) | (with_reducible refine Rd.alloc ?_ _)))); (focus omega); rintro e w_q ⟨q, rfl, ⟨q0, q1, _⟩, o_q, r_q⟩; have q1 := q1 (by omega); have qPq : Blk w_q P #[.int .i64 s, .int .i64 a, .int .i64 o] 26 := (by first | exact (qP5.onl o_q (by omega)) | exact (qP5.drew.onl o_q (by omega)) | exact ((qP5.alloc _).onl o_q (by omega)) | exact ((qP5.drew.alloc _).onl o_q (by omega)) | exact ((qP5.alloc _).drew.onl o_q (by omega))); have qRq : Blk w_q w.heap.size #[.int .i64 0, .int .i64 0, .int .i64 0] 26 := (by first | exact (qR5.onl o_q (by omega)) | exact (qR5.drew.onl o_q (by omega)) | exact ((qR5.alloc _).onl o_q (by omega)) | exact ((qR5.drew.alloc _).onl o_q (by omega)) | exact ((qR5.alloc _).drew.onl o_q (by omega))); have kq : Onb g w0 w_q := (by repeat (first | (with_reducible assumption) | (with_reducible exact Onb.refl _ _) | (with_reducible refine Onb.drew ?_) | (with_reducible refine Onb.drewN ?_ _) | (with_reducible refine Onb.alloc ?_ _) | (with_reducible refine Onb.trans ?_ (Onb.of_onl (by with_reducible assumption))) | (with_reducible refine Onb.trans ?_ (by with_reducible assumption)))); (try have lq := fun o => o_q.cell (w5.heap.size) o (by omega)); obtain ⟨u, hu⟩ := lit_fig q0 q1; have _hu := hu (by simp; omega); have cP0 : w_q.cell? ⟨P, 0, none⟩ = some (.int .i64 s) := (by rw [Blk.cell qPq]; rfl); have cP1 : w_q.cell? ⟨P, 1, none⟩ = some (.int .i64 a) := (by rw [Blk.cell qPq]; rfl); have cP2 : w_q.cell? ⟨P, 2, none⟩ = some (.int .i64 o) := (by rw [Blk.cell qPq]; rfl); have cR0 : w_q.cell? ⟨w.heap.size, 0, none⟩ = some (.int .i64 0) := (by rw [Blk.cell qRq]; rfl); have fR0 := Blk.free qRq 0; have cR1 : w_q.cell? ⟨w.heap.size, 1, none⟩ = some (.int .i64 0) := (by rw [Blk.cell qRq]; rfl); have fR1 := Blk.free qRq 1; have cR2 : w_q.cell? ⟨w.heap.size, 2, none⟩ = some (.int .i64 0) := (by rw [Blk.cell qRq]; rfl); have fR2 := Blk.free qRq 2; have lR := qRq.lt; have lPq := qPq.lt))
    all_goals
      go_wp2
      exact bodyPost_ret (v := .tuple #[.int .i64 f, .agg #[.int .i64 s, .int .i64 a, .int .i64 o], .int .i64 u]) (by simp [results, Try.results13, go_sem, cR0, fR0, cR1, fR1, cR2, fR2, lR]) rfl ⟨f, s, a, o, u, rfl, by repeat (first | exact b0.trans (kq.below (by omega) (by omega)) | (refine bel_set ?_ (by first | (simp; done) | (simp only; omega)) _) | (with_reducible refine bel_dr ?_) | (with_reducible refine bel_al ?_ _) | (with_reducible refine bel_drN ?_ _))⟩
  · go_wp2_with fail
    refine (pitch_any _ _ _ _ _ _ _ _ r5 (by omega)).mono ?_
    rintro e w6 ⟨s2, a2, o2, rfl, o6, p6, hp6, r6⟩
    have k6 := (k5).trans (o6)
    have qR6 := (qR5).onb o6 (by omega)
    have qP6 := (qP5).onb o6 (by omega)
    have hg6 := r6.gl
    clear r5 k5 o6 qR5 qP5
    have cqP0 : w6.cell? ⟨P, 0, none⟩ = some (.int .i64 s) := by rw [Blk.cell qP6]; rfl
    have cqP1 : w6.cell? ⟨P, 1, none⟩ = some (.int .i64 a) := by rw [Blk.cell qP6]; rfl
    have cqP2 : w6.cell? ⟨P, 2, none⟩ = some (.int .i64 o) := by rw [Blk.cell qP6]; rfl
    have fqP0 := Blk.free qP6 0
    have fqP1 := Blk.free qP6 1
    have fqP2 := Blk.free qP6 2
    have lqP := Blk.lt qP6
    have hPs : w0.heap.size ≤ P := by omega
    go_upto_region 6 with fail
    have qP7 : Blk (((w6.setCell ⟨P, 0, none⟩ (.int .i64 s2)).setCell ⟨P, 1, none⟩ (.int .i64 a2)).setCell ⟨P, 2, none⟩ (.int .i64 o2)) P #[.int .i64 s2, .int .i64 a2, .int .i64 o2] 26 := qP6.set3
    have qR7 : Blk (((w6.setCell ⟨P, 0, none⟩ (.int .i64 s2)).setCell ⟨P, 1, none⟩ (.int .i64 a2)).setCell ⟨P, 2, none⟩ (.int .i64 o2)) w.heap.size #[.int .i64 0, .int .i64 0, .int .i64 0] 26 := (((qR6.off (by first | omega | (simp only; omega)) _).off (by first | omega | (simp only; omega)) _).off (by first | omega | (simp only; omega)) _)
    have k7 : Onb g w0 (((w6.setCell ⟨P, 0, none⟩ (.int .i64 s2)).setCell ⟨P, 1, none⟩ (.int .i64 a2)).setCell ⟨P, 2, none⟩ (.int .i64 o2)) := (((k6.set (by first | omega | (simp only; omega)) _).set (by first | omega | (simp only; omega)) _).set (by first | omega | (simp only; omega)) _)
    have r7 : Rd (((w6.setCell ⟨P, 0, none⟩ (.int .i64 s2)).setCell ⟨P, 1, none⟩ (.int .i64 a2)).setCell ⟨P, 2, none⟩ (.int .i64 o2)) g _ A len' cap _ := (((r6.set (by have := r6.Bg; first | omega | (simp only; omega)) (by first | omega | (simp only; omega)) _).set (by have := r6.Bg; first | omega | (simp only; omega)) (by first | omega | (simp only; omega)) _).set (by have := r6.Bg; first | omega | (simp only; omega)) (by first | omega | (simp only; omega)) _)
    clear qP6 qR6 k6 r6 cqP0 cqP1 cqP2 fqP0 fqP1 fqP2 lqP
    generalize (((w6.setCell ⟨P, 0, none⟩ (.int .i64 s2)).setCell ⟨P, 1, none⟩ (.int .i64 a2)).setCell ⟨P, 2, none⟩ (.int .i64 o2)) = w7 at *
    have hg7 := r7.gl
    have cP0 : w7.cell? ⟨P, 0, none⟩ = some (.int .i64 s2) := by rw [Blk.cell qP7]; rfl
    have cP1 : w7.cell? ⟨P, 1, none⟩ = some (.int .i64 a2) := by rw [Blk.cell qP7]; rfl
    have cP2 : w7.cell? ⟨P, 2, none⟩ = some (.int .i64 o2) := by rw [Blk.cell qP7]; rfl
    have lP := qP7.lt
    have lR0 := qR7.lt
    go_region_with (first | (go_at_call 40; refine (pick_fr _ _ ?_ ?_ ?_ ?_ ?_ (6) ?_ ?_).mono ?_; rotate_left 5; (focus (repeat (first | (with_reducible assumption) | (with_reducible refine Rd.drew ?_) | (with_reducible refine Rd.drewN ?_ _) | (with_reducible refine Rd.alloc ?_ _)))); (focus omega); rintro e w_q ⟨q, rfl, ⟨q0, q1, _⟩, o_q, r_q⟩; have q1 := q1 (by omega); have qPq : Blk w_q P #[.int .i64 s2, .int .i64 a2, .int .i64 o2] 26 := (by first | exact (qP7.onl o_q (by omega)) | exact (qP7.drew.onl o_q (by omega)) | exact ((qP7.alloc _).onl o_q (by omega)) | exact ((qP7.drew.alloc _).onl o_q (by omega)) | exact ((qP7.alloc _).drew.onl o_q (by omega))); have qRq : Blk w_q w.heap.size #[.int .i64 0, .int .i64 0, .int .i64 0] 26 := (by first | exact (qR7.onl o_q (by omega)) | exact (qR7.drew.onl o_q (by omega)) | exact ((qR7.alloc _).onl o_q (by omega)) | exact ((qR7.drew.alloc _).onl o_q (by omega)) | exact ((qR7.alloc _).drew.onl o_q (by omega))); have kq : Onb g w0 w_q := (by repeat (first | (with_reducible assumption) | (with_reducible exact Onb.refl _ _) | (with_reducible refine Onb.drew ?_) | (with_reducible refine Onb.drewN ?_ _) | (with_reducible refine Onb.alloc ?_ _) | (with_reducible refine Onb.trans ?_ (Onb.of_onl (by with_reducible assumption))) | (with_reducible refine Onb.trans ?_ (by with_reducible assumption)))); (try have lq := fun o => o_q.cell (w7.heap.size) o (by omega)); obtain ⟨u, hu⟩ := lit_fig q0 q1; have _hu := hu (by simp; omega); have cP0 : w_q.cell? ⟨P, 0, none⟩ = some (.int .i64 s2) := (by rw [Blk.cell qPq]; rfl); have cP1 : w_q.cell? ⟨P, 1, none⟩ = some (.int .i64 a2) := (by rw [Blk.cell qPq]; rfl); have cP2 : w_q.cell? ⟨P, 2, none⟩ = some (.int .i64 o2) := (by rw [Blk.cell qPq]; rfl); have cR0 : w_q.cell? ⟨w.heap.size, 0, none⟩ = some (.int .i64 0) := (by rw [Blk.cell qRq]; rfl); have fR0 := Blk.free qRq 0; have cR1 : w_q.cell? ⟨w.heap.size, 1, none⟩ = some (.int .i64 0) := (by rw [Blk.cell qRq]; rfl); have fR1 := Blk.free qRq 1; have cR2 : w_q.cell? ⟨w.heap.size, 2, none⟩ = some (.int .i64 0) := (by rw [Blk.cell qRq]; rfl); have fR2 := Blk.free qRq 2; have lR := qRq.lt; have lPq := qPq.lt))
    all_goals
      go_wp2
      exact bodyPost_ret (v := .tuple #[.int .i64 f, .agg #[.int .i64 s2, .int .i64 a2, .int .i64 o2], .int .i64 u]) (by simp [results, Try.results13, go_sem, cR0, fR0, cR1, fR1, cR2, fR2, lR]) rfl ⟨f, s2, a2, o2, u, rfl, by repeat (first | exact b0.trans (kq.below (by omega) (by omega)) | (refine bel_set ?_ (by first | (simp; done) | (simp only; omega)) _) | (with_reducible refine bel_dr ?_) | (with_reducible refine bel_al ?_ _) | (with_reducible refine bel_drN ?_ _))⟩
end Go.Proofs.Ytgjjoaffmflbgaa
