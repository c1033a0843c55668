/- An interval, drawn. -/
import Derived.Test.YtpjakgnghpapmaaDrP
import Derived.Test.YtpjakgnghpapmaaIv
import Derived.Deep.RegionWith
namespace Go.Proofs.Ytpjakgnghpapmaa
set_option linter.unusedSimpArgs false
set_option linter.unusedVariables false
open Go.RowKit

theorem lit_nine {v : Int} (v0 : 0 ≤ v) (v1 : v < 2) : ∃ t : Int, (∀ h, (#[Value.int .i64 9, Value.int .i64 (-9)] : Array Value)[v.toNat]'h = .int .i64 t) ∧ -9 ≤ t ∧ t ≤ 9 := by
  rcases (show v = 0 ∨ v = 1 from by omega) with rfl | rfl <;> exact ⟨_, fun _ => rfl, by omega⟩
def DrW (w : World) (g B p : Nat) (A : Option Addr) (len cap : Nat) (e : Ending) (w' : World) : Prop :=
  ∃ s h : Int, e = .returned (.agg #[.int .i64 s, .int .i64 h]) ∧ Onb g w w' ∧ ∃ p', p' ≤ p + 6 ∧ Rd w' g B A len cap p'
set_option maxHeartbeats 8000000 in
theorem way_any (w : World) (g B p : Nat) (A : Option Addr) (len cap : Nat) (m : Int) (h : Rd w g B A len cap p) (hp : p < 1000000) :
    Calls Try.prog 71 #[.pointer (some ⟨g, 0, none⟩), .int .i64 m] w (DrW w g B p A len cap) := by
  have hg := h.gl
  go_enter Try.func71, Try.ntmps71
  go_wp2_with fail
  have qR0 : Blk (w.alloc (.cells #[.int .i64 0, .int .i64 0] 95)) w.heap.size #[.int .i64 0, .int .i64 0] 95 := Blk.new w _ _
  have r0 := h.alloc (.cells #[.int .i64 0, .int .i64 0] 95)
  have k0 := (Onb.refl g w).alloc (.cells #[.int .i64 0, .int .i64 0] 95)
  generalize (w.alloc (.cells #[.int .i64 0, .int .i64 0] 95)) = w0 at *
  go_wp2_with fail
  refine (pick_fr _ _ _ _ _ _ _ _ r0 (by omega)).mono ?_
  rintro e w1 ⟨x, rfl, ⟨x0, x1, _⟩, o1, r1⟩
  have k1 := (k0).trans (Onb.of_onl o1)
  have qR1 := (qR0).onl o1 (by omega)
  have hg1 := r1.gl
  have x1 := x1 (by omega)
  clear r0 k0 o1 qR0
  obtain ⟨y, hy⟩ : ∃ y, x - 7 = y := ⟨_, rfl⟩
  have y0 : -7 ≤ y := by omega
  have y1 : y ≤ 7 := by omega
  have iy := IntWalk.i64_in (x - 7) (by omega)
  rw [hy] at iy
  have HYX := Lib.hid hy
  by_cases hneg : y < 0
  · have h1 : y < -y := by omega
    have h2 : ¬ -y ≤ y := by omega
    have h3 : ¬ -y < y := by omega
    obtain ⟨z, hz⟩ : ∃ z, natI (-y) = z := ⟨_, rfl⟩
    obtain ⟨z0, z1⟩ := nat21 (s := (-y)) (by omega) (by omega)
    rw [hz] at z0 z1
    have HZ := Lib.hid hz
    clear hz
    go_wp2_with fail
    refine (nat_val HZ.out _ (by omega) (by omega)).mono ?_
    rintro e w2 ⟨rfl, b2⟩
    have r2 := r1.below b2
    have k2 := k1.trans (Onb.of_bel b2)
    have qR2 := qR1.below b2
    have hg2 := r2.gl
    clear r1 k1 qR1 b2
    go_wp2_with fail
    refine (pick_fr _ _ _ _ _ _ _ _ r2 (by omega)).mono ?_
    rintro e w3 ⟨v, rfl, ⟨v0, v1, _⟩, o3, r3⟩
    have k3 := (k2).trans (Onb.of_onl o3)
    have qR3 := (qR2).onl o3 (by omega)
    have hg3 := r3.gl
    have v1 := v1 (by omega)
    clear r2 k2 o3 qR2
    go_wp2_with fail
    refine (pick_fr _ _ _ _ _ _ _ _ (r3.alloc _) (by omega)).mono ?_
    rintro e w4 ⟨q, rfl, ⟨q0, q1, _⟩, o4, r4⟩
    have k4 := ((k3.alloc _)).trans (Onb.of_onl o4)
    have qR4 := ((qR3.alloc _)).onl o4 (by omega)
    have hg4 := r4.gl
    have q1 := q1 (by omega)
    obtain ⟨uq, muq, huq⟩ := lit_at (w := w4) (b := w3.heap.size) (xs := [0, 0, 0, -1, 1, v - 3]) ((o4.block _ (by omega)).trans (heap_alloc_new w3 _)) q0 q1
    clear r3 k3 o4 qR3
    have uq0 : -3 ≤ uq ∧ uq ≤ 3 := by simp at muq; omega
    clear muq
    obtain ⟨uq1, uq2⟩ := uq0
    obtain ⟨t, ht⟩ : ∃ t, z + uq = t := ⟨_, rfl⟩
    have t0 : -3 ≤ t := by omega
    have t1 : t ≤ 39 := by omega
    have it := IntWalk.i64_in (z + uq) (by omega)
    rw [ht] at it
    go_upto_region 3 with fail
    clear it iy huq
    have qP5 : Blk (w4.alloc (.cells #[.int .i64 y, .int .i64 t] 95)) w4.heap.size #[.int .i64 y, .int .i64 t] 95 := Blk.new w4 _ _
    have r5 := r4.alloc (.cells #[.int .i64 y, .int .i64 t] 95)
    have k5 := k4.alloc (.cells #[.int .i64 y, .int .i64 t] 95)
    have qR5 := qR4.alloc (.cells #[.int .i64 y, .int .i64 t] 95)
    have hP : w.heap.size < w4.heap.size := qR4.lt
    have hPg : g < w4.heap.size := hg4
    have hg5 : g < (w4.alloc (.cells #[.int .i64 y, .int .i64 t] 95)).heap.size := r5.gl
    clear r4 k4 qR4
    generalize (w4.alloc (.cells #[.int .i64 y, .int .i64 t] 95)) = w5 at *
    generalize w4.heap.size = P at *
    have cqP0 : w5.cell? ⟨P, 0, none⟩ = some (.int .i64 y) := by rw [Blk.cell qP5]; rfl
    have cqP1 : w5.cell? ⟨P, 1, none⟩ = some (.int .i64 t) := by rw [Blk.cell qP5]; rfl
    have fqP0 := Blk.free qP5 0
    have fqP1 := Blk.free qP5 1
    have lqP := Blk.lt qP5
    have hPs : w.heap.size ≤ P := by omega
    have fgP : ¬ P = g := by omega
    go_upto_region 5 with fail
    have qP6 : Blk (w5.setCell ⟨P, 1, none⟩ (.int .i64 (-t))) P #[.int .i64 y, .int .i64 (-t)] 95 := qP5.s21
    have qR6 : Blk (w5.setCell ⟨P, 1, none⟩ (.int .i64 (-t))) w.heap.size #[.int .i64 0, .int .i64 0] 95 := qR5.off (by first | omega | (simp only; omega)) _
    have k6 : Onb g w (w5.setCell ⟨P, 1, none⟩ (.int .i64 (-t))) := k5.set (by first | omega | (simp only; omega)) _
    have r6 : Rd (w5.setCell ⟨P, 1, none⟩ (.int .i64 (-t))) g B A len cap _ := r5.set (by have := r5.Bg; first | omega | (simp only; omega)) (by first | omega | (simp only; omega)) _
    clear qP5 qR5 k5 r5 cqP0 cqP1 fqP0 fqP1 lqP
    generalize (w5.setCell ⟨P, 1, none⟩ (.int .i64 (-t))) = w6 at *
    have hg6 := r6.gl
    obtain ⟨hh, hhh⟩ : ∃ hh, -t = hh := ⟨_, rfl⟩
    have hb0 : -40 ≤ hh := by omega
    have hb1 : hh ≤ 40 := by omega
    rw [hhh] at qP6
    clear hhh
    go_wp2_with fail
    refine (odd_any _ _ _ _ _ _ _ _ r6 (by omega)).mono ?_
    rintro e w7 ⟨b5, rfl, _, o7, p7, hp7, r7⟩
    have k7 := (k6).trans (Onb.of_onl o7)
    have qR7 := (qR6).onl o7 (by omega)
    have qP7 := (qP6).onl o7 (by omega)
    have hg7 := r7.gl
    clear r6 k6 o7 qR6 qP6
    cases b5
    · have cqP0 : w7.cell? ⟨P, 0, none⟩ = some (.int .i64 y) := by rw [Blk.cell qP7]; rfl
      have cqP1 : w7.cell? ⟨P, 1, none⟩ = some (.int .i64 hh) := by rw [Blk.cell qP7]; rfl
      have lqP := Blk.lt qP7
      have cqR0 : w7.cell? ⟨w.heap.size, 0, none⟩ = some (.int .i64 0) := by rw [Blk.cell qR7]; rfl
      have cqR1 : w7.cell? ⟨w.heap.size, 1, none⟩ = some (.int .i64 0) := by rw [Blk.cell qR7]; rfl
      have fqR0 := Blk.free qR7 0
      have fqR1 := Blk.free qR7 1
      have lqR := Blk.lt qR7
      have hRg : w.heap.size ≠ g := by omega
      go_wp2
      exact bodyPost_ret (v := .agg #[.int .i64 y, .int .i64 hh]) (by simp [results, Try.results71, go_sem, cqR0, fqR0, cqR1, fqR1]) rfl ⟨y, hh, rfl, ((k7.set (by first | omega | (simp only; omega)) _).set (by first | omega | (simp only; omega)) _), _, by omega, ((r7.set (by have := r7.Bg; first | omega | (simp only; omega)) (by first | omega | (simp only; omega)) _).set (by have := r7.Bg; first | omega | (simp only; omega)) (by first | omega | (simp only; omega)) _)⟩
    · go_wp2_with fail
      refine (pick_fr _ _ _ _ _ _ _ _ r7 (by omega)).mono ?_
      rintro e w8 ⟨c, rfl, ⟨c0, c1, _⟩, o8, r8⟩
      have k8 := (k7).trans (Onb.of_onl o8)
      have qR8 := (qR7).onl o8 (by omega)
      have qP8 := (qP7).onl o8 (by omega)
      have hg8 := r8.gl
      have c1 := c1 (by omega)
      clear r7 k7 o8 qR7 qP7
      rcases (show c = 0 ∨ c = 1 ∨ (¬ c = 0 ∧ ¬ c = 1) from by omega) with rfl | rfl | ⟨c2, c3⟩
      · go_upto_region 9 with fail
        have cP0 : w8.cell? ⟨P, 0, none⟩ = some (.int .i64 y) := by rw [Blk.cell qP8]; rfl
        have cP1 : w8.cell? ⟨P, 1, none⟩ = some (.int .i64 hh) := by rw [Blk.cell qP8]; rfl
        have lP := qP8.lt
        have lR0 := qR8.lt
        have hBg := r8.Bg
        have hBR : B ≤ w.heap.size := by omega
        have hBP : B ≤ P := by omega
        have hRg : w.heap.size ≠ g := by omega
        have hPg2 : P ≠ g := by omega
        have hPs : w.heap.size ≤ P := by omega
        have hPR : ¬ P = w.heap.size := by omega
        have hRP : ¬ w.heap.size = P := by omega
        go_region_with (first | (go_at_call 43; refine (pick_fr _ _ ?_ ?_ ?_ ?_ ?_ (2) ?_ ?_).mono ?_; rotate_left 5; (focus (repeat (first | (with_reducible assumption) | (with_reducible refine Rd.drew ?_) | (with_reducible refine Rd.drewN ?_ _) | (with_reducible refine Rd.alloc ?_ _)))); (focus omega); rintro e w_q ⟨nq, rfl, ⟨n0, n1, _⟩, o_q, r_q⟩; have n1 := n1 (by omega); have qPq : Blk w_q P #[.int .i64 y, .int .i64 hh] 95 := (by first | exact (qP8.onl o_q (by omega)) | exact (qP8.drew.onl o_q (by omega)) | exact ((qP8.alloc _).onl o_q (by omega)) | exact ((qP8.drew.alloc _).onl o_q (by omega)) | exact ((qP8.alloc _).drew.onl o_q (by omega))); have qRq : Blk w_q w.heap.size #[.int .i64 0, .int .i64 0] 95 := (by first | exact (qR8.onl o_q (by omega)) | exact (qR8.drew.onl o_q (by omega)) | exact ((qR8.alloc _).onl o_q (by omega)) | exact ((qR8.drew.alloc _).onl o_q (by omega)) | exact ((qR8.alloc _).drew.onl o_q (by omega))); have kq : Onb g w w_q := (by repeat (first | (with_reducible assumption) | (with_reducible exact Onb.refl _ _) | (with_reducible refine Onb.drew ?_) | (with_reducible refine Onb.drewN ?_ _) | (with_reducible refine Onb.alloc ?_ _) | (with_reducible refine Onb.trans ?_ (Onb.of_onl (by with_reducible assumption))) | (with_reducible refine Onb.trans ?_ (by with_reducible assumption)))); (try have lq := fun o => o_q.cell (w8.heap.size) o (by omega)); obtain ⟨u, hu, u0, u1⟩ := lit_nine n0 n1; have _hu := hu (by simp; omega); have cP0 : w_q.cell? ⟨P, 0, none⟩ = some (.int .i64 y) := (by rw [Blk.cell qPq]; rfl); have fP0 := Blk.free qPq 0; have cP1 : w_q.cell? ⟨P, 1, none⟩ = some (.int .i64 hh) := (by rw [Blk.cell qPq]; rfl); have fP1 := Blk.free qPq 1; have cR0 : w_q.cell? ⟨w.heap.size, 0, none⟩ = some (.int .i64 0) := (by rw [Blk.cell qRq]; rfl); have fR0 := Blk.free qRq 0; have cR1 : w_q.cell? ⟨w.heap.size, 1, none⟩ = some (.int .i64 0) := (by rw [Blk.cell qRq]; rfl); have fR1 := Blk.free qRq 1; have lR := qRq.lt; have lPq := qPq.lt))
        all_goals
          go_wp2
          exact bodyPost_ret (v := .agg #[.int .i64 y, .int .i64 (hh + u)]) (by simp [results, Try.results71, go_sem, cR0, fR0, cR1, fR1, lR, lPq, cP0, cP1, fP0, fP1]) rfl ⟨y, hh + u, rfl, by repeat (first | (with_reducible assumption) | (refine Onb.set ?_ (by first | exact Nat.le_refl _ | exact hPs) _) | (with_reducible refine Onb.drew ?_) | (with_reducible refine Onb.alloc ?_ _)), p7 + 1 + 1, by omega, by repeat (first | (with_reducible assumption) | (refine Rd.set ?_ (by first | exact hBR | exact hBP) (by first | exact hRg | exact hPg2) _) | (with_reducible refine Rd.drew ?_) | (with_reducible refine Rd.alloc ?_ _))⟩
      · go_wp2_with fail
        refine (pick_fr _ _ _ _ _ _ _ _ (r8.alloc _) (by omega)).mono ?_
        rintro e w9 ⟨n, rfl, ⟨n0, n1, _⟩, o9, r9⟩
        have k9 := ((k8.alloc _)).trans (Onb.of_onl o9)
        have qR9 := ((qR8.alloc _)).onl o9 (by omega)
        have qP9 := ((qP8.alloc _)).onl o9 (by omega)
        have hg9 := r9.gl
        have n1 := n1 (by omega)
        obtain ⟨un, _, hun⟩ := lit_at (w := w9) (b := w8.heap.size) (xs := [-22, 22]) ((o9.block _ (by omega)).trans (heap_alloc_new w8 _)) n0 n1
        clear r8 k8 o9 qR8 qP8
        have cqP0 : w9.cell? ⟨P, 0, none⟩ = some (.int .i64 y) := by rw [Blk.cell qP9]; rfl
        have cqP1 : w9.cell? ⟨P, 1, none⟩ = some (.int .i64 hh) := by rw [Blk.cell qP9]; rfl
        have fqP0 := Blk.free qP9 0
        have fqP1 := Blk.free qP9 1
        have lqP := Blk.lt qP9
        have hPs : w.heap.size ≤ P := by omega
        go_upto_region 12 with fail
        have qP10 : Blk (w9.setCell ⟨P, 0, none⟩ (.int .i64 un)) P #[.int .i64 un, .int .i64 hh] 95 := qP9.s20
        have qR10 : Blk (w9.setCell ⟨P, 0, none⟩ (.int .i64 un)) w.heap.size #[.int .i64 0, .int .i64 0] 95 := qR9.off (by first | omega | (simp only; omega)) _
        have k10 : Onb g w (w9.setCell ⟨P, 0, none⟩ (.int .i64 un)) := k9.set (by first | omega | (simp only; omega)) _
        have r10 : Rd (w9.setCell ⟨P, 0, none⟩ (.int .i64 un)) g B A len cap _ := r9.set (by have := r9.Bg; first | omega | (simp only; omega)) (by first | omega | (simp only; omega)) _
        clear qP9 qR9 k9 r9 cqP0 cqP1 fqP0 fqP1 lqP
        generalize (w9.setCell ⟨P, 0, none⟩ (.int .i64 un)) = w10 at *
        have hg10 := r10.gl
        have cqP0 : w10.cell? ⟨P, 0, none⟩ = some (.int .i64 un) := by rw [Blk.cell qP10]; rfl
        have cqP1 : w10.cell? ⟨P, 1, none⟩ = some (.int .i64 hh) := by rw [Blk.cell qP10]; rfl
        have lqP := Blk.lt qP10
        have cqR0 : w10.cell? ⟨w.heap.size, 0, none⟩ = some (.int .i64 0) := by rw [Blk.cell qR10]; rfl
        have cqR1 : w10.cell? ⟨w.heap.size, 1, none⟩ = some (.int .i64 0) := by rw [Blk.cell qR10]; rfl
        have fqR0 := Blk.free qR10 0
        have fqR1 := Blk.free qR10 1
        have lqR := Blk.lt qR10
        have hRg : w.heap.size ≠ g := by omega
        go_wp2
        exact bodyPost_ret (v := .agg #[.int .i64 un, .int .i64 hh]) (by simp [results, Try.results71, go_sem, cqR0, fqR0, cqR1, fqR1]) rfl ⟨un, hh, rfl, ((k10.set (by first | omega | (simp only; omega)) _).set (by first | omega | (simp only; omega)) _), _, by omega, ((r10.set (by have := r10.Bg; first | omega | (simp only; omega)) (by first | omega | (simp only; omega)) _).set (by have := r10.Bg; first | omega | (simp only; omega)) (by first | omega | (simp only; omega)) _)⟩
      · go_wp2_with fail
        refine (pick_fr _ _ _ _ _ _ _ _ (r8.alloc _) (by omega)).mono ?_
        rintro e w9 ⟨n, rfl, ⟨n0, n1, _⟩, o9, r9⟩
        have k9 := ((k8.alloc _)).trans (Onb.of_onl o9)
        have qR9 := ((qR8.alloc _)).onl o9 (by omega)
        have qP9 := ((qP8.alloc _)).onl o9 (by omega)
        have hg9 := r9.gl
        have n1 := n1 (by omega)
        obtain ⟨un, _, hun⟩ := lit_at (w := w9) (b := w8.heap.size) (xs := [61, -61, 9223372036854775807]) ((o9.block _ (by omega)).trans (heap_alloc_new w8 _)) n0 n1
        clear r8 k8 o9 qR8 qP8
        have cqP0 : w9.cell? ⟨P, 0, none⟩ = some (.int .i64 y) := by rw [Blk.cell qP9]; rfl
        have cqP1 : w9.cell? ⟨P, 1, none⟩ = some (.int .i64 hh) := by rw [Blk.cell qP9]; rfl
        have fqP0 := Blk.free qP9 0
        have fqP1 := Blk.free qP9 1
        have lqP := Blk.lt qP9
        have hPs : w.heap.size ≤ P := by omega
        go_upto_region 12 with fail
        have qP10 : Blk (w9.setCell ⟨P, 1, none⟩ (.int .i64 un)) P #[.int .i64 y, .int .i64 un] 95 := qP9.s21
        have qR10 : Blk (w9.setCell ⟨P, 1, none⟩ (.int .i64 un)) w.heap.size #[.int .i64 0, .int .i64 0] 95 := qR9.off (by first | omega | (simp only; omega)) _
        have k10 : Onb g w (w9.setCell ⟨P, 1, none⟩ (.int .i64 un)) := k9.set (by first | omega | (simp only; omega)) _
        have r10 : Rd (w9.setCell ⟨P, 1, none⟩ (.int .i64 un)) g B A len cap _ := r9.set (by have := r9.Bg; first | omega | (simp only; omega)) (by first | omega | (simp only; omega)) _
        clear qP9 qR9 k9 r9 cqP0 cqP1 fqP0 fqP1 lqP
        generalize (w9.setCell ⟨P, 1, none⟩ (.int .i64 un)) = w10 at *
        have hg10 := r10.gl
        have cqP0 : w10.cell? ⟨P, 0, none⟩ = some (.int .i64 y) := by rw [Blk.cell qP10]; rfl
        have cqP1 : w10.cell? ⟨P, 1, none⟩ = some (.int .i64 un) := by rw [Blk.cell qP10]; rfl
        have lqP := Blk.lt qP10
        have cqR0 : w10.cell? ⟨w.heap.size, 0, none⟩ = some (.int .i64 0) := by rw [Blk.cell qR10]; rfl
        have cqR1 : w10.cell? ⟨w.heap.size, 1, none⟩ = some (.int .i64 0) := by rw [Blk.cell qR10]; rfl
        have fqR0 := Blk.free qR10 0
        have fqR1 := Blk.free qR10 1
        have lqR := Blk.lt qR10
        have hRg : w.heap.size ≠ g := by omega
        go_wp2
        exact bodyPost_ret (v := .agg #[.int .i64 y, .int .i64 un]) (by simp [results, Try.results71, go_sem, cqR0, fqR0, cqR1, fqR1]) rfl ⟨y, un, rfl, ((k10.set (by first | omega | (simp only; omega)) _).set (by first | omega | (simp only; omega)) _), _, by omega, ((r10.set (by have := r10.Bg; first | omega | (simp only; omega)) (by first | omega | (simp only; omega)) _).set (by have := r10.Bg; first | omega | (simp only; omega)) (by first | omega | (simp only; omega)) _)⟩
  · have h1 : ¬ y < -y := by omega
    have h2 : -y ≤ y := by omega
    obtain ⟨z, hz⟩ : ∃ z, natI y = z := ⟨_, rfl⟩
    obtain ⟨z0, z1⟩ := nat21 (s := y) (by omega) (by omega)
    rw [hz] at z0 z1
    have HZ := Lib.hid hz
    clear hz
    go_wp2_with fail
    refine (nat_val HZ.out _ (by omega) (by omega)).mono ?_
    rintro e w2 ⟨rfl, b2⟩
    have r2 := r1.below b2
    have k2 := k1.trans (Onb.of_bel b2)
    have qR2 := qR1.below b2
    have hg2 := r2.gl
    clear r1 k1 qR1 b2
    go_wp2_with fail
    refine (pick_fr _ _ _ _ _ _ _ _ r2 (by omega)).mono ?_
    rintro e w3 ⟨v, rfl, ⟨v0, v1, _⟩, o3, r3⟩
    have k3 := (k2).trans (Onb.of_onl o3)
    have qR3 := (qR2).onl o3 (by omega)
    have hg3 := r3.gl
    have v1 := v1 (by omega)
    clear r2 k2 o3 qR2
    go_wp2_with fail
    refine (pick_fr _ _ _ _ _ _ _ _ (r3.alloc _) (by omega)).mono ?_
    rintro e w4 ⟨q, rfl, ⟨q0, q1, _⟩, o4, r4⟩
    have k4 := ((k3.alloc _)).trans (Onb.of_onl o4)
    have qR4 := ((qR3.alloc _)).onl o4 (by omega)
    have hg4 := r4.gl
    have q1 := q1 (by omega)
    obtain ⟨uq, muq, huq⟩ := lit_at (w := w4) (b := w3.heap.size) (xs := [0, 0, 0, -1, 1, v - 3]) ((o4.block _ (by omega)).trans (heap_alloc_new w3 _)) q0 q1
    clear r3 k3 o4 qR3
    have uq0 : -3 ≤ uq ∧ uq ≤ 3 := by simp at muq; omega
    clear muq
    obtain ⟨uq1, uq2⟩ := uq0
    obtain ⟨t, ht⟩ : ∃ t, z + uq = t := ⟨_, rfl⟩
    have t0 : -3 ≤ t := by omega
    have t1 : t ≤ 39 := by omega
    have it := IntWalk.i64_in (z + uq) (by omega)
    rw [ht] at it
    go_upto_region 3 with fail
    clear it iy huq
    have qP5 : Blk (w4.alloc (.cells #[.int .i64 y, .int .i64 t] 95)) w4.heap.size #[.int .i64 y, .int .i64 t] 95 := Blk.new w4 _ _
    have r5 := r4.alloc (.cells #[.int .i64 y, .int .i64 t] 95)
    have k5 := k4.alloc (.cells #[.int .i64 y, .int .i64 t] 95)
    have qR5 := qR4.alloc (.cells #[.int .i64 y, .int .i64 t] 95)
    have hP : w.heap.size < w4.heap.size := qR4.lt
    have hPg : g < w4.heap.size := hg4
    have hg5 : g < (w4.alloc (.cells #[.int .i64 y, .int .i64 t] 95)).heap.size := r5.gl
    clear r4 k4 qR4
    generalize (w4.alloc (.cells #[.int .i64 y, .int .i64 t] 95)) = w5 at *
    generalize w4.heap.size = P at *
    go_wp2_with fail
    refine (odd_any _ _ _ _ _ _ _ _ r5 (by omega)).mono ?_
    rintro e w6 ⟨b5, rfl, _, o6, p6, hp6, r6⟩
    have k6 := (k5).trans (Onb.of_onl o6)
    have qR6 := (qR5).onl o6 (by omega)
    have qP6 := (qP5).onl o6 (by omega)
    have hg6 := r6.gl
    clear r5 k5 o6 qR5 qP5
    cases b5
    · have cqP0 : w6.cell? ⟨P, 0, none⟩ = some (.int .i64 y) := by rw [Blk.cell qP6]; rfl
      have cqP1 : w6.cell? ⟨P, 1, none⟩ = some (.int .i64 t) := by rw [Blk.cell qP6]; rfl
      have lqP := Blk.lt qP6
      have cqR0 : w6.cell? ⟨w.heap.size, 0, none⟩ = some (.int .i64 0) := by rw [Blk.cell qR6]; rfl
      have cqR1 : w6.cell? ⟨w.heap.size, 1, none⟩ = some (.int .i64 0) := by rw [Blk.cell qR6]; rfl
      have fqR0 := Blk.free qR6 0
      have fqR1 := Blk.free qR6 1
      have lqR := Blk.lt qR6
      have hRg : w.heap.size ≠ g := by omega
      go_wp2
      exact bodyPost_ret (v := .agg #[.int .i64 y, .int .i64 t]) (by simp [results, Try.results71, go_sem, cqR0, fqR0, cqR1, fqR1]) rfl ⟨y, t, rfl, ((k6.set (by first | omega | (simp only; omega)) _).set (by first | omega | (simp only; omega)) _), _, by omega, ((r6.set (by have := r6.Bg; first | omega | (simp only; omega)) (by first | omega | (simp only; omega)) _).set (by have := r6.Bg; first | omega | (simp only; omega)) (by first | omega | (simp only; omega)) _)⟩
    · go_wp2_with fail
      refine (pick_fr _ _ _ _ _ _ _ _ r6 (by omega)).mono ?_
      rintro e w7 ⟨c, rfl, ⟨c0, c1, _⟩, o7, r7⟩
      have k7 := (k6).trans (Onb.of_onl o7)
      have qR7 := (qR6).onl o7 (by omega)
      have qP7 := (qP6).onl o7 (by omega)
      have hg7 := r7.gl
      have c1 := c1 (by omega)
      clear r6 k6 o7 qR6 qP6
      rcases (show c = 0 ∨ c = 1 ∨ (¬ c = 0 ∧ ¬ c = 1) from by omega) with rfl | rfl | ⟨c2, c3⟩
      · go_upto_region 9 with fail
        have cP0 : w7.cell? ⟨P, 0, none⟩ = some (.int .i64 y) := by rw [Blk.cell qP7]; rfl
        have cP1 : w7.cell? ⟨P, 1, none⟩ = some (.int .i64 t) := by rw [Blk.cell qP7]; rfl
        have lP := qP7.lt
        have lR0 := qR7.lt
        have hBg := r7.Bg
        have hBR : B ≤ w.heap.size := by omega
        have hBP : B ≤ P := by omega
        have hRg : w.heap.size ≠ g := by omega
        have hPg2 : P ≠ g := by omega
        have hPs : w.heap.size ≤ P := by omega
        have hPR : ¬ P = w.heap.size := by omega
        have hRP : ¬ w.heap.size = P := by omega
        go_region_with (first | (go_at_call 43; refine (pick_fr _ _ ?_ ?_ ?_ ?_ ?_ (2) ?_ ?_).mono ?_; rotate_left 5; (focus (repeat (first | (with_reducible assumption) | (with_reducible refine Rd.drew ?_) | (with_reducible refine Rd.drewN ?_ _) | (with_reducible refine Rd.alloc ?_ _)))); (focus omega); rintro e w_q ⟨nq, rfl, ⟨n0, n1, _⟩, o_q, r_q⟩; have n1 := n1 (by omega); have qPq : Blk w_q P #[.int .i64 y, .int .i64 t] 95 := (by first | exact (qP7.onl o_q (by omega)) | exact (qP7.drew.onl o_q (by omega)) | exact ((qP7.alloc _).onl o_q (by omega)) | exact ((qP7.drew.alloc _).onl o_q (by omega)) | exact ((qP7.alloc _).drew.onl o_q (by omega))); have qRq : Blk w_q w.heap.size #[.int .i64 0, .int .i64 0] 95 := (by first | exact (qR7.onl o_q (by omega)) | exact (qR7.drew.onl o_q (by omega)) | exact ((qR7.alloc _).onl o_q (by omega)) | exact ((qR7.drew.alloc _).onl o_q (by omega)) | exact ((qR7.alloc _).drew.onl o_q (by omega))); have kq : Onb g w w_q := (by repeat (first | (with_reducible assumption) | (with_reducible exact Onb.refl _ _) | (with_reducible refine Onb.drew ?_) | (with_reducible refine Onb.drewN ?_ _) | (with_reducible refine Onb.alloc ?_ _) | (with_reducible refine Onb.trans ?_ (Onb.of_onl (by with_reducible assumption))) | (with_reducible refine Onb.trans ?_ (by with_reducible assumption)))); (try have lq := fun o => o_q.cell (w7.heap.size) o (by omega)); obtain ⟨u, hu, u0, u1⟩ := lit_nine n0 n1; have _hu := hu (by simp; omega); have cP0 : w_q.cell? ⟨P, 0, none⟩ = some (.int .i64 y) := (by rw [Blk.cell qPq]; rfl); have fP0 := Blk.free qPq 0; have cP1 : w_q.cell? ⟨P, 1, none⟩ = some (.int .i64 t) := (by rw [Blk.cell qPq]; rfl); have fP1 := Blk.free qPq 1; have cR0 : w_q.cell? ⟨w.heap.size, 0, none⟩ = some (.int .i64 0) := (by rw [Blk.cell qRq]; rfl); have fR0 := Blk.free qRq 0; have cR1 : w_q.cell? ⟨w.heap.size, 1, none⟩ = some (.int .i64 0) := (by rw [Blk.cell qRq]; rfl); have fR1 := Blk.free qRq 1; have lR := qRq.lt; have lPq := qPq.lt))
        all_goals
          go_wp2
          exact bodyPost_ret (v := .agg #[.int .i64 y, .int .i64 (t + u)]) (by simp [results, Try.results71, go_sem, cR0, fR0, cR1, fR1, lR, lPq, cP0, cP1, fP0, fP1]) rfl ⟨y, t + u, rfl, by repeat (first | (with_reducible assumption) | (refine Onb.set ?_ (by first | exact Nat.le_refl _ | exact hPs) _) | (with_reducible refine Onb.drew ?_) | (with_reducible refine Onb.alloc ?_ _)), p6 + 1 + 1, by omega, by repeat (first | (with_reducible assumption) | (refine Rd.set ?_ (by first | exact hBR | exact hBP) (by first | exact hRg | exact hPg2) _) | (with_reducible refine Rd.drew ?_) | (with_reducible refine Rd.alloc ?_ _))⟩
      · go_wp2_with fail
        refine (pick_fr _ _ _ _ _ _ _ _ (r7.alloc _) (by omega)).mono ?_
        rintro e w8 ⟨n, rfl, ⟨n0, n1, _⟩, o8, r8⟩
        have k8 := ((k7.alloc _)).trans (Onb.of_onl o8)
        have qR8 := ((qR7.alloc _)).onl o8 (by omega)
        have qP8 := ((qP7.alloc _)).onl o8 (by omega)
        have hg8 := r8.gl
        have n1 := n1 (by omega)
        obtain ⟨un, _, hun⟩ := lit_at (w := w8) (b := w7.heap.size) (xs := [-22, 22]) ((o8.block _ (by omega)).trans (heap_alloc_new w7 _)) n0 n1
        clear r7 k7 o8 qR7 qP7
        have cqP0 : w8.cell? ⟨P, 0, none⟩ = some (.int .i64 y) := by rw [Blk.cell qP8]; rfl
        have cqP1 : w8.cell? ⟨P, 1, none⟩ = some (.int .i64 t) := by rw [Blk.cell qP8]; rfl
        have fqP0 := Blk.free qP8 0
        have fqP1 := Blk.free qP8 1
        have lqP := Blk.lt qP8
        have hPs : w.heap.size ≤ P := by omega
        go_upto_region 12 with fail
        have qP9 : Blk (w8.setCell ⟨P, 0, none⟩ (.int .i64 un)) P #[.int .i64 un, .int .i64 t] 95 := qP8.s20
        have qR9 : Blk (w8.setCell ⟨P, 0, none⟩ (.int .i64 un)) w.heap.size #[.int .i64 0, .int .i64 0] 95 := qR8.off (by first | omega | (simp only; omega)) _
        have k9 : Onb g w (w8.setCell ⟨P, 0, none⟩ (.int .i64 un)) := k8.set (by first | omega | (simp only; omega)) _
        have r9 : Rd (w8.setCell ⟨P, 0, none⟩ (.int .i64 un)) g B A len cap _ := r8.set (by have := r8.Bg; first | omega | (simp only; omega)) (by first | omega | (simp only; omega)) _
        clear qP8 qR8 k8 r8 cqP0 cqP1 fqP0 fqP1 lqP
        generalize (w8.setCell ⟨P, 0, none⟩ (.int .i64 un)) = w9 at *
        have hg9 := r9.gl
        have cqP0 : w9.cell? ⟨P, 0, none⟩ = some (.int .i64 un) := by rw [Blk.cell qP9]; rfl
        have cqP1 : w9.cell? ⟨P, 1, none⟩ = some (.int .i64 t) := by rw [Blk.cell qP9]; rfl
        have lqP := Blk.lt qP9
        have cqR0 : w9.cell? ⟨w.heap.size, 0, none⟩ = some (.int .i64 0) := by rw [Blk.cell qR9]; rfl
        have cqR1 : w9.cell? ⟨w.heap.size, 1, none⟩ = some (.int .i64 0) := by rw [Blk.cell qR9]; rfl
        have fqR0 := Blk.free qR9 0
        have fqR1 := Blk.free qR9 1
        have lqR := Blk.lt qR9
        have hRg : w.heap.size ≠ g := by omega
        go_wp2
        exact bodyPost_ret (v := .agg #[.int .i64 un, .int .i64 t]) (by simp [results, Try.results71, go_sem, cqR0, fqR0, cqR1, fqR1]) rfl ⟨un, t, rfl, ((k9.set (by first | omega | (simp only; omega)) _).set (by first | omega | (simp only; omega)) _), _, by omega, ((r9.set (by have := r9.Bg; first | omega | (simp only; omega)) (by first | omega | (simp only; omega)) _).set (by have := r9.Bg; first | omega | (simp only; omega)) (by first | omega | (simp only; omega)) _)⟩
      · go_wp2_with fail
        refine (pick_fr _ _ _ _ _ _ _ _ (r7.alloc _) (by omega)).mono ?_
        rintro e w8 ⟨n, rfl, ⟨n0, n1, _⟩, o8, r8⟩
        have k8 := ((k7.alloc _)).trans (Onb.of_onl o8)
        have qR8 := ((qR7.alloc _)).onl o8 (by omega)
        have qP8 := ((qP7.alloc _)).onl o8 (by omega)
        have hg8 := r8.gl
        have n1 := n1 (by omega)
        obtain ⟨un, _, hun⟩ := lit_at (w := w8) (b := w7.heap.size) (xs := [61, -61, 9223372036854775807]) ((o8.block _ (by omega)).trans (heap_alloc_new w7 _)) n0 n1
        clear r7 k7 o8 qR7 qP7
        have cqP0 : w8.cell? ⟨P, 0, none⟩ = some (.int .i64 y) := by rw [Blk.cell qP8]; rfl
        have cqP1 : w8.cell? ⟨P, 1, none⟩ = some (.int .i64 t) := by rw [Blk.cell qP8]; rfl
        have fqP0 := Blk.free qP8 0
        have fqP1 := Blk.free qP8 1
        have lqP := Blk.lt qP8
        have hPs : w.heap.size ≤ P := by omega
        go_upto_region 12 with fail
        have qP9 : Blk (w8.setCell ⟨P, 1, none⟩ (.int .i64 un)) P #[.int .i64 y, .int .i64 un] 95 := qP8.s21
        have qR9 : Blk (w8.setCell ⟨P, 1, none⟩ (.int .i64 un)) w.heap.size #[.int .i64 0, .int .i64 0] 95 := qR8.off (by first | omega | (simp only; omega)) _
        have k9 : Onb g w (w8.setCell ⟨P, 1, none⟩ (.int .i64 un)) := k8.set (by first | omega | (simp only; omega)) _
        have r9 : Rd (w8.setCell ⟨P, 1, none⟩ (.int .i64 un)) g B A len cap _ := r8.set (by have := r8.Bg; first | omega | (simp only; omega)) (by first | omega | (simp only; omega)) _
        clear qP8 qR8 k8 r8 cqP0 cqP1 fqP0 fqP1 lqP
        generalize (w8.setCell ⟨P, 1, none⟩ (.int .i64 un)) = w9 at *
        have hg9 := r9.gl
        have cqP0 : w9.cell? ⟨P, 0, none⟩ = some (.int .i64 y) := by rw [Blk.cell qP9]; rfl
        have cqP1 : w9.cell? ⟨P, 1, none⟩ = some (.int .i64 un) := by rw [Blk.cell qP9]; rfl
        have lqP := Blk.lt qP9
        have cqR0 : w9.cell? ⟨w.heap.size, 0, none⟩ = some (.int .i64 0) := by rw [Blk.cell qR9]; rfl
        have cqR1 : w9.cell? ⟨w.heap.size, 1, none⟩ = some (.int .i64 0) := by rw [Blk.cell qR9]; rfl
        have fqR0 := Blk.free qR9 0
        have fqR1 := Blk.free qR9 1
        have lqR := Blk.lt qR9
        have hRg : w.heap.size ≠ g := by omega
        go_wp2
        exact bodyPost_ret (v := .agg #[.int .i64 y, .int .i64 un]) (by simp [results, Try.results71, go_sem, cqR0, fqR0, cqR1, fqR1]) rfl ⟨y, un, rfl, ((k9.set (by first | omega | (simp only; omega)) _).set (by first | omega | (simp only; omega)) _), _, by omega, ((r9.set (by have := r9.Bg; first | omega | (simp only; omega)) (by first | omega | (simp only; omega)) _).set (by have := r9.Bg; first | omega | (simp only; omega)) (by first | omega | (simp only; omega)) _)⟩
end Go.Proofs.Ytpjakgnghpapmaa
