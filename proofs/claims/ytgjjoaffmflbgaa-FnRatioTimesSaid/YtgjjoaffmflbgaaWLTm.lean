/- The walk of the law FnRatioTimes: for every input it returns true and turns nothing that was there. -/
import Derived.Test.YtgjjoaffmflbgaaVal
import Derived.Deep.RegionHeld3
import Derived.Deep.DeepCutAuto
namespace Go.Proofs.Ytgjjoaffmflbgaa.FnRatioTimes
set_option linter.unusedSimpArgs false
set_option linter.unusedVariables false
open Go.RowKit

def Blk (w : World) (P : Nat) (cs : Array Value) (T : TypeId) : Prop := w.heap[P]? = some (.cells cs T (0, 0))
theorem Blk.lt {w : World} {P : Nat} {cs : Array Value} {T : TypeId} (h : Blk w P cs T) : P < w.heap.size := by
  rcases Nat.lt_or_ge P w.heap.size with hl | hg
  · exact hl
  · unfold Blk at h; rw [Array.getElem?_eq_none hg] at h; cases h
theorem Blk.cell {w : World} {P : Nat} {cs : Array Value} {T : TypeId} (h : Blk w P cs T) (o : Nat) : w.cell? ⟨P, o, none⟩ = cs[o]? := cell_of_row w P o cs T (0, 0) h
theorem Blk.new (w : World) (cs : Array Value) (T : TypeId) : Blk (w.alloc (.cells cs T)) w.heap.size cs T := heap_alloc_new w _
theorem Blk.below {w w' : World} {P : Nat} {cs : Array Value} {T : TypeId} (h : Blk w P cs T) (hb : Below w.heap.size w w') : Blk w' P cs T := (hb.block P h.lt).trans h
theorem Blk.drew {w : World} {P : Nat} {cs : Array Value} {T : TypeId} (h : Blk w P cs T) : Blk w.drew P cs T := h
theorem Blk.set {w : World} {P : Nat} {cs : Array Value} {T : TypeId} (h : Blk w P cs T) (o : Nat) (u : Value) : Blk (w.setCell ⟨P, o, none⟩ u) P (cs.setIfInBounds o u) T := heap_setCell_same w P o cs T u h
theorem Blk.s20 {w : World} {P : Nat} {a b u : Value} {T : TypeId} (h : Blk w P #[a, b] T) : Blk (w.setCell ⟨P, 0, none⟩ u) P #[u, b] T := h.set 0 u
theorem Blk.s21 {w : World} {P : Nat} {a b u : Value} {T : TypeId} (h : Blk w P #[a, b] T) : Blk (w.setCell ⟨P, 1, none⟩ u) P #[a, u] T := h.set 1 u
theorem G_comm (a b : Int) : G a b = G b a := by unfold G; rw [Nat.gcd_comm]
theorem rvB_swap {n d : Int} (h : rvB n d = true) : rvB d n = true := by
  obtain ⟨a, b, c, e, f⟩ := rvB_bd h
  unfold rvB; exact decide_eq_true ⟨c, e, a, b, by rw [G_comm]; exact f⟩
theorem back_of {n d : Int} (h : rvB n d = true) : backN n d = d ∧ backD n d = n := by simp [backN, backD, h]
theorem tm_comm (a b c d : Int) : tmN c d a b = tmN a b c d ∧ tmD c d a b = tmD a b c d ∧ tmB c d a b = tmB a b c d := by
  have hb : tmB c d a b = tmB a b c d := by
    unfold tmB; rw [Int.mul_comm c a, Int.mul_comm d b, Bool.and_comm (rvB c d)]
  refine ⟨?_, ?_, hb⟩
  · unfold tmN; rw [hb, Int.mul_comm c a, Int.mul_comm d b]
  · unfold tmD; rw [hb, Int.mul_comm c a, Int.mul_comm d b]
theorem G_pos {x y : Int} (hx : 1 ≤ x) : 1 ≤ G x y := by
  unfold G
  have := Nat.gcd_pos_of_pos_left y.toNat (show 0 < x.toNat by omega)
  omega
theorem G_dvd {x y : Int} (hx : 0 ≤ x) (hy : 0 ≤ y) : G x y ∣ x ∧ G x y ∣ y := by
  unfold G
  refine ⟨?_, ?_⟩
  · have h := Int.natCast_dvd_natCast.2 (Nat.gcd_dvd_left x.toNat y.toNat); rw [Int.toNat_of_nonneg hx] at h; exact h
  · have h := Int.natCast_dvd_natCast.2 (Nat.gcd_dvd_right x.toNat y.toNat); rw [Int.toNat_of_nonneg hy] at h; exact h
theorem tm_yes {a b c d : Int} (h : tmB a b c d = true) : rvB a b = true ∧ rvB c d = true ∧ rvB (tmN a b c d) (tmD a b c d) = true ∧ tmN a b c d * b * d = tmD a b c d * a * c ∧
    (0 ≤ tmN a b c d * b ∧ tmN a b c d * b ≤ 4000000000000) ∧ (0 ≤ tmN a b c d * b * d ∧ tmN a b c d * b * d ≤ 8000000000000000000) ∧ (0 ≤ tmD a b c d * a ∧ tmD a b c d * a ≤ 4000000000000) ∧ (0 ≤ tmD a b c d * a * c ∧ tmD a b c d * a * c ≤ 8000000000000000000) := by
  have h0 := h
  unfold tmB at h
  simp only [Bool.and_eq_true] at h
  obtain ⟨⟨h1, h2⟩, h3⟩ := h
  have e1 : tmN a b c d = a * c / G (a * c) (b * d) := by unfold tmN; rw [h0]; rfl
  have e2 : tmD a b c d = b * d / G (a * c) (b * d) := by unfold tmD; rw [h0]; rfl
  have h3' : rvB (tmN a b c d) (tmD a b c d) = true := by rw [e1, e2]; exact h3
  obtain ⟨a0, a1, b0, b1, _⟩ := rvB_bd h1
  obtain ⟨c0, c1, d0, d1, _⟩ := rvB_bd h2
  obtain ⟨n0, n1, m0, m1, _⟩ := rvB_bd h3'
  have bd : ∀ x y p q : Int, 0 ≤ x → x ≤ p → 0 ≤ y → y ≤ q → 0 ≤ x * y ∧ x * y ≤ p * q := fun x y p q x0 x1 y0 y1 => ⟨Int.mul_nonneg x0 y0, Int.mul_le_mul x1 y1 y0 (by omega)⟩
  have ac := bd a c 2000000 2000000 (by omega) a1 (by omega) c1
  have bd' := bd b d 2000000 2000000 (by omega) b1 (by omega) d1
  have ac0 : 0 < a * c := Int.mul_pos (by omega) (by omega)
  obtain ⟨p, hp⟩ := (G_dvd ac.1 bd'.1).1
  obtain ⟨q, hq⟩ := (G_dvd ac.1 bd'.1).2
  have gp := G_pos (x := a * c) (y := b * d) (by omega)
  have gne : G (a * c) (b * d) ≠ 0 := by omega
  have en : tmN a b c d = p := by rw [e1]; exact Int.ediv_eq_of_eq_mul_right gne hp
  have em : tmD a b c d = q := by rw [e2]; exact Int.ediv_eq_of_eq_mul_right gne hq
  have nb := bd (tmN a b c d) b 2000000 2000000 (by omega) n1 (by omega) b1
  have ma := bd (tmD a b c d) a 2000000 2000000 (by omega) m1 (by omega) a1
  have nbd := bd (tmN a b c d * b) d 4000000000000 2000000 nb.1 (by omega) (by omega) d1
  have mac := bd (tmD a b c d * a) c 4000000000000 2000000 ma.1 (by omega) (by omega) c1
  refine ⟨h1, h2, h3', ?_, ⟨nb.1, by omega⟩, ⟨nbd.1, by omega⟩, ⟨ma.1, by omega⟩, ⟨mac.1, by omega⟩⟩
  rw [en, em, Int.mul_assoc, Int.mul_assoc]
  generalize G (a * c) (b * d) = g at *
  rw [hq, hp, ← Int.mul_assoc, ← Int.mul_assoc, Int.mul_comm p g, Int.mul_comm q g, Int.mul_assoc, Int.mul_assoc, Int.mul_comm p q]
theorem tm_back {a b : Int} (h : rvB a b = true) : tmN a b b a = 1 ∧ tmD a b b a = 1 ∧ tmB a b b a = true := by
  obtain ⟨a0, a1, b0, b1, _⟩ := rvB_bd h
  have hg : G (a * b) (b * a) = a * b := by
    unfold G; rw [Int.mul_comm b a, Nat.gcd_self]
    have := Int.mul_nonneg (show 0 ≤ a by omega) (show 0 ≤ b by omega)
    omega
  have pos : 0 < a * b := Int.mul_pos (by omega) (by omega)
  have hb : tmB a b b a = true := by
    unfold tmB ltB
    rw [h, rvB_swap h, hg, Int.mul_comm b a, Int.ediv_self (by omega)]
    decide +kernel
  refine ⟨?_, ?_, hb⟩
  · unfold tmN; rw [hb, hg]; exact Int.ediv_self (by omega)
  · unfold tmD; rw [hb, hg, Int.mul_comm b a]; exact Int.ediv_self (by omega)

set_option maxRecDepth 20000 in
set_option maxHeartbeats 4000000 in
theorem walk (A : Option Addr) (len cap : Nat) (w : World) (h : Cod w A len cap) :
    Calls Try.prog 5 #[.slice A len cap] w fun e w' => e = .returned (.bool true) ∧ Below w.heap.size w w' := by
  by_cases hl : len ≤ 1048576
  · go_enter Try.func5, Try.ntmps5
    go_wp2_with fail
    refine (DrawRatioTimes_any w A len cap h).mono ?_
    rintro e1 w1 ⟨a, b, c, d, rfl, _, _, b1⟩
    obtain ⟨cx, cy, cz⟩ := tm_comm a b c d
    obtain ⟨x, hx⟩ : ∃ x, tmN a b c d = x := ⟨_, rfl⟩
    obtain ⟨y, hy⟩ : ∃ x, tmD a b c d = x := ⟨_, rfl⟩
    have X := Lib.hid hx
    have Y := Lib.hid hy
    have X2 := Lib.hid (cx.trans hx)
    have Y2 := Lib.hid (cy.trans hy)
    cases hz : tmB a b c d
    · have hx0 : x = 0 := by rw [← hx]; unfold tmN; rw [hz]; rfl
      have hy0 : y = 0 := by rw [← hy]; unfold tmD; rw [hz]; rfl
      subst hx0 hy0
      have Z := Lib.hid hz
      have Z2 := Lib.hid (cz.trans hz)
      clear hx hy hz cx cy cz
      have q0 : ((w1.alloc (.cells #[.int .i64 a, .int .i64 b] 39)).alloc (.cells #[.int .i64 c, .int .i64 d] 39)).cell? ⟨w1.heap.size, 0, none⟩ = some (.int .i64 a) := keep_al (by simp) _
      have q1 : ((w1.alloc (.cells #[.int .i64 a, .int .i64 b] 39)).alloc (.cells #[.int .i64 c, .int .i64 d] 39)).cell? ⟨w1.heap.size, 1, none⟩ = some (.int .i64 b) := keep_al (by simp) _
      have q2 : ((w1.alloc (.cells #[.int .i64 a, .int .i64 b] 39)).alloc (.cells #[.int .i64 c, .int .i64 d] 39)).cell? ⟨(w1.heap.size + 1), 0, none⟩ = some (.int .i64 c) := by simp
      have q3 : ((w1.alloc (.cells #[.int .i64 a, .int .i64 b] 39)).alloc (.cells #[.int .i64 c, .int .i64 d] 39)).cell? ⟨(w1.heap.size + 1), 1, none⟩ = some (.int .i64 d) := by simp
      have qb : Below w.heap.size w ((w1.alloc (.cells #[.int .i64 a, .int .i64 b] 39)).alloc (.cells #[.int .i64 c, .int .i64 d] 39)) := by repeat (first | (with_reducible assumption) | (exact bel_undr (by with_reducible assumption)) | (with_reducible exact bel_refl _) | (with_reducible refine bel_dr ?_) | (with_reducible refine bel_drN ?_ _) | (with_reducible refine bel_al ?_ _) | (refine bel_set ?_ (by first | (simp; done) | (simp; exact Below.size (by assumption)) | (simp; omega)) _) | (with_reducible refine bel_tr ?_ (by assumption)))
      go_wp2_with fail
      generalize ((w1.alloc (.cells #[.int .i64 a, .int .i64 b] 39)).alloc (.cells #[.int .i64 c, .int .i64 d] 39)) = v1 at *
      generalize w1.heap.size + 1 = C1 at *
      generalize w1.heap.size = B1 at *
      go_wp2_with fail
      refine (tm_val X.out Y.out Z.out _).mono ?_
      rintro e2 w2 ⟨rfl, b2⟩
      have q0 := keep_tr q0 b2
      have q1 := keep_tr q1 b2
      have q2 := keep_tr q2 b2
      have q3 := keep_tr q3 b2
      have q0 := keep_al q0 (.cells #[.int .i64 0, .int .i64 0] 39)
      have q1 := keep_al q1 (.cells #[.int .i64 0, .int .i64 0] 39)
      have q2 := keep_al q2 (.cells #[.int .i64 0, .int .i64 0] 39)
      have q3 := keep_al q3 (.cells #[.int .i64 0, .int .i64 0] 39)
      have q4 : (w2.alloc (.cells #[.int .i64 0, .int .i64 0] 39)).cell? ⟨w2.heap.size, 0, none⟩ = some (.int .i64 0) := by simp
      have q5 : (w2.alloc (.cells #[.int .i64 0, .int .i64 0] 39)).cell? ⟨w2.heap.size, 1, none⟩ = some (.int .i64 0) := by simp
      have qb : Below w.heap.size w (w2.alloc (.cells #[.int .i64 0, .int .i64 0] 39)) := by repeat (first | (with_reducible assumption) | (exact bel_undr (by with_reducible assumption)) | (with_reducible exact bel_refl _) | (with_reducible refine bel_dr ?_) | (with_reducible refine bel_drN ?_ _) | (with_reducible refine bel_al ?_ _) | (refine bel_set ?_ (by first | (simp; done) | (simp; exact Below.size (by assumption)) | (simp; omega)) _) | (with_reducible refine bel_tr ?_ (by assumption)))
      go_wp2_with fail
      generalize (w2.alloc (.cells #[.int .i64 0, .int .i64 0] 39)) = v2 at *
      generalize w2.heap.size = B2 at *
      go_wp2_with fail
      refine (stm_val X.out Y.out Z.out _).mono ?_
      rintro e3 w3 ⟨rfl, b3⟩
      have q0 := keep_tr q0 b3
      have q1 := keep_tr q1 b3
      have q2 := keep_tr q2 b3
      have q3 := keep_tr q3 b3
      have q4 := keep_tr q4 b3
      have q5 := keep_tr q5 b3
      have q0 := keep_al q0 (.cells #[.int .i64 0, .int .i64 0] 39)
      have q1 := keep_al q1 (.cells #[.int .i64 0, .int .i64 0] 39)
      have q2 := keep_al q2 (.cells #[.int .i64 0, .int .i64 0] 39)
      have q3 := keep_al q3 (.cells #[.int .i64 0, .int .i64 0] 39)
      have q4 := keep_al q4 (.cells #[.int .i64 0, .int .i64 0] 39)
      have q5 := keep_al q5 (.cells #[.int .i64 0, .int .i64 0] 39)
      have q6 : (w3.alloc (.cells #[.int .i64 0, .int .i64 0] 39)).cell? ⟨w3.heap.size, 0, none⟩ = some (.int .i64 0) := by simp
      have q7 : (w3.alloc (.cells #[.int .i64 0, .int .i64 0] 39)).cell? ⟨w3.heap.size, 1, none⟩ = some (.int .i64 0) := by simp
      have qb : Below w.heap.size w (w3.alloc (.cells #[.int .i64 0, .int .i64 0] 39)) := by repeat (first | (with_reducible assumption) | (exact bel_undr (by with_reducible assumption)) | (with_reducible exact bel_refl _) | (with_reducible refine bel_dr ?_) | (with_reducible refine bel_drN ?_ _) | (with_reducible refine bel_al ?_ _) | (refine bel_set ?_ (by first | (simp; done) | (simp; exact Below.size (by assumption)) | (simp; omega)) _) | (with_reducible refine bel_tr ?_ (by assumption)))
      go_wp2_with fail
      generalize (w3.alloc (.cells #[.int .i64 0, .int .i64 0] 39)) = v3 at *
      generalize w3.heap.size = B3 at *
      go_wp2_with fail
      refine (tm_val X2.out Y2.out Z2.out _).mono ?_
      rintro e4 w4 ⟨rfl, b4⟩
      have q0 := keep_tr q0 b4
      have q1 := keep_tr q1 b4
      have q2 := keep_tr q2 b4
      have q3 := keep_tr q3 b4
      have q4 := keep_tr q4 b4
      have q5 := keep_tr q5 b4
      have q6 := keep_tr q6 b4
      have q7 := keep_tr q7 b4
      have q0 := keep_al q0 (.cells #[.int .i64 0, .int .i64 0] 39)
      have q1 := keep_al q1 (.cells #[.int .i64 0, .int .i64 0] 39)
      have q2 := keep_al q2 (.cells #[.int .i64 0, .int .i64 0] 39)
      have q3 := keep_al q3 (.cells #[.int .i64 0, .int .i64 0] 39)
      have q4 := keep_al q4 (.cells #[.int .i64 0, .int .i64 0] 39)
      have q5 := keep_al q5 (.cells #[.int .i64 0, .int .i64 0] 39)
      have q6 := keep_al q6 (.cells #[.int .i64 0, .int .i64 0] 39)
      have q7 := keep_al q7 (.cells #[.int .i64 0, .int .i64 0] 39)
      have q8 : (w4.alloc (.cells #[.int .i64 0, .int .i64 0] 39)).cell? ⟨w4.heap.size, 0, none⟩ = some (.int .i64 0) := by simp
      have q9 : (w4.alloc (.cells #[.int .i64 0, .int .i64 0] 39)).cell? ⟨w4.heap.size, 1, none⟩ = some (.int .i64 0) := by simp
      have qb : Below w.heap.size w (w4.alloc (.cells #[.int .i64 0, .int .i64 0] 39)) := by repeat (first | (with_reducible assumption) | (exact bel_undr (by with_reducible assumption)) | (with_reducible exact bel_refl _) | (with_reducible refine bel_dr ?_) | (with_reducible refine bel_drN ?_ _) | (with_reducible refine bel_al ?_ _) | (refine bel_set ?_ (by first | (simp; done) | (simp; exact Below.size (by assumption)) | (simp; omega)) _) | (with_reducible refine bel_tr ?_ (by assumption)))
      go_wp2_with fail
      generalize (w4.alloc (.cells #[.int .i64 0, .int .i64 0] 39)) = v4 at *
      generalize w4.heap.size = B4 at *
      go_wp2_with fail
      refine (alive_any _).mono ?_
      rintro e5 w5 ⟨rfl, b5⟩
      have q0 := keep_tr q0 b5
      have q1 := keep_tr q1 b5
      have q2 := keep_tr q2 b5
      have q3 := keep_tr q3 b5
      have q4 := keep_tr q4 b5
      have q5 := keep_tr q5 b5
      have q6 := keep_tr q6 b5
      have q7 := keep_tr q7 b5
      have q8 := keep_tr q8 b5
      have q9 := keep_tr q9 b5
      go_wp2
      go_ret
      exact ⟨rfl, by repeat (first | (with_reducible assumption) | (exact bel_undr (by with_reducible assumption)) | (with_reducible exact bel_refl _) | (with_reducible refine bel_dr ?_) | (with_reducible refine bel_drN ?_ _) | (with_reducible refine bel_al ?_ _) | (refine bel_set ?_ (by first | (simp; done) | (simp; exact Below.size (by assumption)) | (simp; omega)) _) | (with_reducible refine bel_tr ?_ (by assumption)))⟩
    · obtain ⟨t1, t2, t3, t4, t5, t6, t7, t8⟩ := tm_yes hz
      rw [hx] at t3 t4 t5 t6
      rw [hy] at t3 t4 t7 t8
      obtain ⟨u1, u2, u3⟩ := tm_back t1
      obtain ⟨a0, a1, b0, b1', _⟩ := rvB_bd t1
      obtain ⟨c0, c1, d0, d1', _⟩ := rvB_bd t2
      obtain ⟨x0, x1, y0, y1', _⟩ := rvB_bd t3
      have q : (x * b * d == y * a * c) = true := by simpa using t4
      have Z := Lib.hid hz
      have Z2 := Lib.hid (cz.trans hz)
      have T3 := Lib.hid t3
      have U1 := Lib.hid u1
      have U2 := Lib.hid u2
      have U3 := Lib.hid u3
      have K1 := Lib.hid (back_of t1).1
      have K2 := Lib.hid (back_of t1).2
      have Q := Lib.hid q
      clear hx hy hz cx cy cz t1 t2 t3 t4 u1 u2 u3 q
      have q0 : ((w1.alloc (.cells #[.int .i64 a, .int .i64 b] 39)).alloc (.cells #[.int .i64 c, .int .i64 d] 39)).cell? ⟨w1.heap.size, 0, none⟩ = some (.int .i64 a) := keep_al (by simp) _
      have q1 : ((w1.alloc (.cells #[.int .i64 a, .int .i64 b] 39)).alloc (.cells #[.int .i64 c, .int .i64 d] 39)).cell? ⟨w1.heap.size, 1, none⟩ = some (.int .i64 b) := keep_al (by simp) _
      have q2 : ((w1.alloc (.cells #[.int .i64 a, .int .i64 b] 39)).alloc (.cells #[.int .i64 c, .int .i64 d] 39)).cell? ⟨(w1.heap.size + 1), 0, none⟩ = some (.int .i64 c) := by simp
      have q3 : ((w1.alloc (.cells #[.int .i64 a, .int .i64 b] 39)).alloc (.cells #[.int .i64 c, .int .i64 d] 39)).cell? ⟨(w1.heap.size + 1), 1, none⟩ = some (.int .i64 d) := by simp
      have qb : Below w.heap.size w ((w1.alloc (.cells #[.int .i64 a, .int .i64 b] 39)).alloc (.cells #[.int .i64 c, .int .i64 d] 39)) := by repeat (first | (with_reducible assumption) | (exact bel_undr (by with_reducible assumption)) | (with_reducible exact bel_refl _) | (with_reducible refine bel_dr ?_) | (with_reducible refine bel_drN ?_ _) | (with_reducible refine bel_al ?_ _) | (refine bel_set ?_ (by first | (simp; done) | (simp; exact Below.size (by assumption)) | (simp; omega)) _) | (with_reducible refine bel_tr ?_ (by assumption)))
      go_wp2_with fail
      generalize ((w1.alloc (.cells #[.int .i64 a, .int .i64 b] 39)).alloc (.cells #[.int .i64 c, .int .i64 d] 39)) = v1 at *
      generalize w1.heap.size + 1 = C1 at *
      generalize w1.heap.size = B1 at *
      go_wp2_with fail
      refine (tm_val X.out Y.out Z.out _).mono ?_
      rintro e2 w2 ⟨rfl, b2⟩
      have q0 := keep_tr q0 b2
      have q1 := keep_tr q1 b2
      have q2 := keep_tr q2 b2
      have q3 := keep_tr q3 b2
      have q0 := keep_al q0 (.cells #[.int .i64 x, .int .i64 y] 39)
      have q1 := keep_al q1 (.cells #[.int .i64 x, .int .i64 y] 39)
      have q2 := keep_al q2 (.cells #[.int .i64 x, .int .i64 y] 39)
      have q3 := keep_al q3 (.cells #[.int .i64 x, .int .i64 y] 39)
      have q4 : (w2.alloc (.cells #[.int .i64 x, .int .i64 y] 39)).cell? ⟨w2.heap.size, 0, none⟩ = some (.int .i64 x) := by simp
      have q5 : (w2.alloc (.cells #[.int .i64 x, .int .i64 y] 39)).cell? ⟨w2.heap.size, 1, none⟩ = some (.int .i64 y) := by simp
      have qb : Below w.heap.size w (w2.alloc (.cells #[.int .i64 x, .int .i64 y] 39)) := by repeat (first | (with_reducible assumption) | (exact bel_undr (by with_reducible assumption)) | (with_reducible exact bel_refl _) | (with_reducible refine bel_dr ?_) | (with_reducible refine bel_drN ?_ _) | (with_reducible refine bel_al ?_ _) | (refine bel_set ?_ (by first | (simp; done) | (simp; exact Below.size (by assumption)) | (simp; omega)) _) | (with_reducible refine bel_tr ?_ (by assumption)))
      go_wp2_with fail
      generalize (w2.alloc (.cells #[.int .i64 x, .int .i64 y] 39)) = v2 at *
      generalize w2.heap.size = B2 at *
      go_wp2_with fail
      refine (stm_val X.out Y.out Z.out _).mono ?_
      rintro e3 w3 ⟨rfl, b3⟩
      have q0 := keep_tr q0 b3
      have q1 := keep_tr q1 b3
      have q2 := keep_tr q2 b3
      have q3 := keep_tr q3 b3
      have q4 := keep_tr q4 b3
      have q5 := keep_tr q5 b3
      have q0 := keep_al q0 (.cells #[.int .i64 x, .int .i64 y] 39)
      have q1 := keep_al q1 (.cells #[.int .i64 x, .int .i64 y] 39)
      have q2 := keep_al q2 (.cells #[.int .i64 x, .int .i64 y] 39)
      have q3 := keep_al q3 (.cells #[.int .i64 x, .int .i64 y] 39)
      have q4 := keep_al q4 (.cells #[.int .i64 x, .int .i64 y] 39)
      have q5 := keep_al q5 (.cells #[.int .i64 x, .int .i64 y] 39)
      have q6 : (w3.alloc (.cells #[.int .i64 x, .int .i64 y] 39)).cell? ⟨w3.heap.size, 0, none⟩ = some (.int .i64 x) := by simp
      have q7 : (w3.alloc (.cells #[.int .i64 x, .int .i64 y] 39)).cell? ⟨w3.heap.size, 1, none⟩ = some (.int .i64 y) := by simp
      have qb : Below w.heap.size w (w3.alloc (.cells #[.int .i64 x, .int .i64 y] 39)) := by repeat (first | (with_reducible assumption) | (exact bel_undr (by with_reducible assumption)) | (with_reducible exact bel_refl _) | (with_reducible refine bel_dr ?_) | (with_reducible refine bel_drN ?_ _) | (with_reducible refine bel_al ?_ _) | (refine bel_set ?_ (by first | (simp; done) | (simp; exact Below.size (by assumption)) | (simp; omega)) _) | (with_reducible refine bel_tr ?_ (by assumption)))
      go_wp2_with fail
      generalize (w3.alloc (.cells #[.int .i64 x, .int .i64 y] 39)) = v3 at *
      generalize w3.heap.size = B3 at *
      go_wp2_with fail
      refine (tm_val X2.out Y2.out Z2.out _).mono ?_
      rintro e4 w4 ⟨rfl, b4⟩
      have q0 := keep_tr q0 b4
      have q1 := keep_tr q1 b4
      have q2 := keep_tr q2 b4
      have q3 := keep_tr q3 b4
      have q4 := keep_tr q4 b4
      have q5 := keep_tr q5 b4
      have q6 := keep_tr q6 b4
      have q7 := keep_tr q7 b4
      have q0 := keep_al q0 (.cells #[.int .i64 x, .int .i64 y] 39)
      have q1 := keep_al q1 (.cells #[.int .i64 x, .int .i64 y] 39)
      have q2 := keep_al q2 (.cells #[.int .i64 x, .int .i64 y] 39)
      have q3 := keep_al q3 (.cells #[.int .i64 x, .int .i64 y] 39)
      have q4 := keep_al q4 (.cells #[.int .i64 x, .int .i64 y] 39)
      have q5 := keep_al q5 (.cells #[.int .i64 x, .int .i64 y] 39)
      have q6 := keep_al q6 (.cells #[.int .i64 x, .int .i64 y] 39)
      have q7 := keep_al q7 (.cells #[.int .i64 x, .int .i64 y] 39)
      have q8 : (w4.alloc (.cells #[.int .i64 x, .int .i64 y] 39)).cell? ⟨w4.heap.size, 0, none⟩ = some (.int .i64 x) := by simp
      have q9 : (w4.alloc (.cells #[.int .i64 x, .int .i64 y] 39)).cell? ⟨w4.heap.size, 1, none⟩ = some (.int .i64 y) := by simp
      have qb : Below w.heap.size w (w4.alloc (.cells #[.int .i64 x, .int .i64 y] 39)) := by repeat (first | (with_reducible assumption) | (exact bel_undr (by with_reducible assumption)) | (with_reducible exact bel_refl _) | (with_reducible refine bel_dr ?_) | (with_reducible refine bel_drN ?_ _) | (with_reducible refine bel_al ?_ _) | (refine bel_set ?_ (by first | (simp; done) | (simp; exact Below.size (by assumption)) | (simp; omega)) _) | (with_reducible refine bel_tr ?_ (by assumption)))
      go_wp2_with fail
      generalize (w4.alloc (.cells #[.int .i64 x, .int .i64 y] 39)) = v4 at *
      generalize w4.heap.size = B4 at *
      go_upto_region 11 with fail
      go_cut [11, 12] (fun p q wx => ∃ B : Nat, p = .pointer (some ⟨B, 0, none⟩) ∧ q = .bool true ∧ wx.cell? ⟨B, 0, none⟩ = some (.int .i64 1) ∧ wx.cell? ⟨B, 1, none⟩ = some (.int .i64 1) ∧ wx.cell? ⟨B1, 0, none⟩ = some (.int .i64 a) ∧ wx.cell? ⟨B1, 1, none⟩ = some (.int .i64 b) ∧ wx.cell? ⟨C1, 0, none⟩ = some (.int .i64 c) ∧ wx.cell? ⟨C1, 1, none⟩ = some (.int .i64 d) ∧ wx.cell? ⟨B2, 0, none⟩ = some (.int .i64 x) ∧ wx.cell? ⟨B2, 1, none⟩ = some (.int .i64 y) ∧ wx.cell? ⟨B3, 0, none⟩ = some (.int .i64 x) ∧ wx.cell? ⟨B3, 1, none⟩ = some (.int .i64 y) ∧ wx.cell? ⟨B4, 0, none⟩ = some (.int .i64 x) ∧ wx.cell? ⟨B4, 1, none⟩ = some (.int .i64 y) ∧ Below w.heap.size w wx)
      case first =>
        have t1 := World.block_lt_of_cell? v4 _ q0
        simp only at t1
        have t2 : B1 < v4.heap.size + 1 := by omega
        go_region_held3 (fun W => W.cell? ⟨B1, 0, none⟩ = some (.int .i64 a) ∧ W.cell? ⟨B1, 1, none⟩ = some (.int .i64 b) ∧ Below v4.heap.size v4 W) (((try go_split_ands); (repeat' (with_reducible refine And.intro ?_ ?_)) <;> (first | (with_reducible assumption) | ((repeat (first | (with_reducible assumption) | (exact keep_undr (by with_reducible assumption)) | (with_reducible refine keep_dr ?_) | (with_reducible refine keep_drN ?_ _) | (with_reducible refine keep_al ?_ _) | (refine keep_set ?_ (by first | omega | (simp; done) | (simp; omega))) | (with_reducible refine keep_tr ?_ (by assumption)))); done) | ((repeat (first | (with_reducible assumption) | (exact bel_undr (by with_reducible assumption)) | (with_reducible exact bel_refl _) | (with_reducible refine bel_dr ?_) | (with_reducible refine bel_drN ?_ _) | (with_reducible refine bel_al ?_ _) | (refine bel_set ?_ (by first | omega | (simp; done) | (simp; omega)) _) | (with_reducible refine bel_tr ?_ (by assumption)))); done)))) (first | (go_at_call 21; refine (back_val _ _ _ _ _ K1.out K2.out).mono ?_; rintro e6 w6 ⟨rfl, hb6⟩; obtain ⟨bc6, bf6, sl6, se6, sk6⟩ := bfacts hb6; have hz6 := hb6.size; (try simp at hz6)) | (go_at_call 19; refine (tm_val U1.out U2.out U3.out _).mono ?_; rintro e7 w7 ⟨rfl, hb7⟩; obtain ⟨bc7, bf7, sl7, se7, sk7⟩ := bfacts hb7; have hz7 := hb7.size; (try simp at hz7)))
        all_goals
          go_wp2_with fail
          go_meet
          first
          | (have BV : Below v4.heap.size v4 (w7.alloc (.cells #[.int .i64 1, .int .i64 1] 39)) := (by repeat (first | (with_reducible assumption) | (exact bel_undr (by with_reducible assumption)) | (with_reducible exact bel_refl _) | (with_reducible refine bel_dr ?_) | (with_reducible refine bel_drN ?_ _) | (with_reducible refine bel_al ?_ _) | (refine bel_set ?_ (by first | omega | (simp; done) | (simp; omega)) _) | (with_reducible refine bel_tr ?_ (by assumption))))
             exact ⟨_, rfl, rfl, by rw [Blk.cell (Blk.new w7 _ _)]; rfl, by rw [Blk.cell (Blk.new w7 _ _)]; rfl, keep_tr q0 BV, keep_tr q1 BV, keep_tr q2 BV, keep_tr q3 BV, keep_tr q4 BV, keep_tr q5 BV, keep_tr q6 BV, keep_tr q7 BV, keep_tr q8 BV, keep_tr q9 BV, bel_tr (by assumption) BV⟩)
          | (have bG : Blk w7 w6.heap.size #[.int .i64 0, .int .i64 0] 39 := (Blk.new w6 _ _).below hb7
             have BV : Below v4.heap.size v4 ((w7.setCell ⟨w6.heap.size, 0, none⟩ (.int .i64 1)).setCell ⟨w6.heap.size, 1, none⟩ (.int .i64 1)) := (by repeat (first | (with_reducible assumption) | (exact bel_undr (by with_reducible assumption)) | (with_reducible exact bel_refl _) | (with_reducible refine bel_dr ?_) | (with_reducible refine bel_drN ?_ _) | (with_reducible refine bel_al ?_ _) | (refine bel_set ?_ (by first | omega | (simp; done) | (simp; omega)) _) | (with_reducible refine bel_tr ?_ (by assumption))))
             exact ⟨_, rfl, rfl, by rw [Blk.cell ((bG.s20).s21)]; rfl, by rw [Blk.cell ((bG.s20).s21)]; rfl, keep_tr q0 BV, keep_tr q1 BV, keep_tr q2 BV, keep_tr q3 BV, keep_tr q4 BV, keep_tr q5 BV, keep_tr q6 BV, keep_tr q7 BV, keep_tr q8 BV, keep_tr q9 BV, bel_tr (by assumption) BV⟩)
          | (have bG0 : Blk w6 v4.heap.size #[.int .i64 0, .int .i64 0] 39 := (by first | exact (Blk.new v4 _ _).below hb6 | exact (Blk.new v4.drew _ _).below hb6 | exact ((Blk.new v4 _ _).drew).below hb6)
             have bG := bG0.below hb7
             have BV : Below v4.heap.size v4 ((w7.setCell ⟨v4.heap.size, 0, none⟩ (.int .i64 1)).setCell ⟨v4.heap.size, 1, none⟩ (.int .i64 1)) := (by repeat (first | (with_reducible assumption) | (exact bel_undr (by with_reducible assumption)) | (with_reducible exact bel_refl _) | (with_reducible refine bel_dr ?_) | (with_reducible refine bel_drN ?_ _) | (with_reducible refine bel_al ?_ _) | (refine bel_set ?_ (by first | omega | (simp; done) | (simp; omega)) _) | (with_reducible refine bel_tr ?_ (by assumption))))
             exact ⟨_, rfl, rfl, by rw [Blk.cell ((bG.s20).s21)]; rfl, by rw [Blk.cell ((bG.s20).s21)]; rfl, keep_tr q0 BV, keep_tr q1 BV, keep_tr q2 BV, keep_tr q3 BV, keep_tr q4 BV, keep_tr q5 BV, keep_tr q6 BV, keep_tr q7 BV, keep_tr q8 BV, keep_tr q9 BV, bel_tr (by assumption) BV⟩)
      case rest =>
        obtain ⟨B6, rfl, rfl, hB0, hB1, q0, q1, q2, q3, q4, q5, q6, q7, q8, q9, qb⟩ := hcut
        go_wp2_with fail
        refine (rv_val T3.out _).mono ?_
        rintro e7 w7 ⟨rfl, b7⟩
        have q0 := keep_tr q0 b7
        have q1 := keep_tr q1 b7
        have q2 := keep_tr q2 b7
        have q3 := keep_tr q3 b7
        have q4 := keep_tr q4 b7
        have q5 := keep_tr q5 b7
        have q6 := keep_tr q6 b7
        have q7 := keep_tr q7 b7
        have q8 := keep_tr q8 b7
        have q9 := keep_tr q9 b7
        have hB0 := keep_tr hB0 b7
        have hB1 := keep_tr hB1 b7
        have Q1 := Q.out
        go_wp2
        go_ret
        exact ⟨rfl, by repeat (first | (with_reducible assumption) | (exact bel_undr (by with_reducible assumption)) | (with_reducible exact bel_refl _) | (with_reducible refine bel_dr ?_) | (with_reducible refine bel_drN ?_ _) | (with_reducible refine bel_al ?_ _) | (refine bel_set ?_ (by first | (simp; done) | (simp; exact Below.size (by assumption)) | (simp; omega)) _) | (with_reducible refine bel_tr ?_ (by assumption)))⟩
  · have hl2 : (1048576 : Int) < (len : Int) := by omega
    go_enter Try.func5, Try.ntmps5
    go_wp2
    go_ret
    exact ⟨rfl, bel_refl _⟩

end Go.Proofs.Ytgjjoaffmflbgaa.FnRatioTimes
