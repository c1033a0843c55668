/- The pitch to which an interval leads; of the program and of the reference. -/
import Derived.Test.YtiapfpjggginoaaBt
import Derived.Deep.RegionWith
import Derived.Deep.DeepCutAuto
namespace Go.Proofs.Ytiapfpjggginoaa
set_option linter.unusedSimpArgs false
set_option linter.unusedVariables false
open Go.RowKit

def pwB (p k : Int) : Bool := decide (0 ≤ p) && pvB (p % 7) (k - natI p) (p / 7)
def pwS (p k : Int) : Int := if pwB p k then p % 7 else 0
def pwA (p k : Int) : Int := if pwB p k then k - natI p else 0
def pwO (p k : Int) : Int := if pwB p k then p / 7 else 0
def adB (s a o st ha : Int) : Bool := pvB s a o && ivB st ha && pwB (7 * o + s + st) (12 * o + shI s + a + ha)
def adS (s a o st ha : Int) : Int := if adB s a o st ha then (7 * o + s + st) % 7 else 0
def adA (s a o st ha : Int) : Int := if adB s a o st ha then 12 * o + shI s + a + ha - natI (7 * o + s + st) else 0
def adO (s a o st ha : Int) : Int := if adB s a o st ha then (7 * o + s + st) / 7 else 0

set_option maxHeartbeats 1000000 in
theorem pp_yes (s a o : Int) (w : World) (hv : pvB s a o = true) : Calls Try.prog 77 #[.agg #[.int .i64 s, .int .i64 a, .int .i64 o]] w fun e w' => e = .returned (.int .i64 (7 * o + s)) ∧ Below w.heap.size w w' := by
  obtain ⟨h0, h1, h2, h3, h4, h5⟩ := pvB_bd hv
  have HV := Lib.hid hv
  clear hv
  have x0 := IntWalk.i64_in (7 * o) (by omega)
  have x1 := IntWalk.i64_in (7 * o + s) (by omega)
  go_enter Try.func77, Try.ntmps77
  go_wp2_with fail
  refine (pv_val HV.out _).mono ?_
  rintro e1 w1 ⟨rfl, b1⟩
  have q0 : w1.cell? ⟨w.heap.size, 0, none⟩ = some (.int .i64 s) := keep_tr (by simp) b1
  have q1 : w1.cell? ⟨w.heap.size, 1, none⟩ = some (.int .i64 a) := keep_tr (by simp) b1
  have q2 : w1.cell? ⟨w.heap.size, 2, none⟩ = some (.int .i64 o) := keep_tr (by simp) b1
  go_wp2
  go_ret
  exact ⟨rfl, by repeat (first | (with_reducible assumption) | (exact bel_undr (by with_reducible assumption)) | (with_reducible exact bel_refl _) | (with_reducible refine bel_dr ?_) | (with_reducible refine bel_drN ?_ _) | (with_reducible refine bel_al ?_ _) | (refine bel_set ?_ (by first | (simp; done) | (simp; exact Below.size (by assumption)) | (simp; omega)) _) | (with_reducible refine bel_tr ?_ (by assumption)))⟩

set_option maxHeartbeats 1000000 in
theorem spp_yes (s a o : Int) (w : World) (hv : pvB s a o = true) : Calls Try.prog 92 #[.agg #[.int .i64 s, .int .i64 a, .int .i64 o]] w fun e w' => e = .returned (.int .i64 (7 * o + s)) ∧ Below w.heap.size w w' := by
  obtain ⟨h0, h1, h2, h3, h4, h5⟩ := pvB_bd hv
  have HV := Lib.hid hv
  clear hv
  have x0 := IntWalk.i64_in (7 * o) (by omega)
  have x1 := IntWalk.i64_in (7 * o + s) (by omega)
  go_enter Try.func92, Try.ntmps92
  go_wp2_with fail
  refine (spv_val HV.out _).mono ?_
  rintro e1 w1 ⟨rfl, b1⟩
  have q0 : w1.cell? ⟨w.heap.size, 0, none⟩ = some (.int .i64 s) := keep_tr (by simp) b1
  have q1 : w1.cell? ⟨w.heap.size, 1, none⟩ = some (.int .i64 a) := keep_tr (by simp) b1
  have q2 : w1.cell? ⟨w.heap.size, 2, none⟩ = some (.int .i64 o) := keep_tr (by simp) b1
  go_wp2
  go_ret
  exact ⟨rfl, by repeat (first | (with_reducible assumption) | (exact bel_undr (by with_reducible assumption)) | (with_reducible exact bel_refl _) | (with_reducible refine bel_dr ?_) | (with_reducible refine bel_drN ?_ _) | (with_reducible refine bel_al ?_ _) | (refine bel_set ?_ (by first | (simp; done) | (simp; exact Below.size (by assumption)) | (simp; omega)) _) | (with_reducible refine bel_tr ?_ (by assumption)))⟩

theorem tup_to {P : Program} {f : FuncId} {args : Array Value} {w : World} {a b c x y z : Int} {d v : Bool} (h : a = x ∧ b = y ∧ c = z ∧ d = v) (H : Calls P f args w fun e w' => e = .returned (.tuple #[.agg #[.int .i64 (x), .int .i64 (y), .int .i64 (z)], .bool (v)]) ∧ Below w.heap.size w w') :
    Calls P f args w fun e w' => e = .returned (.tuple #[.agg #[.int .i64 (a), .int .i64 (b), .int .i64 (c)], .bool (d)]) ∧ Below w.heap.size w w' := by obtain ⟨rfl, rfl, rfl, rfl⟩ := h; exact H
set_option maxHeartbeats 2000000 in
theorem pw_any (p k : Int) (w : World) (p0 : -100000 ≤ p) (p1 : p ≤ 100000) (k0 : -100000 ≤ k) (k1 : k ≤ 100000) :
    Calls Try.prog 76 #[.int .i64 p, .int .i64 k] w fun e w' => e = .returned (.tuple #[.agg #[.int .i64 (pwS p k), .int .i64 (pwA p k), .int .i64 (pwO p k)], .bool (pwB p k)]) ∧ Below w.heap.size w w' := by
  by_cases h0 : p < 0
  · have e : pwB p k = false := by unfold pwB; rw [decide_eq_false (by omega)]; rfl
    refine tup_to (x := 0) (y := 0) (z := 0) (v := false) (by unfold pwS pwA pwO; rw [e]; exact ⟨rfl, rfl, rfl, rfl⟩) ?_
    go_enter Try.func76, Try.ntmps76
    go_wp2
    exact bodyPost_ret (v := .tuple #[.agg #[.int .i64 (0), .int .i64 (0), .int .i64 (0)], .bool (false)]) (by simp [results, Try.results76, go_sem]) rfl ⟨rfl, by repeat (first | (with_reducible assumption) | (exact bel_undr (by with_reducible assumption)) | (with_reducible exact bel_refl _) | (with_reducible refine bel_dr ?_) | (with_reducible refine bel_drN ?_ _) | (with_reducible refine bel_al ?_ _) | (refine bel_set ?_ (by first | (simp; done) | (simp; exact Below.size (by assumption)) | (simp; omega)) _) | (with_reducible refine bel_tr ?_ (by assumption)))⟩
  · have h1 : 0 ≤ p := by omega
    have hn := natI_bd p h1 (by omega)
    have e0 : decide (0 ≤ p) = true := decide_eq_true h1
    have d0 : decide (p < 0) = false := decide_eq_false h0
    obtain ⟨z, hz⟩ : ∃ z, natI p = z := ⟨_, rfl⟩
    have HZ := Lib.hid hz
    have m0 : 0 ≤ p % 7 := by omega
    have m1 : 0 ≤ p / 7 := by omega
    obtain ⟨v, hv⟩ : ∃ v, pvB (p % 7) (k - natI p) (p / 7) = v := ⟨_, rfl⟩
    have hB : pwB p k = v := by unfold pwB; rw [e0, hv]; rfl
    rw [hz] at hv hn
    have HV := Lib.hid hv
    have i1 := IntWalk.i64_in (k - z) (by omega)
    have HB := Lib.hid hB
    have bR : Blk (w.alloc (.cells #[.int .i64 0, .int .i64 0, .int .i64 0] 53)) w.heap.size #[.int .i64 0, .int .i64 0, .int .i64 0] 53 := Blk.new w _ _
    have bw : Below w.heap.size w (w.alloc (.cells #[.int .i64 0, .int .i64 0, .int .i64 0] 53)) := bel_al (bel_refl w) _
    have key : ∀ x y t, (x = if v then p % 7 else 0) ∧ (y = if v then k - z else 0) ∧ (t = if v then p / 7 else 0) → pwS p k = x ∧ pwA p k = y ∧ pwO p k = t ∧ pwB p k = v := by
      rintro x y t ⟨rfl, rfl, rfl⟩
      unfold pwS pwA pwO
      rw [HB.out, HZ.out]
      exact ⟨rfl, rfl, rfl, rfl⟩
    have KEY := Lib.hid key
    clear hv hB hz key e0
    cases v
    · refine tup_to (KEY.out 0 0 0 ⟨rfl, rfl, rfl⟩) ?_
      go_enter Try.func76, Try.ntmps76
      go_wp2_with fail
      generalize (w.alloc (.cells #[.int .i64 0, .int .i64 0, .int .i64 0] 53)) = w0 at *
      refine (pl_val HZ.out _ h1 (by omega)).mono ?_
      rintro e1 w1 ⟨rfl, b1⟩
      have bR := bR.below b1
      have bw := bel_tr bw b1
      go_wp2_with fail
      have bP : Blk (w1.alloc (.cells #[.int .i64 (p % 7), .int .i64 (k - z), .int .i64 (p / 7)] 53)) w1.heap.size #[.int .i64 (p % 7), .int .i64 (k - z), .int .i64 (p / 7)] 53 := Blk.new w1 _ _
      have bR := bR.alloc (.cells #[.int .i64 (p % 7), .int .i64 (k - z), .int .i64 (p / 7)] 53)
      have bw := bel_al bw (.cells #[.int .i64 (p % 7), .int .i64 (k - z), .int .i64 (p / 7)] 53)
      generalize (w1.alloc (.cells #[.int .i64 (p % 7), .int .i64 (k - z), .int .i64 (p / 7)] 53)) = v2 at *
      generalize w1.heap.size = P at *
      refine (pv_val HV.out _).mono ?_
      rintro e3 w3 ⟨rfl, b3⟩
      have bR := bR.below b3
      have bP := bP.below b3
      have bw := bel_tr bw b3
      have cP0 : w3.cell? ⟨P, 0, none⟩ = some (.int .i64 (p % 7)) := by rw [Blk.cell bP]; rfl
      have cP1 : w3.cell? ⟨P, 1, none⟩ = some (.int .i64 (k - z)) := by rw [Blk.cell bP]; rfl
      have cP2 : w3.cell? ⟨P, 2, none⟩ = some (.int .i64 (p / 7)) := by rw [Blk.cell bP]; rfl
      have cR0 : w3.cell? ⟨w.heap.size, 0, none⟩ = some (.int .i64 0) := by rw [Blk.cell bR]; rfl
      have fR0 := Blk.free bR 0
      have cR1 : w3.cell? ⟨w.heap.size, 1, none⟩ = some (.int .i64 0) := by rw [Blk.cell bR]; rfl
      have fR1 := Blk.free bR 1
      have cR2 : w3.cell? ⟨w.heap.size, 2, none⟩ = some (.int .i64 0) := by rw [Blk.cell bR]; rfl
      have fR2 := Blk.free bR 2
      have lR := Blk.lt bR
      go_wp2
      exact bodyPost_ret (v := .tuple #[.agg #[.int .i64 (0), .int .i64 (0), .int .i64 (0)], .bool false]) (by simp [results, Try.results76, go_sem, cR0, fR0, cR1, fR1, cR2, fR2]) rfl ⟨rfl, by repeat (first | (with_reducible assumption) | (exact bel_undr (by with_reducible assumption)) | (with_reducible exact bel_refl _) | (with_reducible refine bel_dr ?_) | (with_reducible refine bel_drN ?_ _) | (with_reducible refine bel_al ?_ _) | (refine bel_set ?_ (by first | (simp; done) | (simp; exact Below.size (by assumption)) | (simp; omega)) _) | (with_reducible refine bel_tr ?_ (by assumption)))⟩
    · refine tup_to (KEY.out (p % 7) (k - z) (p / 7) ⟨rfl, rfl, rfl⟩) ?_
      go_enter Try.func76, Try.ntmps76
      go_wp2_with fail
      generalize (w.alloc (.cells #[.int .i64 0, .int .i64 0, .int .i64 0] 53)) = w0 at *
      refine (pl_val HZ.out _ h1 (by omega)).mono ?_
      rintro e1 w1 ⟨rfl, b1⟩
      have bR := bR.below b1
      have bw := bel_tr bw b1
      go_wp2_with fail
      have bP : Blk (w1.alloc (.cells #[.int .i64 (p % 7), .int .i64 (k - z), .int .i64 (p / 7)] 53)) w1.heap.size #[.int .i64 (p % 7), .int .i64 (k - z), .int .i64 (p / 7)] 53 := Blk.new w1 _ _
      have bR := bR.alloc (.cells #[.int .i64 (p % 7), .int .i64 (k - z), .int .i64 (p / 7)] 53)
      have bw := bel_al bw (.cells #[.int .i64 (p % 7), .int .i64 (k - z), .int .i64 (p / 7)] 53)
      generalize (w1.alloc (.cells #[.int .i64 (p % 7), .int .i64 (k - z), .int .i64 (p / 7)] 53)) = v2 at *
      generalize w1.heap.size = P at *
      refine (pv_val HV.out _).mono ?_
      rintro e3 w3 ⟨rfl, b3⟩
      have bR := bR.below b3
      have bP := bP.below b3
      have bw := bel_tr bw b3
      have cP0 : w3.cell? ⟨P, 0, none⟩ = some (.int .i64 (p % 7)) := by rw [Blk.cell bP]; rfl
      have cP1 : w3.cell? ⟨P, 1, none⟩ = some (.int .i64 (k - z)) := by rw [Blk.cell bP]; rfl
      have cP2 : w3.cell? ⟨P, 2, none⟩ = some (.int .i64 (p / 7)) := by rw [Blk.cell bP]; rfl
      have cR0 : w3.cell? ⟨w.heap.size, 0, none⟩ = some (.int .i64 0) := by rw [Blk.cell bR]; rfl
      have fR0 := Blk.free bR 0
      have cR1 : w3.cell? ⟨w.heap.size, 1, none⟩ = some (.int .i64 0) := by rw [Blk.cell bR]; rfl
      have fR1 := Blk.free bR 1
      have cR2 : w3.cell? ⟨w.heap.size, 2, none⟩ = some (.int .i64 0) := by rw [Blk.cell bR]; rfl
      have fR2 := Blk.free bR 2
      have lR := Blk.lt bR
      go_wp2
      exact bodyPost_ret (v := .tuple #[.agg #[.int .i64 (p % 7), .int .i64 (k - z), .int .i64 (p / 7)], .bool true]) (by simp [results, Try.results76, go_sem, cR0, fR0, cR1, fR1, cR2, fR2]) rfl ⟨rfl, by repeat (first | (with_reducible assumption) | (exact bel_undr (by with_reducible assumption)) | (with_reducible exact bel_refl _) | (with_reducible refine bel_dr ?_) | (with_reducible refine bel_drN ?_ _) | (with_reducible refine bel_al ?_ _) | (refine bel_set ?_ (by first | (simp; done) | (simp; exact Below.size (by assumption)) | (simp; omega)) _) | (with_reducible refine bel_tr ?_ (by assumption)))⟩
theorem pw_val {p k x y z : Int} {v : Bool} (h1 : pwS p k = x) (h2 : pwA p k = y) (h3 : pwO p k = z) (h4 : pwB p k = v) (w : World) (p0 : -100000 ≤ p) (p1 : p ≤ 100000) (k0 : -100000 ≤ k) (k1 : k ≤ 100000) :
    Calls Try.prog 76 #[.int .i64 p, .int .i64 k] w fun e w' => e = .returned (.tuple #[.agg #[.int .i64 (x), .int .i64 (y), .int .i64 (z)], .bool (v)]) ∧ Below w.heap.size w w' := by
  subst h1 h2 h3 h4; exact pw_any p k w p0 p1 k0 k1

set_option maxHeartbeats 4000000 in
theorem ad_any (s a o st ha : Int) (w : World) : Calls Try.prog 55 #[.agg #[.int .i64 s, .int .i64 a, .int .i64 o], .agg #[.int .i64 st, .int .i64 ha]] w fun e w' => e = .returned (.tuple #[.agg #[.int .i64 (adS s a o st ha), .int .i64 (adA s a o st ha), .int .i64 (adO s a o st ha)], .bool (adB s a o st ha)]) ∧ Below w.heap.size w w' := by
  cases hp : pvB s a o
  · refine tup_to (x := 0) (y := 0) (z := 0) (v := false) (by have e : adB s a o st ha = false := (by unfold adB; rw [hp]; rfl); unfold adS adA adO; rw [e]; exact ⟨rfl, rfl, rfl, rfl⟩) ?_
    have HP := Lib.hid hp
    clear hp
    go_enter Try.func55, Try.ntmps55
    have bP : Blk (((w.alloc (.cells #[.int .i64 s, .int .i64 a, .int .i64 o] 53)).alloc (.cells #[.int .i64 st, .int .i64 ha] 44)).alloc (.cells #[.int .i64 0, .int .i64 0, .int .i64 0] 53)) w.heap.size #[.int .i64 s, .int .i64 a, .int .i64 o] 53 := ((Blk.new w _ _).alloc _).alloc _
    have bV : Blk (((w.alloc (.cells #[.int .i64 s, .int .i64 a, .int .i64 o] 53)).alloc (.cells #[.int .i64 st, .int .i64 ha] 44)).alloc (.cells #[.int .i64 0, .int .i64 0, .int .i64 0] 53)) (w.heap.size + 1) #[.int .i64 st, .int .i64 ha] 44 := by simpa using (Blk.new (w.alloc (.cells #[.int .i64 s, .int .i64 a, .int .i64 o] 53)) #[.int .i64 st, .int .i64 ha] 44).alloc (.cells #[.int .i64 0, .int .i64 0, .int .i64 0] 53)
    have bR : Blk (((w.alloc (.cells #[.int .i64 s, .int .i64 a, .int .i64 o] 53)).alloc (.cells #[.int .i64 st, .int .i64 ha] 44)).alloc (.cells #[.int .i64 0, .int .i64 0, .int .i64 0] 53)) (w.heap.size + 2) #[.int .i64 0, .int .i64 0, .int .i64 0] 53 := by simpa using Blk.new ((w.alloc (.cells #[.int .i64 s, .int .i64 a, .int .i64 o] 53)).alloc (.cells #[.int .i64 st, .int .i64 ha] 44)) #[.int .i64 0, .int .i64 0, .int .i64 0] 53
    have bw : Below w.heap.size w (((w.alloc (.cells #[.int .i64 s, .int .i64 a, .int .i64 o] 53)).alloc (.cells #[.int .i64 st, .int .i64 ha] 44)).alloc (.cells #[.int .i64 0, .int .i64 0, .int .i64 0] 53)) := bel_al (bel_al (bel_al (bel_refl w) _) _) _
    go_wp2_with fail
    generalize (((w.alloc (.cells #[.int .i64 s, .int .i64 a, .int .i64 o] 53)).alloc (.cells #[.int .i64 st, .int .i64 ha] 44)).alloc (.cells #[.int .i64 0, .int .i64 0, .int .i64 0] 53)) = w0 at *
    refine (pv_val HP.out _).mono ?_
    rintro e1 w1 ⟨rfl, b1⟩
    have bP := bP.below b1
    have bV := bV.below b1
    have bR := bR.below b1
    have bw := bel_tr bw b1
    clear b1
    have cP0 : w1.cell? ⟨w.heap.size, 0, none⟩ = some (.int .i64 s) := by rw [Blk.cell bP]; rfl
    have cP1 : w1.cell? ⟨w.heap.size, 1, none⟩ = some (.int .i64 a) := by rw [Blk.cell bP]; rfl
    have cP2 : w1.cell? ⟨w.heap.size, 2, none⟩ = some (.int .i64 o) := by rw [Blk.cell bP]; rfl
    have cV0 : w1.cell? ⟨w.heap.size + 1, 0, none⟩ = some (.int .i64 st) := by rw [Blk.cell bV]; rfl
    have cV1 : w1.cell? ⟨w.heap.size + 1, 1, none⟩ = some (.int .i64 ha) := by rw [Blk.cell bV]; rfl
    have cR0 : w1.cell? ⟨w.heap.size + 2, 0, none⟩ = some (.int .i64 0) := by rw [Blk.cell bR]; rfl
    have fR0 := Blk.free bR 0
    have cR1 : w1.cell? ⟨w.heap.size + 2, 1, none⟩ = some (.int .i64 0) := by rw [Blk.cell bR]; rfl
    have fR1 := Blk.free bR 1
    have cR2 : w1.cell? ⟨w.heap.size + 2, 2, none⟩ = some (.int .i64 0) := by rw [Blk.cell bR]; rfl
    have fR2 := Blk.free bR 2
    have lR := Blk.lt bR
    go_wp2
    exact bodyPost_ret (v := .tuple #[.agg #[.int .i64 (0), .int .i64 (0), .int .i64 (0)], .bool false]) (by simp [results, Try.results55, go_sem, cR0, fR0, cR1, fR1, cR2, fR2]) rfl ⟨rfl, by repeat (first | (with_reducible assumption) | (exact bel_undr (by with_reducible assumption)) | (with_reducible exact bel_refl _) | (with_reducible refine bel_dr ?_) | (with_reducible refine bel_drN ?_ _) | (with_reducible refine bel_al ?_ _) | (refine bel_set ?_ (by first | (simp; done) | (simp; exact Below.size (by assumption)) | (simp; omega)) _) | (with_reducible refine bel_tr ?_ (by assumption)))⟩
  · cases hi : ivB st ha
    · refine tup_to (x := 0) (y := 0) (z := 0) (v := false) (by have e : adB s a o st ha = false := (by unfold adB; rw [hp, hi]; rfl); unfold adS adA adO; rw [e]; exact ⟨rfl, rfl, rfl, rfl⟩) ?_
      have HP := Lib.hid hp
      have HI := Lib.hid hi
      clear hp hi
      go_enter Try.func55, Try.ntmps55
      have bP : Blk (((w.alloc (.cells #[.int .i64 s, .int .i64 a, .int .i64 o] 53)).alloc (.cells #[.int .i64 st, .int .i64 ha] 44)).alloc (.cells #[.int .i64 0, .int .i64 0, .int .i64 0] 53)) w.heap.size #[.int .i64 s, .int .i64 a, .int .i64 o] 53 := ((Blk.new w _ _).alloc _).alloc _
      have bV : Blk (((w.alloc (.cells #[.int .i64 s, .int .i64 a, .int .i64 o] 53)).alloc (.cells #[.int .i64 st, .int .i64 ha] 44)).alloc (.cells #[.int .i64 0, .int .i64 0, .int .i64 0] 53)) (w.heap.size + 1) #[.int .i64 st, .int .i64 ha] 44 := by simpa using (Blk.new (w.alloc (.cells #[.int .i64 s, .int .i64 a, .int .i64 o] 53)) #[.int .i64 st, .int .i64 ha] 44).alloc (.cells #[.int .i64 0, .int .i64 0, .int .i64 0] 53)
      have bR : Blk (((w.alloc (.cells #[.int .i64 s, .int .i64 a, .int .i64 o] 53)).alloc (.cells #[.int .i64 st, .int .i64 ha] 44)).alloc (.cells #[.int .i64 0, .int .i64 0, .int .i64 0] 53)) (w.heap.size + 2) #[.int .i64 0, .int .i64 0, .int .i64 0] 53 := by simpa using Blk.new ((w.alloc (.cells #[.int .i64 s, .int .i64 a, .int .i64 o] 53)).alloc (.cells #[.int .i64 st, .int .i64 ha] 44)) #[.int .i64 0, .int .i64 0, .int .i64 0] 53
      have bw : Below w.heap.size w (((w.alloc (.cells #[.int .i64 s, .int .i64 a, .int .i64 o] 53)).alloc (.cells #[.int .i64 st, .int .i64 ha] 44)).alloc (.cells #[.int .i64 0, .int .i64 0, .int .i64 0] 53)) := bel_al (bel_al (bel_al (bel_refl w) _) _) _
      go_wp2_with fail
      generalize (((w.alloc (.cells #[.int .i64 s, .int .i64 a, .int .i64 o] 53)).alloc (.cells #[.int .i64 st, .int .i64 ha] 44)).alloc (.cells #[.int .i64 0, .int .i64 0, .int .i64 0] 53)) = w0 at *
      refine (pv_val HP.out _).mono ?_
      rintro e1 w1 ⟨rfl, b1⟩
      have bP := bP.below b1
      have bV := bV.below b1
      have bR := bR.below b1
      have bw := bel_tr bw b1
      clear b1
      have cP0 : w1.cell? ⟨w.heap.size, 0, none⟩ = some (.int .i64 s) := by rw [Blk.cell bP]; rfl
      have cP1 : w1.cell? ⟨w.heap.size, 1, none⟩ = some (.int .i64 a) := by rw [Blk.cell bP]; rfl
      have cP2 : w1.cell? ⟨w.heap.size, 2, none⟩ = some (.int .i64 o) := by rw [Blk.cell bP]; rfl
      have cV0 : w1.cell? ⟨w.heap.size + 1, 0, none⟩ = some (.int .i64 st) := by rw [Blk.cell bV]; rfl
      have cV1 : w1.cell? ⟨w.heap.size + 1, 1, none⟩ = some (.int .i64 ha) := by rw [Blk.cell bV]; rfl
      have cR0 : w1.cell? ⟨w.heap.size + 2, 0, none⟩ = some (.int .i64 0) := by rw [Blk.cell bR]; rfl
      have fR0 := Blk.free bR 0
      have cR1 : w1.cell? ⟨w.heap.size + 2, 1, none⟩ = some (.int .i64 0) := by rw [Blk.cell bR]; rfl
      have fR1 := Blk.free bR 1
      have cR2 : w1.cell? ⟨w.heap.size + 2, 2, none⟩ = some (.int .i64 0) := by rw [Blk.cell bR]; rfl
      have fR2 := Blk.free bR 2
      have lR := Blk.lt bR
      go_wp2_with fail
      refine (iv_val HI.out _).mono ?_
      rintro e2 w2 ⟨rfl, b2⟩
      have bP := bP.below b2
      have bV := bV.below b2
      have bR := bR.below b2
      have bw := bel_tr bw b2
      clear b2
      have cP0 : w2.cell? ⟨w.heap.size, 0, none⟩ = some (.int .i64 s) := by rw [Blk.cell bP]; rfl
      have cP1 : w2.cell? ⟨w.heap.size, 1, none⟩ = some (.int .i64 a) := by rw [Blk.cell bP]; rfl
      have cP2 : w2.cell? ⟨w.heap.size, 2, none⟩ = some (.int .i64 o) := by rw [Blk.cell bP]; rfl
      have cV0 : w2.cell? ⟨w.heap.size + 1, 0, none⟩ = some (.int .i64 st) := by rw [Blk.cell bV]; rfl
      have cV1 : w2.cell? ⟨w.heap.size + 1, 1, none⟩ = some (.int .i64 ha) := by rw [Blk.cell bV]; rfl
      have cR0 : w2.cell? ⟨w.heap.size + 2, 0, none⟩ = some (.int .i64 0) := by rw [Blk.cell bR]; rfl
      have fR0 := Blk.free bR 0
      have cR1 : w2.cell? ⟨w.heap.size + 2, 1, none⟩ = some (.int .i64 0) := by rw [Blk.cell bR]; rfl
      have fR1 := Blk.free bR 1
      have cR2 : w2.cell? ⟨w.heap.size + 2, 2, none⟩ = some (.int .i64 0) := by rw [Blk.cell bR]; rfl
      have fR2 := Blk.free bR 2
      have lR := Blk.lt bR
      go_wp2
      exact bodyPost_ret (v := .tuple #[.agg #[.int .i64 (0), .int .i64 (0), .int .i64 (0)], .bool false]) (by simp [results, Try.results55, go_sem, cR0, fR0, cR1, fR1, cR2, fR2]) rfl ⟨rfl, by repeat (first | (with_reducible assumption) | (exact bel_undr (by with_reducible assumption)) | (with_reducible exact bel_refl _) | (with_reducible refine bel_dr ?_) | (with_reducible refine bel_drN ?_ _) | (with_reducible refine bel_al ?_ _) | (refine bel_set ?_ (by first | (simp; done) | (simp; exact Below.size (by assumption)) | (simp; omega)) _) | (with_reducible refine bel_tr ?_ (by assumption)))⟩
    · have hB : adB s a o st ha = pwB (7 * o + s + st) (12 * o + shI s + a + ha) := by unfold adB; rw [hp, hi]; rfl
      have hs := shI_bd s
      obtain ⟨h0, h1, h2, h3, h4, h5⟩ := pvB_bd hp
      obtain ⟨⟨j0, j1⟩, j2, j3⟩ := ivB_bd hi
      have hk : pkI s a o = 12 * o + shI s + a := by unfold pkI; rw [hp]; rfl
      obtain ⟨k, hk'⟩ : ∃ k, 12 * o + shI s + a = k := ⟨_, rfl⟩
      obtain ⟨p, hp'⟩ : ∃ p, 7 * o + s = p := ⟨_, rfl⟩
      refine tup_to (x := pwS (p + st) (k + ha)) (y := pwA (p + st) (k + ha)) (z := pwO (p + st) (k + ha)) (v := pwB (p + st) (k + ha)) (by
        unfold adS adA adO pwS pwA pwO
        rw [hB, hk', hp']; exact ⟨rfl, rfl, rfl, rfl⟩) ?_
      rw [hk'] at hk
      have HK := Lib.hid hk
      have HP := Lib.hid hp
      have HPP := Lib.hid hp'
      have HI := Lib.hid hi
      have k0 : -10 ≤ k := by omega
      have k1 : k ≤ 200 := by omega
      have p0 : 0 ≤ p := by omega
      have p1 : p ≤ 100 := by omega
      have x1 := IntWalk.i64_in (p + st) (by omega)
      have x2 := IntWalk.i64_in (k + ha) (by omega)
      obtain ⟨X, hX⟩ : ∃ X, pwS (p + st) (k + ha) = X := ⟨_, rfl⟩
      obtain ⟨Y, hY⟩ : ∃ Y, pwA (p + st) (k + ha) = Y := ⟨_, rfl⟩
      obtain ⟨Z, hZ⟩ : ∃ Z, pwO (p + st) (k + ha) = Z := ⟨_, rfl⟩
      obtain ⟨v, hv⟩ : ∃ v, pwB (p + st) (k + ha) = v := ⟨_, rfl⟩
      rw [hX, hY, hZ, hv]
      have HX := Lib.hid hX
      have HY := Lib.hid hY
      have HZ := Lib.hid hZ
      have HV := Lib.hid hv
      clear hX hY hZ hv hB hk hk' hp hp' hi hs
      go_enter Try.func55, Try.ntmps55
      have bP : Blk (((w.alloc (.cells #[.int .i64 s, .int .i64 a, .int .i64 o] 53)).alloc (.cells #[.int .i64 st, .int .i64 ha] 44)).alloc (.cells #[.int .i64 0, .int .i64 0, .int .i64 0] 53)) w.heap.size #[.int .i64 s, .int .i64 a, .int .i64 o] 53 := ((Blk.new w _ _).alloc _).alloc _
      have bV : Blk (((w.alloc (.cells #[.int .i64 s, .int .i64 a, .int .i64 o] 53)).alloc (.cells #[.int .i64 st, .int .i64 ha] 44)).alloc (.cells #[.int .i64 0, .int .i64 0, .int .i64 0] 53)) (w.heap.size + 1) #[.int .i64 st, .int .i64 ha] 44 := by simpa using (Blk.new (w.alloc (.cells #[.int .i64 s, .int .i64 a, .int .i64 o] 53)) #[.int .i64 st, .int .i64 ha] 44).alloc (.cells #[.int .i64 0, .int .i64 0, .int .i64 0] 53)
      have bR : Blk (((w.alloc (.cells #[.int .i64 s, .int .i64 a, .int .i64 o] 53)).alloc (.cells #[.int .i64 st, .int .i64 ha] 44)).alloc (.cells #[.int .i64 0, .int .i64 0, .int .i64 0] 53)) (w.heap.size + 2) #[.int .i64 0, .int .i64 0, .int .i64 0] 53 := by simpa using Blk.new ((w.alloc (.cells #[.int .i64 s, .int .i64 a, .int .i64 o] 53)).alloc (.cells #[.int .i64 st, .int .i64 ha] 44)) #[.int .i64 0, .int .i64 0, .int .i64 0] 53
      have bw : Below w.heap.size w (((w.alloc (.cells #[.int .i64 s, .int .i64 a, .int .i64 o] 53)).alloc (.cells #[.int .i64 st, .int .i64 ha] 44)).alloc (.cells #[.int .i64 0, .int .i64 0, .int .i64 0] 53)) := bel_al (bel_al (bel_al (bel_refl w) _) _) _
      go_wp2_with fail
      generalize (((w.alloc (.cells #[.int .i64 s, .int .i64 a, .int .i64 o] 53)).alloc (.cells #[.int .i64 st, .int .i64 ha] 44)).alloc (.cells #[.int .i64 0, .int .i64 0, .int .i64 0] 53)) = w0 at *
      refine (pv_val HP.out _).mono ?_
      rintro e1 w1 ⟨rfl, b1⟩
      have bP := bP.below b1
      have bV := bV.below b1
      have bR := bR.below b1
      have bw := bel_tr bw b1
      clear b1
      have cP0 : w1.cell? ⟨w.heap.size, 0, none⟩ = some (.int .i64 s) := by rw [Blk.cell bP]; rfl
      have cP1 : w1.cell? ⟨w.heap.size, 1, none⟩ = some (.int .i64 a) := by rw [Blk.cell bP]; rfl
      have cP2 : w1.cell? ⟨w.heap.size, 2, none⟩ = some (.int .i64 o) := by rw [Blk.cell bP]; rfl
      have cV0 : w1.cell? ⟨w.heap.size + 1, 0, none⟩ = some (.int .i64 st) := by rw [Blk.cell bV]; rfl
      have cV1 : w1.cell? ⟨w.heap.size + 1, 1, none⟩ = some (.int .i64 ha) := by rw [Blk.cell bV]; rfl
      have cR0 : w1.cell? ⟨w.heap.size + 2, 0, none⟩ = some (.int .i64 0) := by rw [Blk.cell bR]; rfl
      have fR0 := Blk.free bR 0
      have cR1 : w1.cell? ⟨w.heap.size + 2, 1, none⟩ = some (.int .i64 0) := by rw [Blk.cell bR]; rfl
      have fR1 := Blk.free bR 1
      have cR2 : w1.cell? ⟨w.heap.size + 2, 2, none⟩ = some (.int .i64 0) := by rw [Blk.cell bR]; rfl
      have fR2 := Blk.free bR 2
      have lR := Blk.lt bR
      go_wp2_with fail
      refine (iv_val HI.out _).mono ?_
      rintro e2 w2 ⟨rfl, b2⟩
      have bP := bP.below b2
      have bV := bV.below b2
      have bR := bR.below b2
      have bw := bel_tr bw b2
      clear b2
      have cP0 : w2.cell? ⟨w.heap.size, 0, none⟩ = some (.int .i64 s) := by rw [Blk.cell bP]; rfl
      have cP1 : w2.cell? ⟨w.heap.size, 1, none⟩ = some (.int .i64 a) := by rw [Blk.cell bP]; rfl
      have cP2 : w2.cell? ⟨w.heap.size, 2, none⟩ = some (.int .i64 o) := by rw [Blk.cell bP]; rfl
      have cV0 : w2.cell? ⟨w.heap.size + 1, 0, none⟩ = some (.int .i64 st) := by rw [Blk.cell bV]; rfl
      have cV1 : w2.cell? ⟨w.heap.size + 1, 1, none⟩ = some (.int .i64 ha) := by rw [Blk.cell bV]; rfl
      have cR0 : w2.cell? ⟨w.heap.size + 2, 0, none⟩ = some (.int .i64 0) := by rw [Blk.cell bR]; rfl
      have fR0 := Blk.free bR 0
      have cR1 : w2.cell? ⟨w.heap.size + 2, 1, none⟩ = some (.int .i64 0) := by rw [Blk.cell bR]; rfl
      have fR1 := Blk.free bR 1
      have cR2 : w2.cell? ⟨w.heap.size + 2, 2, none⟩ = some (.int .i64 0) := by rw [Blk.cell bR]; rfl
      have fR2 := Blk.free bR 2
      have lR := Blk.lt bR
      go_wp2_with fail
      have LA : ∀ xL : Later w2, Calls Try.prog 77 #[.agg #[.int .i64 s, .int .i64 a, .int .i64 o]] xL.world fun e w'' => e = .returned (.int .i64 p) ∧ ∃ z : Later w2, w'' = z.world := fun xL => later_call (by have h := pp_yes s a o xL.world HP.out; rw [HPP.out] at h; exact h)
      have LB : ∀ xL : Later w2, Calls Try.prog 47 #[.agg #[.int .i64 s, .int .i64 a, .int .i64 o]] xL.world fun e w'' => e = .returned (.int .i64 k) ∧ ∃ z : Later w2, w'' = z.world := fun xL => later_call (pk_val HK.out _)
      have LC : ∀ xL : Later w2, Calls Try.prog 76 #[.int .i64 (p + st), .int .i64 (k + ha)] xL.world fun e w'' => e = .returned (.tuple #[.agg #[.int .i64 (X), .int .i64 (Y), .int .i64 (Z)], .bool (v)]) ∧ ∃ z : Later w2, w'' = z.world := fun xL => later_call (pw_val HX.out HY.out HZ.out HV.out _ (by omega) (by omega) (by omega) (by omega))
      have lf0 : ∀ xL : Later w2, xL.world.cell? ⟨w.heap.size, 0, none⟩ = some (.int .i64 s) := fun xL => xL.at (cP0)
      have lf1 : ∀ xL : Later w2, xL.world.cell? ⟨w.heap.size, 1, none⟩ = some (.int .i64 a) := fun xL => xL.at (cP1)
      have lf2 : ∀ xL : Later w2, xL.world.cell? ⟨w.heap.size, 2, none⟩ = some (.int .i64 o) := fun xL => xL.at (cP2)
      have lf3 : ∀ xL : Later w2, xL.world.cell? ⟨w.heap.size + 1, 0, none⟩ = some (.int .i64 st) := fun xL => xL.at (cV0)
      have lf4 : ∀ xL : Later w2, xL.world.cell? ⟨w.heap.size + 1, 1, none⟩ = some (.int .i64 ha) := fun xL => xL.at (cV1)
      refine region_tail (w0 := w2) 13 (by kernel_rfl) (by kernel_rfl) (bel_refl _) ?_
      simp only [List.take_succ_cons, List.take_zero, List.drop_succ_cons, List.drop_zero]
      repeat (go_big_quiet_step ((first | (go_at_call 77; exact LA _) | (go_at_call 47; exact LB _) | (go_at_call 76; exact LC _))))
      refine wpQuiet_nil ?_
      rintro w' ⟨x, rfl⟩
      obtain ⟨wl, bl⟩ := x
      clear lf0 lf1 lf2 lf3 lf4
      have bR := bR.below bl
      have bw := bel_tr bw bl
      have cS0 : wl.cell? ⟨w.heap.size + 2, 0, none⟩ = some (.int .i64 0) := by rw [Blk.cell bR]; rfl
      have fS0 := Blk.free bR 0
      have cS1 : wl.cell? ⟨w.heap.size + 2, 1, none⟩ = some (.int .i64 0) := by rw [Blk.cell bR]; rfl
      have fS1 := Blk.free bR 1
      have cS2 : wl.cell? ⟨w.heap.size + 2, 2, none⟩ = some (.int .i64 0) := by rw [Blk.cell bR]; rfl
      have fS2 := Blk.free bR 2
      have lS := Blk.lt bR
      go_wp2
      exact bodyPost_ret (v := .tuple #[.agg #[.int .i64 (X), .int .i64 (Y), .int .i64 (Z)], .bool v]) (by simp [results, Try.results55, go_sem, cS0, fS0, cS1, fS1, cS2, fS2]) rfl ⟨rfl, by repeat (first | (with_reducible assumption) | (exact bel_undr (by with_reducible assumption)) | (with_reducible exact bel_refl _) | (with_reducible refine bel_dr ?_) | (with_reducible refine bel_drN ?_ _) | (with_reducible refine bel_al ?_ _) | (refine bel_set ?_ (by first | (simp; done) | (simp; exact Below.size (by assumption)) | (simp; omega)) _) | (with_reducible refine bel_tr ?_ (by assumption)))⟩
theorem ad_val {s a o st ha x y z : Int} {v : Bool} (h1 : adS s a o st ha = x) (h2 : adA s a o st ha = y) (h3 : adO s a o st ha = z) (h4 : adB s a o st ha = v) (w : World) :
    Calls Try.prog 55 #[.agg #[.int .i64 s, .int .i64 a, .int .i64 o], .agg #[.int .i64 st, .int .i64 ha]] w fun e w' => e = .returned (.tuple #[.agg #[.int .i64 (x), .int .i64 (y), .int .i64 (z)], .bool (v)]) ∧ Below w.heap.size w w' := by
  subst h1 h2 h3 h4; exact ad_any s a o st ha w
end Go.Proofs.Ytiapfpjggginoaa
