/- Notes copied and compared by the laws. A slice of Note that came in reads as a list. What ShiftVoice hands back; its contracts in value form. Voices moved and moved back: plain. Slices of notes that are appended whole; an append of nothing. Keys: the alteration of a step in a key, and whether a pitch is in a key; of the program and of the reference. Degrees of pitches in keys, of the program and of the reference. Intervals copied by the laws. Canons: the second voice; contracts of both. -/
import Derived.Test.YtiapfpjggginoaaRowNt
import Derived.Test.YtiapfpjggginoaaBa
import Derived.Test.YtiapfpjggginoaaShC
import Derived.Laws.MakeOwn
import Derived.Deep.DeepCutAuto
import Derived.Test.YtiapfpjggginoaaSh
import Derived.Test.YtiapfpjggginoaaSSh
import Derived.Test.YtiapfpjggginoaaBt
import Derived.Deep.Upon
import Derived.Deep.AppendSrc
import Derived.Deep.AppendLies
import Derived.Test.YtiapfpjggginoaaPitch
namespace Go.Proofs.Ytiapfpjggginoaa
set_option linter.unusedSimpArgs false
set_option linter.unusedVariables false
section
open Go.RowKit

set_option maxHeartbeats 1000000 in
theorem eqP_same (s a o : Int) (w : World) :
    Calls Try.prog 64 #[.agg #[.int .i64 s, .int .i64 a, .int .i64 o], .agg #[.int .i64 s, .int .i64 a, .int .i64 o]] w fun e w' => e = .returned (.bool true) ∧ Below w.heap.size w w' := by
  go_enter Try.func64, Try.ntmps64
  go_wp2
  go_ret
  exact ⟨rfl, by repeat (first | (with_reducible assumption) | (exact bel_undr (by with_reducible assumption)) | (with_reducible exact bel_refl _) | (with_reducible refine bel_dr ?_) | (with_reducible refine bel_drN ?_ _) | (with_reducible refine bel_al ?_ _) | (refine bel_set ?_ (by first | (simp; done) | (simp; exact Below.size (by assumption)) | (simp; omega)) _) | (with_reducible refine bel_tr ?_ (by assumption)))⟩
theorem toP_eq (s a o : Int) (w : World) :
    Calls Try.prog 60 #[.agg #[.int .i64 s, .int .i64 a, .int .i64 o]] w fun e w' => e = .returned (.agg #[.int .i64 s, .int .i64 a, .int .i64 o]) ∧ (((w.alloc (.cells #[.int .i64 s, .int .i64 a, .int .i64 o] 57)).alloc (.cells #[.int .i64 s, .int .i64 a, .int .i64 o] 53)).alloc (.cells #[.int .i64 s, .int .i64 a, .int .i64 o] 53)) = w' := by
  go_enter Try.func60, Try.ntmps60
  go_wp2
  exact bodyPost_ret (v := .agg #[.int .i64 s, .int .i64 a, .int .i64 o]) (by simp [results, Try.results60, go_sem]) rfl ⟨rfl, rfl⟩
set_option maxRecDepth 20000 in
set_option maxHeartbeats 2000000 in
theorem toNt_any (r : Bool) (s a o t : Int) (d : Bool) (w : World) : Calls Try.prog 38 #[.agg #[.bool r, .int .i64 s, .int .i64 a, .int .i64 o, .int .i64 t, .bool d]] w fun e w' => e = .returned (.agg #[.bool r, .int .i64 s, .int .i64 a, .int .i64 o, .int .i64 t, .bool d]) ∧ Below w.heap.size w w' := by
  go_enter Try.func38, Try.ntmps38
  have bA : Blk (((w.alloc (.cells #[.bool r, .int .i64 s, .int .i64 a, .int .i64 o, .int .i64 t, .bool d] 59)).alloc (.cells #[.bool false, .int .i64 0, .int .i64 0, .int .i64 0, .int .i64 0, .bool false] 55)).alloc (.cells #[.bool false, .int .i64 0, .int .i64 0, .int .i64 0, .int .i64 0, .bool false] 55)) w.heap.size #[.bool r, .int .i64 s, .int .i64 a, .int .i64 o, .int .i64 t, .bool d] 59 := ((Blk.new w _ _).alloc _).alloc _
  have bR : Blk (((w.alloc (.cells #[.bool r, .int .i64 s, .int .i64 a, .int .i64 o, .int .i64 t, .bool d] 59)).alloc (.cells #[.bool false, .int .i64 0, .int .i64 0, .int .i64 0, .int .i64 0, .bool false] 55)).alloc (.cells #[.bool false, .int .i64 0, .int .i64 0, .int .i64 0, .int .i64 0, .bool false] 55)) (w.heap.size + 1) #[.bool false, .int .i64 0, .int .i64 0, .int .i64 0, .int .i64 0, .bool false] 55 := by simpa using (Blk.new (w.alloc (.cells #[.bool r, .int .i64 s, .int .i64 a, .int .i64 o, .int .i64 t, .bool d] 59)) #[.bool false, .int .i64 0, .int .i64 0, .int .i64 0, .int .i64 0, .bool false] 55).alloc (.cells #[.bool false, .int .i64 0, .int .i64 0, .int .i64 0, .int .i64 0, .bool false] 55)
  have bO : Blk (((w.alloc (.cells #[.bool r, .int .i64 s, .int .i64 a, .int .i64 o, .int .i64 t, .bool d] 59)).alloc (.cells #[.bool false, .int .i64 0, .int .i64 0, .int .i64 0, .int .i64 0, .bool false] 55)).alloc (.cells #[.bool false, .int .i64 0, .int .i64 0, .int .i64 0, .int .i64 0, .bool false] 55)) (w.heap.size + 2) #[.bool false, .int .i64 0, .int .i64 0, .int .i64 0, .int .i64 0, .bool false] 55 := by simpa using Blk.new ((w.alloc (.cells #[.bool r, .int .i64 s, .int .i64 a, .int .i64 o, .int .i64 t, .bool d] 59)).alloc (.cells #[.bool false, .int .i64 0, .int .i64 0, .int .i64 0, .int .i64 0, .bool false] 55)) #[.bool false, .int .i64 0, .int .i64 0, .int .i64 0, .int .i64 0, .bool false] 55
  have bw : Below w.heap.size w (((w.alloc (.cells #[.bool r, .int .i64 s, .int .i64 a, .int .i64 o, .int .i64 t, .bool d] 59)).alloc (.cells #[.bool false, .int .i64 0, .int .i64 0, .int .i64 0, .int .i64 0, .bool false] 55)).alloc (.cells #[.bool false, .int .i64 0, .int .i64 0, .int .i64 0, .int .i64 0, .bool false] 55)) := bel_al (bel_al (bel_al (bel_refl w) _) _) _
  go_upto_region 2 with fail
  generalize (((w.alloc (.cells #[.bool r, .int .i64 s, .int .i64 a, .int .i64 o, .int .i64 t, .bool d] 59)).alloc (.cells #[.bool false, .int .i64 0, .int .i64 0, .int .i64 0, .int .i64 0, .bool false] 55)).alloc (.cells #[.bool false, .int .i64 0, .int .i64 0, .int .i64 0, .int .i64 0, .bool false] 55)) = w0 at *
  have cA0 : w0.cell? ⟨w.heap.size, 0, none⟩ = some (.bool r) := by rw [Blk.cell bA]; rfl
  have cA1 : w0.cell? ⟨w.heap.size, 1, none⟩ = some (.int .i64 s) := by rw [Blk.cell bA]; rfl
  have cA2 : w0.cell? ⟨w.heap.size, 2, none⟩ = some (.int .i64 a) := by rw [Blk.cell bA]; rfl
  have cA3 : w0.cell? ⟨w.heap.size, 3, none⟩ = some (.int .i64 o) := by rw [Blk.cell bA]; rfl
  have cA4 : w0.cell? ⟨w.heap.size, 4, none⟩ = some (.int .i64 t) := by rw [Blk.cell bA]; rfl
  have cA5 : w0.cell? ⟨w.heap.size, 5, none⟩ = some (.bool d) := by rw [Blk.cell bA]; rfl
  have cO0 : w0.cell? ⟨w.heap.size + 2, 0, none⟩ = some (.bool false) := by rw [Blk.cell bO]; rfl
  have fO0 := Blk.free bO 0
  have cO1 : w0.cell? ⟨w.heap.size + 2, 1, none⟩ = some (.int .i64 0) := by rw [Blk.cell bO]; rfl
  have fO1 := Blk.free bO 1
  have cO2 : w0.cell? ⟨w.heap.size + 2, 2, none⟩ = some (.int .i64 0) := by rw [Blk.cell bO]; rfl
  have fO2 := Blk.free bO 2
  have cO3 : w0.cell? ⟨w.heap.size + 2, 3, none⟩ = some (.int .i64 0) := by rw [Blk.cell bO]; rfl
  have fO3 := Blk.free bO 3
  have cO4 : w0.cell? ⟨w.heap.size + 2, 4, none⟩ = some (.int .i64 0) := by rw [Blk.cell bO]; rfl
  have fO4 := Blk.free bO 4
  have cO5 : w0.cell? ⟨w.heap.size + 2, 5, none⟩ = some (.bool false) := by rw [Blk.cell bO]; rfl
  have fO5 := Blk.free bO 5
  go_upto_region 3 with fail
  have bA := bA.off (q := ⟨w.heap.size + 2, 0, none⟩) (by simp) (.bool r)
  have bR := bR.off (q := ⟨w.heap.size + 2, 0, none⟩) (by simp) (.bool r)
  have bO := bO.s60 (u := .bool r)
  have bw := bel_set (p := ⟨w.heap.size + 2, 0, none⟩) bw (by simp) (.bool r)
  clear cA0 cO0 fO0 cA1 cO1 fO1 cA2 cO2 fO2 cA3 cO3 fO3 cA4 cO4 fO4 cA5 cO5 fO5
  generalize (w0.setCell ⟨w.heap.size + 2, 0, none⟩ (.bool r)) = w1 at *
  have cA0 : w1.cell? ⟨w.heap.size, 0, none⟩ = some (.bool r) := by rw [Blk.cell bA]; rfl
  have cA1 : w1.cell? ⟨w.heap.size, 1, none⟩ = some (.int .i64 s) := by rw [Blk.cell bA]; rfl
  have cA2 : w1.cell? ⟨w.heap.size, 2, none⟩ = some (.int .i64 a) := by rw [Blk.cell bA]; rfl
  have cA3 : w1.cell? ⟨w.heap.size, 3, none⟩ = some (.int .i64 o) := by rw [Blk.cell bA]; rfl
  have cA4 : w1.cell? ⟨w.heap.size, 4, none⟩ = some (.int .i64 t) := by rw [Blk.cell bA]; rfl
  have cA5 : w1.cell? ⟨w.heap.size, 5, none⟩ = some (.bool d) := by rw [Blk.cell bA]; rfl
  go_wp2_with fail
  refine (toP_eq s a o _).mono ?_
  rintro e2 w2 ⟨rfl, e2⟩
  have b2 : Below w1.heap.size w1 w2 := by rw [← e2]; exact bel_al (bel_al (bel_al (bel_refl _) _) _) _
  clear e2
  have bA := bA.below b2
  have bR := bR.below b2
  have bO := bO.below b2
  have bw := bel_tr bw b2
  clear b2 cA0 cA1 cA2 cA3 cA4 cA5
  have cA0 : w2.cell? ⟨w.heap.size, 0, none⟩ = some (.bool r) := by rw [Blk.cell bA]; rfl
  have cA1 : w2.cell? ⟨w.heap.size, 1, none⟩ = some (.int .i64 s) := by rw [Blk.cell bA]; rfl
  have cA2 : w2.cell? ⟨w.heap.size, 2, none⟩ = some (.int .i64 a) := by rw [Blk.cell bA]; rfl
  have cA3 : w2.cell? ⟨w.heap.size, 3, none⟩ = some (.int .i64 o) := by rw [Blk.cell bA]; rfl
  have cA4 : w2.cell? ⟨w.heap.size, 4, none⟩ = some (.int .i64 t) := by rw [Blk.cell bA]; rfl
  have cA5 : w2.cell? ⟨w.heap.size, 5, none⟩ = some (.bool d) := by rw [Blk.cell bA]; rfl
  have cO0 : w2.cell? ⟨w.heap.size + 2, 0, none⟩ = some (.bool r) := by rw [Blk.cell bO]; rfl
  have fO0 := Blk.free bO 0
  have cO1 : w2.cell? ⟨w.heap.size + 2, 1, none⟩ = some (.int .i64 0) := by rw [Blk.cell bO]; rfl
  have fO1 := Blk.free bO 1
  have cO2 : w2.cell? ⟨w.heap.size + 2, 2, none⟩ = some (.int .i64 0) := by rw [Blk.cell bO]; rfl
  have fO2 := Blk.free bO 2
  have cO3 : w2.cell? ⟨w.heap.size + 2, 3, none⟩ = some (.int .i64 0) := by rw [Blk.cell bO]; rfl
  have fO3 := Blk.free bO 3
  have cO4 : w2.cell? ⟨w.heap.size + 2, 4, none⟩ = some (.int .i64 0) := by rw [Blk.cell bO]; rfl
  have fO4 := Blk.free bO 4
  have cO5 : w2.cell? ⟨w.heap.size + 2, 5, none⟩ = some (.bool false) := by rw [Blk.cell bO]; rfl
  have fO5 := Blk.free bO 5
  simp only
  go_upto_region 6 with fail
  have bR := (((((bR).off (q := ⟨w.heap.size + 2, 1, none⟩) (by simp) (.int .i64 s)).off (q := ⟨w.heap.size + 2, 2, none⟩) (by simp) (.int .i64 a)).off (q := ⟨w.heap.size + 2, 3, none⟩) (by simp) (.int .i64 o)).off (q := ⟨w.heap.size + 2, 4, none⟩) (by simp) (.int .i64 t)).off (q := ⟨w.heap.size + 2, 5, none⟩) (by simp) (.bool d)
  have bO := (((((bO).s61 (u := .int .i64 s)).s62 (u := .int .i64 a)).s63 (u := .int .i64 o)).s64 (u := .int .i64 t)).s65 (u := .bool d)
  have bw := bel_set (p := ⟨w.heap.size + 2, 5, none⟩) (bel_set (p := ⟨w.heap.size + 2, 4, none⟩) (bel_set (p := ⟨w.heap.size + 2, 3, none⟩) (bel_set (p := ⟨w.heap.size + 2, 2, none⟩) (bel_set (p := ⟨w.heap.size + 2, 1, none⟩) (bw) (by simp) (.int .i64 s)) (by simp) (.int .i64 a)) (by simp) (.int .i64 o)) (by simp) (.int .i64 t)) (by simp) (.bool d)
  clear cA0 cO0 fO0 cA1 cO1 fO1 cA2 cO2 fO2 cA3 cO3 fO3 cA4 cO4 fO4 cA5 cO5 fO5
  generalize (((((w2.setCell ⟨w.heap.size + 2, 1, none⟩ (.int .i64 s)).setCell ⟨w.heap.size + 2, 2, none⟩ (.int .i64 a)).setCell ⟨w.heap.size + 2, 3, none⟩ (.int .i64 o)).setCell ⟨w.heap.size + 2, 4, none⟩ (.int .i64 t)).setCell ⟨w.heap.size + 2, 5, none⟩ (.bool d)) = w3 at *
  have cO0 : w3.cell? ⟨w.heap.size + 2, 0, none⟩ = some (.bool r) := by rw [Blk.cell bO]; rfl
  have cO1 : w3.cell? ⟨w.heap.size + 2, 1, none⟩ = some (.int .i64 s) := by rw [Blk.cell bO]; rfl
  have cO2 : w3.cell? ⟨w.heap.size + 2, 2, none⟩ = some (.int .i64 a) := by rw [Blk.cell bO]; rfl
  have cO3 : w3.cell? ⟨w.heap.size + 2, 3, none⟩ = some (.int .i64 o) := by rw [Blk.cell bO]; rfl
  have cO4 : w3.cell? ⟨w.heap.size + 2, 4, none⟩ = some (.int .i64 t) := by rw [Blk.cell bO]; rfl
  have cO5 : w3.cell? ⟨w.heap.size + 2, 5, none⟩ = some (.bool d) := by rw [Blk.cell bO]; rfl
  have cR0 : w3.cell? ⟨w.heap.size + 1, 0, none⟩ = some (.bool false) := by rw [Blk.cell bR]; rfl
  have fR0 := Blk.free bR 0
  have cR1 : w3.cell? ⟨w.heap.size + 1, 1, none⟩ = some (.int .i64 0) := by rw [Blk.cell bR]; rfl
  have fR1 := Blk.free bR 1
  have cR2 : w3.cell? ⟨w.heap.size + 1, 2, none⟩ = some (.int .i64 0) := by rw [Blk.cell bR]; rfl
  have fR2 := Blk.free bR 2
  have cR3 : w3.cell? ⟨w.heap.size + 1, 3, none⟩ = some (.int .i64 0) := by rw [Blk.cell bR]; rfl
  have fR3 := Blk.free bR 3
  have cR4 : w3.cell? ⟨w.heap.size + 1, 4, none⟩ = some (.int .i64 0) := by rw [Blk.cell bR]; rfl
  have fR4 := Blk.free bR 4
  have cR5 : w3.cell? ⟨w.heap.size + 1, 5, none⟩ = some (.bool false) := by rw [Blk.cell bR]; rfl
  have fR5 := Blk.free bR 5
  go_wp2
  exact bodyPost_ret (v := .agg #[.bool r, .int .i64 s, .int .i64 a, .int .i64 o, .int .i64 t, .bool d]) (by simp [results, Try.results38, go_sem, cR0, fR0, cR1, fR1, cR2, fR2, cR3, fR3, cR4, fR4, cR5, fR5]) rfl ⟨rfl, by repeat (first | (with_reducible assumption) | (refine bel_set ?_ (by simp) _))⟩
set_option maxHeartbeats 2000000 in
theorem eqNt_same (r : Bool) (s a o t : Int) (d : Bool) (w : World) : Calls Try.prog 43 #[.agg #[.bool r, .int .i64 s, .int .i64 a, .int .i64 o, .int .i64 t, .bool d], .agg #[.bool r, .int .i64 s, .int .i64 a, .int .i64 o, .int .i64 t, .bool d]] w fun e w' => e = .returned (.bool true) ∧ Below w.heap.size w w' := by
  go_enter Try.func43, Try.ntmps43
  have bX : Blk ((w.alloc (.cells #[.bool r, .int .i64 s, .int .i64 a, .int .i64 o, .int .i64 t, .bool d] 55)).alloc (.cells #[.bool r, .int .i64 s, .int .i64 a, .int .i64 o, .int .i64 t, .bool d] 55)) w.heap.size #[.bool r, .int .i64 s, .int .i64 a, .int .i64 o, .int .i64 t, .bool d] 55 := (Blk.new w _ _).alloc _
  have bY : Blk ((w.alloc (.cells #[.bool r, .int .i64 s, .int .i64 a, .int .i64 o, .int .i64 t, .bool d] 55)).alloc (.cells #[.bool r, .int .i64 s, .int .i64 a, .int .i64 o, .int .i64 t, .bool d] 55)) (w.heap.size + 1) #[.bool r, .int .i64 s, .int .i64 a, .int .i64 o, .int .i64 t, .bool d] 55 := by simpa using Blk.new (w.alloc (.cells #[.bool r, .int .i64 s, .int .i64 a, .int .i64 o, .int .i64 t, .bool d] 55)) #[.bool r, .int .i64 s, .int .i64 a, .int .i64 o, .int .i64 t, .bool d] 55
  have bw : Below w.heap.size w ((w.alloc (.cells #[.bool r, .int .i64 s, .int .i64 a, .int .i64 o, .int .i64 t, .bool d] 55)).alloc (.cells #[.bool r, .int .i64 s, .int .i64 a, .int .i64 o, .int .i64 t, .bool d] 55)) := bel_al (bel_al (bel_refl w) _) _
  go_wp2_with fail
  generalize ((w.alloc (.cells #[.bool r, .int .i64 s, .int .i64 a, .int .i64 o, .int .i64 t, .bool d] 55)).alloc (.cells #[.bool r, .int .i64 s, .int .i64 a, .int .i64 o, .int .i64 t, .bool d] 55)) = w0 at *
  refine (eqP_same s a o _).mono ?_
  rintro e1 w1 ⟨rfl, b1⟩
  have bX := bX.below b1
  have bY := bY.below b1
  have bw := bel_tr bw b1
  clear b1
  have cX0 : w1.cell? ⟨w.heap.size, 0, none⟩ = some (.bool r) := by rw [Blk.cell bX]; rfl
  have cY0 : w1.cell? ⟨w.heap.size + 1, 0, none⟩ = some (.bool r) := by rw [Blk.cell bY]; rfl
  have cX1 : w1.cell? ⟨w.heap.size, 1, none⟩ = some (.int .i64 s) := by rw [Blk.cell bX]; rfl
  have cY1 : w1.cell? ⟨w.heap.size + 1, 1, none⟩ = some (.int .i64 s) := by rw [Blk.cell bY]; rfl
  have cX2 : w1.cell? ⟨w.heap.size, 2, none⟩ = some (.int .i64 a) := by rw [Blk.cell bX]; rfl
  have cY2 : w1.cell? ⟨w.heap.size + 1, 2, none⟩ = some (.int .i64 a) := by rw [Blk.cell bY]; rfl
  have cX3 : w1.cell? ⟨w.heap.size, 3, none⟩ = some (.int .i64 o) := by rw [Blk.cell bX]; rfl
  have cY3 : w1.cell? ⟨w.heap.size + 1, 3, none⟩ = some (.int .i64 o) := by rw [Blk.cell bY]; rfl
  have cX4 : w1.cell? ⟨w.heap.size, 4, none⟩ = some (.int .i64 t) := by rw [Blk.cell bX]; rfl
  have cY4 : w1.cell? ⟨w.heap.size + 1, 4, none⟩ = some (.int .i64 t) := by rw [Blk.cell bY]; rfl
  have cX5 : w1.cell? ⟨w.heap.size, 5, none⟩ = some (.bool d) := by rw [Blk.cell bX]; rfl
  have cY5 : w1.cell? ⟨w.heap.size + 1, 5, none⟩ = some (.bool d) := by rw [Blk.cell bY]; rfl
  go_wp2
  go_ret
  exact ⟨rfl, bw⟩
set_option maxHeartbeats 2000000 in
theorem eqSNt_same (A A' : Option Addr) (n c c' : Nat) (l : List Nt) (w : World) (hn : l.length = n) (hm : n ≤ 9223372036854775807) (h : RowNt w w.heap.size A l) (h' : RowNt w w.heap.size A' l) :
    Calls Try.prog 15 #[.slice A n c, .slice A' n c'] w fun e w' => e = .returned (.bool true) ∧ Below w.heap.size w w' := by
  subst hn
  go_enter Try.func15, Try.ntmps15
  go_wp2
  go_loopw [5] (fun i wr => ∃ k : Nat, k ≤ l.length ∧ i = .int .i64 k ∧ Below w.heap.size w wr) (fun i _ => l.length - (intOf i).toNat)
  case atStart => exact ⟨0, Nat.zero_le _, rfl, bel_refl _⟩
  case round =>
    obtain ⟨k, hk, rfl, hb⟩ := hrel
    by_cases hlt : k < l.length
    · obtain ⟨b, off, rfl, hlb, hc⟩ := (h.below hb) (by omega)
      obtain ⟨b', off', rfl, hlb', hc'⟩ := (h'.below hb) (by omega)
      have hck := hc k hlt
      have hck' := hc' k hlt
      generalize atNt l k = x at hck hck'
      obtain ⟨r, s, a, o, t, d⟩ := x
      obtain ⟨p0, p1, p2, p3, p4, p5⟩ := hck
      obtain ⟨q0, q1, q2, q3, q4, q5⟩ := hck'
      simp only at p0 p1 p2 p3 p4 p5 q0 q1 q2 q3 q4 q5
      clear hc hc' h h'
      have hki : (k : Int) < (l.length : Int) := by omega
      have hk0 : (0 : Int) ≤ (k : Int) := by omega
      have LA : ∀ xL : Later wr, Calls Try.prog 43 #[.agg #[.bool r, .int .i64 s, .int .i64 a, .int .i64 o, .int .i64 t, .bool d], .agg #[.bool r, .int .i64 s, .int .i64 a, .int .i64 o, .int .i64 t, .bool d]] xL.world fun e w'' => e = .returned (.bool true) ∧ ∃ z : Later wr, w'' = z.world := fun xL => later_call (eqNt_same r s a o t d _)
      go_wp2_with fail
      have lf0 : ∀ xL : Later wr, xL.world.cell? ⟨b, off + k * 6, none⟩ = some (.bool r) := fun xL => xL.at (p0)
      have lf1 : ∀ xL : Later wr, xL.world.cell? ⟨b, off + k * 6 + 1, none⟩ = some (.int .i64 s) := fun xL => xL.at (p1)
      have lf2 : ∀ xL : Later wr, xL.world.cell? ⟨b, off + k * 6 + 2, none⟩ = some (.int .i64 a) := fun xL => xL.at (p2)
      have lf3 : ∀ xL : Later wr, xL.world.cell? ⟨b, off + k * 6 + 3, none⟩ = some (.int .i64 o) := fun xL => xL.at (p3)
      have lf4 : ∀ xL : Later wr, xL.world.cell? ⟨b, off + k * 6 + 4, none⟩ = some (.int .i64 t) := fun xL => xL.at (p4)
      have lf5 : ∀ xL : Later wr, xL.world.cell? ⟨b, off + k * 6 + 5, none⟩ = some (.bool d) := fun xL => xL.at (p5)
      have lf6 : ∀ xL : Later wr, xL.world.cell? ⟨b', off' + k * 6, none⟩ = some (.bool r) := fun xL => xL.at (q0)
      have lf7 : ∀ xL : Later wr, xL.world.cell? ⟨b', off' + k * 6 + 1, none⟩ = some (.int .i64 s) := fun xL => xL.at (q1)
      have lf8 : ∀ xL : Later wr, xL.world.cell? ⟨b', off' + k * 6 + 2, none⟩ = some (.int .i64 a) := fun xL => xL.at (q2)
      have lf9 : ∀ xL : Later wr, xL.world.cell? ⟨b', off' + k * 6 + 3, none⟩ = some (.int .i64 o) := fun xL => xL.at (q3)
      have lf10 : ∀ xL : Later wr, xL.world.cell? ⟨b', off' + k * 6 + 4, none⟩ = some (.int .i64 t) := fun xL => xL.at (q4)
      have lf11 : ∀ xL : Later wr, xL.world.cell? ⟨b', off' + k * 6 + 5, none⟩ = some (.bool d) := fun xL => xL.at (q5)
      refine region_later (w0 := wr) (by kernel_rfl) (by kernel_rfl) (bel_refl _) ?_
      repeat (go_big_quiet_step ((go_at_call 43; exact LA _)))
      refine wpQuiet_nil ?_
      rintro w' ⟨x, rfl⟩
      obtain ⟨w2, b2⟩ := x
      clear lf0 lf1 lf2 lf3 lf4 lf5 lf6 lf7 lf8 lf9 lf10 lf11
      go_wp2
      go_roundw
      case rel => exact ⟨k + 1, by omega, by go_num, by repeat (first | (with_reducible assumption) | (exact bel_undr (by with_reducible assumption)) | (with_reducible exact bel_refl _) | (with_reducible refine bel_dr ?_) | (with_reducible refine bel_drN ?_ _) | (with_reducible refine bel_al ?_ _) | (refine bel_set ?_ (by first | (simp; done) | (simp; exact Below.size (by assumption)) | (simp; omega)) _) | (with_reducible refine bel_tr ?_ (by assumption)))⟩
      case measure => simp [intOf]; omega
    · go_wp2
      go_ret
      exact ⟨rfl, hb⟩
def ToNt (w : World) (l : List Nt) (e : Ending) (w' : World) : Prop :=
  ∃ A, e = .returned (.slice A l.length l.length) ∧ RowNt w' w'.heap.size A l ∧ OwnNt w' w.heap.size A l.length ∧ Below w.heap.size w w'
theorem run_makeNt (n : Nat) (h : n ≤ 2000000) (w : World) :
    (Instr.makeSlice 26 (.int .i64 (n : Int)) (.int .i64 (n : Int))).run Try.prog w = .ok (.slice (some ⟨w.heap.size, 0, none⟩) n n) (w.alloc (.cells (madeCells #[.bool false, .int .i64 0, .int .i64 0, .int .i64 0, .int .i64 0, .bool false] (n * 6)) 55)) := by
  obtain ⟨i, hi, hz, hs, hb⟩ := info_parts infoNt
  have hr := run_make (P := Try.prog) w 26 55 i _ Try.underlying26 hi hz .i64 .i64 n n (by omega) (by omega) (by rw [hb]; omega) (by omega)
  simp only [Int.toNat_natCast, hs] at hr
  exact hr
theorem stepNt (wr : World) (g k : Nat) (l : List Nt) (x : Nt) (ht : atNt l k = x) (hlt : k < l.length) (hd : ∀ j, j < k → wr.cell? ⟨g, 0 + j * 6, none⟩ = some (.bool (atNt l j).rest) ∧ wr.cell? ⟨g, 0 + j * 6 + 1, none⟩ = some (.int .i64 (atNt l j).step) ∧ wr.cell? ⟨g, 0 + j * 6 + 2, none⟩ = some (.int .i64 (atNt l j).alter) ∧ wr.cell? ⟨g, 0 + j * 6 + 3, none⟩ = some (.int .i64 (atNt l j).octave) ∧ wr.cell? ⟨g, 0 + j * 6 + 4, none⟩ = some (.int .i64 (atNt l j).ticks) ∧ wr.cell? ⟨g, 0 + j * 6 + 5, none⟩ = some (.bool (atNt l j).tied)) (hs : ∀ o, o < l.length * 6 → (wr.cell? ⟨g, o, none⟩).isSome = true) (hf : ∀ o, wr.frozen? ⟨g, o, none⟩ = false) :
    (∀ j, j < k + 1 → (((((((wr.setCell ⟨g, k * 6, none⟩ (.bool x.rest)).setCell ⟨g, k * 6 + 1, none⟩ (.int .i64 x.step)).setCell ⟨g, k * 6 + 2, none⟩ (.int .i64 x.alter)).setCell ⟨g, k * 6 + 3, none⟩ (.int .i64 x.octave)).setCell ⟨g, k * 6 + 4, none⟩ (.int .i64 x.ticks)).setCell ⟨g, k * 6 + 5, none⟩ (.bool x.tied))).cell? ⟨g, 0 + j * 6, none⟩ = some (.bool (atNt l j).rest) ∧ (((((((wr.setCell ⟨g, k * 6, none⟩ (.bool x.rest)).setCell ⟨g, k * 6 + 1, none⟩ (.int .i64 x.step)).setCell ⟨g, k * 6 + 2, none⟩ (.int .i64 x.alter)).setCell ⟨g, k * 6 + 3, none⟩ (.int .i64 x.octave)).setCell ⟨g, k * 6 + 4, none⟩ (.int .i64 x.ticks)).setCell ⟨g, k * 6 + 5, none⟩ (.bool x.tied))).cell? ⟨g, 0 + j * 6 + 1, none⟩ = some (.int .i64 (atNt l j).step) ∧ (((((((wr.setCell ⟨g, k * 6, none⟩ (.bool x.rest)).setCell ⟨g, k * 6 + 1, none⟩ (.int .i64 x.step)).setCell ⟨g, k * 6 + 2, none⟩ (.int .i64 x.alter)).setCell ⟨g, k * 6 + 3, none⟩ (.int .i64 x.octave)).setCell ⟨g, k * 6 + 4, none⟩ (.int .i64 x.ticks)).setCell ⟨g, k * 6 + 5, none⟩ (.bool x.tied))).cell? ⟨g, 0 + j * 6 + 2, none⟩ = some (.int .i64 (atNt l j).alter) ∧ (((((((wr.setCell ⟨g, k * 6, none⟩ (.bool x.rest)).setCell ⟨g, k * 6 + 1, none⟩ (.int .i64 x.step)).setCell ⟨g, k * 6 + 2, none⟩ (.int .i64 x.alter)).setCell ⟨g, k * 6 + 3, none⟩ (.int .i64 x.octave)).setCell ⟨g, k * 6 + 4, none⟩ (.int .i64 x.ticks)).setCell ⟨g, k * 6 + 5, none⟩ (.bool x.tied))).cell? ⟨g, 0 + j * 6 + 3, none⟩ = some (.int .i64 (atNt l j).octave) ∧ (((((((wr.setCell ⟨g, k * 6, none⟩ (.bool x.rest)).setCell ⟨g, k * 6 + 1, none⟩ (.int .i64 x.step)).setCell ⟨g, k * 6 + 2, none⟩ (.int .i64 x.alter)).setCell ⟨g, k * 6 + 3, none⟩ (.int .i64 x.octave)).setCell ⟨g, k * 6 + 4, none⟩ (.int .i64 x.ticks)).setCell ⟨g, k * 6 + 5, none⟩ (.bool x.tied))).cell? ⟨g, 0 + j * 6 + 4, none⟩ = some (.int .i64 (atNt l j).ticks) ∧ (((((((wr.setCell ⟨g, k * 6, none⟩ (.bool x.rest)).setCell ⟨g, k * 6 + 1, none⟩ (.int .i64 x.step)).setCell ⟨g, k * 6 + 2, none⟩ (.int .i64 x.alter)).setCell ⟨g, k * 6 + 3, none⟩ (.int .i64 x.octave)).setCell ⟨g, k * 6 + 4, none⟩ (.int .i64 x.ticks)).setCell ⟨g, k * 6 + 5, none⟩ (.bool x.tied))).cell? ⟨g, 0 + j * 6 + 5, none⟩ = some (.bool (atNt l j).tied)) ∧ (∀ o, o < l.length * 6 → (((((((wr.setCell ⟨g, k * 6, none⟩ (.bool x.rest)).setCell ⟨g, k * 6 + 1, none⟩ (.int .i64 x.step)).setCell ⟨g, k * 6 + 2, none⟩ (.int .i64 x.alter)).setCell ⟨g, k * 6 + 3, none⟩ (.int .i64 x.octave)).setCell ⟨g, k * 6 + 4, none⟩ (.int .i64 x.ticks)).setCell ⟨g, k * 6 + 5, none⟩ (.bool x.tied)).cell? ⟨g, o, none⟩).isSome = true) ∧ (∀ o, ((((((wr.setCell ⟨g, k * 6, none⟩ (.bool x.rest)).setCell ⟨g, k * 6 + 1, none⟩ (.int .i64 x.step)).setCell ⟨g, k * 6 + 2, none⟩ (.int .i64 x.alter)).setCell ⟨g, k * 6 + 3, none⟩ (.int .i64 x.octave)).setCell ⟨g, k * 6 + 4, none⟩ (.int .i64 x.ticks)).setCell ⟨g, k * 6 + 5, none⟩ (.bool x.tied)).frozen? ⟨g, o, none⟩ = false) ∧ (∀ w, Below w.heap.size w wr → w.heap.size ≤ g → Below w.heap.size w ((((((wr.setCell ⟨g, k * 6, none⟩ (.bool x.rest)).setCell ⟨g, k * 6 + 1, none⟩ (.int .i64 x.step)).setCell ⟨g, k * 6 + 2, none⟩ (.int .i64 x.alter)).setCell ⟨g, k * 6 + 3, none⟩ (.int .i64 x.octave)).setCell ⟨g, k * 6 + 4, none⟩ (.int .i64 x.ticks)).setCell ⟨g, k * 6 + 5, none⟩ (.bool x.tied))) := by
  have ne : ∀ a b : Nat, a ≠ b → (⟨g, a, none⟩ : Addr) ≠ ⟨g, b, none⟩ := fun a b h e => h (congrArg Addr.off e)
  refine ⟨fun j hj => ?_, fun o ho => ?_, fun o => ?_, fun w h hg => ?_⟩
  · simp only [Nat.zero_add] at hd ⊢
    by_cases hjk : j < k
    · obtain ⟨d0, d1, d2, d3, d4, d5⟩ := hd j hjk
      exact ⟨keep_off (keep_off (keep_off (keep_off (keep_off (keep_off (d0) (ne _ _ (by omega))) (ne _ _ (by omega))) (ne _ _ (by omega))) (ne _ _ (by omega))) (ne _ _ (by omega))) (ne _ _ (by omega)), keep_off (keep_off (keep_off (keep_off (keep_off (keep_off (d1) (ne _ _ (by omega))) (ne _ _ (by omega))) (ne _ _ (by omega))) (ne _ _ (by omega))) (ne _ _ (by omega))) (ne _ _ (by omega)), keep_off (keep_off (keep_off (keep_off (keep_off (keep_off (d2) (ne _ _ (by omega))) (ne _ _ (by omega))) (ne _ _ (by omega))) (ne _ _ (by omega))) (ne _ _ (by omega))) (ne _ _ (by omega)), keep_off (keep_off (keep_off (keep_off (keep_off (keep_off (d3) (ne _ _ (by omega))) (ne _ _ (by omega))) (ne _ _ (by omega))) (ne _ _ (by omega))) (ne _ _ (by omega))) (ne _ _ (by omega)), keep_off (keep_off (keep_off (keep_off (keep_off (keep_off (d4) (ne _ _ (by omega))) (ne _ _ (by omega))) (ne _ _ (by omega))) (ne _ _ (by omega))) (ne _ _ (by omega))) (ne _ _ (by omega)), keep_off (keep_off (keep_off (keep_off (keep_off (keep_off (d5) (ne _ _ (by omega))) (ne _ _ (by omega))) (ne _ _ (by omega))) (ne _ _ (by omega))) (ne _ _ (by omega))) (ne _ _ (by omega))⟩
    · obtain rfl : j = k := by omega
      rw [ht]
      exact ⟨keep_off (keep_off (keep_off (keep_off (keep_off (set_same (hs _ (by omega))) (ne _ _ (by omega))) (ne _ _ (by omega))) (ne _ _ (by omega))) (ne _ _ (by omega))) (ne _ _ (by omega)), keep_off (keep_off (keep_off (keep_off (set_same (some_set (hs _ (by omega)) (ne _ _ (by omega)))) (ne _ _ (by omega))) (ne _ _ (by omega))) (ne _ _ (by omega))) (ne _ _ (by omega)), keep_off (keep_off (keep_off (set_same (some_set (some_set (hs _ (by omega)) (ne _ _ (by omega))) (ne _ _ (by omega)))) (ne _ _ (by omega))) (ne _ _ (by omega))) (ne _ _ (by omega)), keep_off (keep_off (set_same (some_set (some_set (some_set (hs _ (by omega)) (ne _ _ (by omega))) (ne _ _ (by omega))) (ne _ _ (by omega)))) (ne _ _ (by omega))) (ne _ _ (by omega)), keep_off (set_same (some_set (some_set (some_set (some_set (hs _ (by omega)) (ne _ _ (by omega))) (ne _ _ (by omega))) (ne _ _ (by omega))) (ne _ _ (by omega)))) (ne _ _ (by omega)), set_same (some_set (some_set (some_set (some_set (some_set (hs _ (by omega)) (ne _ _ (by omega))) (ne _ _ (by omega))) (ne _ _ (by omega))) (ne _ _ (by omega))) (ne _ _ (by omega)))⟩
  · exact some_setx (some_setx (some_setx (some_setx (some_setx (some_setx (hs o ho))))))
  · exact fz_set (fz_set (fz_set (fz_set (fz_set (fz_set (hf o))))))
  · exact bel_set (bel_set (bel_set (bel_set (bel_set (bel_set (h) hg _) hg _) hg _) hg _) hg _) hg _
set_option maxHeartbeats 2000000 in
theorem toSNt_any (A : Option Addr) (n c : Nat) (l : List Nt) (w : World) (hn : l.length = n) (hm : n ≤ 2000000) (h : RowNt w w.heap.size A l) :
    Calls Try.prog 12 #[.slice A n c] w (ToNt w l) := by
  subst hn
  have hmk := run_makeNt l.length hm
  go_enter Try.func12, Try.ntmps12
  go_wp2
  go_loopw [4] (fun i wr => ∃ k : Nat, k ≤ l.length ∧ i = .int .i64 k ∧ Below w.heap.size w wr ∧ w.heap.size < wr.heap.size ∧ (∀ j, j < k → wr.cell? ⟨w.heap.size, 0 + j * 6, none⟩ = some (.bool (atNt l j).rest) ∧ wr.cell? ⟨w.heap.size, 0 + j * 6 + 1, none⟩ = some (.int .i64 (atNt l j).step) ∧ wr.cell? ⟨w.heap.size, 0 + j * 6 + 2, none⟩ = some (.int .i64 (atNt l j).alter) ∧ wr.cell? ⟨w.heap.size, 0 + j * 6 + 3, none⟩ = some (.int .i64 (atNt l j).octave) ∧ wr.cell? ⟨w.heap.size, 0 + j * 6 + 4, none⟩ = some (.int .i64 (atNt l j).ticks) ∧ wr.cell? ⟨w.heap.size, 0 + j * 6 + 5, none⟩ = some (.bool (atNt l j).tied)) ∧ (∀ o, o < l.length * 6 → (wr.cell? ⟨w.heap.size, o, none⟩).isSome = true) ∧ (∀ o, wr.frozen? ⟨w.heap.size, o, none⟩ = false)) (fun i _ => l.length - (intOf i).toNat)
  case atStart => exact ⟨0, Nat.zero_le _, rfl, bel_al (bel_refl _) _, by simp, fun j hj => by omega, fun o ho => by rw [World.cell?_alloc_new]; simp [size_madeCells]; omega, fun o => by simp⟩
  case round =>
    obtain ⟨k, hk, rfl, hb, hgs, hd, hs, hf⟩ := hrel
    by_cases hlt : k < l.length
    · obtain ⟨b, off, rfl, hlb, hcc⟩ := (h.below hb) (by omega)
      have hc := hcc k hlt
      clear hcc
      have hbg : b ≠ w.heap.size ∨ True := .inr trivial
      generalize hg : atNt l k = x at hc
      have HG := Lib.hid hg
      clear hg
      obtain ⟨r, s, a, o, t, d⟩ := x
      obtain ⟨p0, p1, p2, p3, p4, p5⟩ := hc
      simp only at p0 p1 p2 p3 p4 p5
      have hki : (k : Int) < (l.length : Int) := by omega
      have HD := Lib.hid hd
      have HS := Lib.hid hs
      have HF := Lib.hid hf
      clear hd hs hf
      go_wp2_with fail
      refine (toNt_any r s a o t d _).mono ?_
      rintro e1 w1 ⟨rfl, b1⟩
      have hd1 : ∀ j, j < k → w1.cell? ⟨w.heap.size, 0 + j * 6, none⟩ = some (.bool (atNt l j).rest) ∧ w1.cell? ⟨w.heap.size, 0 + j * 6 + 1, none⟩ = some (.int .i64 (atNt l j).step) ∧ w1.cell? ⟨w.heap.size, 0 + j * 6 + 2, none⟩ = some (.int .i64 (atNt l j).alter) ∧ w1.cell? ⟨w.heap.size, 0 + j * 6 + 3, none⟩ = some (.int .i64 (atNt l j).octave) ∧ w1.cell? ⟨w.heap.size, 0 + j * 6 + 4, none⟩ = some (.int .i64 (atNt l j).ticks) ∧ w1.cell? ⟨w.heap.size, 0 + j * 6 + 5, none⟩ = some (.bool (atNt l j).tied) := fun j hj => by
        obtain ⟨d0, d1, d2, d3, d4, d5⟩ := HD.out j hj
        exact ⟨keep_tr d0 b1, keep_tr d1 b1, keep_tr d2 b1, keep_tr d3 b1, keep_tr d4 b1, keep_tr d5 b1⟩
      have hs1 : ∀ o, o < l.length * 6 → (w1.cell? ⟨w.heap.size, o, none⟩).isSome = true := fun o ho => some_tr (HS.out o ho) b1
      have hf1 : ∀ o, w1.frozen? ⟨w.heap.size, o, none⟩ = false := fun o => fz_tr (HF.out o) b1 hgs
      have hb1 : Below w.heap.size w w1 := bel_tr hb b1
      have hgs1 : w.heap.size < w1.heap.size := Nat.lt_of_lt_of_le hgs b1.size
      obtain ⟨o0, so0⟩ := Option.isSome_iff_exists.1 (hs1 (k * 6) (by omega))
      obtain ⟨o1, so1⟩ := Option.isSome_iff_exists.1 (hs1 (k * 6 + 1) (by omega))
      obtain ⟨o2, so2⟩ := Option.isSome_iff_exists.1 (hs1 (k * 6 + 2) (by omega))
      obtain ⟨o3, so3⟩ := Option.isSome_iff_exists.1 (hs1 (k * 6 + 3) (by omega))
      obtain ⟨o4, so4⟩ := Option.isSome_iff_exists.1 (hs1 (k * 6 + 4) (by omega))
      obtain ⟨o5, so5⟩ := Option.isSome_iff_exists.1 (hs1 (k * 6 + 5) (by omega))
      have HD1 := Lib.hid hd1
      have HS1 := Lib.hid hs1
      clear hd1 hs1 h b1 hb p0 p1 p2 p3 p4 p5
      go_wp2
      go_roundw
      case rel =>
        obtain ⟨s1, s2, s3, s4⟩ := stepNt w1 w.heap.size k l ⟨r, s, a, o, t, d⟩ (HG.out) hlt HD1.out HS1.out hf1
        exact ⟨k + 1, by omega, by go_num, s4 w hb1 (Nat.le_refl _), by simp [World.setCell]; exact hgs1, s1, s2, s3⟩
      case measure => simp [intOf]; omega
    · obtain rfl : k = l.length := by omega
      go_wp2
      go_ret
      refine ⟨_, rfl, fun hl => ⟨_, _, rfl, hgs, hd⟩, fun _ => ⟨_, _, rfl, Nat.le_refl _, hf⟩, hb⟩
end
section
open Go.ChangeShapes Go.WideShapes Go.Deep Go.RowKit

theorem list6_of {α : Type} {l : List α} (h : l.length = 6) : ∃ v0 v1 v2 v3 v4 v5, l = [v0, v1, v2, v3, v4, v5] := by
  match l, h with
  | [v0, v1, v2, v3, v4, v5], _ => exact ⟨v0, v1, v2, v3, v4, v5, rfl⟩
theorem rowNt_of {H : Type} {enc : TypeId × Value → H} {W : World} {a : Option Addr} {len cap : Nat} {d : DataW H} {p : List MemPlace}
    (h : DataW.Trod enc Try.prog W 0 (fun _ => true) true 22 (.slice a len cap) d p) :
    ∃ l : List Nt, l.length = len ∧ len ≤ cap ∧ cap ≤ maxLen ∧ RowNt W W.heap.size a l := by
  obtain ⟨fuel, hf⟩ := h
  have hC : Try.prog.cellsOf 59 = 6 := by kernel_rfl
  have hc_bool : Try.prog.cellsOf 4 = 1 := by kernel_rfl
  have hc_int : Try.prog.cellsOf 3 = 1 := by kernel_rfl
  have hc_Pitch : Try.prog.cellsOf 57 = 3 := by kernel_rfl
  rcases open_slice Try.underlying22 hf with ⟨hcs, _⟩ | ⟨x, len', cap', m, fu, D, Pl, hcs, hb, hl, hm, hmm, hx, hi⟩
  · simp [Value.cells] at hcs
    obtain ⟨rfl, rfl, rfl⟩ := hcs
    exact ⟨[], rfl, Nat.le_refl _, by simp [maxLen], fun h => absurd h (by simp)⟩
  · simp [Value.cells] at hcs
    obtain ⟨rfl, rfl, rfl⟩ := hcs
    have hmc : m = cap := by simpa using hmm
    subst hmc
    have hcell : ∀ i, i < len → ∃ t : Nt, W.cell? (x.add (i * 6 + 0)) = some (.bool t.rest) ∧ W.cell? (x.add (i * 6 + 1)) = some (.int .i64 t.step) ∧ W.cell? (x.add (i * 6 + 2)) = some (.int .i64 t.alter) ∧ W.cell? (x.add (i * 6 + 3)) = some (.int .i64 t.octave) ∧ W.cell? (x.add (i * 6 + 4)) = some (.int .i64 t.ticks) ∧ W.cell? (x.add (i * 6 + 5)) = some (.bool t.tied) := by
      intro i hil
      obtain ⟨cs', hc, ht⟩ := hi i (by omega)
      rw [hC] at hc
      obtain ⟨xs, n, _, _, hlen, hxl, hff⟩ := DataW.trod_struct Try.underlying59 ht
      obtain ⟨_, hcl, hat⟩ := World.cells?_some hc
      clear ht hi hf
      have hxl : xs.length = 4 := hxl
      obtain ⟨v0, v1, v2, v3, v4, v5, rfl⟩ : ∃ v0 v1 v2 v3 v4 v5, cs' = [v0, v1, v2, v3, v4, v5] := list6_of hcl
      have h0 := hff 0 _ rfl
      rw [List.getElem?_eq_getElem (show 0 < xs.length by omega)] at h0
      have h0 : DataW.trod enc Try.prog W 0 (fun _ => true) true n 4 (([v0, v1, v2, v3, v4, v5].drop 0).take (Try.prog.cellsOf 4)) = some _ := h0
      rw [hc_bool] at h0
      obtain ⟨n0, e0, _⟩ := DataW.trod_bool Try.underlying4 h0
      have e0 : v0 = .bool n0 := by simpa using e0
      subst e0
      have h1 := hff 1 _ rfl
      rw [List.getElem?_eq_getElem (show 1 < xs.length by omega)] at h1
      have h1 : DataW.trod enc Try.prog W 0 (fun _ => true) true n 57 (([(.bool n0), v1, v2, v3, v4, v5].drop 1).take (Try.prog.cellsOf 57)) = some _ := h1
      rw [hc_Pitch] at h1
      obtain ⟨ys, n', _, _, _, hyl, hg⟩ := DataW.trod_struct Try.underlying57 h1
      have hyl : ys.length = 3 := hyl
      have g0 := hg 0 _ rfl
      rw [List.getElem?_eq_getElem (show 0 < ys.length by omega)] at g0
      have g0 : DataW.trod enc Try.prog W 0 (fun _ => true) true n' 3 (((([(.bool n0), v1, v2, v3, v4, v5].drop 1).take 3).drop 0).take (Try.prog.cellsOf 3)) = some _ := g0
      rw [hc_int] at g0
      obtain ⟨n1, e1, _, _⟩ := DataW.trod_int Try.underlying3 g0
      have e1 : v1 = .int .i64 n1 := by simpa using e1
      subst e1
      have g1 := hg 1 _ rfl
      rw [List.getElem?_eq_getElem (show 1 < ys.length by omega)] at g1
      have g1 : DataW.trod enc Try.prog W 0 (fun _ => true) true n' 3 (((([(.bool n0), (.int .i64 n1), v2, v3, v4, v5].drop 1).take 3).drop 1).take (Try.prog.cellsOf 3)) = some _ := g1
      rw [hc_int] at g1
      obtain ⟨n2, e2, _, _⟩ := DataW.trod_int Try.underlying3 g1
      have e2 : v2 = .int .i64 n2 := by simpa using e2
      subst e2
      have g2 := hg 2 _ rfl
      rw [List.getElem?_eq_getElem (show 2 < ys.length by omega)] at g2
      have g2 : DataW.trod enc Try.prog W 0 (fun _ => true) true n' 3 (((([(.bool n0), (.int .i64 n1), (.int .i64 n2), v3, v4, v5].drop 1).take 3).drop 2).take (Try.prog.cellsOf 3)) = some _ := g2
      rw [hc_int] at g2
      obtain ⟨n3, e3, _, _⟩ := DataW.trod_int Try.underlying3 g2
      have e3 : v3 = .int .i64 n3 := by simpa using e3
      subst e3
      have h2 := hff 2 _ rfl
      rw [List.getElem?_eq_getElem (show 2 < xs.length by omega)] at h2
      have h2 : DataW.trod enc Try.prog W 0 (fun _ => true) true n 3 (([(.bool n0), (.int .i64 n1), (.int .i64 n2), (.int .i64 n3), v4, v5].drop 4).take (Try.prog.cellsOf 3)) = some _ := h2
      rw [hc_int] at h2
      obtain ⟨n4, e4, _, _⟩ := DataW.trod_int Try.underlying3 h2
      have e4 : v4 = .int .i64 n4 := by simpa using e4
      subst e4
      have h3 := hff 3 _ rfl
      rw [List.getElem?_eq_getElem (show 3 < xs.length by omega)] at h3
      have h3 : DataW.trod enc Try.prog W 0 (fun _ => true) true n 4 (([(.bool n0), (.int .i64 n1), (.int .i64 n2), (.int .i64 n3), (.int .i64 n4), v5].drop 5).take (Try.prog.cellsOf 4)) = some _ := h3
      rw [hc_bool] at h3
      obtain ⟨n5, e5, _⟩ := DataW.trod_bool Try.underlying4 h3
      have e5 : v5 = .bool n5 := by simpa using e5
      subst e5
      refine ⟨⟨n0, n1, n2, n3, n4, n5⟩, ?_, ?_, ?_, ?_, ?_, ?_⟩
      · have := hat 0 (by omega)
        rw [add_add] at this
        rw [this]; rfl
      · have := hat 1 (by omega)
        rw [add_add] at this
        rw [this]; rfl
      · have := hat 2 (by omega)
        rw [add_add] at this
        rw [this]; rfl
      · have := hat 3 (by omega)
        rw [add_add] at this
        rw [this]; rfl
      · have := hat 4 (by omega)
        rw [add_add] at this
        rw [this]; rfl
      · have := hat 5 (by omega)
        rw [add_add] at this
        rw [this]; rfl
    obtain ⟨l, hll, hq⟩ := list_of (⟨false, 0, 0, 0, 0, false⟩ : Nt) _ len hcell
    refine ⟨l, hll, hl, hm, fun h0 => ?_⟩
    obtain ⟨b, off, spot⟩ := x
    have hs : spot = none := by
      have := (hq 0 (by omega)).1
      simpa [Addr.add] using World.cell?_spot this
    subst hs
    have ha : ∀ n : Nat, (⟨b, off, none⟩ : Addr).add n = ⟨b, off + n, none⟩ := fun n => by
      unfold Addr.add; by_cases e : n = 0 <;> simp [e]
    simp only [ha] at hq
    refine ⟨b, off, rfl, by simpa using World.block_lt_of_cell? _ _ (hq 0 (by omega)).1, fun i hi => ?_⟩
    have := hq i (by omega)
    simpa [Nat.add_assoc, atNt] using this
end
section
open Go.RowKit

def ShR (w : World) (L : List Nt) (B : Bool) (e : Ending) (w' : World) : Prop :=
  ∃ A c, e = .returned (.tuple #[.slice A L.length c, .bool B]) ∧ L.length ≤ c ∧ c ≤ maxLen ∧ RowNt w' w'.heap.size A L ∧ OwnNt w' w.heap.size A L.length ∧ Below w.heap.size w w'
theorem shR_of {w : World} {l : List Nt} {st ha : Int} {e : Ending} {w' : World} (h : Sh w l st ha e w') : ShR w (shL l st ha) (shB l st ha) e w' := by
  obtain ⟨v, rfl, h, b⟩ := h
  obtain ⟨A, c, rfl, h1, h2, h3, h4⟩ := own_rowNt h
  exact ⟨A, c, rfl, h1, h2, h3, h4, b⟩
theorem sh_val {l L : List Nt} {st ha : Int} {B : Bool} (hL : shL l st ha = L) (hB : shB l st ha = B) (A : Option Addr) (n c : Nat) (w : World) (hn : l.length = n) (hm : n ≤ 2000000) (h : RowNt w w.heap.size A l) :
    Calls Try.prog 28 #[.slice A n c, .agg #[.int .i64 st, .int .i64 ha]] w (ShR w L B) := by
  refine (shv_any _ _ _ _ _ _ _ hn hm h).mono ?_
  intro e1 w1 h1
  have h2 := shR_of h1
  rw [hL, hB] at h2
  exact h2
theorem ssh_val {l L : List Nt} {st ha : Int} {B : Bool} (hL : shL l st ha = L) (hB : shB l st ha = B) (A : Option Addr) (n c : Nat) (w : World) (hn : l.length = n) (hm : n ≤ 2000000) (h : RowNt w w.heap.size A l) :
    Calls Try.prog 53 #[.slice A n c, .agg #[.int .i64 st, .int .i64 ha]] w (ShR w L B) := by
  refine (sshv_any _ _ _ _ _ _ _ hn hm h).mono ?_
  intro e1 w1 h1
  have h2 := shR_of h1
  rw [hL, hB] at h2
  exact h2
end
section
open Go.RowKit

theorem nt_ext {l l' : List Nt} (h : l.length = l'.length) (hk : ∀ k, k < l.length → atNt l k = atNt l' k) : l = l' := by
  refine List.ext_getElem h fun k h1 h2 => ?_
  have := hk k h1
  unfold atNt at this
  rw [List.getD_eq_getElem?_getD, List.getD_eq_getElem?_getD, List.getElem?_eq_getElem h1, List.getElem?_eq_getElem h2] at this
  exact this
theorem at_app_lt {l m : List Nt} {k : Nat} (h : k < l.length) : atNt (l ++ m) k = atNt l k := by
  unfold atNt
  rw [List.getD_eq_getElem?_getD, List.getElem?_append_left h, ← List.getD_eq_getElem?_getD]
theorem at_app_end {l : List Nt} {x : Nt} : atNt (l ++ [x]) l.length = x := by
  unfold atNt; simp
theorem at_mvK (st ha : Int) (l : List Nt) : ∀ n k, k < n → atNt (mvK st ha l n) k = mvN st ha (atNt l k)
  | 0, k, h => absurd h (by omega)
  | n + 1, k, h => by
    unfold mvK
    by_cases e : k < n
    · rw [at_app_lt (by rw [mvK_len]; exact e)]; exact at_mvK st ha l n k e
    · obtain rfl : k = n := by omega
      have := @at_app_end (mvK st ha l k) (mvN st ha (atNt l k))
      rw [mvK_len] at this
      exact this
/-- what the moved pitch is -/
theorem add_ok {s a o st ha : Int} (h : adB s a o st ha = true) :
    pvB s a o = true ∧ pvB (adS s a o st ha) (adA s a o st ha) (adO s a o st ha) = true ∧ 7 * adO s a o st ha + adS s a o st ha = 7 * o + s + st ∧ 12 * adO s a o st ha + shI (adS s a o st ha) + adA s a o st ha = 12 * o + shI s + a + ha := by
  unfold adS adA adO
  rw [if_pos h, if_pos h, if_pos h]
  unfold adB at h
  simp only [Bool.and_eq_true] at h
  obtain ⟨⟨h1, _⟩, h3⟩ := h
  unfold pwB at h3
  simp only [Bool.and_eq_true, decide_eq_true_eq] at h3
  refine ⟨h1, h3.2, by omega, ?_⟩
  unfold natI
  omega
/-- the moved pitch is the one with this place and this key -/
theorem add_to {s a o st ha s' a' o' : Int} (h : pvB s a o = true) (hi : ivB st ha = true) (h' : pvB s' a' o' = true) (hp : 7 * o' + s' = 7 * o + s + st) (hk : 12 * o' + shI s' + a' = 12 * o + shI s + a + ha) :
    adB s a o st ha = true ∧ adS s a o st ha = s' ∧ adA s a o st ha = a' ∧ adO s a o st ha = o' := by
  obtain ⟨b0, b1, _, _, b4, b5⟩ := pvB_bd h'
  have n : natI (7 * o + s + st) = 12 * o' + shI s' := by rw [← hp]; exact natI_of o' s' b0 b1
  have e1 : (7 * o + s + st) % 7 = s' := by omega
  have e2 : (7 * o + s + st) / 7 = o' := by omega
  have e3 : 12 * o + shI s + a + ha - natI (7 * o + s + st) = a' := by omega
  have hB : adB s a o st ha = true := by
    unfold adB pwB
    rw [h, hi, e1, e2, e3, h']
    simp only [Bool.and_eq_true, decide_eq_true_eq, and_self, and_true, true_and]
    omega
  unfold adS adA adO
  rw [if_pos hB, if_pos hB, if_pos hB]
  exact ⟨hB, e1, e3, e2⟩
theorem mvN_rest {st ha : Int} {t : Nt} (h : t.rest = true) : mvN st ha t = t := if_pos h
theorem mvN_tone {st ha : Int} {t : Nt} (h : t.rest = false) : mvN st ha t = ⟨t.rest, adS t.step t.alter t.octave st ha, adA t.step t.alter t.octave st ha, adO t.step t.alter t.octave st ha, t.ticks, t.tied⟩ := if_neg (by rw [h]; simp)
theorem mvN_rest_eq (st ha : Int) (t : Nt) : (mvN st ha t).rest = t.rest ∧ (mvN st ha t).ticks = t.ticks ∧ (mvN st ha t).tied = t.tied := by
  cases h : t.rest
  · rw [mvN_tone h]; exact ⟨h, rfl, rfl⟩
  · rw [mvN_rest h]; exact ⟨h, rfl, rfl⟩
theorem nv_mv {st ha : Int} {t : Nt} (h : nvB t = true) (ho : mvOk st ha t) : nvB (mvN st ha t) = true := by
  cases e : t.rest
  · rcases ho with ho | ho
    · rw [e] at ho; cases ho
    · rw [mvN_tone e]
      unfold nvB at h ⊢
      simp only [e, Bool.and_eq_true] at h ⊢
      exact ⟨h.1, by simpa using (add_ok ho).2.1⟩
  · rw [mvN_rest e]; exact h
theorem sh_facts {l : List Nt} {st ha : Int} (h : shB l st ha = true) : vvB l = true ∧ ivB st ha = true ∧ (∀ k, k < l.length → mvOk st ha (atNt l k)) ∧ shL l st ha = mvK st ha l l.length := by
  obtain ⟨h1, h2, h3⟩ := of_decide_eq_true h
  exact ⟨h1, h2, h3, by unfold shL; rw [if_pos h]⟩
theorem vv_mv {l : List Nt} {st ha : Int} (h : vvB l = true) (ho : ∀ k, k < l.length → mvOk st ha (atNt l k)) : vvB (mvK st ha l l.length) = true := by
  obtain ⟨hl, hk⟩ : l.length ≤ 60 ∧ ∀ k, k < l.length → vOk l k := of_decide_eq_true h
  refine vvB_yes (by rw [mvK_len]; exact hl) fun k hkl => ?_
  rw [mvK_len] at hkl
  obtain ⟨v1, v2⟩ := hk k hkl
  unfold vOk
  rw [at_mvK _ _ _ _ _ hkl, mvK_len]
  refine ⟨nv_mv v1 (ho k hkl), fun ht => ?_⟩
  have ht : (atNt l k).tied = true := by rw [← (mvN_rest_eq st ha (atNt l k)).2.2]; exact ht
  obtain ⟨t1, t2, t3, t4, t5⟩ := v2 ht
  rw [at_mvK _ _ _ _ _ t1]
  refine ⟨t1, by rw [(mvN_rest_eq _ _ _).1]; exact t2, ?_⟩
  have hr : (atNt l k).rest = false := by
    unfold nvB at v1
    cases e : (atNt l k).rest
    · rfl
    · rw [e] at v1
      simp [ht] at v1
  rw [mvN_tone hr, mvN_tone t2, t3, t4, t5]
  exact ⟨rfl, rfl, rfl⟩
/-- two moves are one move -/
theorem mv_mv {st ha st' ha' st2 ha2 : Int} {t : Nt} (hs : st + st' = st2) (hh : ha + ha' = ha2) (hi : ivB st2 ha2 = true) (h1 : mvOk st ha t) (h2 : mvOk st' ha' (mvN st ha t)) :
    mvOk st2 ha2 t ∧ mvN st' ha' (mvN st ha t) = mvN st2 ha2 t := by
  cases e : t.rest
  · have h1 : adB t.step t.alter t.octave st ha = true := by
      rcases h1 with h1 | h1
      · rw [e] at h1; cases h1
      · exact h1
    rw [mvN_tone e] at h2 ⊢
    have h2 : adB (adS t.step t.alter t.octave st ha) (adA t.step t.alter t.octave st ha) (adO t.step t.alter t.octave st ha) st' ha' = true := by
      rcases h2 with h2 | h2
      · simp only at h2; rw [e] at h2; cases h2
      · exact h2
    obtain ⟨a1, a2, a3, a4⟩ := add_ok h1
    obtain ⟨b1, b2, b3, b4⟩ := add_ok h2
    obtain ⟨c1, c2, c3, c4⟩ := add_to (st := st2) (ha := ha2) a1 hi b2 (by omega) (by omega)
    refine ⟨.inr c1, ?_⟩
    rw [mvN_tone e, mvN_tone (by exact e), c2, c3, c4]
  · exact ⟨.inl e, by rw [mvN_rest e, mvN_rest e, mvN_rest e]⟩
/-- a move back is possible, and leads back -/
theorem mv_back {st ha st' ha' : Int} {t : Nt} (hs : st' = -st) (hh : ha' = -ha) (hi : ivB st' ha' = true) (h1 : mvOk st ha t) : mvOk st' ha' (mvN st ha t) ∧ mvN st' ha' (mvN st ha t) = t := by
  cases e : t.rest
  · have h1 : adB t.step t.alter t.octave st ha = true := by
      rcases h1 with h1 | h1
      · rw [e] at h1; cases h1
      · exact h1
    rw [mvN_tone e]
    obtain ⟨a1, a2, a3, a4⟩ := add_ok h1
    obtain ⟨c1, c2, c3, c4⟩ := add_to (st := st') (ha := ha') a2 hi a1 (by omega) (by omega)
    refine ⟨.inr c1, ?_⟩
    rw [mvN_tone (by exact e)]
    simp only [c2, c3, c4]
  · exact ⟨.inl (by rw [mvN_rest e]; exact e), by rw [mvN_rest e, mvN_rest e]⟩
theorem sh_back {l : List Nt} {st ha st' ha' : Int} (hs : st' = -st) (hh : ha' = -ha) (hi : ivB st' ha' = true) (h : shB l st ha = true) : shB (shL l st ha) st' ha' = true ∧ shL (shL l st ha) st' ha' = l := by
  obtain ⟨h1, h2, h3, h4⟩ := sh_facts h
  rw [h4]
  have hlen := mvK_len st ha l l.length
  have hb : ∀ k, k < (mvK st ha l l.length).length → mvOk st' ha' (atNt (mvK st ha l l.length) k) := fun k hk => by
    rw [hlen] at hk
    rw [at_mvK _ _ _ _ _ hk]
    exact (mv_back hs hh hi (h3 k hk)).1
  obtain ⟨y1, y2⟩ := sh_yes (vv_mv h1 h3) hi hb
  refine ⟨y1, ?_⟩
  rw [y2]
  refine nt_ext (by rw [mvK_len, hlen]) fun k hk => ?_
  rw [mvK_len] at hk
  rw [at_mvK _ _ _ _ _ hk]
  rw [hlen] at hk
  rw [at_mvK _ _ _ _ _ hk]
  exact (mv_back hs hh hi (h3 k hk)).2
theorem sh_two {l : List Nt} {st ha st' ha' st2 ha2 : Int} (hs : st + st' = st2) (hh : ha + ha' = ha2) (hi : ivB st2 ha2 = true) (h : shB l st ha = true) (h' : shB (shL l st ha) st' ha' = true) : shB l st2 ha2 = true ∧ shL l st2 ha2 = shL (shL l st ha) st' ha' := by
  obtain ⟨h1, h2, h3, h4⟩ := sh_facts h
  obtain ⟨g1, g2, g3, g4⟩ := sh_facts h'
  rw [g4]
  rw [h4] at g3 ⊢
  have hlen := mvK_len st ha l l.length
  have hg : ∀ k, k < l.length → mvOk st' ha' (mvN st ha (atNt l k)) := fun k hk => by
    have := g3 k (by rw [hlen]; exact hk)
    rw [at_mvK _ _ _ _ _ hk] at this
    exact this
  obtain ⟨y1, y2⟩ := sh_yes h1 hi fun k hk => (mv_mv hs hh hi (h3 k hk) (hg k hk)).1
  refine ⟨y1, ?_⟩
  rw [y2]
  refine nt_ext (by rw [mvK_len, mvK_len, hlen]) fun k hk => ?_
  rw [mvK_len] at hk
  rw [at_mvK _ _ _ _ _ hk, at_mvK _ _ _ _ _ (by rw [hlen]; exact hk), at_mvK _ _ _ _ _ hk]
  exact (mv_mv hs hh hi (h3 k hk) (hg k hk)).2.symm
end
section
open Go.RowKit

theorem wpList_append_none {P : Program} {ops : Array Oper} {rest : List Oper} {o : Oper} {a : Act} {w : World} {Q : Exit → Act → World → Prop} (hgd : o.guard = none) (s x : Operand) (t : TypeId)
    (ho : o.op = .call { callee := .builtin .append, args := #[s, x], argTypes := #[t, t] }) (e : TypeId) (i : TypeInfo) (ht : P.underlying t = some (.slice e)) (hi : P.info? e = some i)
    (base A : Option Addr) (n cap c : Nat) (hle : n ≤ cap) (hs : a.eval s = .slice base n cap) (hx : a.eval x = .slice A 0 c)
    (h : wpList P ops Q rest (a.put o.dst (.slice base n cap)) w) : wpList P ops Q (o :: rest) a w :=
  wpList_plain hgd fun _ hK => by
    have hsrc : Src P i.size t (.slice A 0 c) 0 [] w := by
      cases A with
      | none => exact Src.ofNil w ht c
      | some ad => exact Src.ofSlice w ht ad 0 c [] (by simp) (fun j u hu => by simp at hu) (fun u hu => by cases hu)
    have hr := run_append_nothing (P := P) w t t o.type e i ht hi base n cap hle _ hsrc
    unfold Oper.wp execOp
    simp only [ho, resolve, invoke, builtin, Sem.run_bind, Sem.run_pure, Result.andThen_ok, List.map_toArray, List.map_cons, List.map_nil, hs, hx, hr]
    exact hK _ _ h
theorem flatNt_one (l : List Nt) : ∀ u ∈ flat csNt l, u.oneCell' = true := by
  intro u hu
  simp only [flat, List.mem_flatMap, csNt, List.mem_cons, List.not_mem_nil, or_false] at hu
  obtain ⟨t, _, rfl | rfl | rfl | rfl | rfl | rfl⟩ := hu <;> rfl
theorem rowNt_news {w : World} {B b off : Nat} {l : List Nt} (h : RowNt w B (some ⟨b, off, none⟩) l) : ∀ j u, (flat csNt l)[j]? = some u → w.cell? ((⟨b, off, none⟩ : Addr).add j) = some u := by
  intro j u hu
  have hj : j < l.length * 6 := by
    rw [← flat_len csNt_len l]
    rcases Nat.lt_or_ge j (flat csNt l).length with h | h
    · exact h
    · rw [List.getElem?_eq_none h] at hu; cases hu
  obtain ⟨b', off', e, _, hc⟩ := h (by omega)
  simp only [Option.some.injEq, Addr.mk.injEq, and_true] at e
  obtain ⟨rfl, rfl⟩ := e
  have ha : (⟨b, off, none⟩ : Addr).add j = ⟨b, off + j, none⟩ := by unfold Addr.add; by_cases e : j = 0 <;> simp [e]
  obtain ⟨c0, c1, c2, c3, c4, c5⟩ := hc (j / 6) (by omega)
  have hg := flat_get csNt_len ⟨false, 0, 0, 0, 0, false⟩ l (j / 6) (j % 6) (by omega) (by omega)
  rw [show j / 6 * 6 + j % 6 = j from by omega, hu] at hg
  rw [ha]
  rcases (show j % 6 = 0 ∨ j % 6 = 1 ∨ j % 6 = 2 ∨ j % 6 = 3 ∨ j % 6 = 4 ∨ j % 6 = 5 from by omega) with e | e | e | e | e | e
  · rw [e] at hg; rw [show off + j = off + j / 6 * 6 from by omega, c0]; simpa [csNt, atNt] using hg.symm
  · rw [e] at hg; rw [show off + j = off + j / 6 * 6 + 1 from by omega, c1]; simpa [csNt, atNt] using hg.symm
  · rw [e] at hg; rw [show off + j = off + j / 6 * 6 + 2 from by omega, c2]; simpa [csNt, atNt] using hg.symm
  · rw [e] at hg; rw [show off + j = off + j / 6 * 6 + 3 from by omega, c3]; simpa [csNt, atNt] using hg.symm
  · rw [e] at hg; rw [show off + j = off + j / 6 * 6 + 4 from by omega, c4]; simpa [csNt, atNt] using hg.symm
  · rw [e] at hg; rw [show off + j = off + j / 6 * 6 + 5 from by omega, c5]; simpa [csNt, atNt] using hg.symm
theorem at_drop1Nt (l : List Nt) (i : Nat) : atNt (l.drop 1) i = atNt l (i + 1) := by unfold atNt; rw [List.getD_eq_getElem?_getD, List.getD_eq_getElem?_getD, List.getElem?_drop, Nat.add_comm]
theorem rowNt_drop {w : World} {B b off : Nat} {l : List Nt} (h : RowNt w B (some ⟨b, off, none⟩) l) : RowNt w B (some ⟨b, off + 6, none⟩) (l.drop 1) := by
  intro hl
  rw [List.length_drop] at hl
  obtain ⟨b', off', e, hb, hc⟩ := h (by omega)
  simp only [Option.some.injEq, Addr.mk.injEq, and_true] at e
  obtain ⟨rfl, rfl⟩ := e
  refine ⟨b, off + 6, rfl, hb, fun i hi => ?_⟩
  rw [List.length_drop] at hi
  rw [at_drop1Nt]
  have h2 := hc (i + 1) (by omega)
  rw [show off + (i + 1) * 6 = off + 6 + i * 6 from by omega] at h2
  exact h2
end
section
open Go.RowKit

def ordI (s : Int) : Int := ([1, 3, 5, 0, 2, 4, 6] : List Int).getD s.toNat 0
def alI (f s : Int) : Int := if ordI s < f then 1 else if f < ordI s - 6 then -1 else 0
def kaI (f s : Int) : Int := if (-7 ≤ f ∧ f ≤ 7) ∧ 0 ≤ s ∧ s ≤ 6 then alI f s else 0
theorem alI_bd (f s : Int) : -1 ≤ alI f s ∧ alI f s ≤ 1 := by unfold alI; split <;> (try split) <;> omega
theorem kaI_bd (f s : Int) : -1 ≤ kaI f s ∧ kaI f s ≤ 1 := by have := alI_bd f s; unfold kaI; split <;> omega
theorem ordI_bd {s : Int} (h0 : 0 ≤ s) (h1 : s ≤ 6) : 0 ≤ ordI s ∧ ordI s ≤ 6 := by
  rcases (show s = 0 ∨ s = 1 ∨ s = 2 ∨ s = 3 ∨ s = 4 ∨ s = 5 ∨ s = 6 from by omega) with rfl | rfl | rfl | rfl | rfl | rfl | rfl <;> exact ⟨by decide +kernel, by decide +kernel⟩
def ordA (k : Nat) : Int := ([3, 0, 4, 1, 5, 2, 6] : List Int).getD k 0
theorem ordA_ord {s : Int} (h0 : 0 ≤ s) (h1 : s ≤ 6) : ordA (ordI s).toNat = s ∧ ordI (ordA (ordI s).toNat) = ordI s := by
  rcases (show s = 0 ∨ s = 1 ∨ s = 2 ∨ s = 3 ∨ s = 4 ∨ s = 5 ∨ s = 6 from by omega) with rfl | rfl | rfl | rfl | rfl | rfl | rfl <;> exact ⟨by decide +kernel, by decide +kernel⟩
def ikB (f s a o : Int) : Bool := decide (-7 ≤ f ∧ f ≤ 7) && pvB s a o && (a == alI f s)
theorem boolw_to {P : Program} {f : FuncId} {args : Array Value} {w : World} {b v : Bool} (h : b = v) (H : Calls P f args w fun e w' => e = .returned (.bool v) ∧ Below w.heap.size w w') :
    Calls P f args w fun e w' => e = .returned (.bool b) ∧ Below w.heap.size w w' := by subst h; exact H
theorem intw_to {P : Program} {f : FuncId} {args : Array Value} {w : World} {b v : Int} (h : b = v) (H : Calls P f args w fun e w' => e = .returned (.int .i64 v) ∧ Below w.heap.size w w') :
    Calls P f args w fun e w' => e = .returned (.int .i64 b) ∧ Below w.heap.size w w' := by subst h; exact H

theorem kix0 : ∀ w : World, (Instr.index 105 (.agg #[.int .i64 3, .int .i64 0, .int .i64 4, .int .i64 1, .int .i64 5, .int .i64 2, .int .i64 6]) (.int .i64 0)).run Try.prog w = .ok (.int .i64 3) w := fun _ => by kernel_rfl
theorem kix1 : ∀ w : World, (Instr.index 105 (.agg #[.int .i64 3, .int .i64 0, .int .i64 4, .int .i64 1, .int .i64 5, .int .i64 2, .int .i64 6]) (.int .i64 1)).run Try.prog w = .ok (.int .i64 0) w := fun _ => by kernel_rfl
theorem kix2 : ∀ w : World, (Instr.index 105 (.agg #[.int .i64 3, .int .i64 0, .int .i64 4, .int .i64 1, .int .i64 5, .int .i64 2, .int .i64 6]) (.int .i64 2)).run Try.prog w = .ok (.int .i64 4) w := fun _ => by kernel_rfl
theorem kix3 : ∀ w : World, (Instr.index 105 (.agg #[.int .i64 3, .int .i64 0, .int .i64 4, .int .i64 1, .int .i64 5, .int .i64 2, .int .i64 6]) (.int .i64 3)).run Try.prog w = .ok (.int .i64 1) w := fun _ => by kernel_rfl
theorem kix4 : ∀ w : World, (Instr.index 105 (.agg #[.int .i64 3, .int .i64 0, .int .i64 4, .int .i64 1, .int .i64 5, .int .i64 2, .int .i64 6]) (.int .i64 4)).run Try.prog w = .ok (.int .i64 5) w := fun _ => by kernel_rfl
theorem kix5 : ∀ w : World, (Instr.index 105 (.agg #[.int .i64 3, .int .i64 0, .int .i64 4, .int .i64 1, .int .i64 5, .int .i64 2, .int .i64 6]) (.int .i64 5)).run Try.prog w = .ok (.int .i64 2) w := fun _ => by kernel_rfl
theorem kix6 : ∀ w : World, (Instr.index 105 (.agg #[.int .i64 3, .int .i64 0, .int .i64 4, .int .i64 1, .int .i64 5, .int .i64 2, .int .i64 6]) (.int .i64 6)).run Try.prog w = .ok (.int .i64 6) w := fun _ => by kernel_rfl

end
section
open Go.RowKit

def tonI (f : Int) (m : Bool) : Int := if m = true then (4 * f % 7 + 5) % 7 else 4 * f % 7
theorem tonI_bd (f : Int) (m : Bool) : 0 ≤ tonI f m ∧ tonI f m ≤ 6 := by unfold tonI; split <;> omega
def deD (f : Int) (m : Bool) (s a o : Int) : Int := if (-7 ≤ f ∧ f ≤ 7) ∧ pvB s a o = true then (s - tonI f m) % 7 else -1
def deO (f s a o : Int) : Int := if (-7 ≤ f ∧ f ≤ 7) ∧ pvB s a o = true then a - alI f s else 0
theorem tm7 (n : Int) : ∃ m q, n.tmod 7 = m ∧ -6 ≤ m ∧ m ≤ 6 ∧ n = 7 * q + m := by
  by_cases h : n < 0
  · have e : n.tmod 7 = -((-n) % 7) := by rw [← Int.tmod_eq_emod_of_nonneg (by omega), Int.neg_tmod, Int.neg_neg]
    exact ⟨-((-n) % 7), -((-n) / 7), e, by omega, by omega, by omega⟩
  · exact ⟨n % 7, n / 7, Int.tmod_eq_emod_of_nonneg (by omega), by omega, by omega, by omega⟩
theorem tup2_to {P : Program} {f : FuncId} {args : Array Value} {w : World} {a b x y : Int} (h : a = x ∧ b = y) (H : Calls P f args w fun e w' => e = .returned (.tuple #[.int .i64 x, .int .i64 y]) ∧ Below w.heap.size w w') :
    Calls P f args w fun e w' => e = .returned (.tuple #[.int .i64 a, .int .i64 b]) ∧ Below w.heap.size w w' := by obtain ⟨rfl, rfl⟩ := h; exact H
end
section
open Go.RowKit

set_option maxHeartbeats 1000000 in
theorem toI_any (st ha : Int) (w : World) :
    Calls Try.prog 30 #[.agg #[.int .i64 st, .int .i64 ha]] w fun e w' => e = .returned (.agg #[.int .i64 st, .int .i64 ha]) ∧ Below w.heap.size w w' := by
  go_enter Try.func30, Try.ntmps30
  go_wp2
  exact bodyPost_ret (v := .agg #[.int .i64 st, .int .i64 ha]) (by simp [results, Try.results30, go_sem]) rfl ⟨rfl, by repeat (first | (with_reducible assumption) | (exact bel_undr (by with_reducible assumption)) | (with_reducible exact bel_refl _) | (with_reducible refine bel_dr ?_) | (with_reducible refine bel_drN ?_ _) | (with_reducible refine bel_al ?_ _) | (refine bel_set ?_ (by first | (simp; done) | (simp; exact Below.size (by assumption)) | (simp; omega)) _) | (with_reducible refine bel_tr ?_ (by assumption)))⟩
theorem Blk.trn {w w' : World} {P n : Nat} {A : Option Addr} {cs : Array Value} {T : TypeId} (h : Blk w P cs T) (t : Trn A n w w') (hne : ∀ a : Addr, 0 < n → A = some a → a.block ≠ P) : Blk w' P cs T :=
  (t.block P h.lt fun hn a ha => hne a hn ha).trans h
end
section
open Go.RowKit

def coB (l : List Nt) (d st ha : Int) : Bool := decide (shB l st ha = true ∧ (1 ≤ d ∧ d ≤ 768) ∧ l.length < 60)
def coL (l : List Nt) (d st ha : Int) : List Nt := if coB l d st ha = true then ⟨true, 0, 0, 0, d, false⟩ :: shL l st ha else []
theorem co_no {l : List Nt} {d st ha : Int} (h : ¬ (shB l st ha = true ∧ (1 ≤ d ∧ d ≤ 768) ∧ l.length < 60)) : coB l d st ha = false ∧ coL l d st ha = [] := by
  have e : coB l d st ha = false := decide_eq_false h
  exact ⟨e, by unfold coL; rw [e]; rfl⟩
theorem co_yes {l : List Nt} {d st ha : Int} (h1 : shB l st ha = true) (h2 : 1 ≤ d ∧ d ≤ 768) (h3 : l.length < 60) : coB l d st ha = true ∧ coL l d st ha = ⟨true, 0, 0, 0, d, false⟩ :: shL l st ha := by
  have e : coB l d st ha = true := decide_eq_true ⟨h1, h2, h3⟩
  exact ⟨e, by unfold coL; rw [e]; rfl⟩
theorem coL_len (l : List Nt) (d st ha : Int) : (coL l d st ha).length ≤ 61 := by
  unfold coL
  by_cases h : coB l d st ha = true
  · rw [if_pos h, List.length_cons]; have := (shL_len l st ha).1; omega
  · rw [if_neg h]; simp
set_option maxRecDepth 20000 in
set_option maxHeartbeats 8000000 in
theorem co_any (A : Option Addr) (n c : Nat) (l : List Nt) (d st ha : Int) (w : World) (hn : l.length = n) (hm : n ≤ 2000000) (h : RowNt w w.heap.size A l) :
    Calls Try.prog 33 #[.slice A n c, .int .i64 d, .agg #[.int .i64 st, .int .i64 ha]] w (ShR w (coL l d st ha) (coB l d st ha)) := by
  subst hn
  obtain ⟨i0, hi0, hz0, hz1, hz2⟩ := info_parts infoNt
  have h0 := h.below (bel_al (bel_refl w) (.cells #[.int .i64 st, .int .i64 ha] 44))
  have b0 : Below w.heap.size w (w.alloc (.cells #[.int .i64 st, .int .i64 ha] 44)) := bel_al (bel_refl w) _
  have hln := shL_len l st ha
  cases hB : shB l st ha
  · have HN := Lib.hid (co_no (l := l) (d := d) (st := st) (ha := ha) (fun z => by rw [hB] at z; cases z.1))
    have HB := Lib.hid hB
    clear hB
    go_enter Try.func33, Try.ntmps33
    go_wp2_with fail
    generalize (w.alloc (.cells #[.int .i64 st, .int .i64 ha] 44)) = w0 at *
    refine (sh_val rfl HB.out _ _ _ _ rfl hm h0).mono ?_
    rintro e1 w1 ⟨A1, c1, rfl, lc, cm, r1, o1, b1⟩
    have bw := bel_tr b0 b1
    clear b1
    go_wp2_with fail
    exact bodyPost_ret (v := .tuple #[.slice none 0 0, .bool false]) (by simp [results, Try.results33, go_sem]) rfl ⟨none, 0, by rw [HN.out.1, HN.out.2]; rfl, by rw [HN.out.2]; exact Nat.le_refl _, by simp [maxLen], RowNt.nil _ _ _ (by rw [HN.out.2]; rfl), fun h => by rw [HN.out.2] at h; exact absurd h (by simp), bw⟩
  · have hLn : (shL l st ha).length = l.length := by obtain ⟨_, _, _, e⟩ := sh_facts hB; rw [e, mvK_len]
    by_cases hd : (1 ≤ d ∧ d ≤ 768) ∧ l.length < 60
    · have HY := Lib.hid (co_yes hB hd.1 hd.2)
      obtain ⟨⟨hd1, hd2⟩, hl6⟩ := hd
      have hl7 : (l.length : Int) < 60 := by omega
      have hl8 : ¬ (l.length : Int) = 60 := by omega
      have HB := Lib.hid hB
      clear hB
      generalize hL : shL l st ha = L at *
      have HL := Lib.hid hL
      clear hL
      go_enter Try.func33, Try.ntmps33
      go_wp2_with fail
      generalize (w.alloc (.cells #[.int .i64 st, .int .i64 ha] 44)) = w0 at *
      refine (sh_val HL.out HB.out _ _ _ _ rfl hm h0).mono ?_
      rintro e1 w1 ⟨A1, c1, rfl, lc, cm, r1, o1, b1⟩
      have bw := bel_tr b0 b1
      have hs1 := bw.size
      clear b1
      rw [hLn] at lc ⊢
      unfold maxLen at cm
      have own0 : (w1.alloc (.cells #[.bool true, .int .i64 0, .int .i64 0, .int .i64 0, .int .i64 d, .bool false] 55)).ownsRow w1.heap.size 55 6 (.slice (some ⟨w1.heap.size, 0, none⟩) 1 1) 1 (flat csNt [⟨true, 0, 0, 0, d, false⟩]) :=
        World.ownsRow_lit w1 #[.bool true, .int .i64 0, .int .i64 0, .int .i64 0, .int .i64 d, .bool false] 1 (Nat.le_refl _) (by simp [maxLen]) rfl
      have bB : Below w1.heap.size w1 (w1.alloc (.cells #[.bool true, .int .i64 0, .int .i64 0, .int .i64 0, .int .i64 d, .bool false] 55)) := bel_al (bel_refl w1) _
      by_cases hm0 : l.length = 0
      · have hL0 : L = [] := List.eq_nil_of_length_eq_zero (by omega)
        subst hL0
        have hl0 : ([] : List Nt).length = 0 := rfl
        go_upto_region 5 with (first | (go_at_call 58; refine (win_yes _ _ _ _ (by omega) (by omega)).mono ?_; rintro e w' ⟨rfl, rfl⟩) | (go_at_call 58; refine (win_no _ _ _ _ (by omega)).mono ?_; rintro e w' ⟨rfl, rfl⟩) | (at_builtin; go_must (refine wpList_append_none rfl _ _ 26 rfl 55 i0 Try.underlying26 hi0 (some ⟨w1.heap.size, 0, none⟩) A1 1 1 c1 (by omega) rfl (by rw [hm0] at *; rfl) ?_)))
        go_wp2_with fail
        obtain ⟨A2, c2, he, lc2, cm2, r2, o2⟩ := own_rowNt (l := [⟨true, 0, 0, 0, d, false⟩]) own0
        cases he
        exact bodyPost_ret (v := .tuple #[.slice (some ⟨w1.heap.size, 0, none⟩) 1 1, .bool true]) (by simp [results, Try.results33, go_sem]) rfl ⟨_, _, by rw [HY.out.1, HY.out.2]; rfl, by rw [HY.out.2]; exact lc2, cm2, by rw [HY.out.2]; exact r2, by rw [HY.out.2]; exact fun hh => by obtain ⟨b, off, e, g1, g2⟩ := o2 hh; exact ⟨b, off, e, by omega, g2⟩, bel_tr bw bB⟩

      · obtain ⟨b1, off1, rfl, hb1, _⟩ := r1 (by omega)
        have rB := r1.below bB
        go_upto_region 5 with (first | (go_at_call 58; refine (win_yes _ _ _ _ (by omega) (by omega)).mono ?_; rintro e w' ⟨rfl, rfl⟩) | (go_at_call 58; refine (win_no _ _ _ _ (by omega)).mono ?_; rintro e w' ⟨rfl, rfl⟩) | (at_builtin; go_must (refine wpList_append_lies _ rfl _ _ 26 rfl w1.heap.size 55 i0 _ 6 48 Try.underlying26 hi0 hz0 hz1 hz2 rfl (by omega) _ 1 (flat csNt [⟨true, 0, 0, 0, d, false⟩]) rfl own0 ⟨b1, off1, none⟩ l.length c1 (flat csNt L) rfl (by rw [flat_len csNt_len, hLn]) (rowNt_news rB) (flatNt_one L) (by omega) (by unfold maxLen; omega) (by omega) (by simp) _ rfl ?_; intro gg cp w9 hown9 hgrow9 hat9 hlt9)))
        have b9 : Below w1.heap.size w1 w9 := bel_grown (bel_al (bel_refl w1) _) hgrow9 (fun k hk => by have e2 : w1.heap.size = k := Option.some.inj hk; omega)
        have hown9 : w9.ownsRow w1.heap.size 55 6 (.slice (some ⟨gg, 0, none⟩) (1 + l.length) cp) (⟨true, 0, 0, 0, d, false⟩ :: L).length (flat csNt (⟨true, 0, 0, 0, d, false⟩ :: L)) := by
          rw [List.length_cons, hLn, Nat.add_comm]; simpa [flat, Nat.add_comm] using hown9
        clear hgrow9 own0 rB
        obtain ⟨A2, c2, he, lc2, cm2, r2, o2⟩ := own_rowNt hown9
        rw [List.length_cons, hLn, Nat.add_comm l.length 1] at he
        cases he
        go_wp2_with fail
        exact bodyPost_ret (v := .tuple #[.slice (some ⟨gg, 0, none⟩) (1 + l.length) cp, .bool true]) (by simp [results, Try.results33, go_sem]) rfl ⟨_, _, by rw [HY.out.1, HY.out.2, List.length_cons, hLn, Nat.add_comm], by rw [HY.out.2]; exact lc2, cm2, by rw [HY.out.2]; exact r2, by rw [HY.out.2]; exact fun hh => by obtain ⟨b, off, e, g1, g2⟩ := o2 hh; exact ⟨b, off, e, by omega, g2⟩, bel_tr bw b9⟩

    · have HN := Lib.hid (co_no (l := l) (d := d) (st := st) (ha := ha) (fun z => hd ⟨z.2.1, z.2.2⟩))
      have HB := Lib.hid hB
      have hl60 : l.length ≤ 60 := by have := hln.1; omega
      clear hB hln hLn
      by_cases hd1 : 1 ≤ d ∧ d ≤ 768
      · obtain ⟨hd2, hd3⟩ := hd1
        have HL6 := Lib.hid (show l.length = 60 from by omega)
        clear hl60 hd
        go_enter Try.func33, Try.ntmps33
        go_wp2_with fail
        generalize (w.alloc (.cells #[.int .i64 st, .int .i64 ha] 44)) = w0 at *
        refine (sh_val rfl HB.out _ _ _ _ rfl hm h0).mono ?_
        rintro e1 w1 ⟨A1, c1, rfl, lc, cm, r1, o1, b1⟩
        have bw := bel_tr b0 b1
        have hl61 : (l.length : Int) = 60 := by have := HL6.out; omega
        clear b1
        go_wp2_with (first | (go_at_call 58; refine (win_yes _ _ _ _ (by omega) (by omega)).mono ?_; rintro e w' ⟨rfl, rfl⟩) | (go_at_call 58; refine (win_no _ _ _ _ (by omega)).mono ?_; rintro e w' ⟨rfl, rfl⟩))
        exact bodyPost_ret (v := .tuple #[.slice none 0 0, .bool false]) (by simp [results, Try.results33, go_sem]) rfl ⟨none, 0, by rw [HN.out.1, HN.out.2]; rfl, by rw [HN.out.2]; exact Nat.le_refl _, by simp [maxLen], RowNt.nil _ _ _ (by rw [HN.out.2]; rfl), fun h => by rw [HN.out.2] at h; exact absurd h (by simp), bw⟩
      · go_enter Try.func33, Try.ntmps33
        go_wp2_with fail
        generalize (w.alloc (.cells #[.int .i64 st, .int .i64 ha] 44)) = w0 at *
        refine (sh_val rfl HB.out _ _ _ _ rfl hm h0).mono ?_
        rintro e1 w1 ⟨A1, c1, rfl, lc, cm, r1, o1, b1⟩
        have bw := bel_tr b0 b1
        clear b1 hd
        go_wp2_with (first | (go_at_call 58; refine (win_yes _ _ _ _ (by omega) (by omega)).mono ?_; rintro e w' ⟨rfl, rfl⟩) | (go_at_call 58; refine (win_no _ _ _ _ (by omega)).mono ?_; rintro e w' ⟨rfl, rfl⟩))
        exact bodyPost_ret (v := .tuple #[.slice none 0 0, .bool false]) (by simp [results, Try.results33, go_sem]) rfl ⟨none, 0, by rw [HN.out.1, HN.out.2]; rfl, by rw [HN.out.2]; exact Nat.le_refl _, by simp [maxLen], RowNt.nil _ _ _ (by rw [HN.out.2]; rfl), fun h => by rw [HN.out.2] at h; exact absurd h (by simp), bw⟩
set_option maxRecDepth 20000 in
set_option maxHeartbeats 8000000 in
theorem sco_any (A : Option Addr) (n c : Nat) (l : List Nt) (d st ha : Int) (w : World) (hn : l.length = n) (hm : n ≤ 2000000) (h : RowNt w w.heap.size A l) :
    Calls Try.prog 35 #[.slice A n c, .int .i64 d, .agg #[.int .i64 st, .int .i64 ha]] w (ShR w (coL l d st ha) (coB l d st ha)) := by
  subst hn
  obtain ⟨i0, hi0, hz0, hz1, hz2⟩ := info_parts infoNt
  have h0 := h.below (bel_al (bel_refl w) (.cells #[.int .i64 st, .int .i64 ha] 44))
  have b0 : Below w.heap.size w (w.alloc (.cells #[.int .i64 st, .int .i64 ha] 44)) := bel_al (bel_refl w) _
  have hln := shL_len l st ha
  cases hB : shB l st ha
  · have HN := Lib.hid (co_no (l := l) (d := d) (st := st) (ha := ha) (fun z => by rw [hB] at z; cases z.1))
    have HB := Lib.hid hB
    clear hB
    go_enter Try.func35, Try.ntmps35
    go_wp2_with fail
    generalize (w.alloc (.cells #[.int .i64 st, .int .i64 ha] 44)) = w0 at *
    refine (ssh_val rfl HB.out _ _ _ _ rfl hm h0).mono ?_
    rintro e1 w1 ⟨A1, c1, rfl, lc, cm, r1, o1, b1⟩
    have bw := bel_tr b0 b1
    clear b1
    go_wp2_with fail
    exact bodyPost_ret (v := .tuple #[.slice (some ⟨w1.heap.size, 0, none⟩) 0 0, .bool false]) (by simp [results, Try.results35, go_sem]) rfl ⟨_, 0, by rw [HN.out.1, HN.out.2]; rfl, by rw [HN.out.2]; exact Nat.le_refl _, by simp [maxLen], RowNt.nil _ _ _ (by rw [HN.out.2]; rfl), fun h => by rw [HN.out.2] at h; exact absurd h (by simp), bel_al bw _⟩
  · have hLn : (shL l st ha).length = l.length := by obtain ⟨_, _, _, e⟩ := sh_facts hB; rw [e, mvK_len]
    by_cases hd : (1 ≤ d ∧ d ≤ 768) ∧ l.length < 60
    · have HY := Lib.hid (co_yes hB hd.1 hd.2)
      obtain ⟨⟨hd1, hd2⟩, hl6⟩ := hd
      have hl7 : (l.length : Int) < 60 := by omega
      have hl8 : ¬ (l.length : Int) = 60 := by omega
      have HB := Lib.hid hB
      clear hB
      generalize hL : shL l st ha = L at *
      have HL := Lib.hid hL
      clear hL
      go_enter Try.func35, Try.ntmps35
      go_wp2_with fail
      generalize (w.alloc (.cells #[.int .i64 st, .int .i64 ha] 44)) = w0 at *
      refine (ssh_val HL.out HB.out _ _ _ _ rfl hm h0).mono ?_
      rintro e1 w1 ⟨A1, c1, rfl, lc, cm, r1, o1, b1⟩
      have bw := bel_tr b0 b1
      have hs1 := bw.size
      clear b1
      rw [hLn] at lc ⊢
      unfold maxLen at cm
      have own0 : (w1.alloc (.cells #[.bool true, .int .i64 0, .int .i64 0, .int .i64 0, .int .i64 d, .bool false] 55)).ownsRow w1.heap.size 55 6 (.slice (some ⟨w1.heap.size, 0, none⟩) 1 1) 1 (flat csNt [⟨true, 0, 0, 0, d, false⟩]) :=
        World.ownsRow_lit w1 #[.bool true, .int .i64 0, .int .i64 0, .int .i64 0, .int .i64 d, .bool false] 1 (Nat.le_refl _) (by simp [maxLen]) rfl
      have bB : Below w1.heap.size w1 (w1.alloc (.cells #[.bool true, .int .i64 0, .int .i64 0, .int .i64 0, .int .i64 d, .bool false] 55)) := bel_al (bel_refl w1) _
      by_cases hm0 : l.length = 0
      · have hL0 : L = [] := List.eq_nil_of_length_eq_zero (by omega)
        subst hL0
        have hl0 : ([] : List Nt).length = 0 := rfl
        go_upto_region 5 with (first | (go_at_call 56; refine (swin_yes _ _ _ _ (by omega) (by omega)).mono ?_; rintro e w' ⟨rfl, rfl⟩) | (go_at_call 56; refine (swin_no _ _ _ _ (by omega)).mono ?_; rintro e w' ⟨rfl, rfl⟩) | (at_builtin; go_must (refine wpList_append_none rfl _ _ 26 rfl 55 i0 Try.underlying26 hi0 (some ⟨w1.heap.size, 0, none⟩) A1 1 1 c1 (by omega) rfl (by rw [hm0] at *; rfl) ?_)))
        go_wp2_with fail
        obtain ⟨A2, c2, he, lc2, cm2, r2, o2⟩ := own_rowNt (l := [⟨true, 0, 0, 0, d, false⟩]) own0
        cases he
        exact bodyPost_ret (v := .tuple #[.slice (some ⟨w1.heap.size, 0, none⟩) 1 1, .bool true]) (by simp [results, Try.results35, go_sem]) rfl ⟨_, _, by rw [HY.out.1, HY.out.2]; rfl, by rw [HY.out.2]; exact lc2, cm2, by rw [HY.out.2]; exact r2, by rw [HY.out.2]; exact fun hh => by obtain ⟨b, off, e, g1, g2⟩ := o2 hh; exact ⟨b, off, e, by omega, g2⟩, bel_tr bw bB⟩

      · obtain ⟨b1, off1, rfl, hb1, _⟩ := r1 (by omega)
        have rB := r1.below bB
        go_upto_region 5 with (first | (go_at_call 56; refine (swin_yes _ _ _ _ (by omega) (by omega)).mono ?_; rintro e w' ⟨rfl, rfl⟩) | (go_at_call 56; refine (swin_no _ _ _ _ (by omega)).mono ?_; rintro e w' ⟨rfl, rfl⟩) | (at_builtin; go_must (refine wpList_append_lies _ rfl _ _ 26 rfl w1.heap.size 55 i0 _ 6 48 Try.underlying26 hi0 hz0 hz1 hz2 rfl (by omega) _ 1 (flat csNt [⟨true, 0, 0, 0, d, false⟩]) rfl own0 ⟨b1, off1, none⟩ l.length c1 (flat csNt L) rfl (by rw [flat_len csNt_len, hLn]) (rowNt_news rB) (flatNt_one L) (by omega) (by unfold maxLen; omega) (by omega) (by simp) _ rfl ?_; intro gg cp w9 hown9 hgrow9 hat9 hlt9)))
        have b9 : Below w1.heap.size w1 w9 := bel_grown (bel_al (bel_refl w1) _) hgrow9 (fun k hk => by have e2 : w1.heap.size = k := Option.some.inj hk; omega)
        have hown9 : w9.ownsRow w1.heap.size 55 6 (.slice (some ⟨gg, 0, none⟩) (1 + l.length) cp) (⟨true, 0, 0, 0, d, false⟩ :: L).length (flat csNt (⟨true, 0, 0, 0, d, false⟩ :: L)) := by
          rw [List.length_cons, hLn, Nat.add_comm]; simpa [flat, Nat.add_comm] using hown9
        clear hgrow9 own0 rB
        obtain ⟨A2, c2, he, lc2, cm2, r2, o2⟩ := own_rowNt hown9
        rw [List.length_cons, hLn, Nat.add_comm l.length 1] at he
        cases he
        go_wp2_with fail
        exact bodyPost_ret (v := .tuple #[.slice (some ⟨gg, 0, none⟩) (1 + l.length) cp, .bool true]) (by simp [results, Try.results35, go_sem]) rfl ⟨_, _, by rw [HY.out.1, HY.out.2, List.length_cons, hLn, Nat.add_comm], by rw [HY.out.2]; exact lc2, cm2, by rw [HY.out.2]; exact r2, by rw [HY.out.2]; exact fun hh => by obtain ⟨b, off, e, g1, g2⟩ := o2 hh; exact ⟨b, off, e, by omega, g2⟩, bel_tr bw b9⟩

    · have HN := Lib.hid (co_no (l := l) (d := d) (st := st) (ha := ha) (fun z => hd ⟨z.2.1, z.2.2⟩))
      have HB := Lib.hid hB
      have hl60 : l.length ≤ 60 := by have := hln.1; omega
      clear hB hln hLn
      by_cases hd1 : 1 ≤ d ∧ d ≤ 768
      · obtain ⟨hd2, hd3⟩ := hd1
        have HL6 := Lib.hid (show l.length = 60 from by omega)
        clear hl60 hd
        go_enter Try.func35, Try.ntmps35
        go_wp2_with fail
        generalize (w.alloc (.cells #[.int .i64 st, .int .i64 ha] 44)) = w0 at *
        refine (ssh_val rfl HB.out _ _ _ _ rfl hm h0).mono ?_
        rintro e1 w1 ⟨A1, c1, rfl, lc, cm, r1, o1, b1⟩
        have bw := bel_tr b0 b1
        have hl61 : (l.length : Int) = 60 := by have := HL6.out; omega
        clear b1
        go_wp2_with (first | (go_at_call 56; refine (swin_yes _ _ _ _ (by omega) (by omega)).mono ?_; rintro e w' ⟨rfl, rfl⟩) | (go_at_call 56; refine (swin_no _ _ _ _ (by omega)).mono ?_; rintro e w' ⟨rfl, rfl⟩))
        exact bodyPost_ret (v := .tuple #[.slice (some ⟨w1.heap.size, 0, none⟩) 0 0, .bool false]) (by simp [results, Try.results35, go_sem]) rfl ⟨_, 0, by rw [HN.out.1, HN.out.2]; rfl, by rw [HN.out.2]; exact Nat.le_refl _, by simp [maxLen], RowNt.nil _ _ _ (by rw [HN.out.2]; rfl), fun h => by rw [HN.out.2] at h; exact absurd h (by simp), bel_al bw _⟩
      · go_enter Try.func35, Try.ntmps35
        go_wp2_with fail
        generalize (w.alloc (.cells #[.int .i64 st, .int .i64 ha] 44)) = w0 at *
        refine (ssh_val rfl HB.out _ _ _ _ rfl hm h0).mono ?_
        rintro e1 w1 ⟨A1, c1, rfl, lc, cm, r1, o1, b1⟩
        have bw := bel_tr b0 b1
        clear b1 hd
        go_wp2_with (first | (go_at_call 56; refine (swin_yes _ _ _ _ (by omega) (by omega)).mono ?_; rintro e w' ⟨rfl, rfl⟩) | (go_at_call 56; refine (swin_no _ _ _ _ (by omega)).mono ?_; rintro e w' ⟨rfl, rfl⟩))
        exact bodyPost_ret (v := .tuple #[.slice (some ⟨w1.heap.size, 0, none⟩) 0 0, .bool false]) (by simp [results, Try.results35, go_sem]) rfl ⟨_, 0, by rw [HN.out.1, HN.out.2]; rfl, by rw [HN.out.2]; exact Nat.le_refl _, by simp [maxLen], RowNt.nil _ _ _ (by rw [HN.out.2]; rfl), fun h => by rw [HN.out.2] at h; exact absurd h (by simp), bel_al bw _⟩
theorem co_val {l L : List Nt} {d st ha : Int} {B : Bool} (hL : coL l d st ha = L) (hB : coB l d st ha = B) (A : Option Addr) (n c : Nat) (w : World) (hn : l.length = n) (hm : n ≤ 2000000) (h : RowNt w w.heap.size A l) :
    Calls Try.prog 33 #[.slice A n c, .int .i64 d, .agg #[.int .i64 st, .int .i64 ha]] w (ShR w L B) := by
  have := co_any A n c l d st ha w hn hm h
  rw [hL, hB] at this
  exact this
theorem sco_val {l L : List Nt} {d st ha : Int} {B : Bool} (hL : coL l d st ha = L) (hB : coB l d st ha = B) (A : Option Addr) (n c : Nat) (w : World) (hn : l.length = n) (hm : n ≤ 2000000) (h : RowNt w w.heap.size A l) :
    Calls Try.prog 35 #[.slice A n c, .int .i64 d, .agg #[.int .i64 st, .int .i64 ha]] w (ShR w L B) := by
  have := sco_any A n c l d st ha w hn hm h
  rw [hL, hB] at this
  exact this
end
end Go.Proofs.Ytiapfpjggginoaa
