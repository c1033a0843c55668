/- Notes copied and compared by the laws. -/
import Derived.Test.YtelbmiplmbgcdaaRowNt
import Derived.Test.YtelbmiplmbgcdaaBlk
import Derived.Test.YtelbmiplmbgcdaaLater
import Derived.Test.YtelbmiplmbgcdaaShC
import Derived.Laws.MakeOwn
import Derived.Deep.DeepCutAuto
namespace Go.Proofs.Ytelbmiplmbgcdaa
set_option linter.unusedSimpArgs false
set_option linter.unusedVariables false
open Go.RowKit

set_option maxHeartbeats 1000000 in
theorem eqP_same (s a o : Int) (w : World) :
    Calls Try.prog 66 #[.agg #[.int .i64 s, .int .i64 a, .int .i64 o], .agg #[.int .i64 s, .int .i64 a, .int .i64 o]] w fun e w' => e = .returned (.bool true) ∧ Below w.heap.size w w' := by
  go_enter Try.func66, Try.ntmps66
  go_wp2
  go_ret
  exact ⟨rfl, by repeat (first | (with_reducible assumption) | (exact bel_undr (by with_reducible assumption)) | (with_reducible exact bel_refl _) | (with_reducible refine bel_dr ?_) | (with_reducible refine bel_drN ?_ _) | (with_reducible refine bel_al ?_ _) | (refine bel_set ?_ (by first | (simp; done) | (simp; exact Below.size (by assumption)) | (simp; omega)) _) | (with_reducible refine bel_tr ?_ (by assumption)))⟩
theorem toP_eq (s a o : Int) (w : World) :
    Calls Try.prog 65 #[.agg #[.int .i64 s, .int .i64 a, .int .i64 o]] w fun e w' => e = .returned (.agg #[.int .i64 s, .int .i64 a, .int .i64 o]) ∧ (((w.alloc (.cells #[.int .i64 s, .int .i64 a, .int .i64 o] 63)).alloc (.cells #[.int .i64 s, .int .i64 a, .int .i64 o] 47)).alloc (.cells #[.int .i64 s, .int .i64 a, .int .i64 o] 47)) = w' := by
  go_enter Try.func65, Try.ntmps65
  go_wp2
  exact bodyPost_ret (v := .agg #[.int .i64 s, .int .i64 a, .int .i64 o]) (by simp [results, Try.results65, go_sem]) rfl ⟨rfl, rfl⟩
set_option maxRecDepth 20000 in
set_option maxHeartbeats 2000000 in
theorem toNt_any (r : Bool) (s a o t : Int) (d : Bool) (w : World) : Calls Try.prog 38 #[.agg #[.bool r, .int .i64 s, .int .i64 a, .int .i64 o, .int .i64 t, .bool d]] w fun e w' => e = .returned (.agg #[.bool r, .int .i64 s, .int .i64 a, .int .i64 o, .int .i64 t, .bool d]) ∧ Below w.heap.size w w' := by
  go_enter Try.func38, Try.ntmps38
  have bA : Blk (((w.alloc (.cells #[.bool r, .int .i64 s, .int .i64 a, .int .i64 o, .int .i64 t, .bool d] 65)).alloc (.cells #[.bool false, .int .i64 0, .int .i64 0, .int .i64 0, .int .i64 0, .bool false] 49)).alloc (.cells #[.bool false, .int .i64 0, .int .i64 0, .int .i64 0, .int .i64 0, .bool false] 49)) w.heap.size #[.bool r, .int .i64 s, .int .i64 a, .int .i64 o, .int .i64 t, .bool d] 65 := ((Blk.new w _ _).alloc _).alloc _
  have bR : Blk (((w.alloc (.cells #[.bool r, .int .i64 s, .int .i64 a, .int .i64 o, .int .i64 t, .bool d] 65)).alloc (.cells #[.bool false, .int .i64 0, .int .i64 0, .int .i64 0, .int .i64 0, .bool false] 49)).alloc (.cells #[.bool false, .int .i64 0, .int .i64 0, .int .i64 0, .int .i64 0, .bool false] 49)) (w.heap.size + 1) #[.bool false, .int .i64 0, .int .i64 0, .int .i64 0, .int .i64 0, .bool false] 49 := by simpa using (Blk.new (w.alloc (.cells #[.bool r, .int .i64 s, .int .i64 a, .int .i64 o, .int .i64 t, .bool d] 65)) #[.bool false, .int .i64 0, .int .i64 0, .int .i64 0, .int .i64 0, .bool false] 49).alloc (.cells #[.bool false, .int .i64 0, .int .i64 0, .int .i64 0, .int .i64 0, .bool false] 49)
  have bO : Blk (((w.alloc (.cells #[.bool r, .int .i64 s, .int .i64 a, .int .i64 o, .int .i64 t, .bool d] 65)).alloc (.cells #[.bool false, .int .i64 0, .int .i64 0, .int .i64 0, .int .i64 0, .bool false] 49)).alloc (.cells #[.bool false, .int .i64 0, .int .i64 0, .int .i64 0, .int .i64 0, .bool false] 49)) (w.heap.size + 2) #[.bool false, .int .i64 0, .int .i64 0, .int .i64 0, .int .i64 0, .bool false] 49 := by simpa using Blk.new ((w.alloc (.cells #[.bool r, .int .i64 s, .int .i64 a, .int .i64 o, .int .i64 t, .bool d] 65)).alloc (.cells #[.bool false, .int .i64 0, .int .i64 0, .int .i64 0, .int .i64 0, .bool false] 49)) #[.bool false, .int .i64 0, .int .i64 0, .int .i64 0, .int .i64 0, .bool false] 49
  have bw : Below w.heap.size w (((w.alloc (.cells #[.bool r, .int .i64 s, .int .i64 a, .int .i64 o, .int .i64 t, .bool d] 65)).alloc (.cells #[.bool false, .int .i64 0, .int .i64 0, .int .i64 0, .int .i64 0, .bool false] 49)).alloc (.cells #[.bool false, .int .i64 0, .int .i64 0, .int .i64 0, .int .i64 0, .bool false] 49)) := bel_al (bel_al (bel_al (bel_refl w) _) _) _
  go_upto_region 2 with fail
  generalize (((w.alloc (.cells #[.bool r, .int .i64 s, .int .i64 a, .int .i64 o, .int .i64 t, .bool d] 65)).alloc (.cells #[.bool false, .int .i64 0, .int .i64 0, .int .i64 0, .int .i64 0, .bool false] 49)).alloc (.cells #[.bool false, .int .i64 0, .int .i64 0, .int .i64 0, .int .i64 0, .bool false] 49)) = w0 at *
  have cA0 : w0.cell? ⟨w.heap.size, 0, none⟩ = some (.bool r) := by rw [Blk.cell bA]; rfl
  have cA1 : w0.cell? ⟨w.heap.size, 1, none⟩ = some (.int .i64 s) := by rw [Blk.cell bA]; rfl
  have cA2 : w0.cell? ⟨w.heap.size, 2, none⟩ = some (.int .i64 a) := by rw [Blk.cell bA]; rfl
  have cA3 : w0.cell? ⟨w.heap.size, 3, none⟩ = some (.int .i64 o) := by rw [Blk.cell bA]; rfl
  have cA4 : w0.cell? ⟨w.heap.size, 4, none⟩ = some (.int .i64 t) := by rw [Blk.cell bA]; rfl
  have cA5 : w0.cell? ⟨w.heap.size, 5, none⟩ = some (.bool d) := by rw [Blk.cell bA]; rfl
  have cO0 : w0.cell? ⟨w.heap.size + 2, 0, none⟩ = some (.bool false) := by rw [Blk.cell bO]; rfl
  have fO0 := Blk.free bO 0
  have cO1 : w0.cell? ⟨w.heap.size + 2, 1, none⟩ = some (.int .i64 0) := by rw [Blk.cell bO]; rfl
  have fO1 := Blk.free bO 1
  have cO2 : w0.cell? ⟨w.heap.size + 2, 2, none⟩ = some (.int .i64 0) := by rw [Blk.cell bO]; rfl
  have fO2 := Blk.free bO 2
  have cO3 : w0.cell? ⟨w.heap.size + 2, 3, none⟩ = some (.int .i64 0) := by rw [Blk.cell bO]; rfl
  have fO3 := Blk.free bO 3
  have cO4 : w0.cell? ⟨w.heap.size + 2, 4, none⟩ = some (.int .i64 0) := by rw [Blk.cell bO]; rfl
  have fO4 := Blk.free bO 4
  have cO5 : w0.cell? ⟨w.heap.size + 2, 5, none⟩ = some (.bool false) := by rw [Blk.cell bO]; rfl
  have fO5 := Blk.free bO 5
  go_upto_region 3 with fail
  have bA := bA.off (q := ⟨w.heap.size + 2, 0, none⟩) (by simp) (.bool r)
  have bR := bR.off (q := ⟨w.heap.size + 2, 0, none⟩) (by simp) (.bool r)
  have bO := bO.s60 (u := .bool r)
  have bw := bel_set (p := ⟨w.heap.size + 2, 0, none⟩) bw (by simp) (.bool r)
  clear cA0 cO0 fO0 cA1 cO1 fO1 cA2 cO2 fO2 cA3 cO3 fO3 cA4 cO4 fO4 cA5 cO5 fO5
  generalize (w0.setCell ⟨w.heap.size + 2, 0, none⟩ (.bool r)) = w1 at *
  have cA0 : w1.cell? ⟨w.heap.size, 0, none⟩ = some (.bool r) := by rw [Blk.cell bA]; rfl
  have cA1 : w1.cell? ⟨w.heap.size, 1, none⟩ = some (.int .i64 s) := by rw [Blk.cell bA]; rfl
  have cA2 : w1.cell? ⟨w.heap.size, 2, none⟩ = some (.int .i64 a) := by rw [Blk.cell bA]; rfl
  have cA3 : w1.cell? ⟨w.heap.size, 3, none⟩ = some (.int .i64 o) := by rw [Blk.cell bA]; rfl
  have cA4 : w1.cell? ⟨w.heap.size, 4, none⟩ = some (.int .i64 t) := by rw [Blk.cell bA]; rfl
  have cA5 : w1.cell? ⟨w.heap.size, 5, none⟩ = some (.bool d) := by rw [Blk.cell bA]; rfl
  go_wp2_with fail
  refine (toP_eq s a o _).mono ?_
  rintro e2 w2 ⟨rfl, e2⟩
  have b2 : Below w1.heap.size w1 w2 := by rw [← e2]; exact bel_al (bel_al (bel_al (bel_refl _) _) _) _
  clear e2
  have bA := bA.below b2
  have bR := bR.below b2
  have bO := bO.below b2
  have bw := bel_tr bw b2
  clear b2 cA0 cA1 cA2 cA3 cA4 cA5
  have cA0 : w2.cell? ⟨w.heap.size, 0, none⟩ = some (.bool r) := by rw [Blk.cell bA]; rfl
  have cA1 : w2.cell? ⟨w.heap.size, 1, none⟩ = some (.int .i64 s) := by rw [Blk.cell bA]; rfl
  have cA2 : w2.cell? ⟨w.heap.size, 2, none⟩ = some (.int .i64 a) := by rw [Blk.cell bA]; rfl
  have cA3 : w2.cell? ⟨w.heap.size, 3, none⟩ = some (.int .i64 o) := by rw [Blk.cell bA]; rfl
  have cA4 : w2.cell? ⟨w.heap.size, 4, none⟩ = some (.int .i64 t) := by rw [Blk.cell bA]; rfl
  have cA5 : w2.cell? ⟨w.heap.size, 5, none⟩ = some (.bool d) := by rw [Blk.cell bA]; rfl
  have cO0 : w2.cell? ⟨w.heap.size + 2, 0, none⟩ = some (.bool r) := by rw [Blk.cell bO]; rfl
  have fO0 := Blk.free bO 0
  have cO1 : w2.cell? ⟨w.heap.size + 2, 1, none⟩ = some (.int .i64 0) := by rw [Blk.cell bO]; rfl
  have fO1 := Blk.free bO 1
  have cO2 : w2.cell? ⟨w.heap.size + 2, 2, none⟩ = some (.int .i64 0) := by rw [Blk.cell bO]; rfl
  have fO2 := Blk.free bO 2
  have cO3 : w2.cell? ⟨w.heap.size + 2, 3, none⟩ = some (.int .i64 0) := by rw [Blk.cell bO]; rfl
  have fO3 := Blk.free bO 3
  have cO4 : w2.cell? ⟨w.heap.size + 2, 4, none⟩ = some (.int .i64 0) := by rw [Blk.cell bO]; rfl
  have fO4 := Blk.free bO 4
  have cO5 : w2.cell? ⟨w.heap.size + 2, 5, none⟩ = some (.bool false) := by rw [Blk.cell bO]; rfl
  have fO5 := Blk.free bO 5
  simp only
  go_upto_region 6 with fail
  have bR := (((((bR).off (q := ⟨w.heap.size + 2, 1, none⟩) (by simp) (.int .i64 s)).off (q := ⟨w.heap.size + 2, 2, none⟩) (by simp) (.int .i64 a)).off (q := ⟨w.heap.size + 2, 3, none⟩) (by simp) (.int .i64 o)).off (q := ⟨w.heap.size + 2, 4, none⟩) (by simp) (.int .i64 t)).off (q := ⟨w.heap.size + 2, 5, none⟩) (by simp) (.bool d)
  have bO := (((((bO).s61 (u := .int .i64 s)).s62 (u := .int .i64 a)).s63 (u := .int .i64 o)).s64 (u := .int .i64 t)).s65 (u := .bool d)
  have bw := bel_set (p := ⟨w.heap.size + 2, 5, none⟩) (bel_set (p := ⟨w.heap.size + 2, 4, none⟩) (bel_set (p := ⟨w.heap.size + 2, 3, none⟩) (bel_set (p := ⟨w.heap.size + 2, 2, none⟩) (bel_set (p := ⟨w.heap.size + 2, 1, none⟩) (bw) (by simp) (.int .i64 s)) (by simp) (.int .i64 a)) (by simp) (.int .i64 o)) (by simp) (.int .i64 t)) (by simp) (.bool d)
  clear cA0 cO0 fO0 cA1 cO1 fO1 cA2 cO2 fO2 cA3 cO3 fO3 cA4 cO4 fO4 cA5 cO5 fO5
  generalize (((((w2.setCell ⟨w.heap.size + 2, 1, none⟩ (.int .i64 s)).setCell ⟨w.heap.size + 2, 2, none⟩ (.int .i64 a)).setCell ⟨w.heap.size + 2, 3, none⟩ (.int .i64 o)).setCell ⟨w.heap.size + 2, 4, none⟩ (.int .i64 t)).setCell ⟨w.heap.size + 2, 5, none⟩ (.bool d)) = w3 at *
  have cO0 : w3.cell? ⟨w.heap.size + 2, 0, none⟩ = some (.bool r) := by rw [Blk.cell bO]; rfl
  have cO1 : w3.cell? ⟨w.heap.size + 2, 1, none⟩ = some (.int .i64 s) := by rw [Blk.cell bO]; rfl
  have cO2 : w3.cell? ⟨w.heap.size + 2, 2, none⟩ = some (.int .i64 a) := by rw [Blk.cell bO]; rfl
  have cO3 : w3.cell? ⟨w.heap.size + 2, 3, none⟩ = some (.int .i64 o) := by rw [Blk.cell bO]; rfl
  have cO4 : w3.cell? ⟨w.heap.size + 2, 4, none⟩ = some (.int .i64 t) := by rw [Blk.cell bO]; rfl
  have cO5 : w3.cell? ⟨w.heap.size + 2, 5, none⟩ = some (.bool d) := by rw [Blk.cell bO]; rfl
  have cR0 : w3.cell? ⟨w.heap.size + 1, 0, none⟩ = some (.bool false) := by rw [Blk.cell bR]; rfl
  have fR0 := Blk.free bR 0
  have cR1 : w3.cell? ⟨w.heap.size + 1, 1, none⟩ = some (.int .i64 0) := by rw [Blk.cell bR]; rfl
  have fR1 := Blk.free bR 1
  have cR2 : w3.cell? ⟨w.heap.size + 1, 2, none⟩ = some (.int .i64 0) := by rw [Blk.cell bR]; rfl
  have fR2 := Blk.free bR 2
  have cR3 : w3.cell? ⟨w.heap.size + 1, 3, none⟩ = some (.int .i64 0) := by rw [Blk.cell bR]; rfl
  have fR3 := Blk.free bR 3
  have cR4 : w3.cell? ⟨w.heap.size + 1, 4, none⟩ = some (.int .i64 0) := by rw [Blk.cell bR]; rfl
  have fR4 := Blk.free bR 4
  have cR5 : w3.cell? ⟨w.heap.size + 1, 5, none⟩ = some (.bool false) := by rw [Blk.cell bR]; rfl
  have fR5 := Blk.free bR 5
  go_wp2
  exact bodyPost_ret (v := .agg #[.bool r, .int .i64 s, .int .i64 a, .int .i64 o, .int .i64 t, .bool d]) (by simp [results, Try.results38, go_sem, cR0, fR0, cR1, fR1, cR2, fR2, cR3, fR3, cR4, fR4, cR5, fR5]) rfl ⟨rfl, by repeat (first | (with_reducible assumption) | (refine bel_set ?_ (by simp) _))⟩
set_option maxHeartbeats 2000000 in
theorem eqNt_same (r : Bool) (s a o t : Int) (d : Bool) (w : World) : Calls Try.prog 40 #[.agg #[.bool r, .int .i64 s, .int .i64 a, .int .i64 o, .int .i64 t, .bool d], .agg #[.bool r, .int .i64 s, .int .i64 a, .int .i64 o, .int .i64 t, .bool d]] w fun e w' => e = .returned (.bool true) ∧ Below w.heap.size w w' := by
  go_enter Try.func40, Try.ntmps40
  have bX : Blk ((w.alloc (.cells #[.bool r, .int .i64 s, .int .i64 a, .int .i64 o, .int .i64 t, .bool d] 49)).alloc (.cells #[.bool r, .int .i64 s, .int .i64 a, .int .i64 o, .int .i64 t, .bool d] 49)) w.heap.size #[.bool r, .int .i64 s, .int .i64 a, .int .i64 o, .int .i64 t, .bool d] 49 := (Blk.new w _ _).alloc _
  have bY : Blk ((w.alloc (.cells #[.bool r, .int .i64 s, .int .i64 a, .int .i64 o, .int .i64 t, .bool d] 49)).alloc (.cells #[.bool r, .int .i64 s, .int .i64 a, .int .i64 o, .int .i64 t, .bool d] 49)) (w.heap.size + 1) #[.bool r, .int .i64 s, .int .i64 a, .int .i64 o, .int .i64 t, .bool d] 49 := by simpa using Blk.new (w.alloc (.cells #[.bool r, .int .i64 s, .int .i64 a, .int .i64 o, .int .i64 t, .bool d] 49)) #[.bool r, .int .i64 s, .int .i64 a, .int .i64 o, .int .i64 t, .bool d] 49
  have bw : Below w.heap.size w ((w.alloc (.cells #[.bool r, .int .i64 s, .int .i64 a, .int .i64 o, .int .i64 t, .bool d] 49)).alloc (.cells #[.bool r, .int .i64 s, .int .i64 a, .int .i64 o, .int .i64 t, .bool d] 49)) := bel_al (bel_al (bel_refl w) _) _
  go_wp2_with fail
  generalize ((w.alloc (.cells #[.bool r, .int .i64 s, .int .i64 a, .int .i64 o, .int .i64 t, .bool d] 49)).alloc (.cells #[.bool r, .int .i64 s, .int .i64 a, .int .i64 o, .int .i64 t, .bool d] 49)) = w0 at *
  refine (eqP_same s a o _).mono ?_
  rintro e1 w1 ⟨rfl, b1⟩
  have bX := bX.below b1
  have bY := bY.below b1
  have bw := bel_tr bw b1
  clear b1
  have cX0 : w1.cell? ⟨w.heap.size, 0, none⟩ = some (.bool r) := by rw [Blk.cell bX]; rfl
  have cY0 : w1.cell? ⟨w.heap.size + 1, 0, none⟩ = some (.bool r) := by rw [Blk.cell bY]; rfl
  have cX1 : w1.cell? ⟨w.heap.size, 1, none⟩ = some (.int .i64 s) := by rw [Blk.cell bX]; rfl
  have cY1 : w1.cell? ⟨w.heap.size + 1, 1, none⟩ = some (.int .i64 s) := by rw [Blk.cell bY]; rfl
  have cX2 : w1.cell? ⟨w.heap.size, 2, none⟩ = some (.int .i64 a) := by rw [Blk.cell bX]; rfl
  have cY2 : w1.cell? ⟨w.heap.size + 1, 2, none⟩ = some (.int .i64 a) := by rw [Blk.cell bY]; rfl
  have cX3 : w1.cell? ⟨w.heap.size, 3, none⟩ = some (.int .i64 o) := by rw [Blk.cell bX]; rfl
  have cY3 : w1.cell? ⟨w.heap.size + 1, 3, none⟩ = some (.int .i64 o) := by rw [Blk.cell bY]; rfl
  have cX4 : w1.cell? ⟨w.heap.size, 4, none⟩ = some (.int .i64 t) := by rw [Blk.cell bX]; rfl
  have cY4 : w1.cell? ⟨w.heap.size + 1, 4, none⟩ = some (.int .i64 t) := by rw [Blk.cell bY]; rfl
  have cX5 : w1.cell? ⟨w.heap.size, 5, none⟩ = some (.bool d) := by rw [Blk.cell bX]; rfl
  have cY5 : w1.cell? ⟨w.heap.size + 1, 5, none⟩ = some (.bool d) := by rw [Blk.cell bY]; rfl
  go_wp2
  go_ret
  exact ⟨rfl, bw⟩
set_option maxHeartbeats 2000000 in
theorem eqSNt_same (A A' : Option Addr) (n c c' : Nat) (l : List Nt) (w : World) (hn : l.length = n) (hm : n ≤ 9223372036854775807) (h : RowNt w w.heap.size A l) (h' : RowNt w w.heap.size A' l) :
    Calls Try.prog 16 #[.slice A n c, .slice A' n c'] w fun e w' => e = .returned (.bool true) ∧ Below w.heap.size w w' := by
  subst hn
  go_enter Try.func16, Try.ntmps16
  go_wp2
  go_loopw [5] (fun i wr => ∃ k : Nat, k ≤ l.length ∧ i = .int .i64 k ∧ Below w.heap.size w wr) (fun i _ => l.length - (intOf i).toNat)
  case atStart => exact ⟨0, Nat.zero_le _, rfl, bel_refl _⟩
  case round =>
    obtain ⟨k, hk, rfl, hb⟩ := hrel
    by_cases hlt : k < l.length
    · obtain ⟨b, off, rfl, hlb, hc⟩ := (h.below hb) (by omega)
      obtain ⟨b', off', rfl, hlb', hc'⟩ := (h'.below hb) (by omega)
      have hck := hc k hlt
      have hck' := hc' k hlt
      generalize atNt l k = x at hck hck'
      obtain ⟨r, s, a, o, t, d⟩ := x
      obtain ⟨p0, p1, p2, p3, p4, p5⟩ := hck
      obtain ⟨q0, q1, q2, q3, q4, q5⟩ := hck'
      simp only at p0 p1 p2 p3 p4 p5 q0 q1 q2 q3 q4 q5
      clear hc hc' h h'
      have hki : (k : Int) < (l.length : Int) := by omega
      have hk0 : (0 : Int) ≤ (k : Int) := by omega
      have LA : ∀ xL : Later wr, Calls Try.prog 40 #[.agg #[.bool r, .int .i64 s, .int .i64 a, .int .i64 o, .int .i64 t, .bool d], .agg #[.bool r, .int .i64 s, .int .i64 a, .int .i64 o, .int .i64 t, .bool d]] xL.world fun e w'' => e = .returned (.bool true) ∧ ∃ z : Later wr, w'' = z.world := fun xL => later_call (eqNt_same r s a o t d _)
      go_wp2_with fail
      have lf0 : ∀ xL : Later wr, xL.world.cell? ⟨b, off + k * 6, none⟩ = some (.bool r) := fun xL => xL.at (p0)
      have lf1 : ∀ xL : Later wr, xL.world.cell? ⟨b, off + k * 6 + 1, none⟩ = some (.int .i64 s) := fun xL => xL.at (p1)
      have lf2 : ∀ xL : Later wr, xL.world.cell? ⟨b, off + k * 6 + 2, none⟩ = some (.int .i64 a) := fun xL => xL.at (p2)
      have lf3 : ∀ xL : Later wr, xL.world.cell? ⟨b, off + k * 6 + 3, none⟩ = some (.int .i64 o) := fun xL => xL.at (p3)
      have lf4 : ∀ xL : Later wr, xL.world.cell? ⟨b, off + k * 6 + 4, none⟩ = some (.int .i64 t) := fun xL => xL.at (p4)
      have lf5 : ∀ xL : Later wr, xL.world.cell? ⟨b, off + k * 6 + 5, none⟩ = some (.bool d) := fun xL => xL.at (p5)
      have lf6 : ∀ xL : Later wr, xL.world.cell? ⟨b', off' + k * 6, none⟩ = some (.bool r) := fun xL => xL.at (q0)
      have lf7 : ∀ xL : Later wr, xL.world.cell? ⟨b', off' + k * 6 + 1, none⟩ = some (.int .i64 s) := fun xL => xL.at (q1)
      have lf8 : ∀ xL : Later wr, xL.world.cell? ⟨b', off' + k * 6 + 2, none⟩ = some (.int .i64 a) := fun xL => xL.at (q2)
      have lf9 : ∀ xL : Later wr, xL.world.cell? ⟨b', off' + k * 6 + 3, none⟩ = some (.int .i64 o) := fun xL => xL.at (q3)
      have lf10 : ∀ xL : Later wr, xL.world.cell? ⟨b', off' + k * 6 + 4, none⟩ = some (.int .i64 t) := fun xL => xL.at (q4)
      have lf11 : ∀ xL : Later wr, xL.world.cell? ⟨b', off' + k * 6 + 5, none⟩ = some (.bool d) := fun xL => xL.at (q5)
      refine region_later (w0 := wr) (by kernel_rfl) (by kernel_rfl) (bel_refl _) ?_
      repeat (go_big_quiet_step ((go_at_call 40; exact LA _)))
      refine wpQuiet_nil ?_
      rintro w' ⟨x, rfl⟩
      obtain ⟨w2, b2⟩ := x
      clear lf0 lf1 lf2 lf3 lf4 lf5 lf6 lf7 lf8 lf9 lf10 lf11
      go_wp2
      go_roundw
      case rel => exact ⟨k + 1, by omega, by go_num, by repeat (first | (with_reducible assumption) | (exact bel_undr (by with_reducible assumption)) | (with_reducible exact bel_refl _) | (with_reducible refine bel_dr ?_) | (with_reducible refine bel_drN ?_ _) | (with_reducible refine bel_al ?_ _) | (refine bel_set ?_ (by first | (simp; done) | (simp; exact Below.size (by assumption)) | (simp; omega)) _) | (with_reducible refine bel_tr ?_ (by assumption)))⟩
      case measure => simp [intOf]; omega
    · go_wp2
      go_ret
      exact ⟨rfl, hb⟩
def ToNt (w : World) (l : List Nt) (e : Ending) (w' : World) : Prop :=
  ∃ A, e = .returned (.slice A l.length l.length) ∧ RowNt w' w'.heap.size A l ∧ OwnNt w' w.heap.size A l.length ∧ Below w.heap.size w w'
theorem run_makeNt (n : Nat) (h : n ≤ 2000000) (w : World) :
    (Instr.makeSlice 26 (.int .i64 (n : Int)) (.int .i64 (n : Int))).run Try.prog w = .ok (.slice (some ⟨w.heap.size, 0, none⟩) n n) (w.alloc (.cells (madeCells #[.bool false, .int .i64 0, .int .i64 0, .int .i64 0, .int .i64 0, .bool false] (n * 6)) 49)) := by
  obtain ⟨i, hi, hz, hs, hb⟩ := info_parts infoNt
  have hr := run_make (P := Try.prog) w 26 49 i _ Try.underlying26 hi hz .i64 .i64 n n (by omega) (by omega) (by rw [hb]; omega) (by omega)
  simp only [Int.toNat_natCast, hs] at hr
  exact hr
theorem stepNt (wr : World) (g k : Nat) (l : List Nt) (x : Nt) (ht : atNt l k = x) (hlt : k < l.length) (hd : ∀ j, j < k → wr.cell? ⟨g, 0 + j * 6, none⟩ = some (.bool (atNt l j).rest) ∧ wr.cell? ⟨g, 0 + j * 6 + 1, none⟩ = some (.int .i64 (atNt l j).step) ∧ wr.cell? ⟨g, 0 + j * 6 + 2, none⟩ = some (.int .i64 (atNt l j).alter) ∧ wr.cell? ⟨g, 0 + j * 6 + 3, none⟩ = some (.int .i64 (atNt l j).octave) ∧ wr.cell? ⟨g, 0 + j * 6 + 4, none⟩ = some (.int .i64 (atNt l j).ticks) ∧ wr.cell? ⟨g, 0 + j * 6 + 5, none⟩ = some (.bool (atNt l j).tied)) (hs : ∀ o, o < l.length * 6 → (wr.cell? ⟨g, o, none⟩).isSome = true) (hf : ∀ o, wr.frozen? ⟨g, o, none⟩ = false) :
    (∀ j, j < k + 1 → (((((((wr.setCell ⟨g, k * 6, none⟩ (.bool x.rest)).setCell ⟨g, k * 6 + 1, none⟩ (.int .i64 x.step)).setCell ⟨g, k * 6 + 2, none⟩ (.int .i64 x.alter)).setCell ⟨g, k * 6 + 3, none⟩ (.int .i64 x.octave)).setCell ⟨g, k * 6 + 4, none⟩ (.int .i64 x.ticks)).setCell ⟨g, k * 6 + 5, none⟩ (.bool x.tied))).cell? ⟨g, 0 + j * 6, none⟩ = some (.bool (atNt l j).rest) ∧ (((((((wr.setCell ⟨g, k * 6, none⟩ (.bool x.rest)).setCell ⟨g, k * 6 + 1, none⟩ (.int .i64 x.step)).setCell ⟨g, k * 6 + 2, none⟩ (.int .i64 x.alter)).setCell ⟨g, k * 6 + 3, none⟩ (.int .i64 x.octave)).setCell ⟨g, k * 6 + 4, none⟩ (.int .i64 x.ticks)).setCell ⟨g, k * 6 + 5, none⟩ (.bool x.tied))).cell? ⟨g, 0 + j * 6 + 1, none⟩ = some (.int .i64 (atNt l j).step) ∧ (((((((wr.setCell ⟨g, k * 6, none⟩ (.bool x.rest)).setCell ⟨g, k * 6 + 1, none⟩ (.int .i64 x.step)).setCell ⟨g, k * 6 + 2, none⟩ (.int .i64 x.alter)).setCell ⟨g, k * 6 + 3, none⟩ (.int .i64 x.octave)).setCell ⟨g, k * 6 + 4, none⟩ (.int .i64 x.ticks)).setCell ⟨g, k * 6 + 5, none⟩ (.bool x.tied))).cell? ⟨g, 0 + j * 6 + 2, none⟩ = some (.int .i64 (atNt l j).alter) ∧ (((((((wr.setCell ⟨g, k * 6, none⟩ (.bool x.rest)).setCell ⟨g, k * 6 + 1, none⟩ (.int .i64 x.step)).setCell ⟨g, k * 6 + 2, none⟩ (.int .i64 x.alter)).setCell ⟨g, k * 6 + 3, none⟩ (.int .i64 x.octave)).setCell ⟨g, k * 6 + 4, none⟩ (.int .i64 x.ticks)).setCell ⟨g, k * 6 + 5, none⟩ (.bool x.tied))).cell? ⟨g, 0 + j * 6 + 3, none⟩ = some (.int .i64 (atNt l j).octave) ∧ (((((((wr.setCell ⟨g, k * 6, none⟩ (.bool x.rest)).setCell ⟨g, k * 6 + 1, none⟩ (.int .i64 x.step)).setCell ⟨g, k * 6 + 2, none⟩ (.int .i64 x.alter)).setCell ⟨g, k * 6 + 3, none⟩ (.int .i64 x.octave)).setCell ⟨g, k * 6 + 4, none⟩ (.int .i64 x.ticks)).setCell ⟨g, k * 6 + 5, none⟩ (.bool x.tied))).cell? ⟨g, 0 + j * 6 + 4, none⟩ = some (.int .i64 (atNt l j).ticks) ∧ (((((((wr.setCell ⟨g, k * 6, none⟩ (.bool x.rest)).setCell ⟨g, k * 6 + 1, none⟩ (.int .i64 x.step)).setCell ⟨g, k * 6 + 2, none⟩ (.int .i64 x.alter)).setCell ⟨g, k * 6 + 3, none⟩ (.int .i64 x.octave)).setCell ⟨g, k * 6 + 4, none⟩ (.int .i64 x.ticks)).setCell ⟨g, k * 6 + 5, none⟩ (.bool x.tied))).cell? ⟨g, 0 + j * 6 + 5, none⟩ = some (.bool (atNt l j).tied)) ∧ (∀ o, o < l.length * 6 → (((((((wr.setCell ⟨g, k * 6, none⟩ (.bool x.rest)).setCell ⟨g, k * 6 + 1, none⟩ (.int .i64 x.step)).setCell ⟨g, k * 6 + 2, none⟩ (.int .i64 x.alter)).setCell ⟨g, k * 6 + 3, none⟩ (.int .i64 x.octave)).setCell ⟨g, k * 6 + 4, none⟩ (.int .i64 x.ticks)).setCell ⟨g, k * 6 + 5, none⟩ (.bool x.tied)).cell? ⟨g, o, none⟩).isSome = true) ∧ (∀ o, ((((((wr.setCell ⟨g, k * 6, none⟩ (.bool x.rest)).setCell ⟨g, k * 6 + 1, none⟩ (.int .i64 x.step)).setCell ⟨g, k * 6 + 2, none⟩ (.int .i64 x.alter)).setCell ⟨g, k * 6 + 3, none⟩ (.int .i64 x.octave)).setCell ⟨g, k * 6 + 4, none⟩ (.int .i64 x.ticks)).setCell ⟨g, k * 6 + 5, none⟩ (.bool x.tied)).frozen? ⟨g, o, none⟩ = false) ∧ (∀ w, Below w.heap.size w wr → w.heap.size ≤ g → Below w.heap.size w ((((((wr.setCell ⟨g, k * 6, none⟩ (.bool x.rest)).setCell ⟨g, k * 6 + 1, none⟩ (.int .i64 x.step)).setCell ⟨g, k * 6 + 2, none⟩ (.int .i64 x.alter)).setCell ⟨g, k * 6 + 3, none⟩ (.int .i64 x.octave)).setCell ⟨g, k * 6 + 4, none⟩ (.int .i64 x.ticks)).setCell ⟨g, k * 6 + 5, none⟩ (.bool x.tied))) := by
  have ne : ∀ a b : Nat, a ≠ b → (⟨g, a, none⟩ : Addr) ≠ ⟨g, b, none⟩ := fun a b h e => h (congrArg Addr.off e)
  refine ⟨fun j hj => ?_, fun o ho => ?_, fun o => ?_, fun w h hg => ?_⟩
  · simp only [Nat.zero_add] at hd ⊢
    by_cases hjk : j < k
    · obtain ⟨d0, d1, d2, d3, d4, d5⟩ := hd j hjk
      exact ⟨keep_off (keep_off (keep_off (keep_off (keep_off (keep_off (d0) (ne _ _ (by omega))) (ne _ _ (by omega))) (ne _ _ (by omega))) (ne _ _ (by omega))) (ne _ _ (by omega))) (ne _ _ (by omega)), keep_off (keep_off (keep_off (keep_off (keep_off (keep_off (d1) (ne _ _ (by omega))) (ne _ _ (by omega))) (ne _ _ (by omega))) (ne _ _ (by omega))) (ne _ _ (by omega))) (ne _ _ (by omega)), keep_off (keep_off (keep_off (keep_off (keep_off (keep_off (d2) (ne _ _ (by omega))) (ne _ _ (by omega))) (ne _ _ (by omega))) (ne _ _ (by omega))) (ne _ _ (by omega))) (ne _ _ (by omega)), keep_off (keep_off (keep_off (keep_off (keep_off (keep_off (d3) (ne _ _ (by omega))) (ne _ _ (by omega))) (ne _ _ (by omega))) (ne _ _ (by omega))) (ne _ _ (by omega))) (ne _ _ (by omega)), keep_off (keep_off (keep_off (keep_off (keep_off (keep_off (d4) (ne _ _ (by omega))) (ne _ _ (by omega))) (ne _ _ (by omega))) (ne _ _ (by omega))) (ne _ _ (by omega))) (ne _ _ (by omega)), keep_off (keep_off (keep_off (keep_off (keep_off (keep_off (d5) (ne _ _ (by omega))) (ne _ _ (by omega))) (ne _ _ (by omega))) (ne _ _ (by omega))) (ne _ _ (by omega))) (ne _ _ (by omega))⟩
    · obtain rfl : j = k := by omega
      rw [ht]
      exact ⟨keep_off (keep_off (keep_off (keep_off (keep_off (set_same (hs _ (by omega))) (ne _ _ (by omega))) (ne _ _ (by omega))) (ne _ _ (by omega))) (ne _ _ (by omega))) (ne _ _ (by omega)), keep_off (keep_off (keep_off (keep_off (set_same (some_set (hs _ (by omega)) (ne _ _ (by omega)))) (ne _ _ (by omega))) (ne _ _ (by omega))) (ne _ _ (by omega))) (ne _ _ (by omega)), keep_off (keep_off (keep_off (set_same (some_set (some_set (hs _ (by omega)) (ne _ _ (by omega))) (ne _ _ (by omega)))) (ne _ _ (by omega))) (ne _ _ (by omega))) (ne _ _ (by omega)), keep_off (keep_off (set_same (some_set (some_set (some_set (hs _ (by omega)) (ne _ _ (by omega))) (ne _ _ (by omega))) (ne _ _ (by omega)))) (ne _ _ (by omega))) (ne _ _ (by omega)), keep_off (set_same (some_set (some_set (some_set (some_set (hs _ (by omega)) (ne _ _ (by omega))) (ne _ _ (by omega))) (ne _ _ (by omega))) (ne _ _ (by omega)))) (ne _ _ (by omega)), set_same (some_set (some_set (some_set (some_set (some_set (hs _ (by omega)) (ne _ _ (by omega))) (ne _ _ (by omega))) (ne _ _ (by omega))) (ne _ _ (by omega))) (ne _ _ (by omega)))⟩
  · exact some_setx (some_setx (some_setx (some_setx (some_setx (some_setx (hs o ho))))))
  · exact fz_set (fz_set (fz_set (fz_set (fz_set (fz_set (hf o))))))
  · exact bel_set (bel_set (bel_set (bel_set (bel_set (bel_set (h) hg _) hg _) hg _) hg _) hg _) hg _
set_option maxHeartbeats 2000000 in
theorem toSNt_any (A : Option Addr) (n c : Nat) (l : List Nt) (w : World) (hn : l.length = n) (hm : n ≤ 2000000) (h : RowNt w w.heap.size A l) :
    Calls Try.prog 13 #[.slice A n c] w (ToNt w l) := by
  subst hn
  have hmk := run_makeNt l.length hm
  go_enter Try.func13, Try.ntmps13
  go_wp2
  go_loopw [4] (fun i wr => ∃ k : Nat, k ≤ l.length ∧ i = .int .i64 k ∧ Below w.heap.size w wr ∧ w.heap.size < wr.heap.size ∧ (∀ j, j < k → wr.cell? ⟨w.heap.size, 0 + j * 6, none⟩ = some (.bool (atNt l j).rest) ∧ wr.cell? ⟨w.heap.size, 0 + j * 6 + 1, none⟩ = some (.int .i64 (atNt l j).step) ∧ wr.cell? ⟨w.heap.size, 0 + j * 6 + 2, none⟩ = some (.int .i64 (atNt l j).alter) ∧ wr.cell? ⟨w.heap.size, 0 + j * 6 + 3, none⟩ = some (.int .i64 (atNt l j).octave) ∧ wr.cell? ⟨w.heap.size, 0 + j * 6 + 4, none⟩ = some (.int .i64 (atNt l j).ticks) ∧ wr.cell? ⟨w.heap.size, 0 + j * 6 + 5, none⟩ = some (.bool (atNt l j).tied)) ∧ (∀ o, o < l.length * 6 → (wr.cell? ⟨w.heap.size, o, none⟩).isSome = true) ∧ (∀ o, wr.frozen? ⟨w.heap.size, o, none⟩ = false)) (fun i _ => l.length - (intOf i).toNat)
  case atStart => exact ⟨0, Nat.zero_le _, rfl, bel_al (bel_refl _) _, by simp, fun j hj => by omega, fun o ho => by rw [World.cell?_alloc_new]; simp [size_madeCells]; omega, fun o => by simp⟩
  case round =>
    obtain ⟨k, hk, rfl, hb, hgs, hd, hs, hf⟩ := hrel
    by_cases hlt : k < l.length
    · obtain ⟨b, off, rfl, hlb, hcc⟩ := (h.below hb) (by omega)
      have hc := hcc k hlt
      clear hcc
      have hbg : b ≠ w.heap.size ∨ True := .inr trivial
      generalize hg : atNt l k = x at hc
      have HG := Lib.hid hg
      clear hg
      obtain ⟨r, s, a, o, t, d⟩ := x
      obtain ⟨p0, p1, p2, p3, p4, p5⟩ := hc
      simp only at p0 p1 p2 p3 p4 p5
      have hki : (k : Int) < (l.length : Int) := by omega
      have HD := Lib.hid hd
      have HS := Lib.hid hs
      have HF := Lib.hid hf
      clear hd hs hf
      go_wp2_with fail
      refine (toNt_any r s a o t d _).mono ?_
      rintro e1 w1 ⟨rfl, b1⟩
      have hd1 : ∀ j, j < k → w1.cell? ⟨w.heap.size, 0 + j * 6, none⟩ = some (.bool (atNt l j).rest) ∧ w1.cell? ⟨w.heap.size, 0 + j * 6 + 1, none⟩ = some (.int .i64 (atNt l j).step) ∧ w1.cell? ⟨w.heap.size, 0 + j * 6 + 2, none⟩ = some (.int .i64 (atNt l j).alter) ∧ w1.cell? ⟨w.heap.size, 0 + j * 6 + 3, none⟩ = some (.int .i64 (atNt l j).octave) ∧ w1.cell? ⟨w.heap.size, 0 + j * 6 + 4, none⟩ = some (.int .i64 (atNt l j).ticks) ∧ w1.cell? ⟨w.heap.size, 0 + j * 6 + 5, none⟩ = some (.bool (atNt l j).tied) := fun j hj => by
        obtain ⟨d0, d1, d2, d3, d4, d5⟩ := HD.out j hj
        exact ⟨keep_tr d0 b1, keep_tr d1 b1, keep_tr d2 b1, keep_tr d3 b1, keep_tr d4 b1, keep_tr d5 b1⟩
      have hs1 : ∀ o, o < l.length * 6 → (w1.cell? ⟨w.heap.size, o, none⟩).isSome = true := fun o ho => some_tr (HS.out o ho) b1
      have hf1 : ∀ o, w1.frozen? ⟨w.heap.size, o, none⟩ = false := fun o => fz_tr (HF.out o) b1 hgs
      have hb1 : Below w.heap.size w w1 := bel_tr hb b1
      have hgs1 : w.heap.size < w1.heap.size := Nat.lt_of_lt_of_le hgs b1.size
      obtain ⟨o0, so0⟩ := Option.isSome_iff_exists.1 (hs1 (k * 6) (by omega))
      obtain ⟨o1, so1⟩ := Option.isSome_iff_exists.1 (hs1 (k * 6 + 1) (by omega))
      obtain ⟨o2, so2⟩ := Option.isSome_iff_exists.1 (hs1 (k * 6 + 2) (by omega))
      obtain ⟨o3, so3⟩ := Option.isSome_iff_exists.1 (hs1 (k * 6 + 3) (by omega))
      obtain ⟨o4, so4⟩ := Option.isSome_iff_exists.1 (hs1 (k * 6 + 4) (by omega))
      obtain ⟨o5, so5⟩ := Option.isSome_iff_exists.1 (hs1 (k * 6 + 5) (by omega))
      have HD1 := Lib.hid hd1
      have HS1 := Lib.hid hs1
      clear hd1 hs1 h b1 hb p0 p1 p2 p3 p4 p5
      go_wp2
      go_roundw
      case rel =>
        obtain ⟨s1, s2, s3, s4⟩ := stepNt w1 w.heap.size k l ⟨r, s, a, o, t, d⟩ (HG.out) hlt HD1.out HS1.out hf1
        exact ⟨k + 1, by omega, by go_num, s4 w hb1 (Nat.le_refl _), by simp [World.setCell]; exact hgs1, s1, s2, s3⟩
      case measure => simp [intOf]; omega
    · obtain rfl : k = l.length := by omega
      go_wp2
      go_ret
      refine ⟨_, rfl, fun hl => ⟨_, _, rfl, hgs, hd⟩, fun _ => ⟨_, _, rfl, Nat.le_refl _, hf⟩, hb⟩
end Go.Proofs.Ytelbmiplmbgcdaa
