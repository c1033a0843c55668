/- The walk of the law FnExactRatioBack: for every input it returns true and turns nothing that was there. -/
import Derived.Test.YtclbgndpdbfedaaTm
namespace Go.Proofs.Ytclbgndpdbfedaa.FnExactRatioBack
open Go.RowKit

set_option maxHeartbeats 1600000 in
theorem walk (n d : Int) (w : World) (_h0 : (Lit.int .i64 n).wf = true) (_h1 : (Lit.int .i64 d).wf = true) :
    Calls Try.prog 5 #[.agg #[.int .i64 n, .int .i64 d]] w fun e w' => e = .returned (.bool true) ∧ Below w.heap.size w w' := by
  go_enter Try.func5, Try.ntmps5
  go_wp2_with fail
  refine (toRatio_any _ _ _).mono ?_
  rintro e1 w1 ⟨rfl, hb1⟩
  have hz1 := hb1.size
  (try simp at hz1)
  obtain ⟨c1_0, f1_0⟩ := cel hb1 w.heap.size (by (try simp) <;> omega)
  have l1_0 : w.heap.size < w1.heap.size := (by omega)
  go_wp2_with fail
  refine (sback_any _ _ _).mono ?_
  rintro e2 w2 ⟨rfl, hb2⟩
  have hz2 := hb2.size
  (try simp at hz2)
  obtain ⟨c2_0, f2_0⟩ := cel hb2 w.heap.size (by (try simp) <;> omega)
  have l2_0 : w.heap.size < w2.heap.size := (by omega)
  go_wp2_with fail
  refine (toRatio_any _ _ _).mono ?_
  rintro e3 w3 ⟨rfl, hb3⟩
  have hz3 := hb3.size
  (try simp at hz3)
  obtain ⟨c3_0, f3_0⟩ := cel hb3 w.heap.size (by (try simp) <;> omega)
  have l3_0 : w.heap.size < w3.heap.size := (by omega)
  obtain ⟨c3_1, f3_1⟩ := cel hb3 w2.heap.size (by (try simp) <;> omega)
  have l3_1 : w2.heap.size < w3.heap.size := (by omega)
  go_wp2_with fail
  refine (back_any _ _ _).mono ?_
  rintro e4 w4 ⟨rfl, hb4⟩
  have hz4 := hb4.size
  (try simp at hz4)
  obtain ⟨c4_0, f4_0⟩ := cel hb4 w2.heap.size (by (try simp) <;> omega)
  have l4_0 : w2.heap.size < w4.heap.size := (by omega)
  go_wp2
  go_ret
  exact ⟨rfl, by repeat (first | (with_reducible assumption) | (with_reducible exact bel_refl _) | (with_reducible refine bel_dr ?_) | (with_reducible refine bel_drN ?_ _) | (with_reducible refine bel_al ?_ _) | (refine bel_set ?_ (by (try simp) <;> omega) _) | (with_reducible refine bel_tr ?_ (by assumption)))⟩

end Go.Proofs.Ytclbgndpdbfedaa.FnExactRatioBack
