/- The walk of the law FnExactFifthsRatio: for every input it returns true and turns nothing that was there. -/
import Derived.Test.YtclbgndpdbfedaaAny
import Derived.Deep.RegionHeld3
import Derived.Deep.DeepCutAuto
namespace Go.Proofs.Ytclbgndpdbfedaa.FnExactFifthsRatio
open Go.RowKit

set_option maxHeartbeats 1600000 in
theorem walk (x : Int) (w : World) (_h0 : (Lit.int .i64 x).wf = true) :
    Calls Try.prog 8 #[.int .i64 x] w fun e w' => e = .returned (.bool true) ∧ Below w.heap.size w w' := by
  go_enter Try.func8, Try.ntmps8
  go_wp2_with fail
  refine (sfi_any _ _).mono ?_
  rintro e1 w1 ⟨rfl, hb1⟩
  have hz1 := hb1.size
  (try simp at hz1)
  go_wp2_with fail
  refine (fi_any _ _).mono ?_
  rintro e2 w2 ⟨rfl, hb2⟩
  have hz2 := hb2.size
  (try simp at hz2)
  obtain ⟨c2_0, f2_0⟩ := cel hb2 w1.heap.size (by (try simp) <;> omega)
  have l2_0 : w1.heap.size < w2.heap.size := (by omega)
  go_wp2
  go_ret
  exact ⟨rfl, by repeat (first | (with_reducible assumption) | (exact bel_undr (by with_reducible assumption)) | (with_reducible exact bel_refl _) | (with_reducible refine bel_dr ?_) | (with_reducible refine bel_drN ?_ _) | (with_reducible refine bel_al ?_ _) | (refine bel_set ?_ (by first | (simp; done) | (simp; exact Below.size (by assumption)) | (simp; omega)) _) | (with_reducible refine bel_tr ?_ (by assumption)))⟩

end Go.Proofs.Ytclbgndpdbfedaa.FnExactFifthsRatio
