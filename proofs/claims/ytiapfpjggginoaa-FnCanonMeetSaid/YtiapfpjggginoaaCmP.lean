/- A canon that comes in behind the voice's end has no fault. -/
import Derived.Test.YtiapfpjggginoaaCdL
import Derived.Test.YtiapfpjggginoaaCoV
namespace Go.Proofs.Ytiapfpjggginoaa
set_option linter.unusedSimpArgs false
set_option linter.unusedVariables false
open Go.RowKit

theorem cm_none {l : List Nt} {d st ha : Int} (h : coB l d st ha = true) (hT : tsum l l.length ≤ d) (t : Int) : mfB l (coL l d st ha) t = false := by
  have hv := co_vv h
  obtain ⟨_, _, _, _⟩ := co_facts h
  have hC := (co_tail h rfl)
  generalize coL l d st ha = M at *
  have e1 : tsum M 1 = d := by
    show tsum M 0 + (atNt M 0).ticks = d
    rw [hC.2.2.1]; simp [tsum]
  by_cases ht : t < d
  · have hs : skB M t = false := by
      rcases na_spec M t with ⟨e, _⟩ | ⟨j, hj, _, _, e, h1, h2⟩
      · exact sk_no e
      · by_cases ej : j = 0
        · subst ej
          rw [(sk_at e).1, hC.2.2.1]; rfl
        · have := (vvB_of hv).le (i := 1) (k := j) (by omega) (by omega)
          omega
    unfold mfB; rw [hs]; simp
  · have hs : skB l t = false := by
      rcases na_spec l t with ⟨e, _⟩ | ⟨j, hj, hvl, _, e, h1, h2⟩
      · exact sk_no e
      · have := (vvB_of hvl).le (i := j + 1) (k := l.length) (by omega) (Nat.le_refl _)
        omega
    unfold mfB; rw [hs]; simp
theorem mfL_none {a b : List Nt} (h : ∀ t, mfB a b t = false) : ∀ L, mfL a b L = -1
  | [] => rfl
  | t :: L => by rw [mfL_no (h t)]; exact mfL_none h L
theorem cm_mf {l : List Nt} {d st ha : Int} (h : coB l d st ha = true) (hT : tsum l l.length ≤ d) : mfI l (coL l d st ha) (-1) := ⟨_, mtF_ok _ _, mfL_none (cm_none h hT) _⟩
set_option maxHeartbeats 2000000 in
theorem vtk_no (A : Option Addr) (n c : Nat) (l : List Nt) (w : World) (hn : l.length = n) (hm : n ≤ 2000000) (hv : vvB l = false) (h : RowNt w w.heap.size A l) :
    Calls Try.prog 23 #[.slice A n c] w fun e w' => e = .returned (.int .i64 (-1)) ∧ Below w.heap.size w w' := by
  subst hn
  go_enter Try.func23, Try.ntmps23
  go_wp2_with fail
  refine (vv_val hv _ _ _ _ rfl hm h).mono ?_
  rintro e1 w1 ⟨rfl, b1⟩
  go_wp2
  go_ret
  exact ⟨rfl, b1⟩
theorem vtI_val {l : List Nt} {T : Int} (hT : (if vvB l = true then tsum l l.length else -1) = T) (A : Option Addr) (n c : Nat) (w : World) (hn : l.length = n) (hm : n ≤ 2000000) (h : RowNt w w.heap.size A l) :
    Calls Try.prog 23 #[.slice A n c] w fun e w' => e = .returned (.int .i64 T) ∧ Below w.heap.size w w' := by
  cases hv : vvB l
  · rw [hv] at hT
    simp only [Bool.false_eq_true, if_false] at hT
    subst hT; exact vtk_no A n c l w hn hm hv h
  · rw [hv, if_pos rfl] at hT
    exact vtk_val hT A n c w hn hm hv h
end Go.Proofs.Ytiapfpjggginoaa
