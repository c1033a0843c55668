/- What is played: plain words. -/
import Derived.Test.YtaieamobjbckdaaVt
import Derived.Test.YtaieamobjbckdaaGrp
import Derived.Test.YtaieamobjbckdaaTo
import Derived.Test.YtaieamobjbckdaaSTo
import Derived.Test.YtaieamobjbckdaaTof
import Derived.Test.YtaieamobjbckdaaTail
namespace Go.Proofs.Ytaieamobjbckdaa
set_option linter.unusedSimpArgs false
set_option linter.unusedVariables false
open Go.RowKit

def csEv (t : Ev) : List Value := [.int .i64 t.on, .int .i64 t.off, .int .i64 t.key, .int .i64 t.loud]
theorem csEv_len (t : Ev) : (csEv t).length = 4 := rfl
/-- what Perform leaves -/
def Prf (w : World) (l : List Nt) (T : List Tp) (loud : Int) (e : Ending) (w' : World) : Prop :=
  ∃ v, e = .returned v ∧ w'.ownsRow w.heap.size 28 4 v (perL l T loud).length (flat csEv (perL l T loud)) ∧ Below w.heap.size w w'
def onI (l : List Nt) (T : List Tp) : Nat → Int
  | 0 => 0
  | k + 1 => timeI T (vsum l (stI l k))
theorem perL_no {l : List Nt} {T : List Tp} {loud : Int} (h : ¬ (vvB l = true ∧ tvB T = true ∧ 1 ≤ loud ∧ loud ≤ 127)) : perL l T loud = [] := by
  unfold perL; rw [if_neg]; intro c; exact h (by have := of_decide_eq_true c; exact ⟨this.1, this.2.1, this.2.2.1⟩)
theorem perL_bad {l : List Nt} {T : List Tp} {loud : Int} (k : Nat) (hk : k < l.length) (h : ¬ kOk (atNt l k)) : perL l T loud = [] := by
  unfold perL; rw [if_neg]; intro c; exact h ((of_decide_eq_true c).2.2.2 k hk)
theorem perL_yes {l : List Nt} {T : List Tp} {loud : Int} (h1 : vvB l = true) (h2 : tvB T = true) (h3 : 1 ≤ loud ∧ loud ≤ 127) (h : ∀ k, k < l.length → kOk (atNt l k)) : perL l T loud = evL l T loud l.length := by
  unfold perL; rw [if_pos (show perB l T loud = true from decide_eq_true ⟨h1, h2, h3, h⟩)]
theorem evL_skip {l : List Nt} {T : List Tp} {loud : Int} {k : Nat} (h : (atNt l k).rest = true ∨ (atNt l k).tied = true) : evL l T loud (k + 1) = evL l T loud k := by rw [evL, if_pos h, List.append_nil]
theorem evL_new {l : List Nt} {T : List Tp} {loud : Int} {k : Nat} (h : ¬ ((atNt l k).rest = true ∨ (atNt l k).tied = true)) : evL l T loud (k + 1) = evL l T loud k ++ [evK l T loud k] := by rw [evL, if_neg h]
theorem stI_tied {l : List Nt} {q : Nat} (h : (atNt l q).tied = true) : stI l (q + 1) = stI l q := by rw [stI, if_pos h]
theorem stI_new {l : List Nt} {q : Nat} (h : (atNt l q).tied = false) : stI l (q + 1) = q + 1 := by rw [stI, if_neg (by rw [h]; simp)]
theorem kOk_rest {x : Nt} (h : x.rest = true) : kOk x := fun c => by rw [h] at c; cases c
theorem hid_snoc2 {P : Nat → Prop} {k : Nat} (h : Hid (∀ j, j < k → P j)) (hk : P k) : Hid (∀ j, j < k + 1 → P j) := hid_snoc h hk
end Go.Proofs.Ytaieamobjbckdaa
