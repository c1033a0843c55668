/- TemposValid, of the program and of the reference: for every slice. -/
import Derived.Test.YtaieamobjbckdaaRowTp
import Derived.Test.YtaieamobjbckdaaHidn
namespace Go.Proofs.Ytaieamobjbckdaa
set_option linter.unusedSimpArgs false
set_option linter.unusedVariables false
open Go.RowKit

theorem quiet_left {P : Program} {f : FuncId} {args : Array Value} {w : World} {n : Nat} {v : Value}
    (h : Calls P f args (w.drewN n) fun e w' => e = .returned v ∧ w.drewN n = w') : Calls P f args (w.drewN n) fun e w'' => e = .returned v ∧ ∃ m, w'' = w.drewN m :=
  h.mono fun _ _ ⟨he, hm⟩ => ⟨he, n, hm.symm⟩
/-- the test of tempo number k -/
def tvOk (l : List Tp) (k : Nat) : Prop := 100 ≤ (atTp l k).micros ∧ (atTp l k).micros ≤ 100000 ∧ (atTp l k).tick ≤ 50000 ∧ (0 < k → (atTp l (k - 1)).tick < (atTp l k).tick)
instance (l : List Tp) (k : Nat) : Decidable (tvOk l k) := by unfold tvOk; infer_instance
def tvB (l : List Tp) : Bool := decide (1 ≤ l.length ∧ l.length ≤ 8 ∧ (atTp l 0).tick = 0 ∧ ∀ k, k < l.length → tvOk l k)
theorem tvB_no {l : List Tp} (h : ¬ (1 ≤ l.length ∧ l.length ≤ 8 ∧ (atTp l 0).tick = 0)) : tvB l = false := by
  unfold tvB; apply decide_eq_false; rintro ⟨a, b, c, _⟩; exact h ⟨a, b, c⟩
theorem tvB_bad {l : List Tp} (k : Nat) (hk : k < l.length) (h : ¬ tvOk l k) : tvB l = false := by
  unfold tvB; apply decide_eq_false; rintro ⟨_, _, _, d⟩; exact h (d k hk)
theorem tvB_yes {l : List Tp} (h : 1 ≤ l.length ∧ l.length ≤ 8 ∧ (atTp l 0).tick = 0) (hk : ∀ k, k < l.length → tvOk l k) : tvB l = true := by
  unfold tvB; exact decide_eq_true ⟨h.1, h.2.1, h.2.2, hk⟩
def TvP (w : World) (l : List Tp) (e : Ending) (w' : World) : Prop := e = .returned (.bool (tvB l)) ∧ Below w.heap.size w w'

end Go.Proofs.Ytaieamobjbckdaa
