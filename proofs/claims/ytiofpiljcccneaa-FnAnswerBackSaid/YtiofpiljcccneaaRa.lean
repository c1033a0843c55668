/- Real answers: contracts of both. -/
import Derived.Test.YtiofpiljcccneaaSh
import Derived.Test.YtiofpiljcccneaaSSh
import Derived.Test.YtiofpiljcccneaaMkNt
import Derived.Test.YtiofpiljcccneaaNtE
namespace Go.Proofs.Ytiofpiljcccneaa
set_option linter.unusedSimpArgs false
set_option linter.unusedVariables false
open Go.RowKit

def ShR (w : World) (L : List Nt) (B : Bool) (e : Ending) (w' : World) : Prop :=
  ∃ A c, e = .returned (.tuple #[.slice A L.length c, .bool B]) ∧ L.length ≤ c ∧ c ≤ maxLen ∧ RowNt w' w'.heap.size A L ∧ OwnNt w' w.heap.size A L.length ∧ Below w.heap.size w w'
theorem shR_of {w : World} {l : List Nt} {st ha : Int} {e : Ending} {w' : World} (h : Sh w l st ha e w') : ShR w (shL l st ha) (shB l st ha) e w' := by
  obtain ⟨v, rfl, h, b⟩ := h
  obtain ⟨A, c, rfl, h1, h2, h3, h4⟩ := own_rowNt h
  exact ⟨A, c, rfl, h1, h2, h3, h4, b⟩
theorem ra_val {l L : List Nt} {B : Bool} (hL : shL l 4 7 = L) (hB : shB l 4 7 = B) (A : Option Addr) (n c : Nat) (w : World) (hn : l.length = n) (hm : n ≤ 2000000) (h : RowNt w w.heap.size A l) :
    Calls Try.prog 15 #[.slice A n c] w (ShR w L B) := by
  go_enter Try.func15, Try.ntmps15
  go_wp2_with fail
  refine (shv_any _ _ _ _ _ _ _ hn hm h).mono ?_
  intro e1 w1 h1
  obtain ⟨A1, c1, rfl, h1, h2, h3, h4, b1⟩ := shR_of h1
  rw [hL, hB] at *
  go_wp2
  exact bodyPost_ret (v := .tuple #[.slice A1 L.length c1, .bool B]) (by simp [results, Try.results15, go_sem]) rfl ⟨A1, c1, rfl, h1, h2, h3, h4, b1⟩
theorem sra_val {l L : List Nt} {B : Bool} (hL : shL l 4 7 = L) (hB : shB l 4 7 = B) (A : Option Addr) (n c : Nat) (w : World) (hn : l.length = n) (hm : n ≤ 2000000) (h : RowNt w w.heap.size A l) :
    Calls Try.prog 16 #[.slice A n c] w (ShR w L B) := by
  go_enter Try.func16, Try.ntmps16
  go_wp2_with fail
  refine (sshv_any _ _ _ _ _ _ _ hn hm h).mono ?_
  intro e1 w1 h1
  obtain ⟨A1, c1, rfl, h1, h2, h3, h4, b1⟩ := shR_of h1
  rw [hL, hB] at *
  go_wp2
  exact bodyPost_ret (v := .tuple #[.slice A1 L.length c1, .bool B]) (by simp [results, Try.results16, go_sem]) rfl ⟨A1, c1, rfl, h1, h2, h3, h4, b1⟩
end Go.Proofs.Ytiofpiljcccneaa
