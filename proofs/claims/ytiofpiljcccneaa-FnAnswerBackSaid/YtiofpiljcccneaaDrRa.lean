/- A voice, drawn for the laws of answers; ShiftVoice in value form. -/
import Derived.Test.YtiofpiljcccneaaDrV
import Derived.Test.YtiofpiljcccneaaRa
import Derived.Test.YtiofpiljcccneaaSmV
import Derived.Test.YtiofpiljcccneaaAlive
namespace Go.Proofs.Ytiofpiljcccneaa
set_option linter.unusedSimpArgs false
set_option linter.unusedVariables false
open Go.RowKit

def DrRa (w : World) (e : Ending) (w' : World) : Prop := ∃ (A : Option Addr) (cap : Nat) (l : List Nt), e = .returned (.slice A l.length cap) ∧ l.length ≤ cap ∧ cap ≤ maxLen ∧ l.length ≤ 70 ∧ RowNt w' w'.heap.size A l ∧ Below w.heap.size w w'
set_option maxHeartbeats 4000000 in
theorem DrawRealAnswer_any (w : World) (A : Option Addr) (len cap : Nat) (h : Cod w A len cap) : Calls Try.prog 14 #[.slice A len cap] w (DrRa w) := by
  go_enter Try.func14, Try.ntmps14
  go_wp2_with fail
  refine (open_eq _ A len cap h.lc h.cm).mono ?_
  rintro e w1 ⟨rfl, rfl⟩
  have r1 := open_ok w A len cap w.heap.size (Nat.le_refl _) h.bt
  have k1 : Onb w.heap.size w (w.alloc (.cells #[.slice A (min len 2000) cap, .int .i64 0] 92)) := Onb.of_bel (bel_al (bel_refl _) _)
  go_wp2_with fail
  refine (voice_any _ _ _ _ _ _ _ _ r1 (by omega)).mono ?_
  rintro e w2 ⟨v, l, rfl, l7, own2, o2, p2, hp2, r2⟩
  obtain ⟨A2, c2, rfl, lc, cm, hr, _⟩ := own_rowNt own2
  have b2 := (k1.trans o2).below (Nat.le_refl _) (Nat.le_refl _)
  go_wp2
  go_ret
  exact ⟨A2, c2, l, rfl, lc, cm, l7, hr, b2⟩
theorem sh_val {l L : List Nt} {st ha : Int} {B : Bool} (hL : shL l st ha = L) (hB : shB l st ha = B) (A : Option Addr) (n c : Nat) (w : World) (hn : l.length = n) (hm : n ≤ 2000000) (h : RowNt w w.heap.size A l) :
    Calls Try.prog 18 #[.slice A n c, .agg #[.int .i64 st, .int .i64 ha]] w (ShR w L B) := by
  refine (shv_any _ _ _ _ _ _ _ hn hm h).mono ?_
  intro e1 w1 h1
  have h2 := shR_of h1
  rw [hL, hB] at h2
  exact h2
theorem ssh_val {l L : List Nt} {st ha : Int} {B : Bool} (hL : shL l st ha = L) (hB : shB l st ha = B) (A : Option Addr) (n c : Nat) (w : World) (hn : l.length = n) (hm : n ≤ 2000000) (h : RowNt w w.heap.size A l) :
    Calls Try.prog 43 #[.slice A n c, .agg #[.int .i64 st, .int .i64 ha]] w (ShR w L B) := by
  refine (sshv_any _ _ _ _ _ _ _ hn hm h).mono ?_
  intro e1 w1 h1
  have h2 := shR_of h1
  rw [hL, hB] at h2
  exact h2
end Go.Proofs.Ytiofpiljcccneaa
