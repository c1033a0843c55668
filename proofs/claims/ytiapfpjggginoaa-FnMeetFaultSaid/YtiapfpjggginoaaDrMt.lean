/- Two voices, drawn for the law of MeetTicks. -/
import Derived.Test.YtiapfpjggginoaaDrV
import Derived.Test.YtiapfpjggginoaaBa
namespace Go.Proofs.Ytiapfpjggginoaa
set_option linter.unusedSimpArgs false
set_option linter.unusedVariables false
open Go.RowKit

def Dr2 (w : World) (e : Ending) (w' : World) : Prop := ∃ (A : Option Addr) (c : Nat) (l : List Nt) (A' : Option Addr) (c' : Nat) (l' : List Nt), e = .returned (.tuple #[.slice A l.length c, .slice A' l'.length c']) ∧ l.length ≤ 70 ∧ l'.length ≤ 70 ∧ RowNt w' w'.heap.size A l ∧ RowNt w' w'.heap.size A' l' ∧ Below w.heap.size w w'
set_option maxHeartbeats 4000000 in
theorem DrawMeetTicks_any (w : World) (A : Option Addr) (len cap : Nat) (h : Cod w A len cap) : Calls Try.prog 19 #[.slice A len cap] w (Dr2 w) := by
  go_enter Try.func19, Try.ntmps19
  go_wp2_with fail
  refine (open_eq _ A len cap h.lc h.cm).mono ?_
  rintro e w1 ⟨rfl, rfl⟩
  have r1 := h.rd (bel_refl w)
  have k1 : Onb w.heap.size w (w.alloc (.cells #[.slice A (min len 2000) cap, .int .i64 0] 86)) := Onb.of_bel (bel_al (bel_refl _) _)
  have hg1 := r1.gl
  have hs1 : (w.alloc (.cells #[.slice A (min len 2000) cap, .int .i64 0] 86)).heap.size = w.heap.size + 1 := by simp
  generalize hW1 : w.alloc (.cells #[.slice A (min len 2000) cap, .int .i64 0] 86) = w1 at *
  generalize hgg : w.heap.size = g at *
  clear hW1
  generalize min len 2000 = len' at *
  go_wp2_with fail
  refine (voice_any _ _ _ _ _ _ _ _ r1 (by omega)).mono ?_
  rintro e w2 ⟨vv, l, rfl, l7, own2, o2, p2, hp2, r2⟩
  have k2 := k1.trans o2
  have hs2 := o2.size
  go_wp2_with fail
  refine (voice_any _ _ _ _ _ _ _ _ r2 (by omega)).mono ?_
  rintro e w3 ⟨vv3, l3, rfl, l73, own3, o3, p3, hp3, r3⟩
  have k3 := k2.trans o3
  have own2' := own_onb own2 o3 (by omega)
  obtain ⟨A2, c2, rfl, lc, cm, q2, _⟩ := own_rowNt own2'
  obtain ⟨A3, c3, rfl, lc3, cm3, q3, _⟩ := own_rowNt own3
  go_wp2_with fail
  exact bodyPost_ret (v := .tuple #[.slice A2 l.length c2, .slice A3 l3.length c3]) (by simp [results, Try.results19, go_sem]) rfl ⟨A2, c2, l, A3, c3, l3, rfl, l7, l73, q2, q3, k3.below (by omega) (by omega)⟩
end Go.Proofs.Ytiapfpjggginoaa
