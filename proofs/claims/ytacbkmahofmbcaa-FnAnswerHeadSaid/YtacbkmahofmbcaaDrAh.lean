/- A key, a voice and a second one, drawn for the law of AnswerHead. -/
import Derived.Test.YtacbkmahofmbcaaDrTa
import Derived.Test.YtacbkmahofmbcaaSTa
namespace Go.Proofs.Ytacbkmahofmbcaa
set_option linter.unusedSimpArgs false
set_option linter.unusedVariables false
open Go.RowKit

def DrAh (w : World) (e : Ending) (w' : World) : Prop := ∃ (f : Int) (m : Bool) (A1 A2 : Option Addr) (c1 c2 : Nat) (l l' : List Nt), e = .returned (.tuple #[.int .i64 f, .bool m, .slice A1 l.length c1, .slice A2 l'.length c2]) ∧ l.length ≤ c1 ∧ c1 ≤ maxLen ∧ l'.length ≤ c2 ∧ c2 ≤ maxLen ∧ l.length ≤ 70 ∧ l'.length ≤ 70 ∧ RowNt w' w'.heap.size A1 l ∧ RowNt w' w'.heap.size A2 l' ∧ Below w.heap.size w w'
set_option maxHeartbeats 4000000 in
theorem DrawAnswerHead_any (w : World) (A : Option Addr) (len cap : Nat) (h : Cod w A len cap) : Calls Try.prog 15 #[.slice A len cap] w (DrAh w) := by
  have hl0 : (0 : Int) ≤ (len : Int) := by omega
  go_enter Try.func15, Try.ntmps15
  go_wp2_with fail
  refine (DrawTonalAnswer_any w A len cap h).mono ?_
  rintro e1 w1 ⟨f, m, A1, c1, l, hd, rfl, lc, cm, l7, hd0, hd1, hr, bw⟩
  have cm' := cm
  unfold maxLen at cm
  obtain ⟨L, hL⟩ : ∃ L, taL f m l hd = L := ⟨_, rfl⟩
  obtain ⟨B, hB⟩ : ∃ B, taB f m l hd = B := ⟨_, rfl⟩
  have hLn : L.length ≤ 60 := by rw [← hL]; exact (taL_len f m l hd).1
  have HL := Lib.hid hL
  have HB := Lib.hid hB
  clear hL hB
  go_wp2_with fail
  refine (sta_val HL.out HB.out _ _ _ _ rfl (by omega) hr).mono ?_
  rintro e2 w2 ⟨A2, c2, rfl, lc2, cm2, r2, o2, b2⟩
  replace hr := hr.below b2
  replace bw := bel_tr bw b2
  clear b2 o2
  have R1 : ∀ W : World, w2 = W → RowNt W W.heap.size A1 l ∧ RowNt W W.heap.size A2 L ∧ Below w.heap.size w W := fun W e => by subst e; exact ⟨hr, r2, bw⟩
  have HR := Lib.hid (R1 w2 rfl)
  clear R1 hr r2 bw
  cases B
  · go_wp2
    exact bodyPost_ret (v := .tuple #[.int .i64 f, .bool m, .slice A1 l.length c1, .slice A1 l.length c1]) (by simp [results, Try.results15, go_sem]) rfl ⟨f, m, A1, A1, c1, c1, l, l, rfl, lc, cm', lc, cm', l7, l7, HR.out.1, HR.out.1, HR.out.2.2⟩
  · by_cases h4 : (len : Int) % 4 = 0
    · go_wp2
      exact bodyPost_ret (v := .tuple #[.int .i64 f, .bool m, .slice A1 l.length c1, .slice A1 l.length c1]) (by simp [results, Try.results15, go_sem]) rfl ⟨f, m, A1, A1, c1, c1, l, l, rfl, lc, cm', lc, cm', l7, l7, HR.out.1, HR.out.1, HR.out.2.2⟩
    · have h5 : ((len : Int) % 4 == 0) = false := by simpa using h4
      go_wp2
      exact bodyPost_ret (v := .tuple #[.int .i64 f, .bool m, .slice A1 l.length c1, .slice A2 L.length c2]) (by simp [results, Try.results15, go_sem]) rfl ⟨f, m, A1, A2, c1, c2, l, L, rfl, lc, cm', lc2, cm2, l7, by omega, HR.out.1, HR.out.2.1, HR.out.2.2⟩
end Go.Proofs.Ytacbkmahofmbcaa
