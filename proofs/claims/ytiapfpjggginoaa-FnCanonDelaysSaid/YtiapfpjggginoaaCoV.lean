/- Canons are valid voices. -/
import Derived.Test.YtiapfpjggginoaaIc
import Derived.Deep.RegionHeld3
import Derived.Deep.DeepCutAuto
import Derived.Test.YtiapfpjggginoaaSmV
namespace Go.Proofs.Ytiapfpjggginoaa
set_option linter.unusedSimpArgs false
set_option linter.unusedVariables false
open Go.RowKit

theorem co_vv {l : List Nt} {d st ha : Int} (h : coB l d st ha = true) : vvB (coL l d st ha) = true := by
  obtain ⟨h1, h2, h3, h4⟩ := co_facts h
  obtain ⟨f1, f2, f3, f4⟩ := sh_facts h1
  have hv := vv_mv f1 f3
  have hl := mvK_len st ha l l.length
  rw [h4]
  generalize mvK st ha l l.length = M at *
  refine vvB_yes (by rw [List.length_cons]; omega) fun k hk => ?_
  cases k with
  | zero =>
    refine ⟨?_, fun ht => by cases ht⟩
    rw [at_cons0]
    unfold nvB
    simp
    omega
  | succ k =>
    rw [List.length_cons] at hk
    obtain ⟨a1, a2⟩ := (vvB_of hv).ok k (by omega)
    refine ⟨by rw [at_consS]; exact a1, fun ht => ?_⟩
    rw [at_consS] at ht
    obtain ⟨b1, b2⟩ := a2 ht
    rw [List.length_cons, at_consS, at_consS]
    exact ⟨by omega, b2⟩
theorem co_tail {l L : List Nt} {d st ha : Int} (h : coB l d st ha = true) (hL : coL l d st ha = L) : L.length = (shL l st ha).length + 1 ∧ L.drop 1 = shL l st ha ∧ atNt L 0 = ⟨true, 0, 0, 0, d, false⟩ ∧ (shL l st ha).length = l.length ∧ shB l st ha = true ∧ vvB L = true ∧ icP l L := by
  have hv := co_vv h
  rw [hL] at hv
  obtain ⟨h1, h2, h3, h4⟩ := co_facts h
  obtain ⟨f1, f2, f3, f4⟩ := sh_facts h1
  have e : L = ⟨true, 0, 0, 0, d, false⟩ :: shL l st ha := by rw [← hL, h4, f4]
  refine ⟨by rw [e, List.length_cons], by rw [e]; rfl, by rw [e]; rfl, by rw [f4, mvK_len], h1, hv, ⟨f1, hv, d, st, ha, h, hL⟩⟩
end Go.Proofs.Ytiapfpjggginoaa
