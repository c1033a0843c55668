/- What the law of CanonDelays wants to know: plain. -/
import Derived.Test.YtiapfpjggginoaaCdL
namespace Go.Proofs.Ytiapfpjggginoaa
set_option linter.unusedSimpArgs false
set_option linter.unusedVariables false
open Go.RowKit

theorem cdK_mem {l : List Nt} {g st ha x : Int} : ∀ {n : Nat}, x ∈ cdK l g st ha n → ∃ i : Nat, i < n ∧ x = g * ((i : Int) + 1) ∧ cdB l st ha x = true
  | 0, h => by cases h
  | n + 1, h => by
    unfold cdK at h
    rcases List.mem_append.1 h with h | h
    · obtain ⟨i, hi, e⟩ := cdK_mem h
      exact ⟨i, by omega, e⟩
    · by_cases c : cdB l st ha (g * ((n : Int) + 1)) = true
      · rw [if_pos c, List.mem_singleton] at h
        subst h
        exact ⟨n, by omega, rfl, c⟩
      · rw [if_neg c] at h; cases h
theorem cdK_srt {l : List Nt} {g st ha : Int} (hg : 1 ≤ g) : ∀ n, (cdK l g st ha n).Pairwise (· < ·)
  | 0 => List.Pairwise.nil
  | n + 1 => by
    unfold cdK
    refine List.pairwise_append.2 ⟨cdK_srt hg n, by split <;> simp, fun x hx y hy => ?_⟩
    obtain ⟨i, hi, e, _⟩ := cdK_mem hx
    by_cases c : cdB l st ha (g * ((n : Int) + 1)) = true
    · rw [if_pos c, List.mem_singleton] at hy
      rw [e, hy]
      exact Int.mul_lt_mul_of_pos_left (by omega) (by omega)
    · rw [if_neg c] at hy; cases hy
structure CdV (l : List Nt) (g st ha x : Int) : Prop where
  hv : vvB l = true
  g1 : 1 ≤ g
  g2 : g ≤ 768
  x1 : 1 ≤ x
  x2 : x ≤ 768
  xT : x < tsum l l.length
  md : Int.tmod x g = 0
  co : coB l x st ha = true
  mf : mfI l (coL l x st ha) (-1)
theorem cd_at {l : List Nt} {g st ha : Int} {L : List Int} (hL : cdL l g st ha = L) {k : Nat} (hk : k < L.length) : CdV l g st ha (atIn L k) := by
  have hm := at_mem L k hk
  unfold cdL at hL
  by_cases h : vvB l = true ∧ 1 ≤ g ∧ g ≤ 768
  · rw [if_pos h] at hL
    rw [← hL] at hm
    rw [hL] at hm
    have hm2 : atIn L k ∈ cdK l g st ha (cdJ (tsum l l.length) g) := by rw [hL]; exact hm
    obtain ⟨i, hi, e, hb⟩ := cdK_mem hm2
    obtain ⟨h1, h2⟩ := (cd_in h.2.1 i).2 hi
    rw [← e] at h1 h2
    unfold cdB at hb
    rw [Bool.and_eq_true, decide_eq_true_eq] at hb
    have hp : 0 < g * ((i : Int) + 1) := Int.mul_pos (by omega) (by omega)
    refine ⟨h.1, h.2.1, h.2.2, by omega, h2, h1, by rw [e]; exact Int.mul_tmod_right _ _, hb.1, ?_⟩
    have := mfF_ok l (coL l (atIn L k) st ha)
    rw [hb.2] at this; exact this
  · rw [if_neg h] at hL
    rw [← hL] at hk; simp at hk
theorem cd_lt {l : List Nt} {g st ha : Int} {L : List Int} (hL : cdL l g st ha = L) {k : Nat} (hk : k + 1 < L.length) : atIn L k < atIn L (k + 1) := by
  have hg := (cd_at hL (k := 0) (by omega)).g1
  have hs : L.Pairwise (· < ·) := by
    rw [← hL]; unfold cdL
    split
    · exact cdK_srt hg _
    · exact List.Pairwise.nil
  have h1 := List.pairwise_iff_getElem.1 hs k (k + 1) (by omega) hk (by omega)
  unfold atIn
  rw [List.getD_eq_getElem?_getD, List.getD_eq_getElem?_getD, List.getElem?_eq_getElem (by omega), List.getElem?_eq_getElem hk]
  exact h1
end Go.Proofs.Ytiapfpjggginoaa
