/- The faults of parts: what their law says, plain. -/
import Derived.Test.YtpjakgnghpapmaaPfV
namespace Go.Proofs.Ytpjakgnghpapmaa
set_option linter.unusedSimpArgs false
set_option linter.unusedVariables false
open Go.RowKit

theorem sfK_rng (ll : List (List Pi)) (k : Nat) : 0 ≤ sfK ll k ∧ sfK ll k ≤ 7 := by
  have := stkF_bd (atPP ll k)
  exact ⟨this.1, by unfold sfK; omega⟩
theorem mfK_rng (ll : List (List Pi)) (k : Nat) : 0 ≤ mfK ll k ∧ mfK ll k ≤ 7 := by
  unfold mfK
  split
  · omega
  · exact mvF_bd _ _
theorem onF_mem {k : Nat} {x : Int} {t : Fa} (h : t ∈ oneF k x) (hx : 0 ≤ x ∧ x ≤ 7) : t.pos = (k : Int) ∧ 1 ≤ t.code ∧ t.code ≤ 7 := by
  unfold oneF at h
  split at h
  · cases h
  · rename_i hne
    rw [List.mem_singleton] at h
    subst h
    exact ⟨rfl, by simp only; omega, hx.2⟩
theorem pfK_mem {ll : List (List Pi)} : ∀ k, ∀ t ∈ pfK ll k, t.pos < (k : Int) ∧ 1 ≤ t.code ∧ t.code ≤ 7
  | 0, t, h => by cases h
  | k + 1, t, h => by
    rw [pfK, List.mem_append, List.mem_append] at h
    rcases h with (h | h) | h
    · have := pfK_mem k t h
      exact ⟨by omega, this.2⟩
    · have := onF_mem h (sfK_rng ll k)
      exact ⟨by omega, this.2⟩
    · have := onF_mem h (mfK_rng ll k)
      exact ⟨by omega, this.2⟩
theorem onF_pw (k : Nat) (x : Int) : (oneF k x).Pairwise (fun a b => a.pos ≤ b.pos) := by
  unfold oneF; split
  · exact List.Pairwise.nil
  · exact List.pairwise_singleton _ _
theorem pfK_pw {ll : List (List Pi)} : ∀ k, (pfK ll k).Pairwise (fun a b => a.pos ≤ b.pos)
  | 0 => List.Pairwise.nil
  | k + 1 => by
    rw [pfK, List.pairwise_append, List.pairwise_append]
    refine ⟨⟨pfK_pw k, onF_pw _ _, fun a ha b hb => ?_⟩, onF_pw _ _, fun a ha b hb => ?_⟩
    · have h1 := (pfK_mem k a ha).1
      have h2 := (onF_mem hb (sfK_rng ll k)).1
      omega
    · have h2 := (onF_mem hb (mfK_rng ll k)).1
      rw [List.mem_append] at ha
      rcases ha with ha | ha
      · have h1 := (pfK_mem k a ha).1
        omega
      · have h1 := (onF_mem ha (sfK_rng ll k)).1
        omega
theorem pfL_codes {ll : List (List Pi)} {M : List Fa} (h : pfL ll = M) (k : Nat) (hk : k < M.length) : 1 ≤ (atFa M k).code ∧ (atFa M k).code ≤ 7 := by
  subst h
  have hm : atFa (pfL ll) k ∈ pfL ll := by
    unfold atFa; rw [List.getD_eq_getElem?_getD, List.getElem?_eq_getElem hk]; exact List.getElem_mem hk
  unfold pfL at hm hk ⊢
  by_cases hb : ll.length ≤ 8
  · rw [if_pos hb] at hm ⊢
    exact (pfK_mem _ _ hm).2
  · rw [if_neg hb] at hk; simp at hk
theorem pfL_up {ll : List (List Pi)} {M : List Fa} (h : pfL ll = M) (k : Nat) (hk : k + 1 < M.length) : (atFa M k).pos ≤ (atFa M (k + 1)).pos := by
  subst h
  have hp : (pfL ll).Pairwise (fun a b => a.pos ≤ b.pos) := by
    unfold pfL
    by_cases hb : ll.length ≤ 8
    · rw [if_pos hb]; exact pfK_pw _
    · rw [if_neg hb]; exact List.Pairwise.nil
  have := List.pairwise_iff_getElem.1 hp k (k + 1) (by omega) hk (by omega)
  unfold atFa
  rw [List.getD_eq_getElem?_getD, List.getElem?_eq_getElem (by omega), List.getD_eq_getElem?_getD, List.getElem?_eq_getElem hk]
  exact this
theorem pfK_lenS (ll : List (List Pi)) (k : Nat) : (pfK ll (k + 1)).length = (pfK ll k).length + (oneF k (sfK ll k)).length + (oneF k (mfK ll k)).length := by
  rw [pfK, List.length_append, List.length_append]
theorem onF_0 (k : Nat) : (oneF k 0).length = 0 := rfl
theorem onF_1 {k : Nat} {x : Int} (h : x ≠ 0) : (oneF k x).length = 1 := by rw [oneF_n h]; rfl
end Go.Proofs.Ytpjakgnghpapmaa
