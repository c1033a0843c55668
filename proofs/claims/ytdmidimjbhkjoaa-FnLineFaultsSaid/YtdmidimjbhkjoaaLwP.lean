/- Faults of lines: what their laws say, plain. -/
import Derived.Test.YtdmidimjbhkjoaaLnL
import Derived.Test.YtdmidimjbhkjoaaLg
import Derived.Test.YtdmidimjbhkjoaaSLf
namespace Go.Proofs.Ytdmidimjbhkjoaa
set_option linter.unusedSimpArgs false
set_option linter.unusedVariables false
open Go.RowKit

theorem slg_valX {f : Int} {c l : List Pi} {B : Bool} (hB : lgB f c l = B) (A : Option Addr) (n c1 : Nat) (A' : Option Addr) (n' c2 : Nat) (w : World) (hn : c.length = n) (hm : n ≤ 2000000) (hn' : l.length = n') (hm' : n' ≤ 2000000) (hc : RowPi w w.heap.size A c) (h : RowPi w w.heap.size A' l) :
    Calls Try.prog 7 #[.int .i64 f, .slice A n c1, .slice A' n' c2] w fun e w' => e = .returned (.bool B) ∧ Below w.heap.size w w' := by
  have := slg_any f c l A n c1 A' n' c2 w hn hm hn' hm' hc h
  rw [hB] at this
  exact this
theorem lf_valX {f : Int} {c l : List Pi} {L : List Fa} (hL : lfL f c l = L) (A : Option Addr) (n c1 : Nat) (A' : Option Addr) (n' c2 : Nat) (w : World) (hn : c.length = n) (hm : n ≤ 2000000) (hn' : l.length = n') (hm' : n' ≤ 2000000) (hc : RowPi w w.heap.size A c) (h : RowPi w w.heap.size A' l) :
    Calls Try.prog 11 #[.int .i64 f, .slice A n c1, .slice A' n' c2] w (LfR w L) := by
  have h := (lf_any f c l A n c1 A' n' c2 w hn hm hn' hm' hc h).mono (fun _ _ h => lfR_of h)
  rw [hL] at h
  exact h
theorem slf_valX {f : Int} {c l : List Pi} {L : List Fa} (hL : lfL f c l = L) (A : Option Addr) (n c1 : Nat) (A' : Option Addr) (n' c2 : Nat) (w : World) (hn : c.length = n) (hm : n ≤ 2000000) (hn' : l.length = n') (hm' : n' ≤ 2000000) (hc : RowPi w w.heap.size A c) (h : RowPi w w.heap.size A' l) :
    Calls Try.prog 13 #[.int .i64 f, .slice A n c1, .slice A' n' c2] w (LfR w L) := by
  have h := (slf_any f c l A n c1 A' n' c2 w hn hm hn' hm' hc h).mono (fun _ _ h => lfR_of h)
  rw [hL] at h
  exact h
theorem tnK_rng (ik : Bool) (x y : Int) (z la : Bool) : 0 ≤ tnK ik x y z la ∧ tnK ik x y z la ≤ 7 := by
  unfold tnK; repeat (split <;> (try omega))
theorem stK_rng (x y x' y' : Int) : 0 ≤ stK x y x' y' ∧ stK x y x' y' ≤ 7 := by
  unfold stK; repeat (split <;> (try omega))
theorem tnK_zero {ik : Bool} {x y : Int} {z la : Bool} (h : tnK ik x y z la = 0) : ik = true ∧ 0 ≤ y - x ∧ y - x ≤ 16 := by
  unfold tnK at h
  cases ik
  · simp at h
  · by_cases h2 : 0 ≤ y - x ∧ y - x ≤ 16
    · exact ⟨rfl, h2⟩
    · rw [if_neg (by simp), if_pos h2] at h; omega
theorem oneF_mem {k : Nat} {x : Int} {t : Fa} (h : t ∈ oneF k x) (hx : 0 ≤ x ∧ x ≤ 7) : t.pos = (k : Int) ∧ 1 ≤ t.code ∧ t.code ≤ 7 := by
  unfold oneF at h
  split at h
  · cases h
  · rename_i hne
    rw [List.mem_singleton] at h
    subst h
    exact ⟨rfl, by simp only; omega, hx.2⟩
theorem sdF_rng (c l : List Pi) (k : Nat) : 0 ≤ sdF c l k ∧ sdF c l k ≤ 7 := by
  unfold sdF; split
  · omega
  · exact stK_rng _ _ _ _
theorem lfK_mem {f : Int} {c l : List Pi} : ∀ k, ∀ t ∈ lfK f c l k, t.pos < (k : Int) ∧ 1 ≤ t.code ∧ t.code ≤ 7
  | 0, t, h => by cases h
  | k + 1, t, h => by
    rw [lfK, List.mem_append, List.mem_append] at h
    rcases h with (h | h) | h
    · have := lfK_mem k t h
      exact ⟨by omega, this.2⟩
    · have := oneF_mem h (tnK_rng _ _ _ _ _)
      exact ⟨by omega, this.2⟩
    · have := oneF_mem h (sdF_rng c l k)
      exact ⟨by omega, this.2⟩
theorem oneF_pw (k : Nat) (x : Int) : (oneF k x).Pairwise (fun a b => a.pos ≤ b.pos) := by
  unfold oneF; split
  · exact List.Pairwise.nil
  · exact List.pairwise_singleton _ _
theorem lfK_pw {f : Int} {c l : List Pi} : ∀ k, (lfK f c l k).Pairwise (fun a b => a.pos ≤ b.pos)
  | 0 => List.Pairwise.nil
  | k + 1 => by
    rw [lfK, List.pairwise_append, List.pairwise_append]
    refine ⟨⟨lfK_pw k, oneF_pw _ _, fun a ha b hb => ?_⟩, oneF_pw _ _, fun a ha b hb => ?_⟩
    · have h1 := (lfK_mem k a ha).1
      have h2 := (oneF_mem hb (tnK_rng _ _ _ _ _)).1
      omega
    · have h2 := (oneF_mem hb (sdF_rng c l k)).1
      rw [List.mem_append] at ha
      rcases ha with ha | ha
      · have h1 := (lfK_mem k a ha).1
        omega
      · have h1 := (oneF_mem ha (tnK_rng _ _ _ _ _)).1
        omega
theorem lfL_codes {f : Int} {c l : List Pi} {M : List Fa} (h : lfL f c l = M) (k : Nat) (hk : k < M.length) : 1 ≤ (atFa M k).code ∧ (atFa M k).code ≤ 7 := by
  subst h
  have hm : atFa (lfL f c l) k ∈ lfL f c l := by
    unfold atFa; rw [List.getD_eq_getElem?_getD, List.getElem?_eq_getElem hk]; exact List.getElem_mem hk
  unfold lfL at hm hk ⊢
  by_cases hb : lfB f c l = true
  · rw [if_pos hb] at hm ⊢
    exact (lfK_mem _ _ hm).2
  · rw [if_neg hb] at hk; simp at hk
theorem lfL_up {f : Int} {c l : List Pi} {M : List Fa} (h : lfL f c l = M) (k : Nat) (hk : k + 1 < M.length) : (atFa M k).pos ≤ (atFa M (k + 1)).pos := by
  subst h
  have hp : (lfL f c l).Pairwise (fun a b => a.pos ≤ b.pos) := by
    unfold lfL
    by_cases hb : lfB f c l = true
    · rw [if_pos hb]; exact lfK_pw _
    · rw [if_neg hb]; exact List.Pairwise.nil
  have := List.pairwise_iff_getElem.1 hp k (k + 1) (by omega) hk (by omega)
  unfold atFa
  rw [List.getD_eq_getElem?_getD, List.getElem?_eq_getElem (by omega), List.getD_eq_getElem?_getD, List.getElem?_eq_getElem hk]
  exact this
theorem lfL_two {f : Int} {c l : List Pi} {M : List Fa} (h : lfL f c l = M) : M.length ≤ 2 * l.length := by
  subst h
  unfold lfL
  by_cases hb : lfB f c l = true
  · rw [if_pos hb]
    have a := lfK_len f c l c.length
    unfold lfB at hb
    simp only [Bool.and_eq_true] at hb
    have := (apB_of hb.2).1
    omega
  · rw [if_neg hb]; simp
theorem lgB_nil {f : Int} {c l : List Pi} (h : lgB f c l = true) : lfB f c l = true ∧ lfL f c l = [] := by
  by_cases hb : lfB f c l = true
  · rw [lgB_is hb] at h
    have : ((lfL f c l).length : Int) = 0 := by simpa using h
    exact ⟨hb, List.length_eq_zero_iff.1 (by omega)⟩
  · rw [lgB_no (by simpa using hb)] at h; cases h
theorem lfK_all {f : Int} {c l : List Pi} : ∀ m, lfK f c l m = [] → ∀ k, k < m → tnF f c l k = 0
  | 0, _, k, hk => absurd hk (by omega)
  | m + 1, h, k, hk => by
    rw [lfK, List.append_eq_nil_iff, List.append_eq_nil_iff] at h
    by_cases e : k = m
    · subst e
      have := h.1.2
      unfold oneF at this
      split at this
      · assumption
      · cases this
    · exact lfK_all m h.1.1 k (by omega)
theorem lg_facts {f : Int} {c l : List Pi} (h : lgB f c l = true) : l.length = c.length ∧ lfL f c l = [] ∧ ∀ k, k < l.length → ikT f (atPi l k) = true ∧ 0 ≤ kyP (atPi l k) - kyP (atPi c k) ∧ kyP (atPi l k) - kyP (atPi c k) ≤ 16 := by
  obtain ⟨hb, hn⟩ := lgB_nil h
  have hh := hb
  unfold lfB at hh
  simp only [Bool.and_eq_true] at hh
  have hl := (apB_of hh.2).1
  refine ⟨by omega, hn, fun k hk => ?_⟩
  have hn2 := hn
  unfold lfL at hn2
  rw [if_pos hb] at hn2
  exact tnK_zero (lfK_all _ hn2 k (by omega))
end Go.Proofs.Ytdmidimjbhkjoaa
