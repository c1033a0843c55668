/- The tones of a key within bounds: plain. They ascend; one key after the other they are the same; wider bounds have more lines. -/
import Derived.Test.YtdmidimjbhkjoaaLpP
namespace Go.Proofs.Ytdmidimjbhkjoaa
set_option linter.unusedSimpArgs false
set_option linter.unusedVariables false
open Go.RowKit

def pkk (f : Int) (k : Nat) : Int := 12 * ((k : Int) / 7) + shI ((k : Int) % 7) + alI f ((k : Int) % 7)
theorem ky_kp {f : Int} {k : Nat} (hk : k < 63) : kyP (kpP f k) = pkk f k := by
  have b := alI_bd f ((k : Int) % 7)
  unfold kyP pkI kpP pkk
  simp only
  rw [if_pos (by unfold pvB; exact decide_eq_true (by omega))]
theorem pkk_s (f : Int) (k : Nat) : pkk f k < pkk f (k + 1) := by
  unfold pkk
  have e0 : ordI 0 = 1 := rfl
  have e1 : ordI 1 = 3 := rfl
  have e2 : ordI 2 = 5 := rfl
  have e3 : ordI 3 = 0 := rfl
  have e4 : ordI 4 = 2 := rfl
  have e5 : ordI 5 = 4 := rfl
  have e6 : ordI 6 = 6 := rfl
  have s0 : shI 0 = 0 := rfl
  have s1 : shI 1 = 2 := rfl
  have s2 : shI 2 = 4 := rfl
  have s3 : shI 3 = 5 := rfl
  have s4 : shI 4 = 7 := rfl
  have s5 : shI 5 = 9 := rfl
  have s6 : shI 6 = 11 := rfl
  rcases (show (k : Int) % 7 = 0 ∨ (k : Int) % 7 = 1 ∨ (k : Int) % 7 = 2 ∨ (k : Int) % 7 = 3 ∨ (k : Int) % 7 = 4 ∨ (k : Int) % 7 = 5 ∨ (k : Int) % 7 = 6 from by omega) with e | e | e | e | e | e | e
  · rw [e, show ((k + 1 : Nat) : Int) % 7 = 1 from by omega, show ((k + 1 : Nat) : Int) / 7 = (k : Int) / 7 from by omega]
    unfold alI; rw [e0, e1, s0, s1]; split <;> split <;> (try split) <;> (try split) <;> omega
  · rw [e, show ((k + 1 : Nat) : Int) % 7 = 2 from by omega, show ((k + 1 : Nat) : Int) / 7 = (k : Int) / 7 from by omega]
    unfold alI; rw [e1, e2, s1, s2]; split <;> split <;> (try split) <;> (try split) <;> omega
  · rw [e, show ((k + 1 : Nat) : Int) % 7 = 3 from by omega, show ((k + 1 : Nat) : Int) / 7 = (k : Int) / 7 from by omega]
    unfold alI; rw [e2, e3, s2, s3]; split <;> split <;> (try split) <;> (try split) <;> omega
  · rw [e, show ((k + 1 : Nat) : Int) % 7 = 4 from by omega, show ((k + 1 : Nat) : Int) / 7 = (k : Int) / 7 from by omega]
    unfold alI; rw [e3, e4, s3, s4]; split <;> split <;> (try split) <;> (try split) <;> omega
  · rw [e, show ((k + 1 : Nat) : Int) % 7 = 5 from by omega, show ((k + 1 : Nat) : Int) / 7 = (k : Int) / 7 from by omega]
    unfold alI; rw [e4, e5, s4, s5]; split <;> split <;> (try split) <;> (try split) <;> omega
  · rw [e, show ((k + 1 : Nat) : Int) % 7 = 6 from by omega, show ((k + 1 : Nat) : Int) / 7 = (k : Int) / 7 from by omega]
    unfold alI; rw [e5, e6, s5, s6]; split <;> split <;> (try split) <;> (try split) <;> omega
  · rw [e, show ((k + 1 : Nat) : Int) % 7 = 0 from by omega, show ((k + 1 : Nat) : Int) / 7 = (k : Int) / 7 + 1 from by omega]
    unfold alI; rw [e6, e0, s6, s0]; split <;> split <;> (try split) <;> (try split) <;> omega
theorem pkk_lt (f : Int) (i : Nat) : ∀ j : Nat, i < j → pkk f i < pkk f j
  | 0, h => by omega
  | j + 1, h => by
    have s := pkk_s f j
    by_cases e : i = j
    · subst e; exact s
    · have := pkk_lt f i j (by omega); omega
def inB (lo hi x : Int) : Prop := lo ≤ x ∧ x ≤ hi
instance (lo hi x : Int) : Decidable (inB lo hi x) := by unfold inB; infer_instance
/-- the tones of the first k places with keys within bounds -/
def tnsK (f lo hi : Int) : Nat → List Pi
  | 0 => []
  | k + 1 => if inB lo hi (kyP (kpP f k)) then tnsK f lo hi k ++ [kpP f k] else tnsK f lo hi k
def tns (f lo hi : Int) : List Pi := tnsK f lo hi 63
theorem tnsK_len (f lo hi : Int) : ∀ k, (tnsK f lo hi k).length ≤ k
  | 0 => Nat.le_refl _
  | k + 1 => by
    have := tnsK_len f lo hi k
    unfold tnsK
    split
    · rw [List.length_append, List.length_singleton]; omega
    · omega
theorem tns_len (f lo hi : Int) : (tns f lo hi).length ≤ 63 := tnsK_len f lo hi 63
theorem tnsK_mem {f lo hi : Int} {p : Pi} : ∀ k, p ∈ tnsK f lo hi k → ∃ i, i < k ∧ p = kpP f i ∧ inB lo hi (kyP p)
  | 0, h => by cases h
  | k + 1, h => by
    unfold tnsK at h
    split at h
    · rcases List.mem_append.1 h with h | h
      · obtain ⟨i, a, b⟩ := tnsK_mem k h
        exact ⟨i, by omega, b⟩
      · have e : p = kpP f k := by simpa using h
        subst e
        exact ⟨k, by omega, rfl, by assumption⟩
    · obtain ⟨i, a, b⟩ := tnsK_mem k h
      exact ⟨i, by omega, b⟩
theorem tns_mem {f lo hi : Int} {p : Pi} (h : p ∈ tns f lo hi) : lo ≤ kyP p ∧ kyP p ≤ hi := by
  obtain ⟨_, _, _, b⟩ := tnsK_mem 63 h
  exact b
theorem tnsK_sorted (f lo hi : Int) : ∀ k, k ≤ 63 → (tnsK f lo hi k).Pairwise (fun a b => kyP a < kyP b)
  | 0, _ => List.Pairwise.nil
  | k + 1, hk => by
    have ih := tnsK_sorted f lo hi k (by omega)
    unfold tnsK
    split
    · refine List.pairwise_append.2 ⟨ih, List.pairwise_singleton _ _, fun a ha b hb => ?_⟩
      have e : b = kpP f k := by simpa using hb
      subst e
      obtain ⟨i, hi, rfl, _⟩ := tnsK_mem k ha
      rw [ky_kp (by omega), ky_kp (by omega)]
      exact pkk_lt f i k hi
    · exact ih
theorem tns_sorted (f lo hi : Int) : (tns f lo hi).Pairwise (fun a b => kyP a < kyP b) := tnsK_sorted f lo hi 63 (Nat.le_refl _)
/-- the tones of the first k places with this key -/
def eqK (f h : Int) : Nat → List Pi
  | 0 => []
  | k + 1 => if kyP (kpP f k) = h then eqK f h k ++ [kpP f k] else eqK f h k
theorem eqK_nil {f h : Int} : ∀ k, (∀ i : Nat, i < k → kyP (kpP f i) ≠ h) → eqK f h k = []
  | 0, _ => rfl
  | k + 1, hh => by
    unfold eqK
    rw [if_neg (hh k (by omega))]
    exact eqK_nil k (fun i hi => hh i (by omega))
theorem eqK_len {f h : Int} : ∀ k, (eqK f h k).length ≤ k
  | 0 => Nat.le_refl _
  | k + 1 => by
    have := eqK_len (f := f) (h := h) k
    unfold eqK
    split
    · rw [List.length_append, List.length_singleton]; omega
    · omega
theorem tnsK_next {f lo h : Int} (hl : lo ≤ h) : ∀ k, k ≤ 63 → tnsK f lo h k = tnsK f lo (h - 1) k ++ eqK f h k
  | 0, _ => rfl
  | k + 1, hk => by
    have ih := tnsK_next (f := f) hl k (by omega)
    unfold tnsK eqK
    generalize hK : kyP (kpP f k) = K
    by_cases h1 : K = h
    · rw [if_pos (show inB lo h K from ⟨by omega, by omega⟩), if_neg (show ¬ inB lo (h - 1) K from fun z => by have := z.2; omega), if_pos h1, ih, List.append_assoc]
    · rw [if_neg h1]
      by_cases h2 : lo ≤ K ∧ K ≤ h - 1
      · rw [if_pos (show inB lo h K from ⟨by omega, by omega⟩), if_pos (show inB lo (h - 1) K from h2), ih]
        have e : eqK f h k = [] := eqK_nil k (fun i hi => by
          have := pkk_lt f i k hi
          rw [← ky_kp (by omega), ← ky_kp (by omega)] at this
          omega)
        rw [e, List.append_nil, List.append_nil]
      · rw [if_neg (show ¬ inB lo h K from fun z => by have := z.1; have := z.2; omega), if_neg (show ¬ inB lo (h - 1) K from h2), ih]
theorem tns_next {f lo h : Int} (hl : lo ≤ h) : tns f lo h = tns f lo (h - 1) ++ eqK f h 63 := tnsK_next hl 63 (Nat.le_refl _)
theorem tnsK_none {f lo hi : Int} (h : hi < lo) : ∀ k, tnsK f lo hi k = []
  | 0 => rfl
  | k + 1 => by
    unfold tnsK
    rw [if_neg (show ¬ inB lo hi _ from fun z => by have := z.1; have := z.2; omega)]
    exact tnsK_none h k
theorem tns_none {f lo hi : Int} (h : hi < lo) : tns f lo hi = [] := tnsK_none h 63

/-- more tones, more lines -/
theorem afD_mono {f : Int} {c T U : List Pi} (hT : (T ++ U).length ≤ 63) : ∀ (m : Nat) (p : Pi), afD f c T m p ≤ afD f c (T ++ U) m p
  | 0, p => Int.le_refl _
  | m + 1, p => by
    have hT' : T.length ≤ 63 := by rw [List.length_append] at hT; omega
    rw [afD, afD, sumK_all, sumK_all, sumL_append]
    have a := sumL_le (g := fun q => if stP c (c.length - 1 - m) p q = 0 then (if tnP f c (c.length - 1 - m) q = 0 then afD f c T m q else 0) else 0) (g' := fun q => if stP c (c.length - 1 - m) p q = 0 then (if tnP f c (c.length - 1 - m) q = 0 then afD f c (T ++ U) m q else 0) else 0) (fun q => by
      have ih := afD_mono (f := f) (c := c) hT m q
      show (if stP c (c.length - 1 - m) p q = 0 then (if tnP f c (c.length - 1 - m) q = 0 then afD f c T m q else 0) else 0) ≤ (if stP c (c.length - 1 - m) p q = 0 then (if tnP f c (c.length - 1 - m) q = 0 then afD f c (T ++ U) m q else 0) else 0)
      split
      · split
        · exact ih
        · exact Int.le_refl _
      · exact Int.le_refl _) T
    have b := sumL_nn (g := fun q => if stP c (c.length - 1 - m) p q = 0 then (if tnP f c (c.length - 1 - m) q = 0 then afD f c (T ++ U) m q else 0) else 0) (fun q => by
      have ih := (afD_bd (f := f) (c := c) hT m q).1
      show 0 ≤ (if stP c (c.length - 1 - m) p q = 0 then (if tnP f c (c.length - 1 - m) q = 0 then afD f c (T ++ U) m q else 0) else 0)
      split
      · split
        · exact ih
        · exact Int.le_refl _
      · exact Int.le_refl _) U
    omega
theorem totI_mono {f : Int} {c T U : List Pi} (hT : (T ++ U).length ≤ 63) (hc : c.length ≤ 10) : totI f c T ≤ totI f c (T ++ U) := by
  unfold totI
  rw [sumK_all, sumK_all, sumL_append]
  have a := sumL_le (g := cnI f c T 0) (g' := cnI f c (T ++ U) 0) (fun q => by
    have := afD_mono (f := f) (c := c) hT (c.length - 1 - 0) q
    unfold cnI afI
    split
    · exact this
    · exact Int.le_refl _) T
  have b := sumL_nn (g := cnI f c (T ++ U) 0) (fun q => (cnI_bd hT hc 0 q).1) U
  omega
theorem totI_up {f : Int} {c : List Pi} {lo hi : Int} (h : lo ≤ hi) (hc : c.length ≤ 10) : totI f c (tns f lo (hi - 1)) ≤ totI f c (tns f lo hi) := by
  rw [tns_next h]
  exact totI_mono (by rw [← tns_next h]; exact tns_len _ _ _) hc
end Go.Proofs.Ytdmidimjbhkjoaa
