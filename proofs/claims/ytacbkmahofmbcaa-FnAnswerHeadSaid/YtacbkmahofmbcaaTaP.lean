/- Tonal answers: what their laws say, plain. -/
import Derived.Test.YtacbkmahofmbcaaTaC
import Derived.Test.YtacbkmahofmbcaaAnsP
import Derived.Test.YtacbkmahofmbcaaVts
import Derived.Test.YtacbkmahofmbcaaAh
namespace Go.Proofs.Ytacbkmahofmbcaa
set_option linter.unusedSimpArgs false
set_option linter.unusedVariables false
open Go.RowKit

theorem at_taK (f : Int) (m : Bool) (h : Int) (l : List Nt) : ∀ n k, k < n → atNt (taK f m h l n) k = mvN (taS f m h k (atNt l k)) (taH f m h k (atNt l k)) (atNt l k)
  | 0, k, h => absurd h (by omega)
  | n + 1, k, hk => by
    unfold taK
    by_cases e : k < n
    · rw [at_app_lt (by rw [taK_len]; exact e)]; exact at_taK f m h l n k e
    · obtain rfl : k = n := by omega
      have := @at_app_end (taK f m h l k) (mvN (taS f m h k (atNt l k)) (taH f m h k (atNt l k)) (atNt l k))
      rw [taK_len] at this
      exact this
theorem deD_mv {f : Int} {m : Bool} {s a o st ha : Int} (hf : -7 ≤ f ∧ f ≤ 7) (h : adB s a o st ha = true) : deD f m (adS s a o st ha) (adA s a o st ha) (adO s a o st ha) = (deD f m s a o + st) % 7 := by
  obtain ⟨h1, h2, h3, _⟩ := add_ok h
  unfold deD
  rw [if_pos ⟨hf, h2⟩, if_pos ⟨hf, h1⟩]
  omega
theorem deD_bd {f : Int} {m : Bool} {s a o : Int} : -1 ≤ deD f m s a o ∧ deD f m s a o ≤ 6 := by
  unfold deD; split <;> omega
theorem deD_nn {f : Int} {m : Bool} {s a o : Int} (hf : -7 ≤ f ∧ f ≤ 7) (h : pvB s a o = true) : 0 ≤ deD f m s a o := by
  unfold deD; rw [if_pos ⟨hf, h⟩]; omega
theorem ta_facts {f : Int} {m : Bool} {l L : List Nt} {h : Int} (hB : taB f m l h = true) (hL : taL f m l h = L) :
    (0 ≤ h ∧ h ≤ (l.length : Int)) ∧ vvB l = true ∧ vvB L = true ∧ L.length = l.length ∧ tsum L L.length = tsum l l.length ∧ (h = 0 → shL l 4 7 = L) ∧
    ∀ k, k < l.length → (atNt l k).rest = false → (0 ≤ deD f m (atNt l k).step (atNt l k).alter (atNt l k).octave) ∧ deD f m (atNt L k).step (atNt L k).alter (atNt L k).octave = (if taC f m h k (atNt l k) then 0 else (deD f m (atNt l k).step (atNt l k).alter (atNt l k).octave + 4) % 7) := by
  have hp : taP f m l h := of_decide_eq_true hB
  obtain ⟨hf, hv, hh, hok, hvv⟩ := hp
  have e : L = taK f m h l l.length := by rw [← hL]; unfold taL; rw [if_pos hB]
  clear hL
  subst e
  refine ⟨hh, hv, hvv, taK_len _ _ _ _ _, ?_, fun h0 => ?_, fun k hk hr => ?_⟩
  · rw [taK_len]
    exact tsum_cong _ fun j hj => by rw [at_taK _ _ _ _ _ _ hj]; exact (mvN_rest_eq _ _ _).2.1
  · have hs : ∀ k, k < l.length → taS f m h k (atNt l k) = 4 ∧ taH f m h k (atNt l k) = 7 := fun k _ => by
      have : ¬ taC f m h k (atNt l k) := fun c => by have := c.1; omega
      unfold taS taH
      rw [if_neg this, if_neg this]
      exact ⟨rfl, rfl⟩
    obtain ⟨y1, y2⟩ := sh_yes (st := 4) (ha := 7) hv (by decide) fun k hk => by
      have := hok k hk
      unfold taOk at this
      rw [(hs k hk).1, (hs k hk).2] at this
      exact this
    rw [y2]
    refine nt_ext (by rw [mvK_len, taK_len]) fun k hk => ?_
    rw [mvK_len] at hk
    rw [at_mvK _ _ _ _ _ hk, at_taK _ _ _ _ _ _ hk, (hs k hk).1, (hs k hk).2]
  · have ho := hok k hk
    unfold taOk mvOk at ho
    rw [hr] at ho
    have ho := ho.resolve_left (by simp)
    have hpv := (add_ok ho).1
    refine ⟨deD_nn hf hpv, ?_⟩
    rw [at_taK _ _ _ _ _ _ hk, mvN_tone hr]
    simp only
    rw [deD_mv hf ho]
    unfold taS
    by_cases c : taC f m h k (atNt l k)
    · rw [if_pos c, if_pos c, c.2.1]; rfl
    · rw [if_neg c, if_neg c]
theorem ah_step {f : Int} {m : Bool} {l l' L : List Nt} {k : Nat} {B v : Bool} (hL : taL f m l (k : Int) = L) (hB : taB f m l (k : Int) = B) (hv : decide (L = l') = v) : ahP f m l l' k ↔ (B = true ∧ v = true) := by
  unfold ahP
  rw [hL, hB, ← hv, decide_eq_true_iff]
end Go.Proofs.Ytacbkmahofmbcaa
