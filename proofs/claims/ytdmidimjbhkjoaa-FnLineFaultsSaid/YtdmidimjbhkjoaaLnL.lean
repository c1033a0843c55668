/- Lines: what the laws say of them, plain. -/
import Derived.Test.YtdmidimjbhkjoaaLnV
import Derived.Test.YtdmidimjbhkjoaaLg
namespace Go.Proofs.Ytdmidimjbhkjoaa
set_option linter.unusedSimpArgs false
set_option linter.unusedVariables false
open Go.RowKit

theorem pv_ky {t : Pi} (h : -2 ≤ kyP t) : pvP t := by
  unfold kyP pkI at h
  unfold pvP
  by_cases e : pvB t.step t.alter t.octave = true
  · exact e
  · rw [if_neg e] at h; omega
theorem lfK_nil {f : Int} {c T L : List Pi} (hg : gdL f c T L) (hl : L.length = c.length) : ∀ k, k ≤ L.length → lfK f c L k = []
  | 0, _ => rfl
  | k + 1, h => by
    obtain ⟨_, a, b⟩ := hg k (by omega)
    rw [lfK, lfK_nil hg hl k (by omega), show tnF f c L k = 0 from a]
    have e : sdF c L k = 0 := by
      unfold sdF
      by_cases hk : k = 0
      · rw [if_pos hk]
      · rw [if_neg hk]; exact b (by omega)
    rw [e, oneF_z]; rfl
theorem lg_good {f : Int} {c L : List Pi} {lo hi : Int} (ho : opB f c lo hi = true) (hg : gdL f c (tns f lo hi) L) (hl : L.length = c.length) : lgB f c L = true := by
  obtain ⟨hcv, ⟨l0, l1⟩, _⟩ := opB_of ho
  have hap : apB L c.length c.length = true := apB_yes (by omega) (fun k hk => pv_ky (by have := tns_mem (hg k hk).1; omega))
  have hb : lfB f c L = true := by unfold lfB; rw [hcv, hap]; rfl
  rw [lgB_is hb]
  have e : lfL f c L = [] := by unfold lfL; rw [if_pos hb, ← hl]; exact lfK_nil hg hl L.length (Nat.le_refl _)
  rw [e]; rfl
theorem clI_nn {f : Int} {c : List Pi} {lo hi : Int} (h : opB f c lo hi = true) : 0 ≤ clI f c lo hi := by
  rw [clI_yes h]; exact (totI_bd (tns_len _ _ _) (op_len h).2).1
theorem clI_up {f : Int} {c : List Pi} {lo hi : Int} (h : opB f c lo hi = true) : clI f c lo (hi - 1) ≤ clI f c lo hi := by
  have h0 := clI_nn h
  cases ho : opB f c lo (hi - 1) with
  | false => rw [clI_no ho]; omega
  | true =>
    rw [clI_yes ho, clI_yes h]
    exact totI_up (opB_of h).2.2.1 (op_len h).2
theorem clI_wide {f : Int} {c : List Pi} {lo hi : Int} (h : opB f c lo hi = true) (h1 : hi - lo < 30) (h2 : hi < 107) : opB f c lo (hi + 1) = true ∧ clI f c lo hi ≤ clI f c lo (hi + 1) := by
  obtain ⟨hcv, a, b, d, e⟩ := opB_of h
  have ho : opB f c lo (hi + 1) = true := opB_yes hcv ⟨a, by omega, by omega, by omega⟩
  refine ⟨ho, ?_⟩
  have := clI_up ho
  rwa [show hi + 1 - 1 = hi from by omega] at this
theorem lnR_iff {f : Int} {c : List Pi} {lo hi num : Int} (h0 : 0 ≤ num) : (lnR f c lo hi num).isSome = decide (num < clI f c lo hi) := by
  by_cases h : num < clI f c lo hi
  · obtain ⟨_, L, e, _⟩ := lnR_small h0 h
    rw [e, decide_eq_true h]; rfl
  · rw [lnR_big (by omega), decide_eq_false h]; rfl
theorem lnR_good {f : Int} {c L : List Pi} {lo hi num : Int} (h : lnR f c lo hi num = some L) : lgB f c L = true := by
  by_cases h0 : 0 ≤ num
  · by_cases h1 : num < clI f c lo hi
    · obtain ⟨ho, L', e, _, hl, hg⟩ := lnR_small h0 h1
      rw [h] at e
      cases e
      exact lg_good ho hg hl
    · rw [lnR_big (by omega)] at h; cases h
  · rw [lnR_no (fun z => h0 z.2)] at h; cases h
theorem lnR_get {f : Int} {c L : List Pi} {lo hi num : Int} {B : Bool} (hL : (lnR f c lo hi num).getD [] = L) (hB : (lnR f c lo hi num).isSome = B) : (B = false ∧ L = []) ∨ (B = true ∧ lgB f c L = true) := by
  cases h : lnR f c lo hi num with
  | none => rw [h] at hL hB; exact .inl ⟨hB.symm, hL.symm⟩
  | some M =>
    rw [h] at hL hB
    have e : M = L := hL
    subst e
    exact .inr ⟨hB.symm, lnR_good h⟩
theorem lg_valX {f : Int} {c l : List Pi} {B : Bool} (hB : lgB f c l = B) (A : Option Addr) (n c1 : Nat) (A' : Option Addr) (n' c2 : Nat) (w : World) (hn : c.length = n) (hm : n ≤ 2000000) (hn' : l.length = n') (hm' : n' ≤ 2000000) (hc : RowPi w w.heap.size A c) (h : RowPi w w.heap.size A' l) :
    Calls Try.prog 6 #[.int .i64 f, .slice A n c1, .slice A' n' c2] w fun e w' => e = .returned (.bool B) ∧ Below w.heap.size w w' := by
  have := lg_any f c l A n c1 A' n' c2 w hn hm hn' hm' hc h
  rw [hB] at this
  exact this
end Go.Proofs.Ytdmidimjbhkjoaa
