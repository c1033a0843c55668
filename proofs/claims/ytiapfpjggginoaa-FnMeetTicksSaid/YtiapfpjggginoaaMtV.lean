/- What the law of MeetTicks wants to know of the ticks: plain. -/
import Derived.Test.YtiapfpjggginoaaSok
namespace Go.Proofs.Ytiapfpjggginoaa
set_option linter.unusedSimpArgs false
set_option linter.unusedVariables false
open Go.RowKit

theorem nd_len : ∀ {L M : List Int}, L.Pairwise (· ≠ ·) → (∀ x ∈ L, x ∈ M) → L.length ≤ M.length
  | [], M, _, _ => Nat.zero_le _
  | x :: L, M, h, hs => by
    have hx := hs x (by simp)
    obtain ⟨h1, h2⟩ := List.pairwise_cons.1 h
    have ih := nd_len (L := L) (M := M.erase x) h2 fun y hy => (List.mem_erase_of_ne (fun e => h1 y hy e.symm)).2 (hs y (List.mem_cons_of_mem _ hy))
    rw [List.length_erase_of_mem hx] at ih
    have := List.length_pos_of_mem hx
    rw [List.length_cons]; omega
structure MtV (a b : List Nt) (L : List Int) : Prop where
  va : vvB a = true
  vb : vvB b = true
  srt : L.Pairwise (· < ·)
  mem : ∀ x, x ∈ L ↔ mtP a b x
theorem MtL.v {a b : List Nt} {L : List Int} (h : MtL a b L) (ha : vvB a = true) (hb : vvB b = true) : MtV a b L := by
  unfold MtL at h; rw [if_pos ⟨ha, hb⟩] at h; exact ⟨ha, hb, h.1, h.2⟩
theorem MtV.top {a b : List Nt} {L : List Int} (h : MtV a b L) {x : Int} (hx : x ∈ L) : x < max (tsum a a.length) (tsum b b.length) := ((h.mem x).1 hx).1
theorem MtV.step {a b : List Nt} {L : List Int} (h : MtV a b L) (k : Nat) (hk : k + 1 < L.length) : atIn L k < atIn L (k + 1) := by
  have h1 := List.pairwise_iff_getElem.1 h.srt k (k + 1) (by omega) hk (by omega)
  unfold atIn
  rw [List.getD_eq_getElem?_getD, List.getD_eq_getElem?_getD, List.getElem?_eq_getElem (by omega), List.getElem?_eq_getElem hk]
  exact h1
theorem MtV.first {a b : List Nt} {L : List Int} (h : MtV a b L) (hl : 0 < L.length) : atIn L 0 = 0 := by
  have hx := at_mem L 0 hl
  have hp := (h.mem _).1 hx
  have h0 := mtP_nn (vvB_of h.va) (vvB_of h.vb) hp
  have hz : (0 : Int) ∈ L := (h.mem 0).2 ⟨by have := hp.1; omega, .inl rfl⟩
  obtain ⟨i, hi, he⟩ := List.getElem_of_mem hz
  by_cases e : i = 0
  · subst e
    unfold atIn
    rw [List.getD_eq_getElem?_getD, List.getElem?_eq_getElem hi]; exact he
  · have h1 := List.pairwise_iff_getElem.1 h.srt 0 i hl hi (by omega)
    rw [he] at h1
    have e0 : atIn L 0 = L[0] := by unfold atIn; rw [List.getD_eq_getElem?_getD, List.getElem?_eq_getElem hl]; rfl
    omega
theorem na_step {l : List Nt} (hv : vvB l = true) {x : Int} (hx : x ∈ enK l l.length) : naI l x ≠ naI l (x - 1) := by
  obtain ⟨j, hj, rfl⟩ := mem_enK.1 hx
  have hf := vvB_of hv
  have ht := hf.tickT j hj
  have hs : tsum l (j + 1) = tsum l j + (atNt l j).ticks := rfl
  have e1 := na_eq hv hj (t := tsum l (j + 1) - 1) (by omega) (by omega)
  rw [e1]
  intro e2
  rcases na_spec l (tsum l (j + 1)) with ⟨e, _⟩ | ⟨i, hi, _, _, e, h3, h4⟩
  · omega
  · have : i = j := by omega
    subst this
    omega
theorem MtV.diff {a b : List Nt} {L : List Int} (h : MtV a b L) {x : Int} (hx : x ∈ L) (h0 : 0 < x) : naI a x ≠ naI a (x - 1) ∨ naI b x ≠ naI b (x - 1) := by
  rcases ((h.mem x).1 hx).2 with e | e | e
  · omega
  · exact .inl (na_step h.va e)
  · exact .inr (na_step h.vb e)
theorem MtV.len {a b : List Nt} {L : List Int} (h : MtV a b L) : L.length ≤ a.length + b.length := by
  rcases Nat.eq_zero_or_pos L.length with h0 | h0
  · omega
  · have hf := (h.mem _).1 (at_mem L 0 h0)
    have hn := mtP_nn (vvB_of h.va) (vvB_of h.vb) hf
    have h1 := hf.1
    obtain ⟨m, hm⟩ : ∃ m, max (tsum a a.length) (tsum b b.length) = m := ⟨_, rfl⟩
    have hin : m ∈ enK a a.length ++ enK b b.length := by
      rcases (show m = tsum a a.length ∨ m = tsum b b.length from by omega) with e | e
      · rw [e]; exact List.mem_append_left _ (top_mem (by omega))
      · rw [e]; exact List.mem_append_right _ (top_mem (by omega))
    have hnl : ∀ x ∈ L, x ≠ m := fun x hx e => by have := h.top hx; omega
    have hl := nd_len (L := m :: L) (M := 0 :: (enK a a.length ++ enK b b.length)) (List.pairwise_cons.2 ⟨fun x hx e => hnl x hx e.symm, h.srt.imp fun hh e => by omega⟩) fun x hx => by
      rcases List.mem_cons.1 hx with rfl | hx
      · exact List.mem_cons_of_mem _ hin
      · rcases ((h.mem x).1 hx).2 with e | e | e
        · rw [e]; simp
        · exact List.mem_cons_of_mem _ (List.mem_append_left _ e)
        · exact List.mem_cons_of_mem _ (List.mem_append_right _ e)
    rw [List.length_cons, List.length_cons, List.length_append] at hl
    simp only [enK, List.length_map, List.length_range] at hl
    omega
end Go.Proofs.Ytiapfpjggginoaa
