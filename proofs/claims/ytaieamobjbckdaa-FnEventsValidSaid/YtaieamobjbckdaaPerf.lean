/- What is played of a voice: the notes one by one, and the groups of tied notes, come to the same events. Plain. -/
import Derived.Test.YtaieamobjbckdaaVoice
import Derived.Test.YtaieamobjbckdaaTime
import Derived.Test.YtaieamobjbckdaaEv
namespace Go.Proofs.Ytaieamobjbckdaa
set_option linter.unusedSimpArgs false
set_option linter.unusedVariables false
open Go.RowKit

def vsum (l : List Nt) : Nat → Int
  | 0 => 0
  | k + 1 => vsum l k + (atNt l k).ticks
def keyN (n : Nt) : Int := pkI n.step n.alter n.octave
def stI (l : List Nt) : Nat → Nat
  | 0 => 0
  | k + 1 => if (atNt l k).tied = true then stI l k else k + 1
theorem stI_le (l : List Nt) : ∀ k, stI l k ≤ k
  | 0 => Nat.le_refl _
  | k + 1 => by
    have := stI_le l k
    unfold stI; split <;> omega
def evK (l : List Nt) (T : List Tp) (loud : Int) (k : Nat) : Ev := ⟨timeI T (vsum l (stI l k)), timeI T (vsum l (k + 1)), keyN (atNt l k), loud⟩
def evL (l : List Nt) (T : List Tp) (loud : Int) : Nat → List Ev
  | 0 => []
  | k + 1 => evL l T loud k ++ (if (atNt l k).rest = true ∨ (atNt l k).tied = true then [] else [evK l T loud k])
def kOk (n : Nt) : Prop := n.rest = false → 0 ≤ keyN n ∧ keyN n ≤ 107
instance (n : Nt) : Decidable (kOk n) := by unfold kOk; infer_instance
def perB (l : List Nt) (T : List Tp) (loud : Int) : Bool := decide (vvB l = true ∧ tvB T = true ∧ (1 ≤ loud ∧ loud ≤ 127) ∧ ∀ k, k < l.length → kOk (atNt l k))
def perL (l : List Nt) (T : List Tp) (loud : Int) : List Ev := if perB l T loud = true then evL l T loud l.length else []
theorem evL_len (l : List Nt) (T : List Tp) (loud : Int) : ∀ k, (evL l T loud k).length ≤ k
  | 0 => by simp [evL]
  | k + 1 => by
    have := evL_len l T loud k
    unfold evL; split <;> simp <;> omega
theorem VvF.tick {l : List Nt} (h : VvF l) (k : Nat) (hk : k < l.length) : 1 ≤ (atNt l k).ticks ∧ (atNt l k).ticks ≤ 768 := by
  have := (h.ok k hk).1
  unfold nvB at this
  simp only [Bool.and_eq_true, decide_eq_true_eq] at this
  exact this.1
theorem VvF.sum_bd {l : List Nt} (h : VvF l) : ∀ k, k ≤ l.length → (k : Int) ≤ vsum l k ∧ vsum l k ≤ 768 * k
  | 0, _ => by simp [vsum]
  | k + 1, hk => by
    have a := h.sum_bd k (by omega)
    have b := h.tick k (by omega)
    unfold vsum; omega
theorem VvF.sum_le {l : List Nt} (h : VvF l) (k : Nat) (hk : k ≤ l.length) : 0 ≤ vsum l k ∧ vsum l k ≤ 46080 := by
  have := h.sum_bd k hk
  have := h.len
  omega

def gL (l : List Nt) : Nat → List Nt
  | 0 => []
  | k + 1 => if 0 < k ∧ (atNt l (k - 1)).tied = true then (gL l k).set ((gL l k).length - 1) { atNt (gL l k) ((gL l k).length - 1) with ticks := (atNt (gL l k) ((gL l k).length - 1)).ticks + (atNt l k).ticks } else gL l k ++ [atNt l k]
def evG (G : List Nt) (T : List Tp) (loud : Int) (j : Nat) : Ev := ⟨timeI T (vsum G j), timeI T (vsum G (j + 1)), keyN (atNt G j), loud⟩
def sE (G : List Nt) (T : List Tp) (loud : Int) : Nat → List Ev
  | 0 => []
  | j + 1 => sE G T loud j ++ (if (atNt G j).rest = true then [] else [evG G T loud j])
theorem vsum_cong {G G' : List Nt} : ∀ m, (∀ j, j < m → atNt G j = atNt G' j) → vsum G m = vsum G' m
  | 0, _ => rfl
  | m + 1, h => by unfold vsum; rw [vsum_cong m (fun j hj => h j (by omega)), h m (by omega)]
theorem sE_cong {G G' : List Nt} (T : List Tp) (loud : Int) : ∀ m, (∀ j, j < m → atNt G j = atNt G' j) → sE G T loud m = sE G' T loud m
  | 0, _ => rfl
  | m + 1, h => by
    unfold sE evG
    rw [sE_cong T loud m (fun j hj => h j (by omega)), h m (by omega), vsum_cong m (fun j hj => h j (by omega)), vsum_cong (m + 1) (fun j hj => h j (by omega))]
theorem at_set_ne (G : List Nt) (m j : Nat) (x : Nt) (h : j ≠ m) : atNt (G.set m x) j = atNt G j := by
  unfold atNt; rw [List.getD_eq_getElem?_getD, List.getD_eq_getElem?_getD, List.getElem?_set_ne (Ne.symm h)]
theorem at_set_same (G : List Nt) (m : Nat) (x : Nt) (h : m < G.length) : atNt (G.set m x) m = x := by
  unfold atNt; rw [List.getD_eq_getElem?_getD, List.getElem?_set_self h]; rfl
theorem at_app_lt (G : List Nt) (x : Nt) (j : Nat) (h : j < G.length) : atNt (G ++ [x]) j = atNt G j := by
  unfold atNt; rw [List.getD_eq_getElem?_getD, List.getD_eq_getElem?_getD, List.getElem?_append_left h]
theorem at_app_eq (G : List Nt) (x : Nt) : atNt (G ++ [x]) G.length = x := by
  unfold atNt; rw [List.getD_eq_getElem?_getD, List.getElem?_append_right (Nat.le_refl _)]; simp
theorem kOk_cong {a b : Nt} (h0 : a.rest = b.rest) (h1 : a.step = b.step) (h2 : a.alter = b.alter) (h3 : a.octave = b.octave) : kOk a ↔ kOk b := by
  unfold kOk keyN; rw [h0, h1, h2, h3]
structure GInv (l : List Nt) (T : List Tp) (loud : Int) (k m : Nat) : Prop where
  len : (gL l (k + 1)).length = m + 1
  sum : vsum (gL l (k + 1)) m = vsum l (stI l k)
  tk : (atNt (gL l (k + 1)) m).ticks = vsum l (k + 1) - vsum l (stI l k)
  r : (atNt (gL l (k + 1)) m).rest = (atNt l k).rest
  s : (atNt (gL l (k + 1)) m).step = (atNt l k).step
  a : (atNt (gL l (k + 1)) m).alter = (atNt l k).alter
  o : (atNt (gL l (k + 1)) m).octave = (atNt l k).octave
  ev : sE (gL l (k + 1)) T loud m = evL l T loud (stI l k)
  ok : (∀ j, j < m → kOk (atNt (gL l (k + 1)) j)) ↔ (∀ i, i < stI l k → kOk (atNt l i))
  run : evL l T loud k = evL l T loud (stI l k)
  same : (kOk (atNt l k)) → ∀ i, stI l k ≤ i → i ≤ k → kOk (atNt l i)
  pos : ∀ j, j ≤ m → 1 ≤ (atNt (gL l (k + 1)) j).ticks
  le : m ≤ k
theorem GInv.close {l : List Nt} {T : List Tp} {loud : Int} {k m : Nat} (I : GInv l T loud k m) (ht : ¬ (atNt l k).tied = true) :
    vsum (gL l (k + 1)) (m + 1) = vsum l (k + 1) ∧ sE (gL l (k + 1)) T loud (m + 1) = evL l T loud (k + 1) ∧
    (((∀ j, j < m + 1 → kOk (atNt (gL l (k + 1)) j)) → ∀ i, i < k + 1 → kOk (atNt l i)) ∧ ((∀ i, i < k + 1 → kOk (atNt l i)) → ∀ j, j < m + 1 → kOk (atNt (gL l (k + 1)) j))) := by
  have hv : vsum (gL l (k + 1)) (m + 1) = vsum l (k + 1) := by rw [vsum, I.sum, I.tk]; omega
  refine ⟨hv, ?_, fun hh i hi => ?_, fun hh j hj => ?_⟩
  · rw [sE, evL, I.ev, I.run]
    congr 1
    rw [I.r]
    cases hr : (atNt l k).rest
    · rw [if_neg (by simp), if_neg (by simp [ht])]
      unfold evG evK
      rw [hv, I.sum]
      unfold keyN
      rw [I.s, I.a, I.o]
    · rw [if_pos rfl, if_pos (.inl rfl)]
  · have h1 := I.ok.1 fun j hj => hh j (by omega)
    by_cases c : i < stI l k
    · exact h1 i c
    · exact I.same ((kOk_cong I.r I.s I.a I.o).1 (hh m (by omega))) i (by omega) (by omega)
  · by_cases c : j < m
    · exact I.ok.2 (fun i hi => hh i (by have := stI_le l k; omega)) j c
    · obtain rfl : j = m := by omega
      exact (kOk_cong I.r I.s I.a I.o).2 (hh k (by omega))
theorem VvF.ginv {l : List Nt} (h : VvF l) (T : List Tp) (loud : Int) : ∀ k, k < l.length → ∃ m, GInv l T loud k m
  | 0, h0 => ⟨0, by
    have e : gL l 1 = [atNt l 0] := rfl
    refine ⟨by rw [e]; rfl, rfl, by rw [e]; simp [atNt, vsum, stI], by rw [e]; rfl, by rw [e]; rfl, by rw [e]; rfl, by rw [e]; rfl, rfl, ⟨fun _ i hi => absurd hi (by simp [stI]), fun _ j hj => absurd hj (by omega)⟩, rfl, (fun hk i _ hi => ?_), (fun j hj => ?_), Nat.le_refl _⟩
    · obtain rfl : i = 0 := by omega
      exact hk
    · obtain rfl : j = 0 := by omega
      rw [e]; exact (h.tick 0 h0).1⟩
  | k + 1, hk1 => by
    obtain ⟨m, I⟩ := h.ginv T loud k (by omega)
    have hlen := I.len
    by_cases ht : (atNt l k).tied = true
    · have hs : stI l (k + 1) = stI l k := by rw [stI, if_pos ht]
      have hg : gL l (k + 1 + 1) = (gL l (k + 1)).set m { atNt (gL l (k + 1)) m with ticks := (atNt (gL l (k + 1)) m).ticks + (atNt l (k + 1)).ticks } := by
        rw [gL, if_pos ⟨by omega, by simpa using ht⟩, hlen]; simp
      obtain ⟨_, v1, v2, v3, v4⟩ := (h.ok k (by omega)).2 ht
      have vr : (atNt l k).rest = false := by
        have := (h.ok k (by omega)).1
        unfold nvB at this
        cases hr : (atNt l k).rest
        · rfl
        · rw [hr, ht] at this; simp at this
      have hne : ∀ j, j < m → atNt (gL l (k + 1 + 1)) j = atNt (gL l (k + 1)) j := fun j hj => by rw [hg]; exact at_set_ne _ _ _ _ (by omega)
      have hm : atNt (gL l (k + 1 + 1)) m = { atNt (gL l (k + 1)) m with ticks := (atNt (gL l (k + 1)) m).ticks + (atNt l (k + 1)).ticks } := by rw [hg]; exact at_set_same _ _ _ (by omega)
      refine ⟨m, by rw [hg, List.length_set]; exact hlen, by rw [hs, vsum_cong m hne]; exact I.sum, ?_, ?_, ?_, ?_, ?_, by rw [hs, sE_cong T loud m hne]; exact I.ev, ?_, ?_, ?_, ?_, by have := I.le; omega⟩
      · rw [hm, hs]; simp only; rw [I.tk]
        have e : vsum l (k + 1 + 1) = vsum l (k + 1) + (atNt l (k + 1)).ticks := rfl
        omega
      · rw [hm]; simp only; rw [I.r, vr, v1]
      · rw [hm]; simp only; rw [I.s, v2]
      · rw [hm]; simp only; rw [I.a, v3]
      · rw [hm]; simp only; rw [I.o, v4]
      · rw [hs, ← I.ok]
        exact ⟨fun hh j hj => by rw [← hne j hj]; exact hh j hj, fun hh j hj => by rw [hne j hj]; exact hh j hj⟩
      · rw [hs, evL, if_pos (.inr ht), List.append_nil]; exact I.run
      · intro hk i hi1 hi2
        have hk' : kOk (atNt l k) := (kOk_cong (by rw [vr, v1]) v2.symm v3.symm v4.symm).2 hk
        by_cases e : i = k + 1
        · subst e; exact hk
        · exact I.same hk' i (by rw [hs] at hi1; exact hi1) (by omega)
      · intro j hj
        by_cases e : j = m
        · subst e; rw [hm]; simp only; have := I.pos j (by omega); have := (h.tick (k + 1) hk1).1; omega
        · rw [hne j (by omega)]; exact I.pos j hj
    · have hs : stI l (k + 1) = k + 1 := by rw [stI, if_neg ht]
      have hg : gL l (k + 1 + 1) = gL l (k + 1) ++ [atNt l (k + 1)] := by
        rw [gL, if_neg (by rintro ⟨_, c⟩; exact ht (by simpa using c))]
      have hne : ∀ j, j < m + 1 → atNt (gL l (k + 1 + 1)) j = atNt (gL l (k + 1)) j := fun j hj => by rw [hg]; exact at_app_lt _ _ _ (by omega)
      have hm : atNt (gL l (k + 1 + 1)) (m + 1) = atNt l (k + 1) := by rw [hg, ← hlen]; exact at_app_eq _ _
      have hv : vsum (gL l (k + 1)) (m + 1) = vsum l (k + 1) := by rw [vsum, I.sum, I.tk]; omega
      refine ⟨m + 1, by rw [hg, List.length_append, hlen]; rfl, by rw [hs, vsum_cong (m + 1) hne]; exact hv, ?_, by rw [hm], by rw [hm], by rw [hm], by rw [hm], ?_, ?_, ?_, ?_, ?_, by have := I.le; omega⟩
      · rw [hm, hs, vsum]; omega
      · rw [hs, sE_cong T loud (m + 1) hne]; exact (I.close ht).2.1
      · rw [hs]
        constructor
        · intro hh i hi
          exact (I.close ht).2.2.1 (fun j hj => by rw [← hne j hj]; exact hh j hj) i hi
        · intro hh j hj
          rw [hne j hj]
          exact (I.close ht).2.2.2 hh j hj
      · rw [hs]
      · intro hk i hi1 hi2
        obtain rfl : i = k + 1 := by rw [hs] at hi1; omega
        exact hk
      · intro j hj
        by_cases e : j = m + 1
        · subst e; rw [hm]; exact (h.tick (k + 1) hk1).1
        · rw [hne j (by omega)]; exact I.pos j (by omega)
/-- the groups come to the events of the notes -/
theorem VvF.groups {l : List Nt} (h : VvF l) (T : List Tp) (loud : Int) : sE (gL l l.length) T loud (gL l l.length).length = evL l T loud l.length ∧
    ((∀ j, j < (gL l l.length).length → kOk (atNt (gL l l.length) j)) ↔ (∀ i, i < l.length → kOk (atNt l i))) ∧ (gL l l.length).length ≤ l.length ∧ vsum (gL l l.length) (gL l l.length).length = vsum l l.length ∧
    (∀ j, j ≤ (gL l l.length).length → 0 ≤ vsum (gL l l.length) j ∧ vsum (gL l l.length) j ≤ 46080) := by
  rcases Nat.eq_zero_or_pos l.length with h0 | h0
  · obtain rfl : l = [] := List.eq_nil_of_length_eq_zero h0
    refine ⟨rfl, ⟨fun _ i hi => absurd hi (by simp), fun _ j hj => absurd hj (by simp [gL])⟩, by simp [gL], rfl, fun j hj => ?_⟩
    obtain rfl : j = 0 := by simpa [gL] using hj
    simp [vsum]
  · obtain ⟨k, hk⟩ : ∃ k, l.length = k + 1 := ⟨l.length - 1, by omega⟩
    obtain ⟨m, I⟩ := h.ginv T loud k (by omega)
    have ht : ¬ (atNt l k).tied = true := fun c => by have := ((h.ok k (by omega)).2 c).1; omega
    obtain ⟨c1, c2, c3, c4⟩ := I.close ht
    have hb := h.sum_le l.length (Nat.le_refl _)
    rw [hk] at hb ⊢
    rw [I.len]
    refine ⟨c2, ⟨c3, c4⟩, by have := I.le; omega, c1, fun j hj => ?_⟩
    have mono : ∀ d j, j + d ≤ m + 1 → vsum (gL l (k + 1)) j ≤ vsum (gL l (k + 1)) (j + d) := by
      intro d
      induction d with
      | zero => intro j _; exact Int.le_refl _
      | succ d ih =>
        intro j hj
        have h1 := ih j (by omega)
        have h2 := I.pos (j + d) (by omega)
        have e : vsum (gL l (k + 1)) (j + (d + 1)) = vsum (gL l (k + 1)) (j + d) + (atNt (gL l (k + 1)) (j + d)).ticks := rfl
        omega
    have a := mono j 0 (by omega)
    have b := mono (m + 1 - j) j (by omega)
    rw [show 0 + j = j from by omega] at a
    rw [show j + (m + 1 - j) = m + 1 from by omega, c1] at b
    have z : vsum (gL l (k + 1)) 0 = 0 := rfl
    omega
end Go.Proofs.Ytaieamobjbckdaa
