/- Chords over a figured bass, plain: the tones of a chord, and which chord is the first that is not right. -/
import Derived.Test.YtpjakgnghpapmaaPtP
import Derived.Test.YtpjakgnghpapmaaFgC
namespace Go.Proofs.Ytpjakgnghpapmaa
set_option linter.unusedSimpArgs false
set_option linter.unusedVariables false
open Go.RowKit

/-- the same step and the same alteration -/
def clsB (q p : Pi) : Bool := (q.step == p.step) && (q.alter == p.alter)
theorem clsB_sym (q p : Pi) : clsB q p = clsB p q := by
  unfold clsB
  rw [show (q.step == p.step) = (p.step == q.step) from Bool.eq_iff_iff.2 ⟨fun h => by simpa using (of_decide_eq_true h).symm, fun h => by simpa using (of_decide_eq_true h).symm⟩, show (q.alter == p.alter) = (p.alter == q.alter) from Bool.eq_iff_iff.2 ⟨fun h => by simpa using (of_decide_eq_true h).symm, fun h => by simpa using (of_decide_eq_true h).symm⟩]
/-- two pitches are one -/
def piB (p q : Pi) : Bool := (p.step == q.step) && ((p.alter == q.alter) && (p.octave == q.octave))
theorem piB_iff {p q : Pi} : piB p q = true ↔ p = q := by
  unfold piB
  cases p; cases q
  simp
def hasB (L : List Pi) (p : Pi) : Bool := L.any fun q => clsB q p
def fullB (s t : List Pi) : Bool := t.all fun p => hasB s p
def smB (a b : List Pi) : Bool := fullB b a && fullB a b
theorem at_mem {l : List Pi} {k : Nat} (h : k < l.length) : atPi l k ∈ l := by
  unfold atPi
  rw [List.getD_eq_getElem?_getD, List.getElem?_eq_getElem h]
  exact List.getElem_mem h
theorem mem_at {l : List Pi} {p : Pi} (h : p ∈ l) : ∃ k, k < l.length ∧ atPi l k = p := by
  obtain ⟨k, hk, e⟩ := List.getElem_of_mem h
  exact ⟨k, hk, by unfold atPi; rw [List.getD_eq_getElem?_getD, List.getElem?_eq_getElem hk, ← e]; rfl⟩
theorem hasB_yes {L : List Pi} {p : Pi} (k : Nat) (hk : k < L.length) (h : clsB (atPi L k) p = true) : hasB L p = true :=
  List.any_eq_true.2 ⟨_, at_mem hk, h⟩
theorem hasB_no {L : List Pi} {p : Pi} (h : ∀ k, k < L.length → clsB (atPi L k) p = false) : hasB L p = false := by
  unfold hasB
  rw [List.any_eq_false]
  intro q hq
  obtain ⟨k, hk, rfl⟩ := mem_at hq
  rw [h k hk]
  simp
theorem hasB_iff {L : List Pi} {p : Pi} : hasB L p = true ↔ ∃ q ∈ L, clsB q p = true := List.any_eq_true
theorem fullB_yes {s t : List Pi} (h : ∀ k, k < t.length → hasB s (atPi t k) = true) : fullB s t = true := by
  unfold fullB
  rw [List.all_eq_true]
  intro p hp
  obtain ⟨k, hk, rfl⟩ := mem_at hp
  exact h k hk
theorem fullB_no {s t : List Pi} (k : Nat) (hk : k < t.length) (h : hasB s (atPi t k) = false) : fullB s t = false := by
  unfold fullB
  rw [List.all_eq_false]
  exact ⟨_, at_mem hk, by rw [h]; simp⟩
theorem fullB_at {s t : List Pi} (h : fullB s t = true) (k : Nat) (hk : k < t.length) : hasB s (atPi t k) = true := List.all_eq_true.1 h _ (at_mem hk)

/-- the first k below n that is bad, and -1 if there is none -/
def fstI (bad : Nat → Bool) : Nat → Int
  | 0 => -1
  | n + 1 => if fstI bad n = -1 then (if bad n = true then (n : Int) else -1) else fstI bad n
theorem fstI_none {bad : Nat → Bool} : ∀ n, (∀ k, k < n → bad k = false) → fstI bad n = -1
  | 0, _ => rfl
  | n + 1, h => by
    unfold fstI
    rw [if_pos (fstI_none n fun k hk => h k (by omega)), if_neg (by rw [h n (by omega)]; simp)]
theorem fstI_hit {bad : Nat → Bool} {k : Nat} (hb : bad k = true) (h : ∀ j, j < k → bad j = false) : ∀ n, k < n → fstI bad n = (k : Int)
  | 0, hk => by omega
  | n + 1, hk => by
    unfold fstI
    by_cases e : k = n
    · subst e
      rw [if_pos (fstI_none k h), if_pos hb]
    · rw [fstI_hit hb h n (by omega), if_neg (by omega)]
theorem fstI_cases (bad : Nat → Bool) (n : Nat) : (fstI bad n = -1 ∧ ∀ k, k < n → bad k = false) ∨ ∃ k, k < n ∧ fstI bad n = (k : Int) ∧ bad k = true ∧ ∀ j, j < k → bad j = false := by
  by_cases h : ∀ k, k < n → bad k = false
  · exact .inl ⟨fstI_none n h, h⟩
  · have ⟨m, hm⟩ : ∃ m, m < n ∧ bad m = true := by
      apply Classical.byContradiction
      intro z
      exact h fun k hk => by
        cases hb : bad k
        · rfl
        · exact absurd ⟨k, hk, hb⟩ z
    obtain ⟨k, ⟨hk, hb⟩, hmin⟩ : ∃ k, (k < n ∧ bad k = true) ∧ ∀ j, j < k → ¬ (j < n ∧ bad j = true) := by
      obtain ⟨hm1, hm2⟩ := hm
      induction m using Nat.strongRecOn with
      | ind m ih =>
        by_cases z : ∃ j, j < m ∧ bad j = true
        · obtain ⟨j, hj, hb⟩ := z
          exact ih j hj (by omega) hb
        · exact ⟨m, ⟨hm1, hm2⟩, fun j hj y => z ⟨j, hj, y.2⟩⟩
    have hm2 : ∀ j, j < k → bad j = false := fun j hj => by
      cases hb2 : bad j
      · rfl
      · exact absurd ⟨by omega, hb2⟩ (hmin j hj)
    exact .inr ⟨k, hk, fstI_hit hb hm2 n hk, hb, hm2⟩

/-- a fault at chord k -/
def ftB (ll : List (List Pi)) (k : Nat) : Bool := (sfK ll k != 0) || (mfK ll k != 0)
def anyAt (L : List Fa) (k : Nat) : Bool := L.any fun x => x.pos == (k : Int)
theorem anyAt_snoc (L : List Fa) (x : Fa) (k : Nat) : anyAt (L ++ [x]) k = (anyAt L k || (x.pos == (k : Int))) := by
  unfold anyAt; rw [List.any_append]; simp
theorem anyAt_app (L M : List Fa) (k : Nat) : anyAt (L ++ M) k = (anyAt L k || anyAt M k) := by
  unfold anyAt; rw [List.any_append]
theorem anyAt_one (j : Nat) (x : Int) (k : Nat) : anyAt (oneF j x) k = (decide (j = k) && (x != 0)) := by
  unfold oneF anyAt
  by_cases h : x = 0
  · rw [if_pos h, h]; simp
  · rw [if_neg h]
    have e : (x != 0) = true := by simp [h]
    rw [e]
    by_cases c : j = k
    · subst c; simp
    · have : ¬ (j : Int) = (k : Int) := by omega
      simp [c, this]
theorem anyAt_pfK (ll : List (List Pi)) (k : Nat) : ∀ n, anyAt (pfK ll n) k = (decide (k < n) && ftB ll k)
  | 0 => by unfold pfK anyAt; simp
  | n + 1 => by
    unfold pfK
    rw [anyAt_app, anyAt_app, anyAt_pfK ll k n, anyAt_one, anyAt_one]
    by_cases h : n = k
    · subst h
      unfold ftB
      simp
    · have e : decide (n = k) = false := decide_eq_false h
      rw [e]
      have e2 : decide (k < n + 1) = decide (k < n) := by
        by_cases c : k < n
        · rw [decide_eq_true c, decide_eq_true (by omega)]
        · rw [decide_eq_false c, decide_eq_false (by omega)]
      rw [e2]
      simp
theorem pfK_pos (ll : List (List Pi)) : ∀ n, ∀ x ∈ pfK ll n, ∃ k, k < n ∧ x.pos = (k : Int)
  | 0, x, h => by unfold pfK at h; simp at h
  | n + 1, x, h => by
    unfold pfK at h
    rw [List.mem_append, List.mem_append] at h
    rcases h with (h | h) | h
    · obtain ⟨k, hk, e⟩ := pfK_pos ll n x h; exact ⟨k, by omega, e⟩
    all_goals
      unfold oneF at h
      split at h
      · simp at h
      · simp at h; subst h; exact ⟨n, by omega, rfl⟩
/-- the chord is right for its bass and its figure -/
def rcB (f : Int) (b : Pi) (g : Int) (s : List Pi) : Bool := (decide (0 < (fgL f b g).length) && decide (0 < s.length)) && (piB (atPi s 0) b && smB s (fgL f b g))
/-- the chord k is not right -/
def bdB (f : Int) (bs : List Pi) (gs : List Int) (ll : List (List Pi)) (k : Nat) : Bool := ftB ll k || !rcB f (atPi bs k) (gs.getD k 0) (atPP ll k)
def rfP (f : Int) (bs : List Pi) (gs : List Int) (ll : List (List Pi)) : Prop := (-7 ≤ f ∧ f ≤ 7) ∧ ll.length ≤ 8 ∧ bs.length = ll.length ∧ gs.length = ll.length
instance (f : Int) (bs : List Pi) (gs : List Int) (ll : List (List Pi)) : Decidable (rfP f bs gs ll) := by unfold rfP; infer_instance
/-- the number of the first chord that is not right -/
def rfI (f : Int) (bs : List Pi) (gs : List Int) (ll : List (List Pi)) : Int := if rfP f bs gs ll then fstI (bdB f bs gs ll) ll.length else -1
theorem rfI_no {f : Int} {bs : List Pi} {gs : List Int} {ll : List (List Pi)} (h : ¬ rfP f bs gs ll) : rfI f bs gs ll = -1 := if_neg h
theorem rfI_yes {f : Int} {bs : List Pi} {gs : List Int} {ll : List (List Pi)} (h : rfP f bs gs ll) : rfI f bs gs ll = fstI (bdB f bs gs ll) ll.length := if_pos h
theorem stkF_ok {l : List Pi} (h : stkF l = 0) : l.length = 4 ∧ ∀ k, k < l.length → pvQ (atPi l k) := by
  have ha : apB l 4 4 = true := by
    cases e : apB l 4 4
    · rw [stkF_1 e] at h; omega
    · rfl
  unfold apB at ha
  have := of_decide_eq_true ha
  exact ⟨by omega, fun k hk => this.2 k hk⟩
theorem ftB_ok {ll : List (List Pi)} {k : Nat} (h : ftB ll k = false) : (atPP ll k).length = 4 ∧ ∀ j, j < (atPP ll k).length → pvQ (atPi (atPP ll k) j) := by
  unfold ftB at h
  rw [Bool.or_eq_false_iff] at h
  have h1 : sfK ll k = 0 := by simpa using h.1
  exact stkF_ok h1
/-- the tones of a figure are valid -/
theorem fgL_pv (f : Int) (b : Pi) (g : Int) : ∀ k, k < (fgL f b g).length → pvQ (atPi (fgL f b g) k) := by
  unfold fgL
  by_cases h : fgP f b g
  · rw [if_pos h]
    obtain ⟨_, hb, _, hk⟩ := h
    have key : ∀ n, n ≤ (stL g).length → ∀ k, k < (fgK f (plI b) b (stL g) n).length → pvQ (atPi (fgK f (plI b) b (stL g) n) k) := by
      intro n
      induction n with
      | zero => intro _ k hk; unfold fgK at hk ⊢; simp at hk; subst hk; exact hb
      | succ n ih =>
        intro hn k hkl
        have hl := fgK_len f (plI b) b (stL g) n
        rw [fgK_len] at hkl
        unfold fgK
        by_cases e : k < n + 1
        · have : atPi (fgK f (plI b) b (stL g) n ++ [kpP f (plI b + (stL g).getD n 0)]) k = atPi (fgK f (plI b) b (stL g) n) k := by
            unfold atPi
            rw [List.getD_eq_getElem?_getD, List.getElem?_append_left (by omega), ← List.getD_eq_getElem?_getD]
          rw [this]
          exact ih (by omega) k (by omega)
        · obtain rfl : k = n + 1 := by omega
          have : atPi (fgK f (plI b) b (stL g) n ++ [kpP f (plI b + (stL g).getD n 0)]) (n + 1) = kpP f (plI b + (stL g).getD n 0) := by
            unfold atPi
            rw [List.getD_eq_getElem?_getD, List.getElem?_append_right (by omega), hl]
            simp
          rw [this]
          exact hk n (by omega)
    exact key _ (Nat.le_refl _)
  · rw [if_neg h]; intro k hk; simp at hk
/-- what the reference asks of the chord k -/
def bsB (f : Int) (b : Pi) (g : Int) (s : List Pi) (ft : Bool) : Bool := (((fgL f b g).length == 0) || (s.length != 4) || !piB (atPi s 0) b || !fullB s (fgL f b g)) || (!fullB (fgL f b g) s) || ft
theorem bsB_eq (f : Int) (bs : List Pi) (gs : List Int) (ll : List (List Pi)) (k : Nat) : bsB f (atPi bs k) (gs.getD k 0) (atPP ll k) (ftB ll k) = bdB f bs gs ll k := by
  unfold bdB
  cases hf : ftB ll k
  · have hl := (ftB_ok hf).1
    unfold bsB rcB smB
    rw [hl]
    have e : ∀ n : Nat, (n == 0) = !decide (0 < n) := fun n => by cases n <;> simp
    rw [e]
    generalize decide (0 < (fgL f (atPi bs k) (gs.getD k 0)).length) = x
    generalize fullB (atPP ll k) (fgL f (atPi bs k) (gs.getD k 0)) = y
    generalize fullB (fgL f (atPi bs k) (gs.getD k 0)) (atPP ll k) = z
    generalize piB (atPi (atPP ll k) 0) (atPi bs k) = u
    cases x <;> cases y <;> cases z <;> cases u <;> rfl
  · unfold bsB
    simp
end Go.Proofs.Ytpjakgnghpapmaa
