/- The time of a tick: what the sum over tempos is, how it grows. Plain. -/
import Derived.Test.YtaieamobjbckdaaTv
namespace Go.Proofs.Ytaieamobjbckdaa
set_option linter.unusedSimpArgs false
set_option linter.unusedVariables false
open Go.RowKit

def endT (l : List Tp) (k : Int) (j : Nat) : Int := if j + 1 < l.length then min k (atTp l (j + 1)).tick else k
def termT (l : List Tp) (k : Int) (j : Nat) : Int := max 0 (endT l k j - (atTp l j).tick) * (atTp l j).micros
def tsum (l : List Tp) (k : Int) : Nat → Int
  | 0 => 0
  | j + 1 => tsum l k j + termT l k j
def timeI (l : List Tp) (k : Int) : Int := tsum l k l.length

structure TvF (l : List Tp) : Prop where
  len : 1 ≤ l.length
  len8 : l.length ≤ 8
  z : (atTp l 0).tick = 0
  ok : ∀ k, k < l.length → tvOk l k
theorem tvB_of {l : List Tp} (h : tvB l = true) : TvF l := by
  unfold tvB at h
  obtain ⟨a, b, c, d⟩ := of_decide_eq_true h
  exact ⟨a, b, c, d⟩
theorem TvF.tick {l : List Tp} (h : TvF l) : ∀ j, j < l.length → 0 ≤ (atTp l j).tick
  | 0, _ => by rw [h.z]; exact Int.le_refl _
  | j + 1, hj => by
    have h1 := h.tick j (by omega)
    have h2 := (h.ok (j + 1) hj).2.2.2 (by omega)
    simp only [Nat.add_sub_cancel] at h2
    omega
theorem TvF.up {l : List Tp} (h : TvF l) (i : Nat) : ∀ j, i ≤ j → j < l.length → (atTp l i).tick ≤ (atTp l j).tick
  | 0, hi, _ => by obtain rfl : i = 0 := by omega
                   exact Int.le_refl _
  | j + 1, hi, hj => by
    by_cases e : i = j + 1
    · subst e; exact Int.le_refl _
    · have h1 := h.up i j (by omega) (by omega)
      have h2 := (h.ok (j + 1) hj).2.2.2 (by omega)
      simp only [Nat.add_sub_cancel] at h2
      omega
theorem TvF.end_le {l : List Tp} (h : TvF l) (k : Int) (j : Nat) : endT l k j ≤ k := by unfold endT; split <;> omega
theorem mul_bd {x y a b : Int} (h0 : 0 ≤ x) (h1 : x ≤ a) (h2 : 0 ≤ y) (h3 : y ≤ b) : 0 ≤ x * y ∧ x * y ≤ a * b :=
  ⟨Int.mul_nonneg h0 h2, Int.mul_le_mul h1 h3 h2 (by omega)⟩
theorem TvF.term_bd {l : List Tp} (h : TvF l) (k : Int) (h0 : 0 ≤ k) (h1 : k ≤ 60000) (j : Nat) (hj : j < l.length) : 0 ≤ termT l k j ∧ termT l k j ≤ 6000000000 := by
  have ht := h.tick j hj
  obtain ⟨m0, m1, _⟩ := h.ok j hj
  have he := h.end_le k j
  have := mul_bd (x := max 0 (endT l k j - (atTp l j).tick)) (y := (atTp l j).micros) (a := 60000) (b := 100000) (by omega) (by omega) (by omega) (by omega)
  unfold termT
  omega
theorem TvF.sum_bd {l : List Tp} (h : TvF l) (k : Int) (h0 : 0 ≤ k) (h1 : k ≤ 60000) : ∀ j, j ≤ l.length → 0 ≤ tsum l k j ∧ tsum l k j ≤ 6000000000 * j
  | 0, _ => by simp [tsum]
  | j + 1, hj => by
    have a := h.sum_bd k h0 h1 j (by omega)
    have b := h.term_bd k h0 h1 j (by omega)
    simp only [tsum]
    omega
theorem TvF.time_bd {l : List Tp} (h : TvF l) (k : Int) (h0 : 0 ≤ k) (h1 : k ≤ 60000) : 0 ≤ timeI l k ∧ timeI l k ≤ 48000000000 := by
  have := h.sum_bd k h0 h1 _ (Nat.le_refl _)
  have := h.len8
  unfold timeI
  omega
/-- one tick more: every term but one stays; that one grows by its micros -/
theorem TvF.term_step {l : List Tp} (h : TvF l) (k : Int) (j : Nat) (hj : j < l.length) :
    termT l (k + 1) j - termT l k j = if (atTp l j).tick ≤ k ∧ (j + 1 < l.length → k < (atTp l (j + 1)).tick) then (atTp l j).micros else 0 := by
  unfold termT endT
  by_cases h1 : j + 1 < l.length
  · have hup := (h.ok (j + 1) h1).2.2.2 (by omega)
    simp only [Nat.add_sub_cancel] at hup
    rw [if_pos h1, if_pos h1]
    by_cases a : (atTp l j).tick ≤ k
    · by_cases b : k < (atTp l (j + 1)).tick
      · rw [if_pos ⟨a, fun _ => b⟩]
        have e1 : max 0 (min (k + 1) (atTp l (j + 1)).tick - (atTp l j).tick) = (k - (atTp l j).tick) + 1 := by omega
        have e2 : max 0 (min k (atTp l (j + 1)).tick - (atTp l j).tick) = k - (atTp l j).tick := by omega
        rw [e1, e2, Int.add_mul]; omega
      · rw [if_neg (fun c => b (c.2 h1))]
        have e1 : max 0 (min (k + 1) (atTp l (j + 1)).tick - (atTp l j).tick) = max 0 (min k (atTp l (j + 1)).tick - (atTp l j).tick) := by omega
        rw [e1]; omega
    · rw [if_neg (fun c => a c.1)]
      have e1 : max 0 (min (k + 1) (atTp l (j + 1)).tick - (atTp l j).tick) = max 0 (min k (atTp l (j + 1)).tick - (atTp l j).tick) := by omega
      rw [e1]; omega
  · rw [if_neg h1, if_neg h1]
    by_cases a : (atTp l j).tick ≤ k
    · rw [if_pos ⟨a, fun c => absurd c h1⟩]
      have e1 : max 0 (k + 1 - (atTp l j).tick) = (k - (atTp l j).tick) + 1 := by omega
      have e2 : max 0 (k - (atTp l j).tick) = k - (atTp l j).tick := by omega
      rw [e1, e2, Int.add_mul]; omega
    · rw [if_neg (fun c => a c.1)]
      have e1 : max 0 (k + 1 - (atTp l j).tick) = max 0 (k - (atTp l j).tick) := by omega
      rw [e1]; omega
/-- up to term j: nothing where k is behind tempo j's begin; else the micros of one tempo -/
theorem TvF.sum_step {l : List Tp} (h : TvF l) (k : Int) (hk : 0 ≤ k) : ∀ j, j ≤ l.length →
    ((j < l.length → (atTp l j).tick ≤ k) → j < l.length → tsum l (k + 1) j - tsum l k j = 0) ∧
    ((j < l.length → k < (atTp l j).tick) → 0 < j → 100 ≤ tsum l (k + 1) j - tsum l k j ∧ tsum l (k + 1) j - tsum l k j ≤ 100000)
  | 0, _ => ⟨fun _ _ => rfl, fun _ h => absurd h (by omega)⟩
  | j + 1, hj => by
    obtain ⟨i1, i2⟩ := h.sum_step k hk j (by omega)
    have st := h.term_step k j (by omega)
    obtain ⟨m0, m1, _⟩ := h.ok j (by omega)
    simp only [tsum]
    refine ⟨fun ha hb => ?_, fun ha _ => ?_⟩
    · have h1 := ha hb
      have h2 := h.up j (j + 1) (by omega) hb
      have h3 := i1 (fun _ => by omega) (by omega)
      rw [if_neg (by rintro ⟨_, c⟩; have := c hb; omega)] at st
      omega
    · by_cases c : (atTp l j).tick ≤ k
      · have h3 := i1 (fun _ => c) (by omega)
        rw [if_pos ⟨c, ha⟩] at st
        omega
      · have hj0 : 0 < j := by
          rcases Nat.eq_zero_or_pos j with e | e
          · subst e; have := h.z; omega
          · exact e
        have h3 := i2 (fun _ => by omega) hj0
        rw [if_neg (by rintro ⟨d, _⟩; omega)] at st
        omega
theorem TvF.step {l : List Tp} (h : TvF l) (k : Int) (hk : 0 ≤ k) : 100 ≤ timeI l (k + 1) - timeI l k ∧ timeI l (k + 1) - timeI l k ≤ 100000 :=
  (h.sum_step k hk l.length (Nat.le_refl _)).2 (fun c => absurd c (by omega)) (by have := h.len; omega)
theorem TvF.zero {l : List Tp} (h : TvF l) : timeI l 0 = 0 := by
  have : ∀ j, j ≤ l.length → tsum l 0 j = 0 := by
    intro j
    induction j with
    | zero => intro _; rfl
    | succ j ih =>
      intro hj
      have h1 := h.tick j (by omega)
      have e : max 0 (endT l 0 j - (atTp l j).tick) = 0 := by have := h.end_le 0 j; omega
      simp only [tsum, termT, e, ih (by omega)]
      omega
  exact this _ (Nat.le_refl _)
theorem TvF.mono {l : List Tp} (h : TvF l) (a : Int) (ha : 0 ≤ a) (d : Nat) : timeI l a ≤ timeI l (a + d) := by
  induction d with
  | zero => simp
  | succ d ih => have := h.step (a + d) (by omega); rw [show a + ((d + 1 : Nat) : Int) = a + d + 1 from by omega]; omega
theorem TvF.lt {l : List Tp} (h : TvF l) {a b : Int} (ha : 0 ≤ a) (hab : a < b) : timeI l a < timeI l b := by
  obtain ⟨d, rfl⟩ : ∃ d : Nat, b = a + 1 + d := ⟨(b - a - 1).toNat, by omega⟩
  have := h.mono (a + 1) (by omega) d
  have := h.step a ha
  omega
/-- the last tick that begins at a time or before it -/
def tickP (l : List Tp) (t : Int) (m : Int) : Prop := 0 ≤ m ∧ m ≤ 50000 ∧ timeI l m ≤ t ∧ (m < 50000 → t < timeI l (m + 1))
theorem TvF.uniq {l : List Tp} (h : TvF l) {t a b : Int} (ha : tickP l t a) (hb : tickP l t b) : a = b := by
  obtain ⟨a0, a1, a2, a3⟩ := ha
  obtain ⟨b0, b1, b2, b3⟩ := hb
  rcases Int.lt_trichotomy a b with c | c | c
  · exfalso
    have h1 := a3 (by omega)
    rcases Int.lt_or_eq_of_le (show a + 1 ≤ b by omega) with d | d
    · have := h.lt (show 0 ≤ a + 1 by omega) d; omega
    · rw [d] at h1; omega
  · exact c
  · exfalso
    have h1 := b3 (by omega)
    rcases Int.lt_or_eq_of_le (show b + 1 ≤ a by omega) with d | d
    · have := h.lt (show 0 ≤ b + 1 by omega) d; omega
    · rw [d] at h1; omega
noncomputable def tickI (l : List Tp) (t : Int) : Int := Classical.epsilon (tickP l t)
theorem TvF.tickI_eq {l : List Tp} (h : TvF l) {t m : Int} (hm : tickP l t m) : tickI l t = m :=
  h.uniq (Classical.epsilon_spec (p := tickP l t) ⟨m, hm⟩) hm
end Go.Proofs.Ytaieamobjbckdaa
