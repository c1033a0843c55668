/- Lines over a cantus: plain. The tones within bounds, how many good ends there are, the line with a number. -/
import Derived.Test.YtdmidimjbhkjoaaLnA
import Derived.Test.YtdmidimjbhkjoaaFgC
namespace Go.Proofs.Ytdmidimjbhkjoaa
set_option linter.unusedSimpArgs false
set_option linter.unusedVariables false
open Go.RowKit

def kyP (t : Pi) : Int := pkI t.step t.alter t.octave
def ikT (f : Int) (t : Pi) : Bool := ikB f t.step t.alter t.octave
theorem kyP_pv {t : Pi} (h : pvP t) : -2 ≤ kyP t := by
  unfold kyP pkI
  unfold pvP at h
  rw [if_pos h]
  have b := shI_bd t.step
  obtain ⟨h0, h1, h2, h3, h4, h5⟩ := pvB_bd h
  omega
/-- the fault of tone p at place k over the cantus c; of the step from q to p there -/
def tnP (f : Int) (c : List Pi) (k : Nat) (p : Pi) : Int := tnK (ikT f p) (kyP (atPi c k)) (kyP p) ((k : Int) == 0) ((k : Int) == (c.length : Int) - 1)
def stP (c : List Pi) (k : Nat) (q p : Pi) : Int := stK (kyP (atPi c (k - 1))) (kyP q) (kyP (atPi c k)) (kyP p)

/-- a sum over the first places of a list -/
def sumK (g : Pi → Int) (T : List Pi) : Nat → Int
  | 0 => 0
  | j + 1 => sumK g T j + g (atPi T j)
theorem sumK_s (g : Pi → Int) (T : List Pi) (j : Nat) : sumK g T (j + 1) = sumK g T j + g (atPi T j) := rfl
theorem sumK_bd {g : Pi → Int} {B : Int} (T : List Pi) (h : ∀ q, 0 ≤ g q ∧ g q ≤ B) : ∀ j : Nat, 0 ≤ sumK g T j ∧ sumK g T j ≤ j * B
  | 0 => by simp [sumK]
  | j + 1 => by
    have a := sumK_bd T h j
    have b := h (atPi T j)
    rw [sumK_s]
    have e : ((j + 1 : Nat) : Int) * B = j * B + B := by rw [Int.natCast_succ, Int.add_mul, Int.one_mul]
    omega
theorem sumK_le {g g' : Pi → Int} (T : List Pi) : ∀ j : Nat, (∀ i, i < j → g (atPi T i) ≤ g' (atPi T i)) → sumK g T j ≤ sumK g' T j
  | 0, _ => Int.le_refl _
  | j + 1, h => by
    have a := sumK_le T j (fun i hi => h i (by omega))
    have b := h j (by omega)
    rw [sumK_s, sumK_s]; omega
theorem sumK_cong {g g' : Pi → Int} (T : List Pi) (j : Nat) (h : ∀ i, i < j → g (atPi T i) = g' (atPi T i)) : sumK g T j = sumK g' T j := by
  have a := sumK_le (g := g) (g' := g') T j (fun i hi => by rw [h i hi]; exact Int.le_refl _)
  have b := sumK_le (g := g') (g' := g) T j (fun i hi => by rw [h i hi]; exact Int.le_refl _)
  omega
theorem sumK_mono {g : Pi → Int} (T : List Pi) (h : ∀ q, 0 ≤ g q) (i : Nat) : ∀ j : Nat, i ≤ j → sumK g T i ≤ sumK g T j
  | 0, hj => by
    obtain rfl : i = 0 := by omega
    exact Int.le_refl _
  | j + 1, hj => by
    by_cases e : i = j + 1
    · subst e; exact Int.le_refl _
    · have := sumK_mono T h i j (by omega)
      have := h (atPi T j)
      rw [sumK_s]; omega
theorem atPi_append {T U : List Pi} {i : Nat} (hi : i < T.length) : atPi (T ++ U) i = atPi T i := by
  unfold atPi
  rw [List.getD_eq_getElem?_getD, List.getD_eq_getElem?_getD, List.getElem?_append_left hi]
theorem atPi_snoc (T : List Pi) (p : Pi) : atPi (T ++ [p]) T.length = p := by
  unfold atPi
  rw [List.getD_eq_getElem?_getD, List.getElem?_append_right (Nat.le_refl _)]
  simp
theorem sumK_append (g : Pi → Int) (T U : List Pi) : ∀ j, j ≤ T.length → sumK g (T ++ U) j = sumK g T j
  | 0, _ => rfl
  | j + 1, h => by rw [sumK_s, sumK_s, sumK_append g T U j (by omega), atPi_append (by omega)]

/-- how many good ends there are behind tone p, m places before the last one -/
def afD (f : Int) (c T : List Pi) : Nat → Pi → Int
  | 0, _ => 1
  | m + 1, p => sumK (fun q => if stP c (c.length - 1 - m) p q = 0 then (if tnP f c (c.length - 1 - m) q = 0 then afD f c T m q else 0) else 0) T T.length
def afI (f : Int) (c T : List Pi) (k : Nat) (p : Pi) : Int := afD f c T (c.length - 1 - k) p
def cnI (f : Int) (c T : List Pi) (k : Nat) (p : Pi) : Int := if tnP f c k p = 0 then afI f c T k p else 0
def nxI (f : Int) (c T : List Pi) (k : Nat) (p q : Pi) : Int := if stP c (k + 1) p q = 0 then cnI f c T (k + 1) q else 0
theorem afI_last {f : Int} {c T : List Pi} {k : Nat} {p : Pi} (h : k + 1 = c.length) : afI f c T k p = 1 := by
  unfold afI
  rw [show c.length - 1 - k = 0 from by omega]
  rfl
theorem afI_next {f : Int} {c T : List Pi} {k : Nat} {p : Pi} (h : k + 1 < c.length) : afI f c T k p = sumK (nxI f c T k p) T T.length := by
  unfold afI
  obtain ⟨m, hm⟩ : ∃ m, c.length - 1 - k = m + 1 := ⟨c.length - 1 - k - 1, by omega⟩
  rw [hm, afD]
  apply sumK_cong
  intro i _
  unfold nxI cnI afI
  have e : c.length - 1 - m = k + 1 := by omega
  have e2 : c.length - 1 - (k + 1) = m := by omega
  rw [e, e2]
theorem afD_bd {f : Int} {c T : List Pi} (hT : T.length ≤ 63) : ∀ (m : Nat) (p : Pi), 0 ≤ afD f c T m p ∧ afD f c T m p ≤ (63 : Int) ^ m
  | 0, p => by simp [afD]
  | m + 1, p => by
    have hp : (0 : Int) ≤ (63 : Int) ^ m := Int.pow_nonneg (by decide)
    have a := sumK_bd (g := fun q => if stP c (c.length - 1 - m) p q = 0 then (if tnP f c (c.length - 1 - m) q = 0 then afD f c T m q else 0) else 0) (B := (63 : Int) ^ m) T (fun q => by
      have b := afD_bd (f := f) (c := c) hT m q
      show 0 ≤ (if stP c (c.length - 1 - m) p q = 0 then (if tnP f c (c.length - 1 - m) q = 0 then afD f c T m q else 0) else 0) ∧ (if stP c (c.length - 1 - m) p q = 0 then (if tnP f c (c.length - 1 - m) q = 0 then afD f c T m q else 0) else 0) ≤ (63 : Int) ^ m
      split
      · split
        · exact b
        · exact ⟨Int.le_refl _, hp⟩
      · exact ⟨Int.le_refl _, hp⟩) T.length
    rw [afD]
    refine ⟨a.1, Int.le_trans a.2 ?_⟩
    rw [Int.pow_succ, Int.mul_comm _ (63 : Int)]
    exact Int.mul_le_mul_of_nonneg_right (by omega) hp
theorem pow63 : ∀ m : Nat, m ≤ 9 → (63 : Int) ^ m ≤ 15633814156853823 := by
  intro m hm
  rcases (show m = 0 ∨ m = 1 ∨ m = 2 ∨ m = 3 ∨ m = 4 ∨ m = 5 ∨ m = 6 ∨ m = 7 ∨ m = 8 ∨ m = 9 from by omega) with rfl | rfl | rfl | rfl | rfl | rfl | rfl | rfl | rfl | rfl <;> decide
theorem afI_bd {f : Int} {c T : List Pi} (hT : T.length ≤ 63) (hc : c.length ≤ 10) (k : Nat) (p : Pi) : 0 ≤ afI f c T k p ∧ afI f c T k p ≤ 15633814156853823 := by
  have a := afD_bd (f := f) (c := c) hT (c.length - 1 - k) p
  have b := pow63 (c.length - 1 - k) (by omega)
  unfold afI
  omega
theorem cnI_bd {f : Int} {c T : List Pi} (hT : T.length ≤ 63) (hc : c.length ≤ 10) (k : Nat) (p : Pi) : 0 ≤ cnI f c T k p ∧ cnI f c T k p ≤ 15633814156853823 := by
  have a := afI_bd (f := f) (c := c) hT hc k p
  unfold cnI
  split <;> omega
theorem nxI_bd {f : Int} {c T : List Pi} (hT : T.length ≤ 63) (hc : c.length ≤ 10) (k : Nat) (p q : Pi) : 0 ≤ nxI f c T k p q ∧ nxI f c T k p q ≤ 15633814156853823 := by
  have a := cnI_bd (f := f) (c := c) hT hc (k + 1) q
  unfold nxI
  split <;> omega
theorem sum_bd {g : Pi → Int} {T : List Pi} (hT : T.length ≤ 63) (h : ∀ q, 0 ≤ g q ∧ g q ≤ 15633814156853823) (j : Nat) (hj : j ≤ T.length) : 0 ≤ sumK g T j ∧ sumK g T j ≤ 984930291881790849 := by
  have a := sumK_bd T h j
  have e : (j : Int) * 15633814156853823 ≤ 63 * 15633814156853823 := Int.mul_le_mul_of_nonneg_right (by omega) (by decide)
  omega
def totI (f : Int) (c T : List Pi) : Int := sumK (cnI f c T 0) T T.length

/-- the first place from which on a number is used up -/
def scI (ok : Pi → Bool) (g : Pi → Int) : List Pi → Int → Option (Pi × Int)
  | [], _ => none
  | p :: r, num => if ok p = true then (if num < g p then some (p, num) else scI ok g r (num - g p)) else scI ok g r num
def gO (ok : Pi → Bool) (g : Pi → Int) (p : Pi) : Int := if ok p = true then g p else 0
def sumL (g : Pi → Int) : List Pi → Int
  | [] => 0
  | p :: r => g p + sumL g r
theorem sumL_snoc (g : Pi → Int) (p : Pi) : ∀ T : List Pi, sumL g (T ++ [p]) = sumL g T + g p
  | [] => by simp [sumL]
  | x :: r => by rw [List.cons_append, sumL, sumL, sumL_snoc g p r]; omega
theorem sumL_append (g : Pi → Int) (U : List Pi) : ∀ T : List Pi, sumL g (T ++ U) = sumL g T + sumL g U
  | [] => by simp [sumL]
  | x :: r => by rw [List.cons_append, sumL, sumL, sumL_append g U r]; omega
theorem sumL_nn {g : Pi → Int} (h : ∀ q, 0 ≤ g q) : ∀ T : List Pi, 0 ≤ sumL g T
  | [] => Int.le_refl _
  | x :: r => by have := h x; have := sumL_nn h r; unfold sumL; omega
theorem sumL_le {g g' : Pi → Int} (h : ∀ q, g q ≤ g' q) : ∀ T : List Pi, sumL g T ≤ sumL g' T
  | [] => Int.le_refl _
  | x :: r => by have := h x; have := sumL_le h r; unfold sumL; omega
theorem take_snocP (T : List Pi) (j : Nat) (h : j < T.length) : T.take (j + 1) = T.take j ++ [atPi T j] := by
  rw [List.take_succ_eq_append_getElem h]
  unfold atPi
  simp [List.getD_eq_getElem?_getD, h]
theorem sumK_L (g : Pi → Int) (T : List Pi) : ∀ j, j ≤ T.length → sumK g T j = sumL g (T.take j)
  | 0, _ => by simp [sumK, sumL]
  | j + 1, h => by rw [sumK_s, sumK_L g T j (by omega), take_snocP T j (by omega), sumL_snoc]
theorem sumK_all (g : Pi → Int) (T : List Pi) : sumK g T T.length = sumL g T := by
  rw [sumK_L g T _ (Nat.le_refl _), List.take_length]
theorem drop_consP (T : List Pi) (i : Nat) (h : i < T.length) : T.drop i = atPi T i :: T.drop (i + 1) := by
  rw [List.drop_eq_getElem_cons h]
  unfold atPi
  simp [List.getD_eq_getElem?_getD, h]
theorem scI_step {ok : Pi → Bool} {g : Pi → Int} {T : List Pi} {i : Nat} (h : i < T.length) (num : Int) : scI ok g (T.drop i) num = if ok (atPi T i) = true then (if num < g (atPi T i) then some (atPi T i, num) else scI ok g (T.drop (i + 1)) (num - g (atPi T i))) else scI ok g (T.drop (i + 1)) num := by
  rw [drop_consP T i h, scI]
theorem scI_end {ok : Pi → Bool} {g : Pi → Int} {T : List Pi} (num : Int) : scI ok g (T.drop T.length) num = none := by
  rw [List.drop_length]; rfl
theorem scI_some {ok : Pi → Bool} {g : Pi → Int} : ∀ (T : List Pi) (num : Int), 0 ≤ num → num < sumL (gO ok g) T → ∃ p r, scI ok g T num = some (p, r) ∧ p ∈ T ∧ ok p = true ∧ 0 ≤ r ∧ r < g p
  | [], num, h0, h => by simp [sumL] at h; omega
  | p :: t, num, h0, h => by
    have h : num < gO ok g p + sumL (gO ok g) t := h
    have hgo : gO ok g p = if ok p = true then g p else 0 := rfl
    rw [hgo] at h
    unfold scI
    by_cases ho : ok p = true
    · rw [if_pos ho] at h ⊢
      by_cases hl : num < g p
      · rw [if_pos hl]; exact ⟨p, num, rfl, List.mem_cons_self, ho, h0, hl⟩
      · rw [if_neg hl]
        obtain ⟨q, r, e, m, o, r0, r1⟩ := scI_some (ok := ok) (g := g) t (num - g p) (by omega) (by omega)
        exact ⟨q, r, e, List.mem_cons_of_mem _ m, o, r0, r1⟩
    · rw [if_neg ho] at h ⊢
      obtain ⟨q, r, e, m, o, r0, r1⟩ := scI_some (ok := ok) (g := g) t num h0 (by omega)
      exact ⟨q, r, e, List.mem_cons_of_mem _ m, o, r0, r1⟩
theorem scI_none {ok : Pi → Bool} {g : Pi → Int} (hg : ∀ q, 0 ≤ g q) : ∀ (T : List Pi) (num : Int), sumL (gO ok g) T ≤ num → scI ok g T num = none
  | [], num, h => rfl
  | p :: t, num, h => by
    have h : gO ok g p + sumL (gO ok g) t ≤ num := h
    have hgo : gO ok g p = if ok p = true then g p else 0 := rfl
    rw [hgo] at h
    have hn := sumL_nn (g := gO ok g) (fun q => by unfold gO; split; exact hg q; exact Int.le_refl _) t
    unfold scI
    by_cases ho : ok p = true
    · rw [if_pos ho] at h ⊢
      rw [if_neg (by omega)]
      exact scI_none hg t _ (by omega)
    · rw [if_neg ho] at h ⊢
      exact scI_none hg t _ (by omega)
theorem scI_rng {ok : Pi → Bool} {g : Pi → Int} : ∀ (T : List Pi) (num : Int) (q : Pi) (s : Int), 0 ≤ num → scI ok g T num = some (q, s) → 0 ≤ s ∧ s < g q
  | [], _, _, _, _, h => by simp [scI] at h
  | x :: t, num, q, s, h0, h => by
    unfold scI at h
    split at h
    · split at h
      · simp only [Option.some.injEq, Prod.mk.injEq] at h
        obtain ⟨rfl, rfl⟩ := h
        exact ⟨h0, by assumption⟩
      · exact scI_rng t _ _ _ (by omega) h
    · exact scI_rng t _ _ _ h0 h
/-- the next number: the same place, or a later one -/
theorem scI_succ {ok : Pi → Bool} {g : Pi → Int} (hg : ∀ q, 0 ≤ g q) : ∀ (T : List Pi) (num : Int), T.Pairwise (fun a b => kyP a < kyP b) → ∀ p r, scI ok g T num = some (p, r) → ∀ q s, scI ok g T (num + 1) = some (q, s) → (q = p ∧ s = r + 1 ∧ r + 1 < g p) ∨ (kyP p < kyP q ∧ r + 1 = g p)
  | [], num, _, p, r, h, _, _, _ => by simp [scI] at h
  | x :: t, num, hp, p, r, h, q, s, h' => by
    have hx := List.pairwise_cons.1 hp
    unfold scI at h h'
    by_cases ho : ok x = true
    · rw [if_pos ho] at h h'
      by_cases hl : num < g x
      · rw [if_pos hl] at h
        simp only [Option.some.injEq, Prod.mk.injEq] at h
        obtain ⟨rfl, rfl⟩ := h
        by_cases hl2 : num + 1 < g x
        · rw [if_pos hl2] at h'
          simp only [Option.some.injEq, Prod.mk.injEq] at h'
          exact .inl ⟨h'.1.symm, h'.2.symm, hl2⟩
        · rw [if_neg hl2] at h'
          refine .inr ⟨hx.1 q ?_, by omega⟩
          exact scI_mem t _ _ _ h'
      · rw [if_neg hl] at h
        rw [if_neg (by omega), show num + 1 - g x = num - g x + 1 from by omega] at h'
        exact scI_succ hg t _ hx.2 p r h q s h'
    · rw [if_neg ho] at h h'
      exact scI_succ hg t _ hx.2 p r h q s h'
  where
  scI_mem {ok : Pi → Bool} {g : Pi → Int} : ∀ (T : List Pi) (num : Int) (q : Pi) (s : Int), scI ok g T num = some (q, s) → q ∈ T
  | [], _, _, _, h => by simp [scI] at h
  | x :: t, num, q, s, h => by
    unfold scI at h
    split at h
    · split at h
      · simp only [Option.some.injEq, Prod.mk.injEq] at h
        rw [← h.1]; exact List.mem_cons_self
      · exact List.mem_cons_of_mem _ (scI_mem t _ _ _ h)
    · exact List.mem_cons_of_mem _ (scI_mem t _ _ _ h)

/-- which tones may follow the tones so far -/
def okI (c acc : List Pi) (p : Pi) : Bool := decide (acc.length = 0 ∨ stP c acc.length (atPi acc (acc.length - 1)) p = 0)
def goL (f : Int) (c T : List Pi) : Nat → List Pi → Int → Option (List Pi)
  | 0, acc, _ => some acc
  | m + 1, acc, num => match scI (okI c acc) (cnI f c T acc.length) T num with
    | none => none
    | some x => goL f c T m (acc ++ [x.1]) x.2
theorem goL_none {f : Int} {c T : List Pi} {m : Nat} {acc : List Pi} {num : Int} (h : scI (okI c acc) (cnI f c T acc.length) T num = none) : goL f c T (m + 1) acc num = none := by unfold goL; rw [h]
theorem goL_some {f : Int} {c T : List Pi} {m : Nat} {acc : List Pi} {num : Int} {p : Pi} {r : Int} (h : scI (okI c acc) (cnI f c T acc.length) T num = some (p, r)) : goL f c T (m + 1) acc num = goL f c T m (acc ++ [p]) r := by
  rw [goL, h]
/-- a line so far: its tones are among T, and have no fault -/
def gdL (f : Int) (c T L : List Pi) : Prop := ∀ i, i < L.length → atPi L i ∈ T ∧ tnP f c i (atPi L i) = 0 ∧ (0 < i → stP c i (atPi L (i - 1)) (atPi L i) = 0)
theorem gdL_snoc {f : Int} {c T L : List Pi} {p : Pi} (h : gdL f c T L) (hp : p ∈ T) (ho : okI c L p = true) (ht : tnP f c L.length p = 0) : gdL f c T (L ++ [p]) := by
  intro i hi
  rw [List.length_append, List.length_singleton] at hi
  by_cases e : i = L.length
  · subst e
    rw [atPi_snoc]
    refine ⟨hp, ht, fun h0 => ?_⟩
    unfold okI at ho
    rw [atPi_append (by omega)]
    rcases of_decide_eq_true ho with h | h
    · omega
    · exact h
  · obtain ⟨a, b, d⟩ := h i (by omega)
    rw [atPi_append (by omega)]
    refine ⟨a, b, fun h0 => ?_⟩
    rw [atPi_append (by omega)]
    exact d h0
theorem goL_good {f : Int} {c T : List Pi} (hT : T.length ≤ 63) (hc : c.length ≤ 10) : ∀ (m : Nat) (acc : List Pi) (num : Int), m + acc.length = c.length → gdL f c T acc → 0 ≤ num → num < sumL (gO (okI c acc) (cnI f c T acc.length)) T ∨ m = 0 → ∃ L, goL f c T m acc num = some L ∧ L.length = c.length ∧ gdL f c T L
  | 0, acc, num, h, hg, h0, _ => ⟨acc, rfl, by omega, hg⟩
  | m + 1, acc, num, h, hg, h0, hn => by
    obtain ⟨p, r, e, hp, ho, r0, r1⟩ := scI_some (ok := okI c acc) (g := cnI f c T acc.length) T num h0 (by omega)
    rw [goL_some e]
    have ht : tnP f c acc.length p = 0 := by
      unfold cnI at r1
      by_cases ht : tnP f c acc.length p = 0
      · exact ht
      · rw [if_neg ht] at r1; omega
    have hl : (acc ++ [p]).length = acc.length + 1 := by simp
    refine goL_good hT hc m (acc ++ [p]) r (by omega) (gdL_snoc hg hp ho ht) r0 ?_
    by_cases hm : m = 0
    · exact .inr hm
    · refine .inl ?_
      unfold cnI at r1
      rw [if_pos ht, afI_next (by omega), sumK_all] at r1
      have e2 : gO (okI c (acc ++ [p])) (cnI f c T (acc ++ [p]).length) = nxI f c T acc.length p := by
        funext q
        unfold gO okI nxI
        rw [hl, show acc.length + 1 - 1 = acc.length from rfl, atPi_snoc]
        by_cases hs : stP c (acc.length + 1) p q = 0
        · rw [if_pos (decide_eq_true (.inr hs)), if_pos hs]
        · rw [if_neg (by simp; exact hs), if_neg hs]
      rw [e2]
      exact r1
/-- the line with a number -/
def lnO (f : Int) (c T : List Pi) (num : Int) : Option (List Pi) := goL f c T c.length [] num
theorem gO_nil {f : Int} {c T : List Pi} : gO (okI c []) (cnI f c T 0) = cnI f c T 0 := by
  funext q
  unfold gO okI
  rw [if_pos (decide_eq_true (.inl rfl))]
theorem lnO_some {f : Int} {c T : List Pi} {num : Int} (hT : T.length ≤ 63) (hc : c.length ≤ 10) (h0 : 0 ≤ num) (h : num < totI f c T) : ∃ L, lnO f c T num = some L ∧ L.length = c.length ∧ gdL f c T L := by
  refine goL_good hT hc c.length [] num (by simp) (fun i hi => by simp at hi) h0 (.inl ?_)
  rw [List.length_nil, gO_nil, ← sumK_all]
  exact h
theorem lnO_none {f : Int} {c T : List Pi} {num : Int} (hT : T.length ≤ 63) (hc : c.length ≤ 10) (h1 : 1 ≤ c.length) (h : totI f c T ≤ num) : lnO f c T num = none := by
  unfold lnO
  obtain ⟨m, hm⟩ : ∃ m, c.length = m + 1 := ⟨c.length - 1, by omega⟩
  rw [hm]
  refine goL_none (scI_none (fun q => (cnI_bd hT hc _ q).1) T num ?_)
  rw [List.length_nil, gO_nil, ← sumK_all]
  exact h
/-- a later line -/
def ltL (L M : List Pi) : Prop := ∃ j, j < L.length ∧ j < M.length ∧ (∀ i, i < j → atPi L i = atPi M i) ∧ kyP (atPi L j) < kyP (atPi M j)
theorem goL_pre {f : Int} {c T : List Pi} : ∀ (m : Nat) (acc : List Pi) (num : Int) (L : List Pi), goL f c T m acc num = some L → L.length = m + acc.length ∧ ∀ i, i < acc.length → atPi L i = atPi acc i
  | 0, acc, num, L, h => by
    simp only [goL, Option.some.injEq] at h
    subst h
    exact ⟨by omega, fun _ _ => rfl⟩
  | m + 1, acc, num, L, h => by
    cases e : scI (okI c acc) (cnI f c T acc.length) T num with
    | none => rw [goL_none e] at h; cases h
    | some x =>
      obtain ⟨p, r⟩ := x
      rw [goL_some e] at h
      obtain ⟨a, b⟩ := goL_pre m _ _ _ h
      rw [List.length_append, List.length_singleton] at a b
      refine ⟨by omega, fun i hi => ?_⟩
      rw [b i (by omega), atPi_append hi]
theorem goL_succ {f : Int} {c T : List Pi} (hT : T.length ≤ 63) (hc : c.length ≤ 10) (hs : T.Pairwise (fun a b => kyP a < kyP b)) : ∀ (m : Nat) (acc : List Pi) (num : Int), 0 < m → m + acc.length = c.length → 0 ≤ num → ∀ L M, goL f c T m acc num = some L → goL f c T m acc (num + 1) = some M → ltL L M
  | 0, _, _, h, _, _, _, _, _, _ => by omega
  | m + 1, acc, num, _, hl, h0, L, M, h, h' => by
    cases e : scI (okI c acc) (cnI f c T acc.length) T num with
    | none => rw [goL_none e] at h; cases h
    | some x =>
      cases e' : scI (okI c acc) (cnI f c T acc.length) T (num + 1) with
      | none => rw [goL_none e'] at h'; cases h'
      | some y =>
        obtain ⟨p, r⟩ := x
        obtain ⟨q, s⟩ := y
        rw [goL_some e] at h
        rw [goL_some e'] at h'
        rcases scI_succ (fun q => (cnI_bd hT hc _ q).1) T num hs p r e q s e' with ⟨rfl, rfl, h1⟩ | ⟨h1, h2⟩
        · by_cases hm : m = 0
          · subst hm
            exfalso
            unfold cnI at h1
            rw [afI_last (by omega)] at h1
            have hr := (scI_rng T num q r h0 e).1
            split at h1 <;> omega
          · exact goL_succ hT hc hs m (acc ++ [q]) r (by omega) (by simp; omega) (scI_rng T num q r h0 e).1 L M h h'
        · obtain ⟨a, b⟩ := goL_pre _ _ _ _ h
          obtain ⟨a', b'⟩ := goL_pre _ _ _ _ h'
          have hA : (acc ++ [p]).length = acc.length + 1 := by simp
          have hB : (acc ++ [q]).length = acc.length + 1 := by simp
          refine ⟨acc.length, by omega, by omega, fun i hi => ?_, ?_⟩
          · rw [b i (by omega), b' i (by omega), atPi_append hi, atPi_append hi]
          · rw [b acc.length (by omega), b' acc.length (by omega), atPi_snoc, atPi_snoc]; exact h1
end Go.Proofs.Ytdmidimjbhkjoaa
