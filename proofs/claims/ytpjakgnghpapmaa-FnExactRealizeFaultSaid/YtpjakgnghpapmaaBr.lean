/- Chords over a figured bass, plain: the tones of a chord, and which chord is the first that is not right. Sets of tones as maps, plain: how a map from tones to true reads, and when two of them have the same tones. The tones of a chord as a map, and whether two chords have the same tones: the program. Whether a chord is right for its bass and its figure: the program. -/
import Derived.Test.YtpjakgnghpapmaaPtP
import Derived.Test.YtpjakgnghpapmaaFgC
import Derived.Maps.RangeWalk
import Derived.DeepKeys4
import Derived.Test.YtpjakgnghpapmaaBa
import Derived.Test.YtpjakgnghpapmaaBp
import Derived.Test.YtpjakgnghpapmaaSFg
import Derived.Laws.StructEq
namespace Go.Proofs.Ytpjakgnghpapmaa
set_option linter.unusedSimpArgs false
set_option linter.unusedVariables false
section
open Go.RowKit

/-- the same step and the same alteration -/
def clsB (q p : Pi) : Bool := (q.step == p.step) && (q.alter == p.alter)
theorem clsB_sym (q p : Pi) : clsB q p = clsB p q := by
  unfold clsB
  rw [show (q.step == p.step) = (p.step == q.step) from Bool.eq_iff_iff.2 ⟨fun h => by simpa using (of_decide_eq_true h).symm, fun h => by simpa using (of_decide_eq_true h).symm⟩, show (q.alter == p.alter) = (p.alter == q.alter) from Bool.eq_iff_iff.2 ⟨fun h => by simpa using (of_decide_eq_true h).symm, fun h => by simpa using (of_decide_eq_true h).symm⟩]
/-- two pitches are one -/
def piB (p q : Pi) : Bool := (p.step == q.step) && ((p.alter == q.alter) && (p.octave == q.octave))
theorem piB_iff {p q : Pi} : piB p q = true ↔ p = q := by
  unfold piB
  cases p; cases q
  simp
def hasB (L : List Pi) (p : Pi) : Bool := L.any fun q => clsB q p
def fullB (s t : List Pi) : Bool := t.all fun p => hasB s p
def smB (a b : List Pi) : Bool := fullB b a && fullB a b
theorem at_mem {l : List Pi} {k : Nat} (h : k < l.length) : atPi l k ∈ l := by
  unfold atPi
  rw [List.getD_eq_getElem?_getD, List.getElem?_eq_getElem h]
  exact List.getElem_mem h
theorem mem_at {l : List Pi} {p : Pi} (h : p ∈ l) : ∃ k, k < l.length ∧ atPi l k = p := by
  obtain ⟨k, hk, e⟩ := List.getElem_of_mem h
  exact ⟨k, hk, by unfold atPi; rw [List.getD_eq_getElem?_getD, List.getElem?_eq_getElem hk, ← e]; rfl⟩
theorem hasB_yes {L : List Pi} {p : Pi} (k : Nat) (hk : k < L.length) (h : clsB (atPi L k) p = true) : hasB L p = true :=
  List.any_eq_true.2 ⟨_, at_mem hk, h⟩
theorem hasB_no {L : List Pi} {p : Pi} (h : ∀ k, k < L.length → clsB (atPi L k) p = false) : hasB L p = false := by
  unfold hasB
  rw [List.any_eq_false]
  intro q hq
  obtain ⟨k, hk, rfl⟩ := mem_at hq
  rw [h k hk]
  simp
theorem hasB_iff {L : List Pi} {p : Pi} : hasB L p = true ↔ ∃ q ∈ L, clsB q p = true := List.any_eq_true
theorem fullB_yes {s t : List Pi} (h : ∀ k, k < t.length → hasB s (atPi t k) = true) : fullB s t = true := by
  unfold fullB
  rw [List.all_eq_true]
  intro p hp
  obtain ⟨k, hk, rfl⟩ := mem_at hp
  exact h k hk
theorem fullB_no {s t : List Pi} (k : Nat) (hk : k < t.length) (h : hasB s (atPi t k) = false) : fullB s t = false := by
  unfold fullB
  rw [List.all_eq_false]
  exact ⟨_, at_mem hk, by rw [h]; simp⟩
theorem fullB_at {s t : List Pi} (h : fullB s t = true) (k : Nat) (hk : k < t.length) : hasB s (atPi t k) = true := List.all_eq_true.1 h _ (at_mem hk)

/-- the first k below n that is bad, and -1 if there is none -/
def fstI (bad : Nat → Bool) : Nat → Int
  | 0 => -1
  | n + 1 => if fstI bad n = -1 then (if bad n = true then (n : Int) else -1) else fstI bad n
theorem fstI_none {bad : Nat → Bool} : ∀ n, (∀ k, k < n → bad k = false) → fstI bad n = -1
  | 0, _ => rfl
  | n + 1, h => by
    unfold fstI
    rw [if_pos (fstI_none n fun k hk => h k (by omega)), if_neg (by rw [h n (by omega)]; simp)]
theorem fstI_hit {bad : Nat → Bool} {k : Nat} (hb : bad k = true) (h : ∀ j, j < k → bad j = false) : ∀ n, k < n → fstI bad n = (k : Int)
  | 0, hk => by omega
  | n + 1, hk => by
    unfold fstI
    by_cases e : k = n
    · subst e
      rw [if_pos (fstI_none k h), if_pos hb]
    · rw [fstI_hit hb h n (by omega), if_neg (by omega)]
theorem fstI_cases (bad : Nat → Bool) (n : Nat) : (fstI bad n = -1 ∧ ∀ k, k < n → bad k = false) ∨ ∃ k, k < n ∧ fstI bad n = (k : Int) ∧ bad k = true ∧ ∀ j, j < k → bad j = false := by
  by_cases h : ∀ k, k < n → bad k = false
  · exact .inl ⟨fstI_none n h, h⟩
  · have ⟨m, hm⟩ : ∃ m, m < n ∧ bad m = true := by
      apply Classical.byContradiction
      intro z
      exact h fun k hk => by
        cases hb : bad k
        · rfl
        · exact absurd ⟨k, hk, hb⟩ z
    obtain ⟨k, ⟨hk, hb⟩, hmin⟩ : ∃ k, (k < n ∧ bad k = true) ∧ ∀ j, j < k → ¬ (j < n ∧ bad j = true) := by
      obtain ⟨hm1, hm2⟩ := hm
      induction m using Nat.strongRecOn with
      | ind m ih =>
        by_cases z : ∃ j, j < m ∧ bad j = true
        · obtain ⟨j, hj, hb⟩ := z
          exact ih j hj (by omega) hb
        · exact ⟨m, ⟨hm1, hm2⟩, fun j hj y => z ⟨j, hj, y.2⟩⟩
    have hm2 : ∀ j, j < k → bad j = false := fun j hj => by
      cases hb2 : bad j
      · rfl
      · exact absurd ⟨by omega, hb2⟩ (hmin j hj)
    exact .inr ⟨k, hk, fstI_hit hb hm2 n hk, hb, hm2⟩

/-- a fault at chord k -/
def ftB (ll : List (List Pi)) (k : Nat) : Bool := (sfK ll k != 0) || (mfK ll k != 0)
def anyAt (L : List Fa) (k : Nat) : Bool := L.any fun x => x.pos == (k : Int)
theorem anyAt_snoc (L : List Fa) (x : Fa) (k : Nat) : anyAt (L ++ [x]) k = (anyAt L k || (x.pos == (k : Int))) := by
  unfold anyAt; rw [List.any_append]; simp
theorem anyAt_app (L M : List Fa) (k : Nat) : anyAt (L ++ M) k = (anyAt L k || anyAt M k) := by
  unfold anyAt; rw [List.any_append]
theorem anyAt_one (j : Nat) (x : Int) (k : Nat) : anyAt (oneF j x) k = (decide (j = k) && (x != 0)) := by
  unfold oneF anyAt
  by_cases h : x = 0
  · rw [if_pos h, h]; simp
  · rw [if_neg h]
    have e : (x != 0) = true := by simp [h]
    rw [e]
    by_cases c : j = k
    · subst c; simp
    · have : ¬ (j : Int) = (k : Int) := by omega
      simp [c, this]
theorem anyAt_pfK (ll : List (List Pi)) (k : Nat) : ∀ n, anyAt (pfK ll n) k = (decide (k < n) && ftB ll k)
  | 0 => by unfold pfK anyAt; simp
  | n + 1 => by
    unfold pfK
    rw [anyAt_app, anyAt_app, anyAt_pfK ll k n, anyAt_one, anyAt_one]
    by_cases h : n = k
    · subst h
      unfold ftB
      simp
    · have e : decide (n = k) = false := decide_eq_false h
      rw [e]
      have e2 : decide (k < n + 1) = decide (k < n) := by
        by_cases c : k < n
        · rw [decide_eq_true c, decide_eq_true (by omega)]
        · rw [decide_eq_false c, decide_eq_false (by omega)]
      rw [e2]
      simp
theorem pfK_pos (ll : List (List Pi)) : ∀ n, ∀ x ∈ pfK ll n, ∃ k, k < n ∧ x.pos = (k : Int)
  | 0, x, h => by unfold pfK at h; simp at h
  | n + 1, x, h => by
    unfold pfK at h
    rw [List.mem_append, List.mem_append] at h
    rcases h with (h | h) | h
    · obtain ⟨k, hk, e⟩ := pfK_pos ll n x h; exact ⟨k, by omega, e⟩
    all_goals
      unfold oneF at h
      split at h
      · simp at h
      · simp at h; subst h; exact ⟨n, by omega, rfl⟩
/-- the chord is right for its bass and its figure -/
def rcB (f : Int) (b : Pi) (g : Int) (s : List Pi) : Bool := (decide (0 < (fgL f b g).length) && decide (0 < s.length)) && (piB (atPi s 0) b && smB s (fgL f b g))
/-- the chord k is not right -/
def bdB (f : Int) (bs : List Pi) (gs : List Int) (ll : List (List Pi)) (k : Nat) : Bool := ftB ll k || !rcB f (atPi bs k) (gs.getD k 0) (atPP ll k)
def rfP (f : Int) (bs : List Pi) (gs : List Int) (ll : List (List Pi)) : Prop := (-7 ≤ f ∧ f ≤ 7) ∧ ll.length ≤ 8 ∧ bs.length = ll.length ∧ gs.length = ll.length
instance (f : Int) (bs : List Pi) (gs : List Int) (ll : List (List Pi)) : Decidable (rfP f bs gs ll) := by unfold rfP; infer_instance
/-- the number of the first chord that is not right -/
def rfI (f : Int) (bs : List Pi) (gs : List Int) (ll : List (List Pi)) : Int := if rfP f bs gs ll then fstI (bdB f bs gs ll) ll.length else -1
theorem rfI_no {f : Int} {bs : List Pi} {gs : List Int} {ll : List (List Pi)} (h : ¬ rfP f bs gs ll) : rfI f bs gs ll = -1 := if_neg h
theorem rfI_yes {f : Int} {bs : List Pi} {gs : List Int} {ll : List (List Pi)} (h : rfP f bs gs ll) : rfI f bs gs ll = fstI (bdB f bs gs ll) ll.length := if_pos h
theorem stkF_ok {l : List Pi} (h : stkF l = 0) : l.length = 4 ∧ ∀ k, k < l.length → pvQ (atPi l k) := by
  have ha : apB l 4 4 = true := by
    cases e : apB l 4 4
    · rw [stkF_1 e] at h; omega
    · rfl
  unfold apB at ha
  have := of_decide_eq_true ha
  exact ⟨by omega, fun k hk => this.2 k hk⟩
theorem ftB_ok {ll : List (List Pi)} {k : Nat} (h : ftB ll k = false) : (atPP ll k).length = 4 ∧ ∀ j, j < (atPP ll k).length → pvQ (atPi (atPP ll k) j) := by
  unfold ftB at h
  rw [Bool.or_eq_false_iff] at h
  have h1 : sfK ll k = 0 := by simpa using h.1
  exact stkF_ok h1
/-- the tones of a figure are valid -/
theorem fgL_pv (f : Int) (b : Pi) (g : Int) : ∀ k, k < (fgL f b g).length → pvQ (atPi (fgL f b g) k) := by
  unfold fgL
  by_cases h : fgP f b g
  · rw [if_pos h]
    obtain ⟨_, hb, _, hk⟩ := h
    have key : ∀ n, n ≤ (stL g).length → ∀ k, k < (fgK f (plI b) b (stL g) n).length → pvQ (atPi (fgK f (plI b) b (stL g) n) k) := by
      intro n
      induction n with
      | zero => intro _ k hk; unfold fgK at hk ⊢; simp at hk; subst hk; exact hb
      | succ n ih =>
        intro hn k hkl
        have hl := fgK_len f (plI b) b (stL g) n
        rw [fgK_len] at hkl
        unfold fgK
        by_cases e : k < n + 1
        · have : atPi (fgK f (plI b) b (stL g) n ++ [kpP f (plI b + (stL g).getD n 0)]) k = atPi (fgK f (plI b) b (stL g) n) k := by
            unfold atPi
            rw [List.getD_eq_getElem?_getD, List.getElem?_append_left (by omega), ← List.getD_eq_getElem?_getD]
          rw [this]
          exact ih (by omega) k (by omega)
        · obtain rfl : k = n + 1 := by omega
          have : atPi (fgK f (plI b) b (stL g) n ++ [kpP f (plI b + (stL g).getD n 0)]) (n + 1) = kpP f (plI b + (stL g).getD n 0) := by
            unfold atPi
            rw [List.getD_eq_getElem?_getD, List.getElem?_append_right (by omega), hl]
            simp
          rw [this]
          exact hk n (by omega)
    exact key _ (Nat.le_refl _)
  · rw [if_neg h]; intro k hk; simp at hk
/-- what the reference asks of the chord k -/
def bsB (f : Int) (b : Pi) (g : Int) (s : List Pi) (ft : Bool) : Bool := (((fgL f b g).length == 0) || (s.length != 4) || !piB (atPi s 0) b || !fullB s (fgL f b g)) || (!fullB (fgL f b g) s) || ft
theorem bsB_eq (f : Int) (bs : List Pi) (gs : List Int) (ll : List (List Pi)) (k : Nat) : bsB f (atPi bs k) (gs.getD k 0) (atPP ll k) (ftB ll k) = bdB f bs gs ll k := by
  unfold bdB
  cases hf : ftB ll k
  · have hl := (ftB_ok hf).1
    unfold bsB rcB smB
    rw [hl]
    have e : ∀ n : Nat, (n == 0) = !decide (0 < n) := fun n => by cases n <;> simp
    rw [e]
    generalize decide (0 < (fgL f (atPi bs k) (gs.getD k 0)).length) = x
    generalize fullB (atPP ll k) (fgL f (atPi bs k) (gs.getD k 0)) = y
    generalize fullB (fgL f (atPi bs k) (gs.getD k 0)) (atPP ll k) = z
    generalize piB (atPi (atPP ll k) 0) (atPi bs k) = u
    cases x <;> cases y <;> cases z <;> cases u <;> rfl
  · unfold bsB
    simp
end
section
open Go.RowKit Go.Maps

theorem tonK : Keyed Try.prog 111 := Keyed.of_law (deep_law_laid (by kernel_rfl) (m := 2) (by omega) (of_decide_eq_true (by kernel_rfl)) (by kernel_rfl) (by rw [Try.underlying111]))
/-- how a tone reads as a key -/
def tl (s a : Int) : Lit := .string (keyBytes [.int .i64 s, .int .i64 a])
theorem tl_key {s a : Int} (h0 : 0 ≤ s) (h1 : s ≤ 6) (h2 : -2 ≤ a) (h3 : a ≤ 2) : keyOf Try.prog 111 (.agg #[.int .i64 s, .int .i64 a]) = some (tl s a) := by
  rcases (show s = 0 ∨ s = 1 ∨ s = 2 ∨ s = 3 ∨ s = 4 ∨ s = 5 ∨ s = 6 from by omega) with rfl | rfl | rfl | rfl | rfl | rfl | rfl <;>
  rcases (show a = -2 ∨ a = -1 ∨ a = 0 ∨ a = 1 ∨ a = 2 from by omega) with rfl | rfl | rfl | rfl | rfl <;> kernel_rfl
theorem tl_pv {p : Pi} (h : pvQ p) : keyOf Try.prog 111 (.agg #[.int .i64 p.step, .int .i64 p.alter]) = some (tl p.step p.alter) := by
  obtain ⟨h0, h1, h2, h3, _, _⟩ := pvB_bd h
  exact tl_key h0 h1 h2 h3
theorem tl_cls {p q : Pi} (hp : pvQ p) (hq : pvQ q) : (tl p.step p.alter).sameKey (tl q.step q.alter) = clsB p q := by
  cases h : clsB p q
  · refine sameKey_ne (fun e => ?_)
    have h1 := tl_pv hp
    have h2 := tl_pv hq
    rw [e] at h1
    have h3 := tonK.inj h1 h2
    simp only [Value.agg.injEq, Array.mk.injEq, List.cons.injEq, Value.int.injEq, true_and, and_true] at h3
    unfold clsB at h
    rw [h3.1, h3.2] at h
    simp at h
  · unfold clsB at h
    rw [Bool.and_eq_true] at h
    rw [show p.step = q.step from by simpa using h.1, show p.alter = q.alter from by simpa using h.2]
    exact WideAt.sameKey_self (tonK.key (tl_pv hq))
/-- the keys of the tones of a list -/
def tls (l : List Pi) : List Lit := l.map fun p => tl p.step p.alter
/-- the datum of the tones of a list -/
def TN (l : List Pi) : DataW Unit := setOf (.lit (.bool true)) (tls l)
def pvAll (l : List Pi) : Prop := ∀ k, k < l.length → pvQ (atPi l k)
theorem pvAll_mem {l : List Pi} (h : pvAll l) {p : Pi} (hp : p ∈ l) : pvQ p := by
  obtain ⟨k, hk, rfl⟩ := mem_at hp
  exact h k hk
theorem tn_keys {l : List Pi} (h : pvAll l) : ∀ x ∈ tls l, WideAt.IsKeyLit x := by
  intro x hx
  unfold tls at hx
  obtain ⟨p, hp, rfl⟩ := List.mem_map.1 hx
  exact tonK.key (tl_pv (pvAll_mem h hp))
theorem has_TN {l : List Pi} (h : pvAll l) (kl : Lit) : has (TN l) kl = l.any fun p => (tl p.step p.alter).sameKey kl := by
  unfold TN
  rw [has_setOf _ _ _ (tn_keys h)]
  unfold tls
  rw [List.any_map]
  rfl
theorem has_hasB {l : List Pi} (h : pvAll l) {p : Pi} (hp : pvQ p) : has (TN l) (tl p.step p.alter) = hasB l p := by
  rw [has_TN h]
  unfold hasB
  have key : ∀ m : List Pi, (∀ q ∈ m, pvQ q) → (m.any fun q => (tl q.step q.alter).sameKey (tl p.step p.alter)) = m.any fun q => clsB q p := by
    intro m
    induction m with
    | nil => intro _; rfl
    | cons a r ih =>
      intro hm
      rw [List.any_cons, List.any_cons, ih fun q hq => hm q (List.mem_cons_of_mem _ hq), tl_cls (hm a (List.mem_cons_self ..)) hp]
  exact key l fun q hq => pvAll_mem h hq
theorem at_fold (u z : DataW Unit) (kl : Lit) : ∀ (xs : List Lit) (m : DataW Unit), IsMap m → (∀ x ∈ xs, WideAt.IsKeyLit x) → m.atKey kl z = (if has m kl then u else z) → (xs.foldl (fun m x => m.put x u) m).atKey kl z = (if has (xs.foldl (fun m x => m.put x u) m) kl then u else z)
  | [], m, _, _, h => h
  | x :: xs, m, hm, hk, h => by
    refine at_fold u z kl xs (m.put x u) (hm.put x u) (fun y hy => hk y (List.mem_cons_of_mem _ hy)) ?_
    by_cases e : kl = x
    · subst e
      rw [atKey_put_same hm (hk _ (List.mem_cons_self ..)), has_put_same hm (hk _ (List.mem_cons_self ..)), if_pos rfl]
    · rw [atKey_put_other e, has_put_other e]; exact h
theorem at_TN {l : List Pi} (h : pvAll l) (kl : Lit) : (TN l).atKey kl (.lit (.bool false)) = .lit (.bool (has (TN l) kl)) := by
  have := at_fold (.lit (.bool true)) (.lit (.bool false)) kl (tls l) (.map []) isMap_empty (tn_keys h) (by rfl)
  have e : TN l = (tls l).foldl (fun m x => m.put x (.lit (.bool true))) (.map []) := rfl
  rw [← e] at this
  rw [this]
  cases has (TN l) kl <;> rfl
theorem TN_nil : TN [] = .map [] := rfl
theorem TN_snoc (l : List Pi) (p : Pi) : TN (l ++ [p]) = (TN l).put (tl p.step p.alter) (.lit (.bool true)) := by
  unfold TN
  rw [show tls (l ++ [p]) = tls l ++ [tl p.step p.alter] from by unfold tls; rw [List.map_append]; rfl]
  exact setOf_snoc _ _ _
theorem TN_tidy {l : List Pi} (h : pvAll l) : Tidy (TN l) := tidy_setOf _ _ (tn_keys h)
/-- a list without repeats that lies in another is not longer -/
theorem nodup_le {α : Type} : ∀ (l m : List α), l.Pairwise (fun p q => p ≠ q) → (∀ x ∈ l, x ∈ m) → l.length ≤ m.length
  | [], _, _, _ => Nat.zero_le _
  | a :: r, m, hn, hs => by
    obtain ⟨h1, h2⟩ := List.pairwise_cons.1 hn
    obtain ⟨s, t, rfl⟩ := List.append_of_mem (hs a (List.mem_cons_self ..))
    have := nodup_le r (s ++ t) h2 fun x hx => by
      have := hs x (List.mem_cons_of_mem _ hx)
      rw [List.mem_append, List.mem_cons] at this
      rcases this with h | h | h
      · exact List.mem_append.2 (.inl h)
      · exact absurd h.symm (h1 x hx)
      · exact List.mem_append.2 (.inr h)
    simp only [List.length_append, List.length_cons] at this ⊢
    omega
/-- .. and if it is as long, the other lies in it -/
theorem nodup_eq {α : Type} (l m : List α) (hl : l.Pairwise (fun p q => p ≠ q)) (hm : m.Pairwise (fun p q => p ≠ q)) (hs : ∀ x ∈ l, x ∈ m) (he : m.length ≤ l.length) : ∀ x ∈ m, x ∈ l := by
  intro x hx
  apply Classical.byContradiction
  intro hn
  have := nodup_le (x :: l) m (List.pairwise_cons.2 ⟨fun y hy e => hn (e ▸ hy), hl⟩) fun y hy => by
    rcases List.mem_cons.1 hy with rfl | h
    · exact hx
    · exact hs y h
  simp only [List.length_cons] at this
  omega
theorem put_litKeys {D : DataW Unit} {kl : Lit} {d : DataW Unit} {es : List (Lit × DataW Unit)} (hD : ∃ fs, D = .map fs ∧ ∀ y ∈ fs, WideAt.IsKeyLit y.1) (hk : WideAt.IsKeyLit kl) : ∃ fs, D.put kl d = .map fs ∧ ∀ y ∈ fs, WideAt.IsKeyLit y.1 := by
  obtain ⟨fs, rfl, h⟩ := hD
  refine ⟨_, rfl, fun y hy => ?_⟩
  rcases ChangeMaps.mem_insert_iff.1 hy with rfl | hy
  · exact hk
  · exact h y (List.mem_filter.1 hy).1
theorem fold_litKeys (u : DataW Unit) : ∀ (xs : List Lit) (m : DataW Unit), (∃ fs, m = .map fs ∧ ∀ y ∈ fs, WideAt.IsKeyLit y.1) → (∀ x ∈ xs, WideAt.IsKeyLit x) → ∃ fs, xs.foldl (fun m x => m.put x u) m = .map fs ∧ ∀ y ∈ fs, WideAt.IsKeyLit y.1
  | [], _, h, _ => h
  | x :: xs, m, h, hk => fold_litKeys u xs (m.put x u) (put_litKeys (es := []) h (hk x (List.mem_cons_self ..))) (fun y hy => hk y (List.mem_cons_of_mem _ hy))
theorem TN_litKeys {l : List Pi} (h : pvAll l) {es : List (Lit × DataW Unit)} (he : TN l = .map es) {y : Lit × DataW Unit} (hy : y ∈ es) : WideAt.IsKeyLit y.1 := by
  obtain ⟨fs, e, hf⟩ := fold_litKeys (.lit (.bool true)) (tls l) (.map []) ⟨[], rfl, by simp⟩ (tn_keys h)
  have : TN l = .map fs := e
  rw [he] at this
  cases this
  exact hf y hy
/-- the keys of a map, without repeats -/
theorem keysOf_TN {l : List Pi} (h : pvAll l) : ∃ ks : List Lit, ks.Pairwise (fun p q => p ≠ q) ∧ size (TN l) = ks.length ∧ (∀ p ∈ l, tl p.step p.alter ∈ ks) ∧ (∀ k ∈ ks, ∃ p ∈ l, k = tl p.step p.alter) := by
  obtain ⟨es, he, hp⟩ := TN_tidy h
  refine ⟨es.map (·.1), by rw [List.pairwise_map]; exact hp, by rw [he]; simp [size], fun p hpl => ?_, fun k hk => ?_⟩
  · have h1 : has (TN l) (tl p.step p.alter) = true := by
      rw [has_TN h, List.any_eq_true]
      exact ⟨p, hpl, WideAt.sameKey_self (tonK.key (tl_pv (pvAll_mem h hpl)))⟩
    rw [he] at h1
    obtain ⟨x, hx, hxs⟩ := List.any_eq_true.1 h1
    exact List.mem_map.2 ⟨x, hx, WideAt.sameKey_eq hxs⟩
  · obtain ⟨x, hx, rfl⟩ := List.mem_map.1 hk
    have hkey : ∀ y ∈ es, ∃ p ∈ l, y.1 = tl p.step p.alter := by
      intro y hy
      have : has (TN l) y.1 = true := by
        rw [he]
        refine List.any_eq_true.2 ⟨y, hy, ?_⟩
        have hik : WideAt.IsKeyLit y.1 := TN_litKeys h he hy
        exact WideAt.sameKey_self hik
      rw [has_TN h, List.any_eq_true] at this
      obtain ⟨p, hpl, hs⟩ := this
      exact ⟨p, hpl, (WideAt.sameKey_eq hs).symm⟩
    exact hkey x hx
theorem full_has {a b : List Pi} (ha : pvAll a) (hb : pvAll b) : fullB b a = true ↔ ∀ p ∈ a, has (TN b) (tl p.step p.alter) = true := by
  unfold fullB
  rw [List.all_eq_true]
  constructor
  · intro h p hp; rw [has_hasB hb (pvAll_mem ha hp)]; exact h p hp
  · intro h p hp; rw [← has_hasB hb (pvAll_mem ha hp)]; exact h p hp
theorem has_key {l : List Pi} (h : pvAll l) {ks : List Lit} (h1 : ∀ p ∈ l, tl p.step p.alter ∈ ks) (h2 : ∀ k ∈ ks, ∃ p ∈ l, k = tl p.step p.alter) (kl : Lit) : has (TN l) kl = true ↔ kl ∈ ks := by
  rw [has_TN h, List.any_eq_true]
  constructor
  · rintro ⟨p, hp, hs⟩
    rw [← WideAt.sameKey_eq hs]; exact h1 p hp
  · intro hk
    obtain ⟨p, hp, rfl⟩ := h2 kl hk
    exact ⟨p, hp, WideAt.sameKey_self (tonK.key (tl_pv (pvAll_mem h hp)))⟩
theorem sm_len {a b : List Pi} (ha : pvAll a) (hb : pvAll b) (h : size (TN a) ≠ size (TN b)) : smB a b = false := by
  cases hs : smB a b
  · rfl
  · exfalso
    unfold smB at hs
    rw [Bool.and_eq_true] at hs
    obtain ⟨k1, n1, l1, i1, j1⟩ := keysOf_TN ha
    obtain ⟨k2, n2, l2, i2, j2⟩ := keysOf_TN hb
    have s12 : ∀ x ∈ k1, x ∈ k2 := fun x hx => by
      obtain ⟨p, hp, rfl⟩ := j1 x hx
      exact (has_key hb i2 j2 _).1 ((full_has ha hb).1 hs.1 p hp)
    have s21 : ∀ x ∈ k2, x ∈ k1 := fun x hx => by
      obtain ⟨p, hp, rfl⟩ := j2 x hx
      exact (has_key ha i1 j1 _).1 ((full_has hb ha).1 hs.2 p hp)
    have := nodup_le _ _ n1 s12
    have := nodup_le _ _ n2 s21
    omega
theorem sm_sub {a b : List Pi} (ha : pvAll a) (hb : pvAll b) (h : size (TN a) = size (TN b)) (hs : ∀ kl, has (TN a) kl = true → has (TN b) kl = true) : smB a b = true := by
  obtain ⟨k1, n1, l1, i1, j1⟩ := keysOf_TN ha
  obtain ⟨k2, n2, l2, i2, j2⟩ := keysOf_TN hb
  have s12 : ∀ x ∈ k1, x ∈ k2 := fun x hx => (has_key hb i2 j2 x).1 (hs x ((has_key ha i1 j1 x).2 hx))
  have s21 := nodup_eq k1 k2 n1 n2 s12 (by omega)
  unfold smB
  rw [Bool.and_eq_true]
  exact ⟨(full_has ha hb).2 fun p hp => hs _ ((has_key ha i1 j1 _).2 (i1 p hp)), (full_has hb ha).2 fun p hp => (has_key ha i1 j1 _).2 (s21 _ (i2 p hp))⟩
theorem sm_bad {a b : List Pi} (ha : pvAll a) (hb : pvAll b) {kl : Lit} (h1 : has (TN a) kl = true) (h2 : has (TN b) kl = false) : smB a b = false := by
  obtain ⟨k1, n1, l1, i1, j1⟩ := keysOf_TN ha
  obtain ⟨p, hp, rfl⟩ := j1 kl ((has_key ha i1 j1 kl).1 h1)
  have : fullB b a = false := by
    cases hf : fullB b a
    · rfl
    · have := (full_has ha hb).1 hf p hp
      rw [h2] at this
      cases this
  unfold smB
  rw [this]
  rfl
end
section
open Go.RowKit Go.Maps

theorem plainElem_bool_inv {H : Type} {P : Program} {e : TypeId} (he : P.underlying e = some .bool) {v : Value} {z : DataW H × List MemPlace} (h : plainElem P e v = some z) : ∃ a, v = .bool a ∧ z = (.lit (.bool a), []) := by
  unfold plainElem at h
  rw [he] at h
  cases v <;> simp at h
  subst h
  exact ⟨_, rfl, rfl⟩
theorem lookup_bool {H : Type} {P : Program} (w : World) {ops : Array Oper} {rest : List Oper} {o : Oper} {a : Act} {Q : Exit → Act → World → Prop}
    (hg : o.guard = none) (m x : Operand) (t : TypeId) (hop : o.op = Op.lookup t m x false)
    (k e : TypeId) (K : Keyed P k) (ht : P.underlying t = some (.map k e)) (he : P.underlying e = some .bool) (hz : (zeroValue e).run P w = .ok (.bool false) w) (b n : Nat) (D : DataW H)
    (hm : a.eval m = .map (some b)) (hown : w.ownsMap P k (plainElem P e) b n D) (key : Value) (kl : Lit) (hx : a.eval x = key) (hkey : keyOf P k key = some kl)
    (hK : ∀ c : Bool, D.atKey kl (.lit (.bool false)) = .lit (.bool c) → wpList P ops Q rest (a.put o.dst (.bool c)) w) :
    wpList P ops Q (o :: rest) a w := by
  refine wpList_plain hg fun K' hK' => ?_
  obtain ⟨v, ps, hrun, hv⟩ := hown.lookup K ht hz (plainElem_bool he false) hkey
  obtain ⟨c, rfl, hc⟩ := plainElem_bool_inv he hv
  simp only [Prod.mk.injEq] at hc
  unfold Oper.wp
  simp [execOp, hop, hm, hx, hrun, Result.andThen]
  exact hK' _ _ (hK c hc.1)
theorem bel_grownBy {w w' : World} (h : Below w.heap.size w w') : w.grownBy w' none := ⟨h.os, h.tape, h.output, h.size, fun i hi _ => h.block i hi⟩
theorem map_below {H : Type} {P : Program} {k : TypeId} {R : Value → Option (DataW H × List MemPlace)} {w w' : World} {b n : Nat} {D : DataW H} (h : w.ownsMap P k R b n D) (hb : Below w.heap.size w w') : w'.ownsMap P k R b n D := h.kept (bel_grownBy hb) (by simp)
theorem bel_of_none {w w' : World} (h : w.grownBy w' none) : Below w.heap.size w w' := ⟨h.os, h.tape, h.output, h.size, fun i hi => h.block i hi (by simp)⟩
theorem bel_row {W w w' : World} {b : Nat} (h : Below W.heap.size W w) (hg : w.grownBy w' (some b)) (hb : W.heap.size ≤ b) : Below W.heap.size W w' := bel_grown h hg (fun k hk => by cases hk; exact hb)
theorem int_lits {P : Program} {q : IntKind} {t : TypeId} (ht : P.underlying t = some (.int q)) {x : Value} {ls : List Lit} : ∀ d, P.keyLits d t [x] = some ls → ∃ n, x = .int q n
  | 0, h => by simp [Program.keyLits] at h
  | d + 1, h => by
    unfold Program.keyLits at h
    rw [ht] at h
    cases x <;> simp at h
    exact ⟨_, by rw [h.1.1]⟩
theorem pair_lits {P : Program} {t ti : TypeId} {q : IntKind} {fs : Array Field} (ht : P.underlying t = some (.struct fs)) (hfs : ∃ f0 f1, fs.toList = [f0, f1] ∧ f0.type = ti ∧ f1.type = ti ∧ f0.offset = 0 ∧ f1.offset = 1) (hc : P.cellsOf ti = 1) (hti : P.underlying ti = some (.int q)) {x y : Value} {ls : List Lit} : ∀ d, P.keyLits d t [x, y] = some ls → ∃ a b, x = .int q a ∧ y = .int q b
  | 0, h => by simp [Program.keyLits] at h
  | d + 1, h => by
    obtain ⟨f0, f1, e, e0, e1, o0, o1⟩ := hfs
    unfold Program.keyLits at h
    rw [ht] at h
    simp only at h
    split at h
    · obtain ⟨m, hm, _⟩ := Option.map_eq_some_iff.1 h
      rw [e] at hm
      simp [List.mapM_cons, e0, e1, o0, o1, hc, Option.bind_eq_some_iff] at hm
      obtain ⟨l0, h0, l1, ⟨l2, h1, _⟩, _⟩ := hm
      obtain ⟨n0, rfl⟩ := int_lits hti _ h0
      obtain ⟨n1, rfl⟩ := int_lits hti _ h1
      exact ⟨n0, n1, rfl, rfl⟩
    · cases h
theorem key_shape {P : Program} {k ti : TypeId} {q : IntKind} {fs : Array Field} (hu : P.underlying k = some (.struct fs)) (hc2 : P.cellsOf k = 2) (hfs : ∃ f0 f1, fs.toList = [f0, f1] ∧ f0.type = ti ∧ f1.type = ti ∧ f0.offset = 0 ∧ f1.offset = 1) (hc : P.cellsOf ti = 1) (hti : P.underlying ti = some (.int q)) {key : Value} {kl : Lit} (h : keyOf P k key = some kl) : ∃ x : Int × Int, key = .agg #[.int q x.1, .int q x.2] := by
  unfold keyOf at h
  rw [hu] at h
  simp only at h
  split at h
  · rename_i hf
    rw [Bool.and_eq_true] at hf
    obtain ⟨hkt, hf⟩ := hf
    cases key <;> simp [Value.formed, hu] at hf
    rename_i cs
    rw [hc2] at hf
    obtain ⟨x, y, rfl⟩ : ∃ x y, cs = #[x, y] := by
      rcases cs with ⟨cs⟩
      cases cs with
      | nil => simp at hf
      | cons x r =>
        cases r with
        | nil => simp at hf
        | cons y r =>
          cases r with
          | nil => exact ⟨x, y, rfl⟩
          | cons z r => simp at hf
    obtain ⟨ls, hls, _⟩ := Option.map_eq_some_iff.1 h
    rw [show (Value.agg #[x, y]).cells.toList = [x, y] from rfl] at hls
    obtain ⟨a, b, rfl, rfl⟩ := pair_lits hu hfs hc hti _ hls
    exact ⟨(a, b), rfl⟩
  · cases h
theorem ton_shape {key : Value} {kl : Lit} (h : keyOf Try.prog 111 key = some kl) : ∃ x : Int × Int, key = .agg #[.int .i64 x.1, .int .i64 x.2] :=
  key_shape Try.underlying111 (by kernel_rfl) ⟨_, _, rfl, rfl, rfl, rfl, rfl⟩ (by kernel_rfl) Try.underlying3 h
set_option maxHeartbeats 400000 in
theorem tone_any (s a o : Int) (w : World) : Calls Try.prog 93 #[.agg #[.int .i64 s, .int .i64 a, .int .i64 o]] w fun e w' => e = .returned (.agg #[.int .i64 s, .int .i64 a]) ∧ Below w.heap.size w w' := by
  go_enter Try.func93, Try.ntmps93
  go_wp2
  exact bodyPost_ret (v := .agg #[.int .i64 s, .int .i64 a]) (by simp [results, Try.results93, go_sem]) rfl ⟨rfl, by repeat (first | (with_reducible assumption) | (exact bel_undr (by with_reducible assumption)) | (with_reducible exact bel_refl _) | (with_reducible refine bel_dr ?_) | (with_reducible refine bel_drN ?_ _) | (with_reducible refine bel_al ?_ _) | (refine bel_set ?_ (by first | (simp; done) | (simp; exact Below.size (by assumption)) | (simp; omega)) _) | (with_reducible refine bel_tr ?_ (by assumption)))⟩
def TonR (w : World) (l : List Pi) (e : Ending) (w' : World) : Prop :=
  ∃ b, e = .returned (.map (some b)) ∧ w.heap.size ≤ b ∧ w'.ownsMap Try.prog 111 (plainElem Try.prog 4) b l.length (TN l) ∧ Below w.heap.size w w'
theorem take_snocPi {l : List Pi} {k : Nat} (h : k < l.length) : l.take (k + 1) = l.take k ++ [atPi l k] := by
  rw [List.take_succ_eq_append_getElem h]
  unfold atPi
  rw [List.getD_eq_getElem?_getD, List.getElem?_eq_getElem h]
  rfl
set_option maxRecDepth 20000 in
set_option maxHeartbeats 2000000 in
theorem tones_any (A : Option Addr) (n c : Nat) (l : List Pi) (w : World) (hn : l.length = n) (hm : n ≤ 2000000) (h : RowPi w w.heap.size A l) (hv : pvAll l) :
    Calls Try.prog 87 #[.slice A n c] w (TonR w l) := by
  subst hn
  have HV := Lib.hid hv
  clear hv
  have hmm := @run_makeMap Try.prog
  go_enter Try.func87, Try.ntmps87
  go_wp2
  go_loopw [9] (fun i wr => ∃ k : Nat, k ≤ l.length ∧ i = .int .i64 k ∧ wr.ownsMap Try.prog 111 (plainElem Try.prog 4) w.heap.size k (TN (l.take k)) ∧ Below w.heap.size w wr) (fun i _ => l.length - (intOf i).toNat)
  case atStart => exact ⟨0, Nat.zero_le _, rfl, World.ownsMap_made _ _ _ _, bel_al (bel_refl w) _⟩
  case round =>
    obtain ⟨k, hk, rfl, hown, hb⟩ := hrel
    by_cases hlt : k < l.length
    · obtain ⟨b, off, rfl, hlb, hc⟩ := (h.below hb) (by omega)
      obtain ⟨p0, p1, p2⟩ := hc k hlt
      have hkl : (k : Int) < (l.length : Int) := by omega
      have hk0 : (0 : Int) ≤ (k : Int) := by omega
      have HQ := Lib.hid (HV.out k hlt)
      have HT := Lib.hid (take_snocPi hlt)
      clear hc h
      obtain ⟨t, ht⟩ : ∃ t, atPi l k = t := ⟨_, rfl⟩
      rw [ht] at p0 p1 p2 HQ HT
      clear ht
      obtain ⟨s, a, o⟩ := t
      simp only at p0 p1 p2
      have hL := hb.size
      go_wp2_with fail
      refine (tone_any s a o _).mono ?_
      rintro e1 w1 ⟨rfl, b1⟩
      have b2 : Below wr.heap.size wr w1 := bel_tr (by repeat (first | (with_reducible assumption) | (exact bel_undr (by with_reducible assumption)) | (with_reducible exact bel_refl _) | (with_reducible refine bel_dr ?_) | (with_reducible refine bel_drN ?_ _) | (with_reducible refine bel_al ?_ _) | (refine bel_set ?_ (by first | (simp; done) | (simp; exact Below.size (by assumption)) | (simp; omega)) _) | (with_reducible refine bel_tr ?_ (by assumption)))) b1
      have hown1 := map_below hown b2
      have hb1 := bel_tr hb b2
      clear b1 b2 p0 p1 p2 hown
      go_wp2_with (at_mapUpdate; refine wpList_mapUpdate_own _ rfl _ _ _ 108 rfl 111 4 tonK Try.underlying108 _ w.heap.size k _ rfl hown1 (by unfold maxLen; omega) _ _ (tl s a) rfl rfl (tl_pv HQ.out) _ [] (plainElem_bool Try.underlying4 true) ?_; intro w2 hown2 hgrow2)
      go_roundw
      case rel => exact ⟨k + 1, by omega, by go_num, by rw [HT.out, TN_snoc]; exact hown2, bel_row hb1 hgrow2 (Nat.le_refl _)⟩
      case measure => simp [intOf]; omega
    · obtain rfl : k = l.length := by omega
      rw [List.take_length] at hown
      go_wp2
      exact bodyPost_ret (v := .map (some w.heap.size)) (by simp [results, Try.results87, go_sem]) rfl ⟨_, rfl, Nat.le_refl _, hown, hb⟩
set_option maxRecDepth 20000 in
set_option maxHeartbeats 4000000 in
theorem same_any (A A' : Option Addr) (n n' c c' : Nat) (a b : List Pi) (w : World) (hn : a.length = n) (hn' : b.length = n') (hm : n ≤ 2000000) (hm' : n' ≤ 2000000) (h : RowPi w w.heap.size A a) (h' : RowPi w w.heap.size A' b) (ha : pvAll a) (hb : pvAll b) :
    Calls Try.prog 79 #[.slice A n c, .slice A' n' c'] w fun e w' => e = .returned (.bool (smB a b)) ∧ Below w.heap.size w w' := by
  subst hn
  subst hn'
  have HA := Lib.hid ha
  have HB := Lib.hid hb
  clear ha hb
  have zB : ∀ w : World, (zeroValue 4).run Try.prog w = .ok (.bool false) w := fun _ => by kernel_rfl
  have HZ := Lib.hid zB
  clear zB
  go_enter Try.func79, Try.ntmps79
  go_wp2_with fail
  refine (tones_any A _ c a _ rfl hm h HA.out).mono ?_
  rintro e1 w1 ⟨x, rfl, hx, ox, b1⟩
  have h2 := h'.below b1
  go_wp2_with fail
  refine (tones_any A' _ c' b _ rfl hm' h2 HB.out).mono ?_
  rintro e2 w2 ⟨y, rfl, hy, oy, b2⟩
  have hs1 := b1.size
  have hxl := ox.lt
  have hyl := oy.lt
  replace ox := map_below ox b2
  have bw := bel_tr b1 b2
  clear h2 h h' b1 b2
  have hL := bw.size
  obtain ⟨N1, hN1⟩ : ∃ N, size (TN a) = N := ⟨_, rfl⟩
  obtain ⟨N2, hN2⟩ : ∃ N, size (TN b) = N := ⟨_, rfl⟩
  have HN1 := Lib.hid hN1
  have HN2 := Lib.hid hN2
  clear hN1 hN2
  have tok1 : True := trivial
  by_cases hN : N1 = N2
  · have HE := Lib.hid (HN1.out.trans (hN.trans HN2.out.symm))
    have ht : ((N1 : Int) != (N2 : Int)) = false := by rw [hN]; simp
    have hlen : @Maps.size Unit (TN a) = N1 := HN1.out
    clear hN
    go_wp2_with (first
      | (at_len; have _t := tok1; refine wpList_len_own _ rfl _ 108 rfl 111 4 Try.underlying108 (plainElem Try.prog 4) x _ (TN a) rfl ox ?_; rw [HN1.out]; clear tok1)
      | (at_len; refine wpList_len_own _ rfl _ 108 rfl 111 4 Try.underlying108 (plainElem Try.prog 4) y _ (TN b) rfl oy ?_; rw [HN2.out])
      | (at_range; refine wpList_range_own _ rfl _ 108 rfl 111 4 tonK Try.underlying108 _ x _ _ rfl ox ?_; intro w0 hrg0 hg0 hs0))
    go_frame
    have bw0 := bel_tr bw (bel_of_none hg0)
    have oy0 := oy.kept hg0 (by simp)
    have hw0 : w2.heap.size < w0.heap.size := by omega
    have hr2 : w.heap.size ≤ w2.heap.size := hL
    clear hg0 oy ox bw hs0
    go_loopw [7] (fun _ wr => ∃ (left : Lit → Bool) (cnt : Nat), wr.ranges Try.prog 111 (plainElem Try.prog 4) x w2.heap.size a.length (TN a) left cnt ∧ wr.ownsMap Try.prog 111 (plainElem Try.prog 4) y b.length (TN b) ∧ Below w.heap.size w wr ∧ Hid (∀ kl, has (TN a) kl = true → left kl = false → has (TN b) kl = true)) (fun _ wr => wr.rangeLeft x w2.heap.size)
    case atStart => exact ⟨_, _, hrg0, oy0, bw0, fun kl h1 h2 => by rw [h1] at h2; cases h2⟩
    case round =>
      obtain ⟨left, cnt, hrg, hoy, hb, HS⟩ := hrel
      clear hrg0 oy0 bw0
      go_wp2_with (first
        | (at_next; refine wpList_next_ranges (α := Int × Int) (β := Bool) _ rfl _ rfl 111 tonK (plainElem Try.prog 4) (fun z => .agg #[.int .i64 z.1, .int .i64 z.2]) Value.bool (fun key kl hk => ton_shape hk) (fun v z hz => by obtain ⟨c, rfl, _⟩ := plainElem_bool_inv Try.underlying4 hz; exact ⟨c, rfl⟩) x w2.heap.size _ _ _ _ rfl hrg ?_ ?_ <;> (first | (rintro ⟨s, t⟩ d kl ⟨z, zp⟩ w4 cnt4 hkey hlx hz hat hrg4 hlt hg4 hs4 hen; have HT := Lib.hid hat; have hoy4 := (hoy.kept hg4 (by simp; omega)).alloc (.cells #[.int .i64 s, .int .i64 t] 111); have hrg5 := hrg4.alloc (.cells #[.int .i64 s, .int .i64 t] 111); have hb5 := bel_al (bel_row hb hg4 hr2) (.cells #[.int .i64 s, .int .i64 t] 111); clear hat hrg4) | (intro hc0 hl0)))
        | (at_lookup; refine lookup_bool _ rfl _ _ 108 rfl 111 4 tonK Try.underlying108 Try.underlying4 (HZ.out _) y _ _ rfl hoy4 _ kl rfl hkey ?_; intro cc hcc; have HC := Lib.hid hcc; clear hcc; cases cc))
      · have HT := Lib.hid (sm_sub HA.out HB.out HE.out (fun kl h => HS.out kl h (hl0 kl)))
        go_ret
        exact ⟨ret_bool HT.out.symm, hb⟩
      · have h2 : has (TN b) kl = false := by have := (at_TN HB.out kl).symm.trans HC.out; simpa using this
        have HF := Lib.hid (sm_bad HA.out HB.out (has_true_of_atKey HT.out) h2)
        clear h2
        go_ret
        exact ⟨ret_bool HF.out.symm, hb5⟩
      · have h2 : has (TN b) kl = true := by have := (at_TN HB.out kl).symm.trans HC.out; simpa using this
        go_roundw
        case rel => exact ⟨_, cnt4, hrg5, hoy4, hb5, fun k2 h3 h4 => by
          cases hl : left k2
          · exact HS.out k2 h3 hl
          · rw [hl] at h4
            have : k2.sameKey kl = true := by simpa using h4
            rw [WideAt.sameKey_eq this]; exact h2⟩
        case measure => rw [hrg5.left_eq, hrg.left_eq]; exact hlt
  · have HE := Lib.hid (sm_len HA.out HB.out (by rw [HN1.out, HN2.out]; exact hN))
    have ht : ((N1 : Int) != (N2 : Int)) = true := by simp; omega
    clear hN
    go_wp2_with (first
      | (at_len; have _t := tok1; refine wpList_len_own _ rfl _ 108 rfl 111 4 Try.underlying108 (plainElem Try.prog 4) x _ (TN a) rfl ox ?_; rw [HN1.out]; clear tok1)
      | (at_len; refine wpList_len_own _ rfl _ 108 rfl 111 4 Try.underlying108 (plainElem Try.prog 4) y _ (TN b) rfl oy ?_; rw [HN2.out]))
    go_ret
    exact ⟨ret_bool HE.out.symm, bw⟩
end
section
open Go.RowKit

/-- where two pitches part -/
theorem pi_part (p q : Pi) : p = q ∨ ((p.step == q.step) = false) ∨ (p.step = q.step ∧ (p.alter == q.alter) = false) ∨ (p.step = q.step ∧ p.alter = q.alter ∧ (p.octave == q.octave) = false) := by
  by_cases h0 : p.step = q.step
  · by_cases h1 : p.alter = q.alter
    · by_cases h2 : p.octave = q.octave
      · left; cases p; cases q; simp_all
      · right; right; right; exact ⟨h0, h1, by simpa using h2⟩
    · right; right; left; exact ⟨h0, by simpa using h1⟩
  · right; left; simpa using h0
theorem piB_ne {p q : Pi} (h : ¬ p = q) : piB p q = false := by
  cases e : piB p q
  · rfl
  · exact absurd (piB_iff.1 e) h
set_option maxRecDepth 20000 in
set_option maxHeartbeats 4000000 in
theorem rc_any (f : Int) (b : Pi) (g : Int) (A : Option Addr) (c : Nat) (s : List Pi) (w : World) (hs4 : s.length = 4) (hs : pvAll s) (h : RowPi w w.heap.size A s) :
    Calls Try.prog 58 #[.int .i64 f, .agg #[.int .i64 b.step, .int .i64 b.alter, .int .i64 b.octave], .int .i64 g, .slice A s.length c] w fun e w' => e = .returned (.bool (rcB f b g s)) ∧ Below w.heap.size w w' := by
  obtain ⟨L, hL⟩ : ∃ L, fgL f b g = L := ⟨_, rfl⟩
  obtain ⟨v, hv⟩ : ∃ v, rcB f b g s = v := ⟨_, rfl⟩
  have hLp : pvAll L := by rw [← hL]; exact fgL_pv f b g
  have hL4 : L.length ≤ 4 := by rw [← hL]; exact fgL_len f b g
  have hv2 : ((decide (0 < L.length) && decide (0 < s.length)) && (piB (atPi s 0) b && smB s L)) = v := by rw [← hL, ← hv]; rfl
  rw [hv]
  obtain ⟨sb, so, rfl, hsb, hsc⟩ := h (by omega)
  obtain ⟨d0, d1, d2⟩ := hsc 0 (by omega)
  simp only [Nat.zero_mul, Nat.add_zero] at d0 d1 d2
  obtain ⟨p, hp⟩ : ∃ p, atPi s 0 = p := ⟨_, rfl⟩
  rw [hp] at d0 d1 d2 hv2
  obtain ⟨b0, b1, b2⟩ := b
  obtain ⟨p0, p1, p2⟩ := p
  simp only at d0 d1 d2
  have HL := Lib.hid hL
  have HV := Lib.hid hv2
  have HP := Lib.hid hp
  have HS := Lib.hid hs
  have HLP := Lib.hid hLp
  rw [hs4]
  have H4 := Lib.hid hs4
  have HPP := Lib.hid (pi_part ⟨p0, p1, p2⟩ ⟨b0, b1, b2⟩)
  clear hL hv hv2 hp hs hLp hsc hs4
  have b0w : Blk (w.alloc (.cells #[.int .i64 b0, .int .i64 b1, .int .i64 b2] 62)) w.heap.size #[.int .i64 b0, .int .i64 b1, .int .i64 b2] 62 := Blk.new w _ _
  have bw : Below w.heap.size w (w.alloc (.cells #[.int .i64 b0, .int .i64 b1, .int .i64 b2] 62)) := bel_al (bel_refl w) _
  go_enter Try.func58, Try.ntmps58
  go_wp2_with fail
  generalize (w.alloc (.cells #[.int .i64 b0, .int .i64 b1, .int .i64 b2] 62)) = w0 at *
  refine (fg_val HL.out _).mono ?_
  rintro e1 w1 ⟨A9, c9, rfl, lc9, cm9, r9, _, be1⟩
  have b0w := b0w.below be1
  have q0 : w1.cell? ⟨w.heap.size, 0, none⟩ = some (.int .i64 b0) := by rw [Blk.cell b0w]; rfl
  have q1 : w1.cell? ⟨w.heap.size, 1, none⟩ = some (.int .i64 b1) := by rw [Blk.cell b0w]; rfl
  have q2 : w1.cell? ⟨w.heap.size, 2, none⟩ = some (.int .i64 b2) := by rw [Blk.cell b0w]; rfl
  replace bw := bel_tr bw be1
  have hS := h.below bw
  replace d0 := keep_tr d0 bw
  replace d1 := keep_tr d1 bw
  replace d2 := keep_tr d2 bw
  clear h b0w be1
  go_upto_region 2 with fail
  by_cases hL0 : 0 < L.length
  · have i0 : (0 : Int) < (L.length : Int) := by omega
    have i1 : ¬ L.length = 0 := by omega
    have tl0 : decide (0 < L.length) = true := decide_eq_true hL0
    rcases HPP.out with he | h1 | ⟨h1, h2⟩ | ⟨h1, h2, h3⟩
    · cases he
      obtain ⟨sv, hsv⟩ : ∃ sv, smB s L = sv := ⟨_, rfl⟩
      have HSV := Lib.hid hsv
      clear hsv
      have HE := Lib.hid (show sv = v from by have q := HV.out; rw [HSV.out, decide_eq_true hL0, H4.out, piB_iff.2 rfl] at q; simpa using q)
      have LS : ∀ xL : Later w1, Calls Try.prog 79 #[.slice (some ⟨sb, so, none⟩) 4 c, .slice A9 L.length c9] xL.world fun e w'' => e = .returned (.bool sv) ∧ ∃ z : Later w1, w'' = z.world := fun xL => later_call (by have q := same_any (some ⟨sb, so, none⟩) A9 4 L.length c c9 s L xL.world H4.out rfl (by omega) (by omega) (hS.below xL.bel) (r9.below xL.bel) HS.out HLP.out; rw [HSV.out] at q; exact q)
      have lf0 : ∀ xL : Later w1, xL.world.cell? ⟨w.heap.size, 0, none⟩ = some (.int .i64 b0) := fun xL => xL.at (q0)
      have lf1 : ∀ xL : Later w1, xL.world.cell? ⟨w.heap.size, 1, none⟩ = some (.int .i64 b1) := fun xL => xL.at (q1)
      have lf2 : ∀ xL : Later w1, xL.world.cell? ⟨w.heap.size, 2, none⟩ = some (.int .i64 b2) := fun xL => xL.at (q2)
      have lf3 : ∀ xL : Later w1, xL.world.cell? ⟨sb, so, none⟩ = some (.int .i64 b0) := fun xL => xL.at (d0)
      have lf4 : ∀ xL : Later w1, xL.world.cell? ⟨sb, so + 1, none⟩ = some (.int .i64 b1) := fun xL => xL.at (d1)
      have lf5 : ∀ xL : Later w1, xL.world.cell? ⟨sb, so + 2, none⟩ = some (.int .i64 b2) := fun xL => xL.at (d2)
      refine region_later (w0 := w1) (by kernel_rfl) (by kernel_rfl) (bel_refl _) ?_
      repeat (go_big_quiet_step ((first | (go_at_call 79; with_reducible exact LS _))))
      refine wpQuiet_nil ?_
      rintro w' ⟨x, rfl⟩
      obtain ⟨w9, b9⟩ := x
      clear lf0 lf1 lf2 lf3 lf4 lf5
      clear LS
      go_wp2
      go_ret
      exact ⟨ret_bool (HE.out), bel_tr bw b9⟩
    · have HE := Lib.hid (show false = v from by have q := HV.out; rw [piB_ne (fun z => by cases z; simp at h1)] at q; simpa using q)
      have lf0 : ∀ xL : Later w1, xL.world.cell? ⟨w.heap.size, 0, none⟩ = some (.int .i64 b0) := fun xL => xL.at (q0)
      have lf1 : ∀ xL : Later w1, xL.world.cell? ⟨w.heap.size, 1, none⟩ = some (.int .i64 b1) := fun xL => xL.at (q1)
      have lf2 : ∀ xL : Later w1, xL.world.cell? ⟨w.heap.size, 2, none⟩ = some (.int .i64 b2) := fun xL => xL.at (q2)
      have lf3 : ∀ xL : Later w1, xL.world.cell? ⟨sb, so, none⟩ = some (.int .i64 p0) := fun xL => xL.at (d0)
      have lf4 : ∀ xL : Later w1, xL.world.cell? ⟨sb, so + 1, none⟩ = some (.int .i64 p1) := fun xL => xL.at (d1)
      have lf5 : ∀ xL : Later w1, xL.world.cell? ⟨sb, so + 2, none⟩ = some (.int .i64 p2) := fun xL => xL.at (d2)
      refine region_later (w0 := w1) (by kernel_rfl) (by kernel_rfl) (bel_refl _) ?_
      repeat (go_big_quiet_step ((fail)))
      refine wpQuiet_nil ?_
      rintro w' ⟨x, rfl⟩
      obtain ⟨w9, b9⟩ := x
      clear lf0 lf1 lf2 lf3 lf4 lf5
      go_wp2
      go_ret
      exact ⟨ret_bool (HE.out), bel_tr bw b9⟩
    · subst h1
      have HE := Lib.hid (show false = v from by have q := HV.out; rw [piB_ne (fun z => by cases z; simp at h2)] at q; simpa using q)
      have lf0 : ∀ xL : Later w1, xL.world.cell? ⟨w.heap.size, 0, none⟩ = some (.int .i64 p0) := fun xL => xL.at (q0)
      have lf1 : ∀ xL : Later w1, xL.world.cell? ⟨w.heap.size, 1, none⟩ = some (.int .i64 b1) := fun xL => xL.at (q1)
      have lf2 : ∀ xL : Later w1, xL.world.cell? ⟨w.heap.size, 2, none⟩ = some (.int .i64 b2) := fun xL => xL.at (q2)
      have lf3 : ∀ xL : Later w1, xL.world.cell? ⟨sb, so, none⟩ = some (.int .i64 p0) := fun xL => xL.at (d0)
      have lf4 : ∀ xL : Later w1, xL.world.cell? ⟨sb, so + 1, none⟩ = some (.int .i64 p1) := fun xL => xL.at (d1)
      have lf5 : ∀ xL : Later w1, xL.world.cell? ⟨sb, so + 2, none⟩ = some (.int .i64 p2) := fun xL => xL.at (d2)
      refine region_later (w0 := w1) (by kernel_rfl) (by kernel_rfl) (bel_refl _) ?_
      repeat (go_big_quiet_step ((fail)))
      refine wpQuiet_nil ?_
      rintro w' ⟨x, rfl⟩
      obtain ⟨w9, b9⟩ := x
      clear lf0 lf1 lf2 lf3 lf4 lf5
      go_wp2
      go_ret
      exact ⟨ret_bool (HE.out), bel_tr bw b9⟩
    · subst h1
      subst h2
      have HE := Lib.hid (show false = v from by have q := HV.out; rw [piB_ne (fun z => by cases z; simp at h3)] at q; simpa using q)
      have lf0 : ∀ xL : Later w1, xL.world.cell? ⟨w.heap.size, 0, none⟩ = some (.int .i64 p0) := fun xL => xL.at (q0)
      have lf1 : ∀ xL : Later w1, xL.world.cell? ⟨w.heap.size, 1, none⟩ = some (.int .i64 p1) := fun xL => xL.at (q1)
      have lf2 : ∀ xL : Later w1, xL.world.cell? ⟨w.heap.size, 2, none⟩ = some (.int .i64 b2) := fun xL => xL.at (q2)
      have lf3 : ∀ xL : Later w1, xL.world.cell? ⟨sb, so, none⟩ = some (.int .i64 p0) := fun xL => xL.at (d0)
      have lf4 : ∀ xL : Later w1, xL.world.cell? ⟨sb, so + 1, none⟩ = some (.int .i64 p1) := fun xL => xL.at (d1)
      have lf5 : ∀ xL : Later w1, xL.world.cell? ⟨sb, so + 2, none⟩ = some (.int .i64 p2) := fun xL => xL.at (d2)
      refine region_later (w0 := w1) (by kernel_rfl) (by kernel_rfl) (bel_refl _) ?_
      repeat (go_big_quiet_step ((fail)))
      refine wpQuiet_nil ?_
      rintro w' ⟨x, rfl⟩
      obtain ⟨w9, b9⟩ := x
      clear lf0 lf1 lf2 lf3 lf4 lf5
      go_wp2
      go_ret
      exact ⟨ret_bool (HE.out), bel_tr bw b9⟩
  · have hL9 : L.length = 0 := by omega
    have HE := Lib.hid (show false = v from by have q := HV.out; rw [decide_eq_false hL0] at q; simpa using q)
    rw [hL9]
    clear hL9
    refine region_later (w0 := w1) (by kernel_rfl) (by kernel_rfl) (bel_refl _) ?_
    repeat (go_big_quiet_step ((fail)))
    refine wpQuiet_nil ?_
    rintro w' ⟨x, rfl⟩
    obtain ⟨w9, b9⟩ := x
    go_wp2
    go_ret
    exact ⟨ret_bool (HE.out), bel_tr bw b9⟩
end
end Go.Proofs.Ytpjakgnghpapmaa
