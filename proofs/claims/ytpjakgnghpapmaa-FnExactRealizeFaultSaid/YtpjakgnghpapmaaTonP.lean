/- Sets of tones as maps, plain: how a map from tones to true reads, and when two of them have the same tones. -/
import Derived.Test.YtpjakgnghpapmaaRfP
import Derived.Maps.RangeWalk
import Derived.DeepKeys4
namespace Go.Proofs.Ytpjakgnghpapmaa
set_option linter.unusedSimpArgs false
set_option linter.unusedVariables false
open Go.RowKit Go.Maps

theorem tonK : Keyed Try.prog 111 := Keyed.of_law (deep_law_laid (by kernel_rfl) (m := 2) (by omega) (of_decide_eq_true (by kernel_rfl)) (by kernel_rfl) (by rw [Try.underlying111]))
/-- how a tone reads as a key -/
def tl (s a : Int) : Lit := .string (keyBytes [.int .i64 s, .int .i64 a])
theorem tl_key {s a : Int} (h0 : 0 ≤ s) (h1 : s ≤ 6) (h2 : -2 ≤ a) (h3 : a ≤ 2) : keyOf Try.prog 111 (.agg #[.int .i64 s, .int .i64 a]) = some (tl s a) := by
  rcases (show s = 0 ∨ s = 1 ∨ s = 2 ∨ s = 3 ∨ s = 4 ∨ s = 5 ∨ s = 6 from by omega) with rfl | rfl | rfl | rfl | rfl | rfl | rfl <;>
  rcases (show a = -2 ∨ a = -1 ∨ a = 0 ∨ a = 1 ∨ a = 2 from by omega) with rfl | rfl | rfl | rfl | rfl <;> kernel_rfl
theorem tl_pv {p : Pi} (h : pvQ p) : keyOf Try.prog 111 (.agg #[.int .i64 p.step, .int .i64 p.alter]) = some (tl p.step p.alter) := by
  obtain ⟨h0, h1, h2, h3, _, _⟩ := pvB_bd h
  exact tl_key h0 h1 h2 h3
theorem tl_cls {p q : Pi} (hp : pvQ p) (hq : pvQ q) : (tl p.step p.alter).sameKey (tl q.step q.alter) = clsB p q := by
  cases h : clsB p q
  · refine sameKey_ne (fun e => ?_)
    have h1 := tl_pv hp
    have h2 := tl_pv hq
    rw [e] at h1
    have h3 := tonK.inj h1 h2
    simp only [Value.agg.injEq, Array.mk.injEq, List.cons.injEq, Value.int.injEq, true_and, and_true] at h3
    unfold clsB at h
    rw [h3.1, h3.2] at h
    simp at h
  · unfold clsB at h
    rw [Bool.and_eq_true] at h
    rw [show p.step = q.step from by simpa using h.1, show p.alter = q.alter from by simpa using h.2]
    exact WideAt.sameKey_self (tonK.key (tl_pv hq))
/-- the keys of the tones of a list -/
def tls (l : List Pi) : List Lit := l.map fun p => tl p.step p.alter
/-- the datum of the tones of a list -/
def TN (l : List Pi) : DataW Unit := setOf (.lit (.bool true)) (tls l)
def pvAll (l : List Pi) : Prop := ∀ k, k < l.length → pvQ (atPi l k)
theorem pvAll_mem {l : List Pi} (h : pvAll l) {p : Pi} (hp : p ∈ l) : pvQ p := by
  obtain ⟨k, hk, rfl⟩ := mem_at hp
  exact h k hk
theorem tn_keys {l : List Pi} (h : pvAll l) : ∀ x ∈ tls l, WideAt.IsKeyLit x := by
  intro x hx
  unfold tls at hx
  obtain ⟨p, hp, rfl⟩ := List.mem_map.1 hx
  exact tonK.key (tl_pv (pvAll_mem h hp))
theorem has_TN {l : List Pi} (h : pvAll l) (kl : Lit) : has (TN l) kl = l.any fun p => (tl p.step p.alter).sameKey kl := by
  unfold TN
  rw [has_setOf _ _ _ (tn_keys h)]
  unfold tls
  rw [List.any_map]
  rfl
theorem has_hasB {l : List Pi} (h : pvAll l) {p : Pi} (hp : pvQ p) : has (TN l) (tl p.step p.alter) = hasB l p := by
  rw [has_TN h]
  unfold hasB
  have key : ∀ m : List Pi, (∀ q ∈ m, pvQ q) → (m.any fun q => (tl q.step q.alter).sameKey (tl p.step p.alter)) = m.any fun q => clsB q p := by
    intro m
    induction m with
    | nil => intro _; rfl
    | cons a r ih =>
      intro hm
      rw [List.any_cons, List.any_cons, ih fun q hq => hm q (List.mem_cons_of_mem _ hq), tl_cls (hm a (List.mem_cons_self ..)) hp]
  exact key l fun q hq => pvAll_mem h hq
theorem at_fold (u z : DataW Unit) (kl : Lit) : ∀ (xs : List Lit) (m : DataW Unit), IsMap m → (∀ x ∈ xs, WideAt.IsKeyLit x) → m.atKey kl z = (if has m kl then u else z) → (xs.foldl (fun m x => m.put x u) m).atKey kl z = (if has (xs.foldl (fun m x => m.put x u) m) kl then u else z)
  | [], m, _, _, h => h
  | x :: xs, m, hm, hk, h => by
    refine at_fold u z kl xs (m.put x u) (hm.put x u) (fun y hy => hk y (List.mem_cons_of_mem _ hy)) ?_
    by_cases e : kl = x
    · subst e
      rw [atKey_put_same hm (hk _ (List.mem_cons_self ..)), has_put_same hm (hk _ (List.mem_cons_self ..)), if_pos rfl]
    · rw [atKey_put_other e, has_put_other e]; exact h
theorem at_TN {l : List Pi} (h : pvAll l) (kl : Lit) : (TN l).atKey kl (.lit (.bool false)) = .lit (.bool (has (TN l) kl)) := by
  have := at_fold (.lit (.bool true)) (.lit (.bool false)) kl (tls l) (.map []) isMap_empty (tn_keys h) (by rfl)
  have e : TN l = (tls l).foldl (fun m x => m.put x (.lit (.bool true))) (.map []) := rfl
  rw [← e] at this
  rw [this]
  cases has (TN l) kl <;> rfl
theorem TN_nil : TN [] = .map [] := rfl
theorem TN_snoc (l : List Pi) (p : Pi) : TN (l ++ [p]) = (TN l).put (tl p.step p.alter) (.lit (.bool true)) := by
  unfold TN
  rw [show tls (l ++ [p]) = tls l ++ [tl p.step p.alter] from by unfold tls; rw [List.map_append]; rfl]
  exact setOf_snoc _ _ _
theorem TN_tidy {l : List Pi} (h : pvAll l) : Tidy (TN l) := tidy_setOf _ _ (tn_keys h)
/-- a list without repeats that lies in another is not longer -/
theorem nodup_le {α : Type} : ∀ (l m : List α), l.Pairwise (fun p q => p ≠ q) → (∀ x ∈ l, x ∈ m) → l.length ≤ m.length
  | [], _, _, _ => Nat.zero_le _
  | a :: r, m, hn, hs => by
    obtain ⟨h1, h2⟩ := List.pairwise_cons.1 hn
    obtain ⟨s, t, rfl⟩ := List.append_of_mem (hs a (List.mem_cons_self ..))
    have := nodup_le r (s ++ t) h2 fun x hx => by
      have := hs x (List.mem_cons_of_mem _ hx)
      rw [List.mem_append, List.mem_cons] at this
      rcases this with h | h | h
      · exact List.mem_append.2 (.inl h)
      · exact absurd h.symm (h1 x hx)
      · exact List.mem_append.2 (.inr h)
    simp only [List.length_append, List.length_cons] at this ⊢
    omega
/-- .. and if it is as long, the other lies in it -/
theorem nodup_eq {α : Type} (l m : List α) (hl : l.Pairwise (fun p q => p ≠ q)) (hm : m.Pairwise (fun p q => p ≠ q)) (hs : ∀ x ∈ l, x ∈ m) (he : m.length ≤ l.length) : ∀ x ∈ m, x ∈ l := by
  intro x hx
  apply Classical.byContradiction
  intro hn
  have := nodup_le (x :: l) m (List.pairwise_cons.2 ⟨fun y hy e => hn (e ▸ hy), hl⟩) fun y hy => by
    rcases List.mem_cons.1 hy with rfl | h
    · exact hx
    · exact hs y h
  simp only [List.length_cons] at this
  omega
theorem put_litKeys {D : DataW Unit} {kl : Lit} {d : DataW Unit} {es : List (Lit × DataW Unit)} (hD : ∃ fs, D = .map fs ∧ ∀ y ∈ fs, WideAt.IsKeyLit y.1) (hk : WideAt.IsKeyLit kl) : ∃ fs, D.put kl d = .map fs ∧ ∀ y ∈ fs, WideAt.IsKeyLit y.1 := by
  obtain ⟨fs, rfl, h⟩ := hD
  refine ⟨_, rfl, fun y hy => ?_⟩
  rcases ChangeMaps.mem_insert_iff.1 hy with rfl | hy
  · exact hk
  · exact h y (List.mem_filter.1 hy).1
theorem fold_litKeys (u : DataW Unit) : ∀ (xs : List Lit) (m : DataW Unit), (∃ fs, m = .map fs ∧ ∀ y ∈ fs, WideAt.IsKeyLit y.1) → (∀ x ∈ xs, WideAt.IsKeyLit x) → ∃ fs, xs.foldl (fun m x => m.put x u) m = .map fs ∧ ∀ y ∈ fs, WideAt.IsKeyLit y.1
  | [], _, h, _ => h
  | x :: xs, m, h, hk => fold_litKeys u xs (m.put x u) (put_litKeys (es := []) h (hk x (List.mem_cons_self ..))) (fun y hy => hk y (List.mem_cons_of_mem _ hy))
theorem TN_litKeys {l : List Pi} (h : pvAll l) {es : List (Lit × DataW Unit)} (he : TN l = .map es) {y : Lit × DataW Unit} (hy : y ∈ es) : WideAt.IsKeyLit y.1 := by
  obtain ⟨fs, e, hf⟩ := fold_litKeys (.lit (.bool true)) (tls l) (.map []) ⟨[], rfl, by simp⟩ (tn_keys h)
  have : TN l = .map fs := e
  rw [he] at this
  cases this
  exact hf y hy
/-- the keys of a map, without repeats -/
theorem keysOf_TN {l : List Pi} (h : pvAll l) : ∃ ks : List Lit, ks.Pairwise (fun p q => p ≠ q) ∧ size (TN l) = ks.length ∧ (∀ p ∈ l, tl p.step p.alter ∈ ks) ∧ (∀ k ∈ ks, ∃ p ∈ l, k = tl p.step p.alter) := by
  obtain ⟨es, he, hp⟩ := TN_tidy h
  refine ⟨es.map (·.1), by rw [List.pairwise_map]; exact hp, by rw [he]; simp [size], fun p hpl => ?_, fun k hk => ?_⟩
  · have h1 : has (TN l) (tl p.step p.alter) = true := by
      rw [has_TN h, List.any_eq_true]
      exact ⟨p, hpl, WideAt.sameKey_self (tonK.key (tl_pv (pvAll_mem h hpl)))⟩
    rw [he] at h1
    obtain ⟨x, hx, hxs⟩ := List.any_eq_true.1 h1
    exact List.mem_map.2 ⟨x, hx, WideAt.sameKey_eq hxs⟩
  · obtain ⟨x, hx, rfl⟩ := List.mem_map.1 hk
    have hkey : ∀ y ∈ es, ∃ p ∈ l, y.1 = tl p.step p.alter := by
      intro y hy
      have : has (TN l) y.1 = true := by
        rw [he]
        refine List.any_eq_true.2 ⟨y, hy, ?_⟩
        have hik : WideAt.IsKeyLit y.1 := TN_litKeys h he hy
        exact WideAt.sameKey_self hik
      rw [has_TN h, List.any_eq_true] at this
      obtain ⟨p, hpl, hs⟩ := this
      exact ⟨p, hpl, (WideAt.sameKey_eq hs).symm⟩
    exact hkey x hx
theorem full_has {a b : List Pi} (ha : pvAll a) (hb : pvAll b) : fullB b a = true ↔ ∀ p ∈ a, has (TN b) (tl p.step p.alter) = true := by
  unfold fullB
  rw [List.all_eq_true]
  constructor
  · intro h p hp; rw [has_hasB hb (pvAll_mem ha hp)]; exact h p hp
  · intro h p hp; rw [← has_hasB hb (pvAll_mem ha hp)]; exact h p hp
theorem has_key {l : List Pi} (h : pvAll l) {ks : List Lit} (h1 : ∀ p ∈ l, tl p.step p.alter ∈ ks) (h2 : ∀ k ∈ ks, ∃ p ∈ l, k = tl p.step p.alter) (kl : Lit) : has (TN l) kl = true ↔ kl ∈ ks := by
  rw [has_TN h, List.any_eq_true]
  constructor
  · rintro ⟨p, hp, hs⟩
    rw [← WideAt.sameKey_eq hs]; exact h1 p hp
  · intro hk
    obtain ⟨p, hp, rfl⟩ := h2 kl hk
    exact ⟨p, hp, WideAt.sameKey_self (tonK.key (tl_pv (pvAll_mem h hp)))⟩
theorem sm_len {a b : List Pi} (ha : pvAll a) (hb : pvAll b) (h : size (TN a) ≠ size (TN b)) : smB a b = false := by
  cases hs : smB a b
  · rfl
  · exfalso
    unfold smB at hs
    rw [Bool.and_eq_true] at hs
    obtain ⟨k1, n1, l1, i1, j1⟩ := keysOf_TN ha
    obtain ⟨k2, n2, l2, i2, j2⟩ := keysOf_TN hb
    have s12 : ∀ x ∈ k1, x ∈ k2 := fun x hx => by
      obtain ⟨p, hp, rfl⟩ := j1 x hx
      exact (has_key hb i2 j2 _).1 ((full_has ha hb).1 hs.1 p hp)
    have s21 : ∀ x ∈ k2, x ∈ k1 := fun x hx => by
      obtain ⟨p, hp, rfl⟩ := j2 x hx
      exact (has_key ha i1 j1 _).1 ((full_has hb ha).1 hs.2 p hp)
    have := nodup_le _ _ n1 s12
    have := nodup_le _ _ n2 s21
    omega
theorem sm_sub {a b : List Pi} (ha : pvAll a) (hb : pvAll b) (h : size (TN a) = size (TN b)) (hs : ∀ kl, has (TN a) kl = true → has (TN b) kl = true) : smB a b = true := by
  obtain ⟨k1, n1, l1, i1, j1⟩ := keysOf_TN ha
  obtain ⟨k2, n2, l2, i2, j2⟩ := keysOf_TN hb
  have s12 : ∀ x ∈ k1, x ∈ k2 := fun x hx => (has_key hb i2 j2 x).1 (hs x ((has_key ha i1 j1 x).2 hx))
  have s21 := nodup_eq k1 k2 n1 n2 s12 (by omega)
  unfold smB
  rw [Bool.and_eq_true]
  exact ⟨(full_has ha hb).2 fun p hp => hs _ ((has_key ha i1 j1 _).2 (i1 p hp)), (full_has hb ha).2 fun p hp => (has_key ha i1 j1 _).2 (s21 _ (i2 p hp))⟩
theorem sm_bad {a b : List Pi} (ha : pvAll a) (hb : pvAll b) {kl : Lit} (h1 : has (TN a) kl = true) (h2 : has (TN b) kl = false) : smB a b = false := by
  obtain ⟨k1, n1, l1, i1, j1⟩ := keysOf_TN ha
  obtain ⟨p, hp, rfl⟩ := j1 kl ((has_key ha i1 j1 kl).1 h1)
  have : fullB b a = false := by
    cases hf : fullB b a
    · rfl
    · have := (full_has ha hb).1 hf p hp
      rw [h2] at this
      cases this
  unfold smB
  rw [this]
  rfl
end Go.Proofs.Ytpjakgnghpapmaa
