/- The ticks at which two voices meet: plain. -/
import Derived.Test.YtiapfpjggginoaaVts
import Derived.Lib.SlicesCompact
namespace Go.Proofs.Ytiapfpjggginoaa
set_option linter.unusedSimpArgs false
set_option linter.unusedVariables false
open Go.RowKit

/-- the ticks at which the first k notes begin, and end -/
def bgK (l : List Nt) (k : Nat) : List Int := (List.range k).map (tsum l)
def enK (l : List Nt) (k : Nat) : List Int := (List.range k).map fun j => tsum l (j + 1)
theorem bgK_s (l : List Nt) (k : Nat) : bgK l (k + 1) = bgK l k ++ [tsum l k] := by unfold bgK; rw [List.range_succ, List.map_append]; rfl
theorem enK_s (l : List Nt) (k : Nat) : enK l (k + 1) = enK l k ++ [tsum l (k + 1)] := by unfold enK; rw [List.range_succ, List.map_append]; rfl
theorem mem_bgK {l : List Nt} {k : Nat} {x : Int} : x ∈ bgK l k ↔ ∃ j, j < k ∧ tsum l j = x := by simp [bgK, List.mem_map]
theorem mem_enK {l : List Nt} {k : Nat} {x : Int} : x ∈ enK l k ↔ ∃ j, j < k ∧ tsum l (j + 1) = x := by simp [enK, List.mem_map]
theorem VvF.lt {l : List Nt} (h : VvF l) : ∀ {i k : Nat}, i < k → k ≤ l.length → tsum l i < tsum l k := by
  intro i k
  induction k with
  | zero => intro h1; omega
  | succ k ih =>
    intro h1 h2
    have ht := h.tickT k (by omega)
    have e : tsum l (k + 1) = tsum l k + (atNt l k).ticks := rfl
    by_cases e2 : i = k
    · rw [e2]; omega
    · have := ih (by omega) (by omega)
      omega
theorem VvF.le {l : List Nt} (h : VvF l) {i k : Nat} (h1 : i ≤ k) (h2 : k ≤ l.length) : tsum l i ≤ tsum l k := by
  by_cases e : i = k
  · rw [e]; exact Int.le_refl _
  · exact Int.le_of_lt (h.lt (by omega) h2)
theorem VvF.nn {l : List Nt} (h : VvF l) (k : Nat) (h2 : k ≤ l.length) : 0 ≤ tsum l k := by have := (h.tsum_bd k h2).1; omega
theorem VvF.tot {l : List Nt} (h : VvF l) : tsum l l.length ≤ 46080 := by have := (h.tsum_bd l.length (Nat.le_refl _)).2; have := h.len; omega
/-- a tick at which two voices meet -/
def mtP (a b : List Nt) (x : Int) : Prop := x < max (tsum a a.length) (tsum b b.length) ∧ (x = 0 ∨ x ∈ enK a a.length ∨ x ∈ enK b b.length)
theorem mtP_nn {a b : List Nt} (ha : VvF a) (hb : VvF b) {x : Int} (h : mtP a b x) : 0 ≤ x := by
  rcases h.2 with rfl | h | h
  · omega
  · obtain ⟨j, hj, rfl⟩ := mem_enK.1 h; exact ha.nn _ (by omega)
  · obtain ⟨j, hj, rfl⟩ := mem_enK.1 h; exact hb.nn _ (by omega)
/-- the list of all of them, ascending -/
def MtL (a b : List Nt) (L : List Int) : Prop := if vvB a = true ∧ vvB b = true then L.Pairwise (· < ·) ∧ ∀ x, x ∈ L ↔ mtP a b x else L = []
theorem sorted_ext : ∀ {L M : List Int}, L.Pairwise (· < ·) → M.Pairwise (· < ·) → (∀ x, x ∈ L ↔ x ∈ M) → L = M
  | [], [], _, _, _ => rfl
  | [], y :: M, _, _, h => absurd ((h y).2 (by simp)) (by simp)
  | x :: L, [], _, _, h => absurd ((h x).1 (by simp)) (by simp)
  | x :: L, y :: M, hL, hM, h => by
    rw [List.pairwise_cons] at hL hM
    have hxy : x = y := by
      rcases List.mem_cons.1 ((h x).1 (by simp)) with e | e
      · exact e
      · rcases List.mem_cons.1 ((h y).2 (by simp)) with e2 | e2
        · exact e2.symm
        · have := hM.1 x e; have := hL.1 y e2; omega
    subst hxy
    rw [sorted_ext hL.2 hM.2 fun z => ⟨fun hz => ?_, fun hz => ?_⟩]
    · rcases List.mem_cons.1 ((h z).1 (List.mem_cons_of_mem _ hz)) with e | e
      · have := hL.1 z hz; omega
      · exact e
    · rcases List.mem_cons.1 ((h z).2 (List.mem_cons_of_mem _ hz)) with e | e
      · have := hM.1 z hz; omega
      · exact e
theorem MtL.eq {a b : List Nt} {L M : List Int} (h : MtL a b L) (g : MtL a b M) : L = M := by
  unfold MtL at h g
  by_cases hv : vvB a = true ∧ vvB b = true
  · rw [if_pos hv] at h g
    exact sorted_ext h.1 g.1 fun x => (h.2 x).trans (g.2 x).symm
  · rw [if_neg hv] at h g
    rw [h, g]
theorem mtP_comm {a b : List Nt} {x : Int} : mtP a b x ↔ mtP b a x := by
  unfold mtP
  rw [show max (tsum a a.length) (tsum b b.length) = max (tsum b b.length) (tsum a a.length) from by omega]
  constructor
  · rintro ⟨h1, h2 | h2 | h2⟩
    · exact ⟨h1, .inl h2⟩
    · exact ⟨h1, .inr (.inr h2)⟩
    · exact ⟨h1, .inr (.inl h2)⟩
  · rintro ⟨h1, h2 | h2 | h2⟩
    · exact ⟨h1, .inl h2⟩
    · exact ⟨h1, .inr (.inr h2)⟩
    · exact ⟨h1, .inr (.inl h2)⟩
theorem MtL.comm {a b : List Nt} {L : List Int} (h : MtL a b L) : MtL b a L := by
  unfold MtL at h ⊢
  by_cases hv : vvB a = true ∧ vvB b = true
  · rw [if_pos hv] at h
    rw [if_pos ⟨hv.2, hv.1⟩]
    exact ⟨h.1, fun x => (h.2 x).trans mtP_comm⟩
  · rw [if_neg hv] at h
    rw [if_neg (fun z => hv ⟨z.2, z.1⟩)]
    exact h
/-- what the program puts together -/
def gathL (a b : List Nt) : List Int := (bgK a a.length ++ bgK b b.length) ++ (if tsum a a.length = tsum b b.length then [] else [min (tsum a a.length) (tsum b b.length)])
theorem mem_gathL {a b : List Nt} (ha : VvF a) (hb : VvF b) {x : Int} : x ∈ gathL a b ↔ mtP a b x := by
  have side : ∀ {l m : List Nt}, VvF l → VvF m → x ∈ bgK l l.length → mtP l m x := by
    intro l m hl hm h
    obtain ⟨j, hj, rfl⟩ := mem_bgK.1 h
    have h1 := hl.lt (i := j) (k := l.length) hj (Nat.le_refl _)
    refine ⟨by omega, ?_⟩
    cases j with
    | zero => exact .inl rfl
    | succ j => exact .inr (.inl (mem_enK.2 ⟨j, by omega, rfl⟩))
  have back : ∀ {l m : List Nt}, VvF l → VvF m → mtP l m x → x ∈ enK l l.length → x ∈ bgK l l.length ∨ (tsum l l.length = x ∧ tsum l l.length < tsum m m.length) := by
    intro l m hl hm h he
    obtain ⟨j, hj, rfl⟩ := mem_enK.1 he
    by_cases e : j + 1 = l.length
    · have h1 := h.1
      rw [e] at h1
      exact .inr ⟨by rw [e], by omega⟩
    · exact .inl (mem_bgK.2 ⟨j + 1, by omega, rfl⟩)
  unfold gathL
  rw [List.mem_append, List.mem_append]
  constructor
  · rintro ((h | h) | h)
    · exact side ha hb h
    · exact mtP_comm.1 (side hb ha h)
    · split at h
      · cases h
      · rename_i hne
        rw [List.mem_singleton] at h
        subst h
        refine ⟨by omega, ?_⟩
        rcases (show tsum a a.length < tsum b b.length ∨ tsum b b.length ≤ tsum a a.length from by omega) with hlt | hge
        · rw [show min (tsum a a.length) (tsum b b.length) = tsum a a.length from by omega]
          cases hl : a.length with
          | zero => exact .inl rfl
          | succ n => exact .inr (.inl (by rw [← hl]; exact mem_enK.2 ⟨n, by omega, by rw [← hl]⟩))
        · rw [show min (tsum a a.length) (tsum b b.length) = tsum b b.length from by omega]
          cases hl : b.length with
          | zero => exact .inl rfl
          | succ n => exact .inr (.inr (by rw [← hl]; exact mem_enK.2 ⟨n, by omega, by rw [← hl]⟩))
  · intro h
    rcases h.2 with rfl | he | he
    · have h1 := h.1
      have h0a : a.length = 0 → tsum a a.length = 0 := fun e => by rw [e]; rfl
      have h0b : b.length = 0 → tsum b b.length = 0 := fun e => by rw [e]; rfl
      by_cases ea : a.length = 0
      · have : 0 < b.length := by
          by_cases eb : b.length = 0
          · have := h0a ea; have := h0b eb; omega
          · omega
        exact .inl (.inr (mem_bgK.2 ⟨0, this, rfl⟩))
      · exact .inl (.inl (mem_bgK.2 ⟨0, by omega, rfl⟩))
    · rcases back ha hb h he with h2 | ⟨h2, h3⟩
      · exact .inl (.inl h2)
      · right
        rw [if_neg (by omega), List.mem_singleton]
        omega
    · rcases back hb ha (mtP_comm.1 h) he with h2 | ⟨h2, h3⟩
      · exact .inl (.inr h2)
      · right
        rw [if_neg (by omega), List.mem_singleton]
        omega
/-- sorted, and each once -/
theorem mem_compact {zs : List Int} {x : Int} : x ∈ Lib.compact zs ↔ x ∈ zs := by
  have up : ∀ m, m ≤ zs.length → ∀ y, y ∈ Lib.compactUpTo zs.toArray m ↔ y ∈ zs.take m := by
    intro m
    induction m with
    | zero => intro _ y; simp [Lib.compactUpTo]
    | succ m ih =>
      intro hm y
      have hlt : m < zs.length := by omega
      have hg : zs.toArray[m]! = zs[m] := by simp [hlt]
      rw [Lib.compactUpTo_succ, List.mem_append, ih (by omega), List.take_succ_eq_append_getElem hlt, List.mem_append, List.mem_singleton, hg]
      constructor
      · rintro (h | h)
        · exact .inl h
        · split at h
          · rw [List.mem_singleton] at h; exact .inr h
          · cases h
      · rintro (h | h)
        · exact .inl h
        · by_cases hk : Lib.keeps zs.toArray m = true
          · right; rw [if_pos hk, List.mem_singleton]; exact h
          · left
            unfold Lib.keeps at hk
            simp only [decide_eq_true_eq, ne_eq, not_or, Decidable.not_not] at hk
            have hp : zs.toArray[m - 1]! = zs[m - 1]'(by omega) := by simp [show m - 1 < zs.length from by omega]
            rw [h, ← hg, hk.2, hp]
            exact List.mem_take_iff_getElem.2 ⟨m - 1, by omega, rfl⟩
  unfold Lib.compact
  rw [up zs.length (Nat.le_refl _), List.take_length]
theorem compact_sorted {zs : List Int} (h : zs.Pairwise (· ≤ ·)) : (Lib.compact zs).Pairwise (· < ·) := by
  have up : ∀ m, m ≤ zs.length → (Lib.compactUpTo zs.toArray m).Pairwise (· < ·) ∧ (∀ y ∈ Lib.compactUpTo zs.toArray m, ∀ hm : 0 < m, y ≤ zs.toArray[m - 1]!) := by
    intro m
    induction m with
    | zero => intro _; exact ⟨by simp [Lib.compactUpTo], fun y hy => by simp [Lib.compactUpTo] at hy⟩
    | succ m ih =>
      intro hm
      obtain ⟨i1, i2⟩ := ih (by omega)
      have hlt : m < zs.length := by omega
      have hg : zs.toArray[m]! = zs[m] := by simp [hlt]
      have step : 0 < m → zs.toArray[m - 1]! ≤ zs.toArray[m]! := fun h0 => by
        have hp : zs.toArray[m - 1]! = zs[m - 1]'(by omega) := by simp [show m - 1 < zs.length from by omega]
        rw [hp, hg]
        exact List.pairwise_iff_getElem.1 h (m - 1) m (by omega) hlt (by omega)
      rw [Lib.compactUpTo_succ]
      by_cases hk : Lib.keeps zs.toArray m = true
      · rw [if_pos hk]
        unfold Lib.keeps at hk
        simp only [decide_eq_true_eq, ne_eq] at hk
        have big : ∀ y ∈ Lib.compactUpTo zs.toArray m, y < zs.toArray[m]! := fun y hy => by
          have h0 : 0 < m := by
            rcases Nat.eq_zero_or_pos m with e | e
            · subst e; simp [Lib.compactUpTo] at hy
            · exact e
          have h1 := i2 y hy h0
          have h2 := step h0
          have h3 := hk.resolve_left (by omega)
          omega
        refine ⟨List.pairwise_append.2 ⟨i1, List.pairwise_singleton _ _, fun y hy z hz => ?_⟩, fun y hy _ => ?_⟩
        · rw [List.mem_singleton] at hz; subst hz; exact big y hy
        · rw [show m + 1 - 1 = m from rfl]
          rcases List.mem_append.1 hy with hy | hy
          · exact Int.le_of_lt (big y hy)
          · rw [List.mem_singleton] at hy; rw [hy]; exact Int.le_refl _
      · rw [if_neg hk, List.append_nil]
        refine ⟨i1, fun y hy _ => ?_⟩
        rw [show m + 1 - 1 = m from rfl]
        have h0 : 0 < m := by
          rcases Nat.eq_zero_or_pos m with e | e
          · subst e; simp [Lib.compactUpTo] at hy
          · exact e
        have := i2 y hy h0
        have := step h0
        omega
  exact (up zs.length (Nat.le_refl _)).1
theorem mt_of_sorted {a b : List Nt} (hva : vvB a = true) (hvb : vvB b = true) : MtL a b (Lib.compact ((gathL a b).mergeSort fun x y => decide (x ≤ y))) := by
  unfold MtL
  rw [if_pos ⟨hva, hvb⟩]
  refine ⟨compact_sorted ?_, fun x => ?_⟩
  · have := List.pairwise_mergeSort (le := fun x y : Int => decide (x ≤ y)) (fun a b c h1 h2 => by simp only [decide_eq_true_eq] at *; omega) (fun a b => by simp only [Bool.or_eq_true, decide_eq_true_eq]; omega) (gathL a b)
    exact this.imp (fun h => of_decide_eq_true h)
  · rw [mem_compact, (List.mergeSort_perm _ _).mem_iff]
    exact mem_gathL (vvB_of hva) (vvB_of hvb)
theorem mt_len {a b : List Nt} {L : List Int} (h : MtL a b L) : L.length ≤ a.length + b.length ∨ True := .inr trivial
/-- the least end above a tick, among some -/
def NxP (t : Int) (E : List Int) (x : Int) : Prop := (x = -1 ∧ ∀ e ∈ E, e ≤ t) ∨ (x ∈ E ∧ t < x ∧ ∀ e ∈ E, t < e → x ≤ e)
theorem NxP.nil (t : Int) : NxP t [] (-1) := .inl ⟨rfl, fun e h => by cases h⟩
theorem NxP.step {t x y : Int} {E : List Int} (h : NxP t E x) (ht : 0 ≤ t) : NxP t (E ++ [y]) (if t < y ∧ (x < 0 ∨ y < x) then y else x) := by
  rcases h with ⟨rfl, h⟩ | ⟨h1, h2, h3⟩
  · by_cases hy : t < y
    · rw [if_pos ⟨hy, .inl (by omega)⟩]
      refine .inr ⟨by simp, hy, fun e he hte => ?_⟩
      rcases List.mem_append.1 he with he | he
      · have := h e he; omega
      · rw [List.mem_singleton] at he; omega
    · rw [if_neg (fun z => hy z.1)]
      refine .inl ⟨rfl, fun e he => ?_⟩
      rcases List.mem_append.1 he with he | he
      · exact h e he
      · rw [List.mem_singleton] at he; omega
  · by_cases hy : t < y ∧ y < x
    · rw [if_pos ⟨hy.1, .inr hy.2⟩]
      refine .inr ⟨by simp, hy.1, fun e he hte => ?_⟩
      rcases List.mem_append.1 he with he | he
      · have := h3 e he hte; omega
      · rw [List.mem_singleton] at he; omega
    · rw [if_neg (fun z => hy ⟨z.1, z.2.resolve_left (by omega)⟩)]
      refine .inr ⟨List.mem_append_left _ h1, h2, fun e he hte => ?_⟩
      rcases List.mem_append.1 he with he | he
      · exact h3 e he hte
      · rw [List.mem_singleton] at he
        rw [he] at hte ⊢
        rcases (show y < x ∨ x ≤ y from by omega) with h4 | h4
        · exact absurd ⟨hte, h4⟩ hy
        · exact h4
/-- the state of the reference's walk from tick to tick -/
structure OnI (a b : List Nt) (L : List Int) (t : Int) : Prop where
  nn : 0 ≤ t
  srt : L.Pairwise (· < ·)
  mem : ∀ x, x ∈ L ↔ mtP a b x ∧ x < t
  pt : t = 0 ∨ t ∈ enK a a.length ∨ t ∈ enK b b.length
theorem OnI.start {a b : List Nt} (ha : VvF a) (hb : VvF b) : OnI a b [] 0 := ⟨by omega, List.Pairwise.nil, fun x => ⟨fun h => (by cases h), fun h => by have := mtP_nn ha hb h.1; omega⟩, .inl rfl⟩
theorem OnI.stop {a b : List Nt} {L : List Int} {t : Int} (h : OnI a b L t) (hva : vvB a = true) (hvb : vvB b = true) (ht : ¬ (t < tsum a a.length ∨ t < tsum b b.length)) : MtL a b L := by
  unfold MtL
  rw [if_pos ⟨hva, hvb⟩]
  refine ⟨h.srt, fun x => (h.mem x).trans ⟨fun z => z.1, fun z => ⟨z, ?_⟩⟩⟩
  have := z.1; omega
theorem top_mem {l : List Nt} (h : 0 < tsum l l.length) : tsum l l.length ∈ enK l l.length := by
  cases e : l.length with
  | zero => rw [e] at h; simp [tsum] at h
  | succ n => rw [← e]; exact mem_enK.2 ⟨n, by omega, by rw [← e]⟩
theorem OnI.next {a b : List Nt} {L : List Int} {t x : Int} (h : OnI a b L t) (ht : t < tsum a a.length ∨ t < tsum b b.length) (hx : NxP t (enK a a.length ++ enK b b.length) x) : 0 ≤ x ∧ t < x ∧ OnI a b (L ++ [t]) x := by
  have hnn := h.nn
  rcases hx with ⟨_, hn⟩ | ⟨h1, h2, h3⟩
  · exfalso
    rcases ht with ht | ht
    · have := hn _ (List.mem_append_left _ (top_mem (l := a) (by omega))); omega
    · have := hn _ (List.mem_append_right _ (top_mem (l := b) (by omega))); omega
  · refine ⟨by omega, h2, by omega, ?_, fun y => ?_, ?_⟩
    · refine List.pairwise_append.2 ⟨h.srt, List.pairwise_singleton _ _, fun y hy z hz => ?_⟩
      rw [List.mem_singleton] at hz
      have := ((h.mem y).1 hy).2; omega
    · rw [List.mem_append, List.mem_singleton, h.mem]
      constructor
      · rintro (⟨hy1, hy2⟩ | rfl)
        · exact ⟨hy1, by omega⟩
        · exact ⟨⟨by omega, h.pt⟩, h2⟩
      · rintro ⟨hy1, hy2⟩
        rcases (show y < t ∨ t ≤ y from by omega) with hlt | hge
        · exact .inl ⟨hy1, hlt⟩
        · right
          by_cases e : y = t
          · exact e
          · exfalso
            rcases hy1.2 with e0 | he | he
            · omega
            · have := h3 y (List.mem_append_left _ he) (by omega); omega
            · have := h3 y (List.mem_append_right _ he) (by omega); omega
    · rcases List.mem_append.1 h1 with he | he
      · exact .inr (.inl he)
      · exact .inr (.inr he)
end Go.Proofs.Ytiapfpjggginoaa
