/- Pitches in the order of their keys, plain: what the program sorts is a part of what the reference lists. The first of all triples and the first of those in order, plain; keys alone decide the faults. The chords of both sides as triples of places in one pool, plain. The first of the program's chords is the first of the reference's, plain. Whatever is asked of the keys of a chord: both sides find the same one, plain. Which chords one can go on from: of both sides the same ones, plain. What the program computes is what the reference computes, plain. What the laws on chords for a bass say, plain: every chord is right, there is no fault. -/
import Derived.Test.YtpjakgnghpapmaaSks
import Derived.Test.YtpjakgnghpapmaaBo
namespace Go.Proofs.Ytpjakgnghpapmaa
set_option linter.unusedSimpArgs false
set_option linter.unusedVariables false
section
open Go.RowKit

/-- all pitches of a tone, of some tones -/
def allT (t : Pi) (o : Nat) : List Pi := (List.range o).map fun (i : Nat) => (⟨t.step, t.alter, (i : Int)⟩ : Pi)
def allO (ts : List Pi) : List Pi := ts.flatMap fun t => allT t 9
theorem allT_succ (t : Pi) (o : Nat) : allT t (o + 1) = allT t o ++ [⟨t.step, t.alter, (o : Int)⟩] := by
  unfold allT
  rw [List.range_succ, List.map_append]
  rfl
theorem optO_eq (t : Pi) (lo hi : Int) : ∀ o, optO t lo hi o = (allT t o).filter (optB lo hi)
  | 0 => rfl
  | o + 1 => by
    rw [allT_succ, List.filter_append, ← optO_eq t lo hi o, optO]
    by_cases h : optB lo hi ⟨t.step, t.alter, o⟩ = true
    · rw [if_pos h, List.filter_cons_of_pos h]; rfl
    · rw [if_neg h, List.filter_cons_of_neg h]; simp
theorem plO_eq (key : Int) (t : Pi) : ∀ o, plO key t o = (allT t o).filter (fun p => decide (kyP p = key))
  | 0 => rfl
  | o + 1 => by
    rw [allT_succ, List.filter_append, ← plO_eq key t o, plO]
    by_cases h : kyP ⟨t.step, t.alter, o⟩ = key
    · rw [if_pos h, List.filter_cons_of_pos (p := fun p => decide (kyP p = key)) (by simpa using h)]; rfl
    · rw [if_neg h, List.filter_cons_of_neg (by simpa using h)]; simp
theorem take_sn {l : List Pi} {k : Nat} (hk : k < l.length) : l.take (k + 1) = l.take k ++ [atPi l k] := by
  rw [List.take_succ_eq_append_getElem hk]
  unfold atPi
  rw [List.getD_eq_getElem?_getD, List.getElem?_eq_getElem hk]
  rfl
theorem optL_eq (ts : List Pi) (lo hi : Int) : ∀ k, k ≤ ts.length → optL ts lo hi k = ((ts.take k).flatMap fun t => allT t 9).filter (optB lo hi)
  | 0, _ => by simp [optL]
  | k + 1, hk => by
    rw [take_sn (by omega), List.flatMap_append, List.filter_append, ← optL_eq ts lo hi k (by omega), optL, optO_eq]
    simp
theorem plK_eq (key : Int) (ts : List Pi) : ∀ k, k ≤ ts.length → plK key ts k = ((ts.take k).flatMap fun t => allT t 9).filter (fun p => decide (kyP p = key))
  | 0, _ => by simp [plK]
  | k + 1, hk => by
    rw [take_sn (by omega), List.flatMap_append, List.filter_append, ← plK_eq key ts k (by omega), plK, plO_eq]
    simp
/-- a list put in order of its keys from b on -/
def bk (b : Int) (l : List Pi) : Nat → List Pi
  | 0 => []
  | m + 1 => bk b l m ++ l.filter (fun p => decide (kyP p = b + (m : Int)))
theorem plL_bk (ts : List Pi) : ∀ j, plL ts j = bk 36 (allO ts) j
  | 0 => rfl
  | j + 1 => by
    rw [plL, plL_bk ts j, plK_eq _ _ _ (Nat.le_refl _), List.take_length]
    rfl
theorem bk_key (b : Int) (l : List Pi) : ∀ (m : Nat) (y : Pi), y ∈ bk b l m → b ≤ kyP y ∧ kyP y < b + m
  | 0, _, h => by cases h
  | m + 1, y, h => by
    rw [bk] at h
    rcases List.mem_append.1 h with h | h
    · have := bk_key b l m y h; omega
    · have := of_decide_eq_true (List.mem_filter.1 h).2; omega
theorem ins_le (x : Pi) : ∀ (S : List Pi), (∀ y ∈ S, kyP y ≤ kyP x) → ins x S = S ++ [x]
  | [], _ => rfl
  | y :: r, h => by
    have h1 := h y (by simp)
    unfold ins
    rw [if_neg (by omega), ins_le x r (fun z hz => h z (by simp [hz]))]
    rfl
theorem ins_gt (x : Pi) (F : List Pi) (hF : ∀ y ∈ F, kyP x < kyP y) : ∀ (S : List Pi), ins x (S ++ F) = ins x S ++ F
  | [] => by
    cases F with
    | nil => rfl
    | cons y r => show ins x (y :: r) = [x] ++ (y :: r); unfold ins; rw [if_pos (hF y (by simp))]; rfl
  | y :: r => by
    show ins x (y :: (r ++ F)) = ins x (y :: r) ++ F
    unfold ins
    by_cases h : kyP x < kyP y
    · rw [if_pos h, if_pos h]; rfl
    · rw [if_neg h, if_neg h, ins_gt x F hF r]; rfl
theorem bk_above (b : Int) (l : List Pi) (x : Pi) : ∀ m : Nat, b + m ≤ kyP x → bk b (l ++ [x]) m = bk b l m
  | 0, _ => rfl
  | m + 1, h => by
    rw [bk, bk, bk_above b l x m (by omega), List.filter_append, List.filter_cons_of_neg (by simp; omega)]
    simp
theorem bk_ins (b : Int) (l : List Pi) (x : Pi) (h0 : b ≤ kyP x) : ∀ m : Nat, kyP x < b + m → ins x (bk b l m) = bk b (l ++ [x]) m
  | 0, h => by omega
  | m + 1, h => by
    by_cases e : kyP x = b + m
    · rw [ins_le x _ (fun y hy => by have := bk_key b l (m + 1) y hy; omega)]
      rw [bk, bk, bk_above b l x m (by omega), List.filter_append, List.filter_cons_of_pos (p := fun p => decide (kyP p = b + (m : Int))) (by simpa using e)]
      simp
    · rw [bk, ins_gt x _ (fun y hy => by have := of_decide_eq_true (List.mem_filter.1 hy).2; omega), bk_ins b l x h0 m (by omega)]
      rw [bk, List.filter_append, List.filter_cons_of_neg (by simpa using e)]
      simp
theorem bk_nil (b : Int) : ∀ m, bk b [] m = []
  | 0 => rfl
  | m + 1 => by rw [bk, bk_nil b m]; rfl
theorem isort_bk (b : Int) (m : Nat) (l : List Pi) (h : ∀ y ∈ l, b ≤ kyP y ∧ kyP y < b + m) : isort [] l = bk b l m := by
  suffices H : ∀ k, k ≤ l.length → isort [] (l.take k) = bk b (l.take k) m by
    have := H l.length (Nat.le_refl _)
    rwa [List.take_length] at this
  intro k
  induction k with
  | zero => intro _; rw [List.take_zero, bk_nil]; rfl
  | succ k ih =>
    intro hk
    have hm := h (atPi l k) (at_memS (by omega))
    rw [take_sn (by omega), isort_snoc, ih (by omega), bk_ins b _ _ hm.1 m hm.2]
theorem bk_filter (b : Int) (l : List Pi) (q : Pi → Bool) : ∀ m, (bk b l m).filter q = bk b (l.filter q) m
  | 0 => rfl
  | m + 1 => by
    rw [bk, bk, List.filter_append, bk_filter b l q m, List.filter_filter, List.filter_filter]
    congr 2
    funext p
    rw [Bool.and_comm]
/-- what a voice can take is that part of the pool which lies in its range -/
theorem vp_pool (ts : List Pi) (v : Nat) (h1 : 36 ≤ loR v) (h2 : hiR v ≤ 67) : vpL ts v = (plL ts 32).filter (optB (loR v) (hiR v)) := by
  unfold vpL
  rw [optL_eq _ _ _ _ (Nat.le_refl _), List.take_length, plL_bk, bk_filter]
  refine isort_bk 36 32 _ fun y hy => ?_
  have := (List.mem_filter.1 hy).2
  unfold optB at this
  rw [Bool.and_eq_true] at this
  have a := of_decide_eq_true this.1
  have c := of_decide_eq_true this.2
  omega
/-- the pool stands in the order of its keys -/
theorem bk_srtd (b : Int) (l : List Pi) : ∀ m, srtd (bk b l m)
  | 0 => List.Pairwise.nil
  | m + 1 => by
    unfold srtd
    rw [bk, List.pairwise_append]
    refine ⟨bk_srtd b l m, ?_, fun x hx y hy => ?_⟩
    · refine List.Pairwise.imp_of_mem (R := fun _ _ => True) ?_ (List.pairwise_of_forall (fun _ _ => trivial))
      intro x y hx hy _
      have h1 := of_decide_eq_true (List.mem_filter.1 hx).2
      have h2 := of_decide_eq_true (List.mem_filter.1 hy).2
      omega
    · have h1 := bk_key b l m x hx
      have h2 := of_decide_eq_true (List.mem_filter.1 hy).2
      omega
end
section
open Go.RowKit

/-- two chords of the same keys -/
def keq (x y : List Pi) : Prop := apB x 4 4 = apB y 4 4 ∧ ∀ i, i < 4 → kyP (atPi x i) = kyP (atPi y i)
theorem keq.symm {x y : List Pi} (h : keq x y) : keq y x := ⟨h.1.symm, fun i hi => (h.2 i hi).symm⟩
theorem nopar_keq {x y z : List Pi} {ap : Int} (h : keq x y) (n : nopar x z ap) : nopar y z ap := fun i hi k hk hik c => n i hi k hk hik (by
  unfold parP at c ⊢
  rw [h.2 i hi, h.2 k hk]; exact c)
theorem nopar_keq2 {x y z : List Pi} {ap : Int} (h : keq x y) (n : nopar z x ap) : nopar z y ap := fun i hi k hk hik c => n i hi k hk hik (by
  unfold parP at c ⊢
  rw [h.2 i hi, h.2 k hk]; exact c)
theorem nolp_keq {x y z : List Pi} (h : keq x y) (n : nolp x z) : nolp y z := fun k hk c => n k hk (by
  unfold lpP at c ⊢
  rw [h.2 k hk]; exact c)
theorem nolp_keq2 {x y z : List Pi} (h : keq x y) (n : nolp z x) : nolp z y := fun k hk c => n k hk (by
  unfold lpP at c ⊢
  rw [h.2 k hk]; exact c)
theorem mvF_keq {x y : List Pi} (z : List Pi) (h : keq x y) : mvF x z = mvF y z := by
  have a := propext (Iff.intro (nopar_keq (z := z) (ap := 7) h) (nopar_keq h.symm))
  have b := propext (Iff.intro (nopar_keq (z := z) (ap := 0) h) (nopar_keq h.symm))
  have c := propext (Iff.intro (nolp_keq (z := z) h) (nolp_keq h.symm))
  unfold mvF
  simp only [h.1, a, b, c]
theorem mvF_keq2 {x y : List Pi} (z : List Pi) (h : keq x y) : mvF z x = mvF z y := by
  have a := propext (Iff.intro (nopar_keq2 (z := z) (ap := 7) h) (nopar_keq2 h.symm))
  have b := propext (Iff.intro (nopar_keq2 (z := z) (ap := 0) h) (nopar_keq2 h.symm))
  have c := propext (Iff.intro (nolp_keq2 (z := z) h) (nolp_keq2 h.symm))
  unfold mvF
  simp only [h.1, a, b, c]
theorem stk_keq0 {x y : List Pi} (h : keq x y) (h0 : apB x 4 4 = true ∧ nocr x ∧ nowd x ∧ norg x) : apB y 4 4 = true ∧ nocr y ∧ nowd y ∧ norg y := by
  obtain ⟨a, b, c, d⟩ := h0
  refine ⟨h.1.symm.trans a, fun k hk h1 q => b k hk h1 ?_, fun k hk h1 q => c k hk h1 ?_, fun k hk q => d k hk ?_⟩
  · unfold crP at q ⊢
    rw [h.2 k hk, h.2 (k - 1) (by omega)]; exact q
  · unfold wdP at q ⊢
    rw [h.2 k hk, h.2 (k - 1) (by omega)]; exact q
  · unfold rgP at q ⊢
    rw [h.2 k hk]; exact q
theorem stkF_iff (x : List Pi) : stkF x = 0 ↔ apB x 4 4 = true ∧ nocr x ∧ nowd x ∧ norg x := by
  constructor
  · intro h
    unfold stkF at h
    split at h
    · omega
    split at h
    · omega
    split at h
    · omega
    split at h
    · omega
    rename_i a b c d
    exact ⟨by simpa using a, by simpa using b, by simpa using c, by simpa using d⟩
  · rintro ⟨a, b, c, d⟩
    exact stkF_0 a b c d
theorem stk_keq {x y : List Pi} (h : keq x y) : stkF x = 0 ↔ stkF y = 0 := by
  rw [stkF_iff, stkF_iff]
  exact ⟨stk_keq0 h, stk_keq0 h.symm⟩
/-- all triples of places -/
def tri (n : Nat) : List (Nat × Nat × Nat) := (List.range n).flatMap fun i => (List.range n).flatMap fun j => (List.range n).map fun k => (i, j, k)
def lex3 (s t : Nat × Nat × Nat) : Prop := s.1 < t.1 ∨ (s.1 = t.1 ∧ (s.2.1 < t.2.1 ∨ (s.2.1 = t.2.1 ∧ s.2.2 < t.2.2)))
def le3 (t : Nat × Nat × Nat) : Bool := decide (t.1 ≤ t.2.1) && decide (t.2.1 ≤ t.2.2)
theorem tri_mem {n : Nat} {t : Nat × Nat × Nat} : t ∈ tri n ↔ t.1 < n ∧ t.2.1 < n ∧ t.2.2 < n := by
  obtain ⟨i, j, k⟩ := t
  unfold tri
  simp only [List.mem_flatMap, List.mem_range, List.mem_map, Prod.mk.injEq]
  constructor
  · rintro ⟨a, ha, b, hb, c, hc, rfl, rfl, rfl⟩
    exact ⟨ha, hb, hc⟩
  · rintro ⟨ha, hb, hc⟩
    exact ⟨i, ha, j, hb, k, hc, rfl, rfl, rfl⟩
theorem tri_srt (n : Nat) : (tri n).Pairwise lex3 := by
  unfold tri
  rw [List.pairwise_flatMap]
  refine ⟨fun i _ => ?_, List.Pairwise.imp ?_ List.pairwise_lt_range⟩
  · rw [List.pairwise_flatMap]
    refine ⟨fun j _ => ?_, List.Pairwise.imp ?_ List.pairwise_lt_range⟩
    · rw [List.pairwise_map]
      exact List.Pairwise.imp (fun h => .inr ⟨rfl, .inr ⟨rfl, h⟩⟩) List.pairwise_lt_range
    · intro a b hab x hx y hy
      obtain ⟨c, _, rfl⟩ := List.mem_map.1 hx
      obtain ⟨d, _, rfl⟩ := List.mem_map.1 hy
      exact .inr ⟨rfl, .inl hab⟩
  · intro a b hab x hx y hy
    obtain ⟨c, _, hx⟩ := List.mem_flatMap.1 hx
    obtain ⟨c', _, rfl⟩ := List.mem_map.1 hx
    obtain ⟨d, _, hy⟩ := List.mem_flatMap.1 hy
    obtain ⟨d', _, rfl⟩ := List.mem_map.1 hy
    exact .inl hab
theorem lex3_irr (t : Nat × Nat × Nat) : ¬ lex3 t t := by unfold lex3; omega
theorem lex3_asym {s t : Nat × Nat × Nat} (h : lex3 s t) : ¬ lex3 t s := by unfold lex3 at h ⊢; omega
/-- where to each triple out of order there is an earlier one, the first of all is in order -/
theorem find_le {n : Nat} {q : Nat × Nat × Nat → Bool} (h : ∀ t ∈ tri n, q t = true → le3 t = false → ∃ s ∈ tri n, lex3 s t ∧ q s = true) : (tri n).find? (fun t => le3 t && q t) = (tri n).find? q := by
  cases hf : (tri n).find? q with
  | none =>
    rw [List.find?_eq_none] at hf ⊢
    intro x hx c
    rw [Bool.and_eq_true] at c
    exact hf x hx c.2
  | some t =>
    obtain ⟨hq, l1, l2, e, ha⟩ := List.find?_eq_some_iff_append.1 hf
    have hle : le3 t = true := by
      cases hl : le3 t
      · obtain ⟨s, hs, hlt, hqs⟩ := h t (by rw [e]; simp) hq hl
        have hp := tri_srt n
        rw [e] at hs hp
        rw [List.pairwise_append] at hp
        obtain ⟨_, hp2, _⟩ := hp
        rcases List.mem_append.1 hs with h1 | h1
        · have := ha s h1
          rw [hqs] at this
          simp at this
        · rcases List.mem_cons.1 h1 with rfl | h1
          · exact absurd hlt (lex3_irr _)
          · exact absurd ((List.pairwise_cons.1 hp2).1 s h1) (lex3_asym hlt)
      · rfl
    refine List.find?_eq_some_iff_append.2 ⟨by rw [hle, hq]; rfl, l1, l2, e, fun a hx => ?_⟩
    have := ha a hx
    cases hqa : q a
    · simp
    · rw [hqa] at this; simp at this
end
section
open Go.RowKit

def stT (bs : Pi) (P : List Pi) (t : Nat × Nat × Nat) : List Pi := [bs, atPi P t.1, atPi P t.2.1, atPi P t.2.2]
theorem fm_filter {α β : Type} (r : α → Bool) (f : α → List β) : ∀ l : List α, (∀ x ∈ l, r x = false → f x = []) → (l.filter r).flatMap f = l.flatMap f
  | [], _ => rfl
  | x :: l, h => by
    have ih := fm_filter r f l (fun y hy => h y (by simp [hy]))
    cases hr : r x
    · rw [List.filter_cons_of_neg (by rw [hr]; simp), ih, List.flatMap_cons, h x (by simp) hr]; rfl
    · rw [List.filter_cons_of_pos hr, List.flatMap_cons, List.flatMap_cons, ih]
theorem range_from (j : Nat) : ∀ n, j ≤ n → List.range' j (n - j) = (List.range n).filter (fun k => decide (j ≤ k))
  | 0, h => by obtain rfl : j = 0 := by omega
               rfl
  | n + 1, h => by
    by_cases e : j = n + 1
    · subst e
      rw [Nat.sub_self, show List.range' (n + 1) 0 = [] from rfl]
      symm
      rw [List.filter_eq_nil_iff]
      intro k hk
      have := List.mem_range.1 hk
      simpa using this
    · rw [show n + 1 - j = (n - j) + 1 from by omega, List.range'_1_concat, range_from j n (by omega), List.range_succ, List.filter_append, show j + (n - j) = n from by omega, List.filter_cons_of_pos (by simp; omega)]
      rfl
theorem spC_eq (bs : Pi) (ts : List Pi) (a b : Pi) (P : List Pi) (j : Nat) : ∀ d, spC bs ts a b P j d = ((List.range' j d).filter (fun k => goodP bs ts a b (atPi P k))).map (fun k => [bs, a, b, atPi P k])
  | 0 => rfl
  | d + 1 => by
    rw [List.range'_1_concat, List.filter_append, List.map_append, ← spC_eq bs ts a b P j d, spC]
    by_cases h : goodP bs ts a b (atPi P (j + d)) = true
    · rw [if_pos h, List.filter_cons_of_pos (p := fun k => goodP bs ts a b (atPi P k)) h]; rfl
    · rw [if_neg h, List.filter_cons_of_neg (p := fun k => goodP bs ts a b (atPi P k)) h]; simp
theorem spB_eq (bs : Pi) (ts : List Pi) (a : Pi) (P : List Pi) (i : Nat) : ∀ d, spB bs ts a P i d = (List.range' i d).flatMap (fun j => spC bs ts a (atPi P j) P j (P.length - j))
  | 0 => rfl
  | d + 1 => by
    rw [List.range'_1_concat, List.flatMap_append, ← spB_eq bs ts a P i d, spB]
    simp
theorem spA_eq (bs : Pi) (ts : List Pi) (P : List Pi) : ∀ d, spA bs ts P d = (List.range d).flatMap (fun i => spB bs ts (atPi P i) P i (P.length - i))
  | 0 => rfl
  | d + 1 => by
    rw [List.range_succ, List.flatMap_append, ← spA_eq bs ts P d, spA]
    simp
theorem fm_congr {α β : Type} {f g : α → List β} : ∀ {l : List α}, (∀ x ∈ l, f x = g x) → l.flatMap f = l.flatMap g
  | [], _ => rfl
  | x :: l, h => by
    rw [List.flatMap_cons, List.flatMap_cons, h x (by simp), fm_congr (fun y hy => h y (by simp [hy]))]
/-- a list of triples, filtered and mapped -/
theorem tri_fm (n : Nat) (q : Nat × Nat × Nat → Bool) (s : Nat × Nat × Nat → List Pi) : ((tri n).filter q).map s = (List.range n).flatMap fun i => (List.range n).flatMap fun j => ((List.range n).filter fun k => q (i, j, k)).map fun k => s (i, j, k) := by
  unfold tri
  rw [List.filter_flatMap, List.map_flatMap]
  refine fm_congr fun i _ => ?_
  rw [List.filter_flatMap, List.map_flatMap]
  refine fm_congr fun j _ => ?_
  rw [List.filter_map, List.map_map]
  rfl
/-- the reference's chords -/
theorem sp_tri (bs : Pi) (ts : List Pi) (P : List Pi) : spA bs ts P P.length = ((tri P.length).filter fun t => le3 t && goodP bs ts (atPi P t.1) (atPi P t.2.1) (atPi P t.2.2)).map (stT bs P) := by
  rw [tri_fm, spA_eq]
  refine fm_congr fun i hi => ?_
  have hi := List.mem_range.1 hi
  rw [spB_eq, range_from i _ (by omega), ← fm_filter (fun k => decide (i ≤ k)) (fun j => List.map (fun k => stT bs P (i, j, k)) (List.filter (fun k => le3 (i, j, k) && goodP bs ts (atPi P i) (atPi P j) (atPi P k)) (List.range P.length))) (List.range P.length)]
  · refine fm_congr fun j hj => ?_
    obtain ⟨hj, hij⟩ := List.mem_filter.1 hj
    have hj := List.mem_range.1 hj
    rw [spC_eq, range_from j _ (by omega), List.filter_filter]
    refine congrArg _ (List.filter_congr fun k _ => ?_)
    unfold le3
    rw [show decide (i ≤ j) = true from hij, Bool.true_and, Bool.and_comm]
  · intro j _ hij
    rw [show (List.filter (fun k => le3 (i, j, k) && goodP bs ts (atPi P i) (atPi P j) (atPi P k)) (List.range P.length)) = [] from by
      rw [List.filter_eq_nil_iff]
      intro k _
      unfold le3
      rw [show decide (i ≤ j) = false from hij]
      simp]
    rfl
/-- the program's chords, at one part of the list after the other -/
theorem rng_at {α : Type} (f : Pi → α) : ∀ V : List Pi, (List.range V.length).map (fun k => f (atPi V k)) = V.map f
  | [] => rfl
  | x :: l => by
    rw [List.length_cons, List.range_succ_eq_map, List.map_cons, List.map_map, List.map_cons, ← rng_at f l]
    rfl
theorem rng_fm {α : Type} (f : Pi → List α) (V : List Pi) : (List.range V.length).flatMap (fun k => f (atPi V k)) = V.flatMap f := by
  have h := rng_at (fun x : Pi => x) V
  rw [List.map_id'] at h
  rw [show V.flatMap f = ((List.range V.length).map (fun k => atPi V k)).flatMap f from by rw [h], List.flatMap_map]
theorem rng_flt (r : Pi → Bool) (f : Pi → List Pi) (V : List Pi) : ((List.range V.length).filter (fun k => r (atPi V k))).map (fun k => f (atPi V k)) = (V.filter r).map f := by
  rw [show (V.filter r).map f = V.flatMap (fun x => if r x = true then [f x] else []) from ?_, ← rng_fm]
  · generalize List.range V.length = l
    induction l with
    | nil => rfl
    | cons x l ih =>
      rw [List.flatMap_cons, ← ih]
      by_cases h : r (atPi V x) = true
      · rw [if_pos h, List.filter_cons_of_pos (p := fun k => r (atPi V k)) h]; rfl
      · rw [if_neg h, List.filter_cons_of_neg (p := fun k => r (atPi V k)) h]; rfl
  · induction V with
    | nil => rfl
    | cons x l ih =>
      rw [List.flatMap_cons, ← ih]
      by_cases h : r x = true
      · rw [if_pos h, List.filter_cons_of_pos h]; rfl
      · rw [if_neg h, List.filter_cons_of_neg h]; rfl
theorem stC_eq (bs : Pi) (ts : List Pi) (a b : Pi) (V : List Pi) : ∀ k, k ≤ V.length → stC bs ts a b V k = ((V.take k).filter (goodS bs ts a b)).map (fun c => [bs, a, b, c])
  | 0, _ => rfl
  | k + 1, hk => by
    rw [take_sn (by omega), List.filter_append, List.map_append, ← stC_eq bs ts a b V k (by omega), stC]
    by_cases h : goodS bs ts a b (atPi V k) = true
    · rw [if_pos h, List.filter_cons_of_pos h]; rfl
    · rw [if_neg h, List.filter_cons_of_neg h]; simp
theorem stB_eq (bs : Pi) (ts : List Pi) (a : Pi) (V2 V3 : List Pi) : ∀ k, k ≤ V2.length → stB bs ts a V2 V3 k = (V2.take k).flatMap (fun b => stC bs ts a b V3 V3.length)
  | 0, _ => rfl
  | k + 1, hk => by
    rw [take_sn (by omega), List.flatMap_append, ← stB_eq bs ts a V2 V3 k (by omega), stB]
    simp
theorem stA_eq (bs : Pi) (ts : List Pi) (V1 V2 V3 : List Pi) : ∀ k, k ≤ V1.length → stA bs ts V1 V2 V3 k = (V1.take k).flatMap (fun a => stB bs ts a V2 V3 V2.length)
  | 0, _ => rfl
  | k + 1, hk => by
    rw [take_sn (by omega), List.flatMap_append, ← stA_eq bs ts V1 V2 V3 k (by omega), stA]
    simp
theorem goodS_rg {bs a b c : Pi} {ts : List Pi} (h : goodS bs ts a b c = true) : optB (loR 1) (hiR 1) a = true ∧ optB (loR 2) (hiR 2) b = true ∧ optB (loR 3) (hiR 3) c = true := by
  unfold goodS at h
  rw [Bool.and_eq_true] at h
  obtain ⟨_, _, _, d⟩ := (stkF_iff _).1 (of_decide_eq_true h.1)
  have d1 := d 1 (by omega)
  have d2 := d 2 (by omega)
  have d3 := d 3 (by omega)
  unfold rgP at d1 d2 d3
  have e1 : loR 1 ≤ kyP a ∧ kyP a ≤ hiR 1 := Decidable.not_not.1 d1
  have e2 : loR 2 ≤ kyP b ∧ kyP b ≤ hiR 2 := Decidable.not_not.1 d2
  have e3 : loR 3 ≤ kyP c ∧ kyP c ≤ hiR 3 := Decidable.not_not.1 d3
  unfold optB
  exact ⟨by rw [decide_eq_true e1.1, decide_eq_true e1.2]; rfl, by rw [decide_eq_true e2.1, decide_eq_true e2.2]; rfl, by rw [decide_eq_true e3.1, decide_eq_true e3.2]; rfl⟩
end
section
open Go.RowKit

theorem rng_flt' (bs : Pi) (ts : List Pi) (a b : Pi) (V : List Pi) : ((List.range V.length).filter (fun k => goodS bs ts a b (atPi V k))).map (fun k => [bs, a, b, atPi V k]) = (V.filter (goodS bs ts a b)).map (fun c => [bs, a, b, c]) := rng_flt (goodS bs ts a b) (fun c => [bs, a, b, c]) V
theorem st_tri (bs : Pi) (ts : List Pi) (P : List Pi) (hP : plL ts 32 = P) : stkL bs ts = ((tri P.length).filter fun t => goodS bs ts (atPi P t.1) (atPi P t.2.1) (atPi P t.2.2)).map (stT bs P) := by
  have e1 : vpL ts 1 = P.filter (optB (loR 1) (hiR 1)) := by rw [← hP]; exact vp_pool ts 1 (by decide) (by decide)
  have e2 : vpL ts 2 = P.filter (optB (loR 2) (hiR 2)) := by rw [← hP]; exact vp_pool ts 2 (by decide) (by decide)
  have e3 : vpL ts 3 = P.filter (optB (loR 3) (hiR 3)) := by rw [← hP]; exact vp_pool ts 3 (by decide) (by decide)
  unfold stkL
  rw [stA_eq _ _ _ _ _ _ (Nat.le_refl _), List.take_length, e1, e2, e3]
  have c1 : ∀ a b, stC bs ts a b (P.filter (optB (loR 3) (hiR 3))) (P.filter (optB (loR 3) (hiR 3))).length = (P.filter (goodS bs ts a b)).map (fun c => [bs, a, b, c]) := fun a b => by
    rw [stC_eq _ _ _ _ _ _ (Nat.le_refl _), List.take_length, List.filter_filter]
    refine congrArg _ (List.filter_congr fun c _ => ?_)
    cases h : goodS bs ts a b c
    · rfl
    · rw [(goodS_rg h).2.2]; rfl
  have c2 : ∀ a, stB bs ts a (P.filter (optB (loR 2) (hiR 2))) (P.filter (optB (loR 3) (hiR 3))) (P.filter (optB (loR 2) (hiR 2))).length = P.flatMap (fun b => (P.filter (goodS bs ts a b)).map (fun c => [bs, a, b, c])) := fun a => by
    rw [stB_eq _ _ _ _ _ _ (Nat.le_refl _), List.take_length, fm_congr (fun b _ => c1 a b), fm_filter]
    intro b _ hb
    rw [show P.filter (goodS bs ts a b) = [] from by
      rw [List.filter_eq_nil_iff]
      intro c _ h
      rw [(goodS_rg h).2.1] at hb
      cases hb]
    rfl
  rw [fm_congr (fun a _ => c2 a), fm_filter]
  · rw [tri_fm, ← rng_fm]
    refine fm_congr fun i _ => ?_
    rw [← rng_fm]
    refine fm_congr fun j _ => ?_
    unfold stT
    exact (rng_flt' bs ts (atPi P i) (atPi P j) P).symm
  · intro a _ ha
    rw [List.flatMap_eq_nil_iff]
    intro b _
    rw [show P.filter (goodS bs ts a b) = [] from by
      rw [List.filter_eq_nil_iff]
      intro c _ h
      rw [(goodS_rg h).1] at ha
      cases ha]
    rfl
theorem ap4 {a b c d : Pi} : apB [a, b, c, d] 4 4 = true ↔ pvP a ∧ pvP b ∧ pvP c ∧ pvP d := by
  unfold apB
  rw [decide_eq_true_eq]
  constructor
  · rintro ⟨_, h⟩
    exact ⟨h 0 (by simp), h 1 (by simp), h 2 (by simp), h 3 (by simp)⟩
  · rintro ⟨h0, h1, h2, h3⟩
    refine ⟨by simp, fun k hk => ?_⟩
    rcases (show k = 0 ∨ k = 1 ∨ k = 2 ∨ k = 3 from by simp only [List.length_cons, List.length_nil] at hk; omega) with rfl | rfl | rfl | rfl
    · exact h0
    · exact h1
    · exact h2
    · exact h3
theorem keq_12 {x a b c : Pi} (h : apB [x, a, b, c] 4 4 = true) (e : kyP a = kyP b) : keq [x, a, b, c] [x, b, a, c] := by
  obtain ⟨h0, h1, h2, h3⟩ := ap4.1 h
  refine ⟨by rw [h, ap4.2 ⟨h0, h2, h1, h3⟩], fun i hi => ?_⟩
  rcases (show i = 0 ∨ i = 1 ∨ i = 2 ∨ i = 3 from by omega) with rfl | rfl | rfl | rfl
  · rfl
  · exact e
  · exact e.symm
  · rfl
theorem keq_23 {x a b c : Pi} (h : apB [x, a, b, c] 4 4 = true) (e : kyP b = kyP c) : keq [x, a, b, c] [x, a, c, b] := by
  obtain ⟨h0, h1, h2, h3⟩ := ap4.1 h
  refine ⟨by rw [h, ap4.2 ⟨h0, h1, h3, h2⟩], fun i hi => ?_⟩
  rcases (show i = 0 ∨ i = 1 ∨ i = 2 ∨ i = 3 from by omega) with rfl | rfl | rfl | rfl
  · rfl
  · rfl
  · exact e
  · exact e.symm
theorem sm_12 (x a b c : Pi) (ts : List Pi) : smB [x, a, b, c] ts = smB [x, b, a, c] ts := by
  unfold smB fullB hasB
  simp only [List.all_cons, List.all_nil, List.any_cons, List.any_nil, Bool.and_true, Bool.or_false, Bool.or_left_comm, Bool.and_left_comm]
theorem sm_23 (x a b c : Pi) (ts : List Pi) : smB [x, a, b, c] ts = smB [x, a, c, b] ts := by
  have e : ∀ p, (clsB b p || clsB c p) = (clsB c p || clsB b p) := fun p => Bool.or_comm _ _
  unfold smB fullB hasB
  simp only [List.all_cons, List.all_nil, List.any_cons, List.any_nil, Bool.and_true, Bool.true_and, Bool.false_or, Bool.or_false, e, Bool.and_comm (ts.any fun q => clsB q b)]
theorem good_ap {bs a b c : Pi} {ts : List Pi} (h : goodS bs ts a b c = true) : apB [bs, a, b, c] 4 4 = true ∧ kyP a ≤ kyP b ∧ kyP b ≤ kyP c := by
  unfold goodS at h
  rw [Bool.and_eq_true] at h
  obtain ⟨h0, hc, _, _⟩ := (stkF_iff _).1 (of_decide_eq_true h.1)
  have d2 := hc 2 (by omega) (by omega)
  have d3 := hc 3 (by omega) (by omega)
  have e2 : ¬ kyP b < kyP a := d2
  have e3 : ¬ kyP c < kyP b := d3
  exact ⟨h0, by omega, by omega⟩
theorem good_12 {bs a b c : Pi} {ts : List Pi} (h : goodS bs ts a b c = true) (e : kyP a = kyP b) : goodS bs ts b a c = true := by
  have k := keq_12 (good_ap h).1 e
  unfold goodS at h ⊢
  rw [Bool.and_eq_true] at h ⊢
  exact ⟨decide_eq_true ((stk_keq k).1 (of_decide_eq_true h.1)), by rw [← sm_12]; exact h.2⟩
theorem good_23 {bs a b c : Pi} {ts : List Pi} (h : goodS bs ts a b c = true) (e : kyP b = kyP c) : goodS bs ts a c b = true := by
  have k := keq_23 (good_ap h).1 e
  unfold goodS at h ⊢
  rw [Bool.and_eq_true] at h ⊢
  exact ⟨decide_eq_true ((stk_keq k).1 (of_decide_eq_true h.1)), by rw [← sm_23]; exact h.2⟩
theorem srt_at {P : List Pi} (h : srtd P) {i j : Nat} (hij : i ≤ j) (hj : j < P.length) : kyP (atPi P i) ≤ kyP (atPi P j) := by
  rcases Nat.lt_or_ge i j with h1 | h1
  · have := List.pairwise_iff_getElem.1 h i j (by omega) hj h1
    unfold atPi
    rw [List.getD_eq_getElem?_getD, List.getD_eq_getElem?_getD, List.getElem?_eq_getElem hj, List.getElem?_eq_getElem (by omega)]
    exact this
  · obtain rfl : i = j := by omega
    omega
/-- the first chord of the program that answers to a law on keys is the first of those in order -/
theorem first_tri (bs : Pi) (ts : List Pi) (P : List Pi) (hs : srtd P) (p : List Pi → Bool) (hp : ∀ x y, keq x y → p x = p y) :
    (tri P.length).find? (fun t => le3 t && (goodS bs ts (atPi P t.1) (atPi P t.2.1) (atPi P t.2.2) && p (stT bs P t))) = (tri P.length).find? (fun t => goodS bs ts (atPi P t.1) (atPi P t.2.1) (atPi P t.2.2) && p (stT bs P t)) := by
  refine find_le fun t ht hq hle => ?_
  obtain ⟨i, j, k⟩ := t
  obtain ⟨hi, hj, hk⟩ := tri_mem.1 ht
  simp only at hi hj hk hq
  rw [Bool.and_eq_true] at hq
  obtain ⟨hg, hpp⟩ := hq
  obtain ⟨ha, h12, h23⟩ := good_ap hg
  by_cases hij : i ≤ j
  · have hjk : k < j := by
      unfold le3 at hle
      rw [Bool.and_eq_false_iff] at hle
      rcases hle with h | h
      · exact absurd hij (of_decide_eq_false h)
      · have := of_decide_eq_false h
        simp only at this
        omega
    have e : kyP (atPi P j) = kyP (atPi P k) := by
      have := srt_at hs (i := k) (j := j) (by omega) hj
      omega
    refine ⟨(i, k, j), tri_mem.2 ⟨hi, hk, hj⟩, .inr ⟨rfl, .inl hjk⟩, ?_⟩
    simp only
    rw [Bool.and_eq_true]
    exact ⟨good_23 hg e, (hp _ _ (keq_23 ha e)).symm.trans hpp⟩
  · have e : kyP (atPi P i) = kyP (atPi P j) := by
      have := srt_at hs (i := j) (j := i) (by omega) hi
      omega
    refine ⟨(j, i, k), tri_mem.2 ⟨hj, hi, hk⟩, .inl (by simp only; omega), ?_⟩
    simp only
    rw [Bool.and_eq_true]
    exact ⟨good_12 hg e, (hp _ _ (keq_12 ha e)).symm.trans hpp⟩
end
section
open Go.RowKit

theorem find_congr {α : Type} {f g : α → Bool} : ∀ {l : List α}, (∀ x ∈ l, f x = g x) → l.find? f = l.find? g
  | [], _ => rfl
  | x :: l, h => by
    have hx := h x (by simp)
    have ih := find_congr (f := f) (g := g) (l := l) (fun y hy => h y (by simp [hy]))
    rw [List.find?_cons, List.find?_cons, hx, ih]
theorem bk_mem (b : Int) (l : List Pi) : ∀ (m : Nat) (y : Pi), y ∈ bk b l m → y ∈ l
  | 0, _, h => by cases h
  | m + 1, y, h => by
    rw [bk] at h
    rcases List.mem_append.1 h with h | h
    · exact bk_mem b l m y h
    · exact (List.mem_filter.1 h).1
theorem pool_has {ts : List Pi} {y : Pi} (h : y ∈ plL ts 32) : hasB ts y = true := by
  rw [plL_bk] at h
  have h := bk_mem _ _ _ _ h
  unfold allO at h
  obtain ⟨t, ht, h⟩ := List.mem_flatMap.1 h
  unfold allT at h
  obtain ⟨i, _, rfl⟩ := List.mem_map.1 h
  unfold hasB
  refine List.any_eq_true.2 ⟨t, ht, ?_⟩
  unfold clsB
  simp
theorem fgK_mem (f pl : Int) (b : Pi) (D : List Int) : ∀ k, b ∈ fgK f pl b D k
  | 0 => by simp [fgK]
  | k + 1 => by
    unfold fgK
    exact List.mem_append.2 (.inl (fgK_mem f pl b D k))
theorem fg_has {f g : Int} {b : Pi} (h : fgL f b g ≠ []) : hasB (fgL f b g) b = true := by
  unfold fgL at h ⊢
  split at h
  · rename_i hp
    rw [if_pos hp]
    unfold hasB
    refine List.any_eq_true.2 ⟨b, fgK_mem _ _ _ _ _, ?_⟩
    unfold clsB
    simp
  · exact absurd rfl h
theorem good_same {f g : Int} {bs : Pi} {ts : List Pi} (hts : fgL f bs g = ts) {a b c : Pi} (ha : a ∈ plL ts 32) (hb : b ∈ plL ts 32) (hc : c ∈ plL ts 32) : goodP bs ts a b c = goodS bs ts a b c := by
  have hn : ts ≠ [] := fun e => by rw [e, plL_nil] at ha; cases ha
  have h0 : hasB ts bs = true := by rw [← hts]; exact fg_has (by rw [hts]; exact hn)
  have h1 := pool_has ha
  have h2 := pool_has hb
  have h3 := pool_has hc
  unfold goodP goodS smB
  rw [show fullB ts [bs, a, b, c] = true from by
    unfold fullB
    simp only [List.all_cons, List.all_nil, h0, h1, h2, h3]
    rfl]
  rw [Bool.true_and]
theorem find_same {f g : Int} {bs : Pi} {ts : List Pi} (hts : fgL f bs g = ts) (p : List Pi → Bool) (hp : ∀ x y, keq x y → p x = p y) : (spL bs ts).find? p = (stkL bs ts).find? p := by
  obtain ⟨P, hP⟩ : ∃ P, plL ts 32 = P := ⟨_, rfl⟩
  have hs : srtd P := by rw [← hP, plL_bk]; exact bk_srtd _ _ _
  have hg : ∀ a b c, a ∈ P → b ∈ P → c ∈ P → goodP bs ts a b c = goodS bs ts a b c := by
    rw [← hP]
    exact fun a b c => good_same hts
  have hf := first_tri bs ts P hs p hp
  have e1 : spL bs ts = ((tri P.length).filter fun t => le3 t && goodP bs ts (atPi P t.1) (atPi P t.2.1) (atPi P t.2.2)).map (stT bs P) := by
    unfold spL
    rw [hP, sp_tri]
  rw [e1, st_tri bs ts P hP, List.find?_map, List.find?_map, List.find?_filter, List.find?_filter]
  refine congrArg _ ?_
  refine (find_congr fun t ht => ?_).trans (hf.trans (find_congr fun t _ => ?_))
  · obtain ⟨h1, h2, h3⟩ := tri_mem.1 ht
    rw [hg _ _ _ (at_mem h1) (at_mem h2) (at_mem h3)]
    simp only [Bool.decide_and, Bool.decide_eq_true, Bool.and_assoc, Function.comp]
  · simp only [Bool.decide_and, Bool.decide_eq_true, Function.comp]
theorem any_find {l : List (List Pi)} {p : List Pi → Bool} : l.any p = (l.find? p).isSome := by
  induction l with
  | nil => rfl
  | cons x l ih =>
    rw [List.any_cons, List.find?_cons, ih]
    cases p x <;> rfl
theorem any_same {f g : Int} {bs : Pi} {ts : List Pi} (hts : fgL f bs g = ts) (p : List Pi → Bool) (hp : ∀ x y, keq x y → p x = p y) : (spL bs ts).any p = (stkL bs ts).any p := by
  rw [any_find, any_find, find_same hts p hp]
end
section
open Go.RowKit

/-- the reference's chords at place i -/
def spI (f : Int) (bs : List Pi) (gs : List Int) (i : Nat) : List (List Pi) := spL (atPi bs i) (tnI f bs gs i)
/-- from a chord at the place with q places behind it one can go on to the end: the reference -/
def gdR (f : Int) (bs : List Pi) (gs : List Int) : Nat → List Pi → Bool
  | 0, _ => true
  | q + 1, x => (spI f bs gs (bs.length - 1 - q)).any fun y => gdR f bs gs q y && decide (mvF x y = 0)
theorem gdR_keq (f : Int) (bs : List Pi) (gs : List Int) : ∀ (q : Nat) (x y : List Pi), keq x y → gdR f bs gs q x = gdR f bs gs q y
  | 0, _, _, _ => rfl
  | q + 1, x, y, h => by
    unfold gdR
    simp only [mvF_keq _ h]
theorem take_snPP {l : List (List Pi)} {k : Nat} (hk : k < l.length) : l.take (k + 1) = l.take k ++ [atPP l k] := by
  rw [List.take_succ_eq_append_getElem hk]
  unfold atPP
  rw [List.getD_eq_getElem?_getD, List.getElem?_eq_getElem hk]
  rfl
theorem co_filter (LL MM : List (List Pi)) : ∀ k, k ≤ LL.length → coK LL MM k = (LL.take k).filter fun x => folB x MM
  | 0, _ => rfl
  | k + 1, hk => by
    rw [take_snPP (by omega), List.filter_append, ← co_filter LL MM k (by omega), coK]
    by_cases h : folB (atPP LL k) MM = true
    · rw [if_pos h, List.filter_cons_of_pos (p := fun x => folB x MM) h]; rfl
    · rw [if_neg h, List.filter_cons_of_neg (p := fun x => folB x MM) h]; simp
theorem gd_any (f : Int) (bs : List Pi) (gs : List Int) (i : Nat) (p : List Pi → Bool) (hp : ∀ x y, keq x y → p x = p y) : (spI f bs gs i).any p = (sksI f bs gs i).any p :=
  any_same (f := f) (g := gs.getD i 0) rfl p hp
theorem gd_find (f : Int) (bs : List Pi) (gs : List Int) (i : Nat) (p : List Pi → Bool) (hp : ∀ x y, keq x y → p x = p y) : (spI f bs gs i).find? p = (sksI f bs gs i).find? p :=
  find_same (f := f) (g := gs.getD i 0) rfl p hp
/-- the program's choices are those chords -/
theorem ch_gd (f : Int) (bs : List Pi) (gs : List Int) : ∀ q, chF f bs gs q = (sksI f bs gs (bs.length - 1 - q)).filter (gdR f bs gs q)
  | 0 => by
    unfold chF
    rw [Nat.sub_zero]
    symm
    exact List.filter_eq_self.2 (fun _ _ => rfl)
  | q + 1 => by
    unfold chF
    rw [co_filter _ _ _ (Nat.le_refl _), List.take_length]
    refine List.filter_congr fun x _ => ?_
    rw [ch_gd f bs gs q]
    unfold folB gdR
    rw [List.any_filter, gd_any f bs gs _ _ (fun y z h => by rw [gdR_keq f bs gs q y z h, mvF_keq2 x h])]
/-- the first chords: the reference -/
def rfO (f : Int) (bs : List Pi) (gs : List Int) : Nat → Option (List (List Pi))
  | 0 => ((spI f bs gs 0).find? (gdR f bs gs (bs.length - 1))).map fun x => [x]
  | k + 1 => (rfO f bs gs k).bind fun L => ((spI f bs gs (k + 1)).find? fun x => gdR f bs gs (bs.length - 1 - (k + 1)) x && decide (mvF (atPP L k) x = 0)).map fun x => L ++ [x]
theorem ch_first (f : Int) (bs : List Pi) (gs : List Int) (q : Nat) (p : List Pi → Bool) (hp : ∀ x y, keq x y → p x = p y) : (chF f bs gs q).find? p = (spI f bs gs (bs.length - 1 - q)).find? fun x => gdR f bs gs q x && p x := by
  rw [ch_gd, gd_find f bs gs _ _ (fun x y h => by rw [gdR_keq f bs gs q x y h, hp x y h]), List.find?_filter]
  refine find_congr fun x _ => ?_
  simp only [Bool.decide_and, Bool.decide_eq_true]
end
section
open Go.RowKit

theorem stk_none (b : Pi) : stkL b [] = [] := rfl
theorem ch_down (f : Int) (bs : List Pi) (gs : List Int) (q : Nat) (h : chF f bs gs q = []) : chF f bs gs (q + 1) = [] := by
  rw [chF, h, co_filter _ _ _ (Nat.le_refl _), List.take_length]
  exact List.filter_eq_nil_iff.2 (fun x _ => by simp [folB])
theorem ch_none (f : Int) (bs : List Pi) (gs : List Int) (q : Nat) (h : chF f bs gs q = []) : ∀ d, chF f bs gs (q + d) = []
  | 0 => h
  | d + 1 => ch_down f bs gs (q + d) (ch_none f bs gs q h d)
theorem ch_tn (f : Int) (bs : List Pi) (gs : List Int) (i : Nat) (hi : i < bs.length) (h : tnI f bs gs i = []) : chF f bs gs (bs.length - 1) = [] := by
  have h1 : chF f bs gs (bs.length - 1 - i) = [] := by
    rw [ch_gd, show bs.length - 1 - (bs.length - 1 - i) = i from by omega, sksI, h, stk_none]
    rfl
  have := ch_none f bs gs _ h1 i
  rwa [show bs.length - 1 - i + i = bs.length - 1 from by omega] at this
theorem rf_zero (f : Int) (bs : List Pi) (gs : List Int) : rfO f bs gs 0 = ((chF f bs gs (bs.length - 1)).find? fun _ => true).map fun x => [x] := by
  rw [ch_first f bs gs _ _ (fun _ _ _ => rfl), Nat.sub_self, rfO]
  exact (congrArg _ (find_congr fun x _ => (Bool.and_true _))).symm
theorem rf_none (f : Int) (bs : List Pi) (gs : List Int) (h : rfO f bs gs 0 = none) : ∀ k, rfO f bs gs k = none
  | 0 => h
  | k + 1 => by rw [rfO, rf_none f bs gs h k]; rfl
theorem rf_some (f : Int) (bs : List Pi) (gs : List Int) (hC : chF f bs gs (bs.length - 1) ≠ []) : ∀ k, k + 1 ≤ bs.length → rfO f bs gs k = some (ouI f bs gs k) ∧ atPP (ouI f bs gs k) k ∈ chF f bs gs (bs.length - 1 - k)
  | 0, _ => by
    obtain ⟨x, r, e⟩ : ∃ x r, chF f bs gs (bs.length - 1) = x :: r := by
      cases h : chF f bs gs (bs.length - 1) with
      | nil => exact absurd h hC
      | cons x r => exact ⟨x, r, rfl⟩
    constructor
    · rw [rf_zero, ouI, e]; rfl
    · rw [ouI, e, Nat.sub_zero, e]
      show x ∈ x :: r
      simp
  | k + 1, hk => by
    obtain ⟨h1, h2⟩ := rf_some f bs gs hC k (by omega)
    obtain ⟨L, hL⟩ : ∃ L, ouI f bs gs k = L := ⟨_, rfl⟩
    have hl := ou_len f bs gs k
    rw [hL] at h1 h2 hl
    obtain ⟨q, hq⟩ : ∃ q, bs.length - 1 - (k + 1) = q := ⟨_, rfl⟩
    rw [show bs.length - 1 - k = q + 1 from by omega] at h2
    have hfo := ch_fol f bs gs q h2
    obtain ⟨a, ha⟩ : ∃ a, atPP L k = a := ⟨_, rfl⟩
    rw [ha] at hfo h2
    have hc := ch_first f bs gs q (fun x => decide (mvF a x = 0)) (fun x y h => by rw [mvF_keq2 a h])
    rw [show bs.length - 1 - q = k + 1 from by omega] at hc
    cases hf : (chF f bs gs q).find? (fun x => decide (mvF a x = 0)) with
    | none =>
      unfold folB at hfo
      rw [any_find, hf] at hfo
      cases hfo
    | some y =>
      have hy : foF a (chF f bs gs q) = y := by unfold foF; rw [hf]; rfl
      have ho : ouI f bs gs (k + 1) = L ++ [y] := by rw [ouI, hL, ha, hq, hy]
      constructor
      · rw [rfO, h1, ho, Option.bind_some, ha, hq, ← hc, hf, Option.map_some]
      · rw [ho, hq, atPP_snoc L y (k + 1) (by omega), if_pos hl.symm]
        exact List.mem_of_find?_eq_some hf
theorem rb_rf (f : Int) (bs : List Pi) (gs : List Int) : rbI f bs gs = if rbG f bs gs then rfO f bs gs (bs.length - 1) else none := by
  by_cases hG : rbG f bs gs
  · rw [if_pos hG]
    by_cases hC : chF f bs gs (bs.length - 1) = []
    · rw [rb_noC hC, rf_none f bs gs (by rw [rf_zero, hC]; rfl)]
    · rw [rb_yes hG (fun i hi e => hC (ch_tn f bs gs i hi e)) hC, (rf_some f bs gs hC _ (by have := hG.2.1; omega)).1]
  · rw [if_neg hG, rb_noG hG]
end
section
open Go.RowKit

theorem stC_good (b : Pi) (ts : List Pi) (a c : Pi) (V : List Pi) : ∀ k, ∀ x ∈ stC b ts a c V k, ∃ d, x = [b, a, c, d] ∧ goodS b ts a c d = true
  | 0, _, h => by cases h
  | k + 1, x, h => by
    unfold stC at h
    split at h
    · rename_i hg
      rcases List.mem_append.1 h with h | h
      · exact stC_good b ts a c V k x h
      · exact ⟨_, List.mem_singleton.1 h, hg⟩
    · exact stC_good b ts a c V k x h
theorem stB_good (b : Pi) (ts : List Pi) (a : Pi) (V2 V3 : List Pi) : ∀ k, ∀ x ∈ stB b ts a V2 V3 k, ∃ c d, x = [b, a, c, d] ∧ goodS b ts a c d = true
  | 0, _, h => by cases h
  | k + 1, x, h => by
    unfold stB at h
    rcases List.mem_append.1 h with h | h
    · exact stB_good b ts a V2 V3 k x h
    · exact ⟨_, stC_good _ _ _ _ _ _ x h⟩
theorem stA_good (b : Pi) (ts : List Pi) (V1 V2 V3 : List Pi) : ∀ k, ∀ x ∈ stA b ts V1 V2 V3 k, ∃ a c d, x = [b, a, c, d] ∧ goodS b ts a c d = true
  | 0, _, h => by cases h
  | k + 1, x, h => by
    unfold stA at h
    rcases List.mem_append.1 h with h | h
    · exact stA_good b ts V1 V2 V3 k x h
    · exact ⟨_, stB_good _ _ _ _ _ _ x h⟩
/-- a chord of the program's list has no fault, its bass, and the tones of its figure -/
theorem sks_ok {f : Int} {bs : List Pi} {gs : List Int} {i : Nat} {x : List Pi} (h : x ∈ sksI f bs gs i) : stkF x = 0 ∧ smB x (tnI f bs gs i) = true ∧ atPi x 0 = atPi bs i ∧ x.length = 4 := by
  obtain ⟨a, c, d, rfl, hg⟩ := stA_good _ _ _ _ _ _ x h
  unfold goodS at hg
  rw [Bool.and_eq_true] at hg
  exact ⟨of_decide_eq_true hg.1, hg.2, rfl, rfl⟩
theorem ch_sub (f : Int) (bs : List Pi) (gs : List Int) (q : Nat) {x : List Pi} (h : x ∈ chF f bs gs q) : x ∈ sksI f bs gs (bs.length - 1 - q) := by
  rw [ch_gd] at h
  exact (List.mem_filter.1 h).1
theorem ou_at (f : Int) (bs : List Pi) (gs : List Int) (i : Nat) : ∀ k, i ≤ k → atPP (ouI f bs gs k) i = atPP (ouI f bs gs i) i
  | 0, h => by obtain rfl : i = 0 := by omega
               rfl
  | k + 1, h => by
    by_cases e : i = k + 1
    · rw [e]
    · rw [ouI, atPP_snoc _ _ _ (by rw [ou_len]; omega), if_neg (by rw [ou_len]; omega), ou_at f bs gs i k (by omega)]
theorem ou_next (f : Int) (bs : List Pi) (gs : List Int) (k : Nat) : atPP (ouI f bs gs (k + 1)) (k + 1) = foF (atPP (ouI f bs gs k) k) (chF f bs gs (bs.length - 1 - (k + 1))) := by
  rw [ouI, atPP_snoc _ _ _ (by rw [ou_len]; omega), if_pos (by rw [ou_len])]
theorem fo_zero {a : List Pi} {LL : List (List Pi)} (h : folB a LL = true) : mvF a (foF a LL) = 0 := by
  unfold folB at h
  rw [any_find] at h
  unfold foF
  cases hf : LL.find? (fun y => decide (mvF a y = 0)) with
  | none => rw [hf] at h; cases h
  | some y => exact of_decide_eq_true (List.find?_some (p := fun y => decide (mvF a y = 0)) hf)
theorem rb_some {f : Int} {bs : List Pi} {gs : List Int} {L : List (List Pi)} (h : rbI f bs gs = some L) : rbG f bs gs ∧ (∀ i, i < bs.length → tnI f bs gs i ≠ []) ∧ chF f bs gs (bs.length - 1) ≠ [] ∧ L = ouI f bs gs (bs.length - 1) := by
  unfold rbI at h
  split at h
  · rename_i hc
    exact ⟨hc.1, hc.2.1, hc.2.2, (Option.some.inj h).symm⟩
  · cases h
theorem rb_len {f : Int} {bs : List Pi} {gs : List Int} {L : List (List Pi)} (h : rbI f bs gs = some L) : L.length = bs.length := by
  obtain ⟨hG, _, _, rfl⟩ := rb_some h
  have := hG.2.1.1
  rw [ou_len]; omega
theorem rb_chord {f : Int} {bs : List Pi} {gs : List Int} {L : List (List Pi)} (h : rbI f bs gs = some L) (i : Nat) (hi : i < L.length) : atPP L i ∈ sksI f bs gs i ∧ (i + 1 < L.length → mvF (atPP L i) (atPP L (i + 1)) = 0) := by
  have hl := rb_len h
  obtain ⟨hG, hT, hC, rfl⟩ := rb_some h
  rw [hl] at hi
  have m := (rf_some f bs gs hC i (by omega)).2
  constructor
  · rw [ou_at f bs gs i _ (by omega)]
    have := ch_sub f bs gs _ m
    rwa [show bs.length - 1 - (bs.length - 1 - i) = i from by omega] at this
  · intro hi1
    rw [hl] at hi1
    rw [ou_at f bs gs i _ (by omega), ou_at f bs gs (i + 1) _ (by omega), ou_next]
    obtain ⟨q, hq⟩ : ∃ q, bs.length - 1 - (i + 1) = q := ⟨_, rfl⟩
    rw [show bs.length - 1 - i = q + 1 from by omega] at m
    rw [hq]
    exact fo_zero (ch_fol f bs gs q m)
theorem rb_sf {f : Int} {bs : List Pi} {gs : List Int} {L : List (List Pi)} (h : rbI f bs gs = some L) (i : Nat) (hi : i < L.length) : sfK L i = 0 ∧ mfK L i = 0 := by
  refine ⟨(sks_ok (rb_chord h i hi).1).1, ?_⟩
  cases i with
  | zero => rfl
  | succ j => rw [mfK_s]; exact (rb_chord h j (by omega)).2 hi
theorem rb_four {f : Int} {bs : List Pi} {gs : List Int} {L : List (List Pi)} (h : rbI f bs gs = some L) (i : Nat) (hi : i < L.length) : (atPP L i).length = 4 := (sks_ok (rb_chord h i hi).1).2.2.2
/-- the chords for a bass have no fault -/
theorem rb_parts {f : Int} {bs : List Pi} {gs : List Int} {L : List (List Pi)} (h : rbI f bs gs = some L) : pfL L = [] := by
  have key : ∀ k, k ≤ L.length → pfK L k = [] := by
    intro k
    induction k with
    | zero => intro _; rfl
    | succ k ih =>
      intro hk
      obtain ⟨e1, e2⟩ := rb_sf h k (by omega)
      rw [pfK, ih (by omega), e1, e2]
      rfl
  unfold pfL
  split
  · exact key _ (Nat.le_refl _)
  · rfl
/-- every chord is right -/
theorem rb_right {f : Int} {bs : List Pi} {gs : List Int} {L : List (List Pi)} (h : rbI f bs gs = some L) : rfI f bs gs L = -1 := by
  have hl := rb_len h
  obtain ⟨hG, hT, _, _⟩ := rb_some h
  have hP : rfP f bs gs L := ⟨hG.1, by rw [hl]; exact hG.2.1.2, hl.symm, by rw [hl]; exact hG.2.2⟩
  rw [rfI_yes hP]
  refine fstI_none _ fun k hk => ?_
  obtain ⟨e1, e2⟩ := rb_sf h k hk
  obtain ⟨_, hs, h0, h4⟩ := sks_ok (rb_chord h k hk).1
  have hft : ftB L k = false := by unfold ftB; rw [e1, e2]; rfl
  have hrc : rcB f (atPi bs k) (gs.getD k 0) (atPP L k) = true := by
    have hne : 0 < (fgL f (atPi bs k) (gs.getD k 0)).length := by
      have := hT k (by omega)
      unfold tnI at this
      exact List.length_pos_iff.2 this
    unfold rcB
    rw [decide_eq_true hne, h4, h0, piB_iff.2 rfl]
    exact hs
  unfold bdB
  rw [hft, hrc]
  rfl
/-- a part of the chords is wrong where the whole is -/
theorem atPP_take {ll : List (List Pi)} {n k : Nat} (h : k < n) : atPP (ll.take n) k = atPP ll k := by
  unfold atPP
  rw [List.getD_eq_getElem?_getD, List.getElem?_take, if_pos h, ← List.getD_eq_getElem?_getD]
theorem atPi_take {l : List Pi} {n k : Nat} (h : k < n) : atPi (l.take n) k = atPi l k := by
  unfold atPi
  rw [List.getD_eq_getElem?_getD, List.getElem?_take, if_pos h, ← List.getD_eq_getElem?_getD]
theorem getD_take {l : List Int} {n k : Nat} (h : k < n) : (l.take n).getD k 0 = l.getD k 0 := by
  rw [List.getD_eq_getElem?_getD, List.getElem?_take, if_pos h, ← List.getD_eq_getElem?_getD]
theorem bdB_take (f : Int) (bs : List Pi) (gs : List Int) (ll : List (List Pi)) {n k : Nat} (h : k < n) : bdB f (bs.take n) (gs.take n) (ll.take n) k = bdB f bs gs ll k := by
  have e1 : sfK (ll.take n) k = sfK ll k := by unfold sfK; rw [atPP_take h]
  have e2 : mfK (ll.take n) k = mfK ll k := by
    cases k with
    | zero => rfl
    | succ j => rw [mfK_s, mfK_s, atPP_take (by omega), atPP_take h]
  unfold bdB ftB
  rw [e1, e2, atPi_take h, getD_take h, atPP_take h]
theorem rf_prefix {f : Int} {bs : List Pi} {gs : List Int} {ll : List (List Pi)} {k : Nat} (h : rfI f bs gs ll = (k : Int)) :
    k < ll.length ∧ bs.length = ll.length ∧ gs.length = ll.length ∧ ll.length ≤ 8 ∧ rfI f (bs.take k) (gs.take k) (ll.take k) = -1 ∧ rfI f (bs.take (k + 1)) (gs.take (k + 1)) (ll.take (k + 1)) = (k : Int) := by
  by_cases hP : rfP f bs gs ll
  · rw [rfI_yes hP] at h
    obtain ⟨hf, h8, h1, h2⟩ := hP
    rcases fstI_cases (bdB f bs gs ll) ll.length with ⟨e, _⟩ | ⟨j, hj, e, hb, hn⟩
    · rw [e] at h; omega
    · obtain rfl : j = k := by rw [e] at h; omega
      have hPn : ∀ n, n ≤ ll.length → rfP f (bs.take n) (gs.take n) (ll.take n) := fun n hn9 => ⟨hf, by simp only [List.length_take]; omega, by simp only [List.length_take]; omega, by simp only [List.length_take]; omega⟩
      refine ⟨hj, h1, h2, h8, ?_, ?_⟩
      · rw [rfI_yes (hPn j (by omega))]
        refine fstI_none _ fun i hi => ?_
        rw [List.length_take] at hi
        rw [bdB_take f bs gs ll (by omega)]
        exact hn i (by omega)
      · rw [rfI_yes (hPn (j + 1) (by omega))]
        refine fstI_hit ?_ (fun i hi => ?_) _ (by rw [List.length_take]; omega)
        · rw [bdB_take f bs gs ll (by omega)]; exact hb
        · rw [bdB_take f bs gs ll (by omega)]; exact hn i (by omega)
  · rw [rfI_no hP] at h; omega
end
end Go.Proofs.Ytpjakgnghpapmaa
