/- Voices moved and moved back: plain. -/
import Derived.Test.YtacbkmahofmbcaaShC
namespace Go.Proofs.Ytacbkmahofmbcaa
set_option linter.unusedSimpArgs false
set_option linter.unusedVariables false
open Go.RowKit

theorem nt_ext {l l' : List Nt} (h : l.length = l'.length) (hk : ∀ k, k < l.length → atNt l k = atNt l' k) : l = l' := by
  refine List.ext_getElem h fun k h1 h2 => ?_
  have := hk k h1
  unfold atNt at this
  rw [List.getD_eq_getElem?_getD, List.getD_eq_getElem?_getD, List.getElem?_eq_getElem h1, List.getElem?_eq_getElem h2] at this
  exact this
theorem at_app_lt {l m : List Nt} {k : Nat} (h : k < l.length) : atNt (l ++ m) k = atNt l k := by
  unfold atNt
  rw [List.getD_eq_getElem?_getD, List.getElem?_append_left h, ← List.getD_eq_getElem?_getD]
theorem at_app_end {l : List Nt} {x : Nt} : atNt (l ++ [x]) l.length = x := by
  unfold atNt; simp
theorem at_mvK (st ha : Int) (l : List Nt) : ∀ n k, k < n → atNt (mvK st ha l n) k = mvN st ha (atNt l k)
  | 0, k, h => absurd h (by omega)
  | n + 1, k, h => by
    unfold mvK
    by_cases e : k < n
    · rw [at_app_lt (by rw [mvK_len]; exact e)]; exact at_mvK st ha l n k e
    · obtain rfl : k = n := by omega
      have := @at_app_end (mvK st ha l k) (mvN st ha (atNt l k))
      rw [mvK_len] at this
      exact this
/-- what the moved pitch is -/
theorem add_ok {s a o st ha : Int} (h : adB s a o st ha = true) :
    pvB s a o = true ∧ pvB (adS s a o st ha) (adA s a o st ha) (adO s a o st ha) = true ∧ 7 * adO s a o st ha + adS s a o st ha = 7 * o + s + st ∧ 12 * adO s a o st ha + shI (adS s a o st ha) + adA s a o st ha = 12 * o + shI s + a + ha := by
  unfold adS adA adO
  rw [if_pos h, if_pos h, if_pos h]
  unfold adB at h
  simp only [Bool.and_eq_true] at h
  obtain ⟨⟨h1, _⟩, h3⟩ := h
  unfold pwB at h3
  simp only [Bool.and_eq_true, decide_eq_true_eq] at h3
  refine ⟨h1, h3.2, by omega, ?_⟩
  unfold natI
  omega
/-- the moved pitch is the one with this place and this key -/
theorem add_to {s a o st ha s' a' o' : Int} (h : pvB s a o = true) (hi : ivB st ha = true) (h' : pvB s' a' o' = true) (hp : 7 * o' + s' = 7 * o + s + st) (hk : 12 * o' + shI s' + a' = 12 * o + shI s + a + ha) :
    adB s a o st ha = true ∧ adS s a o st ha = s' ∧ adA s a o st ha = a' ∧ adO s a o st ha = o' := by
  obtain ⟨b0, b1, _, _, b4, b5⟩ := pvB_bd h'
  have n : natI (7 * o + s + st) = 12 * o' + shI s' := by rw [← hp]; exact natI_of o' s' b0 b1
  have e1 : (7 * o + s + st) % 7 = s' := by omega
  have e2 : (7 * o + s + st) / 7 = o' := by omega
  have e3 : 12 * o + shI s + a + ha - natI (7 * o + s + st) = a' := by omega
  have hB : adB s a o st ha = true := by
    unfold adB pwB
    rw [h, hi, e1, e2, e3, h']
    simp only [Bool.and_eq_true, decide_eq_true_eq, and_self, and_true, true_and]
    omega
  unfold adS adA adO
  rw [if_pos hB, if_pos hB, if_pos hB]
  exact ⟨hB, e1, e3, e2⟩
theorem mvN_rest {st ha : Int} {t : Nt} (h : t.rest = true) : mvN st ha t = t := if_pos h
theorem mvN_tone {st ha : Int} {t : Nt} (h : t.rest = false) : mvN st ha t = ⟨t.rest, adS t.step t.alter t.octave st ha, adA t.step t.alter t.octave st ha, adO t.step t.alter t.octave st ha, t.ticks, t.tied⟩ := if_neg (by rw [h]; simp)
theorem mvN_rest_eq (st ha : Int) (t : Nt) : (mvN st ha t).rest = t.rest ∧ (mvN st ha t).ticks = t.ticks ∧ (mvN st ha t).tied = t.tied := by
  cases h : t.rest
  · rw [mvN_tone h]; exact ⟨h, rfl, rfl⟩
  · rw [mvN_rest h]; exact ⟨h, rfl, rfl⟩
theorem nv_mv {st ha : Int} {t : Nt} (h : nvB t = true) (ho : mvOk st ha t) : nvB (mvN st ha t) = true := by
  cases e : t.rest
  · rcases ho with ho | ho
    · rw [e] at ho; cases ho
    · rw [mvN_tone e]
      unfold nvB at h ⊢
      simp only [e, Bool.and_eq_true] at h ⊢
      exact ⟨h.1, by simpa using (add_ok ho).2.1⟩
  · rw [mvN_rest e]; exact h
theorem sh_facts {l : List Nt} {st ha : Int} (h : shB l st ha = true) : vvB l = true ∧ ivB st ha = true ∧ (∀ k, k < l.length → mvOk st ha (atNt l k)) ∧ shL l st ha = mvK st ha l l.length := by
  obtain ⟨h1, h2, h3⟩ := of_decide_eq_true h
  exact ⟨h1, h2, h3, by unfold shL; rw [if_pos h]⟩
theorem vv_mv {l : List Nt} {st ha : Int} (h : vvB l = true) (ho : ∀ k, k < l.length → mvOk st ha (atNt l k)) : vvB (mvK st ha l l.length) = true := by
  obtain ⟨hl, hk⟩ : l.length ≤ 60 ∧ ∀ k, k < l.length → vOk l k := of_decide_eq_true h
  refine vvB_yes (by rw [mvK_len]; exact hl) fun k hkl => ?_
  rw [mvK_len] at hkl
  obtain ⟨v1, v2⟩ := hk k hkl
  unfold vOk
  rw [at_mvK _ _ _ _ _ hkl, mvK_len]
  refine ⟨nv_mv v1 (ho k hkl), fun ht => ?_⟩
  have ht : (atNt l k).tied = true := by rw [← (mvN_rest_eq st ha (atNt l k)).2.2]; exact ht
  obtain ⟨t1, t2, t3, t4, t5⟩ := v2 ht
  rw [at_mvK _ _ _ _ _ t1]
  refine ⟨t1, by rw [(mvN_rest_eq _ _ _).1]; exact t2, ?_⟩
  have hr : (atNt l k).rest = false := by
    unfold nvB at v1
    cases e : (atNt l k).rest
    · rfl
    · rw [e] at v1
      simp [ht] at v1
  rw [mvN_tone hr, mvN_tone t2, t3, t4, t5]
  exact ⟨rfl, rfl, rfl⟩
/-- two moves are one move -/
theorem mv_mv {st ha st' ha' st2 ha2 : Int} {t : Nt} (hs : st + st' = st2) (hh : ha + ha' = ha2) (hi : ivB st2 ha2 = true) (h1 : mvOk st ha t) (h2 : mvOk st' ha' (mvN st ha t)) :
    mvOk st2 ha2 t ∧ mvN st' ha' (mvN st ha t) = mvN st2 ha2 t := by
  cases e : t.rest
  · have h1 : adB t.step t.alter t.octave st ha = true := by
      rcases h1 with h1 | h1
      · rw [e] at h1; cases h1
      · exact h1
    rw [mvN_tone e] at h2 ⊢
    have h2 : adB (adS t.step t.alter t.octave st ha) (adA t.step t.alter t.octave st ha) (adO t.step t.alter t.octave st ha) st' ha' = true := by
      rcases h2 with h2 | h2
      · simp only at h2; rw [e] at h2; cases h2
      · exact h2
    obtain ⟨a1, a2, a3, a4⟩ := add_ok h1
    obtain ⟨b1, b2, b3, b4⟩ := add_ok h2
    obtain ⟨c1, c2, c3, c4⟩ := add_to (st := st2) (ha := ha2) a1 hi b2 (by omega) (by omega)
    refine ⟨.inr c1, ?_⟩
    rw [mvN_tone e, mvN_tone (by exact e), c2, c3, c4]
  · exact ⟨.inl e, by rw [mvN_rest e, mvN_rest e, mvN_rest e]⟩
/-- a move back is possible, and leads back -/
theorem mv_back {st ha st' ha' : Int} {t : Nt} (hs : st' = -st) (hh : ha' = -ha) (hi : ivB st' ha' = true) (h1 : mvOk st ha t) : mvOk st' ha' (mvN st ha t) ∧ mvN st' ha' (mvN st ha t) = t := by
  cases e : t.rest
  · have h1 : adB t.step t.alter t.octave st ha = true := by
      rcases h1 with h1 | h1
      · rw [e] at h1; cases h1
      · exact h1
    rw [mvN_tone e]
    obtain ⟨a1, a2, a3, a4⟩ := add_ok h1
    obtain ⟨c1, c2, c3, c4⟩ := add_to (st := st') (ha := ha') a2 hi a1 (by omega) (by omega)
    refine ⟨.inr c1, ?_⟩
    rw [mvN_tone (by exact e)]
    simp only [c2, c3, c4]
  · exact ⟨.inl (by rw [mvN_rest e]; exact e), by rw [mvN_rest e, mvN_rest e]⟩
theorem sh_back {l : List Nt} {st ha st' ha' : Int} (hs : st' = -st) (hh : ha' = -ha) (hi : ivB st' ha' = true) (h : shB l st ha = true) : shB (shL l st ha) st' ha' = true ∧ shL (shL l st ha) st' ha' = l := by
  obtain ⟨h1, h2, h3, h4⟩ := sh_facts h
  rw [h4]
  have hlen := mvK_len st ha l l.length
  have hb : ∀ k, k < (mvK st ha l l.length).length → mvOk st' ha' (atNt (mvK st ha l l.length) k) := fun k hk => by
    rw [hlen] at hk
    rw [at_mvK _ _ _ _ _ hk]
    exact (mv_back hs hh hi (h3 k hk)).1
  obtain ⟨y1, y2⟩ := sh_yes (vv_mv h1 h3) hi hb
  refine ⟨y1, ?_⟩
  rw [y2]
  refine nt_ext (by rw [mvK_len, hlen]) fun k hk => ?_
  rw [mvK_len] at hk
  rw [at_mvK _ _ _ _ _ hk]
  rw [hlen] at hk
  rw [at_mvK _ _ _ _ _ hk]
  exact (mv_back hs hh hi (h3 k hk)).2
theorem sh_two {l : List Nt} {st ha st' ha' st2 ha2 : Int} (hs : st + st' = st2) (hh : ha + ha' = ha2) (hi : ivB st2 ha2 = true) (h : shB l st ha = true) (h' : shB (shL l st ha) st' ha' = true) : shB l st2 ha2 = true ∧ shL l st2 ha2 = shL (shL l st ha) st' ha' := by
  obtain ⟨h1, h2, h3, h4⟩ := sh_facts h
  obtain ⟨g1, g2, g3, g4⟩ := sh_facts h'
  rw [g4]
  rw [h4] at g3 ⊢
  have hlen := mvK_len st ha l l.length
  have hg : ∀ k, k < l.length → mvOk st' ha' (mvN st ha (atNt l k)) := fun k hk => by
    have := g3 k (by rw [hlen]; exact hk)
    rw [at_mvK _ _ _ _ _ hk] at this
    exact this
  obtain ⟨y1, y2⟩ := sh_yes h1 hi fun k hk => (mv_mv hs hh hi (h3 k hk) (hg k hk)).1
  refine ⟨y1, ?_⟩
  rw [y2]
  refine nt_ext (by rw [mvK_len, mvK_len, hlen]) fun k hk => ?_
  rw [mvK_len] at hk
  rw [at_mvK _ _ _ _ _ hk, at_mvK _ _ _ _ _ (by rw [hlen]; exact hk), at_mvK _ _ _ _ _ hk]
  exact (mv_mv hs hh hi (h3 k hk) (hg k hk)).2.symm
end Go.Proofs.Ytacbkmahofmbcaa
