/- The first chord of a realized bass is not before the chord for its first pitch alone, plain. -/
import Derived.Test.YtpjakgnghpapmaaBz
import Derived.Test.YtpjakgnghpapmaaDrFi
namespace Go.Proofs.Ytpjakgnghpapmaa
set_option linter.unusedSimpArgs false
set_option linter.unusedVariables false
open Go.RowKit

def chkK : Bool := (List.range 15).all fun f => (List.range 7).all fun s => (List.range 7).all fun t => decide (s = t) || decide ((shI (s : Int) + alI ((f : Int) - 7) (s : Int) - (shI (t : Int) + alI ((f : Int) - 7) (t : Int))) % 12 ≠ 0)
theorem chkK_ok : chkK = true := by decide +kernel
theorem step_one {f s t : Int} (hf : -7 ≤ f ∧ f ≤ 7) (hs : 0 ≤ s ∧ s ≤ 6) (ht : 0 ≤ t ∧ t ≤ 6) (h : (shI s + alI f s - (shI t + alI f t)) % 12 = 0) : s = t := by
  obtain ⟨f', rfl⟩ : ∃ f' : Nat, f = (f' : Int) - 7 := ⟨(f + 7).toNat, by omega⟩
  obtain ⟨s', rfl⟩ : ∃ s' : Nat, s = (s' : Int) := ⟨s.toNat, by omega⟩
  obtain ⟨t', rfl⟩ : ∃ t' : Nat, t = (t' : Int) := ⟨t.toNat, by omega⟩
  have c := chkK_ok
  unfold chkK at c
  have c1 := List.all_eq_true.1 c f' (List.mem_range.2 (by omega))
  have c2 := List.all_eq_true.1 c1 s' (List.mem_range.2 (by omega))
  have c3 := List.all_eq_true.1 c2 t' (List.mem_range.2 (by omega))
  rw [Bool.or_eq_true] at c3
  rcases c3 with c4 | c4
  · rw [of_decide_eq_true c4]
  · exact absurd h (of_decide_eq_true c4)
theorem fg_mem_cases (f pl : Int) (b : Pi) (D : List Int) : ∀ k, ∀ t ∈ fgK f pl b D k, t = b ∨ ∃ p, t = kpP f p
  | 0, t, h => by left; simpa [fgK] using h
  | k + 1, t, h => by
    unfold fgK at h
    rcases List.mem_append.1 h with h | h
    · exact fg_mem_cases f pl b D k t h
    · exact .inr ⟨_, List.mem_singleton.1 h⟩
/-- every tone of a figure on a pitch of the key is one of the key -/
theorem fg_key {f g : Int} {b : Pi} (hb : inK f b) {t : Pi} (ht : t ∈ fgL f b g) : (-7 ≤ f ∧ f ≤ 7) ∧ (0 ≤ t.step ∧ t.step ≤ 6) ∧ t.alter = alI f t.step := by
  by_cases hp : fgP f b g
  · rw [fg_yes hp] at ht
    have hf := hp.1
    refine ⟨hf, ?_⟩
    rcases fg_mem_cases _ _ _ _ _ t ht with rfl | ⟨p, rfl⟩
    · obtain ⟨h0, h1, h2⟩ := hb
      refine ⟨⟨h0, by omega⟩, ?_⟩
      rw [h2, kaI, if_pos ⟨hf, h0, by omega⟩]
    · refine ⟨⟨?_, ?_⟩, rfl⟩
      · show 0 ≤ p % 7
        omega
      · show p % 7 ≤ 6
        omega
  · rw [fg_no hp] at ht
    cases ht
theorem pool_key {f g : Int} {b : Pi} (hb : inK f b) {y : Pi} (hy : y ∈ plL (fgL f b g) 32) : ((-7 ≤ f ∧ f ≤ 7) ∧ (0 ≤ y.step ∧ y.step ≤ 6) ∧ y.alter = alI f y.step) ∧ kyP y = 12 * y.octave + shI y.step + y.alter := by
  rw [plL_bk] at hy
  have hk := (bk_key _ _ _ _ hy).1
  have hm := bk_mem _ _ _ _ hy
  unfold allO at hm
  obtain ⟨t, ht, h⟩ := List.mem_flatMap.1 hm
  unfold allT at h
  obtain ⟨i, _, rfl⟩ := List.mem_map.1 h
  have hft := fg_key hb ht
  refine ⟨⟨hft.1, hft.2.1, hft.2.2⟩, ?_⟩
  unfold kyP pkI at hk ⊢
  split at hk
  · rename_i hp
    rw [if_pos hp]
  · omega
theorem pool_one {f g : Int} {b : Pi} (hb : inK f b) {x y : Pi} (hx : x ∈ plL (fgL f b g) 32) (hy : y ∈ plL (fgL f b g) 32) (e : kyP x = kyP y) : x = y := by
  obtain ⟨⟨hf, hs, ha⟩, hk⟩ := pool_key hb hx
  obtain ⟨⟨_, hs2, ha2⟩, hk2⟩ := pool_key hb hy
  rw [hk, hk2, ha, ha2] at e
  have hst := step_one hf hs hs2 (by omega)
  rw [hst] at e
  cases x; cases y
  simp only at hst ha ha2 e
  subst hst
  simp only [Pi.mk.injEq, true_and]
  exact ⟨by rw [ha, ha2], by omega⟩
/-- of all chords the first has the least keys -/
theorem head_low {f g : Int} {b : Pi} (hb : inK f b) {x y : List Pi} {r : List (List Pi)} (hS : stkL b (fgL f b g) = y :: r) (hx : x ∈ stkL b (fgL f b g)) :
    ∀ k, 1 ≤ k → k < 4 → (∀ j, 1 ≤ j → j < k → kyP (atPi x j) = kyP (atPi y j)) → kyP (atPi y k) ≤ kyP (atPi x k) := by
  obtain ⟨ts, hts⟩ : ∃ ts, fgL f b g = ts := ⟨_, rfl⟩
  rw [hts] at hS hx
  obtain ⟨P, hP⟩ : ∃ P, plL ts 32 = P := ⟨_, rfl⟩
  have hs : srtd P := by rw [← hP, plL_bk]; exact bk_srtd _ _ _
  have hu : ∀ i j, i < P.length → j < P.length → kyP (atPi P i) = kyP (atPi P j) → atPi P i = atPi P j := fun i j hi hj e => by
    have h1 := at_mem hi
    have h2 := at_mem hj
    rw [← hP, ← hts] at h1 h2
    rw [← hP, ← hts] at e ⊢
    exact pool_one hb h1 h2 e
  rw [st_tri b ts P hP] at hS hx
  obtain ⟨q, hq⟩ : ∃ q : Nat × Nat × Nat → Bool, q = fun t => goodS b ts (atPi P t.1) (atPi P t.2.1) (atPi P t.2.2) := ⟨_, rfl⟩
  rw [← hq] at hS hx
  have hpw : ((tri P.length).filter q).Pairwise lex3 := (tri_srt P.length).filter q
  obtain ⟨t, htm, rfl⟩ := List.mem_map.1 hx
  cases hF : (tri P.length).filter q with
  | nil => rw [hF] at hS; cases hS
  | cons s F =>
    rw [hF] at hS hpw htm
    have hy : y = stT b P s := by
      have := (List.cons.inj hS).1
      exact this.symm
    subst hy
    have hfirst : ∀ u, u ∈ tri P.length → q u = true → u = s ∨ lex3 s u := fun u hu hqu => by
      have hm : u ∈ (tri P.length).filter q := List.mem_filter.2 ⟨hu, hqu⟩
      rw [hF] at hm
      rcases List.mem_cons.1 hm with h | h
      · exact .inl h
      · exact .inr ((List.pairwise_cons.1 hpw).1 u h)
    have hsm : s ∈ (tri P.length).filter q := by rw [hF]; simp
    have htm2 : t ∈ (tri P.length).filter q := by rw [hF]; exact htm
    obtain ⟨hs1, hs2, hs3⟩ := tri_mem.1 (List.mem_filter.1 hsm).1
    obtain ⟨ht1, ht2, ht3⟩ := tri_mem.1 (List.mem_filter.1 htm2).1
    have hqt := (List.mem_filter.1 htm2).2
    rw [hq] at hqt
    simp only at hqt
    have key : ∀ u, u ∈ tri P.length → q u = true → ¬ lex3 u s := fun u hu hqu hl => by
      rcases hfirst u hu hqu with rfl | h
      · exact lex3_irr _ hl
      · exact lex3_asym h hl
    have low : ∀ i j, i < P.length → j < P.length → kyP (atPi P i) < kyP (atPi P j) → i < j := fun i j hi hj h => by
      rcases Nat.lt_or_ge i j with h1 | h1
      · exact h1
      · have := srt_at hs h1 hi
        omega
    intro k hk1 hk4 heq
    rcases (show k = 1 ∨ k = 2 ∨ k = 3 from by omega) with rfl | rfl | rfl
    · show kyP (atPi P s.1) ≤ kyP (atPi P t.1)
      rcases (show kyP (atPi P t.1) < kyP (atPi P s.1) ∨ kyP (atPi P s.1) ≤ kyP (atPi P t.1) from by omega) with h | h
      · exact absurd (show lex3 t s from .inl (low _ _ ht1 hs1 h)) (key t (List.mem_filter.1 htm2).1 (List.mem_filter.1 htm2).2)
      · exact h
    · have e1 : atPi P t.1 = atPi P s.1 := hu _ _ ht1 hs1 (heq 1 (by omega) (by omega))
      show kyP (atPi P s.2.1) ≤ kyP (atPi P t.2.1)
      rcases (show kyP (atPi P t.2.1) < kyP (atPi P s.2.1) ∨ kyP (atPi P s.2.1) ≤ kyP (atPi P t.2.1) from by omega) with h | h
      · refine absurd (show lex3 (s.1, t.2.1, t.2.2) s from .inr ⟨rfl, .inl (low _ _ ht2 hs2 h)⟩) (key _ (tri_mem.2 ⟨hs1, ht2, ht3⟩) ?_)
        rw [hq]
        show goodS b ts (atPi P s.1) (atPi P t.2.1) (atPi P t.2.2) = true
        rw [← e1]; exact hqt
      · exact h
    · have e1 : atPi P t.1 = atPi P s.1 := hu _ _ ht1 hs1 (heq 1 (by omega) (by omega))
      have e2 : atPi P t.2.1 = atPi P s.2.1 := hu _ _ ht2 hs2 (heq 2 (by omega) (by omega))
      show kyP (atPi P s.2.2) ≤ kyP (atPi P t.2.2)
      rcases (show kyP (atPi P t.2.2) < kyP (atPi P s.2.2) ∨ kyP (atPi P s.2.2) ≤ kyP (atPi P t.2.2) from by omega) with h | h
      · refine absurd (show lex3 (s.1, s.2.1, t.2.2) s from .inr ⟨rfl, .inr ⟨rfl, low _ _ ht3 hs3 h⟩⟩) (key _ (tri_mem.2 ⟨hs1, hs2, ht3⟩) ?_)
        rw [hq]
        show goodS b ts (atPi P s.1) (atPi P s.2.1) (atPi P t.2.2) = true
        rw [← e1, ← e2]; exact hqt
      · exact h
/-- the first pitch alone has a chord, and none of its keys is above that of the first chord before one is below -/
theorem rb_alone {f : Int} {bs : List Pi} {gs : List Int} {L : List (List Pi)} (h : rbI f bs gs = some L) (hik : ∀ i, i < bs.length → inK f (atPi bs i)) :
    ∃ y, rbI f (bs.take 1) (gs.take 1) = some [y] ∧ y.length = 4 ∧ ∀ k, 1 ≤ k → k < 4 → (∀ j, 1 ≤ j → j < k → kyP (atPi (atPP L 0) j) = kyP (atPi y j)) → kyP (atPi y k) ≤ kyP (atPi (atPP L 0) k) := by
  have hx := (rb_chord h 0 (by rw [rb_len h]; exact (rb_some h).1.2.1.1)).1
  obtain ⟨hG, hT, hC, hL⟩ := rb_some h
  have hN : 1 ≤ bs.length := hG.2.1.1
  have hl1 : (bs.take 1).length = 1 := by rw [List.length_take]; omega
  have hl2 : (gs.take 1).length = 1 := by rw [List.length_take, hG.2.2]; omega
  have ha : atPi (bs.take 1) 0 = atPi bs 0 := atPi_take (by omega)
  have hg : (gs.take 1).getD 0 0 = gs.getD 0 0 := getD_take (by omega)
  have hS : sksI f (bs.take 1) (gs.take 1) 0 = sksI f bs gs 0 := by unfold sksI tnI; rw [ha, hg]
  obtain ⟨y, r, e⟩ : ∃ y r, sksI f bs gs 0 = y :: r := by
    cases hh : sksI f bs gs 0 with
    | nil => rw [hh] at hx; cases hx
    | cons y r => exact ⟨y, r, rfl⟩
  have hc : chF f (bs.take 1) (gs.take 1) 0 = y :: r := by unfold chF; rw [hl1, Nat.sub_self, hS, e]
  refine ⟨y, ?_, (sks_ok (f := f) (bs := bs) (gs := gs) (i := 0) (by rw [e]; simp)).2.2.2, ?_⟩
  · have hG1 : rbG f (bs.take 1) (gs.take 1) := ⟨hG.1, by rw [hl1]; omega, by rw [hl2, hl1]⟩
    rw [rb_yes hG1 (fun i hi => by
      rw [hl1] at hi
      obtain rfl : i = 0 := by omega
      have := hT 0 (by omega)
      unfold tnI at this ⊢
      rw [ha, hg]; exact this) (by rw [hl1, Nat.sub_self, hc]; simp), hl1, Nat.sub_self, ouI, hl1, Nat.sub_self, hc]
    rfl
  · exact head_low (hik 0 (by omega)) (by rw [← e]; rfl) hx
theorem RowPi.take {w : World} {B : Nat} {A : Option Addr} {l : List Pi} (h : RowPi w B A l) (n : Nat) : RowPi w B A (l.take n) := fun hl => by
  rw [List.length_take] at hl
  obtain ⟨b, off, e, hb, hc⟩ := h (by omega)
  refine ⟨b, off, e, hb, fun i hi => ?_⟩
  rw [List.length_take] at hi
  rw [atPi_take (by omega)]
  exact hc i (by omega)
theorem RowIn.take {w : World} {B : Nat} {A : Option Addr} {l : List Int} (h : RowIn w B A l) (n : Nat) : RowIn w B A (l.take n) := fun hl => by
  rw [List.length_take] at hl
  obtain ⟨b, off, e, hb, hc⟩ := h (by omega)
  refine ⟨b, off, e, hb, fun i hi => ?_⟩
  rw [List.length_take] at hi
  unfold atIn
  rw [getD_take (by omega)]
  exact hc i (by omega)
theorem RowPP.take {w : World} {B : Nat} {A : Option Addr} {ll : List (List Pi)} (h : RowPP w B A ll) (n : Nat) : RowPP w B A (ll.take n) := fun hl => by
  rw [List.length_take] at hl
  obtain ⟨b, off, e, hb, hc⟩ := h (by omega)
  refine ⟨b, off, e, hb, fun i hi => ?_⟩
  rw [List.length_take] at hi
  rw [atPP_take (by omega)]
  exact hc i (by omega)
end Go.Proofs.Ytpjakgnghpapmaa
