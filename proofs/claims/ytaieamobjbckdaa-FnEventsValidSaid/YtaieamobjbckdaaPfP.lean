/- What is played is valid, and lasts as long as the notes. Plain. -/
import Derived.Test.YtaieamobjbckdaaPrC
import Derived.Test.YtaieamobjbckdaaTVal
namespace Go.Proofs.Ytaieamobjbckdaa
set_option linter.unusedSimpArgs false
set_option linter.unusedVariables false
open Go.RowKit

noncomputable def tickD (T : List Tp) (e : Ev) : Int := tickOfI T e.off - tickOfI T e.on
noncomputable def dsum (T : List Tp) (L : List Ev) : Nat → Int
  | 0 => 0
  | k + 1 => dsum T L k + tickD T (atEv L k)
def nsum (l : List Nt) : Nat → Int
  | 0 => 0
  | k + 1 => nsum l k + (if (atNt l k).rest = true then 0 else (atNt l k).ticks)
theorem ev_app_lt (L : List Ev) (x : Ev) (j : Nat) (h : j < L.length) : atEv (L ++ [x]) j = atEv L j := by
  unfold atEv; rw [List.getD_eq_getElem?_getD, List.getD_eq_getElem?_getD, List.getElem?_append_left h]
theorem ev_app_eq (L : List Ev) (x : Ev) : atEv (L ++ [x]) L.length = x := by
  unfold atEv; rw [List.getD_eq_getElem?_getD, List.getElem?_append_right (Nat.le_refl _)]; simp
theorem dsum_app (T : List Tp) (L : List Ev) (x : Ev) : ∀ k, k ≤ L.length → dsum T (L ++ [x]) k = dsum T L k
  | 0, _ => rfl
  | k + 1, h => by unfold dsum; rw [dsum_app T L x k (by omega), ev_app_lt L x k (by omega)]
theorem dsum_snoc (T : List Tp) (L : List Ev) (x : Ev) : dsum T (L ++ [x]) (L ++ [x]).length = dsum T L L.length + tickD T x := by
  rw [List.length_append]
  show dsum T (L ++ [x]) L.length + tickD T (atEv (L ++ [x]) L.length) = _
  rw [dsum_app T L x _ (Nat.le_refl _), ev_app_eq]
theorem tick_bd (T : List Tp) (t : Int) : -1 ≤ tickOfI T t ∧ tickOfI T t ≤ 50000 := by
  unfold tickOfI
  by_cases h : tvB T = true ∧ 0 ≤ t
  · rw [if_pos h]
    obtain ⟨a, b, _⟩ := (tvB_of h.1).tickI_P h.2
    omega
  · rw [if_neg h]; omega
theorem dsum_bd (T : List Tp) (L : List Ev) : ∀ k : Nat, -(50001 * (k : Int)) ≤ dsum T L k ∧ dsum T L k ≤ 50001 * (k : Int)
  | 0 => by simp [dsum]
  | k + 1 => by
    have := dsum_bd T L k
    have a := tick_bd T (atEv L k).off
    have b := tick_bd T (atEv L k).on
    unfold dsum tickD; omega
theorem tick_time {T : List Tp} (h : tvB T = true) {x : Int} (h0 : 0 ≤ x) (h1 : x ≤ 50000) : tickOfI T (timeI T x) = x := by
  have hf := tvB_of h
  have ht := hf.time_bd x h0 (by omega)
  unfold tickOfI
  rw [if_pos ⟨h, ht.1⟩]
  exact hf.tickI_eq ⟨h0, h1, Int.le_refl _, fun _ => by have := hf.step x h0; omega⟩
theorem nsum_bd {l : List Nt} (h : VvF l) : ∀ k : Nat, k ≤ l.length → 0 ≤ nsum l k ∧ nsum l k ≤ 768 * (k : Int)
  | 0, _ => by simp [nsum]
  | k + 1, hk => by
    have := nsum_bd h k (by omega)
    have := h.tick k (by omega)
    unfold nsum; split <;> omega
theorem VvF.vmono {l : List Nt} (h : VvF l) (a : Nat) : ∀ d, a + d ≤ l.length → vsum l a ≤ vsum l (a + d)
  | 0, _ => Int.le_refl _
  | d + 1, hd => by
    have h1 := h.vmono a d (by omega)
    have h2 := h.tick (a + d) (by omega)
    have e : vsum l (a + (d + 1)) = vsum l (a + d) + (atNt l (a + d)).ticks := rfl
    omega
theorem VvF.untied {l : List Nt} (h : VvF l) (k : Nat) (hk : k < l.length) (hr : (atNt l k).rest = true) : stI l k = k ∧ ¬ (atNt l k).tied = true := by
  constructor
  · cases k with
    | zero => rfl
    | succ q =>
      rw [stI, if_neg]
      intro ht
      have := ((h.ok q (by omega)).2 ht).2.1
      rw [hr] at this; cases this
  · intro ht
    have := (h.ok k hk).1
    unfold nvB at this
    rw [hr, ht] at this; simp at this
theorem VvF.dn {l : List Nt} (h : VvF l) {T : List Tp} (hT : tvB T = true) (loud : Int) : ∀ k, k ≤ l.length → dsum T (evL l T loud k) (evL l T loud k).length + (vsum l k - vsum l (stI l k)) = nsum l k
  | 0, _ => by simp [evL, dsum, vsum, stI, nsum]
  | k + 1, hk => by
    have ih := h.dn hT loud k (by omega)
    have e1 : vsum l (k + 1) = vsum l k + (atNt l k).ticks := rfl
    have e2 : nsum l (k + 1) = nsum l k + (if (atNt l k).rest = true then 0 else (atNt l k).ticks) := rfl
    rw [e2]
    by_cases hr : (atNt l k).rest = true
    · obtain ⟨s1, s2⟩ := h.untied k (by omega) hr
      rw [if_pos hr, evL_skip (.inl hr), stI, if_neg s2]
      rw [s1] at ih; omega
    · rw [if_neg hr]
      by_cases ht : (atNt l k).tied = true
      · rw [evL_skip (.inr ht), stI_tied ht]; omega
      · rw [evL_new (by rintro (c | c); exact hr c; exact ht c), dsum_snoc, stI, if_neg ht]
        have a := h.sum_le (k + 1) (by omega)
        have b := h.sum_le (stI l k) (by have := stI_le l k; omega)
        unfold tickD evK
        simp only
        rw [tick_time hT a.1 (by omega), tick_time hT b.1 (by omega)]
        omega
theorem VvF.last {l : List Nt} (h : VvF l) : stI l l.length = l.length := by
  cases hl : l.length with
  | zero => rfl
  | succ q =>
    rw [stI, if_neg]
    intro ht
    have := ((h.ok q (by omega)).2 ht).1
    omega
theorem TvF.le5 {T : List Tp} (h : TvF T) : ∀ k : Nat, timeI T (k : Int) ≤ 100000 * (k : Int)
  | 0 => by have := h.zero; simp [this]
  | k + 1 => by
    have := h.le5 k
    have := h.step (k : Int) (by omega)
    rw [show (((k + 1 : Nat) : Int)) = (k : Int) + 1 from by omega]
    omega
theorem TvF.mono' {T : List Tp} (h : TvF T) {a b : Int} (ha : 0 ≤ a) (hab : a ≤ b) : timeI T a ≤ timeI T b := by
  obtain ⟨d, rfl⟩ : ∃ d : Nat, b = a + d := ⟨(b - a).toNat, by omega⟩
  exact h.mono a ha d
theorem VvF.evok {l : List Nt} (h : VvF l) {T : List Tp} (hT : tvB T = true) {loud : Int} (hl : 1 ≤ loud ∧ loud ≤ 127) (hk : ∀ k, k < l.length → kOk (atNt l k)) : ∀ k, k ≤ l.length →
    (∀ i, i < (evL l T loud k).length → evOk (evL l T loud k) i) ∧ (∀ m, (evL l T loud k).length = m + 1 → (atEv (evL l T loud k) m).off ≤ timeI T (vsum l (stI l k)))
  | 0, _ => ⟨fun i hi => by simp [evL] at hi, fun m hm => by simp [evL] at hm⟩
  | k + 1, hk1 => by
    obtain ⟨i1, i2⟩ := h.evok hT hl hk k (by omega)
    have hf := tvB_of hT
    have hs := stI_le l k
    have b := h.sum_le (stI l k) (by omega)
    have c := h.sum_le (k + 1) hk1
    have tk := h.tick k (by omega)
    have mo := h.vmono (stI l k) (k - stI l k) (by omega)
    rw [show stI l k + (k - stI l k) = k from by omega] at mo
    have e1 : vsum l (k + 1) = vsum l k + (atNt l k).ticks := rfl
    by_cases hsk : (atNt l k).rest = true ∨ (atNt l k).tied = true
    · rw [evL_skip hsk]
      refine ⟨i1, fun m hm => Int.le_trans (i2 m hm) ?_⟩
      by_cases ht : (atNt l k).tied = true
      · rw [stI_tied ht]; exact Int.le_refl _
      · rw [stI, if_neg ht]; exact hf.mono' b.1 (by omega)
    · have hr : (atNt l k).rest = false := by cases hx : (atNt l k).rest; rfl; exact absurd (.inl hx) hsk
      have ht : ¬ (atNt l k).tied = true := fun x => hsk (.inr x)
      rw [evL_new hsk]
      refine ⟨fun i hi => ?_, fun m hm => ?_⟩
      · rw [List.length_append] at hi
        by_cases hlt : i < (evL l T loud k).length
        · have := i1 i hlt
          unfold evOk at this ⊢
          rw [ev_app_lt _ _ i hlt]
          refine ⟨this.1, this.2.1, this.2.2.1, this.2.2.2.1, this.2.2.2.2.1, fun h0 => ?_⟩
          rw [ev_app_lt _ _ (i - 1) (by omega)]
          exact this.2.2.2.2.2 h0
        · obtain rfl : i = (evL l T loud k).length := by simp at hi; omega
          unfold evOk
          rw [ev_app_eq]
          obtain ⟨kk, hkk⟩ : ∃ kk : Nat, vsum l (k + 1) = kk := ⟨(vsum l (k + 1)).toNat, by omega⟩
          have l5 := hf.le5 kk
          rw [← hkk] at l5
          refine ⟨(hf.time_bd _ b.1 (by omega)).1, hf.lt b.1 (by omega), ?_, hk k (by omega) hr, hl, fun h0 => ?_⟩
          · show timeI T (vsum l (k + 1)) ≤ _; omega
          · rw [ev_app_lt _ _ _ (by omega)]
            exact i2 _ (by omega)
      · rw [List.length_append] at hm
        obtain rfl : m = (evL l T loud k).length := by simp at hm; omega
        rw [ev_app_eq, stI, if_neg ht]
        exact Int.le_refl _
theorem evL_loud (l : List Nt) (T : List Tp) (loud : Int) : ∀ k i, i < (evL l T loud k).length → (atEv (evL l T loud k) i).loud = loud
  | 0, i, hi => by simp [evL] at hi
  | k + 1, i, hi => by
    by_cases hsk : (atNt l k).rest = true ∨ (atNt l k).tied = true
    · rw [evL_skip hsk] at hi ⊢; exact evL_loud l T loud k i hi
    · rw [evL_new hsk] at hi ⊢
      rw [List.length_append] at hi
      by_cases hlt : i < (evL l T loud k).length
      · rw [ev_app_lt _ _ i hlt]; exact evL_loud l T loud k i hlt
      · obtain rfl : i = (evL l T loud k).length := by simp at hi; omega
        rw [ev_app_eq]; rfl
theorem perL_loud (l : List Nt) (T : List Tp) (loud : Int) (i : Nat) (hi : i < (perL l T loud).length) : (atEv (perL l T loud) i).loud = loud := by
  unfold perL at hi ⊢
  by_cases h : perB l T loud = true
  · rw [if_pos h] at hi ⊢; exact evL_loud _ _ _ _ _ hi
  · rw [if_neg h] at hi; simp at hi
theorem perL_all {l : List Nt} {T : List Tp} {loud : Int} (h : 0 < (perL l T loud).length) : VvF l ∧ evB (perL l T loud) = true ∧ dsum T (perL l T loud) (perL l T loud).length = nsum l l.length := by
  unfold perL at h ⊢
  by_cases hp : perB l T loud = true
  · rw [if_pos hp]
    obtain ⟨hv, ht, hl, hk⟩ := of_decide_eq_true hp
    have hf := vvB_of hv
    have h1 := hf.evok ht hl hk l.length (Nat.le_refl _)
    have h2 := hf.dn ht loud l.length (Nat.le_refl _)
    have h3 := evL_len l T loud l.length
    have h4 := hf.len
    rw [hf.last] at h2
    exact ⟨hf, evB_yes (by omega) h1.1, by omega⟩
  · rw [if_neg hp] at h; simp at h
theorem perL_len (l : List Nt) (T : List Tp) (loud : Int) : (perL l T loud).length ≤ l.length := by
  unfold perL; split
  · exact evL_len _ _ _ _
  · simp
theorem own_rowEv {w' : World} {base : Nat} {e : TypeId} {v : Value} {l : List Ev} (h : w'.ownsRow base e 4 v l.length (flat csEv l)) :
    ∃ A cap, v = .slice A l.length cap ∧ l.length ≤ cap ∧ cap ≤ maxLen ∧ RowEv w' w'.heap.size A l ∧ OwnEv w' base A l.length := by
  obtain ⟨A, cap, rfl, h1, h2, h3⟩ := own_open csEv_len ⟨0, 0, 0, 0⟩ h
  refine ⟨A, cap, rfl, h1, h2, fun hl => ?_, fun hl => ?_⟩
  · obtain ⟨g, rfl, hb, hg, _, hc⟩ := h3 hl
    exact ⟨g, 0, rfl, hg, fun i hi => ⟨by simpa [csEv, atEv] using hc i 0 hi (by omega), by simpa [csEv, atEv] using hc i 1 hi (by omega), by simpa [csEv, atEv] using hc i 2 hi (by omega), by simpa [csEv, atEv] using hc i 3 hi (by omega)⟩⟩
  · obtain ⟨g, rfl, hb, hg, hf, _⟩ := h3 hl
    exact ⟨g, 0, rfl, hb, hf⟩
end Go.Proofs.Ytaieamobjbckdaa
