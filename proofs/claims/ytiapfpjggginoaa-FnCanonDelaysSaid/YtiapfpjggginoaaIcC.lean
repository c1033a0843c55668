/- Canons recognized: plain law, the first tone. -/
import Derived.Test.YtiapfpjggginoaaBc
import Derived.Test.YtiapfpjggginoaaAdd2
import Derived.Test.YtiapfpjggginoaaRowNt
import Derived.Test.YtiapfpjggginoaaBa
import Derived.Test.YtiapfpjggginoaaHidn
import Derived.Deep.DeepCutAuto
namespace Go.Proofs.Ytiapfpjggginoaa
set_option linter.unusedSimpArgs false
set_option linter.unusedVariables false
open Go.RowKit

def icP (l l' : List Nt) : Prop := vvB l = true ∧ vvB l' = true ∧ ∃ d st ha, coB l d st ha = true ∧ coL l d st ha = l'
theorem co_facts {l : List Nt} {d st ha : Int} (h : coB l d st ha = true) : shB l st ha = true ∧ (1 ≤ d ∧ d ≤ 768) ∧ l.length < 60 ∧ coL l d st ha = ⟨true, 0, 0, 0, d, false⟩ :: mvK st ha l l.length := by
  have e : shB l st ha = true ∧ (1 ≤ d ∧ d ≤ 768) ∧ l.length < 60 := of_decide_eq_true h
  refine ⟨e.1, e.2.1, e.2.2, ?_⟩
  unfold coL
  rw [if_pos h, (sh_facts e.1).2.2.2]
theorem at_cons0 (x : Nt) (l : List Nt) : atNt (x :: l) 0 = x := rfl
theorem at_consS (x : Nt) (l : List Nt) (k : Nat) : atNt (x :: l) (k + 1) = atNt l k := rfl
theorem co_core {l l' : List Nt} {d st ha : Int} (hB : coB l d st ha = true) (hL : coL l d st ha = l') : l'.length = l.length + 1 ∧ atNt l' 0 = ⟨true, 0, 0, 0, d, false⟩ ∧ ∀ k, k < l.length → atNt l' (k + 1) = mvN st ha (atNt l k) := by
  have hf := (co_facts hB).2.2.2
  rw [hL] at hf
  subst hf
  refine ⟨by rw [List.length_cons, mvK_len], rfl, fun k hk => ?_⟩
  rw [at_consS, at_mvK st ha l l.length k hk]
theorem vv_tone {l : List Nt} (h : vvB l = true) {k : Nat} (hk : k < l.length) (hr : (atNt l k).rest = false) : pvB (atNt l k).step (atNt l k).alter (atNt l k).octave = true := by
  have h1 := ((vvB_of h).ok k hk).1
  unfold nvB at h1
  rw [hr] at h1
  simp only [Bool.and_eq_true, Bool.false_eq_true, if_false] at h1
  exact h1.2
theorem vv_rest {l : List Nt} (h : vvB l = true) {k : Nat} (hk : k < l.length) (hr : (atNt l k).rest = true) : (atNt l k).step = 0 ∧ (atNt l k).alter = 0 ∧ (atNt l k).octave = 0 ∧ (atNt l k).tied = false := by
  have h1 := ((vvB_of h).ok k hk).1
  unfold nvB at h1
  rw [hr] at h1
  simp only [Bool.and_eq_true, if_true, beq_iff_eq, Bool.not_eq_true'] at h1
  exact ⟨h1.2.1.1.1, h1.2.1.1.2, h1.2.1.2, h1.2.2⟩
def ivP (x y : Nt) : Int := 7 * y.octave + y.step - (7 * x.octave + x.step)
def ivK (x y : Nt) : Int := 12 * y.octave + shI y.step + y.alter - (12 * x.octave + shI x.step + x.alter)
theorem ic_len {l l' : List Nt} (h : icP l l') : l'.length = l.length + 1 ∧ (atNt l' 0).rest = true ∧ ∀ k, k < l.length → (atNt l' (k + 1)).rest = (atNt l k).rest := by
  obtain ⟨_, _, d, st, ha, hB, hL⟩ := h
  obtain ⟨h1, h2, h3⟩ := co_core hB hL
  exact ⟨h1, by rw [h2], fun k hk => by rw [h3 k hk]; exact (mvN_rest_eq st ha _).1⟩
theorem ic_at {l l' : List Nt} (h : icP l l') {k : Nat} (hk : k < l.length) (hr : (atNt l k).rest = false) :
    ivB (ivP (atNt l k) (atNt l' (k + 1))) (ivK (atNt l k) (atNt l' (k + 1))) = true ∧ coB l (atNt l' 0).ticks (ivP (atNt l k) (atNt l' (k + 1))) (ivK (atNt l k) (atNt l' (k + 1))) = true ∧ coL l (atNt l' 0).ticks (ivP (atNt l k) (atNt l' (k + 1))) (ivK (atNt l k) (atNt l' (k + 1))) = l' := by
  obtain ⟨_, _, d, st, ha, hB, hL⟩ := h
  obtain ⟨h1, h2, h3⟩ := co_core hB hL
  obtain ⟨f1, f2, f3, f4⟩ := sh_facts (co_facts hB).1
  have hm := (f3 k hk).resolve_left (by rw [hr]; simp)
  obtain ⟨a1, a2, a3, a4⟩ := add_ok hm
  have e1 : ivP (atNt l k) (atNt l' (k + 1)) = st := by unfold ivP; rw [h3 k hk, mvN_tone hr]; simp only; omega
  have e2 : ivK (atNt l k) (atNt l' (k + 1)) = ha := by unfold ivK; rw [h3 k hk, mvN_tone hr]; simp only; omega
  have e3 : (atNt l' 0).ticks = d := by rw [h2]
  rw [e1, e2, e3]
  exact ⟨f2, hB, hL⟩
theorem mvK_rests {l : List Nt} {st ha st' ha' : Int} (hr : ∀ k, k < l.length → (atNt l k).rest = true) : ∀ n, n ≤ l.length → mvK st ha l n = mvK st' ha' l n
  | 0, _ => rfl
  | n + 1, hn => by
    unfold mvK
    rw [mvK_rests hr n (by omega), mvN_rest (hr n (by omega)), mvN_rest (hr n (by omega))]
theorem ic_none {l l' : List Nt} (h : icP l l') (hr : ∀ k, k < l.length → (atNt l k).rest = true) : coB l (atNt l' 0).ticks 0 0 = true ∧ coL l (atNt l' 0).ticks 0 0 = l' := by
  obtain ⟨_, _, d, st, ha, hB, hL⟩ := h
  obtain ⟨h1, h2, h3⟩ := co_core hB hL
  obtain ⟨c1, c2, c3, c4⟩ := co_facts hB
  obtain ⟨f1, f2, f3, f4⟩ := sh_facts c1
  have e3 : (atNt l' 0).ticks = d := by rw [h2]
  rw [e3]
  have hs : shB l 0 0 = true := (sh_yes f1 (by decide +kernel) (fun k hk => Or.inl (hr k hk))).1
  obtain ⟨y1, y2⟩ := co_yes (st := 0) (ha := 0) hs c2 c3
  exact ⟨y1, by rw [(co_facts y1).2.2.2, ← hL, c4, mvK_rests hr l.length (Nat.le_refl _)]⟩
theorem ic_first {l l' : List Nt} (h : icP l l') {i j : Nat} (hi : i < l.length) (ri : (atNt l i).rest = false) (pi : ∀ k, k < i → (atNt l k).rest = true) (hj : j < l'.length) (rj : (atNt l' j).rest = false) (pj : ∀ k, k < j → (atNt l' k).rest = true) : j = i + 1 := by
  obtain ⟨h1, h2, h3⟩ := ic_len h
  cases j with
  | zero => rw [h2] at rj; cases rj
  | succ j =>
    rcases Nat.lt_trichotomy j i with c | c | c
    · have := pi j c
      rw [← h3 j (by omega), rj] at this; cases this
    · rw [c]
    · have := pj (i + 1) (by omega)
      rw [h3 i hi, ri] at this; cases this
def IcR (l l' : List Nt) (w : World) (e : Ending) (w' : World) : Prop := ∃ v : Bool, e = .returned (.bool v) ∧ (v = true ↔ icP l l') ∧ Below w.heap.size w w'
def FtR (l : List Nt) (w : World) (e : Ending) (w' : World) : Prop :=
  ((∃ i x, i < l.length ∧ atNt l i = x ∧ x.rest = false ∧ (∀ k, k < i → (atNt l k).rest = true) ∧ e = .returned (.tuple #[.agg #[.int .i64 x.step, .int .i64 x.alter, .int .i64 x.octave], .bool true])) ∨ ((∀ k, k < l.length → (atNt l k).rest = true) ∧ e = .returned (.tuple #[.agg #[.int .i64 0, .int .i64 0, .int .i64 0], .bool false]))) ∧ Below w.heap.size w w'
end Go.Proofs.Ytiapfpjggginoaa
