/- Rows of pitches that the call itself has grown; how a slice of them is appended, cut, and read behind its head. -/
import Derived.Test.YtdmidimjbhkjoaaRowPi
import Derived.Test.YtdmidimjbhkjoaaBa
namespace Go.Proofs.Ytdmidimjbhkjoaa
set_option linter.unusedSimpArgs false
set_option linter.unusedVariables false
open Go.RowKit

def csPi (t : Pi) : List Value := [.int .i64 t.step, .int .i64 t.alter, .int .i64 t.octave]
theorem csPi_len (t : Pi) : (csPi t).length = 3 := rfl
def dPi : Pi := ⟨0, 0, 0⟩
theorem own_rowPi {w' : World} {base : Nat} {e : TypeId} {v : Value} {l : List Pi} (h : w'.ownsRow base e 3 v l.length (flat csPi l)) :
    ∃ A cap, v = .slice A l.length cap ∧ l.length ≤ cap ∧ cap ≤ maxLen ∧ RowPi w' w'.heap.size A l ∧ OwnPi w' base A l.length := by
  obtain ⟨A, cap, rfl, h1, h2, h3⟩ := own_open csPi_len ⟨0, 0, 0⟩ h
  refine ⟨A, cap, rfl, h1, h2, fun hl => ?_, fun hl => ?_⟩
  · obtain ⟨g, rfl, hb, hg, _, hc⟩ := h3 hl
    exact ⟨g, 0, rfl, hg, fun i hi => ⟨by simpa [csPi, atPi] using hc i 0 hi (by omega), by simpa [csPi, atPi] using hc i 1 hi (by omega), by simpa [csPi, atPi] using hc i 2 hi (by omega)⟩⟩
  · obtain ⟨g, rfl, hb, hg, hf, _⟩ := h3 hl
    exact ⟨g, 0, rfl, hb, hf⟩
theorem own_take {w : World} {base : Nat} {e : TypeId} {size g n cap k : Nat} {xs : List Value} (h : w.ownsRow base e size (.slice (some ⟨g, 0, none⟩) n cap) n xs) (hk : k ≤ n) :
    w.ownsRow base e size (.slice (some ⟨g, 0, none⟩) k cap) k (xs.take (k * size)) := by
  obtain ⟨h1, h2⟩ := h
  have hm : k * size ≤ n * size := Nat.mul_le_mul_right size hk
  refine ⟨by rw [List.length_take, h1]; omega, ?_⟩
  rcases h2 with ⟨h2, _⟩ | ⟨g', cap', cur, h2, hb, hh, hn, hm', hs, ht⟩
  · cases h2
  · cases h2
    exact .inr ⟨g, cap, cur, rfl, hb, hh, by omega, hm', hs, by rw [← ht, List.take_take, Nat.min_eq_left hm]⟩
theorem flat_take {α : Type} {cs : α → List Value} {k : Nat} (hk : ∀ t, (cs t).length = k) (l : List α) : ∀ n, (flat cs l).take (n * k) = flat cs (l.take n) := by
  induction l with
  | nil => intro n; simp [flat]
  | cons a l ih =>
    intro n
    have e : flat cs (a :: l) = cs a ++ flat cs l := by simp [flat]
    cases n with
    | zero => simp [flat]
    | succ n =>
      rw [e, List.take_succ_cons]
      have e2 : flat cs (a :: l.take n) = cs a ++ flat cs (l.take n) := by simp [flat]
      rw [e2, ← ih n, List.take_append, hk, List.take_of_length_le (by rw [hk, Nat.add_mul]; omega)]
      congr 2
      rw [Nat.add_mul]; omega
theorem rowPi_news {w : World} {B b off : Nat} {l : List Pi} (h : RowPi w B (some ⟨b, off, none⟩) l) : ∀ j u, (flat csPi l)[j]? = some u → w.cell? ((⟨b, off, none⟩ : Addr).add j) = some u := by
  intro j u hu
  have hj : j < l.length * 3 := by
    rw [← flat_len csPi_len l]
    rcases Nat.lt_or_ge j (flat csPi l).length with h | h
    · exact h
    · rw [List.getElem?_eq_none h] at hu; cases hu
  obtain ⟨b', off', e, _, hc⟩ := h (by omega)
  simp only [Option.some.injEq, Addr.mk.injEq, and_true] at e
  obtain ⟨rfl, rfl⟩ := e
  have ha : (⟨b, off, none⟩ : Addr).add j = ⟨b, off + j, none⟩ := by unfold Addr.add; by_cases e : j = 0 <;> simp [e]
  obtain ⟨c0, c1, c2⟩ := hc (j / 3) (by omega)
  have hg := flat_get csPi_len ⟨0, 0, 0⟩ l (j / 3) (j % 3) (by omega) (by omega)
  rw [show j / 3 * 3 + j % 3 = j from by omega, hu] at hg
  rw [ha]
  rcases (show j % 3 = 0 ∨ j % 3 = 1 ∨ j % 3 = 2 from by omega) with e | e | e
  · rw [e] at hg; rw [show off + j = off + j / 3 * 3 from by omega, c0]; simpa [csPi, atPi] using hg.symm
  · rw [e] at hg; rw [show off + j = off + j / 3 * 3 + 1 from by omega, c1]; simpa [csPi, atPi] using hg.symm
  · rw [e] at hg; rw [show off + j = off + j / 3 * 3 + 2 from by omega, c2]; simpa [csPi, atPi] using hg.symm
theorem flatPi_one (l : List Pi) : ∀ u ∈ flat csPi l, u.oneCell' = true := by
  intro u hu
  simp only [flat, List.mem_flatMap, csPi, List.mem_cons, List.not_mem_nil, or_false] at hu
  obtain ⟨t, _, rfl | rfl | rfl⟩ := hu <;> rfl
theorem rowPi_drop {w : World} {B b off : Nat} {l : List Pi} (h : RowPi w B (some ⟨b, off, none⟩) l) : RowPi w B (some ⟨b, off + 3, none⟩) (l.drop 1) := by
  intro hl
  rw [List.length_drop] at hl
  obtain ⟨b', off', e, hb, hc⟩ := h (by omega)
  simp only [Option.some.injEq, Addr.mk.injEq, and_true] at e
  obtain ⟨rfl, rfl⟩ := e
  refine ⟨b, off + 3, rfl, hb, fun i hi => ?_⟩
  rw [List.length_drop] at hi
  have e1 : atPi (l.drop 1) i = atPi l (i + 1) := by unfold atPi; rw [List.getD_eq_getElem?_getD, List.getD_eq_getElem?_getD, List.getElem?_drop, Nat.add_comm]
  rw [e1]
  have h2 := hc (i + 1) (by omega)
  rw [show off + 3 + i * 3 = off + (i + 1) * 3 from by omega]
  exact h2
theorem at_drop1 (l : List Pi) (i : Nat) : atPi (l.drop 1) i = atPi l (i + 1) := by unfold atPi; rw [List.getD_eq_getElem?_getD, List.getD_eq_getElem?_getD, List.getElem?_drop, Nat.add_comm]
theorem at_set0 (l : List Pi) (x : Pi) (h : 0 < l.length) : atPi (l.set 0 x) 0 = x := by unfold atPi; rw [List.getD_eq_getElem?_getD, List.getElem?_set_self h]; rfl
end Go.Proofs.Ytdmidimjbhkjoaa
