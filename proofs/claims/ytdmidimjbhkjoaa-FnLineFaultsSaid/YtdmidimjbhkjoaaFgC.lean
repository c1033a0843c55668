/- Figures of thorough bass: plain; the steps of a figure; the pitch of a place in a key. -/
import Derived.Test.YtdmidimjbhkjoaaBp
import Derived.Test.YtdmidimjbhkjoaaPiO
import Derived.Test.YtdmidimjbhkjoaaBa
import Derived.Deep.DeepCutAuto
import Derived.Deep.AppendLies
namespace Go.Proofs.Ytdmidimjbhkjoaa
set_option linter.unusedSimpArgs false
set_option linter.unusedVariables false
open Go.RowKit

def stL (g : Int) : List Int := if g = 5 then [2, 4] else if g = 6 then [2, 5] else if g = 4 then [3, 5] else if g = 7 then [2, 4, 6] else []
def stF (g : Int) : List Int := if stL g = [] then [] else 0 :: stL g
theorem stL_cases (g : Int) : (g = 5 ∧ stL g = [2, 4]) ∨ (g = 6 ∧ stL g = [2, 5]) ∨ (g = 4 ∧ stL g = [3, 5]) ∨ (g = 7 ∧ stL g = [2, 4, 6]) ∨ ((¬ g = 5 ∧ ¬ g = 6 ∧ ¬ g = 4 ∧ ¬ g = 7) ∧ stL g = []) := by
  by_cases h5 : g = 5
  · exact .inl ⟨h5, by subst h5; rfl⟩
  · by_cases h6 : g = 6
    · exact .inr (.inl ⟨h6, by subst h6; rfl⟩)
    · by_cases h4 : g = 4
      · exact .inr (.inr (.inl ⟨h4, by subst h4; rfl⟩))
      · by_cases h7 : g = 7
        · exact .inr (.inr (.inr (.inl ⟨h7, by subst h7; rfl⟩)))
        · exact .inr (.inr (.inr (.inr ⟨⟨h5, h6, h4, h7⟩, by unfold stL; rw [if_neg h5, if_neg h6, if_neg h4, if_neg h7]⟩)))
def stOk (D : List Int) : Prop := D.length ≤ 3 ∧ ∀ k, k < D.length → 1 ≤ D.getD k 0 ∧ D.getD k 0 ≤ 6
theorem stL_ok (g : Int) : stOk (stL g) := by
  rcases stL_cases g with ⟨_, h⟩ | ⟨_, h⟩ | ⟨_, h⟩ | ⟨_, h⟩ | ⟨_, h⟩ <;> rw [h] <;> refine ⟨by decide, fun k hk => ?_⟩
  · rcases (show k = 0 ∨ k = 1 from by simp at hk; omega) with rfl | rfl <;> decide
  · rcases (show k = 0 ∨ k = 1 from by simp at hk; omega) with rfl | rfl <;> decide
  · rcases (show k = 0 ∨ k = 1 from by simp at hk; omega) with rfl | rfl <;> decide
  · rcases (show k = 0 ∨ k = 1 ∨ k = 2 from by simp at hk; omega) with rfl | rfl | rfl <;> decide
  · simp at hk
def IntRow (w : World) (B : Nat) (A : Option Addr) (D : List Int) : Prop := 0 < D.length → ∃ b off, A = some ⟨b, off, none⟩ ∧ b < B ∧ ∀ i, i < D.length → w.cell? ⟨b, off + i, none⟩ = some (.int .i64 (D.getD i 0))
theorem IntRow.below {w w' : World} {A : Option Addr} {D : List Int} (h : IntRow w w.heap.size A D) (hb : Below w.heap.size w w') : IntRow w' w'.heap.size A D := fun hl => by
  obtain ⟨b, off, e, hlt, hc⟩ := h hl
  exact ⟨b, off, e, Nat.lt_of_lt_of_le hlt hb.size, fun i hi => by rw [hb.cell (p := ⟨b, off + i, none⟩) hlt]; exact hc i hi⟩
def kpP (f pl : Int) : Pi := ⟨pl % 7, alI f (pl % 7), pl / 7⟩
def pvQ (t : Pi) : Prop := pvB t.step t.alter t.octave = true
instance (t : Pi) : Decidable (pvQ t) := by unfold pvQ; infer_instance
def fgK (f pl : Int) (b : Pi) (D : List Int) : Nat → List Pi
  | 0 => [b]
  | k + 1 => fgK f pl b D k ++ [kpP f (pl + D.getD k 0)]
theorem fgK_len (f pl : Int) (b : Pi) (D : List Int) : ∀ k, (fgK f pl b D k).length = k + 1
  | 0 => rfl
  | k + 1 => by unfold fgK; rw [List.length_append, fgK_len f pl b D k]; rfl
def plI (b : Pi) : Int := 7 * b.octave + b.step
def fgP (f : Int) (b : Pi) (g : Int) : Prop := (-7 ≤ f ∧ f ≤ 7) ∧ pvQ b ∧ 0 < (stL g).length ∧ ∀ k, k < (stL g).length → pvQ (kpP f (plI b + (stL g).getD k 0))
instance (f : Int) (b : Pi) (g : Int) : Decidable (fgP f b g) := by unfold fgP; infer_instance
def fgL (f : Int) (b : Pi) (g : Int) : List Pi := if fgP f b g then fgK f (plI b) b (stL g) (stL g).length else []
theorem fg_no {f : Int} {b : Pi} {g : Int} (h : ¬ fgP f b g) : fgL f b g = [] := if_neg h
theorem fg_yes {f : Int} {b : Pi} {g : Int} (h : fgP f b g) : fgL f b g = fgK f (plI b) b (stL g) (stL g).length := if_pos h
theorem fgL_len (f : Int) (b : Pi) (g : Int) : (fgL f b g).length ≤ 4 := by
  unfold fgL
  by_cases h : fgP f b g
  · rw [if_pos h, fgK_len]; have := (stL_ok g).1; omega
  · rw [if_neg h]; simp
def FgR (w : World) (L : List Pi) (e : Ending) (w' : World) : Prop :=
  ∃ A c, e = .returned (.slice A L.length c) ∧ L.length ≤ c ∧ c ≤ maxLen ∧ RowPi w' w'.heap.size A L ∧ OwnPi w' w.heap.size A L.length ∧ Below w.heap.size w w'
def FsR (g : Int) (w : World) (e : Ending) (w' : World) : Prop := ∃ A c, e = .returned (.slice A (stF g).length c) ∧ IntRow w' w'.heap.size A (stF g) ∧ (∀ ad, A = some ad → w.heap.size ≤ ad.block) ∧ Below w.heap.size w w'
end Go.Proofs.Ytdmidimjbhkjoaa
