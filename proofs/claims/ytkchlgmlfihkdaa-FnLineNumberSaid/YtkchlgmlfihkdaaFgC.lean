/- Figures of thorough bass: plain; the steps of a figure; the pitch of a place in a key. -/
import Derived.Test.YtkchlgmlfihkdaaBp
import Derived.Test.YtkchlgmlfihkdaaPiO
import Derived.Test.YtkchlgmlfihkdaaBa
import Derived.Deep.DeepCutAuto
import Derived.Deep.AppendLies
namespace Go.Proofs.Ytkchlgmlfihkdaa
set_option linter.unusedSimpArgs false
set_option linter.unusedVariables false
open Go.RowKit

def stL (g : Int) : List Int := if g = 5 then [2, 4] else if g = 6 then [2, 5] else if g = 4 then [3, 5] else if g = 7 then [2, 4, 6] else []
def stF (g : Int) : List Int := if stL g = [] then [] else 0 :: stL g
theorem stL_cases (g : Int) : (g = 5 ∧ stL g = [2, 4]) ∨ (g = 6 ∧ stL g = [2, 5]) ∨ (g = 4 ∧ stL g = [3, 5]) ∨ (g = 7 ∧ stL g = [2, 4, 6]) ∨ ((¬ g = 5 ∧ ¬ g = 6 ∧ ¬ g = 4 ∧ ¬ g = 7) ∧ stL g = []) := by
  by_cases h5 : g = 5
  · exact .inl ⟨h5, by subst h5; rfl⟩
  · by_cases h6 : g = 6
    · exact .inr (.inl ⟨h6, by subst h6; rfl⟩)
    · by_cases h4 : g = 4
      · exact .inr (.inr (.inl ⟨h4, by subst h4; rfl⟩))
      · by_cases h7 : g = 7
        · exact .inr (.inr (.inr (.inl ⟨h7, by subst h7; rfl⟩)))
        · exact .inr (.inr (.inr (.inr ⟨⟨h5, h6, h4, h7⟩, by unfold stL; rw [if_neg h5, if_neg h6, if_neg h4, if_neg h7]⟩)))
def stOk (D : List Int) : Prop := D.length ≤ 3 ∧ ∀ k, k < D.length → 1 ≤ D.getD k 0 ∧ D.getD k 0 ≤ 6
theorem stL_ok (g : Int) : stOk (stL g) := by
  rcases stL_cases g with ⟨_, h⟩ | ⟨_, h⟩ | ⟨_, h⟩ | ⟨_, h⟩ | ⟨_, h⟩ <;> rw [h] <;> refine ⟨by decide, fun k hk => ?_⟩
  · rcases (show k = 0 ∨ k = 1 from by simp at hk; omega) with rfl | rfl <;> decide
  · rcases (show k = 0 ∨ k = 1 from by simp at hk; omega) with rfl | rfl <;> decide
  · rcases (show k = 0 ∨ k = 1 from by simp at hk; omega) with rfl | rfl <;> decide
  · rcases (show k = 0 ∨ k = 1 ∨ k = 2 from by simp at hk; omega) with rfl | rfl | rfl <;> decide
  · simp at hk
def IntRow (w : World) (B : Nat) (A : Option Addr) (D : List Int) : Prop := 0 < D.length → ∃ b off, A = some ⟨b, off, none⟩ ∧ b < B ∧ ∀ i, i < D.length → w.cell? ⟨b, off + i, none⟩ = some (.int .i64 (D.getD i 0))
theorem IntRow.below {w w' : World} {A : Option Addr} {D : List Int} (h : IntRow w w.heap.size A D) (hb : Below w.heap.size w w') : IntRow w' w'.heap.size A D := fun hl => by
  obtain ⟨b, off, e, hlt, hc⟩ := h hl
  exact ⟨b, off, e, Nat.lt_of_lt_of_le hlt hb.size, fun i hi => by rw [hb.cell (p := ⟨b, off + i, none⟩) hlt]; exact hc i hi⟩
def kpP (f pl : Int) : Pi := ⟨pl % 7, alI f (pl % 7), pl / 7⟩
def pvQ (t : Pi) : Prop := pvB t.step t.alter t.octave = true
instance (t : Pi) : Decidable (pvQ t) := by unfold pvQ; infer_instance
def fgK (f pl : Int) (b : Pi) (D : List Int) : Nat → List Pi
  | 0 => [b]
  | k + 1 => fgK f pl b D k ++ [kpP f (pl + D.getD k 0)]
theorem fgK_len (f pl : Int) (b : Pi) (D : List Int) : ∀ k, (fgK f pl b D k).length = k + 1
  | 0 => rfl
  | k + 1 => by unfold fgK; rw [List.length_append, fgK_len f pl b D k]; rfl
def plI (b : Pi) : Int := 7 * b.octave + b.step
def fgP (f : Int) (b : Pi) (g : Int) : Prop := (-7 ≤ f ∧ f ≤ 7) ∧ pvQ b ∧ 0 < (stL g).length ∧ ∀ k, k < (stL g).length → pvQ (kpP f (plI b + (stL g).getD k 0))
instance (f : Int) (b : Pi) (g : Int) : Decidable (fgP f b g) := by unfold fgP; infer_instance
def fgL (f : Int) (b : Pi) (g : Int) : List Pi := if fgP f b g then fgK f (plI b) b (stL g) (stL g).length else []
theorem fg_no {f : Int} {b : Pi} {g : Int} (h : ¬ fgP f b g) : fgL f b g = [] := if_neg h
theorem fg_yes {f : Int} {b : Pi} {g : Int} (h : fgP f b g) : fgL f b g = fgK f (plI b) b (stL g) (stL g).length := if_pos h
theorem fgL_len (f : Int) (b : Pi) (g : Int) : (fgL f b g).length ≤ 4 := by
  unfold fgL
  by_cases h : fgP f b g
  · rw [if_pos h, fgK_len]; have := (stL_ok g).1; omega
  · rw [if_neg h]; simp
def FgR (w : World) (L : List Pi) (e : Ending) (w' : World) : Prop :=
  ∃ A c, e = .returned (.slice A L.length c) ∧ L.length ≤ c ∧ c ≤ maxLen ∧ RowPi w' w'.heap.size A L ∧ OwnPi w' w.heap.size A L.length ∧ Below w.heap.size w w'
def FsR (g : Int) (w : World) (e : Ending) (w' : World) : Prop := ∃ A c, e = .returned (.slice A (stF g).length c) ∧ IntRow w' w'.heap.size A (stF g) ∧ (∀ ad, A = some ad → w.heap.size ≤ ad.block) ∧ Below w.heap.size w w'
set_option maxHeartbeats 2000000 in
theorem kp_any (f pl : Int) (w : World) (f0 : -7 ≤ f) (f1 : f ≤ 7) (p0 : 0 ≤ pl) (p1 : pl ≤ 1000) : Calls Try.prog 89 #[.int .i64 f, .int .i64 pl] w fun e w' => e = .returned (.agg #[.int .i64 (kpP f pl).step, .int .i64 (kpP f pl).alter, .int .i64 (kpP f pl).octave]) ∧ Below w.heap.size w w' := by
  have hk : kaI f (pl % 7) = alI f (pl % 7) := by unfold kaI; rw [if_pos ⟨⟨f0, f1⟩, by omega, by omega⟩]
  obtain ⟨x, hx⟩ : ∃ x, alI f (pl % 7) = x := ⟨_, rfl⟩
  have e1 : (kpP f pl).alter = x := hx
  have e2 : (kpP f pl).step = pl % 7 := rfl
  have e3 : (kpP f pl).octave = pl / 7 := rfl
  rw [e1, e2, e3]
  rw [hx] at hk
  have HK := Lib.hid hk
  clear hk hx e1 e2 e3
  have m0 : 0 ≤ pl % 7 := by omega
  have m1 : 0 ≤ pl / 7 := by omega
  have bR : Blk (w.alloc (.cells #[.int .i64 0, .int .i64 0, .int .i64 0] 43)) w.heap.size #[.int .i64 0, .int .i64 0, .int .i64 0] 43 := Blk.new w _ _
  have bw : Below w.heap.size w (w.alloc (.cells #[.int .i64 0, .int .i64 0, .int .i64 0] 43)) := bel_al (bel_refl w) _
  go_enter Try.func89, Try.ntmps89
  go_wp2_with fail
  generalize (w.alloc (.cells #[.int .i64 0, .int .i64 0, .int .i64 0] 43)) = w0 at *
  refine (ka_val HK.out _).mono ?_
  rintro e1 w1 ⟨rfl, b1⟩
  have bR := bR.below b1
  have bw := bel_tr bw b1
  have cR0 : w1.cell? ⟨w.heap.size, 0, none⟩ = some (.int .i64 0) := by rw [Blk.cell bR]; rfl
  have fR0 := Blk.free bR 0
  have cR1 : w1.cell? ⟨w.heap.size, 1, none⟩ = some (.int .i64 0) := by rw [Blk.cell bR]; rfl
  have fR1 := Blk.free bR 1
  have cR2 : w1.cell? ⟨w.heap.size, 2, none⟩ = some (.int .i64 0) := by rw [Blk.cell bR]; rfl
  have fR2 := Blk.free bR 2
  have lR := Blk.lt bR
  go_wp2
  exact bodyPost_ret (v := .agg #[.int .i64 (pl % 7), .int .i64 x, .int .i64 (pl / 7)]) (by simp [results, Try.results89, go_sem, cR0, fR0, cR1, fR1, cR2, fR2]) rfl ⟨rfl, by repeat (first | (with_reducible assumption) | (exact bel_undr (by with_reducible assumption)) | (with_reducible exact bel_refl _) | (with_reducible refine bel_dr ?_) | (with_reducible refine bel_drN ?_ _) | (with_reducible refine bel_al ?_ _) | (refine bel_set ?_ (by first | (simp; done) | (simp; exact Below.size (by assumption)) | (simp; omega)) _) | (with_reducible refine bel_tr ?_ (by assumption)))⟩
end Go.Proofs.Ytkchlgmlfihkdaa
