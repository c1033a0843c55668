/- Faults of a tone and of a step in a line: plain; and what the closures of the program's rules answer. -/
import Derived.Test.YtpjakgnghpapmaaCantus
import Derived.Test.YtpjakgnghpapmaaBa
import Derived.Laws.EntriesVeiled
namespace Go.Proofs.Ytpjakgnghpapmaa
set_option linter.unusedSimpArgs false
set_option linter.unusedVariables false
open Go.RowKit

def disB (m : Int) : Bool := decide (m = 1 ∨ m = 2 ∨ m = 5 ∨ m = 6 ∨ m = 10 ∨ m = 11)
def dsI (x y : Int) : Int := if x ≤ y then y - x else x - y
theorem dsI_bd {x y : Int} (hx : -100 ≤ x ∧ x ≤ 109) (hy : -100 ≤ y ∧ y ≤ 109) : 0 ≤ dsI x y ∧ dsI x y ≤ 209 := by unfold dsI; split <;> omega
def e4B (m : Int) (z la : Bool) : Bool := decide ((z = true ∧ m ≠ 0 ∧ m ≠ 7) ∨ (la = true ∧ m ≠ 0))
/-- the fault of a tone of key y over one of key x: ik: it is in the key; z, la: it is the first, the last one -/
def tnK (ik : Bool) (x y : Int) (z la : Bool) : Int :=
  if ik = false then 1 else if ¬ (0 ≤ y - x ∧ y - x ≤ 16) then 3 else if disB (dsI x y % 12) = true then 2 else if e4B (dsI x y % 12) z la = true then 4 else 0
/-- the fault of the step from y (over x) to y' (over x') -/
def stK (x y x' y' : Int) : Int :=
  if dsI y y' = 0 then 7 else if 9 < dsI y y' then 6 else if (y - x) % 12 = (y' - x') % 12 ∧ ((y - x) % 12 = 0 ∨ (y - x) % 12 = 7) then 5 else 0
theorem disB_or {m : Int} (h : disB m = true) : m = 1 ∨ m = 2 ∨ m = 5 ∨ m = 6 ∨ m = 10 ∨ m = 11 := of_decide_eq_true h
theorem disB_not {m : Int} (h : disB m = false) : (m == 1) = false ∧ (m == 2) = false ∧ (m == 5) = false ∧ (m == 6) = false ∧ (m == 10) = false ∧ (m == 11) = false := by
  have h2 := of_decide_eq_false h
  simp only [beq_eq_false_iff_ne, ne_eq]
  refine ⟨?_, ?_, ?_, ?_, ?_, ?_⟩ <;> intro e <;> apply h2 <;> omega
theorem tmodE {d : Int} (h : 0 ≤ d) (n : Int) : Int.tmod d n = d % n := Int.tmod_eq_emod_of_nonneg h
set_option maxHeartbeats 1000000 in
theorem ds_any (x y : Int) (w : World) (hx : -100 ≤ x ∧ x ≤ 109) (hy : -100 ≤ y ∧ y ≤ 109) : Calls Try.prog 51 #[.int .i64 x, .int .i64 y] w fun e w' => e = .returned (.int .i64 (dsI x y)) ∧ Below w.heap.size w w' := by
  have i1 := IntWalk.i64_in (x - y) (by omega)
  have i2 := IntWalk.i64_in (y - x) (by omega)
  by_cases hle : x ≤ y
  · have e : dsI x y = y - x := if_pos hle
    rw [e]
    have h1 : x - y ≤ y - x := by omega
    have h2 : x - y < y - x ∨ x = y := by omega
    rcases h2 with h2 | rfl
    · have h3 : ¬ y - x < x - y := by omega
      go_enter Try.func51, Try.ntmps51
      go_wp2
      go_ret
      exact ⟨by first | rfl | (congr 3; omega), bel_refl _⟩
    · have e0 : x - x = 0 := by omega
      rw [e0] at i1 ⊢
      go_enter Try.func51, Try.ntmps51
      go_wp2
      go_ret
      exact ⟨by first | rfl | simp [e0], bel_refl _⟩
  · have e : dsI x y = x - y := if_neg hle
    rw [e]
    have h3 : y - x < x - y := by omega
    have h4 : ¬ x - y < y - x := by omega
    go_enter Try.func51, Try.ntmps51
    go_wp2
    go_ret
    exact ⟨by first | rfl | (congr 3; omega), bel_refl _⟩
theorem ds_val {x y v : Int} (h : dsI x y = v) (w : World) (hx : -100 ≤ x ∧ x ≤ 109) (hy : -100 ≤ y ∧ y ≤ 109) : Calls Try.prog 51 #[.int .i64 x, .int .i64 y] w fun e w' => e = .returned (.int .i64 v) ∧ Below w.heap.size w w' := by
  have := ds_any x y w hx hy
  rw [h] at this
  exact this
set_option maxHeartbeats 1000000 in
theorem md_any (x : Int) (w : World) (hx : -300 ≤ x ∧ x ≤ 300) : Calls Try.prog 75 #[.int .i64 x, .int .i64 12] w fun e w' => e = .returned (.int .i64 (x % 12)) ∧ Below w.heap.size w w' := by
  obtain ⟨r, hr⟩ : ∃ r, Int.tmod x 12 = r := ⟨_, rfl⟩
  have hb : -12 < r ∧ r < 12 ∧ ∃ q, x = 12 * q + r := by
    refine ⟨?_, ?_, Int.tdiv x 12, ?_⟩
    · rw [← hr]
      by_cases h0 : 0 ≤ x
      · rw [tmodE h0]; omega
      · have e := Int.neg_tmod x 12
        have e2 := tmodE (d := -x) (by omega) 12
        omega
    · rw [← hr]; exact Int.tmod_lt_of_pos x (by decide)
    · rw [← hr]; exact (Int.mul_tdiv_add_tmod x 12).symm
  obtain ⟨r1, r2, q, hq⟩ := hb
  have i1 := IntWalk.i64_in (r + 12) (by omega)
  have e2 : Int.tmod (r + 12) 12 = x % 12 := by rw [tmodE (by omega)]; omega
  clear r1 r2 hq
  generalize x % 12 = m at *
  go_enter Try.func75, Try.ntmps75
  go_wp2
  go_ret
  exact ⟨rfl, bel_refl _⟩
theorem md_val {x v : Int} (h : x % 12 = v) (w : World) (hx : -300 ≤ x ∧ x ≤ 300) : Calls Try.prog 75 #[.int .i64 x, .int .i64 12] w fun e w' => e = .returned (.int .i64 v) ∧ Below w.heap.size w w' := by
  have := md_any x w hx
  rw [h] at this
  exact this
theorem e4_cases (m : Int) (z la : Bool) : (e4B m z la = true ∧ ((z = true ∧ (m != 0) = true ∧ (m != 7) = true) ∨ (z = false ∧ la = true ∧ (m != 0) = true) ∨ (z = true ∧ m = 7 ∧ la = true))) ∨ (e4B m z la = false ∧ ((z = true ∧ m = 0 ∧ la = true) ∨ (z = true ∧ m = 0 ∧ la = false) ∨ (z = true ∧ m = 7 ∧ la = false) ∨ (z = false ∧ la = false) ∨ (z = false ∧ la = true ∧ m = 0))) := by
  unfold e4B
  simp only [bne_iff_ne, ne_eq, decide_eq_true_eq, decide_eq_false_iff_not]
  cases z <;> cases la <;> simp <;> omega
end Go.Proofs.Ytpjakgnghpapmaa
