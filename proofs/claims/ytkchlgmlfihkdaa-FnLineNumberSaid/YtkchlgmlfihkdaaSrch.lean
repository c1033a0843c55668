/- A key, a cantus and bounds, drawn for the laws of lines. -/
import Derived.Test.YtkchlgmlfihkdaaCtu
import Derived.Test.YtkchlgmlfihkdaaBa
namespace Go.Proofs.Ytkchlgmlfihkdaa
set_option linter.unusedSimpArgs false
set_option linter.unusedVariables false
open Go.RowKit

def SrR (w : World) (g B p : Nat) (A : Option Addr) (len cap : Nat) (e : Ending) (w' : World) : Prop :=
  ∃ (f : Int) (v : Value) (l : List Pi) (lo hi : Int), e = .returned (.tuple #[.int .i64 f, v, .int .i64 lo, .int .i64 hi]) ∧ 1 ≤ l.length ∧ l.length ≤ 6 ∧ w'.ownsRow w.heap.size 43 3 v l.length (flat csPi l) ∧ (46 ≤ lo ∧ lo ≤ 51) ∧ (40 ≤ hi ∧ hi ≤ 110) ∧ Onb g w w' ∧ ∃ p', p' ≤ p + 30 ∧ Rd w' g B A len cap p'
set_option maxHeartbeats 4000000 in
theorem srch_any (w : World) (g B p : Nat) (A : Option Addr) (len cap : Nat) (h : Rd w g B A len cap p) (hp : p < 900000) :
    Calls Try.prog 64 #[.pointer (some ⟨g, 0, none⟩)] w (SrR w g B p A len cap) := by
  go_enter Try.func64, Try.ntmps64
  have hg := h.gl
  go_wp2_with fail
  refine (cantus_any w g B p A len cap _ h (by omega)).mono ?_
  rintro e w1 ⟨f, vv, l, rfl, l1, l6, own, k1, p1, hp1, r1⟩
  go_wp2_with fail
  refine (pick_fr _ _ _ _ _ _ _ _ r1 (by omega)).mono ?_
  rintro e w2 ⟨x, rfl, ⟨x0, x1, _⟩, o2, r2⟩
  have k2 := k1.trans (Onb.of_onl o2)
  replace own := own_onl own o2 hg
  have x1 := x1 (by omega)
  clear r1 k1 o2
  have ix := IntWalk.i64_in (46 + x) (by omega)
  obtain ⟨lo, hlo⟩ : ∃ lo, 46 + x = lo := ⟨_, rfl⟩
  have lo0 : 46 ≤ lo := by omega
  have lo1 : lo ≤ 51 := by omega
  rw [hlo] at ix
  have HLO := Lib.hid hlo
  go_wp2_with fail
  refine (pick_fr _ _ _ _ _ _ _ _ r2 (by omega)).mono ?_
  rintro e w3 ⟨y, rfl, ⟨y0, y1, _⟩, o3, r3⟩
  have k3 := k2.trans (Onb.of_onl o3)
  replace own := own_onl own o3 hg
  have y1 := y1 (by omega)
  clear r2 k2 o3
  have iy := IntWalk.i64_in (lo + 8) (by omega)
  have iz := IntWalk.i64_in (lo + 8 + y) (by omega)
  go_wp2_with fail
  refine (odd_any _ _ _ _ _ _ _ _ r3 (by omega)).mono ?_
  rintro e w4 ⟨bo, rfl, _, o4, p4, hp4, r4⟩
  have k4 := k3.trans (Onb.of_onl o4)
  replace own := own_onl own o4 hg
  clear r3 k3 o4
  cases bo
  · go_wp2
    exact bodyPost_ret (v := .tuple #[.int .i64 f, vv, .int .i64 lo, .int .i64 (lo + 8 + y)]) (by simp [results, Try.results64, go_sem]) rfl ⟨f, vv, l, lo, (lo + 8 + y), rfl, l1, l6, own, ⟨lo0, lo1⟩, ⟨by omega, by omega⟩, k4, _, by omega, r4⟩
  · have ia := IntWalk.i64_in (lo - 1) (by omega)
    have ib := IntWalk.i64_in (lo + 31) (by omega)
    go_wp2_with fail
    refine (pick_fr _ _ _ _ _ _ _ _ (r4.alloc _) (by omega)).mono ?_
    rintro e w5 ⟨q, rfl, ⟨q0, q1, _⟩, o5, r5⟩
    have q1 := q1 (by omega)
    have k5 := (k4.alloc _).trans (Onb.of_onl o5)
    replace own := own_onl (own.alloc _) o5 hg
    have bL := (Blk.new w4 #[.int .i64 (lo - 1), .int .i64 (lo + 31), .int .i64 108] 3).onl o5 (by have := r4.gl; omega)
    have lL := bL.lt
    clear r4 k4 o5
    rcases (show q = 0 ∨ q = 1 ∨ q = 2 from by omega) with rfl | rfl | rfl
    · have cL : w5.cell? ⟨w4.heap.size, 0, none⟩ = some (.int .i64 (lo - 1)) := by rw [Blk.cell bL]; rfl
      go_wp2
      exact bodyPost_ret (v := .tuple #[.int .i64 f, vv, .int .i64 lo, .int .i64 (lo - 1)]) (by simp [results, Try.results64, go_sem]) rfl ⟨f, vv, l, lo, (lo - 1), rfl, l1, l6, own, ⟨lo0, lo1⟩, ⟨by omega, by omega⟩, k5, _, by omega, r5⟩
    · have cL : w5.cell? ⟨w4.heap.size, 1, none⟩ = some (.int .i64 (lo + 31)) := by rw [Blk.cell bL]; rfl
      go_wp2
      exact bodyPost_ret (v := .tuple #[.int .i64 f, vv, .int .i64 lo, .int .i64 (lo + 31)]) (by simp [results, Try.results64, go_sem]) rfl ⟨f, vv, l, lo, (lo + 31), rfl, l1, l6, own, ⟨lo0, lo1⟩, ⟨by omega, by omega⟩, k5, _, by omega, r5⟩
    · have cL : w5.cell? ⟨w4.heap.size, 2, none⟩ = some (.int .i64 108) := by rw [Blk.cell bL]; rfl
      go_wp2
      exact bodyPost_ret (v := .tuple #[.int .i64 f, vv, .int .i64 lo, .int .i64 108]) (by simp [results, Try.results64, go_sem]) rfl ⟨f, vv, l, lo, 108, rfl, l1, l6, own, ⟨lo0, lo1⟩, ⟨by omega, by omega⟩, k5, _, by omega, r5⟩

def DrSr (w : World) (e : Ending) (w' : World) : Prop := ∃ (f : Int) (A : Option Addr) (cap : Nat) (l : List Pi) (lo hi : Int), e = .returned (.tuple #[.int .i64 f, .slice A l.length cap, .int .i64 lo, .int .i64 hi]) ∧ l.length ≤ cap ∧ cap ≤ maxLen ∧ l.length ≤ 6 ∧ (46 ≤ lo ∧ lo ≤ 51) ∧ (40 ≤ hi ∧ hi ≤ 110) ∧ RowPi w' w'.heap.size A l ∧ Below w.heap.size w w'
set_option maxHeartbeats 1000000 in
theorem DrawCountLines_any (w : World) (A : Option Addr) (len cap : Nat) (h : Cod w A len cap) : Calls Try.prog 37 #[.slice A len cap] w (DrSr w) := by
  go_enter Try.func37, Try.ntmps37
  go_wp2_with fail
  refine (open_eq _ A len cap h.lc h.cm).mono ?_
  rintro e w1 ⟨rfl, rfl⟩
  have r1 := open_ok w A len cap w.heap.size (Nat.le_refl _) h.bt
  have k1 : Onb w.heap.size w (w.alloc (.cells #[.slice A (min len 2000) cap, .int .i64 0] 97)) := Onb.of_bel (bel_al (bel_refl _) _)
  go_wp2_with fail
  refine (srch_any _ _ _ _ _ _ _ r1 (by omega)).mono ?_
  rintro e w2 ⟨f, v, l, lo, hi, rfl, l1, l6, own2, hlo, hhi, o2, p2, hp2, r2⟩
  obtain ⟨A2, c2, rfl, lc, cm, hr, _⟩ := own_rowPi own2
  have b2 := (k1.trans o2).below (Nat.le_refl _) (Nat.le_refl _)
  go_wp2
  exact bodyPost_ret (v := .tuple #[.int .i64 f, .slice A2 l.length c2, .int .i64 lo, .int .i64 hi]) (by simp [results, Try.results37, go_sem]) rfl ⟨f, A2, c2, l, lo, hi, rfl, lc, cm, l6, hlo, hhi, hr, b2⟩
set_option maxHeartbeats 1000000 in
theorem DrawCompleteLine_any (w : World) (A : Option Addr) (len cap : Nat) (h : Cod w A len cap) : Calls Try.prog 40 #[.slice A len cap] w (DrSr w) := by
  go_enter Try.func40, Try.ntmps40
  go_wp2_with fail
  refine (open_eq _ A len cap h.lc h.cm).mono ?_
  rintro e w1 ⟨rfl, rfl⟩
  have r1 := open_ok w A len cap w.heap.size (Nat.le_refl _) h.bt
  have k1 : Onb w.heap.size w (w.alloc (.cells #[.slice A (min len 2000) cap, .int .i64 0] 97)) := Onb.of_bel (bel_al (bel_refl _) _)
  go_wp2_with fail
  refine (srch_any _ _ _ _ _ _ _ r1 (by omega)).mono ?_
  rintro e w2 ⟨f, v, l, lo, hi, rfl, l1, l6, own2, hlo, hhi, o2, p2, hp2, r2⟩
  obtain ⟨A2, c2, rfl, lc, cm, hr, _⟩ := own_rowPi own2
  have b2 := (k1.trans o2).below (Nat.le_refl _) (Nat.le_refl _)
  go_wp2
  exact bodyPost_ret (v := .tuple #[.int .i64 f, .slice A2 l.length c2, .int .i64 lo, .int .i64 hi]) (by simp [results, Try.results40, go_sem]) rfl ⟨f, A2, c2, l, lo, hi, rfl, lc, cm, l6, hlo, hhi, hr, b2⟩
end Go.Proofs.Ytkchlgmlfihkdaa
