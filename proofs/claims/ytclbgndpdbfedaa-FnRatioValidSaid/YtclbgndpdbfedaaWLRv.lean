/- The walk of the law FnRatioValid: for every input it returns true and turns nothing that was there. -/
import Derived.Test.YtclbgndpdbfedaaDr2
namespace Go.Proofs.Ytclbgndpdbfedaa.FnRatioValid
open Go.RowKit

theorem rvB00 : rvB 0 0 = false := by decide +kernel
theorem rvB_double {n d : Int} (h : rvB n d = true) : rvB (2 * n) (2 * d) = false := by
  obtain ⟨a, _, c, _, e⟩ := rvB_bd h
  unfold rvB
  apply decide_eq_false
  rintro ⟨_, _, _, _, g⟩
  unfold G at e g
  have e1 : (2 * n).toNat = 2 * n.toNat := by omega
  have e2 : (2 * d).toNat = 2 * d.toNat := by omega
  rw [e1, e2, Nat.gcd_mul_left] at g
  omega

set_option maxHeartbeats 1600000 in
theorem walk (A : Option Addr) (len cap : Nat) (w : World) (h : Cod w A len cap) :
    Calls Try.prog 10 #[.slice A len cap] w fun e w' => e = .returned (.bool true) ∧ Below w.heap.size w w' := by
  by_cases hl : len ≤ 1048576
  · go_enter Try.func10, Try.ntmps10
    go_wp2_with fail
    refine (DrawRatioValid_any w A len cap h).mono ?_
    rintro e1 w1 ⟨n, d, rfl, nd, b1⟩
    obtain ⟨n0, n1, d0, d1⟩ := nd
    have z0 := rvB00
    cases hv : rvB n d
    · go_wp2_with fail
      refine (rv_any _ _ _).mono ?_
      rintro e2 w2 ⟨rfl, hb2⟩
      have hz2 := hb2.size
      (try simp at hz2)
      obtain ⟨c2_0, f2_0⟩ := cel hb2 w1.heap.size (by (try simp) <;> omega)
      have l2_0 : w1.heap.size < w2.heap.size := (by omega)
      go_wp2_with fail
      refine (srv_any _ _ _).mono ?_
      rintro e3 w3 ⟨rfl, hb3⟩
      have hz3 := hb3.size
      (try simp at hz3)
      obtain ⟨c3_0, f3_0⟩ := cel hb3 w1.heap.size (by (try simp) <;> omega)
      have l3_0 : w1.heap.size < w3.heap.size := (by omega)
      go_wp2_with fail
      refine (rv_any _ _ _).mono ?_
      rintro e4 w4 ⟨rfl, hb4⟩
      have hz4 := hb4.size
      (try simp at hz4)
      obtain ⟨c4_0, f4_0⟩ := cel hb4 w1.heap.size (by (try simp) <;> omega)
      have l4_0 : w1.heap.size < w4.heap.size := (by omega)
      go_wp2_with fail
      refine (alive_any _).mono ?_
      rintro e5 w5 ⟨rfl, hb5⟩
      have hz5 := hb5.size
      (try simp at hz5)
      go_wp2
      go_ret
      exact ⟨rfl, by repeat (first | (with_reducible assumption) | (exact bel_undr (by with_reducible assumption)) | (with_reducible exact bel_refl _) | (with_reducible refine bel_dr ?_) | (with_reducible refine bel_drN ?_ _) | (with_reducible refine bel_al ?_ _) | (refine bel_set ?_ (by first | (simp; done) | (simp; exact Below.size (by assumption)) | (simp; omega)) _) | (with_reducible refine bel_tr ?_ (by assumption)))⟩
    · have hd := rvB_double hv
      go_wp2_with fail
      refine (rv_any _ _ _).mono ?_
      rintro e2 w2 ⟨rfl, hb2⟩
      have hz2 := hb2.size
      (try simp at hz2)
      obtain ⟨c2_0, f2_0⟩ := cel hb2 w1.heap.size (by (try simp) <;> omega)
      have l2_0 : w1.heap.size < w2.heap.size := (by omega)
      go_wp2_with fail
      refine (srv_any _ _ _).mono ?_
      rintro e3 w3 ⟨rfl, hb3⟩
      have hz3 := hb3.size
      (try simp at hz3)
      obtain ⟨c3_0, f3_0⟩ := cel hb3 w1.heap.size (by (try simp) <;> omega)
      have l3_0 : w1.heap.size < w3.heap.size := (by omega)
      go_wp2_with fail
      refine (rv_any _ _ _).mono ?_
      rintro e6 w6 ⟨rfl, hb6⟩
      have hz6 := hb6.size
      (try simp at hz6)
      obtain ⟨c6_0, f6_0⟩ := cel hb6 w1.heap.size (by (try simp) <;> omega)
      have l6_0 : w1.heap.size < w6.heap.size := (by omega)
      go_wp2_with fail
      refine (rv_any _ _ _).mono ?_
      rintro e4 w4 ⟨rfl, hb4⟩
      have hz4 := hb4.size
      (try simp at hz4)
      obtain ⟨c4_0, f4_0⟩ := cel hb4 w1.heap.size (by (try simp) <;> omega)
      have l4_0 : w1.heap.size < w4.heap.size := (by omega)
      go_wp2_with fail
      refine (alive_any _).mono ?_
      rintro e5 w5 ⟨rfl, hb5⟩
      have hz5 := hb5.size
      (try simp at hz5)
      go_wp2
      go_ret
      exact ⟨rfl, by repeat (first | (with_reducible assumption) | (exact bel_undr (by with_reducible assumption)) | (with_reducible exact bel_refl _) | (with_reducible refine bel_dr ?_) | (with_reducible refine bel_drN ?_ _) | (with_reducible refine bel_al ?_ _) | (refine bel_set ?_ (by first | (simp; done) | (simp; exact Below.size (by assumption)) | (simp; omega)) _) | (with_reducible refine bel_tr ?_ (by assumption)))⟩
  · have hl2 : (1048576 : Int) < (len : Int) := by omega
    go_enter Try.func10, Try.ntmps10
    go_wp2
    go_ret
    exact ⟨rfl, bel_refl _⟩

end Go.Proofs.Ytclbgndpdbfedaa.FnRatioValid
