/- The walk of the law FnTemposValid: for every input it returns true and turns nothing that was there. -/
import Derived.Test.YtjfiknnclkilbaaTps
import Derived.Test.YtjfiknnclkilbaaTof
namespace Go.Proofs.Ytjfiknnclkilbaa.FnTemposValid
open Go.RowKit

theorem row_take {w : World} {B : Nat} {A : Option Addr} {l : List Tp} (h : RowTp w B A l) (k : Nat) : RowTp w B A (l.take k) := by
  intro hl
  have hl1 : 0 < l.length := by rw [List.length_take] at hl; omega
  obtain ⟨b, off, e, hb, hc⟩ := h hl1
  refine ⟨b, off, e, hb, fun i hi => ?_⟩
  rw [List.length_take] at hi
  have e1 : atTp (l.take k) i = atTp l i := by unfold atTp; rw [List.getD_eq_getElem?_getD, List.getD_eq_getElem?_getD, List.getElem?_take, if_pos (by omega)]
  rw [e1]; exact hc i (by omega)
theorem row_drop {w : World} {B b off : Nat} {l : List Tp} (h : RowTp w B (some ⟨b, off, none⟩) l) : RowTp w B (some ⟨b, off + 2, none⟩) (l.drop 1) := by
  intro hl
  rw [List.length_drop] at hl
  obtain ⟨b', off', e, hb, hc⟩ := h (by omega)
  simp only [Option.some.injEq, Addr.mk.injEq, and_true] at e
  obtain ⟨rfl, rfl⟩ := e
  refine ⟨b, off + 2, rfl, hb, fun i hi => ?_⟩
  rw [List.length_drop] at hi
  have e1 : atTp (l.drop 1) i = atTp l (i + 1) := by unfold atTp; rw [List.getD_eq_getElem?_getD, List.getD_eq_getElem?_getD, List.getElem?_drop, Nat.add_comm]
  rw [e1]
  have h2 := hc (i + 1) (by omega)
  rw [show off + 2 + i * 2 = off + (i + 1) * 2 from by omega]
  exact h2
theorem row_nil (w : World) (B : Nat) (A : Option Addr) {l : List Tp} (h : l.length = 0) : RowTp w B A l := fun hl => by omega
theorem tv_take {l : List Tp} (h : tvB l = true) : tvB (l.take 1) = true := by
  have hf := tvB_of h
  have hl := hf.len
  have e0 : ∀ k, k < 1 → atTp (l.take 1) k = atTp l k := fun k hk => by unfold atTp; rw [List.getD_eq_getElem?_getD, List.getD_eq_getElem?_getD, List.getElem?_take, if_pos hk]
  have el : (l.take 1).length = 1 := by rw [List.length_take]; omega
  refine tvB_yes ⟨by omega, by omega, by rw [e0 0 (by omega)]; exact hf.z⟩ fun k hk => ?_
  obtain rfl : k = 0 := by omega
  have := hf.ok 0 (by omega)
  unfold tvOk at this ⊢
  rw [e0 0 (by omega)]
  exact ⟨this.1, this.2.1, this.2.2.1, fun h => absurd h (by omega)⟩
theorem tv_drop {l : List Tp} (h : tvB l = true) : tvB (l.drop 1) = false := by
  have hf := tvB_of h
  refine tvB_no ?_
  rintro ⟨a, _, c⟩
  rw [List.length_drop] at a
  have e1 : atTp (l.drop 1) 0 = atTp l 1 := by unfold atTp; rw [List.getD_eq_getElem?_getD, List.getD_eq_getElem?_getD, List.getElem?_drop]
  rw [e1] at c
  have := (hf.ok 1 (by omega)).2.2.2 (by omega)
  have hz := hf.z
  simp at this
  omega
theorem tv_nil : tvB [] = false := by decide +kernel

set_option maxHeartbeats 4000000 in
theorem walk (A : Option Addr) (len cap : Nat) (w : World) (h : Cod w A len cap) :
    Calls Try.prog 5 #[.slice A len cap] w fun e w' => e = .returned (.bool true) ∧ Below w.heap.size w w' := by
  by_cases hl : len ≤ 1048576
  · go_enter Try.func5, Try.ntmps5
    go_wp2_with fail
    refine (DrawTemposValid_any w A len cap h).mono ?_
    rintro e1 w1 ⟨A1, c1, l, rfl, lc, cm, l4, hr, b1⟩
    unfold maxLen at cm
    cases hv : tvB l
    · go_wp2_with fail
      refine (tv_val hv _ _ _ _ rfl (by omega) hr).mono ?_
      rintro e2 w2 ⟨rfl, b2⟩
      have hr := hr.below b2
      go_wp2_with fail
      refine (stv_val hv _ _ _ _ rfl (by omega) hr).mono ?_
      rintro e3 w3 ⟨rfl, b3⟩
      go_wp2_with fail
      refine (tv_val tv_nil _ _ _ _ rfl (by simp) (row_nil _ _ _ rfl)).mono ?_
      rintro e4 w4 ⟨rfl, b4⟩
      go_wp2_with fail
      refine (alive_any _).mono ?_
      rintro e5 w5 ⟨rfl, b5⟩
      go_wp2
      go_ret
      exact ⟨rfl, by repeat (first | (with_reducible assumption) | (exact bel_undr (by with_reducible assumption)) | (with_reducible exact bel_refl _) | (with_reducible refine bel_dr ?_) | (with_reducible refine bel_drN ?_ _) | (with_reducible refine bel_al ?_ _) | (refine bel_set ?_ (by first | (simp; done) | (simp; exact Below.size (by assumption)) | (simp; omega)) _) | (with_reducible refine bel_tr ?_ (by assumption)))⟩
    · have HT := Lib.hid (tv_take hv)
      have HD := Lib.hid (tv_drop hv)
      have h1 := (tvB_of hv).len
      have HV := Lib.hid hv
      clear hv
      obtain ⟨b, off, rfl, _⟩ := hr h1
      have h1i : (1 : Int) ≤ (l.length : Int) := by omega
      have h2i : (1 : Int) ≤ (c1 : Int) := by omega
      have h3i : (l.length : Int) ≤ (c1 : Int) := by omega
      by_cases hc1 : c1 = 1
      · subst hc1
        go_wp2_with fail
        refine (tv_val HV.out _ _ _ _ rfl (by omega) hr).mono ?_
        rintro e2 w2 ⟨rfl, b2⟩
        have hr := hr.below b2
        go_wp2_with fail
        refine (stv_val HV.out _ _ _ _ rfl (by omega) hr).mono ?_
        rintro e3 w3 ⟨rfl, b3⟩
        have hr := hr.below b3
        go_wp2_with fail
        refine (tv_val HT.out _ _ _ _ (by simp; omega) (by omega) (row_take hr 1)).mono ?_
        rintro e4 w4 ⟨rfl, b4⟩
        have hr := hr.below b4
        go_wp2_with fail
        refine (tv_val HD.out _ _ _ _ (List.length_drop.trans (by omega)) (by omega) (row_nil _ _ _ (by rw [List.length_drop]; omega))).mono ?_
        rintro e5 w5 ⟨rfl, b5⟩
        go_wp2_with fail
        refine (tv_val tv_nil _ _ _ _ rfl (by simp) (row_nil _ _ _ rfl)).mono ?_
        rintro e6 w6 ⟨rfl, b6⟩
        go_wp2_with fail
        refine (alive_any _).mono ?_
        rintro e7 w7 ⟨rfl, b7⟩
        go_wp2
        go_ret
        exact ⟨rfl, by repeat (first | (with_reducible assumption) | (exact bel_undr (by with_reducible assumption)) | (with_reducible exact bel_refl _) | (with_reducible refine bel_dr ?_) | (with_reducible refine bel_drN ?_ _) | (with_reducible refine bel_al ?_ _) | (refine bel_set ?_ (by first | (simp; done) | (simp; exact Below.size (by assumption)) | (simp; omega)) _) | (with_reducible refine bel_tr ?_ (by assumption)))⟩
      · have hc2 : ¬ (1 : Int) = (c1 : Int) := by omega
        have hc3 : ((c1 : Int) == 1) = false := by simp <;> omega
        go_wp2_with fail
        refine (tv_val HV.out _ _ _ _ rfl (by omega) hr).mono ?_
        rintro e2 w2 ⟨rfl, b2⟩
        have hr := hr.below b2
        go_wp2_with fail
        refine (stv_val HV.out _ _ _ _ rfl (by omega) hr).mono ?_
        rintro e3 w3 ⟨rfl, b3⟩
        have hr := hr.below b3
        go_wp2_with fail
        refine (tv_val HT.out _ _ _ _ (by simp; omega) (by omega) (row_take hr 1)).mono ?_
        rintro e4 w4 ⟨rfl, b4⟩
        have hr := hr.below b4
        go_wp2_with fail
        refine (tv_val HD.out _ _ _ _ (List.length_drop.trans (by omega)) (by omega) (row_drop hr)).mono ?_
        rintro e5 w5 ⟨rfl, b5⟩
        go_wp2_with fail
        refine (tv_val tv_nil _ _ _ _ rfl (by simp) (row_nil _ _ _ rfl)).mono ?_
        rintro e6 w6 ⟨rfl, b6⟩
        go_wp2_with fail
        refine (alive_any _).mono ?_
        rintro e7 w7 ⟨rfl, b7⟩
        go_wp2
        go_ret
        exact ⟨rfl, by repeat (first | (with_reducible assumption) | (exact bel_undr (by with_reducible assumption)) | (with_reducible exact bel_refl _) | (with_reducible refine bel_dr ?_) | (with_reducible refine bel_drN ?_ _) | (with_reducible refine bel_al ?_ _) | (refine bel_set ?_ (by first | (simp; done) | (simp; exact Below.size (by assumption)) | (simp; omega)) _) | (with_reducible refine bel_tr ?_ (by assumption)))⟩
  · have hl2 : (1048576 : Int) < (len : Int) := by omega
    go_enter Try.func5, Try.ntmps5
    go_wp2
    go_ret
    exact ⟨rfl, bel_refl _⟩

end Go.Proofs.Ytjfiknnclkilbaa.FnTemposValid
