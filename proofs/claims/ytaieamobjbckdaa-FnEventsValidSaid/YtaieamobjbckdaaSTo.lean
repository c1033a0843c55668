/- l19Time of the reference: for every slice of valid tempos. -/
import Derived.Test.YtaieamobjbckdaaTo
namespace Go.Proofs.Ytaieamobjbckdaa
set_option linter.unusedSimpArgs false
set_option linter.unusedVariables false
open Go.RowKit

set_option maxHeartbeats 4000000 in
theorem sto_any (A : Option Addr) (n c : Nat) (l : List Tp) (k : Int) (w : World) (hn : l.length = n) (h : RowTp w w.heap.size A l) (hv : tvB l = true) (h0 : 0 ≤ k) (h1 : k ≤ 60000) :
    Calls Try.prog 25 #[.slice A n c, .int .i64 k] w fun e w' => e = .returned (.int .i64 (timeI l k)) ∧ Below w.heap.size w w' := by
  subst hn
  have hv0 := tvB_of hv
  have h8 := hv0.len8
  have HV := Lib.hid hv0
  clear hv hv0
  go_enter Try.func25, Try.ntmps25
  go_wp2
  go_loopw [5, 6, 7] (fun t i _ wr => ∃ j : Nat, j ≤ l.length ∧ i = .int .i64 j ∧ t = .int .i64 (tsum l k j) ∧ Below w.heap.size w wr) (fun _ i _ _ => l.length - (intOf i).toNat)
  case atStart => exact ⟨0, Nat.zero_le _, rfl, rfl, bel_refl _⟩
  case round =>
    obtain ⟨j, hj, rfl, rfl, hb⟩ := hrel
    have bd := HV.out.sum_bd k h0 h1 j hj
    by_cases hlt : j < l.length
    · obtain ⟨b, off, rfl, hlb, hc⟩ := (h.below hb) (by omega)
      have bt := HV.out.term_bd k h0 h1 j hlt
      have ht := HV.out.tick j hlt
      obtain ⟨o0, o1, o2, _⟩ := HV.out.ok j hlt
      have hjl : (j : Int) < (l.length : Int) := by omega
      have hj0 : (0 : Int) ≤ (j : Int) := by omega
      by_cases hn1 : j + 1 < l.length
      · have hcn := (hc (j + 1) hn1).1
        have hcj := hc j hlt
        have htn := HV.out.tick (j + 1) hn1
        have HT : Hid (tsum l k (j + 1) = tsum l k j + max 0 (min k (atTp l (j + 1)).tick - (atTp l j).tick) * (atTp l j).micros) := by show tsum l k j + _ = _; unfold termT endT; rw [if_pos hn1]
        have bm := mul_bd (x := max 0 (min k (atTp l (j + 1)).tick - (atTp l j).tick)) (y := (atTp l j).micros) (a := 60000) (b := 100000) (by omega) (by omega) (by omega) (by omega)
        have hn2 : (j : Int) + 1 < (l.length : Int) := by omega
        clear hc h bt
        generalize atTp l j = t at hcj ht o0 o1 o2 HT bm
        generalize (atTp l (j + 1)).tick = nx at hcn htn HT bm
        generalize hS : tsum l k j = s at bd HT ⊢
        have HS := Lib.hid hS
        clear hS
        obtain ⟨p0, p1⟩ := hcj
        obtain ⟨tick, micros⟩ := t
        simp only at p0 p1 ht o0 o1 o2 HT bm
        go_wp2
        all_goals
          go_big_quiet (fail)
          go_wp2
          go_roundw
          case rel => exact ⟨j + 1, by omega, by go_num, by rw [HT.out]; exact congrArg _ (wr_in _ _ _ _ (by split <;> omega) (by omega) (by omega) (by omega) (by omega)), by repeat (first | (with_reducible assumption) | (exact bel_undr (by with_reducible assumption)) | (with_reducible exact bel_refl _) | (with_reducible refine bel_dr ?_) | (with_reducible refine bel_drN ?_ _) | (with_reducible refine bel_al ?_ _) | (refine bel_set ?_ (by first | (simp; done) | (simp; exact Below.size (by assumption)) | (simp; omega)) _) | (with_reducible refine bel_tr ?_ (by assumption)))⟩
          case measure => simp [intOf]; omega
      · have hcj := hc j hlt
        have HT : Hid (tsum l k (j + 1) = tsum l k j + max 0 (k - (atTp l j).tick) * (atTp l j).micros) := by show tsum l k j + _ = _; unfold termT endT; rw [if_neg hn1]
        have bm := mul_bd (x := max 0 (k - (atTp l j).tick)) (y := (atTp l j).micros) (a := 60000) (b := 100000) (by omega) (by omega) (by omega) (by omega)
        have hn2 : ¬ (j : Int) + 1 < (l.length : Int) := by omega
        clear hc h bt
        generalize atTp l j = t at hcj ht o0 o1 o2 HT bm
        generalize hS : tsum l k j = s at bd HT ⊢
        have HS := Lib.hid hS
        clear hS
        obtain ⟨p0, p1⟩ := hcj
        obtain ⟨tick, micros⟩ := t
        simp only at p0 p1 ht o0 o1 o2 HT bm
        go_wp2
        all_goals
          go_big_quiet (fail)
          go_wp2
          go_roundw
          case rel => exact ⟨j + 1, by omega, by go_num, by rw [HT.out]; exact congrArg _ (wr_in _ _ _ _ (by split <;> omega) (by omega) (by omega) (by omega) (by omega)), by repeat (first | (with_reducible assumption) | (exact bel_undr (by with_reducible assumption)) | (with_reducible exact bel_refl _) | (with_reducible refine bel_dr ?_) | (with_reducible refine bel_drN ?_ _) | (with_reducible refine bel_al ?_ _) | (refine bel_set ?_ (by first | (simp; done) | (simp; exact Below.size (by assumption)) | (simp; omega)) _) | (with_reducible refine bel_tr ?_ (by assumption)))⟩
          case measure => simp [intOf]; omega
    · obtain rfl : j = l.length := by omega
      go_wp2
      go_ret
      exact ⟨ret_int rfl, hb⟩
end Go.Proofs.Ytaieamobjbckdaa
