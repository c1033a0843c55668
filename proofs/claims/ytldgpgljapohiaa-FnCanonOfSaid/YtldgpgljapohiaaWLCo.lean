/- The walk of the law FnCanonOf: for every input it returns true and turns nothing that was there. -/
import Derived.Test.YtldgpgljapohiaaCoV
import Derived.Test.YtldgpgljapohiaaDrCo
import Derived.Deep.DeepCutAuto
namespace Go.Proofs.Ytldgpgljapohiaa.FnCanonOf
set_option linter.unusedSimpArgs false
set_option linter.unusedVariables false
open Go.RowKit

set_option maxRecDepth 20000 in
set_option maxHeartbeats 4000000 in
theorem walk (A : Option Addr) (len cap : Nat) (w : World) (h : Cod w A len cap) :
    Calls Try.prog 3 #[.slice A len cap] w fun e w' => e = .returned (.bool true) ∧ Below w.heap.size w w' := by
  by_cases hl : len ≤ 1048576
  · go_enter Try.func3, Try.ntmps3
    go_wp2_with fail
    refine (DrawCanonOf_any w A len cap h).mono ?_
    rintro e1 w1 ⟨A1, c1, l, d, st, ha, rfl, lc, cm, l7, hr, b1⟩
    unfold maxLen at cm
    have bP : Blk (w1.alloc (.cells #[.int .i64 st, .int .i64 ha] 25)) w1.heap.size #[.int .i64 st, .int .i64 ha] 25 := Blk.new w1 _ _
    have bw := bel_al b1 (.cells #[.int .i64 st, .int .i64 ha] 25)
    have hrx := hr.below (bel_al (bel_refl w1) (.cells #[.int .i64 st, .int .i64 ha] 25))
    clear b1 hr
    have hr := hrx
    clear hrx
    obtain ⟨L, hL⟩ : ∃ L, coL l d st ha = L := ⟨_, rfl⟩
    have hLn : L.length ≤ 61 := by rw [← hL]; exact coL_len _ _ _ _
    go_upto_region 4 with fail
    generalize (w1.alloc (.cells #[.int .i64 st, .int .i64 ha] 25)) = w2 at *
    generalize w1.heap.size = P at *
    cases hB : coB l d st ha
    · obtain rfl : L = [] := by rw [← hL]; unfold coL; rw [hB]; rfl
      clear hLn
      have HL := Lib.hid hL
      have HB := Lib.hid hB
      clear hL hB
      have cP0 : w2.cell? ⟨P, 0, none⟩ = some (.int .i64 st) := by rw [Blk.cell bP]; rfl
      have cP1 : w2.cell? ⟨P, 1, none⟩ = some (.int .i64 ha) := by rw [Blk.cell bP]; rfl
      go_wp2_with fail
      refine (co_val HL.out HB.out _ _ _ _ rfl (by omega) hr).mono ?_
      rintro e3 w3 ⟨A3, c3, rfl, lc3, cm3, r3, o3, b3⟩
      have bP := bP.below b3
      have hr := hr.below b3
      have bw := bel_tr bw b3
      clear b3
      clear cP0 cP1
      clear o3
      have cP0 : w3.cell? ⟨P, 0, none⟩ = some (.int .i64 st) := by rw [Blk.cell bP]; rfl
      have cP1 : w3.cell? ⟨P, 1, none⟩ = some (.int .i64 ha) := by rw [Blk.cell bP]; rfl
      go_wp2_with fail
      refine (sco_val HL.out HB.out _ _ _ _ rfl (by omega) hr).mono ?_
      rintro e4 w4 ⟨A4, c4, rfl, lc4, cm4, r4, o4, b4⟩
      have bP := bP.below b4
      have hr := hr.below b4
      have r3 := r3.below b4
      have bw := bel_tr bw b4
      clear b4
      clear cP0 cP1
      clear o4
      go_wp2_with fail
      refine (sm_same _ _ _ _ _ _ _ rfl (by simp) r3 r4).mono ?_
      rintro e5 w5 ⟨rfl, b5⟩
      have bP := bP.below b5
      have hr := hr.below b5
      have r3 := r3.below b5
      have bw := bel_tr bw b5
      clear b5
      go_wp2_with fail
      refine (alive_any _).mono ?_
      rintro e6 w6 ⟨rfl, b6⟩
      have bP := bP.below b6
      have bw := bel_tr bw b6
      clear b6
      go_wp2
      go_ret
      exact ⟨rfl, bw⟩
    · obtain ⟨t1, t2, t3, t4, t5, t6, t7⟩ := co_tail hB hL
      have HL := Lib.hid hL
      have HB := Lib.hid hB
      obtain ⟨M, hM⟩ : ∃ M, shL l st ha = M := ⟨_, rfl⟩
      rw [hM] at t1 t2 t4
      have HM := Lib.hid hM
      have T1 := Lib.hid t1
      have T2 := Lib.hid t2
      have T3 := Lib.hid t3
      have T4 := Lib.hid t4
      have T5 := Lib.hid t5
      have T6 := Lib.hid t6
      have T7 := Lib.hid t7
      have hMn : M.length ≤ 60 := by omega
      clear hL hB hM t1 t2 t3 t4 t5 t6 t7
      have cP0 : w2.cell? ⟨P, 0, none⟩ = some (.int .i64 st) := by rw [Blk.cell bP]; rfl
      have cP1 : w2.cell? ⟨P, 1, none⟩ = some (.int .i64 ha) := by rw [Blk.cell bP]; rfl
      go_wp2_with fail
      refine (co_val HL.out HB.out _ _ _ _ rfl (by omega) hr).mono ?_
      rintro e3 w3 ⟨A3, c3, rfl, lc3, cm3, r3, o3, b3⟩
      have bP := bP.below b3
      have hr := hr.below b3
      have bw := bel_tr bw b3
      clear b3
      clear cP0 cP1
      clear o3
      have cP0 : w3.cell? ⟨P, 0, none⟩ = some (.int .i64 st) := by rw [Blk.cell bP]; rfl
      have cP1 : w3.cell? ⟨P, 1, none⟩ = some (.int .i64 ha) := by rw [Blk.cell bP]; rfl
      go_wp2_with fail
      refine (sco_val HL.out HB.out _ _ _ _ rfl (by omega) hr).mono ?_
      rintro e4 w4 ⟨A4, c4, rfl, lc4, cm4, r4, o4, b4⟩
      have bP := bP.below b4
      have hr := hr.below b4
      have r3 := r3.below b4
      have bw := bel_tr bw b4
      clear b4
      clear cP0 cP1
      clear o4
      go_wp2_with fail
      refine (sm_same _ _ _ _ _ _ _ rfl (by omega) r3 r4).mono ?_
      rintro e5 w5 ⟨rfl, b5⟩
      have bP := bP.below b5
      have hr := hr.below b5
      have r3 := r3.below b5
      have bw := bel_tr bw b5
      clear b5
      have cP0 : w5.cell? ⟨P, 0, none⟩ = some (.int .i64 st) := by rw [Blk.cell bP]; rfl
      have cP1 : w5.cell? ⟨P, 1, none⟩ = some (.int .i64 ha) := by rw [Blk.cell bP]; rfl
      go_wp2_with fail
      refine (sh_val HM.out T5.out _ _ _ _ rfl (by omega) hr).mono ?_
      rintro e6 w6 ⟨A6, c6, rfl, lc6, cm6, r6, o6, b6⟩
      have bP := bP.below b6
      have hr := hr.below b6
      have r3 := r3.below b6
      have bw := bel_tr bw b6
      clear b6
      clear cP0 cP1
      clear o6
      go_wp2_with fail
      refine (vv_val T6.out _ _ _ _ rfl (by omega) r3).mono ?_
      rintro e7 w7 ⟨rfl, b7⟩
      have bP := bP.below b7
      have hr := hr.below b7
      have r3 := r3.below b7
      have r6 := r6.below b7
      have bw := bel_tr bw b7
      clear b7
      obtain ⟨b, off, rfl, hlb, hc⟩ := r3 (by have := T1.out; omega)
      have hc0 := hc 0 (by have := T1.out; omega)
      rw [T3.out] at hc0
      simp only [Nat.zero_mul, Nat.add_zero] at hc0
      obtain ⟨p0, p1, p2, p3, p4, p5⟩ := hc0
      clear hc
      have rM := rowNt_drop r3
      rw [T2.out] at rM
      have hle : (L.length : Int) = (l.length : Int) + 1 := by have := T1.out; have := T4.out; omega
      have hlp : (0 : Int) < (L.length : Int) := by omega
      have hl1 : (1 : Int) ≤ (L.length : Int) := by omega
      have hl2 : (L.length : Int) ≤ (c3 : Int) := by omega
      go_wp2_with fail
      all_goals
        rw [show L.length - 1 = M.length from by have := T1.out; omega]
        refine (sm_same (some _) A6 M.length _ c6 M _ rfl (by omega) (by first | exact rM | exact RowNt.nil _ _ _ (by have := T1.out; omega)) r6).mono ?_
        rintro e8 w8 ⟨rfl, b8⟩
        have bP := bP.below b8
        have hr := hr.below b8
        have r3 := r3.below b8
        have bw := bel_tr bw b8
        clear b8
        go_wp2_with fail
        refine (ic_any _ _ _ _ _ _ l L _ rfl rfl (by omega) (by omega) hr r3).mono ?_
        rintro e9 w9 ⟨v9, rfl, h9, b9⟩
        obtain rfl : v9 = true := h9.2 T7.out
        have bw := bel_tr bw b9
        go_wp2
        go_ret
        exact ⟨rfl, bw⟩
  · have hl2 : (1048576 : Int) < (len : Int) := by omega
    go_enter Try.func3, Try.ntmps3
    go_wp2
    go_ret
    exact ⟨rfl, bel_refl _⟩

end Go.Proofs.Ytldgpgljapohiaa.FnCanonOf
