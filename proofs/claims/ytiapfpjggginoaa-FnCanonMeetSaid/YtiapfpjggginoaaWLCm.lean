/- The walk of the law FnCanonMeet: for every input it returns true and turns nothing that was there. -/
import Derived.Test.YtiapfpjggginoaaCmP
import Derived.Test.YtiapfpjggginoaaSmV
import Derived.Test.YtiapfpjggginoaaDrCo
import Derived.Deep.DeepCutAuto
import Derived.Deep.RegionHeld3
namespace Go.Proofs.Ytiapfpjggginoaa.FnCanonMeet
set_option linter.unusedSimpArgs false
set_option linter.unusedVariables false
open Go.RowKit

set_option maxRecDepth 20000 in
set_option maxHeartbeats 4000000 in
theorem walk (A : Option Addr) (len cap : Nat) (w : World) (h : Cod w A len cap) :
    Calls Try.prog 9 #[.slice A len cap] w fun e w' => e = .returned (.bool true) ∧ Below w.heap.size w w' := by
  by_cases hl : len ≤ 1048576
  · go_enter Try.func9, Try.ntmps9
    go_wp2_with fail
    refine (DrawCanonOf_any w A len cap h).mono ?_
    rintro e1 w1 ⟨A1, c1, l, d, st, ha, rfl, lc, cm, l7, hr, b1⟩
    unfold maxLen at cm
    have bP : Blk (w1.alloc (.cells #[.int .i64 st, .int .i64 ha] 44)) w1.heap.size #[.int .i64 st, .int .i64 ha] 44 := Blk.new w1 _ _
    have bw := bel_al b1 (.cells #[.int .i64 st, .int .i64 ha] 44)
    have hrx := hr.below (bel_al (bel_refl w1) (.cells #[.int .i64 st, .int .i64 ha] 44))
    clear b1 hr
    have hr := hrx
    clear hrx
    obtain ⟨L, hL⟩ : ∃ L, coL l d st ha = L := ⟨_, rfl⟩
    obtain ⟨B, hB⟩ : ∃ B, coB l d st ha = B := ⟨_, rfl⟩
    have hLn : L.length ≤ 61 := by rw [← hL]; exact coL_len _ _ _ _
    obtain ⟨T, hT⟩ : ∃ T, (if vvB l = true then tsum l l.length else -1) = T := ⟨_, rfl⟩
    obtain ⟨L2, hL2⟩ : ∃ L, coL l (max 1 T) st ha = L := ⟨_, rfl⟩
    obtain ⟨B2, hB2⟩ : ∃ B, coB l (max 1 T) st ha = B := ⟨_, rfl⟩
    have hL2n : L2.length ≤ 61 := by rw [← hL2]; exact coL_len _ _ _ _
    go_upto_region 4 with fail
    generalize (w1.alloc (.cells #[.int .i64 st, .int .i64 ha] 44)) = w2 at *
    generalize w1.heap.size = P at *
    have HL := Lib.hid hL
    have HB := Lib.hid hB
    have HT := Lib.hid hT
    have HL2 := Lib.hid hL2
    have HB2 := Lib.hid hB2
    clear hL hB hT hL2 hB2
    have cP0 : w2.cell? ⟨P, 0, none⟩ = some (.int .i64 st) := (by rw [Blk.cell bP]; rfl)
    have cP1 : w2.cell? ⟨P, 1, none⟩ = some (.int .i64 ha) := (by rw [Blk.cell bP]; rfl)
    go_wp2_with fail
    refine (co_val HL.out HB.out _ _ _ _ rfl (by omega) hr).mono ?_
    rintro e3 w3 ⟨A3, c3, rfl, lc3, cm3, r3, o3, b3⟩
    have bP := bP.below b3
    have hr := hr.below b3
    have bw := bel_tr bw b3
    clear b3
    clear cP0 cP1
    clear o3
    have cP0 : w3.cell? ⟨P, 0, none⟩ = some (.int .i64 st) := (by rw [Blk.cell bP]; rfl)
    have cP1 : w3.cell? ⟨P, 1, none⟩ = some (.int .i64 ha) := (by rw [Blk.cell bP]; rfl)
    go_wp2_with fail
    refine (sco_val HL.out HB.out _ _ _ _ rfl (by omega) hr).mono ?_
    rintro e4 w4 ⟨A4, c4, rfl, lc4, cm4, r4, o4, b4⟩
    have bP := bP.below b4
    have hr := hr.below b4
    have r3 := r3.below b4
    have bw := bel_tr bw b4
    clear b4
    clear cP0 cP1
    clear o4
    go_wp2_with fail
    refine (sm_same _ _ _ _ _ _ _ rfl (by omega) r3 r4).mono ?_
    rintro e5 w5 ⟨rfl, b5⟩
    have bP := bP.below b5
    have hr := hr.below b5
    have bw := bel_tr bw b5
    clear b5
    clear r3 r4
    go_upto_region 8 with fail
    have cP0 : w5.cell? ⟨P, 0, none⟩ = some (.int .i64 st) := (by rw [Blk.cell bP]; rfl)
    have cP1 : w5.cell? ⟨P, 1, none⟩ = some (.int .i64 ha) := (by rw [Blk.cell bP]; rfl)
    go_region_held3 (fun W => W.cell? ⟨P, 0, none⟩ = some (.int .i64 st) ∧ W.cell? ⟨P, 1, none⟩ = some (.int .i64 ha) ∧ Below w.heap.size w W) (((try go_split_ands); (repeat' (with_reducible refine And.intro ?_ ?_)) <;> (first | (with_reducible assumption) | ((repeat (first | (with_reducible assumption) | (exact keep_undr (by with_reducible assumption)) | (simp [go_sem]; done) | (with_reducible refine keep_dr ?_) | (with_reducible refine keep_drN ?_ _) | (with_reducible refine keep_al ?_ _) | (refine keep_set ?_ (by first | (simp; done) | (simp; omega) | omega)) | (with_reducible refine keep_tr ?_ (by assumption)))); done) | ((repeat (first | (with_reducible assumption) | (exact bel_undr (by with_reducible assumption)) | (with_reducible exact bel_refl _) | (with_reducible refine bel_dr ?_) | (with_reducible refine bel_drN ?_ _) | (with_reducible refine bel_al ?_ _) | (refine bel_set ?_ (by first | (simp; done) | (simp; exact Below.size (by assumption)) | (simp; omega)) _) | (with_reducible refine bel_tr ?_ (by assumption)))); done) | (simp [go_sem]; done) | go_keep))) (first | (go_at_call 23; clear cP0 cP1; have b6 : Below w5.heap.size w5 w5.drew := bel_dr (bel_refl _); generalize w5.drew = w6 at *; have bP := bP.below b6; have hr := hr.below b6; have bw := bel_tr bw b6; clear b6; refine (vtI_val HT.out _ _ _ _ rfl (by omega) hr).mono ?_; rintro e7 w7 ⟨rfl, b7⟩; have bP := bP.below b7; have hr := hr.below b7; have bw := bel_tr bw b7; clear b7; have cP0 : w7.cell? ⟨P, 0, none⟩ = some (.int .i64 st) := (by rw [Blk.cell bP]; rfl); have cP1 : w7.cell? ⟨P, 1, none⟩ = some (.int .i64 ha) := (by rw [Blk.cell bP]; rfl)) | (go_at_call 33; refine (co_val HL2.out HB2.out _ _ _ _ rfl (by omega) hr).mono ?_; rintro e8 w8 ⟨A8, c8, rfl, lc8, cm8, r8, o8, b8⟩; clear cP0 cP1 o8; have bP := bP.below b8; have hr := hr.below b8; have bw := bel_tr bw b8; clear b8; have cP0 : w8.cell? ⟨P, 0, none⟩ = some (.int .i64 st) := (by rw [Blk.cell bP]; rfl); have cP1 : w8.cell? ⟨P, 1, none⟩ = some (.int .i64 ha) := (by rw [Blk.cell bP]; rfl)))
    clear cP0 cP1
    cases B2
    · go_wp2_with fail
      refine (alive_any _).mono ?_
      rintro e10 w10 ⟨rfl, b10⟩
      have bP := bP.below b10
      have bw := bel_tr bw b10
      clear b10
      go_wp2
      go_ret
      exact ⟨rfl, bw⟩
    · have HM := Lib.hid (show mfI l L2 (-1) from by
        have h9 := cm_mf HB2.out (by
          have h8 := HT.out
          have h7 := (sh_facts (co_facts HB2.out).1).1
          rw [h7, if_pos rfl] at h8
          omega)
        rw [HL2.out] at h9; exact h9)
      go_wp2_with fail
      refine (mf_val HM.out _ _ _ _ _ _ _ rfl (by omega) hr rfl (by omega) r8).mono ?_
      rintro e9 w9 ⟨rfl, b9⟩
      have bP := bP.below b9
      have bw := bel_tr bw b9
      clear b9
      go_wp2_with fail
      refine (alive_any _).mono ?_
      rintro e10 w10 ⟨rfl, b10⟩
      have bP := bP.below b10
      have bw := bel_tr bw b10
      clear b10
      go_wp2
      go_ret
      exact ⟨rfl, bw⟩
  · have hl2 : (1048576 : Int) < (len : Int) := by omega
    go_enter Try.func9, Try.ntmps9
    go_wp2
    go_ret
    exact ⟨rfl, bel_refl _⟩

end Go.Proofs.Ytiapfpjggginoaa.FnCanonMeet
