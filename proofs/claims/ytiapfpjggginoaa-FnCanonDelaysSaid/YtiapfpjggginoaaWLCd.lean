/- The walk of the law FnCanonDelays: for every input it returns true and turns nothing that was there. -/
import Derived.Test.YtiapfpjggginoaaCdP
import Derived.Test.YtiapfpjggginoaaDrCd
import Derived.Test.YtiapfpjggginoaaVts
import Derived.Deep.DeepCutAuto
import Derived.Deep.RegionHeld3
namespace Go.Proofs.Ytiapfpjggginoaa.FnCanonDelays
set_option linter.unusedSimpArgs false
set_option linter.unusedVariables false
open Go.RowKit

set_option maxRecDepth 20000 in
set_option maxHeartbeats 4000000 in
theorem walk (A : Option Addr) (len cap : Nat) (w : World) (h : Cod w A len cap) :
    Calls Try.prog 8 #[.slice A len cap] w fun e w' => e = .returned (.bool true) ∧ Below w.heap.size w w' := by
  by_cases hl : len ≤ 1048576
  · go_enter Try.func8, Try.ntmps8
    go_wp2_with fail
    refine (DrawCanonDelays_any w A len cap h).mono ?_
    rintro e1 w1 ⟨A1, c1, l, g, st, ha, rfl, lc, cm, l7, hr, b1⟩
    unfold maxLen at cm
    have bP : Blk (w1.alloc (.cells #[.int .i64 st, .int .i64 ha] 44)) w1.heap.size #[.int .i64 st, .int .i64 ha] 44 := Blk.new w1 _ _
    have bw := bel_al b1 (.cells #[.int .i64 st, .int .i64 ha] 44)
    have hrx := hr.below (bel_al (bel_refl w1) (.cells #[.int .i64 st, .int .i64 ha] 44))
    clear b1 hr
    have hr := hrx
    clear hrx
    obtain ⟨L, hL⟩ : ∃ L, cdL l g st ha = L := ⟨_, rfl⟩
    have hLn : L.length ≤ 768 := by rw [← hL]; exact cdL_len _ _ _ _
    go_upto_region 4 with fail
    generalize (w1.alloc (.cells #[.int .i64 st, .int .i64 ha] 44)) = w2 at *
    generalize w1.heap.size = P at *
    have HL := Lib.hid hL
    clear hL
    have cP0 : w2.cell? ⟨P, 0, none⟩ = some (.int .i64 st) := (by rw [Blk.cell bP]; rfl)
    have cP1 : w2.cell? ⟨P, 1, none⟩ = some (.int .i64 ha) := (by rw [Blk.cell bP]; rfl)
    go_wp2_with fail
    refine (cdi_q HL.out _ _ _ _ rfl (by omega) hr).mono ?_
    rintro e3 w3 ⟨Ax, cx, rfl, lcx, cmx, rx, _, b3⟩
    have bP := bP.below b3
    have hr := hr.below b3
    have bw := bel_tr bw b3
    clear b3
    clear cP0 cP1
    have cP0 : w3.cell? ⟨P, 0, none⟩ = some (.int .i64 st) := (by rw [Blk.cell bP]; rfl)
    have cP1 : w3.cell? ⟨P, 1, none⟩ = some (.int .i64 ha) := (by rw [Blk.cell bP]; rfl)
    go_wp2_with fail
    refine (scd_q HL.out _ _ _ _ rfl (by omega) hr).mono ?_
    rintro e4 w4 ⟨Ay, cy, rfl, lcy, cmy, ry, _, b4⟩
    have bP := bP.below b4
    have hr := hr.below b4
    have rx := rx.below b4
    have bw := bel_tr bw b4
    clear b4
    clear cP0 cP1
    go_wp2_with fail
    refine (sameIn_same _ _ _ _ _ L _ rfl (by omega) rx ry).mono ?_
    rintro e5 w5 ⟨rfl, b5⟩
    have bP := bP.below b5
    have hr := hr.below b5
    have rx := rx.below b5
    have bw := bel_tr bw b5
    clear b5
    clear ry
    go_wp2
    go_loopw [7, 8, 9] (fun i _ _ wr => ∃ k : Nat, k ≤ L.length ∧ i = .int .i64 k ∧ RowNt wr wr.heap.size A1 l ∧ RowIn wr wr.heap.size Ax L ∧ Blk wr P #[.int .i64 st, .int .i64 ha] 44 ∧ Below w.heap.size w wr) (fun i _ _ _ => L.length - (intOf i).toNat)
    case atStart => exact ⟨0, Nat.zero_le _, rfl, hr, rx, bP, bw⟩
    case round =>
      clear hr rx bP bw
      obtain ⟨k, hk, rfl, hr, rx, bP, bw⟩ := hrel
      by_cases hlt : k < L.length
      · obtain ⟨b, off, rfl, hlb, hc⟩ := rx (by omega)
        have px := hc k hlt
        have CV := cd_at HL.out hlt
        have HLT := Lib.hid (fun (j : Nat) (hj : k = j + 1) => cd_lt HL.out (k := j) (by omega))
        have HC := Lib.hid hc
        clear hc
        obtain ⟨hv, g1, g2, x1, x2, xT, md, co, mf⟩ := CV
        obtain ⟨T, hT⟩ : ∃ z, tsum l l.length = z := ⟨_, rfl⟩
        rw [hT] at xT
        obtain ⟨x, hx⟩ : ∃ z, atIn L k = z := ⟨_, rfl⟩
        rw [hx] at px x1 x2 xT md co mf
        have HX := Lib.hid hx
        obtain ⟨L2, hL2⟩ : ∃ z, coL l x st ha = z := ⟨_, rfl⟩
        have hL2n : L2.length ≤ 61 := by rw [← hL2]; exact coL_len _ _ _ _
        rw [hL2] at mf
        have HL2 := Lib.hid hL2
        have HT := Lib.hid hT
        have HV := Lib.hid hv
        have HCO := Lib.hid co
        have HMF := Lib.hid mf
        clear hx hL2 hT hv co mf
        have g0 : ¬ g = 0 := by omega
        have g00 : (g == 0) = false := by simpa using g0
        have xT2 : ¬ T ≤ x := by omega
        have hk0 : (0 : Int) ≤ (k : Int) := by omega
        have hkl : (k : Int) < (L.length : Int) := by omega
        have cP0 : wr.cell? ⟨P, 0, none⟩ = some (.int .i64 st) := (by rw [Blk.cell bP]; rfl)
        have cP1 : wr.cell? ⟨P, 1, none⟩ = some (.int .i64 ha) := (by rw [Blk.cell bP]; rfl)
        go_wp2_with fail
        go_region_held3 (fun W => W.cell? ⟨P, 0, none⟩ = some (.int .i64 st) ∧ W.cell? ⟨P, 1, none⟩ = some (.int .i64 ha) ∧ W.cell? ⟨b, off + k, none⟩ = some (.int .i64 x) ∧ Below w.heap.size w W) (((try go_split_ands); (repeat' (with_reducible refine And.intro ?_ ?_)) <;> (first | (with_reducible assumption) | ((repeat (first | (with_reducible assumption) | (exact keep_undr (by with_reducible assumption)) | (simp [go_sem]; done) | (with_reducible refine keep_dr ?_) | (with_reducible refine keep_drN ?_ _) | (with_reducible refine keep_al ?_ _) | (refine keep_set ?_ (by first | (simp; done) | (simp; omega) | omega)) | (with_reducible refine keep_tr ?_ (by assumption)))); done) | ((repeat (first | (with_reducible assumption) | (exact bel_undr (by with_reducible assumption)) | (with_reducible exact bel_refl _) | (with_reducible refine bel_dr ?_) | (with_reducible refine bel_drN ?_ _) | (with_reducible refine bel_al ?_ _) | (refine bel_set ?_ (by first | (simp; done) | (simp; exact Below.size (by assumption)) | (simp; omega)) _) | (with_reducible refine bel_tr ?_ (by assumption)))); done) | (simp [go_sem]; done) | go_keep))) ((go_at_call 33; clear cP0 cP1; have b6 : Below wr.heap.size wr wr.drew := bel_dr (bel_refl _); generalize wr.drew = w6 at *; have bP := bP.below b6; have hr := hr.below b6; have rx := rx.below b6; have px := keep_tr px b6; have bw := bel_tr bw b6; clear b6; refine (co_val HL2.out HCO.out _ _ _ _ rfl (by omega) hr).mono ?_; rintro e8 w8 ⟨A8, c8, rfl, lc8, cm8, r8, o8, b8⟩; clear o8; have bP := bP.below b8; have hr := hr.below b8; have rx := rx.below b8; have px := keep_tr px b8; have bw := bel_tr bw b8; clear b8; have cP0 : w8.cell? ⟨P, 0, none⟩ = some (.int .i64 st) := (by rw [Blk.cell bP]; rfl); have cP1 : w8.cell? ⟨P, 1, none⟩ = some (.int .i64 ha) := (by rw [Blk.cell bP]; rfl)))
        by_cases hkz : k = 0
        · subst hkz
          rw [Nat.add_zero] at px
          rw [show ((0 : Nat) : Int) = 0 from rfl]
          go_upto_region 11 with fail
          clear cP0 cP1
          have LM : ∀ xL : Later w8, Calls Try.prog 26 #[.slice A1 l.length c1, .slice A8 L2.length c8] xL.world fun e w'' => e = .returned (.int .i64 (-1)) ∧ ∃ z : Later w8, w'' = z.world := fun xL => later_call (mf_val HMF.out _ _ _ _ _ _ _ rfl (by omega) (hr.below xL.bel) rfl (by omega) (r8.below xL.bel))
          have LV : ∀ xL : Later w8, Calls Try.prog 23 #[.slice A1 l.length c1] xL.world fun e w'' => e = .returned (.int .i64 T) ∧ ∃ z : Later w8, w'' = z.world := fun xL => later_call (vtk_val HT.out _ _ _ _ rfl (by omega) HV.out (hr.below xL.bel))
          have lf0 : ∀ xL : Later w8, xL.world.cell? ⟨b, off, none⟩ = some (.int .i64 x) := fun xL => xL.at (px)
          refine region_later (w0 := w8) (by kernel_rfl) (by kernel_rfl) (bel_refl _) ?_
          repeat (go_big_quiet_step ((first | (go_at_call 26; with_reducible exact LM _) | (go_at_call 23; with_reducible exact LV _))))
          refine wpQuiet_nil ?_
          rintro w' ⟨x, rfl⟩
          obtain ⟨w12, b12⟩ := x
          clear lf0
          clear LM LV
          go_wp2
          go_roundw
          case rel => exact ⟨0 + 1, by omega, by go_num, hr.below b12, rx.below b12, bP.below b12, bel_tr bw b12⟩
          case measure => simp [intOf]; omega
        · obtain ⟨j, hj⟩ : ∃ j : Nat, k = j + 1 := ⟨k - 1, by omega⟩
          have hst : atIn L j < x := by have h9 := HLT.out j hj; rw [← hj, HX.out] at h9; exact h9
          obtain ⟨b9, off9, e9, _, hc9⟩ := rx (by omega)
          cases e9
          have py := hc9 j (by omega)
          clear hc9
          generalize atIn L j = y at *
          have hkj : (k : Int) - 1 = (j : Int) := by omega
          have hkp : (0 : Int) < (k : Int) := by omega
          have hkp2 : 0 < k := by omega
          have hj0 : (0 : Int) ≤ (j : Int) := by omega
          have hjl : (j : Int) < (L.length : Int) := by omega
          have hyx : ¬ x ≤ y := by omega
          clear hj
          go_upto_region 11 with fail
          clear cP0 cP1
          have LM : ∀ xL : Later w8, Calls Try.prog 26 #[.slice A1 l.length c1, .slice A8 L2.length c8] xL.world fun e w'' => e = .returned (.int .i64 (-1)) ∧ ∃ z : Later w8, w'' = z.world := fun xL => later_call (mf_val HMF.out _ _ _ _ _ _ _ rfl (by omega) (hr.below xL.bel) rfl (by omega) (r8.below xL.bel))
          have LV : ∀ xL : Later w8, Calls Try.prog 23 #[.slice A1 l.length c1] xL.world fun e w'' => e = .returned (.int .i64 T) ∧ ∃ z : Later w8, w'' = z.world := fun xL => later_call (vtk_val HT.out _ _ _ _ rfl (by omega) HV.out (hr.below xL.bel))
          have lf0 : ∀ xL : Later w8, xL.world.cell? ⟨b, off + k, none⟩ = some (.int .i64 x) := fun xL => xL.at (px)
          have lf1 : ∀ xL : Later w8, xL.world.cell? ⟨b, off + j, none⟩ = some (.int .i64 y) := fun xL => xL.at (py)
          refine region_later (w0 := w8) (by kernel_rfl) (by kernel_rfl) (bel_refl _) ?_
          repeat (go_big_quiet_step ((first | (go_at_call 26; with_reducible exact LM _) | (go_at_call 23; with_reducible exact LV _))))
          refine wpQuiet_nil ?_
          rintro w' ⟨x, rfl⟩
          obtain ⟨w12, b12⟩ := x
          clear lf0 lf1
          clear LM LV
          go_wp2
          go_roundw
          case rel => exact ⟨k + 1, by omega, by go_num, hr.below b12, rx.below b12, bP.below b12, bel_tr bw b12⟩
          case measure => simp [intOf]; omega
      · obtain rfl : k = L.length := by omega
        go_wp2_with fail
        refine (alive_any _).mono ?_
        rintro e9 w9 ⟨rfl, b9⟩
        have bw := bel_tr bw b9
        go_wp2
        go_ret
        exact ⟨rfl, bw⟩
  · have hl2 : (1048576 : Int) < (len : Int) := by omega
    go_enter Try.func8, Try.ntmps8
    go_wp2
    go_ret
    exact ⟨rfl, bel_refl _⟩

end Go.Proofs.Ytiapfpjggginoaa.FnCanonDelays
