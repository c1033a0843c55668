/- The walk of the law FnRealizeBass: for every input it returns true and turns nothing that was there. -/
import Derived.Test.YtpjakgnghpapmaaRzQ
import Derived.Test.YtpjakgnghpapmaaDrFi
import Derived.Test.YtpjakgnghpapmaaRfV
import Derived.Test.YtpjakgnghpapmaaSpP
import Derived.Test.YtpjakgnghpapmaaBa
namespace Go.Proofs.Ytpjakgnghpapmaa.FnRealizeBass
set_option linter.unusedSimpArgs false
set_option linter.unusedVariables false
open Go.RowKit

set_option maxRecDepth 20000 in
set_option maxHeartbeats 4000000 in
theorem walk (A : Option Addr) (len cap : Nat) (w : World) (h : Cod w A len cap) :
    Calls Try.prog 8 #[.slice A len cap] w fun e w' => e = .returned (.bool true) ∧ Below w.heap.size w w' := by
  by_cases hl : len ≤ 1048576
  · go_enter Try.func8, Try.ntmps8
    go_wp2_with fail
    refine (DrawRealizeBass_any w A len cap h).mono ?_
    rintro e1 w1 ⟨f, A1, c1, bs, A2, c2, gs, rfl, hf, hb3, hg4, hik, lc1, cm1, lc2, cm2, hr1, hr2, bw⟩
    unfold maxLen at cm1 cm2
    clear hik hf
    cases hO : rbI f bs gs with
    | none =>
      have HL := Lib.hid (show (rbI f bs gs).getD [] = [] from by rw [hO]; rfl)
      have HB := Lib.hid (show (rbI f bs gs).isSome = false from by rw [hO]; rfl)
      clear hO
      go_wp2_with fail
      refine (rbq_val HL.out HB.out _ _ _ _ _ _ _ rfl rfl (by omega) (by omega) hr1 hr2).mono ?_
      rintro e2 w2 ⟨A3, c3, rfl, lc3, cm3, hx, b2⟩
      replace hr1 := hr1.below b2
      replace hr2 := hr2.below b2
      replace bw := bel_tr bw b2
      clear b2
      have hx := hx.row
      go_wp2_with fail
      refine (srbw_val HL.out HB.out _ _ _ _ _ _ _ rfl rfl (by omega) (by omega) hr1 hr2).mono ?_
      rintro e3 w3 ⟨A4, c4, rfl, lc4, cm4, hy, b3⟩
      replace hr1 := hr1.below b3
      replace hr2 := hr2.below b3
      replace hx := hx.below b3
      replace bw := bel_tr bw b3
      clear b3
      rw [show ([] : List (List Pi)).length = 0 from rfl]
      go_wp2_with fail
      refine (alive_any _).mono ?_
      rintro e4 w4 ⟨rfl, b4⟩
      replace bw := bel_tr bw b4
      clear b4
      go_wp2
      go_ret
      exact ⟨rfl, bw⟩
    | some L =>
      have HO := Lib.hid hO
      have HL := Lib.hid (show (rbI f bs gs).getD [] = L from by rw [hO]; rfl)
      have HB := Lib.hid (show (rbI f bs gs).isSome = true from by rw [hO]; rfl)
      have HLB := Lib.hid (rb_len hO)
      have hL8 : L.length ≤ 8 := (rb_small HL.out).1
      have HBG : Hid (∀ i, i < L.length → (atPP L i).length ≤ 2000000) := fun i hi => by rw [rb_four HO.out i hi]; omega
      clear hO
      go_wp2_with fail
      refine (rbq_val HL.out HB.out _ _ _ _ _ _ _ rfl rfl (by omega) (by omega) hr1 hr2).mono ?_
      rintro e2 w2 ⟨A3, c3, rfl, lc3, cm3, hx, b2⟩
      replace hr1 := hr1.below b2
      replace hr2 := hr2.below b2
      replace bw := bel_tr bw b2
      clear b2
      have hx := hx.row
      go_wp2_with fail
      refine (srbw_val HL.out HB.out _ _ _ _ _ _ _ rfl rfl (by omega) (by omega) hr1 hr2).mono ?_
      rintro e3 w3 ⟨A4, c4, rfl, lc4, cm4, hy, b3⟩
      replace hr1 := hr1.below b3
      replace hr2 := hr2.below b3
      replace hx := hx.below b3
      replace bw := bel_tr bw b3
      clear b3
      unfold maxLen at cm3 cm4
      go_wp2_with fail
      obtain ⟨wq, hwq⟩ : ∃ q : World, q = w3 := ⟨_, rfl⟩
      rw [← hwq] at hr1 hr2 hx hy bw ⊢
      clear hwq
      go_loopw [10] (fun i wr => ∃ k : Nat, k ≤ L.length ∧ i = .int .i64 k ∧ Below wq.heap.size wq wr) (fun i _ => L.length - (intOf i).toNat)
      case atStart => exact ⟨0, Nat.zero_le _, rfl, bel_refl _⟩
      case round =>
        obtain ⟨k, hk, rfl, hb⟩ := hrel
        by_cases hlt : k < L.length
        · obtain ⟨lb, lo, rfl, hlb, hlc⟩ := (hx.below hb) (by omega)
          obtain ⟨Ax, cx, x0, xl, xm, xr⟩ := hlc k hlt
          obtain ⟨mb, mo, rfl, hmb, hmc⟩ := (hy.below hb) (by omega)
          obtain ⟨Ay, cy, y0, yl, ym, yr⟩ := hmc k hlt
          have hkl : (k : Int) < (L.length : Int) := by omega
          have hk0 : (0 : Int) ≤ (k : Int) := by omega
          have hx4 := rb_four HO.out k hlt
          obtain ⟨x, hX⟩ : ∃ x, atPP L k = x := ⟨_, rfl⟩
          rw [hX] at x0 xl xr y0 yl yr hx4
          rw [hx4] at x0 y0 xl yl
          have HX4 := Lib.hid hx4
          clear hlc hmc hX hx4
          go_upto_region 13 with fail
          have LM : ∀ xL : Later wr, Calls Try.prog 37 #[.slice Ax 4 cx, .slice Ay 4 cy] xL.world fun e w'' => e = .returned (.bool true) ∧ ∃ z : Later wr, w'' = z.world := fun xL => later_call (by have q := sp_same Ax Ay 4 cx cy x xL.world HX4.out (by omega) (xr.below xL.bel) (yr.below xL.bel); exact q)
          have lf0 : ∀ xL : Later wr, xL.world.cell? ⟨lb, lo + k, none⟩ = some (.slice Ax 4 cx) := fun xL => xL.at (x0)
          have lf1 : ∀ xL : Later wr, xL.world.cell? ⟨mb, mo + k, none⟩ = some (.slice Ay 4 cy) := fun xL => xL.at (y0)
          refine region_later (w0 := wr) (by kernel_rfl) (by kernel_rfl) (bel_refl _) ?_
          repeat (go_big_quiet_step ((first | (go_at_call 37; with_reducible exact LM _))))
          refine wpQuiet_nil ?_
          rintro w' ⟨x, rfl⟩
          obtain ⟨w9, b9⟩ := x
          clear lf0 lf1
          clear LM
          have hb9 := bel_tr hb b9
          go_wp2
          go_roundw
          case rel => exact ⟨k + 1, by omega, by go_num, hb9⟩
          case measure => simp [intOf]; omega
        · obtain rfl : k = L.length := by omega
          replace bw := bel_tr bw hb
          replace hr1 := hr1.below hb
          replace hr2 := hr2.below hb
          replace hx := hx.below hb
          have hlb : ((L.length : Int) == (bs.length : Int)) = true := beq_iff_eq.2 (by have := HLB.out; omega)
          clear hb hy
          go_wp2_with fail
          refine (pf_val (rb_parts HO.out) _ _ _ _ rfl (by omega) hx HBG.out).mono ?_
          rintro e5 w5 ⟨A5, c5, rfl, lc5, cm5, h5, o5, b5⟩
          replace hr1 := hr1.below b5
          replace hr2 := hr2.below b5
          replace hx := hx.below b5
          replace bw := bel_tr bw b5
          clear b5 o5 h5
          rw [show ([] : List Fa).length = 0 from rfl]
          go_wp2_with fail
          refine (rf_val (rb_right HO.out) _ _ _ _ _ _ _ _ _ _ rfl rfl rfl (by omega) (by omega) (by omega) hr1 hr2 hx HBG.out).mono ?_
          rintro e6 w6 ⟨rfl, b6⟩
          replace bw := bel_tr bw b6
          clear b6
          go_wp2
          go_ret
          exact ⟨rfl, bw⟩
  · have hl2 : (1048576 : Int) < (len : Int) := by omega
    go_enter Try.func8, Try.ntmps8
    go_wp2
    go_ret
    exact ⟨rfl, bel_refl _⟩

end Go.Proofs.Ytpjakgnghpapmaa.FnRealizeBass
