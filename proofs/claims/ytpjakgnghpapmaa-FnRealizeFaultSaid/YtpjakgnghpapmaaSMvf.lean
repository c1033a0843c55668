/- Four voices: the faults of a move; of the reference. -/
import Derived.Test.YtpjakgnghpapmaaMvf
namespace Go.Proofs.Ytpjakgnghpapmaa
set_option linter.unusedSimpArgs false
set_option linter.unusedVariables false
open Go.RowKit

set_option maxRecDepth 20000 in
set_option maxHeartbeats 8000000 in
theorem smvf_any (A A' : Option Addr) (n n' c c' : Nat) (a b : List Pi) (w : World) (hn : a.length = n) (hn' : b.length = n') (hm : n ≤ 2000000) (hm' : n' ≤ 2000000) (ha : RowPi w w.heap.size A a) (hb' : RowPi w w.heap.size A' b) :
    Calls Try.prog 40 #[.slice A n c, .slice A' n' c'] w fun e w' => e = .returned (.int .i64 (mvF a b)) ∧ Below w.heap.size w w' := by
  by_cases hla : a.length = 4
  · obtain rfl : n = 4 := by omega
    by_cases hlb : b.length = 4
    · obtain rfl : n' = 4 := by omega
      have HLA := Lib.hid hla
      have HLB := Lib.hid hlb
      clear hla hlb hn hn'
      go_enter Try.func40, Try.ntmps40
      go_wp2
      go_loopw [5] (fun q wr => ∃ k : Nat, k ≤ 4 ∧ q = .int .i64 k ∧ Below w.heap.size w wr ∧ Hid (∀ j, j < k → pvP (atPi a j) ∧ pvP (atPi b j))) (fun q _ => 4 - (intOf q).toNat)
      case atStart => exact ⟨0, by omega, rfl, bel_refl _, fun j hj => absurd hj (by omega)⟩
      case round =>
        obtain ⟨k, hk4, rfl, hb, HK⟩ := hrel
        by_cases hlt : k < 4
        · have hkl : (k : Int) < 4 := by omega
          have hk0 : (0 : Int) ≤ (k : Int) := by omega
          obtain ⟨ba, oa, rfl, hla, hca⟩ := (ha.below hb) (by have := HLA.out; omega)
          obtain ⟨bb, ob, rfl, hlb, hcb⟩ := (hb'.below hb) (by have := HLB.out; omega)
          have cx := hca k (by have := HLA.out; omega)
          have cy := hcb k (by have := HLB.out; omega)
          clear hca hcb
          obtain ⟨x, hX⟩ : ∃ x, atPi a k = x := ⟨_, rfl⟩
          rw [hX] at cx
          obtain ⟨y, hY⟩ : ∃ y, atPi b k = y := ⟨_, rfl⟩
          rw [hY] at cy
          obtain ⟨v, hv⟩ : ∃ v, pvB x.step x.alter x.octave = v := ⟨_, rfl⟩
          obtain ⟨u, hu⟩ : ∃ v, pvB y.step y.alter y.octave = v := ⟨_, rfl⟩
          have HX := Lib.hid hX
          have HY := Lib.hid hY
          have HV := Lib.hid hv
          have HU := Lib.hid hu
          obtain ⟨x_0, x_1, x_2⟩ := cx
          obtain ⟨y_0, y_1, y_2⟩ := cy
          clear hv hX hu hY
          go_wp2_with fail
          refine (spv_val HV.out _).mono ?_
          rintro e4 w4 ⟨rfl, b4⟩
          have hb4 := bel_tr hb b4
          have y_0 := keep_tr y_0 b4
          have y_1 := keep_tr y_1 b4
          have y_2 := keep_tr y_2 b4
          clear b4 x_0 x_1 x_2
          cases v
          · have HC := Lib.hid (mvF_1 (a := a) (b := b) (.inl (apB_bad (l := a) (lo := 4) (hi := 4) k (by have := HLA.out; omega) (fun z => by rw [HX.out] at z; exact absurd (HV.out.symm.trans z) (by simp)))))
            go_wp2
            go_ret
            exact ⟨ret_int HC.out.symm, hb4⟩
          · go_wp2_with fail
            refine (spv_val HU.out _).mono ?_
            rintro e5 w5 ⟨rfl, b5⟩
            have hb5 := bel_tr hb4 b5
            clear b5 y_0 y_1 y_2
            cases u
            · have HC := Lib.hid (mvF_1 (a := a) (b := b) (.inr (apB_bad (l := b) (lo := 4) (hi := 4) k (by have := HLB.out; omega) (fun z => by rw [HY.out] at z; exact absurd (HU.out.symm.trans z) (by simp)))))
              go_wp2
              go_ret
              exact ⟨ret_int HC.out.symm, hb5⟩
            · have HT := Lib.hid (show pvP (atPi a k) ∧ pvP (atPi b k) from ⟨by rw [HX.out]; exact HV.out, by rw [HY.out]; exact HU.out⟩)
              go_wp2
              go_roundw
              case rel => exact ⟨k + 1, by omega, by go_num, hb5, hid_snoc HK HT.out⟩
              case measure => simp [intOf]; omega
        · obtain rfl : k = 4 := by omega
          have HV : Hid (∀ j, j < 4 → pvP (atPi a j) ∧ pvP (atPi b j)) := fun j hj => HK.out j hj
          have HAP : Hid (apB a 4 4 = true ∧ apB b 4 4 = true) := ⟨apB_yes (by have := HLA.out; omega) (fun j hj => (HV.out j (by have := HLA.out; omega)).1), apB_yes (by have := HLB.out; omega) (fun j hj => (HV.out j (by have := HLB.out; omega)).2)⟩
          obtain ⟨w1, rfl⟩ : ∃ z : World, z = wr := ⟨_, rfl⟩
          replace ha := ha.below hb
          replace hb' := hb'.below hb
          have bw := hb
          clear hb
          rw [show ((4 : Nat) : Int) = 4 from rfl]
          go_wp2
          go_loopw [6, 7, 8, 9, 10, 11, 12, 13] (fun q _ _ _ _ _ _ _ wr => ∃ p : Nat, p ≤ 2 ∧ q = .int .i64 p ∧ Below w1.heap.size w1 wr ∧ Hid (0 < p → nopar a b 7) ∧ Hid (1 < p → nopar a b 0)) (fun q _ _ _ _ _ _ _ _ => 2 - (intOf q).toNat)
          case atStart => exact ⟨0, by omega, rfl, bel_refl _, fun h => absurd h (by omega), fun h => absurd h (by omega)⟩
          case round =>
            obtain ⟨p, hp2, rfl, hbp, H7, H0⟩ := hrel
            by_cases hp : p < 2
            · have hpl : (p : Int) < 2 := by omega
              have hp0 : (0 : Int) ≤ (p : Int) := by omega
              obtain ⟨wP, rfl⟩ : ∃ z : World, z = wr := ⟨_, rfl⟩
              replace ha := ha.below hbp
              replace hb' := hb'.below hbp
              replace bw := bel_tr bw hbp
              obtain ⟨W, hW⟩ : ∃ W : Int, 7 - 7 * (p : Int) = W := ⟨_, rfl⟩
              have HW := Lib.hid hW
              have hW0 : 0 ≤ W := by omega
              have hW7 : W ≤ 7 := by omega
              go_wp2
              first | rw [hW] | skip
              clear hW
              go_loopw [8, 9, 10, 11, 12, 13] (fun q _ _ _ _ _ wr => ∃ i : Nat, i ≤ 4 ∧ q = .int .i64 i ∧ Below wP.heap.size wP wr ∧ Hid (∀ j, j < i → ∀ k, k < 4 → j < k → ¬ parP a b W j k)) (fun q _ _ _ _ _ _ => 4 - (intOf q).toNat)
              case atStart => exact ⟨0, by omega, rfl, bel_refl _, fun j hj => absurd hj (by omega)⟩
              case round =>
                obtain ⟨i, hi4, rfl, hbo, HI⟩ := hrel
                by_cases hi : i < 4
                · have hil : (i : Int) < 4 := by omega
                  have hi0 : (0 : Int) ≤ (i : Int) := by omega
                  obtain ⟨wo, rfl⟩ : ∃ z : World, z = wr := ⟨_, rfl⟩
                  replace ha := ha.below hbo
                  replace hb' := hb'.below hbo
                  replace bw := bel_tr bw hbo
                  go_wp2
                  go_loopw [9, 10, 11, 12, 13] (fun q _ _ _ _ wr => ∃ k : Nat, i < k ∧ k ≤ 4 ∧ q = .int .i64 k ∧ Below wo.heap.size wo wr ∧ Hid (∀ j, j < k → i < j → ¬ parP a b W i j)) (fun q _ _ _ _ _ => 4 - (intOf q).toNat)
                  case atStart => exact ⟨i + 1, by omega, by omega, by go_num, bel_refl _, fun j hj h1 => absurd hj (by omega)⟩
                  case round =>
                    obtain ⟨k, hk1, hk4, rfl, hb, HK⟩ := hrel
                    by_cases hlt : k < 4
                    · have hkl : (k : Int) < 4 := by omega
                      have hk0 : (0 : Int) ≤ (k : Int) := by omega
                      obtain ⟨ba, oa, rfl, hla, hca⟩ := (ha.below hb) (by have := HLA.out; omega)
                      obtain ⟨bb, ob, rfl, hlb, hcb⟩ := (hb'.below hb) (by have := HLB.out; omega)
                      have cxi := hca i (by have := HLA.out; omega)
                      have cyi := hcb i (by have := HLB.out; omega)
                      have cxk := hca k (by have := HLA.out; omega)
                      have cyk := hcb k (by have := HLB.out; omega)
                      clear hca hcb
                      obtain ⟨xi, hXxi⟩ : ∃ x, atPi a i = x := ⟨_, rfl⟩
                      rw [hXxi] at cxi
                      have Xxi := Lib.hid hXxi
                      clear hXxi
                      obtain ⟨xi_0, xi_1, xi_2⟩ := cxi
                      obtain ⟨kxi, hkxi⟩ : ∃ z, kyP xi = z := ⟨_, rfl⟩
                      have kxib := pkI_bd xi.step xi.alter xi.octave
                      rw [show pkI xi.step xi.alter xi.octave = kxi from hkxi] at kxib
                      obtain ⟨kxi0, kxi1⟩ := kxib
                      have Kxi := Lib.hid hkxi
                      clear hkxi
                      obtain ⟨yi, hXyi⟩ : ∃ x, atPi b i = x := ⟨_, rfl⟩
                      rw [hXyi] at cyi
                      have Xyi := Lib.hid hXyi
                      clear hXyi
                      obtain ⟨yi_0, yi_1, yi_2⟩ := cyi
                      obtain ⟨kyi, hkyi⟩ : ∃ z, kyP yi = z := ⟨_, rfl⟩
                      have kyib := pkI_bd yi.step yi.alter yi.octave
                      rw [show pkI yi.step yi.alter yi.octave = kyi from hkyi] at kyib
                      obtain ⟨kyi0, kyi1⟩ := kyib
                      have Kyi := Lib.hid hkyi
                      clear hkyi
                      obtain ⟨xk, hXxk⟩ : ∃ x, atPi a k = x := ⟨_, rfl⟩
                      rw [hXxk] at cxk
                      have Xxk := Lib.hid hXxk
                      clear hXxk
                      obtain ⟨xk_0, xk_1, xk_2⟩ := cxk
                      obtain ⟨kxk, hkxk⟩ : ∃ z, kyP xk = z := ⟨_, rfl⟩
                      have kxkb := pkI_bd xk.step xk.alter xk.octave
                      rw [show pkI xk.step xk.alter xk.octave = kxk from hkxk] at kxkb
                      obtain ⟨kxk0, kxk1⟩ := kxkb
                      have Kxk := Lib.hid hkxk
                      clear hkxk
                      obtain ⟨yk, hXyk⟩ : ∃ x, atPi b k = x := ⟨_, rfl⟩
                      rw [hXyk] at cyk
                      have Xyk := Lib.hid hXyk
                      clear hXyk
                      obtain ⟨yk_0, yk_1, yk_2⟩ := cyk
                      obtain ⟨kyk, hkyk⟩ : ∃ z, kyP yk = z := ⟨_, rfl⟩
                      have kykb := pkI_bd yk.step yk.alter yk.octave
                      rw [show pkI yk.step yk.alter yk.octave = kyk from hkyk] at kykb
                      obtain ⟨kyk0, kyk1⟩ := kykb
                      have Kyk := Lib.hid hkyk
                      clear hkyk
                      have vxi := kyP_pv (HV.out i (by omega)).1
                      rw [Xxi.out, show kyP xi = kxi from Kxi.out] at vxi
                      have vyi := kyP_pv (HV.out i (by omega)).2
                      rw [Xyi.out, show kyP yi = kyi from Kyi.out] at vyi
                      have vxk := kyP_pv (HV.out k (by omega)).1
                      rw [Xxk.out, show kyP xk = kxk from Kxk.out] at vxk
                      have vyk := kyP_pv (HV.out k (by omega)).2
                      rw [Xyk.out, show kyP yk = kyk from Kyk.out] at vyk
                      have HPP : Hid (parP a b W i k ↔ (sgP (kyi - kxi) (kyk - kxk) ∧ (kxk - kxi + 120) % 12 = W ∧ (kyk - kyi + 120) % 12 = W)) := by
                        show _ ↔ _
                        unfold parP
                        rw [show kyP (atPi a i) = kxi from by rw [Xxi.out]; exact Kxi.out, show kyP (atPi b i) = kyi from by rw [Xyi.out]; exact Kyi.out, show kyP (atPi a k) = kxk from by rw [Xxk.out]; exact Kxk.out, show kyP (atPi b k) = kyk from by rw [Xyk.out]; exact Kyk.out, shift12 _ (by omega), shift12 _ (by omega)]
                      have Lyi : ∀ xL : Later wr, Calls Try.prog 70 #[.agg #[.int .i64 yi.step, .int .i64 yi.alter, .int .i64 yi.octave]] xL.world fun e w'' => e = .returned (.int .i64 kyi) ∧ ∃ z : Later wr, w'' = z.world := fun xL => later_call (spk_val Kyi.out _)
                      have Lxi : ∀ xL : Later wr, Calls Try.prog 70 #[.agg #[.int .i64 xi.step, .int .i64 xi.alter, .int .i64 xi.octave]] xL.world fun e w'' => e = .returned (.int .i64 kxi) ∧ ∃ z : Later wr, w'' = z.world := fun xL => later_call (spk_val Kxi.out _)
                      have i1 := IntWalk.i64_in (kyi - kxi) (by omega)
                      go_wp2_with fail
                      have lf0 : ∀ xL : Later wr, xL.world.cell? ⟨bb, ob + i * 3, none⟩ = some (.int .i64 yi.step) := fun xL => xL.at (yi_0)
                      have lf1 : ∀ xL : Later wr, xL.world.cell? ⟨bb, ob + i * 3 + 1, none⟩ = some (.int .i64 yi.alter) := fun xL => xL.at (yi_1)
                      have lf2 : ∀ xL : Later wr, xL.world.cell? ⟨bb, ob + i * 3 + 2, none⟩ = some (.int .i64 yi.octave) := fun xL => xL.at (yi_2)
                      have lf3 : ∀ xL : Later wr, xL.world.cell? ⟨ba, oa + i * 3, none⟩ = some (.int .i64 xi.step) := fun xL => xL.at (xi_0)
                      have lf4 : ∀ xL : Later wr, xL.world.cell? ⟨ba, oa + i * 3 + 1, none⟩ = some (.int .i64 xi.alter) := fun xL => xL.at (xi_1)
                      have lf5 : ∀ xL : Later wr, xL.world.cell? ⟨ba, oa + i * 3 + 2, none⟩ = some (.int .i64 xi.octave) := fun xL => xL.at (xi_2)
                      refine region_later (w0 := wr) (by kernel_rfl) (by kernel_rfl) (bel_refl _) ?_
                      repeat (go_big_quiet_step ((first | (go_at_call 70; with_reducible exact Lyi _) | (go_at_call 70; with_reducible exact Lxi _))))
                      refine wpQuiet_nil ?_
                      rintro w' ⟨x, rfl⟩
                      obtain ⟨w5, b5⟩ := x
                      clear lf0 lf1 lf2 lf3 lf4 lf5
                      clear Lyi Lxi i1
                      have xi_0 := keep_tr xi_0 b5
                      have xi_1 := keep_tr xi_1 b5
                      have xi_2 := keep_tr xi_2 b5
                      have yi_0 := keep_tr yi_0 b5
                      have yi_1 := keep_tr yi_1 b5
                      have yi_2 := keep_tr yi_2 b5
                      have xk_0 := keep_tr xk_0 b5
                      have xk_1 := keep_tr xk_1 b5
                      have xk_2 := keep_tr xk_2 b5
                      have yk_0 := keep_tr yk_0 b5
                      have yk_1 := keep_tr yk_1 b5
                      have yk_2 := keep_tr yk_2 b5
                      have Lyk : ∀ xL : Later w5, Calls Try.prog 70 #[.agg #[.int .i64 yk.step, .int .i64 yk.alter, .int .i64 yk.octave]] xL.world fun e w'' => e = .returned (.int .i64 kyk) ∧ ∃ z : Later w5, w'' = z.world := fun xL => later_call (spk_val Kyk.out _)
                      have Lxk : ∀ xL : Later w5, Calls Try.prog 70 #[.agg #[.int .i64 xk.step, .int .i64 xk.alter, .int .i64 xk.octave]] xL.world fun e w'' => e = .returned (.int .i64 kxk) ∧ ∃ z : Later w5, w'' = z.world := fun xL => later_call (spk_val Kxk.out _)
                      have i1 := IntWalk.i64_in (kyk - kxk) (by omega)
                      go_wp2_with fail
                      have lf0 : ∀ xL : Later w5, xL.world.cell? ⟨bb, ob + k * 3, none⟩ = some (.int .i64 yk.step) := fun xL => xL.at (yk_0)
                      have lf1 : ∀ xL : Later w5, xL.world.cell? ⟨bb, ob + k * 3 + 1, none⟩ = some (.int .i64 yk.alter) := fun xL => xL.at (yk_1)
                      have lf2 : ∀ xL : Later w5, xL.world.cell? ⟨bb, ob + k * 3 + 2, none⟩ = some (.int .i64 yk.octave) := fun xL => xL.at (yk_2)
                      have lf3 : ∀ xL : Later w5, xL.world.cell? ⟨ba, oa + k * 3, none⟩ = some (.int .i64 xk.step) := fun xL => xL.at (xk_0)
                      have lf4 : ∀ xL : Later w5, xL.world.cell? ⟨ba, oa + k * 3 + 1, none⟩ = some (.int .i64 xk.alter) := fun xL => xL.at (xk_1)
                      have lf5 : ∀ xL : Later w5, xL.world.cell? ⟨ba, oa + k * 3 + 2, none⟩ = some (.int .i64 xk.octave) := fun xL => xL.at (xk_2)
                      refine region_later (w0 := w5) (by kernel_rfl) (by kernel_rfl) (bel_refl _) ?_
                      repeat (go_big_quiet_step ((first | (go_at_call 70; with_reducible exact Lyk _) | (go_at_call 70; with_reducible exact Lxk _))))
                      refine wpQuiet_nil ?_
                      rintro w' ⟨x, rfl⟩
                      obtain ⟨w6, b6⟩ := x
                      clear lf0 lf1 lf2 lf3 lf4 lf5
                      clear Lyk Lxk i1
                      have xi_0 := keep_tr xi_0 b6
                      have xi_1 := keep_tr xi_1 b6
                      have xi_2 := keep_tr xi_2 b6
                      have yi_0 := keep_tr yi_0 b6
                      have yi_1 := keep_tr yi_1 b6
                      have yi_2 := keep_tr yi_2 b6
                      have xk_0 := keep_tr xk_0 b6
                      have xk_1 := keep_tr xk_1 b6
                      have xk_2 := keep_tr xk_2 b6
                      have yk_0 := keep_tr yk_0 b6
                      have yk_1 := keep_tr yk_1 b6
                      have yk_2 := keep_tr yk_2 b6
                      have Lxk : ∀ xL : Later w6, Calls Try.prog 70 #[.agg #[.int .i64 xk.step, .int .i64 xk.alter, .int .i64 xk.octave]] xL.world fun e w'' => e = .returned (.int .i64 kxk) ∧ ∃ z : Later w6, w'' = z.world := fun xL => later_call (spk_val Kxk.out _)
                      have Lxi : ∀ xL : Later w6, Calls Try.prog 70 #[.agg #[.int .i64 xi.step, .int .i64 xi.alter, .int .i64 xi.octave]] xL.world fun e w'' => e = .returned (.int .i64 kxi) ∧ ∃ z : Later w6, w'' = z.world := fun xL => later_call (spk_val Kxi.out _)
                      have i1 := IntWalk.i64_in (kxk - kxi) (by omega)
                      have i2 := IntWalk.i64_in (kxk - kxi + 120) (by omega)
                      go_wp2_with fail
                      have lf0 : ∀ xL : Later w6, xL.world.cell? ⟨ba, oa + k * 3, none⟩ = some (.int .i64 xk.step) := fun xL => xL.at (xk_0)
                      have lf1 : ∀ xL : Later w6, xL.world.cell? ⟨ba, oa + k * 3 + 1, none⟩ = some (.int .i64 xk.alter) := fun xL => xL.at (xk_1)
                      have lf2 : ∀ xL : Later w6, xL.world.cell? ⟨ba, oa + k * 3 + 2, none⟩ = some (.int .i64 xk.octave) := fun xL => xL.at (xk_2)
                      have lf3 : ∀ xL : Later w6, xL.world.cell? ⟨ba, oa + i * 3, none⟩ = some (.int .i64 xi.step) := fun xL => xL.at (xi_0)
                      have lf4 : ∀ xL : Later w6, xL.world.cell? ⟨ba, oa + i * 3 + 1, none⟩ = some (.int .i64 xi.alter) := fun xL => xL.at (xi_1)
                      have lf5 : ∀ xL : Later w6, xL.world.cell? ⟨ba, oa + i * 3 + 2, none⟩ = some (.int .i64 xi.octave) := fun xL => xL.at (xi_2)
                      refine region_later (w0 := w6) (by kernel_rfl) (by kernel_rfl) (bel_refl _) ?_
                      repeat (go_big_quiet_step ((first | (go_at_call 70; with_reducible exact Lxk _) | (go_at_call 70; with_reducible exact Lxi _))))
                      refine wpQuiet_nil ?_
                      rintro w' ⟨x, rfl⟩
                      obtain ⟨w7, b7⟩ := x
                      clear lf0 lf1 lf2 lf3 lf4 lf5
                      clear Lxk Lxi i1 i2
                      have xi_0 := keep_tr xi_0 b7
                      have xi_1 := keep_tr xi_1 b7
                      have xi_2 := keep_tr xi_2 b7
                      have yi_0 := keep_tr yi_0 b7
                      have yi_1 := keep_tr yi_1 b7
                      have yi_2 := keep_tr yi_2 b7
                      have xk_0 := keep_tr xk_0 b7
                      have xk_1 := keep_tr xk_1 b7
                      have xk_2 := keep_tr xk_2 b7
                      have yk_0 := keep_tr yk_0 b7
                      have yk_1 := keep_tr yk_1 b7
                      have yk_2 := keep_tr yk_2 b7
                      have Lyk : ∀ xL : Later w7, Calls Try.prog 70 #[.agg #[.int .i64 yk.step, .int .i64 yk.alter, .int .i64 yk.octave]] xL.world fun e w'' => e = .returned (.int .i64 kyk) ∧ ∃ z : Later w7, w'' = z.world := fun xL => later_call (spk_val Kyk.out _)
                      have Lyi : ∀ xL : Later w7, Calls Try.prog 70 #[.agg #[.int .i64 yi.step, .int .i64 yi.alter, .int .i64 yi.octave]] xL.world fun e w'' => e = .returned (.int .i64 kyi) ∧ ∃ z : Later w7, w'' = z.world := fun xL => later_call (spk_val Kyi.out _)
                      have i1 := IntWalk.i64_in (kyk - kyi) (by omega)
                      have i2 := IntWalk.i64_in (kyk - kyi + 120) (by omega)
                      go_wp2_with fail
                      have lf0 : ∀ xL : Later w7, xL.world.cell? ⟨bb, ob + k * 3, none⟩ = some (.int .i64 yk.step) := fun xL => xL.at (yk_0)
                      have lf1 : ∀ xL : Later w7, xL.world.cell? ⟨bb, ob + k * 3 + 1, none⟩ = some (.int .i64 yk.alter) := fun xL => xL.at (yk_1)
                      have lf2 : ∀ xL : Later w7, xL.world.cell? ⟨bb, ob + k * 3 + 2, none⟩ = some (.int .i64 yk.octave) := fun xL => xL.at (yk_2)
                      have lf3 : ∀ xL : Later w7, xL.world.cell? ⟨bb, ob + i * 3, none⟩ = some (.int .i64 yi.step) := fun xL => xL.at (yi_0)
                      have lf4 : ∀ xL : Later w7, xL.world.cell? ⟨bb, ob + i * 3 + 1, none⟩ = some (.int .i64 yi.alter) := fun xL => xL.at (yi_1)
                      have lf5 : ∀ xL : Later w7, xL.world.cell? ⟨bb, ob + i * 3 + 2, none⟩ = some (.int .i64 yi.octave) := fun xL => xL.at (yi_2)
                      refine region_later (w0 := w7) (by kernel_rfl) (by kernel_rfl) (bel_refl _) ?_
                      repeat (go_big_quiet_step ((first | (go_at_call 70; with_reducible exact Lyk _) | (go_at_call 70; with_reducible exact Lyi _))))
                      refine wpQuiet_nil ?_
                      rintro w' ⟨x, rfl⟩
                      obtain ⟨w8, b8⟩ := x
                      clear lf0 lf1 lf2 lf3 lf4 lf5
                      clear Lyk Lyi i1 i2
                      have hb8 := bel_tr (bel_tr (bel_tr (bel_tr hb b5) b6) b7) b8
                      clear xi_0 xi_1 xi_2 yi_0 yi_1 yi_2 xk_0 xk_1 xk_2 yk_0 yk_1 yk_2
                      have bXY := mul_bd (x := kyi - kxi) (y := kyk - kxk) (by omega) (by omega)
                      have hms := mul_sg (x := kyi - kxi) (y := kyk - kxk)
                      have HPP : Hid (parP a b W i k ↔ (0 < (kyi - kxi) * (kyk - kxk) ∧ (kxk - kxi + 120) % 12 = W ∧ (kyk - kyi + 120) % 12 = W)) := by
                        show _ ↔ _
                        rw [HPP.out, hms]
                      clear hms
                      have iXY := IntWalk.i64_in ((kyi - kxi) * (kyk - kxk)) (by omega)
                      have p0 : 0 ≤ kxk - kxi + 120 := by omega
                      have p1 : kxk - kxi + 120 ≤ 300 := by omega
                      have p2 : 0 ≤ kyk - kyi + 120 := by omega
                      have p3 : kyk - kyi + 120 ≤ 300 := by omega
                      generalize kxk - kxi + 120 = B1 at *
                      generalize kyk - kyi + 120 = B2 at *
                      generalize kyi - kxi = X at *
                      generalize kyk - kxk = Y at *
                      have eW : wrap64 (X * Y) = X * Y := by
                        obtain ⟨z, hz⟩ : ∃ z, X * Y = z := ⟨_, rfl⟩
                        rw [hz] at bXY ⊢
                        unfold wrap64; omega
                      rw [← eW] at HPP
                      clear eW iXY bXY
                      cases hs : decide (0 < wrap64 (X * Y))
                      · have HT := Lib.hid (show ¬ parP a b W i k from fun z => of_decide_eq_false hs (HPP.out.1 z).1)
                        go_wp2
                        go_roundw
                        case rel => exact ⟨k + 1, by omega, by omega, by go_num, hb8, hid_snoc HK (fun _ => HT.out)⟩
                        case measure => simp [intOf]; omega
                      · by_cases e1 : B1 % 12 = W
                        · have f1 : (B1 % 12 == W) = true := by simpa using e1
                          have FE1' := Lib.hid e1
                          clear e1
                          by_cases e2 : B2 % 12 = W
                          · have f2 : (B2 % 12 == W) = true := by simpa using e2
                            have FE2' := Lib.hid e2
                            clear e2
                            have HT := Lib.hid (HPP.out.2 ⟨of_decide_eq_true hs, FE1'.out, FE2'.out⟩)
                            have HC : Hid (mvF a b = 5 + (p : Int)) := by
                              show _ = _
                              have hW := HW.out
                              rcases (show p = 0 ∨ p = 1 from by omega) with rfl | rfl
                              · have e : W = 7 := by omega
                                rw [mvF_5 HAP.out (fun z => z i hi k hlt hk1 (by rw [← e]; exact HT.out))]; rfl
                              · have e : W = 0 := by omega
                                rw [mvF_6 HAP.out (H7.out (by omega)) (fun z => z i hi k hlt hk1 (by rw [← e]; exact HT.out))]; rfl
                            go_wp2
                            go_ret
                            exact ⟨ret_int HC.out.symm, bel_tr bw hb8⟩
                          · have f2 : (B2 % 12 == W) = false := by simpa using e2
                            have HT := Lib.hid (show ¬ parP a b W i k from fun z => e2 (HPP.out.1 z).2.2)
                            clear e2
                            go_wp2
                            go_roundw
                            case rel => exact ⟨k + 1, by omega, by omega, by go_num, hb8, hid_snoc HK (fun _ => HT.out)⟩
                            case measure => simp [intOf]; omega
                        · have f1 : (B1 % 12 == W) = false := by simpa using e1
                          have HT := Lib.hid (show ¬ parP a b W i k from fun z => e1 (HPP.out.1 z).2.1)
                          clear e1
                          go_wp2
                          go_roundw
                          case rel => exact ⟨k + 1, by omega, by omega, by go_num, hb8, hid_snoc HK (fun _ => HT.out)⟩
                          case measure => simp [intOf]; omega
                    · have hkk : k = 4 := by omega
                      have HT : Hid (∀ k, k < 4 → i < k → ¬ parP a b W i k) := fun j hj hij => HK.out j (by omega) hij
                      obtain rfl := hkk
                      rw [show ((4 : Nat) : Int) = 4 from rfl]
                      have hbo2 := bel_tr hbo hb
                      go_wp2
                      go_roundw
                      case rel => exact ⟨i + 1, by omega, by go_num, hbo2, hid_snoc HI HT.out⟩
                      case measure => simp [intOf]; omega
                · have hii : i = 4 := by omega
                  have HT := Lib.hid (show nopar a b W from fun j hj => HI.out j (by omega))
                  obtain rfl := hii
                  rw [show ((4 : Nat) : Int) = 4 from rfl]
                  have hbp2 := bel_tr hbp hbo
                  have H7' : Hid (0 < p + 1 → nopar a b 7) := fun _ => by
                    have hW := HW.out
                    by_cases e : p = 0
                    · have e2 : W = 7 := by omega
                      rw [← e2]; exact HT.out
                    · exact H7.out (by omega)
                  have H0' : Hid (1 < p + 1 → nopar a b 0) := fun hp => by
                    have hW := HW.out
                    have e2 : W = 0 := by omega
                    rw [← e2]; exact HT.out
                  go_wp2
                  go_roundw
                  case rel => exact ⟨p + 1, by omega, by go_num, hbp2, H7', H0'⟩
                  case measure => simp [intOf]; omega
            · obtain rfl : p = 2 := by omega
              have HN7 := Lib.hid (H7.out (by omega))
              have HN0 := Lib.hid (H0.out (by omega))
              obtain ⟨w2, rfl⟩ : ∃ z : World, z = wr := ⟨_, rfl⟩
              replace ha := ha.below hbp
              replace hb' := hb'.below hbp
              replace bw := bel_tr bw hbp
              clear H7 H0 hbp
              rw [show ((2 : Nat) : Int) = 2 from rfl]
              go_wp2
              go_loopw [14, 15] (fun q _ wr => ∃ k : Nat, k ≤ 4 ∧ q = .int .i64 k ∧ Below w2.heap.size w2 wr ∧ Hid (∀ j, j < k → ¬ lpP a b j)) (fun q _ _ => 4 - (intOf q).toNat)
              case atStart => exact ⟨0, by omega, rfl, bel_refl _, fun j hj => absurd hj (by omega)⟩
              case round =>
                obtain ⟨k, hk4, rfl, hb, HK⟩ := hrel
                by_cases hlt : k < 4
                · have hkl : (k : Int) < 4 := by omega
                  have hk0 : (0 : Int) ≤ (k : Int) := by omega
                  obtain ⟨ba, oa, rfl, hla, hca⟩ := (ha.below hb) (by have := HLA.out; omega)
                  obtain ⟨bb, ob, rfl, hlb, hcb⟩ := (hb'.below hb) (by have := HLB.out; omega)
                  have cx := hca k (by have := HLA.out; omega)
                  have cy := hcb k (by have := HLB.out; omega)
                  clear hca hcb
                  obtain ⟨x, hXx⟩ : ∃ x, atPi a k = x := ⟨_, rfl⟩
                  rw [hXx] at cx
                  have Xx := Lib.hid hXx
                  clear hXx
                  obtain ⟨x_0, x_1, x_2⟩ := cx
                  obtain ⟨kx, hkx⟩ : ∃ z, kyP x = z := ⟨_, rfl⟩
                  have kxb := pkI_bd x.step x.alter x.octave
                  rw [show pkI x.step x.alter x.octave = kx from hkx] at kxb
                  obtain ⟨kx0, kx1⟩ := kxb
                  have Kx := Lib.hid hkx
                  clear hkx
                  obtain ⟨y, hXy⟩ : ∃ x, atPi b k = x := ⟨_, rfl⟩
                  rw [hXy] at cy
                  have Xy := Lib.hid hXy
                  clear hXy
                  obtain ⟨y_0, y_1, y_2⟩ := cy
                  obtain ⟨ky, hky⟩ : ∃ z, kyP y = z := ⟨_, rfl⟩
                  have kyb := pkI_bd y.step y.alter y.octave
                  rw [show pkI y.step y.alter y.octave = ky from hky] at kyb
                  obtain ⟨ky0, ky1⟩ := kyb
                  have Ky := Lib.hid hky
                  clear hky
                  obtain ⟨d, hd⟩ : ∃ d, dsI kx ky = d := ⟨_, rfl⟩
                  have hdb := dsI_bd ⟨kx0, kx1⟩ ⟨ky0, ky1⟩
                  rw [hd] at hdb
                  obtain ⟨hd0, hd1⟩ := hdb
                  have HD := Lib.hid hd
                  clear hd
                  have Lx : ∀ xL : Later wr, Calls Try.prog 70 #[.agg #[.int .i64 x.step, .int .i64 x.alter, .int .i64 x.octave]] xL.world fun e w'' => e = .returned (.int .i64 kx) ∧ ∃ z : Later wr, w'' = z.world := fun xL => later_call (spk_val Kx.out _)
                  have Ly : ∀ xL : Later wr, Calls Try.prog 70 #[.agg #[.int .i64 y.step, .int .i64 y.alter, .int .i64 y.octave]] xL.world fun e w'' => e = .returned (.int .i64 ky) ∧ ∃ z : Later wr, w'' = z.world := fun xL => later_call (spk_val Ky.out _)
                  by_cases ht : 12 < d
                  · have HT := Lib.hid (show lpP a b k from by unfold lpP; rw [show kyP (atPi a k) = kx from by rw [Xx.out]; exact Kx.out, show kyP (atPi b k) = ky from by rw [Xy.out]; exact Ky.out, HD.out]; exact ht)
                    have HC := Lib.hid (mvF_7 HAP.out HN7.out HN0.out k hlt HT.out)
                    have i1 := IntWalk.i64_in (ky - kx) (by omega)
                    go_wp2_with fail
                    have lf0 : ∀ xL : Later wr, xL.world.cell? ⟨ba, oa + k * 3, none⟩ = some (.int .i64 x.step) := fun xL => xL.at (x_0)
                    have lf1 : ∀ xL : Later wr, xL.world.cell? ⟨ba, oa + k * 3 + 1, none⟩ = some (.int .i64 x.alter) := fun xL => xL.at (x_1)
                    have lf2 : ∀ xL : Later wr, xL.world.cell? ⟨ba, oa + k * 3 + 2, none⟩ = some (.int .i64 x.octave) := fun xL => xL.at (x_2)
                    have lf3 : ∀ xL : Later wr, xL.world.cell? ⟨bb, ob + k * 3, none⟩ = some (.int .i64 y.step) := fun xL => xL.at (y_0)
                    have lf4 : ∀ xL : Later wr, xL.world.cell? ⟨bb, ob + k * 3 + 1, none⟩ = some (.int .i64 y.alter) := fun xL => xL.at (y_1)
                    have lf5 : ∀ xL : Later wr, xL.world.cell? ⟨bb, ob + k * 3 + 2, none⟩ = some (.int .i64 y.octave) := fun xL => xL.at (y_2)
                    refine region_later (w0 := wr) (by kernel_rfl) (by kernel_rfl) (bel_refl _) ?_
                    repeat (go_big_quiet_step ((first | (go_at_call 70; with_reducible exact Lx _) | (go_at_call 70; with_reducible exact Ly _))))
                    refine wpQuiet_nil ?_
                    rintro w' ⟨x, rfl⟩
                    obtain ⟨w5, b5⟩ := x
                    clear lf0 lf1 lf2 lf3 lf4 lf5
                    clear Lx Ly x_0 x_1 x_2 y_0 y_1 y_2 i1
                    have hb5 := bel_tr hb b5
                    have i2 := IntWalk.i64_in (-(ky - kx)) (by omega)
                    have hd := HD.out
                    unfold dsI at hd
                    have j0 : -300 ≤ ky - kx := by omega
                    have j1 : ky - kx ≤ 300 := by omega
                    have hd2 : (0 ≤ ky - kx ∧ ky - kx = d) ∨ (ky - kx < 0 ∧ -(ky - kx) = d) := by split at hd <;> omega
                    clear hd
                    generalize ky - kx = D at *
                    rcases hd2 with ⟨s0, s1⟩ | ⟨s0, s1⟩
                    · subst s1
                      have n1 : ¬ D < -D := by omega
                      have n2 : ¬ D ≤ -D ∨ D = 0 := by omega
                      go_wp2
                      go_ret
                      exact ⟨ret_int HC.out.symm, bel_tr bw hb5⟩
                    · have n1 : D < -D := by omega
                      have n2 : ¬ -D ≤ D := by omega
                      have n3 : ¬ -D < D := by omega
                      have HS := Lib.hid s1
                      clear s1
                      have ht : 12 < -D := by have := HS.out; omega
                      go_wp2
                      go_ret
                      exact ⟨ret_int HC.out.symm, bel_tr bw hb5⟩
                  · have HT := Lib.hid (show ¬ lpP a b k from by unfold lpP; rw [show kyP (atPi a k) = kx from by rw [Xx.out]; exact Kx.out, show kyP (atPi b k) = ky from by rw [Xy.out]; exact Ky.out, HD.out]; exact ht)
                    have i1 := IntWalk.i64_in (ky - kx) (by omega)
                    go_wp2_with fail
                    have lf0 : ∀ xL : Later wr, xL.world.cell? ⟨ba, oa + k * 3, none⟩ = some (.int .i64 x.step) := fun xL => xL.at (x_0)
                    have lf1 : ∀ xL : Later wr, xL.world.cell? ⟨ba, oa + k * 3 + 1, none⟩ = some (.int .i64 x.alter) := fun xL => xL.at (x_1)
                    have lf2 : ∀ xL : Later wr, xL.world.cell? ⟨ba, oa + k * 3 + 2, none⟩ = some (.int .i64 x.octave) := fun xL => xL.at (x_2)
                    have lf3 : ∀ xL : Later wr, xL.world.cell? ⟨bb, ob + k * 3, none⟩ = some (.int .i64 y.step) := fun xL => xL.at (y_0)
                    have lf4 : ∀ xL : Later wr, xL.world.cell? ⟨bb, ob + k * 3 + 1, none⟩ = some (.int .i64 y.alter) := fun xL => xL.at (y_1)
                    have lf5 : ∀ xL : Later wr, xL.world.cell? ⟨bb, ob + k * 3 + 2, none⟩ = some (.int .i64 y.octave) := fun xL => xL.at (y_2)
                    refine region_later (w0 := wr) (by kernel_rfl) (by kernel_rfl) (bel_refl _) ?_
                    repeat (go_big_quiet_step ((first | (go_at_call 70; with_reducible exact Lx _) | (go_at_call 70; with_reducible exact Ly _))))
                    refine wpQuiet_nil ?_
                    rintro w' ⟨x, rfl⟩
                    obtain ⟨w5, b5⟩ := x
                    clear lf0 lf1 lf2 lf3 lf4 lf5
                    clear Lx Ly x_0 x_1 x_2 y_0 y_1 y_2 i1
                    have hb5 := bel_tr hb b5
                    have i2 := IntWalk.i64_in (-(ky - kx)) (by omega)
                    have hd := HD.out
                    unfold dsI at hd
                    have j0 : -300 ≤ ky - kx := by omega
                    have j1 : ky - kx ≤ 300 := by omega
                    have hd2 : (0 ≤ ky - kx ∧ ky - kx = d) ∨ (ky - kx < 0 ∧ -(ky - kx) = d) := by split at hd <;> omega
                    clear hd
                    generalize ky - kx = D at *
                    rcases hd2 with ⟨s0, s1⟩ | ⟨s0, s1⟩
                    · subst s1
                      have n1 : ¬ D < -D := by omega
                      have n2 : ¬ D ≤ -D ∨ D = 0 := by omega
                      go_wp2
                      go_roundw
                      case rel => exact ⟨k + 1, by omega, by go_num, hb5, hid_snoc HK HT.out⟩
                      case measure => simp [intOf]; omega
                    · have n1 : D < -D := by omega
                      have n2 : ¬ -D ≤ D := by omega
                      have n3 : ¬ -D < D := by omega
                      have HS := Lib.hid s1
                      clear s1
                      have ht : ¬ 12 < -D := by have := HS.out; omega
                      go_wp2
                      go_roundw
                      case rel => exact ⟨k + 1, by omega, by go_num, hb5, hid_snoc HK HT.out⟩
                      case measure => simp [intOf]; omega
                · obtain rfl : k = 4 := by omega
                  have HC := Lib.hid (mvF_0 HAP.out HN7.out HN0.out (fun j hj => HK.out j hj))
                  replace bw := bel_tr bw hb
                  clear hb
                  go_wp2
                  go_ret
                  exact ⟨ret_int HC.out.symm, bw⟩
    · have hb4 : ((n' : Int) != 4) = true := by
        have : ¬ (n' : Int) = 4 := by omega
        simpa using this
      have HC := Lib.hid (mvF_1 (a := a) (b := b) (.inr (apB_no (l := b) (lo := 4) (hi := 4) (by omega))))
      clear hn hla
      go_enter Try.func40, Try.ntmps40
      go_wp2
      go_ret
      exact ⟨ret_int HC.out.symm, bel_refl _⟩
  · have hb4 : ((n : Int) != 4) = true := by
      have : ¬ (n : Int) = 4 := by omega
      simpa using this
    have HC := Lib.hid (mvF_1 (a := a) (b := b) (.inl (apB_no (l := a) (lo := 4) (hi := 4) (by omega))))
    go_enter Try.func40, Try.ntmps40
    go_wp2
    go_ret
    exact ⟨ret_int HC.out.symm, bel_refl _⟩
end Go.Proofs.Ytpjakgnghpapmaa
