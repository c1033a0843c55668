/- The walk of the law FnIsCanon: for every input it returns true and turns nothing that was there. -/
import Derived.Test.YtldgpgljapohiaaDrIc
import Derived.Test.YtldgpgljapohiaaVts
namespace Go.Proofs.Ytldgpgljapohiaa.FnIsCanon
set_option linter.unusedSimpArgs false
set_option linter.unusedVariables false
open Go.RowKit

set_option maxRecDepth 20000 in
set_option maxHeartbeats 4000000 in
theorem walk (A : Option Addr) (len cap : Nat) (w : World) (h : Cod w A len cap) :
    Calls Try.prog 4 #[.slice A len cap] w fun e w' => e = .returned (.bool true) ∧ Below w.heap.size w w' := by
  by_cases hl : len ≤ 1048576
  · go_enter Try.func4, Try.ntmps4
    go_wp2_with fail
    refine (DrawIsCanon_any w A len cap h).mono ?_
    rintro e1 w1 ⟨A1, c1, l, A2, c2, L, rfl, lc, cm, l7, lc2, cm2, l72, r1, r2, bw⟩
    unfold maxLen at cm cm2
    go_wp2_with fail
    refine (ic_any _ _ _ _ _ _ l L _ rfl rfl (by omega) (by omega) r1 r2).mono ?_
    rintro e2 w2 ⟨v, rfl, h2, b2⟩
    have r1 := r1.below b2
    have r2 := r2.below b2
    have bw := bel_tr bw b2
    clear b2
    go_wp2_with fail
    refine (sic_any _ _ _ _ _ _ l L _ rfl rfl (by omega) (by omega) r1 r2).mono ?_
    rintro e3 w3 ⟨v3, rfl, h3, b3⟩
    have r1 := r1.below b3
    have r2 := r2.below b3
    have bw := bel_tr bw b3
    clear b3
    obtain rfl : v3 = v := Bool.eq_iff_iff.2 (h3.trans h2.symm)
    clear h3
    have H2 := Lib.hid h2
    clear h2
    cases v3
    · have LA : ∀ xL : Later w3, Calls Try.prog 14 #[.slice A1 l.length c1, .slice A1 l.length c1] xL.world fun e w'' => e = .returned (.bool false) ∧ ∃ z : Later w3, w'' = z.world := fun xL => later_call ((ic_any _ _ _ _ _ _ l l _ rfl rfl (by omega) (by omega) (r1.below xL.bel) (r1.below xL.bel)).mono (fun e w1 h => by obtain ⟨v, he, hv, hb⟩ := h; refine ⟨?_, hb⟩; cases v with | false => exact he | true => exact absurd (hv.1 rfl) (ic_not l)))
      have LZ : ∀ xL : Later w3, Calls Try.prog 11 #[] xL.world fun e w'' => e = .returned (.bool true) ∧ ∃ z : Later w3, w'' = z.world := fun xL => later_call (alive_any _)
      go_upto_region 7 with fail
      refine region_later (w0 := w3) (by kernel_rfl) (by kernel_rfl) (bel_refl _) ?_
      repeat (go_big_quiet_step ((first | (go_at_call 14; with_reducible exact LA _) | (go_at_call 11; with_reducible exact LZ _))))
      refine wpQuiet_nil ?_
      rintro w' ⟨x, rfl⟩
      obtain ⟨w7, b7⟩ := x
      clear LA LZ
      replace bw := bel_tr bw b7
      go_wp2
      go_ret
      exact ⟨rfl, bw⟩
    · obtain ⟨g1, g2, g3, g4, g5⟩ := ic_ticks (H2.out.1 rfl)
      obtain ⟨T, hT⟩ : ∃ T, tsum l l.length = T := ⟨_, rfl⟩
      obtain ⟨U, hU⟩ : ∃ U, tsum L L.length = U := ⟨_, rfl⟩
      have hTb := (vvB_of g1).tsum_bd l.length (Nat.le_refl _)
      have hd0 := (vvB_of g2).tickT 0 (by omega)
      rw [hT] at hTb
      rw [hT, hU] at g5
      obtain ⟨b, off, rfl, hlb, hc⟩ := r2 (by omega)
      have hc0 := hc 0 (by omega)
      simp only [Nat.zero_mul, Nat.add_zero] at hc0
      obtain ⟨p0, p1, p2, p3, p4, p5⟩ := hc0
      rw [g4] at p0
      generalize (atNt L 0).ticks = D at *
      have hle : ((L.length : Int) == (l.length : Int) + 1) = true := by simp; omega
      have hlp : (0 : Int) < (L.length : Int) := by omega
      have hUe : (U == T + D) = true := by simp; omega
      have i1 := IntWalk.i64_in (T + D) (by omega)
      have i2 := IntWalk.i64_in ((l.length : Int) + 1) (by omega)
      have G1 := Lib.hid g1
      have G2 := Lib.hid g2
      have HT := Lib.hid hT
      have HU := Lib.hid hU
      clear g1 g2 hT hU hc g4 p1 p2 p3 p5 g3 g5
      have LA : ∀ xL : Later w3, Calls Try.prog 14 #[.slice A1 l.length c1, .slice A1 l.length c1] xL.world fun e w'' => e = .returned (.bool false) ∧ ∃ z : Later w3, w'' = z.world := fun xL => later_call ((ic_any _ _ _ _ _ _ l l _ rfl rfl (by omega) (by omega) (r1.below xL.bel) (r1.below xL.bel)).mono (fun e w1 h => by obtain ⟨v, he, hv, hb⟩ := h; refine ⟨?_, hb⟩; cases v with | false => exact he | true => exact absurd (hv.1 rfl) (ic_not l)))
      have LZ : ∀ xL : Later w3, Calls Try.prog 11 #[] xL.world fun e w'' => e = .returned (.bool true) ∧ ∃ z : Later w3, w'' = z.world := fun xL => later_call (alive_any _)
      have LU : ∀ xL : Later w3, Calls Try.prog 17 #[.slice (some ⟨b, off, none⟩) L.length c2] xL.world fun e w'' => e = .returned (.int .i64 U) ∧ ∃ z : Later w3, w'' = z.world := fun xL => later_call (vtk_val HU.out _ _ _ _ rfl (by omega) G2.out (r2.below xL.bel))
      have LT : ∀ xL : Later w3, Calls Try.prog 17 #[.slice A1 l.length c1] xL.world fun e w'' => e = .returned (.int .i64 T) ∧ ∃ z : Later w3, w'' = z.world := fun xL => later_call (vtk_val HT.out _ _ _ _ rfl (by omega) G1.out (r1.below xL.bel))
      go_upto_region 7 with fail
      have lf0 : ∀ xL : Later w3, xL.world.cell? ⟨b, off, none⟩ = some (.bool true) := fun xL => xL.at (p0)
      have lf1 : ∀ xL : Later w3, xL.world.cell? ⟨b, off + 4, none⟩ = some (.int .i64 D) := fun xL => xL.at (p4)
      refine region_later (w0 := w3) (by kernel_rfl) (by kernel_rfl) (bel_refl _) ?_
      repeat (go_big_quiet_step ((first | (go_at_call 14; with_reducible exact LA _) | (go_at_call 17; with_reducible exact LU _) | (go_at_call 17; with_reducible exact LT _) | (go_at_call 11; with_reducible exact LZ _))))
      refine wpQuiet_nil ?_
      rintro w' ⟨x, rfl⟩
      obtain ⟨w7, b7⟩ := x
      clear lf0 lf1
      clear LA LZ LU LT
      replace bw := bel_tr bw b7
      go_wp2
      go_ret
      exact ⟨rfl, bw⟩
  · have hl2 : (1048576 : Int) < (len : Int) := by omega
    go_enter Try.func4, Try.ntmps4
    go_wp2
    go_ret
    exact ⟨rfl, bel_refl _⟩

end Go.Proofs.Ytldgpgljapohiaa.FnIsCanon
