/- The walk of the law FnLineGood: for every input it returns true and turns nothing that was there. -/
import Derived.Test.YtdmidimjbhkjoaaLnL
import Derived.Test.YtdmidimjbhkjoaaOver
import Derived.Test.YtdmidimjbhkjoaaSLf
import Derived.Test.YtdmidimjbhkjoaaBa
import Derived.Test.YtdmidimjbhkjoaaLwP
namespace Go.Proofs.Ytdmidimjbhkjoaa.FnLineGood
set_option linter.unusedSimpArgs false
set_option linter.unusedVariables false
open Go.RowKit

set_option maxRecDepth 20000 in
set_option maxHeartbeats 4000000 in
theorem walk (A : Option Addr) (len cap : Nat) (w : World) (h : Cod w A len cap) :
    Calls Try.prog 3 #[.slice A len cap] w fun e w' => e = .returned (.bool true) ∧ Below w.heap.size w w' := by
  by_cases hl : len ≤ 1048576
  · go_enter Try.func3, Try.ntmps3
    go_wp2_with fail
    refine (DrawLineGood_any w A len cap h).mono ?_
    rintro e1 w1 ⟨f, A1, A2, c1, c2, l, T, rfl, lc1, cm1, lc2, cm2, l6, l11, hr, hs, bw⟩
    unfold maxLen at cm1 cm2
    obtain ⟨B, hB⟩ : ∃ B, lgB f l T = B := ⟨_, rfl⟩
    have HB := Lib.hid hB
    go_wp2_with fail
    refine (lg_valX HB.out _ _ _ _ _ _ _ rfl (by omega) rfl (by omega) hr hs).mono ?_
    rintro e2 w2 ⟨rfl, b2⟩
    replace hr := hr.below b2
    replace hs := hs.below b2
    replace bw := bel_tr bw b2
    clear b2
    go_wp2_with fail
    refine (slg_valX HB.out _ _ _ _ _ _ _ rfl (by omega) rfl (by omega) hr hs).mono ?_
    rintro e3 w3 ⟨rfl, b3⟩
    replace hr := hr.below b3
    replace hs := hs.below b3
    replace bw := bel_tr bw b3
    clear b3
    cases B
    · clear hB
      go_wp2_with fail
      refine (alive_any _).mono ?_
      rintro e4 w4 ⟨rfl, b4⟩
      replace bw := bel_tr bw b4
      clear b4
      go_wp2
      go_ret
      exact ⟨rfl, bw⟩
    · obtain ⟨hlen, hnil, hgood⟩ := lg_facts hB
      have HLEN := Lib.hid hlen
      have HN := Lib.hid hnil
      have HG := Lib.hid hgood
      clear hB hlen hnil hgood
      go_wp2
      go_loopw [7, 8] (fun i _ wr => ∃ k : Nat, k ≤ T.length ∧ i = .int .i64 k ∧ Below w3.heap.size w3 wr) (fun i _ _ => T.length - (intOf i).toNat)
      case atStart => exact ⟨0, Nat.zero_le _, rfl, bel_refl _⟩
      case round =>
        obtain ⟨k, hk, rfl, hb⟩ := hrel
        by_cases hlt : k < T.length
        · obtain ⟨b, off, rfl, hlb, hc⟩ := (hr.below hb) (by have := HLEN.out; omega)
          obtain ⟨b', off', rfl, hlb', hc'⟩ := (hs.below hb) (by omega)
          have hckx := hc' k hlt
          have hcky := hc k (by have := HLEN.out; omega)
          clear hc hc'
          have hgk := HG.out k hlt
          have hkl : (k : Int) < (T.length : Int) := by omega
          have hkl2 : (k : Int) < (l.length : Int) := by have := HLEN.out; omega
          have hk0 : (0 : Int) ≤ (k : Int) := by omega
          generalize atPi T k = x at hckx hgk
          generalize atPi l k = y at hcky hgk
          obtain ⟨kx, hkx⟩ : ∃ v, kyP x = v := ⟨_, rfl⟩
          obtain ⟨ky, hky⟩ : ∃ v, kyP y = v := ⟨_, rfl⟩
          have bx := pkI_bd x.step x.alter x.octave
          have by' := pkI_bd y.step y.alter y.octave
          obtain ⟨gi, g0, g1⟩ := hgk
          have HI := Lib.hid gi
          rw [hkx, hky] at g0 g1
          have bx' : -100 ≤ kx ∧ kx ≤ 109 := by rw [← hkx]; exact bx
          have by'' : -100 ≤ ky ∧ ky ≤ 109 := by rw [← hky]; exact by'
          obtain ⟨bx0, bx1⟩ := bx'
          obtain ⟨by0, by1⟩ := by''
          have HX := Lib.hid hkx
          have HY := Lib.hid hky
          clear bx by' gi hkx hky
          have ix := IntWalk.i64_in (kx - ky) (by omega)
          have hd0 : ¬ kx - ky < 0 := by omega
          have hd1 : ¬ 16 < kx - ky := by omega
          have hd2 : decide (kx - ky < 0) = false := decide_eq_false hd0
          have hd3 : decide (16 < kx - ky) = false := decide_eq_false hd1
          obtain ⟨p0, p1, p2⟩ := hckx
          obtain ⟨q0, q1, q2⟩ := hcky
          have LA : ∀ xL : Later wr, Calls Try.prog 9 #[.agg #[.int .i64 x.step, .int .i64 x.alter, .int .i64 x.octave]] xL.world fun e w'' => e = .returned (.int .i64 kx) ∧ ∃ z : Later wr, w'' = z.world := fun xL => later_call (pk_val HX.out _)
          have LB : ∀ xL : Later wr, Calls Try.prog 9 #[.agg #[.int .i64 y.step, .int .i64 y.alter, .int .i64 y.octave]] xL.world fun e w'' => e = .returned (.int .i64 ky) ∧ ∃ z : Later wr, w'' = z.world := fun xL => later_call (pk_val HY.out _)
          go_wp2_with fail
          have lf0 : ∀ xL : Later wr, xL.world.cell? ⟨b', off' + k * 3, none⟩ = some (.int .i64 x.step) := fun xL => xL.at (p0)
          have lf1 : ∀ xL : Later wr, xL.world.cell? ⟨b', off' + k * 3 + 1, none⟩ = some (.int .i64 x.alter) := fun xL => xL.at (p1)
          have lf2 : ∀ xL : Later wr, xL.world.cell? ⟨b', off' + k * 3 + 2, none⟩ = some (.int .i64 x.octave) := fun xL => xL.at (p2)
          have lf3 : ∀ xL : Later wr, xL.world.cell? ⟨b, off + k * 3, none⟩ = some (.int .i64 y.step) := fun xL => xL.at (q0)
          have lf4 : ∀ xL : Later wr, xL.world.cell? ⟨b, off + k * 3 + 1, none⟩ = some (.int .i64 y.alter) := fun xL => xL.at (q1)
          have lf5 : ∀ xL : Later wr, xL.world.cell? ⟨b, off + k * 3 + 2, none⟩ = some (.int .i64 y.octave) := fun xL => xL.at (q2)
          refine region_later (w0 := wr) (by kernel_rfl) (by kernel_rfl) (bel_refl _) ?_
          repeat (go_big_quiet_step ((first | (go_at_call 9; with_reducible exact LA _) | (go_at_call 9; with_reducible exact LB _))))
          refine wpQuiet_nil ?_
          rintro w' ⟨x, rfl⟩
          obtain ⟨w5, b5⟩ := x
          clear lf0 lf1 lf2 lf3 lf4 lf5
          clear LA LB ix
          have x0 := keep_tr p0 b5
          have x1 := keep_tr p1 b5
          have x2 := keep_tr p2 b5
          have hb5 := bel_tr hb b5
          clear p0 p1 p2 q0 q1 q2
          go_wp2_with fail
          refine (ink_val HI.out _).mono ?_
          rintro e6 w6 ⟨rfl, b6⟩
          have hb6 := bel_tr hb5 b6
          clear x0 x1 x2 b6
          go_wp2
          go_roundw
          case rel => exact ⟨k + 1, by omega, by go_num, hb6⟩
          case measure => simp [intOf]; omega
        · obtain rfl : k = T.length := by omega
          replace hr := hr.below hb
          replace hs := hs.below hb
          replace bw := bel_tr bw hb
          have hnl : ¬ (T.length : Int) < (T.length : Int) := by omega
          have hle : ((T.length : Int) == (l.length : Int)) = true := by rw [HLEN.out]; simp
          clear hb
          go_wp2_with fail
          refine (lf_valX HN.out _ _ _ _ _ _ _ rfl (by omega) rfl (by omega) hr hs).mono ?_
          rintro e7 w7 ⟨A7, c7, rfl, lc7, cm7, r7, o7, b7⟩
          replace hr := hr.below b7
          replace hs := hs.below b7
          replace bw := bel_tr bw b7
          clear b7 r7 o7
          go_wp2
          go_ret
          exact ⟨rfl, bw⟩
  · have hl2 : (1048576 : Int) < (len : Int) := by omega
    go_enter Try.func3, Try.ntmps3
    go_wp2
    go_ret
    exact ⟨rfl, bel_refl _⟩

end Go.Proofs.Ytdmidimjbhkjoaa.FnLineGood
