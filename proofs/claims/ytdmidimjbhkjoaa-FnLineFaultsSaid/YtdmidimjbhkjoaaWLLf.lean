/- The walk of the law FnLineFaults: for every input it returns true and turns nothing that was there. -/
import Derived.Test.YtdmidimjbhkjoaaLnL
import Derived.Test.YtdmidimjbhkjoaaOver
import Derived.Test.YtdmidimjbhkjoaaSLf
import Derived.Test.YtdmidimjbhkjoaaBa
import Derived.Test.YtdmidimjbhkjoaaLwP
namespace Go.Proofs.Ytdmidimjbhkjoaa.FnLineFaults
set_option linter.unusedSimpArgs false
set_option linter.unusedVariables false
open Go.RowKit

set_option maxRecDepth 20000 in
set_option maxHeartbeats 4000000 in
theorem walk (A : Option Addr) (len cap : Nat) (w : World) (h : Cod w A len cap) :
    Calls Try.prog 4 #[.slice A len cap] w fun e w' => e = .returned (.bool true) ∧ Below w.heap.size w w' := by
  by_cases hl : len ≤ 1048576
  · go_enter Try.func4, Try.ntmps4
    go_wp2_with fail
    refine (DrawLineFaults_any w A len cap h).mono ?_
    rintro e1 w1 ⟨f, A1, A2, c1, c2, l, T, rfl, lc1, cm1, lc2, cm2, l6, l11, hr, hs, bw⟩
    unfold maxLen at cm1 cm2
    obtain ⟨B, hB⟩ : ∃ B, lgB f l T = B := ⟨_, rfl⟩
    have HB := Lib.hid hB
    obtain ⟨M, hM⟩ : ∃ M, lfL f l T = M := ⟨_, rfl⟩
    have HM := Lib.hid hM
    have hM20 : M.length ≤ 20 := by rw [← hM]; exact lfL_len _ _ _
    have hM2 : M.length ≤ 2 * T.length := lfL_two hM
    have HC : Hid (∀ k, k < M.length → 1 ≤ (atFa M k).code ∧ (atFa M k).code ≤ 7) := fun k hk => lfL_codes hM k hk
    have HU : Hid (∀ k, k + 1 < M.length → (atFa M k).pos ≤ (atFa M (k + 1)).pos) := fun k hk => lfL_up hM k hk
    have HBM : Hid (B = true → M = []) := fun hb => by rw [← hM]; rw [hb] at hB; exact (lgB_nil hB).2
    clear hB hM
    go_wp2_with fail
    refine (lf_valX HM.out _ _ _ _ _ _ _ rfl (by omega) rfl (by omega) hr hs).mono ?_
    rintro e2 w2 ⟨A3, c3, rfl, lc3, cm3, hx, o3, b2⟩
    replace hr := hr.below b2
    replace hs := hs.below b2
    replace bw := bel_tr bw b2
    clear b2 o3
    go_wp2_with fail
    refine (slf_valX HM.out _ _ _ _ _ _ _ rfl (by omega) rfl (by omega) hr hs).mono ?_
    rintro e3 w3 ⟨A4, c4, rfl, lc4, cm4, hy, o4, b3⟩
    replace hr := hr.below b3
    replace hs := hs.below b3
    replace hx := hx.below b3
    replace bw := bel_tr bw b3
    clear b3 o4
    go_wp2
    go_loopw [8] (fun i wr => ∃ k : Nat, k ≤ M.length ∧ i = .int .i64 k ∧ Below w3.heap.size w3 wr) (fun i _ => M.length - (intOf i).toNat)
    case atStart => exact ⟨0, Nat.zero_le _, rfl, bel_refl _⟩
    case round =>
      obtain ⟨k, hk, rfl, hb⟩ := hrel
      by_cases hlt : k < M.length
      · obtain ⟨b, off, rfl, hlb, hc⟩ := (hx.below hb) (by omega)
        obtain ⟨b', off', rfl, hlb', hc'⟩ := (hy.below hb) (by omega)
        have hckx := hc k hlt
        have hcky := hc' k hlt
        have hcc := HC.out k hlt
        have hkl : (k : Int) < (M.length : Int) := by omega
        have hk0 : (0 : Int) ≤ (k : Int) := by omega
        by_cases hz : 0 < k
        · obtain ⟨j, hj⟩ : ∃ j : Nat, k = j + 1 := ⟨k - 1, by omega⟩
          have hcj := hc j (by omega)
          have hup := HU.out j (by omega)
          rw [← hj] at hup
          have hkj : (k : Int) - 1 = (j : Int) := by omega
          have hjl : (j : Int) < (M.length : Int) := by omega
          have hj0 : (0 : Int) ≤ (j : Int) := by omega
          have hz1 : decide (0 < (k : Int)) = true := decide_eq_true (by omega)
          have hz2 : decide (0 < k) = true := decide_eq_true hz
          clear hc hc' hj
          generalize atFa M k = x at hckx hcky hcc hup
          generalize atFa M j = y at hcj hup
          obtain ⟨p0, p1⟩ := hckx
          obtain ⟨q0, q1⟩ := hcky
          obtain ⟨r0, r1⟩ := hcj
          obtain ⟨cc0, cc1⟩ := hcc
          obtain ⟨xp, xc⟩ := x
          obtain ⟨yp, yc⟩ := y
          simp only at p0 p1 q0 q1 r0 r1 cc0 cc1 hup
          have n1 : decide (xp < yp) = false := decide_eq_false (by omega)
          have n2 : decide (xc < 1) = false := decide_eq_false (by omega)
          have n3 : decide (7 < xc) = false := decide_eq_false (by omega)
          have iw : IntKind.i64.wrap ((k : Int) - 1) = (j : Int) := by rw [hkj]; exact IntWalk.i64_in _ (by omega)
          go_wp2_with fail
          have lf0 : ∀ xL : Later wr, xL.world.cell? ⟨b, off + k * 2, none⟩ = some (.int .i64 xp) := fun xL => xL.at (p0)
          have lf1 : ∀ xL : Later wr, xL.world.cell? ⟨b, off + k * 2 + 1, none⟩ = some (.int .i64 xc) := fun xL => xL.at (p1)
          have lf2 : ∀ xL : Later wr, xL.world.cell? ⟨b', off' + k * 2, none⟩ = some (.int .i64 xp) := fun xL => xL.at (q0)
          have lf3 : ∀ xL : Later wr, xL.world.cell? ⟨b', off' + k * 2 + 1, none⟩ = some (.int .i64 xc) := fun xL => xL.at (q1)
          have lf4 : ∀ xL : Later wr, xL.world.cell? ⟨b, off + j * 2, none⟩ = some (.int .i64 yp) := fun xL => xL.at (r0)
          refine region_later (w0 := wr) (by kernel_rfl) (by kernel_rfl) (bel_refl _) ?_
          repeat (go_big_quiet_step ((fail)))
          refine wpQuiet_nil ?_
          rintro w' ⟨x, rfl⟩
          obtain ⟨w5, b5⟩ := x
          clear lf0 lf1 lf2 lf3 lf4
          have hb5 := bel_tr hb b5
          clear p0 p1 q0 q1 r0 r1 hkj iw
          go_wp2
          go_roundw
          case rel => exact ⟨k + 1, by omega, by go_num, hb5⟩
          case measure => simp [intOf]; omega
        · have hz1 : decide (0 < (k : Int)) = false := decide_eq_false (by omega)
          have hz2 : decide (0 < k) = false := decide_eq_false hz
          clear hc hc'
          generalize atFa M k = x at hckx hcky hcc
          obtain ⟨p0, p1⟩ := hckx
          obtain ⟨q0, q1⟩ := hcky
          obtain ⟨cc0, cc1⟩ := hcc
          obtain ⟨xp, xc⟩ := x
          simp only at p0 p1 q0 q1 cc0 cc1
          have n2 : decide (xc < 1) = false := decide_eq_false (by omega)
          have n3 : decide (7 < xc) = false := decide_eq_false (by omega)
          go_wp2_with fail
          have lf0 : ∀ xL : Later wr, xL.world.cell? ⟨b, off + k * 2, none⟩ = some (.int .i64 xp) := fun xL => xL.at (p0)
          have lf1 : ∀ xL : Later wr, xL.world.cell? ⟨b, off + k * 2 + 1, none⟩ = some (.int .i64 xc) := fun xL => xL.at (p1)
          have lf2 : ∀ xL : Later wr, xL.world.cell? ⟨b', off' + k * 2, none⟩ = some (.int .i64 xp) := fun xL => xL.at (q0)
          have lf3 : ∀ xL : Later wr, xL.world.cell? ⟨b', off' + k * 2 + 1, none⟩ = some (.int .i64 xc) := fun xL => xL.at (q1)
          refine region_later (w0 := wr) (by kernel_rfl) (by kernel_rfl) (bel_refl _) ?_
          repeat (go_big_quiet_step ((fail)))
          refine wpQuiet_nil ?_
          rintro w' ⟨x, rfl⟩
          obtain ⟨w5, b5⟩ := x
          clear lf0 lf1 lf2 lf3
          have hb5 := bel_tr hb b5
          clear p0 p1 q0 q1
          go_wp2
          go_roundw
          case rel => exact ⟨k + 1, by omega, by go_num, hb5⟩
          case measure => simp [intOf]; omega
      · obtain rfl : k = M.length := by omega
        replace hr := hr.below hb
        replace hs := hs.below hb
        replace bw := bel_tr bw hb
        have hnl : ¬ (M.length : Int) < (M.length : Int) := by omega
        have h2 : (M.length : Int) ≤ 2 * (T.length : Int) := by omega
        have i2 := IntWalk.i64_in (2 * (T.length : Int)) (by omega)
        clear hb
        go_wp2_with fail
        refine (lg_valX HB.out _ _ _ _ _ _ _ rfl (by omega) rfl (by omega) hr hs).mono ?_
        rintro e7 w7 ⟨rfl, b7⟩
        replace hr := hr.below b7
        replace hs := hs.below b7
        replace bw := bel_tr bw b7
        clear b7
        cases B
        · go_wp2_with fail
          refine (alive_any _).mono ?_
          rintro e8 w8 ⟨rfl, b8⟩
          replace bw := bel_tr bw b8
          clear b8
          go_wp2
          go_ret
          exact ⟨rfl, bw⟩
        · have hm0 : ((M.length : Int) == 0) = true := by rw [HBM.out rfl]; rfl
          go_wp2_with fail
          refine (alive_any _).mono ?_
          rintro e8 w8 ⟨rfl, b8⟩
          replace bw := bel_tr bw b8
          clear b8
          go_wp2
          go_ret
          exact ⟨rfl, bw⟩
  · have hl2 : (1048576 : Int) < (len : Int) := by omega
    go_enter Try.func4, Try.ntmps4
    go_wp2
    go_ret
    exact ⟨rfl, bel_refl _⟩

end Go.Proofs.Ytdmidimjbhkjoaa.FnLineFaults
