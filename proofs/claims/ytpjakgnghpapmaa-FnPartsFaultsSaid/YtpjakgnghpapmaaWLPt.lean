/- The walk of the law FnPartsFaults: for every input it returns true and turns nothing that was there. -/
import Derived.Test.YtpjakgnghpapmaaPwP
import Derived.Test.YtpjakgnghpapmaaBn
import Derived.Test.YtpjakgnghpapmaaBa
namespace Go.Proofs.Ytpjakgnghpapmaa.FnPartsFaults
set_option linter.unusedSimpArgs false
set_option linter.unusedVariables false
open Go.RowKit

set_option maxRecDepth 20000 in
set_option maxHeartbeats 4000000 in
theorem walk (A : Option Addr) (len cap : Nat) (w : World) (h : Cod w A len cap) :
    Calls Try.prog 4 #[.slice A len cap] w fun e w' => e = .returned (.bool true) ∧ Below w.heap.size w w' := by
  by_cases hl : len ≤ 1048576
  · go_enter Try.func4, Try.ntmps4
    go_wp2_with fail
    refine (DrawPartsFaults_any w A len cap h).mono ?_
    rintro e1 w1 ⟨A1, c1, ll, rfl, lc1, cm1, l9, hs4, hr, bw⟩
    unfold maxLen at cm1
    have HS4 := Lib.hid hs4
    have HBG : Hid (∀ i, i < ll.length → (atPP ll i).length ≤ 2000000) := fun i hi => by have := hs4 i hi; omega
    obtain ⟨M, hM⟩ : ∃ M, pfL ll = M := ⟨_, rfl⟩
    have HM := Lib.hid hM
    have hM20 : M.length ≤ 16 := by rw [← hM]; exact pfL_len ll
    have HC : Hid (∀ k, k < M.length → 1 ≤ (atFa M k).code ∧ (atFa M k).code ≤ 7) := fun k hk => pfL_codes hM k hk
    have HU : Hid (∀ k, k + 1 < M.length → (atFa M k).pos ≤ (atFa M (k + 1)).pos) := fun k hk => pfL_up hM k hk
    clear hM hs4
    go_wp2_with fail
    refine (pf_val HM.out _ _ _ _ rfl (by omega) hr HBG.out).mono ?_
    rintro e2 w2 ⟨A3, c3, rfl, lc3, cm3, hx, o3, b2⟩
    replace hr := hr.below b2
    replace bw := bel_tr bw b2
    clear b2 o3
    go_wp2_with fail
    refine (spf_val HM.out _ _ _ _ rfl (by omega) hr HBG.out).mono ?_
    rintro e3 w3 ⟨A4, c4, rfl, lc4, cm4, hy, o4, b3⟩
    replace hr := hr.below b3
    replace hx := hx.below b3
    replace bw := bel_tr bw b3
    clear b3 o4
    by_cases h8 : ll.length ≤ 8
    · have i8 : ¬ (8 : Int) < (ll.length : Int) := by omega
      have HMN : Hid ((pfK ll ll.length).length = M.length) := by show _ = _; rw [← HM.out]; unfold pfL; rw [if_pos h8]
      go_wp2_with fail
      obtain ⟨wy, hwy⟩ : ∃ z : World, z = w3 := ⟨_, rfl⟩
      rw [← hwy] at bw hr hx hy ⊢
      clear hwy
      go_loopw [6, 7] (fun m i wr => ∃ k : Nat, k ≤ ll.length ∧ i = .int .i64 k ∧ m = .int .i64 ((pfK ll k).length : Int) ∧ Below wy.heap.size wy wr) (fun _ i _ => ll.length - (intOf i).toNat)
      case atStart => exact ⟨0, Nat.zero_le _, rfl, rfl, bel_refl _⟩
      case round =>
        obtain ⟨k, hk, rfl, rfl, hb⟩ := hrel
        by_cases hlt : k < ll.length
        · obtain ⟨lb, lo, rfl, hlb, hlc⟩ := (hr.below hb) (by omega)
          obtain ⟨Ax, cx, x0, xl, xm, xr⟩ := hlc k hlt
          have HLC := Lib.hid hlc
          have hkl : (k : Int) < (ll.length : Int) := by omega
          have hk0 : (0 : Int) ≤ (k : Int) := by omega
          have hxb := HS4.out k hlt
          obtain ⟨x, hx⟩ : ∃ x, atPP ll k = x := ⟨_, rfl⟩
          obtain ⟨s, hs⟩ : ∃ s, sfK ll k = s := ⟨_, rfl⟩
          obtain ⟨t, ht⟩ : ∃ t, mfK ll k = t := ⟨_, rfl⟩
          obtain ⟨N, hN⟩ : ∃ N, (pfK ll k).length = N := ⟨_, rfl⟩
          have hN16 : N ≤ 2 * k := by rw [← hN]; exact pfK_len ll k
          rw [hx] at x0 xl xr hxb
          rw [hN]
          have HX := Lib.hid hx
          have HS := Lib.hid hs
          have HT := Lib.hid ht
          have HN := Lib.hid hN
          have HSX : Hid (stkF x = s) := by show _ = _; rw [← hs, ← hx]; rfl
          clear hlc hx hs ht hN
          go_wp2_with fail
          refine (stk_any _ _ _ x _ rfl (by omega) xr).mono ?_
          rintro e3 w3 ⟨he, b3⟩
          rw [HSX.out] at he
          subst he
          have hb3 := bel_tr hb b3
          replace x0 := keep_tr x0 b3
          replace xr := xr.below b3
          by_cases hz : s = 0
          · subst hz
            by_cases hz0 : 0 < k
            · obtain ⟨j, hj⟩ : ∃ j : Nat, k = j + 1 := ⟨k - 1, by omega⟩
              obtain ⟨Ay, cy, y0, yl, ym, yr⟩ := HLC.out j (by omega)
              have hz1 : decide (0 < (k : Int)) = true := decide_eq_true (by omega)
              have hz2 : decide (0 < k) = true := decide_eq_true hz0
              have hz3 : (0 : Int) < (k : Int) := by omega
              have hkj : (k : Int) - 1 = (j : Int) := by omega
              have hjl : (j : Int) < (ll.length : Int) := by omega
              have hj0 : (0 : Int) ≤ (j : Int) := by omega
              have hyb := HS4.out j (by omega)
              obtain ⟨y, hy⟩ : ∃ y, atPP ll j = y := ⟨_, rfl⟩
              rw [hy] at y0 yl yr hyb
              replace y0 := keep_tr y0 b3
              replace yr := yr.below b3
              have HTX : Hid (mvF y x = t) := by show _ = _; rw [← HT.out, hj, mfK_s, hy, ← hj, HX.out]
              have iw : IntKind.i64.wrap ((k : Int) - 1) = (j : Int) := by rw [hkj]; exact IntWalk.i64_in _ (by omega)
              clear hy hj
              go_upto_region 16 with fail
              have LM : ∀ xL : Later w3, Calls Try.prog 22 #[.slice Ay y.length cy, .slice Ax x.length cx] xL.world fun e w'' => e = .returned (.int .i64 t) ∧ ∃ z : Later w3, w'' = z.world := fun xL => later_call (by have q := mvf_any Ay Ax y.length x.length cy cx y x xL.world rfl rfl (by omega) (by omega) (yr.below xL.bel) (xr.below xL.bel); rw [HTX.out] at q; exact q)
              have lf0 : ∀ xL : Later w3, xL.world.cell? ⟨lb, lo + j, none⟩ = some (.slice Ay y.length cy) := fun xL => xL.at (y0)
              have lf1 : ∀ xL : Later w3, xL.world.cell? ⟨lb, lo + k, none⟩ = some (.slice Ax x.length cx) := fun xL => xL.at (x0)
              refine region_later (w0 := w3) (by kernel_rfl) (by kernel_rfl) (bel_refl _) ?_
              repeat (go_big_quiet_step ((first | (go_at_call 22; with_reducible exact LM _))))
              refine wpQuiet_nil ?_
              rintro w' ⟨x, rfl⟩
              obtain ⟨w9, b9⟩ := x
              clear lf0 lf1
              clear LM iw
              have hb9 := bel_tr hb3 b9
              by_cases ht : t = 0
              · subst ht
                have HLS := Lib.hid (show (pfK ll (k + 1)).length = N from by rw [pfK_lenS, HN.out, HS.out, HT.out]; simp only [onF_0, onF_0, onF_0, Nat.add_zero])
                go_wp2
                go_roundw
                case rel => exact ⟨k + 1, by omega, by go_num, by rw [HLS.out] <;> go_num, hb9⟩
                case measure => simp [intOf]; omega
              · have HZT := Lib.hid ht
                have htb : (t != 0) = true := by simpa using ht
                clear ht
                have HLS := Lib.hid (show (pfK ll (k + 1)).length = N + 1 from by rw [pfK_lenS, HN.out, HS.out, HT.out]; simp only [onF_0, onF_1 HZT.out, onF_0, Nat.add_zero])
                go_wp2
                go_roundw
                case rel => exact ⟨k + 1, by omega, by go_num, by rw [HLS.out] <;> go_num, hb9⟩
                case measure => simp [intOf]; omega
            · have HT0 := Lib.hid (show t = 0 from by rw [← HT.out, show k = 0 from by omega]; rfl)
              have hz1 : decide (0 < (k : Int)) = false := decide_eq_false (by omega)
              have hz2 : decide (0 < k) = false := decide_eq_false hz0
              have hz3 : ¬ (0 : Int) < (k : Int) := by omega
              have HLS := Lib.hid (show (pfK ll (k + 1)).length = N from by rw [pfK_lenS, HN.out, HS.out, HT.out]; simp only [onF_0, HT0.out, onF_0, Nat.add_zero])
              go_upto_region 16 with fail
              refine region_later (w0 := w3) (by kernel_rfl) (by kernel_rfl) (bel_refl _) ?_
              repeat (go_big_quiet_step ((fail)))
              refine wpQuiet_nil ?_
              rintro w' ⟨x, rfl⟩
              obtain ⟨w9, b9⟩ := x
              have hb9 := bel_tr hb3 b9
              go_wp2
              go_roundw
              case rel => exact ⟨k + 1, by omega, by go_num, by rw [HLS.out] <;> go_num, hb9⟩
              case measure => simp [intOf]; omega
          · have HZ := Lib.hid hz
            have hzb : (s != 0) = true := by simpa using hz
            clear hz
            by_cases hz0 : 0 < k
            · obtain ⟨j, hj⟩ : ∃ j : Nat, k = j + 1 := ⟨k - 1, by omega⟩
              obtain ⟨Ay, cy, y0, yl, ym, yr⟩ := HLC.out j (by omega)
              have hz1 : decide (0 < (k : Int)) = true := decide_eq_true (by omega)
              have hz2 : decide (0 < k) = true := decide_eq_true hz0
              have hz3 : (0 : Int) < (k : Int) := by omega
              have hkj : (k : Int) - 1 = (j : Int) := by omega
              have hjl : (j : Int) < (ll.length : Int) := by omega
              have hj0 : (0 : Int) ≤ (j : Int) := by omega
              have hyb := HS4.out j (by omega)
              obtain ⟨y, hy⟩ : ∃ y, atPP ll j = y := ⟨_, rfl⟩
              rw [hy] at y0 yl yr hyb
              replace y0 := keep_tr y0 b3
              replace yr := yr.below b3
              have HTX : Hid (mvF y x = t) := by show _ = _; rw [← HT.out, hj, mfK_s, hy, ← hj, HX.out]
              have iw : IntKind.i64.wrap ((k : Int) - 1) = (j : Int) := by rw [hkj]; exact IntWalk.i64_in _ (by omega)
              clear hy hj
              go_upto_region 16 with fail
              have LM : ∀ xL : Later w3, Calls Try.prog 22 #[.slice Ay y.length cy, .slice Ax x.length cx] xL.world fun e w'' => e = .returned (.int .i64 t) ∧ ∃ z : Later w3, w'' = z.world := fun xL => later_call (by have q := mvf_any Ay Ax y.length x.length cy cx y x xL.world rfl rfl (by omega) (by omega) (yr.below xL.bel) (xr.below xL.bel); rw [HTX.out] at q; exact q)
              have lf0 : ∀ xL : Later w3, xL.world.cell? ⟨lb, lo + j, none⟩ = some (.slice Ay y.length cy) := fun xL => xL.at (y0)
              have lf1 : ∀ xL : Later w3, xL.world.cell? ⟨lb, lo + k, none⟩ = some (.slice Ax x.length cx) := fun xL => xL.at (x0)
              refine region_later (w0 := w3) (by kernel_rfl) (by kernel_rfl) (bel_refl _) ?_
              repeat (go_big_quiet_step ((first | (go_at_call 22; with_reducible exact LM _))))
              refine wpQuiet_nil ?_
              rintro w' ⟨x, rfl⟩
              obtain ⟨w9, b9⟩ := x
              clear lf0 lf1
              clear LM iw
              have hb9 := bel_tr hb3 b9
              by_cases ht : t = 0
              · subst ht
                have HLS := Lib.hid (show (pfK ll (k + 1)).length = N + 1 from by rw [pfK_lenS, HN.out, HS.out, HT.out]; simp only [onF_1 HZ.out, onF_0, onF_0, Nat.add_zero])
                go_wp2
                go_roundw
                case rel => exact ⟨k + 1, by omega, by go_num, by rw [HLS.out] <;> go_num, hb9⟩
                case measure => simp [intOf]; omega
              · have HZT := Lib.hid ht
                have htb : (t != 0) = true := by simpa using ht
                clear ht
                have HLS := Lib.hid (show (pfK ll (k + 1)).length = N + 1 + 1 from by rw [pfK_lenS, HN.out, HS.out, HT.out]; simp only [onF_1 HZ.out, onF_1 HZT.out, onF_0, Nat.add_zero])
                go_wp2
                go_roundw
                case rel => exact ⟨k + 1, by omega, by go_num, by rw [HLS.out] <;> go_num, hb9⟩
                case measure => simp [intOf]; omega
            · have HT0 := Lib.hid (show t = 0 from by rw [← HT.out, show k = 0 from by omega]; rfl)
              have hz1 : decide (0 < (k : Int)) = false := decide_eq_false (by omega)
              have hz2 : decide (0 < k) = false := decide_eq_false hz0
              have hz3 : ¬ (0 : Int) < (k : Int) := by omega
              have HLS := Lib.hid (show (pfK ll (k + 1)).length = N + 1 from by rw [pfK_lenS, HN.out, HS.out, HT.out]; simp only [onF_1 HZ.out, HT0.out, onF_0, Nat.add_zero])
              go_upto_region 16 with fail
              refine region_later (w0 := w3) (by kernel_rfl) (by kernel_rfl) (bel_refl _) ?_
              repeat (go_big_quiet_step ((fail)))
              refine wpQuiet_nil ?_
              rintro w' ⟨x, rfl⟩
              obtain ⟨w9, b9⟩ := x
              have hb9 := bel_tr hb3 b9
              go_wp2
              go_roundw
              case rel => exact ⟨k + 1, by omega, by go_num, by rw [HLS.out] <;> go_num, hb9⟩
              case measure => simp [intOf]; omega
        · obtain rfl : k = ll.length := by omega
          rw [HMN.out]
          replace bw := bel_tr bw hb
          replace hx := hx.below hb
          replace hy := hy.below hb
          clear hb hr
          obtain ⟨wz, hwz⟩ : ∃ z : World, z = wr := ⟨_, rfl⟩
          rw [← hwz] at bw hx hy ⊢
          clear hwz
          go_wp2_with fail
          go_loopw [8] (fun i wr => ∃ k : Nat, k ≤ M.length ∧ i = .int .i64 k ∧ Below wz.heap.size wz wr) (fun i _ => M.length - (intOf i).toNat)
          case atStart => exact ⟨0, Nat.zero_le _, rfl, bel_refl _⟩
          case round =>
            obtain ⟨k, hk, rfl, hb⟩ := hrel
            by_cases hlt : k < M.length
            · obtain ⟨b, off, rfl, hlb, hc⟩ := (hx.below hb) (by omega)
              obtain ⟨b', off', rfl, hlb', hc'⟩ := (hy.below hb) (by omega)
              have hckx := hc k hlt
              have hcky := hc' k hlt
              have hcc := HC.out k hlt
              have hkl : (k : Int) < (M.length : Int) := by omega
              have hk0 : (0 : Int) ≤ (k : Int) := by omega
              by_cases hz : 0 < k
              · obtain ⟨j, hj⟩ : ∃ j : Nat, k = j + 1 := ⟨k - 1, by omega⟩
                have hcj := hc j (by omega)
                have hup := HU.out j (by omega)
                rw [← hj] at hup
                have hkj : (k : Int) - 1 = (j : Int) := by omega
                have hjl : (j : Int) < (M.length : Int) := by omega
                have hj0 : (0 : Int) ≤ (j : Int) := by omega
                have hz1 : decide (0 < (k : Int)) = true := decide_eq_true (by omega)
                have hz2 : decide (0 < k) = true := decide_eq_true hz
                clear hc hc' hj
                generalize atFa M k = x at hckx hcky hcc hup
                generalize atFa M j = y at hcj hup
                obtain ⟨p0, p1⟩ := hckx
                obtain ⟨q0, q1⟩ := hcky
                obtain ⟨r0, r1⟩ := hcj
                obtain ⟨cc0, cc1⟩ := hcc
                obtain ⟨xp, xc⟩ := x
                obtain ⟨yp, yc⟩ := y
                simp only at p0 p1 q0 q1 r0 r1 cc0 cc1 hup
                have n1 : decide (xp < yp) = false := decide_eq_false (by omega)
                have n2 : decide (xc < 1) = false := decide_eq_false (by omega)
                have n3 : decide (7 < xc) = false := decide_eq_false (by omega)
                have iw : IntKind.i64.wrap ((k : Int) - 1) = (j : Int) := by rw [hkj]; exact IntWalk.i64_in _ (by omega)
                go_wp2_with fail
                have lf0 : ∀ xL : Later wr, xL.world.cell? ⟨b, off + k * 2, none⟩ = some (.int .i64 xp) := fun xL => xL.at (p0)
                have lf1 : ∀ xL : Later wr, xL.world.cell? ⟨b, off + k * 2 + 1, none⟩ = some (.int .i64 xc) := fun xL => xL.at (p1)
                have lf2 : ∀ xL : Later wr, xL.world.cell? ⟨b', off' + k * 2, none⟩ = some (.int .i64 xp) := fun xL => xL.at (q0)
                have lf3 : ∀ xL : Later wr, xL.world.cell? ⟨b', off' + k * 2 + 1, none⟩ = some (.int .i64 xc) := fun xL => xL.at (q1)
                have lf4 : ∀ xL : Later wr, xL.world.cell? ⟨b, off + j * 2, none⟩ = some (.int .i64 yp) := fun xL => xL.at (r0)
                refine region_later (w0 := wr) (by kernel_rfl) (by kernel_rfl) (bel_refl _) ?_
                repeat (go_big_quiet_step ((fail)))
                refine wpQuiet_nil ?_
                rintro w' ⟨x, rfl⟩
                obtain ⟨w5, b5⟩ := x
                clear lf0 lf1 lf2 lf3 lf4
                have hb5 := bel_tr hb b5
                clear p0 p1 q0 q1 r0 r1 hkj iw
                go_wp2
                go_roundw
                case rel => exact ⟨k + 1, by omega, by go_num, hb5⟩
                case measure => simp [intOf]; omega
              · have hz1 : decide (0 < (k : Int)) = false := decide_eq_false (by omega)
                have hz2 : decide (0 < k) = false := decide_eq_false hz
                clear hc hc'
                generalize atFa M k = x at hckx hcky hcc
                obtain ⟨p0, p1⟩ := hckx
                obtain ⟨q0, q1⟩ := hcky
                obtain ⟨cc0, cc1⟩ := hcc
                obtain ⟨xp, xc⟩ := x
                simp only at p0 p1 q0 q1 cc0 cc1
                have n2 : decide (xc < 1) = false := decide_eq_false (by omega)
                have n3 : decide (7 < xc) = false := decide_eq_false (by omega)
                go_wp2_with fail
                have lf0 : ∀ xL : Later wr, xL.world.cell? ⟨b, off + k * 2, none⟩ = some (.int .i64 xp) := fun xL => xL.at (p0)
                have lf1 : ∀ xL : Later wr, xL.world.cell? ⟨b, off + k * 2 + 1, none⟩ = some (.int .i64 xc) := fun xL => xL.at (p1)
                have lf2 : ∀ xL : Later wr, xL.world.cell? ⟨b', off' + k * 2, none⟩ = some (.int .i64 xp) := fun xL => xL.at (q0)
                have lf3 : ∀ xL : Later wr, xL.world.cell? ⟨b', off' + k * 2 + 1, none⟩ = some (.int .i64 xc) := fun xL => xL.at (q1)
                refine region_later (w0 := wr) (by kernel_rfl) (by kernel_rfl) (bel_refl _) ?_
                repeat (go_big_quiet_step ((fail)))
                refine wpQuiet_nil ?_
                rintro w' ⟨x, rfl⟩
                obtain ⟨w5, b5⟩ := x
                clear lf0 lf1 lf2 lf3
                have hb5 := bel_tr hb b5
                clear p0 p1 q0 q1
                go_wp2
                go_roundw
                case rel => exact ⟨k + 1, by omega, by go_num, hb5⟩
                case measure => simp [intOf]; omega
            · obtain rfl : k = M.length := by omega
              replace bw := bel_tr bw hb
              go_wp2
              go_ret
              exact ⟨rfl, bw⟩
    · have i8 : (8 : Int) < (ll.length : Int) := by omega
      have hm0 : M.length = 0 := by rw [← HM.out]; unfold pfL; rw [if_neg h8]; rfl
      have hm1 : ((M.length : Int) == 0) = true := by rw [hm0]; rfl
      clear hm0
      go_wp2_with fail
      refine (alive_any _).mono ?_
      rintro e4 w4 ⟨rfl, b4⟩
      replace bw := bel_tr bw b4
      clear b4
      go_wp2
      go_ret
      exact ⟨rfl, bw⟩
  · have hl2 : (1048576 : Int) < (len : Int) := by omega
    go_enter Try.func4, Try.ntmps4
    go_wp2
    go_ret
    exact ⟨rfl, bel_refl _⟩

end Go.Proofs.Ytpjakgnghpapmaa.FnPartsFaults
