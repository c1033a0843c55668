/- The walk of the law FnLineNumber: for every input it returns true and turns nothing that was there. -/
import Derived.Test.YtkchlgmlfihkdaaLnL
import Derived.Test.YtkchlgmlfihkdaaDrLn
import Derived.Test.YtkchlgmlfihkdaaSpP
namespace Go.Proofs.Ytkchlgmlfihkdaa.FnLineNumber
set_option linter.unusedSimpArgs false
set_option linter.unusedVariables false
open Go.RowKit

theorem lnR_mem {f : Int} {c L : List Pi} {lo hi num : Int} (h0 : 0 ≤ num) (h1 : num < clI f c lo hi) (hL : (lnR f c lo hi num).getD [] = L) : L.length = c.length ∧ ∀ k, k < L.length → lo ≤ kyP (atPi L k) ∧ kyP (atPi L k) ≤ hi := by
  obtain ⟨_, M, e, _, hl, hg⟩ := lnR_small h0 h1
  rw [e] at hL
  have e2 : M = L := hL
  subst e2
  exact ⟨hl, fun k hk => tns_mem (hg k hk).1⟩
theorem lnR_next {f : Int} {c L M : List Pi} {lo hi num : Int} (h0 : 0 ≤ num) (h1 : num + 1 < clI f c lo hi) (hL : (lnR f c lo hi num).getD [] = L) (hM : (lnR f c lo hi (num + 1)).getD [] = M) : ltL L M := by
  obtain ⟨ho, L', e, g, hl, hg⟩ := lnR_small (f := f) (c := c) (lo := lo) (hi := hi) (num := num) h0 (by omega)
  obtain ⟨_, M', e', g', _, _⟩ := lnR_small (f := f) (c := c) (lo := lo) (hi := hi) (num := num + 1) (by omega) h1
  rw [e] at hL
  rw [e'] at hM
  have e2 : L' = L := hL
  have e3 : M' = M := hM
  subst e2 e3
  have hn := op_len ho
  exact goL_succ (tns_len _ _ _) hn.2 (tns_sorted _ _ _) c.length [] num (by omega) (by simp) h0 _ _ g g'
theorem pi_ne {x y : Pi} (h : kyP x < kyP y) : ((y.step == x.step) = false) ∨ (y.step = x.step ∧ (y.alter == x.alter) = false) ∨ (y.step = x.step ∧ y.alter = x.alter ∧ (y.octave == x.octave) = false) := by
  simp only [beq_eq_false_iff_ne, ne_eq]
  by_cases h1 : y.step = x.step
  · by_cases h2 : y.alter = x.alter
    · by_cases h3 : y.octave = x.octave
      · exfalso
        have e : kyP x = kyP y := by unfold kyP; rw [h1, h2, h3]
        omega
      · exact .inr (.inr ⟨h1, h2, h3⟩)
    · exact .inr (.inl ⟨h1, h2⟩)
  · exact .inl h1

set_option maxRecDepth 20000 in
set_option maxHeartbeats 4000000 in
theorem walk (A : Option Addr) (len cap : Nat) (w : World) (h : Cod w A len cap) :
    Calls Try.prog 11 #[.slice A len cap] w fun e w' => e = .returned (.bool true) ∧ Below w.heap.size w w' := by
  by_cases hl : len ≤ 1048576
  · go_enter Try.func11, Try.ntmps11
    go_wp2_with fail
    refine (DrawLineNumber_any w A len cap h).mono ?_
    rintro e1 w1 ⟨f, A1, c1, l, lo, hi, num, rfl, lc, cm, l6, ⟨lo0, lo1⟩, ⟨hi0, hi1⟩, ⟨nu0, nu1⟩, hr, bw⟩
    unfold maxLen at cm
    obtain ⟨v, hv⟩ : ∃ v, clI f l lo hi = v := ⟨_, rfl⟩
    obtain ⟨Lx, hL⟩ : ∃ L, (lnR f l lo hi num).getD [] = L := ⟨_, rfl⟩
    obtain ⟨B, hB⟩ : ∃ B, (lnR f l lo hi num).isSome = B := ⟨_, rfl⟩
    have hLn : Lx.length ≤ 10 := by rw [← hL]; exact lnR_len _ _ _ _ _
    have HV := Lib.hid hv
    have HL := Lib.hid hL
    have HB := Lib.hid hB
    have hvb := clI_bd f l lo hi
    rw [hv] at hvb
    obtain ⟨vb0, vb1⟩ := hvb
    by_cases hin : 0 ≤ num ∧ num < v
    · obtain ⟨hn0, hn1⟩ := hin
      have hBt : B = true := by rw [← hB, lnR_iff hn0, hv]; exact decide_eq_true hn1
      subst hBt
      obtain ⟨hll, hmem⟩ := lnR_mem hn0 (by rw [hv]; exact hn1) hL
      have hg : lgB f l Lx = true := by
        rcases lnR_get hL hB with ⟨h, _⟩ | ⟨_, h⟩
        · cases h
        · exact h
      obtain ⟨L2, hL2⟩ : ∃ L, (lnR f l lo hi (num + 1)).getD [] = L := ⟨_, rfl⟩
      obtain ⟨B2, hB2⟩ : ∃ B, (lnR f l lo hi (num + 1)).isSome = B := ⟨_, rfl⟩
      have hL2n : L2.length ≤ 10 := by rw [← hL2]; exact lnR_len _ _ _ _ _
      have hB2v : decide (num + 1 < v) = B2 := by rw [← hB2, lnR_iff (by omega), hv]
      have HLT : Hid (B2 = true → ltL Lx L2) := fun hb => lnR_next hn0 (by rw [hv]; rw [hb] at hB2v; exact of_decide_eq_true hB2v) hL hL2
      have HNO : Hid (B2 = false → L2 = []) := fun hb => by
        rcases lnR_get hL2 hB2 with ⟨_, h⟩ | ⟨h, _⟩
        · exact h
        · rw [hb] at h; cases h
      have HMEM := Lib.hid hmem
      have HLL := Lib.hid hll
      have HG := Lib.hid hg
      have HL2 := Lib.hid hL2
      have HB2 := Lib.hid hB2
      have HB2V := Lib.hid hB2v
      have inw := IntWalk.i64_in (num + 1) (by omega)
      clear hv hL hB hmem hll hg hL2 hB2 hB2v
      go_wp2_with fail
      refine (ln_val HL.out HB.out _ _ _ _ (by omega) rfl (by omega) hr).mono ?_
      rintro e3 w3 ⟨A3, c3, rfl, lc3, cm3, r3, o3, b3⟩
      replace hr := hr.below b3
      replace bw := bel_tr bw b3
      clear b3 o3
      go_wp2_with fail
      refine (sln_val HL.out HB.out _ _ _ _ (by omega) rfl (by omega) hr).mono ?_
      rintro e4 w4 ⟨A4, c4, rfl, lc4, cm4, r4, o4, b4⟩
      replace hr := hr.below b4
      replace r3 := r3.below b4
      replace bw := bel_tr bw b4
      clear b4 o4
      go_wp2_with fail
      refine (sp_same _ _ _ _ _ _ _ rfl (by omega) r3 r4).mono ?_
      rintro e5 w5 ⟨rfl, b5⟩
      replace hr := hr.below b5
      replace r3 := r3.below b5
      replace bw := bel_tr bw b5
      clear b5
      go_wp2_with fail
      refine (cl_val HV.out _ _ _ _ rfl (by omega) hr).mono ?_
      rintro e6 w6 ⟨rfl, b6⟩
      replace hr := hr.below b6
      replace r3 := r3.below b6
      replace bw := bel_tr bw b6
      clear b6
      go_wp2
      go_loopw [13, 14] (fun i _ wr => ∃ k : Nat, k ≤ Lx.length ∧ i = .int .i64 k ∧ Below w6.heap.size w6 wr) (fun i _ _ => Lx.length - (intOf i).toNat)
      case atStart => exact ⟨0, Nat.zero_le _, rfl, bel_refl _⟩
      case round =>
        obtain ⟨k, hk, rfl, hb⟩ := hrel
        by_cases hlt : k < Lx.length
        · obtain ⟨b, off, rfl, hlb, hc⟩ := (r3.below hb) (by omega)
          have hck := hc k hlt
          have hkl : (k : Int) < (Lx.length : Int) := by omega
          have hk0 : (0 : Int) ≤ (k : Int) := by omega
          have hm := HMEM.out k hlt
          clear hc
          obtain ⟨x, hx⟩ : ∃ x, atPi Lx k = x := ⟨_, rfl⟩
          rw [hx] at hck hm
          clear hx
          obtain ⟨y, hy⟩ : ∃ y, kyP x = y := ⟨_, rfl⟩
          rw [hy] at hm
          have HY : Hid (pkI x.step x.alter x.octave = y) := hy
          clear hy
          obtain ⟨p0, p1, p2⟩ := hck
          obtain ⟨m0, m1⟩ := hm
          have hn1' : ¬ y < lo := by omega
          have hn2' : ¬ hi < y := by omega
          go_wp2_with (go_at_call 28; refine (pk_val HY.out _).mono ?_; rintro e7 w7 ⟨rfl, b7⟩; have hb7 := bel_tr hb b7)
          go_roundw
          case rel => exact ⟨k + 1, by omega, by go_num, hb7⟩
          case measure => simp [intOf]; omega
        · have hkl : k = Lx.length := by omega
          have hnl : ¬ (k : Int) < (Lx.length : Int) := by omega
          subst hkl
          replace hr := hr.below hb
          replace r3 := r3.below hb
          replace bw := bel_tr bw hb
          clear hb
          go_wp2_with fail
          refine (ln_val HL2.out HB2.out _ _ _ _ (by omega) rfl (by omega) hr).mono ?_
          rintro e8 w8 ⟨A8, c8, rfl, lc8, cm8, r8, o8, b8⟩
          replace hr := hr.below b8
          replace r3 := r3.below b8
          replace bw := bel_tr bw b8
          clear b8 o8
          cases B2
          · have h20 := HNO.out rfl
            subst h20
            have hB2v := HB2V.out
            have hnn : ¬ num + 1 < v := of_decide_eq_false hB2v
            go_wp2
            go_loopw [17, 18] (fun a i wr => i = .int .i64 0 ∧ a = .bool true ∧ Below w8.heap.size w8 wr) (fun _ _ _ => 0)
            case atStart => exact ⟨rfl, rfl, bel_refl _⟩
            case round =>
              obtain ⟨rfl, rfl, hb⟩ := hrel
              have HRR := hr.below hb
              have R33 := r3.below hb
              replace bw := bel_tr bw hb
              go_wp2_with fail
              refine (lg_valX HG.out _ _ _ _ _ _ _ rfl (by omega) rfl (by omega) HRR R33).mono ?_
              rintro e9 w9 ⟨rfl, b9⟩
              replace bw := bel_tr bw b9
              clear b9
              go_wp2
              go_ret
              exact ⟨rfl, bw⟩
          · obtain ⟨j, hj1, hj2, hje, hjk⟩ := HLT.out rfl
            have hB2v := HB2V.out
            have hnn : num + 1 < v := of_decide_eq_true hB2v
            have HJE := Lib.hid hje
            have HJK := Lib.hid hjk
            clear hje hjk
            go_wp2
            go_loopw [17, 18] (fun a i wr => ∃ k : Nat, k ≤ j ∧ i = .int .i64 k ∧ a = .bool false ∧ Below w8.heap.size w8 wr) (fun _ i _ => j - (intOf i).toNat)
            case atStart => exact ⟨0, Nat.zero_le _, rfl, rfl, bel_refl _⟩
            case round =>
              obtain ⟨k, hk, rfl, rfl, hb⟩ := hrel
              obtain ⟨b, off, rfl, hlb, hc⟩ := (r3.below hb) (by omega)
              obtain ⟨b', off', rfl, hlb', hc'⟩ := (r8.below hb) (by omega)
              have hck := hc k (by omega)
              have hck' := hc' k (by omega)
              clear hc hc'
              have hkl : (k : Int) < (Lx.length : Int) := by omega
              have hkl2 : (k : Int) < (L2.length : Int) := by omega
              have hk0 : (0 : Int) ≤ (k : Int) := by omega
              obtain ⟨x, hx⟩ : ∃ x, atPi Lx k = x := ⟨_, rfl⟩
              obtain ⟨y, hy⟩ : ∃ y, atPi L2 k = y := ⟨_, rfl⟩
              rw [hx] at hck
              rw [hy] at hck'
              have HX := Lib.hid hx
              have HY := Lib.hid hy
              clear hx hy
              obtain ⟨p0, p1, p2⟩ := hck
              obtain ⟨q0, q1, q2⟩ := hck'
              by_cases hkj : k < j
              · have hxy : y = x := by rw [← HX.out, ← HY.out]; exact (HJE.out k hkj).symm
                subst hxy
                obtain ⟨s0, s1, s2⟩ := y
                go_upto_region 22 with fail
                have lf0 : ∀ xL : Later wr, xL.world.cell? ⟨b', off' + k * 3, none⟩ = some (.int .i64 s0) := fun xL => xL.at (q0)
                have lf1 : ∀ xL : Later wr, xL.world.cell? ⟨b', off' + k * 3 + 1, none⟩ = some (.int .i64 s1) := fun xL => xL.at (q1)
                have lf2 : ∀ xL : Later wr, xL.world.cell? ⟨b', off' + k * 3 + 2, none⟩ = some (.int .i64 s2) := fun xL => xL.at (q2)
                have lf3 : ∀ xL : Later wr, xL.world.cell? ⟨b, off + k * 3, none⟩ = some (.int .i64 s0) := fun xL => xL.at (p0)
                have lf4 : ∀ xL : Later wr, xL.world.cell? ⟨b, off + k * 3 + 1, none⟩ = some (.int .i64 s1) := fun xL => xL.at (p1)
                have lf5 : ∀ xL : Later wr, xL.world.cell? ⟨b, off + k * 3 + 2, none⟩ = some (.int .i64 s2) := fun xL => xL.at (p2)
                refine region_later (w0 := wr) (by kernel_rfl) (by kernel_rfl) (bel_refl _) ?_
                repeat (go_big_quiet_step ((fail)))
                refine wpQuiet_nil ?_
                rintro w' ⟨x, rfl⟩
                obtain ⟨w9, b9⟩ := x
                clear lf0 lf1 lf2 lf3 lf4 lf5
                have hb9 := bel_tr hb b9
                go_wp2
                go_roundw
                case rel => exact ⟨k + 1, by omega, by go_num, rfl, hb9⟩
                case measure => simp [intOf]; omega
              · have hkk : k = j := by omega
                have hky : kyP x < kyP y := by rw [← HX.out, ← HY.out, hkk]; exact HJK.out
                have hpn := pi_ne hky
                obtain ⟨kx, hkx⟩ : ∃ z, kyP x = z := ⟨_, rfl⟩
                obtain ⟨ky, hky2⟩ : ∃ z, kyP y = z := ⟨_, rfl⟩
                rw [hkx, hky2] at hky
                have HKX : Hid (pkI x.step x.alter x.octave = kx) := hkx
                have HKY : Hid (pkI y.step y.alter y.octave = ky) := hky2
                clear hkx hky2 hkk HX HY
                obtain ⟨x0, x1, x2⟩ := x
                obtain ⟨y0, y1, y2⟩ := y
                simp only at p0 p1 p2 q0 q1 q2 hpn HKX HKY
                rcases hpn with hpn | ⟨rfl, hpn⟩ | ⟨rfl, rfl, hpn⟩
                · go_upto_region 22 with fail
                  have lf0 : ∀ xL : Later wr, xL.world.cell? ⟨b', off' + k * 3, none⟩ = some (.int .i64 y0) := fun xL => xL.at (q0)
                  have lf1 : ∀ xL : Later wr, xL.world.cell? ⟨b', off' + k * 3 + 1, none⟩ = some (.int .i64 y1) := fun xL => xL.at (q1)
                  have lf2 : ∀ xL : Later wr, xL.world.cell? ⟨b', off' + k * 3 + 2, none⟩ = some (.int .i64 y2) := fun xL => xL.at (q2)
                  have lf3 : ∀ xL : Later wr, xL.world.cell? ⟨b, off + k * 3, none⟩ = some (.int .i64 x0) := fun xL => xL.at (p0)
                  have lf4 : ∀ xL : Later wr, xL.world.cell? ⟨b, off + k * 3 + 1, none⟩ = some (.int .i64 x1) := fun xL => xL.at (p1)
                  have lf5 : ∀ xL : Later wr, xL.world.cell? ⟨b, off + k * 3 + 2, none⟩ = some (.int .i64 x2) := fun xL => xL.at (p2)
                  refine region_later (w0 := wr) (by kernel_rfl) (by kernel_rfl) (bel_refl _) ?_
                  repeat (go_big_quiet_step ((fail)))
                  refine wpQuiet_nil ?_
                  rintro w' ⟨x, rfl⟩
                  obtain ⟨w9, b9⟩ := x
                  clear lf0 lf1 lf2 lf3 lf4 lf5
                  replace p0 := keep_tr p0 b9
                  replace p1 := keep_tr p1 b9
                  replace p2 := keep_tr p2 b9
                  replace q0 := keep_tr q0 b9
                  replace q1 := keep_tr q1 b9
                  replace q2 := keep_tr q2 b9
                  have hb9 := bel_tr hb b9
                  have LA : ∀ xL : Later w9, Calls Try.prog 28 #[.agg #[.int .i64 y0, .int .i64 y1, .int .i64 y2]] xL.world fun e w'' => e = .returned (.int .i64 ky) ∧ ∃ z : Later w9, w'' = z.world := fun xL => later_call (pk_val HKY.out _)
                  have LB : ∀ xL : Later w9, Calls Try.prog 28 #[.agg #[.int .i64 x0, .int .i64 x1, .int .i64 x2]] xL.world fun e w'' => e = .returned (.int .i64 kx) ∧ ∃ z : Later w9, w'' = z.world := fun xL => later_call (pk_val HKX.out _)
                  go_upto_region 23 with fail
                  have lf0 : ∀ xL : Later w9, xL.world.cell? ⟨b', off' + k * 3, none⟩ = some (.int .i64 y0) := fun xL => xL.at (q0)
                  have lf1 : ∀ xL : Later w9, xL.world.cell? ⟨b', off' + k * 3 + 1, none⟩ = some (.int .i64 y1) := fun xL => xL.at (q1)
                  have lf2 : ∀ xL : Later w9, xL.world.cell? ⟨b', off' + k * 3 + 2, none⟩ = some (.int .i64 y2) := fun xL => xL.at (q2)
                  have lf3 : ∀ xL : Later w9, xL.world.cell? ⟨b, off + k * 3, none⟩ = some (.int .i64 x0) := fun xL => xL.at (p0)
                  have lf4 : ∀ xL : Later w9, xL.world.cell? ⟨b, off + k * 3 + 1, none⟩ = some (.int .i64 x1) := fun xL => xL.at (p1)
                  have lf5 : ∀ xL : Later w9, xL.world.cell? ⟨b, off + k * 3 + 2, none⟩ = some (.int .i64 x2) := fun xL => xL.at (p2)
                  refine region_later (w0 := w9) (by kernel_rfl) (by kernel_rfl) (bel_refl _) ?_
                  repeat (go_big_quiet_step ((first | (go_at_call 28; with_reducible exact LA _) | (go_at_call 28; with_reducible exact LB _))))
                  refine wpQuiet_nil ?_
                  rintro w' ⟨x, rfl⟩
                  obtain ⟨wA, bA⟩ := x
                  clear lf0 lf1 lf2 lf3 lf4 lf5
                  clear LA LB p0 p1 p2 q0 q1 q2
                  have hbA := bel_tr hb9 bA
                  have HRR := hr.below hbA
                  have R33 := r3.below hbA
                  replace bw := bel_tr bw hbA
                  go_wp2_with fail
                  refine (lg_valX HG.out _ _ _ _ _ _ _ rfl (by omega) rfl (by omega) HRR R33).mono ?_
                  rintro eB wB ⟨rfl, bB⟩
                  replace bw := bel_tr bw bB
                  clear bB
                  go_wp2
                  go_ret
                  exact ⟨rfl, bw⟩
                · go_upto_region 22 with fail
                  have lf0 : ∀ xL : Later wr, xL.world.cell? ⟨b', off' + k * 3, none⟩ = some (.int .i64 y0) := fun xL => xL.at (q0)
                  have lf1 : ∀ xL : Later wr, xL.world.cell? ⟨b', off' + k * 3 + 1, none⟩ = some (.int .i64 y1) := fun xL => xL.at (q1)
                  have lf2 : ∀ xL : Later wr, xL.world.cell? ⟨b', off' + k * 3 + 2, none⟩ = some (.int .i64 y2) := fun xL => xL.at (q2)
                  have lf3 : ∀ xL : Later wr, xL.world.cell? ⟨b, off + k * 3, none⟩ = some (.int .i64 y0) := fun xL => xL.at (p0)
                  have lf4 : ∀ xL : Later wr, xL.world.cell? ⟨b, off + k * 3 + 1, none⟩ = some (.int .i64 x1) := fun xL => xL.at (p1)
                  have lf5 : ∀ xL : Later wr, xL.world.cell? ⟨b, off + k * 3 + 2, none⟩ = some (.int .i64 x2) := fun xL => xL.at (p2)
                  refine region_later (w0 := wr) (by kernel_rfl) (by kernel_rfl) (bel_refl _) ?_
                  repeat (go_big_quiet_step ((fail)))
                  refine wpQuiet_nil ?_
                  rintro w' ⟨x, rfl⟩
                  obtain ⟨w9, b9⟩ := x
                  clear lf0 lf1 lf2 lf3 lf4 lf5
                  replace p0 := keep_tr p0 b9
                  replace p1 := keep_tr p1 b9
                  replace p2 := keep_tr p2 b9
                  replace q0 := keep_tr q0 b9
                  replace q1 := keep_tr q1 b9
                  replace q2 := keep_tr q2 b9
                  have hb9 := bel_tr hb b9
                  have LA : ∀ xL : Later w9, Calls Try.prog 28 #[.agg #[.int .i64 y0, .int .i64 y1, .int .i64 y2]] xL.world fun e w'' => e = .returned (.int .i64 ky) ∧ ∃ z : Later w9, w'' = z.world := fun xL => later_call (pk_val HKY.out _)
                  have LB : ∀ xL : Later w9, Calls Try.prog 28 #[.agg #[.int .i64 y0, .int .i64 x1, .int .i64 x2]] xL.world fun e w'' => e = .returned (.int .i64 kx) ∧ ∃ z : Later w9, w'' = z.world := fun xL => later_call (pk_val HKX.out _)
                  go_upto_region 23 with fail
                  have lf0 : ∀ xL : Later w9, xL.world.cell? ⟨b', off' + k * 3, none⟩ = some (.int .i64 y0) := fun xL => xL.at (q0)
                  have lf1 : ∀ xL : Later w9, xL.world.cell? ⟨b', off' + k * 3 + 1, none⟩ = some (.int .i64 y1) := fun xL => xL.at (q1)
                  have lf2 : ∀ xL : Later w9, xL.world.cell? ⟨b', off' + k * 3 + 2, none⟩ = some (.int .i64 y2) := fun xL => xL.at (q2)
                  have lf3 : ∀ xL : Later w9, xL.world.cell? ⟨b, off + k * 3, none⟩ = some (.int .i64 y0) := fun xL => xL.at (p0)
                  have lf4 : ∀ xL : Later w9, xL.world.cell? ⟨b, off + k * 3 + 1, none⟩ = some (.int .i64 x1) := fun xL => xL.at (p1)
                  have lf5 : ∀ xL : Later w9, xL.world.cell? ⟨b, off + k * 3 + 2, none⟩ = some (.int .i64 x2) := fun xL => xL.at (p2)
                  refine region_later (w0 := w9) (by kernel_rfl) (by kernel_rfl) (bel_refl _) ?_
                  repeat (go_big_quiet_step ((first | (go_at_call 28; with_reducible exact LA _) | (go_at_call 28; with_reducible exact LB _))))
                  refine wpQuiet_nil ?_
                  rintro w' ⟨x, rfl⟩
                  obtain ⟨wA, bA⟩ := x
                  clear lf0 lf1 lf2 lf3 lf4 lf5
                  clear LA LB p0 p1 p2 q0 q1 q2
                  have hbA := bel_tr hb9 bA
                  have HRR := hr.below hbA
                  have R33 := r3.below hbA
                  replace bw := bel_tr bw hbA
                  go_wp2_with fail
                  refine (lg_valX HG.out _ _ _ _ _ _ _ rfl (by omega) rfl (by omega) HRR R33).mono ?_
                  rintro eB wB ⟨rfl, bB⟩
                  replace bw := bel_tr bw bB
                  clear bB
                  go_wp2
                  go_ret
                  exact ⟨rfl, bw⟩
                · go_upto_region 22 with fail
                  have lf0 : ∀ xL : Later wr, xL.world.cell? ⟨b', off' + k * 3, none⟩ = some (.int .i64 y0) := fun xL => xL.at (q0)
                  have lf1 : ∀ xL : Later wr, xL.world.cell? ⟨b', off' + k * 3 + 1, none⟩ = some (.int .i64 y1) := fun xL => xL.at (q1)
                  have lf2 : ∀ xL : Later wr, xL.world.cell? ⟨b', off' + k * 3 + 2, none⟩ = some (.int .i64 y2) := fun xL => xL.at (q2)
                  have lf3 : ∀ xL : Later wr, xL.world.cell? ⟨b, off + k * 3, none⟩ = some (.int .i64 y0) := fun xL => xL.at (p0)
                  have lf4 : ∀ xL : Later wr, xL.world.cell? ⟨b, off + k * 3 + 1, none⟩ = some (.int .i64 y1) := fun xL => xL.at (p1)
                  have lf5 : ∀ xL : Later wr, xL.world.cell? ⟨b, off + k * 3 + 2, none⟩ = some (.int .i64 x2) := fun xL => xL.at (p2)
                  refine region_later (w0 := wr) (by kernel_rfl) (by kernel_rfl) (bel_refl _) ?_
                  repeat (go_big_quiet_step ((fail)))
                  refine wpQuiet_nil ?_
                  rintro w' ⟨x, rfl⟩
                  obtain ⟨w9, b9⟩ := x
                  clear lf0 lf1 lf2 lf3 lf4 lf5
                  replace p0 := keep_tr p0 b9
                  replace p1 := keep_tr p1 b9
                  replace p2 := keep_tr p2 b9
                  replace q0 := keep_tr q0 b9
                  replace q1 := keep_tr q1 b9
                  replace q2 := keep_tr q2 b9
                  have hb9 := bel_tr hb b9
                  have LA : ∀ xL : Later w9, Calls Try.prog 28 #[.agg #[.int .i64 y0, .int .i64 y1, .int .i64 y2]] xL.world fun e w'' => e = .returned (.int .i64 ky) ∧ ∃ z : Later w9, w'' = z.world := fun xL => later_call (pk_val HKY.out _)
                  have LB : ∀ xL : Later w9, Calls Try.prog 28 #[.agg #[.int .i64 y0, .int .i64 y1, .int .i64 x2]] xL.world fun e w'' => e = .returned (.int .i64 kx) ∧ ∃ z : Later w9, w'' = z.world := fun xL => later_call (pk_val HKX.out _)
                  go_upto_region 23 with fail
                  have lf0 : ∀ xL : Later w9, xL.world.cell? ⟨b', off' + k * 3, none⟩ = some (.int .i64 y0) := fun xL => xL.at (q0)
                  have lf1 : ∀ xL : Later w9, xL.world.cell? ⟨b', off' + k * 3 + 1, none⟩ = some (.int .i64 y1) := fun xL => xL.at (q1)
                  have lf2 : ∀ xL : Later w9, xL.world.cell? ⟨b', off' + k * 3 + 2, none⟩ = some (.int .i64 y2) := fun xL => xL.at (q2)
                  have lf3 : ∀ xL : Later w9, xL.world.cell? ⟨b, off + k * 3, none⟩ = some (.int .i64 y0) := fun xL => xL.at (p0)
                  have lf4 : ∀ xL : Later w9, xL.world.cell? ⟨b, off + k * 3 + 1, none⟩ = some (.int .i64 y1) := fun xL => xL.at (p1)
                  have lf5 : ∀ xL : Later w9, xL.world.cell? ⟨b, off + k * 3 + 2, none⟩ = some (.int .i64 x2) := fun xL => xL.at (p2)
                  refine region_later (w0 := w9) (by kernel_rfl) (by kernel_rfl) (bel_refl _) ?_
                  repeat (go_big_quiet_step ((first | (go_at_call 28; with_reducible exact LA _) | (go_at_call 28; with_reducible exact LB _))))
                  refine wpQuiet_nil ?_
                  rintro w' ⟨x, rfl⟩
                  obtain ⟨wA, bA⟩ := x
                  clear lf0 lf1 lf2 lf3 lf4 lf5
                  clear LA LB p0 p1 p2 q0 q1 q2
                  have hbA := bel_tr hb9 bA
                  have HRR := hr.below hbA
                  have R33 := r3.below hbA
                  replace bw := bel_tr bw hbA
                  go_wp2_with fail
                  refine (lg_valX HG.out _ _ _ _ _ _ _ rfl (by omega) rfl (by omega) HRR R33).mono ?_
                  rintro eB wB ⟨rfl, bB⟩
                  replace bw := bel_tr bw bB
                  clear bB
                  go_wp2
                  go_ret
                  exact ⟨rfl, bw⟩
    · have hno : lnR f l lo hi num = none := by
        by_cases h0 : 0 ≤ num
        · exact lnR_big (by rw [hv]; exact Int.not_lt.1 (fun h1 => hin ⟨h0, h1⟩))
        · exact lnR_no (fun z => h0 z.2)
      have hB0 : B = false := by rw [← hB, hno]; rfl
      have hL0 : Lx = [] := by rw [← hL, hno]; rfl
      subst hB0 hL0
      have hor : num < 0 ∨ (¬ num < 0 ∧ v ≤ num) := by omega
      clear hv hL hB hin hno
      rcases hor with hn | ⟨hn, hn2⟩
      · go_wp2_with fail
        refine (ln_val HL.out HB.out _ _ _ _ (by omega) rfl (by omega) hr).mono ?_
        rintro e3 w3 ⟨A3, c3, rfl, lc3, cm3, r3, o3, b3⟩
        replace hr := hr.below b3
        replace bw := bel_tr bw b3
        clear b3 o3
        go_wp2_with fail
        refine (sln_val HL.out HB.out _ _ _ _ (by omega) rfl (by omega) hr).mono ?_
        rintro e4 w4 ⟨A4, c4, rfl, lc4, cm4, r4, o4, b4⟩
        replace hr := hr.below b4
        replace r3 := r3.below b4
        replace bw := bel_tr bw b4
        clear b4 o4
        go_wp2_with fail
        refine (sp_same _ _ _ _ _ _ _ rfl (by omega) r3 r4).mono ?_
        rintro e5 w5 ⟨rfl, b5⟩
        replace hr := hr.below b5
        replace r3 := r3.below b5
        replace bw := bel_tr bw b5
        clear b5
        go_wp2_with fail
        refine (cl_val HV.out _ _ _ _ rfl (by omega) hr).mono ?_
        rintro e6 w6 ⟨rfl, b6⟩
        replace hr := hr.below b6
        replace r3 := r3.below b6
        replace bw := bel_tr bw b6
        clear b6
        go_wp2_with fail
        refine (alive_any _).mono ?_
        rintro e7 w7 ⟨rfl, b7⟩
        replace bw := bel_tr bw b7
        clear b7
        go_wp2
        go_ret
        exact ⟨rfl, bw⟩
      · go_wp2_with fail
        refine (ln_val HL.out HB.out _ _ _ _ (by omega) rfl (by omega) hr).mono ?_
        rintro e3 w3 ⟨A3, c3, rfl, lc3, cm3, r3, o3, b3⟩
        replace hr := hr.below b3
        replace bw := bel_tr bw b3
        clear b3 o3
        go_wp2_with fail
        refine (sln_val HL.out HB.out _ _ _ _ (by omega) rfl (by omega) hr).mono ?_
        rintro e4 w4 ⟨A4, c4, rfl, lc4, cm4, r4, o4, b4⟩
        replace hr := hr.below b4
        replace r3 := r3.below b4
        replace bw := bel_tr bw b4
        clear b4 o4
        go_wp2_with fail
        refine (sp_same _ _ _ _ _ _ _ rfl (by omega) r3 r4).mono ?_
        rintro e5 w5 ⟨rfl, b5⟩
        replace hr := hr.below b5
        replace r3 := r3.below b5
        replace bw := bel_tr bw b5
        clear b5
        go_wp2_with fail
        refine (cl_val HV.out _ _ _ _ rfl (by omega) hr).mono ?_
        rintro e6 w6 ⟨rfl, b6⟩
        replace hr := hr.below b6
        replace r3 := r3.below b6
        replace bw := bel_tr bw b6
        clear b6
        go_wp2_with fail
        refine (alive_any _).mono ?_
        rintro e7 w7 ⟨rfl, b7⟩
        replace bw := bel_tr bw b7
        clear b7
        go_wp2
        go_ret
        exact ⟨rfl, bw⟩
  · have hl2 : (1048576 : Int) < (len : Int) := by omega
    go_enter Try.func11, Try.ntmps11
    go_wp2
    go_ret
    exact ⟨rfl, bel_refl _⟩

end Go.Proofs.Ytkchlgmlfihkdaa.FnLineNumber
