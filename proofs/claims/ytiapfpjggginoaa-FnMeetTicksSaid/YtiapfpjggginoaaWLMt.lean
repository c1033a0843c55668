/- The walk of the law FnMeetTicks: for every input it returns true and turns nothing that was there. -/
import Derived.Test.YtiapfpjggginoaaDrMt
import Derived.Test.YtiapfpjggginoaaMtV
import Derived.Test.YtiapfpjggginoaaMtT
namespace Go.Proofs.Ytiapfpjggginoaa.FnMeetTicks
set_option linter.unusedSimpArgs false
set_option linter.unusedVariables false
open Go.RowKit

set_option maxRecDepth 20000 in
set_option maxHeartbeats 4000000 in
theorem walk (A : Option Addr) (len cap : Nat) (w : World) (h : Cod w A len cap) :
    Calls Try.prog 4 #[.slice A len cap] w fun e w' => e = .returned (.bool true) ∧ Below w.heap.size w w' := by
  by_cases hl : len ≤ 1048576
  · go_enter Try.func4, Try.ntmps4
    go_wp2_with fail
    refine (DrawMeetTicks_any w A len cap h).mono ?_
    rintro e1 w1 ⟨A1, c1, l, A2, c2, l', rfl, l7, l72, r1, r2, bw⟩
    obtain ⟨L, hL, hl121⟩ := mt_ex l l'
    have HL := Lib.hid hL
    have HLC := Lib.hid hL.comm
    clear hL
    go_wp2_with fail
    refine (mti_q HL.out _ _ _ _ _ _ _ rfl (by omega) r1 rfl (by omega) r2).mono ?_
    rintro e3 w3 ⟨Ax, cx, rfl, lcx, cmx, rx, _, b3⟩
    have r1 := r1.below b3
    have r2 := r2.below b3
    have bw := bel_tr bw b3
    clear b3
    go_wp2_with fail
    refine (smt_q HL.out _ _ _ _ _ _ _ rfl (by omega) r1 rfl (by omega) r2).mono ?_
    rintro e4 w4 ⟨Ay, cy, rfl, lcy, cmy, ry, _, b4⟩
    have r1 := r1.below b4
    have r2 := r2.below b4
    have rx := rx.below b4
    have bw := bel_tr bw b4
    clear b4
    go_wp2_with fail
    refine (sameIn_same _ _ _ _ _ L _ rfl (by omega) rx ry).mono ?_
    rintro e5 w5 ⟨rfl, b5⟩
    have r1 := r1.below b5
    have r2 := r2.below b5
    have rx := rx.below b5
    have bw := bel_tr bw b5
    clear b5
    clear ry
    go_wp2_with fail
    refine (mti_q HLC.out _ _ _ _ _ _ _ rfl (by omega) r2 rfl (by omega) r1).mono ?_
    rintro e6 w6 ⟨Az, cz, rfl, lcz, cmz, rz, _, b6⟩
    have r1 := r1.below b6
    have r2 := r2.below b6
    have rx := rx.below b6
    have bw := bel_tr bw b6
    clear b6
    go_wp2_with fail
    refine (sameIn_same _ _ _ _ _ L _ rfl (by omega) rx rz).mono ?_
    rintro e7 w7 ⟨rfl, b7⟩
    have r1 := r1.below b7
    have r2 := r2.below b7
    have rx := rx.below b7
    have bw := bel_tr bw b7
    clear b7
    clear rz
    cases hva : vvB l
    · have HN := Lib.hid (show L = [] from by have h9 := HL.out; unfold MtL at h9; rw [if_neg (fun z => by rw [hva] at z; cases z.1)] at h9; exact h9)
      have HA := Lib.hid hva
      clear hva
      go_wp2_with fail
      refine (svv_val HA.out _ _ _ _ rfl (by omega) r1).mono ?_
      rintro e8 w8 ⟨rfl, b8⟩
      have r1 := r1.below b8
      have r2 := r2.below b8
      have rx := rx.below b8
      have bw := bel_tr bw b8
      clear b8
      have hl0 : (L.length : Int) = 0 := by rw [HN.out]; rfl
      go_wp2_with fail
      refine (alive_any _).mono ?_
      rintro e11 w11 ⟨rfl, b11⟩
      have bw := bel_tr bw b11
      go_wp2
      go_ret
      exact ⟨rfl, bw⟩
    · cases hvb : vvB l'
      · have HN := Lib.hid (show L = [] from by have h9 := HL.out; unfold MtL at h9; rw [if_neg (fun z => by rw [hvb] at z; cases z.2)] at h9; exact h9)
        have HA := Lib.hid hva
        have HB := Lib.hid hvb
        clear hva hvb
        go_wp2_with fail
        refine (svv_val HA.out _ _ _ _ rfl (by omega) r1).mono ?_
        rintro e8 w8 ⟨rfl, b8⟩
        have r1 := r1.below b8
        have r2 := r2.below b8
        have rx := rx.below b8
        have bw := bel_tr bw b8
        clear b8
        go_wp2_with fail
        refine (svv_val HB.out _ _ _ _ rfl (by omega) r2).mono ?_
        rintro e9 w9 ⟨rfl, b9⟩
        have r1 := r1.below b9
        have r2 := r2.below b9
        have rx := rx.below b9
        have bw := bel_tr bw b9
        clear b9
        have hl0 : (L.length : Int) = 0 := by rw [HN.out]; rfl
        go_wp2_with fail
        refine (alive_any _).mono ?_
        rintro e11 w11 ⟨rfl, b11⟩
        have bw := bel_tr bw b11
        go_wp2
        go_ret
        exact ⟨rfl, bw⟩
      · have HV := Lib.hid (HL.out.v hva hvb)
        have HA := Lib.hid hva
        have HB := Lib.hid hvb
        have hlen := HV.out.len
        obtain ⟨TA, hTA⟩ : ∃ z, tsum l l.length = z := ⟨_, rfl⟩
        obtain ⟨TB, hTB⟩ : ∃ z, tsum l' l'.length = z := ⟨_, rfl⟩
        have HTA := Lib.hid hTA
        have HTB := Lib.hid hTB
        clear hva hvb hTA hTB
        go_wp2_with fail
        refine (svv_val HA.out _ _ _ _ rfl (by omega) r1).mono ?_
        rintro e8 w8 ⟨rfl, b8⟩
        have r1 := r1.below b8
        have r2 := r2.below b8
        have rx := rx.below b8
        have bw := bel_tr bw b8
        clear b8
        go_wp2_with fail
        refine (svv_val HB.out _ _ _ _ rfl (by omega) r2).mono ?_
        rintro e9 w9 ⟨rfl, b9⟩
        have r1 := r1.below b9
        have r2 := r2.below b9
        have rx := rx.below b9
        have bw := bel_tr bw b9
        clear b9
        go_wp2
        go_loopw [6] (fun i wr => ∃ k : Nat, k ≤ L.length ∧ i = .int .i64 k ∧ RowIn wr wr.heap.size Ax L ∧ Below w9.heap.size w9 wr) (fun i _ => L.length - (intOf i).toNat)
        case atStart => exact ⟨0, Nat.zero_le _, rfl, rx, bel_refl _⟩
        case round =>
          clear rx
          obtain ⟨k, hk, rfl, rx, bq⟩ := hrel
          by_cases hlt : k < L.length
          · by_cases hkz : k = 0
            · subst hkz
              obtain ⟨b, off, rfl, hlb, hc⟩ := rx (by omega)
              have p0 := hc 0 (by omega)
              rw [HV.out.first (by omega)] at p0
              rw [Nat.add_zero] at p0
              have hmx : (0 : Int) < max TA TB := by have h9 := HV.out.top (at_mem L 0 (by omega)); rw [HV.out.first (by omega), HTA.out, HTB.out] at h9; exact h9
              have hmx2 : ¬ max TA TB ≤ 0 := by omega
              have hlp : (0 : Int) < (L.length : Int) := by omega
              have q1 := r1.below bq
              have q2 := r2.below bq
              clear hc
              rw [show ((0 : Nat) : Int) = 0 from rfl]
              have LT : ∀ xL : Later wr, Calls Try.prog 23 #[.slice A1 l.length c1] xL.world fun e w'' => e = .returned (.int .i64 TA) ∧ ∃ z : Later wr, w'' = z.world := fun xL => later_call (vtk_val HTA.out _ _ _ _ rfl (by omega) HA.out (q1.below xL.bel))
              have LU : ∀ xL : Later wr, Calls Try.prog 23 #[.slice A2 l'.length c2] xL.world fun e w'' => e = .returned (.int .i64 TB) ∧ ∃ z : Later wr, w'' = z.world := fun xL => later_call (vtk_val HTB.out _ _ _ _ rfl (by omega) HB.out (q2.below xL.bel))
              go_upto_region 12 with fail
              have lf0 : ∀ xL : Later wr, xL.world.cell? ⟨b, off, none⟩ = some (.int .i64 0) := fun xL => xL.at (p0)
              refine region_later (w0 := wr) (by kernel_rfl) (by kernel_rfl) (bel_refl _) ?_
              repeat (go_big_quiet_step ((first | (go_at_call 23; with_reducible exact LT _) | (go_at_call 23; with_reducible exact LU _))))
              refine wpQuiet_nil ?_
              rintro w' ⟨x, rfl⟩
              obtain ⟨w12, b12⟩ := x
              clear lf0
              clear LT LU
              go_upto_region 14 with fail
              refine region_later (w0 := w12) (by kernel_rfl) (by kernel_rfl) (bel_refl _) ?_
              repeat (go_big_quiet_step ((fail)))
              refine wpQuiet_nil ?_
              rintro w' ⟨x, rfl⟩
              obtain ⟨w14, b14⟩ := x
              go_wp2
              go_roundw
              case rel => exact ⟨0 + 1, by omega, by go_num, (rx.below b12).below b14, bel_tr (bel_tr bq b12) b14⟩
              case measure => simp [intOf]; omega
            · obtain ⟨j, hj⟩ : ∃ j : Nat, k = j + 1 := ⟨k - 1, by omega⟩
              have hkj : (k : Int) - 1 = (j : Int) := by omega
              have hkp : (0 : Int) < (k : Int) := by omega
              have hkp2 : 0 < k := by omega
              have hkz : ((k : Int) == 0) = false := by simp; omega
              obtain ⟨b, off, rfl, hlb, hc⟩ := rx (by omega)
              have p1 := hc k hlt
              have p0 := hc j (by omega)
              have hst : atIn L j < atIn L k := by rw [hj]; exact HV.out.step j (by omega)
              have hmx := HV.out.top (at_mem L k hlt)
              have hbd1 := mt_bd HL.out (at_mem L k hlt)
              have hbd0 := mt_bd HL.out (at_mem L j (by omega))
              have hdf := HV.out.diff (at_mem L k hlt) (by omega)
              rw [HTA.out, HTB.out] at hmx
              have hk0 : (0 : Int) ≤ (k : Int) := by omega
              have hj0 : (0 : Int) ≤ (j : Int) := by omega
              have hjl : (j : Int) < (L.length : Int) := by omega
              have hkl : (k : Int) < (L.length : Int) := by omega
              clear hc hj
              generalize atIn L k = x at *
              generalize atIn L j = y at *
              obtain ⟨x0, x1⟩ := hbd1
              obtain ⟨y0, y1⟩ := hbd0
              have h1 : ¬ x ≤ y := by omega
              have h2 : ¬ max TA TB ≤ x := by omega
              have i1 := IntWalk.i64_in (x - 1) (by omega)
              have q1 := r1.below bq
              have q2 := r2.below bq
              obtain ⟨N1, hN1⟩ : ∃ z, naI l x = z := ⟨_, rfl⟩
              obtain ⟨N2, hN2⟩ : ∃ z, naI l (x - 1) = z := ⟨_, rfl⟩
              obtain ⟨M1, hM1⟩ : ∃ z, naI l' x = z := ⟨_, rfl⟩
              obtain ⟨M2, hM2⟩ : ∃ z, naI l' (x - 1) = z := ⟨_, rfl⟩
              rw [hN1, hN2, hM1, hM2] at hdf
              have HN1 := Lib.hid hN1
              have HN2 := Lib.hid hN2
              have HM1 := Lib.hid hM1
              have HM2 := Lib.hid hM2
              clear hN1 hN2 hM1 hM2
              have LT : ∀ xL : Later wr, Calls Try.prog 23 #[.slice A1 l.length c1] xL.world fun e w'' => e = .returned (.int .i64 TA) ∧ ∃ z : Later wr, w'' = z.world := fun xL => later_call (vtk_val HTA.out _ _ _ _ rfl (by omega) HA.out (q1.below xL.bel))
              have LU : ∀ xL : Later wr, Calls Try.prog 23 #[.slice A2 l'.length c2] xL.world fun e w'' => e = .returned (.int .i64 TB) ∧ ∃ z : Later wr, w'' = z.world := fun xL => later_call (vtk_val HTB.out _ _ _ _ rfl (by omega) HB.out (q2.below xL.bel))
              go_upto_region 12 with fail
              have lf0 : ∀ xL : Later wr, xL.world.cell? ⟨b, off + j, none⟩ = some (.int .i64 y) := fun xL => xL.at (p0)
              have lf1 : ∀ xL : Later wr, xL.world.cell? ⟨b, off + k, none⟩ = some (.int .i64 x) := fun xL => xL.at (p1)
              refine region_later (w0 := wr) (by kernel_rfl) (by kernel_rfl) (bel_refl _) ?_
              repeat (go_big_quiet_step ((first | (go_at_call 23; with_reducible exact LT _) | (go_at_call 23; with_reducible exact LU _))))
              refine wpQuiet_nil ?_
              rintro w' ⟨x, rfl⟩
              obtain ⟨w12, b12⟩ := x
              clear lf0 lf1
              clear LT LU
              have bq2 := bel_tr bq b12
              have s1 := q1.below b12
              have s2 := q2.below b12
              have rx2 := rx.below b12
              have p1 := keep_tr p1 b12
              obtain ⟨wv, hwv⟩ : ∃ z : World, (Later.mk w12 b12).world = z := ⟨_, rfl⟩
              have LA1 : ∀ xL : Later w12, Calls Try.prog 24 #[.slice A1 l.length c1, .int .i64 x] xL.world fun e w'' => e = .returned (.int .i64 N1) ∧ ∃ z : Later w12, w'' = z.world := fun xL => later_call (na_val HN1.out _ _ _ _ rfl (by omega) (by omega) (by omega) (s1.below xL.bel))
              have LA2 : ∀ xL : Later w12, Calls Try.prog 24 #[.slice A1 l.length c1, .int .i64 (x - 1)] xL.world fun e w'' => e = .returned (.int .i64 N2) ∧ ∃ z : Later w12, w'' = z.world := fun xL => later_call (na_val HN2.out _ _ _ _ rfl (by omega) (by omega) (by omega) (s1.below xL.bel))
              have LB1 : ∀ xL : Later w12, Calls Try.prog 24 #[.slice A2 l'.length c2, .int .i64 x] xL.world fun e w'' => e = .returned (.int .i64 M1) ∧ ∃ z : Later w12, w'' = z.world := fun xL => later_call (na_val HM1.out _ _ _ _ rfl (by omega) (by omega) (by omega) (s2.below xL.bel))
              have LB2 : ∀ xL : Later w12, Calls Try.prog 24 #[.slice A2 l'.length c2, .int .i64 (x - 1)] xL.world fun e w'' => e = .returned (.int .i64 M2) ∧ ∃ z : Later w12, w'' = z.world := fun xL => later_call (na_val HM2.out _ _ _ _ rfl (by omega) (by omega) (by omega) (s2.below xL.bel))
              clear hwv p0
              clear wv
              go_upto_region 14 with fail
              rcases hdf with hdf | hdf
              · have e1 : (N1 == N2) = false := by simpa using hdf
                have lf0 : ∀ xL : Later w12, xL.world.cell? ⟨b, off + k, none⟩ = some (.int .i64 x) := fun xL => xL.at (p1)
                refine region_later (w0 := w12) (by kernel_rfl) (by kernel_rfl) (bel_refl _) ?_
                repeat (go_big_quiet_step ((first | (go_at_call 24; with_reducible exact LA1 _) | (go_at_call 24; with_reducible exact LA2 _) | (go_at_call 24; with_reducible exact LB1 _) | (go_at_call 24; with_reducible exact LB2 _))))
                refine wpQuiet_nil ?_
                rintro w' ⟨x, rfl⟩
                obtain ⟨w14, b14⟩ := x
                clear lf0
                clear LA1 LA2 LB1 LB2
                go_wp2
                go_roundw
                case rel => exact ⟨k + 1, by omega, by go_num, rx2.below b14, bel_tr bq2 b14⟩
                case measure => simp [intOf]; omega
              · have e2 : (M1 == M2) = false := by simpa using hdf
                by_cases hN : N1 = N2
                · have e1 : (N1 == N2) = true := by simpa using hN
                  have lf0 : ∀ xL : Later w12, xL.world.cell? ⟨b, off + k, none⟩ = some (.int .i64 x) := fun xL => xL.at (p1)
                  refine region_later (w0 := w12) (by kernel_rfl) (by kernel_rfl) (bel_refl _) ?_
                  repeat (go_big_quiet_step ((first | (go_at_call 24; with_reducible exact LA1 _) | (go_at_call 24; with_reducible exact LA2 _) | (go_at_call 24; with_reducible exact LB1 _) | (go_at_call 24; with_reducible exact LB2 _))))
                  refine wpQuiet_nil ?_
                  rintro w' ⟨x, rfl⟩
                  obtain ⟨w14, b14⟩ := x
                  clear lf0
                  clear LA1 LA2 LB1 LB2
                  go_wp2
                  go_roundw
                  case rel => exact ⟨k + 1, by omega, by go_num, rx2.below b14, bel_tr bq2 b14⟩
                  case measure => simp [intOf]; omega
                · have e1 : (N1 == N2) = false := by simpa using hN
                  have lf0 : ∀ xL : Later w12, xL.world.cell? ⟨b, off + k, none⟩ = some (.int .i64 x) := fun xL => xL.at (p1)
                  refine region_later (w0 := w12) (by kernel_rfl) (by kernel_rfl) (bel_refl _) ?_
                  repeat (go_big_quiet_step ((first | (go_at_call 24; with_reducible exact LA1 _) | (go_at_call 24; with_reducible exact LA2 _) | (go_at_call 24; with_reducible exact LB1 _) | (go_at_call 24; with_reducible exact LB2 _))))
                  refine wpQuiet_nil ?_
                  rintro w' ⟨x, rfl⟩
                  obtain ⟨w14, b14⟩ := x
                  clear lf0
                  clear LA1 LA2 LB1 LB2
                  go_wp2
                  go_roundw
                  case rel => exact ⟨k + 1, by omega, by go_num, rx2.below b14, bel_tr bq2 b14⟩
                  case measure => simp [intOf]; omega
          · obtain rfl : k = L.length := by omega
            have hle : (L.length : Int) ≤ (l.length : Int) + (l'.length : Int) := by omega
            have i9 := IntWalk.i64_in ((l.length : Int) + (l'.length : Int)) (by omega)
            go_wp2
            go_ret
            exact ⟨rfl, bel_tr bw bq⟩
  · have hl2 : (1048576 : Int) < (len : Int) := by omega
    go_enter Try.func4, Try.ntmps4
    go_wp2
    go_ret
    exact ⟨rfl, bel_refl _⟩

end Go.Proofs.Ytiapfpjggginoaa.FnMeetTicks
