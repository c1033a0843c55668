/- The walk of the law FnTonalAnswer: for every input it returns true and turns nothing that was there. -/
import Derived.Test.YtacbkmahofmbcaaDrTa
import Derived.Test.YtacbkmahofmbcaaTa
import Derived.Test.YtacbkmahofmbcaaSTa
import Derived.Test.YtacbkmahofmbcaaRa
import Derived.Test.YtacbkmahofmbcaaSmV
import Derived.Test.YtacbkmahofmbcaaTaP
namespace Go.Proofs.Ytacbkmahofmbcaa.FnTonalAnswer
set_option linter.unusedSimpArgs false
set_option linter.unusedVariables false
open Go.RowKit

set_option maxRecDepth 20000 in
set_option maxHeartbeats 4000000 in
theorem walk (A : Option Addr) (len cap : Nat) (w : World) (h : Cod w A len cap) :
    Calls Try.prog 3 #[.slice A len cap] w fun e w' => e = .returned (.bool true) ∧ Below w.heap.size w w' := by
  by_cases hl : len ≤ 1048576
  · go_enter Try.func3, Try.ntmps3
    go_wp2_with fail
    refine (DrawTonalAnswer_any w A len cap h).mono ?_
    rintro e1 w1 ⟨f, m, A1, c1, l, hd, rfl, lc, cm, l7, hd0, hd1, hr, bw⟩
    unfold maxLen at cm
    obtain ⟨T, hT⟩ : ∃ T, taL f m l hd = T := ⟨_, rfl⟩
    obtain ⟨B, hB⟩ : ∃ B, taB f m l hd = B := ⟨_, rfl⟩
    have hTn : T.length ≤ 60 := by rw [← hT]; exact (taL_len f m l hd).1
    have HT := Lib.hid hT
    have HB := Lib.hid hB
    go_wp2_with fail
    refine (ta_val HT.out HB.out _ _ _ _ rfl (by omega) hr).mono ?_
    rintro e2 w2 ⟨A2, c2, rfl, lc2, cm2, hx, o2, b2⟩
    replace hr := hr.below b2
    replace bw := bel_tr bw b2
    clear b2 o2
    go_wp2_with fail
    refine (sta_val HT.out HB.out _ _ _ _ rfl (by omega) hr).mono ?_
    rintro e3 w3 ⟨A3, c3, rfl, lc3, cm3, hy, o3, b3⟩
    replace hr := hr.below b3
    replace hx := hx.below b3
    replace bw := bel_tr bw b3
    clear b3 o3
    go_wp2_with fail
    refine (sm_same _ _ _ _ _ _ _ rfl (by omega) hx hy).mono ?_
    rintro e4 w4 ⟨rfl, b4⟩
    replace hr := hr.below b4
    replace hx := hx.below b4
    replace hy := hy.below b4
    replace bw := bel_tr bw b4
    clear b4
    cases B
    · have hT0 : T = [] := by rw [← hT]; unfold taL; rw [hB]; rfl
      subst hT0
      clear hT hB
      go_wp2_with fail
      refine (alive_any _).mono ?_
      rintro e5 w5 ⟨rfl, b5⟩
      replace bw := bel_tr bw b5
      clear b5
      go_wp2
      go_ret
      exact ⟨rfl, bw⟩
    · obtain ⟨⟨hh0, hh1⟩, hvl, hvT, hlen, hts, h0, hg⟩ := ta_facts hB hT
      have HLEN := Lib.hid hlen
      have HG := Lib.hid hg
      have H0 := Lib.hid h0
      have HV := Lib.hid hvT
      have HW := Lib.hid hvl
      obtain ⟨ts, hts1⟩ : ∃ t, tsum l l.length = t := ⟨_, rfl⟩
      have HS := Lib.hid (hts.trans hts1)
      have HS2 := Lib.hid hts1
      clear hT hB hlen hg h0 hvl hvT hts hts1 hy
      go_wp2
      go_loopw [11, 12, 13, 14, 15] (fun i _ _ _ _ wr => ∃ k : Nat, k ≤ l.length ∧ i = .int .i64 k ∧ Below w4.heap.size w4 wr) (fun i _ _ _ _ _ => l.length - (intOf i).toNat)
      case atStart => exact ⟨0, Nat.zero_le _, rfl, bel_refl _⟩
      case round =>
        obtain ⟨k, hk, rfl, hb⟩ := hrel
        by_cases hlt : k < l.length
        · obtain ⟨b, off, rfl, hlb, hc⟩ := (hr.below hb) (by omega)
          obtain ⟨b', off', rfl, hlb', hc'⟩ := (hx.below hb) (by have := HLEN.out; omega)
          have hckx := hc k hlt
          have hcky := hc' k (by have := HLEN.out; omega)
          have hdg := HG.out k hlt
          clear hc hc'
          have hkl : (k : Int) < (l.length : Int) := by omega
          have hkl2 : (k : Int) < (T.length : Int) := by have := HLEN.out; omega
          have hk0 : (0 : Int) ≤ (k : Int) := by omega
          generalize atNt l k = x at hckx hdg
          generalize atNt T k = y at hcky hdg
          obtain ⟨p0, p1, p2, p3, _, _⟩ := hckx
          obtain ⟨_, q1, q2, q3, _, _⟩ := hcky
          obtain ⟨r, hr0⟩ : ∃ r, x.rest = r := ⟨_, rfl⟩
          rw [hr0] at p0 hdg
          clear hr0
          cases r
          · obtain ⟨hn, hdd⟩ := hdg rfl
            clear hdg
            obtain ⟨a, ha⟩ : ∃ a, deD f m x.step x.alter x.octave = a := ⟨_, rfl⟩
            obtain ⟨mo, hmo⟩ : ∃ o, deO f x.step x.alter x.octave = o := ⟨_, rfl⟩
            have ha6 : a ≤ 6 := by rw [← ha]; exact deD_bd.2
            rw [ha] at hn hdd
            have HD := Lib.hid ha
            have HO := Lib.hid hmo
            have hdd2 : Hid (deD f m y.step y.alter y.octave = if ((k : Int) < hd ∧ a = 4 ∧ mo = 0) then 0 else (a + 4) % 7) := by
              show _ = _
              rw [hdd]
              by_cases c : taC f m hd k x
              · rw [if_pos c, if_pos ⟨c.1, by rw [← ha]; exact c.2.1, by rw [← hmo]; exact c.2.2⟩]
              · rw [if_neg c, if_neg (fun z => c ⟨z.1, by rw [ha]; exact z.2.1, by rw [hmo]; exact z.2.2⟩)]
            clear ha hmo hdd
            by_cases t1 : (k : Int) < hd
            · have t1' : ¬ hd ≤ (k : Int) := by omega
              by_cases t2 : a = 4
              · subst t2
                by_cases t3 : mo = 0
                · subst t3
                  go_wp2_with fail
                  refine (dg_val HD.out HO.out _).mono ?_
                  rintro e5 w5 ⟨rfl, b5⟩
                  have g0 := keep_tr q1 b5
                  have g1 := keep_tr q2 b5
                  have g2 := keep_tr q3 b5
                  have hb5 := bel_tr hb b5
                  clear b5 p0 p1 p2 p3 q1 q2 q3
                  go_wp2_with fail
                  refine (dg_val (hdd2.out.trans (if_pos (by simp [t1]))) rfl _).mono ?_
                  rintro e6 w6 ⟨rfl, b6⟩
                  have hb6 := bel_tr hb5 b6
                  clear b6 g0 g1 g2
                  generalize deO f y.step y.alter y.octave = oo at *
                  go_wp2
                  go_roundw
                  case rel => exact ⟨k + 1, by omega, by go_num, hb6⟩
                  case measure => simp [intOf]; omega
                · have t3' : (mo == 0) = false := by simpa using t3
                  have t3'' : (mo != 0) = true := by simpa using t3
                  have hz := hdd2.out.trans (if_neg (fun c => t3 c.2.2))
                  have HZ := Lib.hid hz
                  clear t3 hz
                  go_wp2_with fail
                  refine (dg_val HD.out HO.out _).mono ?_
                  rintro e5 w5 ⟨rfl, b5⟩
                  have g0 := keep_tr q1 b5
                  have g1 := keep_tr q2 b5
                  have g2 := keep_tr q3 b5
                  have hb5 := bel_tr hb b5
                  clear b5 p0 p1 p2 p3 q1 q2 q3
                  go_wp2_with fail
                  refine (dg_val (HZ.out) rfl _).mono ?_
                  rintro e6 w6 ⟨rfl, b6⟩
                  have hb6 := bel_tr hb5 b6
                  clear b6 g0 g1 g2
                  generalize deO f y.step y.alter y.octave = oo at *
                  go_wp2
                  go_roundw
                  case rel => exact ⟨k + 1, by omega, by go_num, hb6⟩
                  case measure => simp [intOf]; omega
              · have t2' : (a == 4) = false := by simpa using t2
                have t2'' : (a != 4) = true := by simpa using t2
                have hz := hdd2.out.trans (if_neg (fun c => t2 c.2.1))
                have HZ := Lib.hid hz
                clear t2 hz
                go_wp2_with fail
                refine (dg_val HD.out HO.out _).mono ?_
                rintro e5 w5 ⟨rfl, b5⟩
                have g0 := keep_tr q1 b5
                have g1 := keep_tr q2 b5
                have g2 := keep_tr q3 b5
                have hb5 := bel_tr hb b5
                clear b5 p0 p1 p2 p3 q1 q2 q3
                go_wp2_with fail
                refine (dg_val (HZ.out) rfl _).mono ?_
                rintro e6 w6 ⟨rfl, b6⟩
                have hb6 := bel_tr hb5 b6
                clear b6 g0 g1 g2
                generalize deO f y.step y.alter y.octave = oo at *
                go_wp2
                go_roundw
                case rel => exact ⟨k + 1, by omega, by go_num, hb6⟩
                case measure => simp [intOf]; omega
            · have hz := hdd2.out.trans (if_neg (fun c => t1 c.1))
              have HZ := Lib.hid hz
              have t1' : hd ≤ (k : Int) := by omega
              clear hz
              go_wp2_with fail
              refine (dg_val HD.out HO.out _).mono ?_
              rintro e5 w5 ⟨rfl, b5⟩
              have g0 := keep_tr q1 b5
              have g1 := keep_tr q2 b5
              have g2 := keep_tr q3 b5
              have hb5 := bel_tr hb b5
              clear b5 p0 p1 p2 p3 q1 q2 q3
              go_wp2_with fail
              refine (dg_val (HZ.out) rfl _).mono ?_
              rintro e6 w6 ⟨rfl, b6⟩
              have hb6 := bel_tr hb5 b6
              clear b6 g0 g1 g2
              generalize deO f y.step y.alter y.octave = oo at *
              go_wp2
              go_roundw
              case rel => exact ⟨k + 1, by omega, by go_num, hb6⟩
              case measure => simp [intOf]; omega
          · clear hdg q1 q2 q3 p1 p2 p3
            go_wp2
            go_roundw
            case rel => exact ⟨k + 1, by omega, by go_num, hb⟩
            case measure => simp [intOf]; omega
        · obtain rfl : k = l.length := by omega
          replace hr := hr.below hb
          replace hx := hx.below hb
          replace bw := bel_tr bw hb
          have hnl : ¬ (l.length : Int) < (l.length : Int) := by omega
          have hle : ((T.length : Int) == (l.length : Int)) = true := by rw [HLEN.out]; simp
          obtain ⟨M, hM⟩ : ∃ M, shL l 4 7 = M := ⟨_, rfl⟩
          obtain ⟨C, hC⟩ : ∃ C, shB l 4 7 = C := ⟨_, rfl⟩
          have HM := Lib.hid hM
          have HC := Lib.hid hC
          have hMn : M.length ≤ 60 := by rw [← hM]; exact (shL_len l 4 7).1
          have HMT : Hid (hd = 0 → M = T) := fun h0 => by rw [← hM]; exact H0.out h0
          clear hb hM hC
          go_wp2_with fail
          refine (ra_val HM.out HC.out _ _ _ _ rfl (by omega) hr).mono ?_
          rintro e7 w7 ⟨A7, c7, rfl, lc7, cm7, hy, o7, b7⟩
          replace hr := hr.below b7
          replace hx := hx.below b7
          replace bw := bel_tr bw b7
          clear b7 o7
          go_wp2_with fail
          refine (vv_val HV.out _ _ _ _ rfl (by omega) hx).mono ?_
          rintro e8 w8 ⟨rfl, b8⟩
          replace hr := hr.below b8
          replace hx := hx.below b8
          replace hy := hy.below b8
          replace bw := bel_tr bw b8
          clear b8
          go_wp2_with fail
          refine (vtk_val HS.out _ _ _ _ rfl (by omega) HV.out hx).mono ?_
          rintro e9 w9 ⟨rfl, b9⟩
          replace hr := hr.below b9
          replace hx := hx.below b9
          replace hy := hy.below b9
          replace bw := bel_tr bw b9
          clear b9
          go_wp2_with fail
          refine (vtk_val HS2.out _ _ _ _ rfl (by omega) HW.out hr).mono ?_
          rintro e10 w10 ⟨rfl, b10⟩
          replace hr := hr.below b10
          replace hx := hx.below b10
          replace hy := hy.below b10
          replace bw := bel_tr bw b10
          clear b10
          by_cases hz : 0 < hd
          · go_wp2
            go_ret
            exact ⟨rfl, bw⟩
          · have hz0 : hd = 0 := by omega
            have hMT := HMT.out hz0
            subst hz0 hMT
            go_wp2_with fail
            refine (sm_same _ _ _ _ _ _ _ rfl (by omega) hx hy).mono ?_
            rintro e11 w11 ⟨rfl, b11⟩
            replace bw := bel_tr bw b11
            clear b11
            go_wp2
            go_ret
            exact ⟨rfl, bw⟩
  · have hl2 : (1048576 : Int) < (len : Int) := by omega
    go_enter Try.func3, Try.ntmps3
    go_wp2
    go_ret
    exact ⟨rfl, bel_refl _⟩

end Go.Proofs.Ytacbkmahofmbcaa.FnTonalAnswer
