/- The first dissonance of two voices: MeetFault of both. -/
import Derived.Test.YtiapfpjggginoaaSok
namespace Go.Proofs.Ytiapfpjggginoaa
set_option linter.unusedSimpArgs false
set_option linter.unusedVariables false
open Go.RowKit

theorem mfB_vals {a b : List Nt} {t x y m : Int} {B1 B2 V : Bool} (h1 : skB a t = B1) (h2 : skB b t = B2) (hx : skK a t = x) (hy : skK b t = y) (hm : dsI x y % 12 = m) (hV : disB m = V) : mfB a b t = (B1 && B2 && V) := by
  unfold mfB; rw [h1, h2, hx, hy, hm, hV]
theorem mfL_yes {a b : List Nt} {t : Int} {L : List Int} (h : mfB a b t = true) : mfL a b (t :: L) = t := by unfold mfL; rw [if_pos h]
theorem mfL_no {a b : List Nt} {t : Int} {L : List Int} (h : mfB a b t = false) : mfL a b (t :: L) = mfL a b L := by
  rw [mfL, if_neg (by rw [h]; simp)]
theorem ds_max {x y : Int} : max (x - y) (y - x) = dsI x y := by unfold dsI; split <;> omega
set_option maxRecDepth 20000 in
set_option maxHeartbeats 4000000 in
theorem mf_val {a b : List Nt} {r : Int} (hr : mfI a b r) (A : Option Addr) (n c : Nat) (A' : Option Addr) (n' c' : Nat) (w : World) (hn : a.length = n) (hm : n ≤ 2000000) (h : RowNt w w.heap.size A a) (hn' : b.length = n') (hm' : n' ≤ 2000000) (h' : RowNt w w.heap.size A' b) :
    Calls Try.prog 26 #[.slice A n c, .slice A' n' c'] w fun e w' => e = .returned (.int .i64 r) ∧ Below w.heap.size w w' := by
  subst hn hn'
  obtain ⟨L, hL, hmf⟩ := hr
  have HMF := Lib.hid hmf
  have HL := Lib.hid hL
  have hl121 := mt_len121 hL
  clear hmf
  go_enter Try.func26, Try.ntmps26
  go_wp2_with fail
  refine (mti_q HL.out _ _ _ _ _ _ _ rfl hm h rfl hm' h').mono ?_
  rintro e1 w1 ⟨A1, c1, rfl, lc1, cm1, r1, _, b1⟩
  have hbd : ∀ k, k < L.length → 0 ≤ atIn L k ∧ atIn L k < 46080 := fun k hk => mt_bd hL (at_mem L k hk)
  clear hL
  go_wp2
  go_loopw [6, 7, 8, 9, 10, 15] (fun _ _ _ _ _ i wr => ∃ k : Nat, k ≤ L.length ∧ i = .int .i64 k ∧ mfL a b L = mfL a b (L.drop k) ∧ RowIn wr wr.heap.size A1 L ∧ Below w.heap.size w wr) (fun _ _ _ _ _ i _ => L.length - (intOf i).toNat)
  case atStart => exact ⟨0, Nat.zero_le _, rfl, rfl, by first | exact r1 | exact r1.below (by repeat (first | (with_reducible assumption) | (exact bel_undr (by with_reducible assumption)) | (with_reducible exact bel_refl _) | (with_reducible refine bel_dr ?_) | (with_reducible refine bel_drN ?_ _) | (with_reducible refine bel_al ?_ _) | (refine bel_set ?_ (by first | (simp; done) | (simp; exact Below.size (by assumption)) | (simp; omega)) _) | (with_reducible refine bel_tr ?_ (by assumption)))), by repeat (first | (with_reducible assumption) | (exact bel_undr (by with_reducible assumption)) | (with_reducible exact bel_refl _) | (with_reducible refine bel_dr ?_) | (with_reducible refine bel_drN ?_ _) | (with_reducible refine bel_al ?_ _) | (refine bel_set ?_ (by first | (simp; done) | (simp; exact Below.size (by assumption)) | (simp; omega)) _) | (with_reducible refine bel_tr ?_ (by assumption)))⟩
  case round =>
    obtain ⟨k, hk, rfl, hk2, hr1, hb⟩ := hrel
    clear r1
    by_cases hlt : k < L.length
    · obtain ⟨b0, off, rfl, hlb, hc⟩ := hr1 (by omega)
      have p0 := hc k hlt
      have t01 := hbd k hlt
      have HD := Lib.hid (drop_at L k hlt)
      have HK := Lib.hid hk2
      have hkl : (k : Int) < (L.length : Int) := by omega
      have hk0 : (0 : Int) ≤ (k : Int) := by omega
      have HBD := Lib.hid hbd
      clear hc hk2 hbd
      generalize atIn L k = t at p0 t01 HD
      obtain ⟨t00, t01⟩ := t01
      obtain ⟨x, hx⟩ : ∃ z, (if skB a t = true then skK a t else 0) = z := ⟨_, rfl⟩
      obtain ⟨y, hy⟩ : ∃ z, (if skB b t = true then skK b t else 0) = z := ⟨_, rfl⟩
      obtain ⟨B1, hB1⟩ : ∃ z, skB a t = z := ⟨_, rfl⟩
      obtain ⟨B2, hB2⟩ : ∃ z, skB b t = z := ⟨_, rfl⟩
      have HX := Lib.hid hx
      have HY := Lib.hid hy
      have H1 := Lib.hid hB1
      have H2 := Lib.hid hB2
      clear hx hy hB1 hB2
      go_wp2_with fail
      refine (snd_val HX.out H1.out _ _ _ _ rfl hm (by omega) (by omega) (h.below hb)).mono ?_
      rintro e2 w2 ⟨rfl, b2⟩
      have hb2 := bel_tr hb b2
      have hr2 := hr1.below b2
      go_wp2_with fail
      refine (snd_val HY.out H2.out _ _ _ _ rfl hm' (by omega) (by omega) (h'.below hb2)).mono ?_
      rintro e3 w3 ⟨rfl, b3⟩
      have hb3 := bel_tr hb2 b3
      have hr3 := hr2.below b3
      clear b2 b3 hb2 hr2 p0
      cases B1
      · have HM := Lib.hid (show mfB a b t = false from by unfold mfB; rw [H1.out]; rfl)
        go_wp2
        go_roundw
        case rel => exact ⟨k + 1, by omega, by go_num, by rw [HK.out, HD.out]; exact mfL_no HM.out, hr3, hb3⟩
        case measure => simp [intOf]; omega
      · cases B2
        · have HM := Lib.hid (show mfB a b t = false from by unfold mfB; rw [H1.out, H2.out]; rfl)
          go_wp2
          go_roundw
          case rel => exact ⟨k + 1, by omega, by go_num, by rw [HK.out, HD.out]; exact mfL_no HM.out, hr3, hb3⟩
          case measure => simp [intOf]; omega
        · obtain ⟨m, hm9⟩ : ∃ z, dsI x y % 12 = z := ⟨_, rfl⟩
          obtain ⟨V, hV⟩ : ∃ z, disB m = z := ⟨_, rfl⟩
          have hxe : skK a t = x := by have := HX.out; rw [H1.out] at this; exact this
          have hye : skK b t = y := by have := HY.out; rw [H2.out] at this; exact this
          have HM0 := Lib.hid (mfB_vals H1.out H2.out hxe hye hm9 hV)
          have gx := sk_bd a t
          have gy := sk_bd b t
          rw [hxe] at gx
          rw [hye] at gy
          have HM9 := Lib.hid hm9
          have HV := Lib.hid hV
          clear hm9 hV hxe hye
          go_wp2_with fail
          refine (dis_val HM9.out HV.out _ gx gy).mono ?_
          rintro e4 w4 ⟨rfl, b4⟩
          have hb4 := bel_tr hb3 b4
          have hr4 := hr3.below b4
          cases V
          · have HM := Lib.hid (show mfB a b t = false from HM0.out)
            go_wp2
            go_roundw
            case rel => exact ⟨k + 1, by omega, by go_num, by rw [HK.out, HD.out]; exact mfL_no HM.out, hr4, hb4⟩
            case measure => simp [intOf]; omega
          · have HM := Lib.hid (show mfB a b t = true from HM0.out)
            go_wp2
            exact bodyPost_ret (v := .int .i64 t) (by simp [results, Try.results26, go_sem]) rfl ⟨ret_int (by rw [← HMF.out, HK.out, HD.out, mfL_yes HM.out]), hb4⟩
    · obtain rfl : k = L.length := by omega
      have HK := Lib.hid hk2
      clear hk2
      go_wp2
      exact bodyPost_ret (v := .int .i64 (-1)) (by simp [results, Try.results26, go_sem]) rfl ⟨ret_int (by rw [← HMF.out, HK.out, List.drop_length]; rfl), by repeat (first | (with_reducible assumption) | (exact bel_undr (by with_reducible assumption)) | (with_reducible exact bel_refl _) | (with_reducible refine bel_dr ?_) | (with_reducible refine bel_drN ?_ _) | (with_reducible refine bel_al ?_ _) | (refine bel_set ?_ (by first | (simp; done) | (simp; exact Below.size (by assumption)) | (simp; omega)) _) | (with_reducible refine bel_tr ?_ (by assumption)))⟩
set_option maxRecDepth 20000 in
set_option maxHeartbeats 4000000 in
theorem smf_val {a b : List Nt} {r : Int} (hr : mfI a b r) (A : Option Addr) (n c : Nat) (A' : Option Addr) (n' c' : Nat) (w : World) (hn : a.length = n) (hm : n ≤ 2000000) (h : RowNt w w.heap.size A a) (hn' : b.length = n') (hm' : n' ≤ 2000000) (h' : RowNt w w.heap.size A' b) :
    Calls Try.prog 25 #[.slice A n c, .slice A' n' c'] w fun e w' => e = .returned (.int .i64 r) ∧ Below w.heap.size w w' := by
  subst hn hn'
  obtain ⟨L, hL, hmf⟩ := hr
  have HMF := Lib.hid hmf
  have HL := Lib.hid hL
  have hl121 := mt_len121 hL
  clear hmf
  go_enter Try.func25, Try.ntmps25
  go_wp2_with fail
  refine (smt_q HL.out _ _ _ _ _ _ _ rfl hm h rfl hm' h').mono ?_
  rintro e1 w1 ⟨A1, c1, rfl, lc1, cm1, r1, _, b1⟩
  have hbd : ∀ k, k < L.length → 0 ≤ atIn L k ∧ atIn L k < 46080 := fun k hk => mt_bd hL (at_mem L k hk)
  clear hL
  go_wp2
  go_loopw [6, 7, 8, 9] (fun i _ _ _ wr => ∃ k : Nat, k ≤ L.length ∧ i = .int .i64 k ∧ mfL a b L = mfL a b (L.drop k) ∧ RowIn wr wr.heap.size A1 L ∧ Below w.heap.size w wr) (fun i _ _ _ _ => L.length - (intOf i).toNat)
  case atStart => exact ⟨0, Nat.zero_le _, rfl, rfl, by first | exact r1 | exact r1.below (by repeat (first | (with_reducible assumption) | (exact bel_undr (by with_reducible assumption)) | (with_reducible exact bel_refl _) | (with_reducible refine bel_dr ?_) | (with_reducible refine bel_drN ?_ _) | (with_reducible refine bel_al ?_ _) | (refine bel_set ?_ (by first | (simp; done) | (simp; exact Below.size (by assumption)) | (simp; omega)) _) | (with_reducible refine bel_tr ?_ (by assumption)))), by repeat (first | (with_reducible assumption) | (exact bel_undr (by with_reducible assumption)) | (with_reducible exact bel_refl _) | (with_reducible refine bel_dr ?_) | (with_reducible refine bel_drN ?_ _) | (with_reducible refine bel_al ?_ _) | (refine bel_set ?_ (by first | (simp; done) | (simp; exact Below.size (by assumption)) | (simp; omega)) _) | (with_reducible refine bel_tr ?_ (by assumption)))⟩
  case round =>
    obtain ⟨k, hk, rfl, hk2, hr1, hb⟩ := hrel
    clear r1
    by_cases hlt : k < L.length
    · obtain ⟨b0, off, rfl, hlb, hc⟩ := hr1 (by omega)
      have p0 := hc k hlt
      have t01 := hbd k hlt
      have HD := Lib.hid (drop_at L k hlt)
      have HK := Lib.hid hk2
      have hkl : (k : Int) < (L.length : Int) := by omega
      have hk0 : (0 : Int) ≤ (k : Int) := by omega
      have HBD := Lib.hid hbd
      clear hc hk2 hbd
      generalize atIn L k = t at p0 t01 HD
      obtain ⟨t00, t01⟩ := t01
      obtain ⟨x, hx⟩ : ∃ z, (if skB a t = true then skK a t else -100) = z := ⟨_, rfl⟩
      obtain ⟨y, hy⟩ : ∃ z, (if skB b t = true then skK b t else -100) = z := ⟨_, rfl⟩
      obtain ⟨B1, hB1⟩ : ∃ z, skB a t = z := ⟨_, rfl⟩
      obtain ⟨B2, hB2⟩ : ∃ z, skB b t = z := ⟨_, rfl⟩
      have gx : (B1 = false ∧ x = -100) ∨ (B1 = true ∧ -100 < x ∧ x ≤ 109 ∧ skK a t = x) := by
        rw [← hB1, ← hx]
        cases e : skB a t
        · exact .inl ⟨rfl, rfl⟩
        · exact .inr ⟨rfl, by simpa using sk_gt e, by simpa using (sk_bd a t).2, by simp⟩
      have gy : (B2 = false ∧ y = -100) ∨ (B2 = true ∧ -100 < y ∧ y ≤ 109 ∧ skK b t = y) := by
        rw [← hB2, ← hy]
        cases e : skB b t
        · exact .inl ⟨rfl, rfl⟩
        · exact .inr ⟨rfl, by simpa using sk_gt e, by simpa using (sk_bd b t).2, by simp⟩
      have HX := Lib.hid hx
      have HY := Lib.hid hy
      have H1 := Lib.hid hB1
      have H2 := Lib.hid hB2
      have GX := Lib.hid gx
      have GY := Lib.hid gy
      have x0 : -100 ≤ x ∧ x ≤ 109 := by rcases gx with g | g <;> omega
      have y0 : -100 ≤ y ∧ y ≤ 109 := by rcases gy with g | g <;> omega
      obtain ⟨x1, x2⟩ := x0
      obtain ⟨y1, y2⟩ := y0
      have i1 := IntWalk.i64_in (x - y) (by omega)
      have i2 := IntWalk.i64_in (y - x) (by omega)
      clear hx hy hB1 hB2 gx gy
      go_wp2_with fail
      refine (lky_val HX.out _ _ _ _ rfl hm (by omega) (by omega) (h.below hb)).mono ?_
      rintro e2 w2 ⟨rfl, b2⟩
      have hb2 := bel_tr hb b2
      have hr2 := hr1.below b2
      have p0 := keep_tr p0 b2
      go_wp2_with fail
      refine (lky_val HY.out _ _ _ _ rfl hm' (by omega) (by omega) (h'.below hb2)).mono ?_
      rintro e3 w3 ⟨rfl, b3⟩
      have hb3 := bel_tr hb2 b3
      have hr3 := hr2.below b3
      have p0 := keep_tr p0 b3
      clear b2 b3 hb2 hr2
      obtain ⟨d, hd⟩ : ∃ z, max (x - y) (y - x) = z := ⟨_, rfl⟩
      have hd2 := hd
      rw [ds_max] at hd2
      have hdb := dsI_bd (x := x) (y := y) ⟨x1, x2⟩ ⟨y1, y2⟩
      rw [hd2] at hdb
      obtain ⟨d0, d1⟩ := hdb
      obtain ⟨m, hm9⟩ : ∃ z, d % 12 = z := ⟨_, rfl⟩
      have hM := tmodE d0 12
      rw [hm9] at hM
      have m0 : 0 ≤ m := by omega
      have m1 : m < 12 := by omega
      have HM9 := Lib.hid (show dsI x y % 12 = m from by rw [hd2]; exact hm9)
      clear hd2 hm9
      go_upto_region 8 with fail
      rcases GX.out with ⟨rfl, rfl⟩ | ⟨rfl, gx0, _, gx1⟩
      · have HM := Lib.hid (show mfB a b t = false from by unfold mfB; rw [H1.out]; rfl)
        go_wp2
        go_roundw
        case rel => exact ⟨k + 1, by omega, by go_num, by rw [HK.out, HD.out]; exact mfL_no HM.out, hr3, hb3⟩
        case measure => simp [intOf]; omega
      · rcases GY.out with ⟨rfl, rfl⟩ | ⟨rfl, gy0, _, gy1⟩
        · have HM := Lib.hid (show mfB a b t = false from by unfold mfB; rw [H1.out, H2.out]; rfl)
          go_wp2
          go_roundw
          case rel => exact ⟨k + 1, by omega, by go_num, by rw [HK.out, HD.out]; exact mfL_no HM.out, hr3, hb3⟩
          case measure => simp [intOf]; omega
        · obtain ⟨V, hV⟩ : ∃ z, disB m = z := ⟨_, rfl⟩
          have HM0 := Lib.hid (mfB_vals H1.out H2.out gx1 gy1 HM9.out hV)
          clear gx1 gy1
          cases V
          · have HM := Lib.hid (show mfB a b t = false from HM0.out)
            obtain ⟨n1, n2, n3, n4, n5, n6⟩ := disB_not hV
            clear hV
            go_wp2
            go_roundw
            case rel => exact ⟨k + 1, by omega, by go_num, by rw [HK.out, HD.out]; exact mfL_no HM.out, hr3, hb3⟩
            case measure => simp [intOf]; omega
          · have HM := Lib.hid (show mfB a b t = true from HM0.out)
            rcases disB_or hV with rfl | rfl | rfl | rfl | rfl | rfl
            all_goals
              clear hV
              go_wp2
              exact bodyPost_ret (v := .int .i64 t) (by simp [results, Try.results25, go_sem]) rfl ⟨ret_int (by rw [← HMF.out, HK.out, HD.out, mfL_yes HM.out]), hb3⟩
    · obtain rfl : k = L.length := by omega
      have HK := Lib.hid hk2
      clear hk2
      go_wp2
      exact bodyPost_ret (v := .int .i64 (-1)) (by simp [results, Try.results25, go_sem]) rfl ⟨ret_int (by rw [← HMF.out, HK.out, List.drop_length]; rfl), by repeat (first | (with_reducible assumption) | (exact bel_undr (by with_reducible assumption)) | (with_reducible exact bel_refl _) | (with_reducible refine bel_dr ?_) | (with_reducible refine bel_drN ?_ _) | (with_reducible refine bel_al ?_ _) | (refine bel_set ?_ (by first | (simp; done) | (simp; exact Below.size (by assumption)) | (simp; omega)) _) | (with_reducible refine bel_tr ?_ (by assumption)))⟩
end Go.Proofs.Ytiapfpjggginoaa
