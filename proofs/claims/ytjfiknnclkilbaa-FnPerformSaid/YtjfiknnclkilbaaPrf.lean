/- Perform, as the program does it. -/
import Derived.Test.YtjfiknnclkilbaaPrC
namespace Go.Proofs.Ytjfiknnclkilbaa
open Go.RowKit

set_option maxHeartbeats 8000000 in
theorem prf_any (A A' : Option Addr) (n c n' c' : Nat) (l : List Nt) (T : List Tp) (loud : Int) (w : World) (hn : l.length = n) (hm : n ≤ 2000000) (hn' : T.length = n') (hm' : n' ≤ 2000000)
    (h : RowNt w w.heap.size A l) (h' : RowTp w w.heap.size A' T) :
    Calls Try.prog 32 #[.slice A n c, .slice A' n' c', .int .i64 loud] w (Prf w l T loud) := by
  subst hn hn'
  cases hv : vvB l
  · have HV := Lib.hid hv
    clear hv
    go_enter Try.func32, Try.ntmps32
    go_wp2_with fail
    refine (vv_val HV.out _ _ _ _ rfl hm h).mono ?_
    rintro e1 w1 ⟨rfl, b1⟩
    go_wp2
    go_ret
    refine ⟨_, rfl, ?_, by repeat (first | (with_reducible assumption) | (exact bel_undr (by with_reducible assumption)) | (with_reducible exact bel_refl _) | (with_reducible refine bel_dr ?_) | (with_reducible refine bel_drN ?_ _) | (with_reducible refine bel_al ?_ _) | (refine bel_set ?_ (by first | (simp; done) | (simp; exact Below.size (by assumption)) | (simp; omega)) _) | (with_reducible refine bel_tr ?_ (by assumption)))⟩
    rw [perL_no (fun z => by have := HV.out.symm.trans z.1; cases this)]
    exact World.ownsRow_nil _ _ _ _
  · cases ht : tvB T
    · have HV := Lib.hid hv
      have HT := Lib.hid ht
      clear hv ht
      go_enter Try.func32, Try.ntmps32
      go_wp2_with fail
      refine (vv_val HV.out _ _ _ _ rfl hm h).mono ?_
      rintro e1 w1 ⟨rfl, b1⟩
      go_wp2_with fail
      refine (tv_val HT.out _ _ _ _ rfl hm' (h'.below b1)).mono ?_
      rintro e2 w2 ⟨rfl, b2⟩
      go_wp2
      go_ret
      refine ⟨_, rfl, ?_, by repeat (first | (with_reducible assumption) | (exact bel_undr (by with_reducible assumption)) | (with_reducible exact bel_refl _) | (with_reducible refine bel_dr ?_) | (with_reducible refine bel_drN ?_ _) | (with_reducible refine bel_al ?_ _) | (refine bel_set ?_ (by first | (simp; done) | (simp; exact Below.size (by assumption)) | (simp; omega)) _) | (with_reducible refine bel_tr ?_ (by assumption)))⟩
      rw [perL_no (fun z => by have := HT.out.symm.trans z.2.1; cases this)]
      exact World.ownsRow_nil _ _ _ _
    · by_cases hl : 1 ≤ loud ∧ loud ≤ 127
      · have HV := Lib.hid hv
        have HT := Lib.hid ht
        have HLD := Lib.hid hl
        have hf := vvB_of hv
        have h60 := hf.len
        obtain ⟨l0, l1⟩ := hl
        obtain ⟨i0, hi0, hz0, hz1, hz2⟩ := info_parts infoEv
        have hsum := hf.sum_le l.length (Nat.le_refl _)
        clear hv ht
        go_enter Try.func32, Try.ntmps32
        go_wp2_with fail
        refine (vv_val HV.out _ _ _ _ rfl hm h).mono ?_
        rintro e1 w1 ⟨rfl, b1⟩
        go_wp2_with fail
        refine (tv_val HT.out _ _ _ _ rfl hm' (h'.below b1)).mono ?_
        rintro e2 w2 ⟨rfl, b2⟩
        go_wp2_with fail
        refine (win_yes _ _ _ _ l0 l1).mono ?_
        rintro e3 w3 ⟨rfl, rfl⟩
        go_wp2_with fail
        refine (vt_any _ _ _ _ _ rfl HV.out ((h.below b1).below b2)).mono ?_
        rintro e4 w4 ⟨rfl, b4⟩
        have hs1 : ¬ (50000 : Int) < vsum l l.length := by omega
        have bw : Below w.heap.size w w4 := by repeat (first | (with_reducible assumption) | (exact bel_undr (by with_reducible assumption)) | (with_reducible exact bel_refl _) | (with_reducible refine bel_dr ?_) | (with_reducible refine bel_drN ?_ _) | (with_reducible refine bel_al ?_ _) | (refine bel_set ?_ (by first | (simp; done) | (simp; exact Below.size (by assumption)) | (simp; omega)) _) | (with_reducible refine bel_tr ?_ (by assumption)))
        have hw4 := bw.size
        clear b1 b2 b4 hsum
        generalize vsum l l.length = VS at *
        go_wp2
        have own0 : (w4.alloc (.cells #[] 46)).ownsRow w.heap.size 46 4 (.slice (some ⟨w4.heap.size, 0, none⟩) 0 0) (evL l T loud 0).length (flat csEv (evL l T loud 0)) :=
          World.ownsRow_lit w4 #[] 0 hw4 (by simp [maxLen]) rfl
        go_loopw [7, 8, 9, 10, 11, 33] (fun ev tick on _ _ i wr => ∃ k : Nat, k ≤ l.length ∧ i = .int .i64 k ∧ tick = .int .i64 (vsum l k) ∧ on = .int .i64 (onI l T k) ∧ wr.ownsRow w.heap.size 46 4 ev (evL l T loud k).length (flat csEv (evL l T loud k)) ∧ Below w.heap.size w wr ∧ Hid (∀ j, j < k → kOk (atNt l j))) (fun _ _ _ _ _ i _ => l.length - (intOf i).toNat)
        case atStart => exact ⟨0, Nat.zero_le _, rfl, rfl, rfl, own0, by repeat (first | (with_reducible assumption) | (exact bel_undr (by with_reducible assumption)) | (with_reducible exact bel_refl _) | (with_reducible refine bel_dr ?_) | (with_reducible refine bel_drN ?_ _) | (with_reducible refine bel_al ?_ _) | (refine bel_set ?_ (by first | (simp; done) | (simp; exact Below.size (by assumption)) | (simp; omega)) _) | (with_reducible refine bel_tr ?_ (by assumption))), fun j hj => absurd hj (by omega)⟩
        case round =>
          obtain ⟨k, hk, rfl, rfl, rfl, hown, hb, HK⟩ := hrel
          clear own0
          by_cases hlt : k < l.length
          · obtain ⟨b, off, rfl, hlb, hc⟩ := (h.below hb) (by omega)
            have hTr := h'.below hb
            have hck := hc k hlt
            have hkl : (k : Int) < (l.length : Int) := by omega
            have hk0 : (0 : Int) ≤ (k : Int) := by omega
            have hlen := evL_len l T loud k
            have hsk := hf.sum_le k (by omega)
            have hsk1 := hf.sum_le (k + 1) (by omega)
            have hst := hf.sum_le (stI l k) (by have := stI_le l k; omega)
            have HS1 : Hid (vsum l (k + 1) = vsum l k + (atNt l k).ticks) := by show _ = _; rfl
            have hw := hb.size
            cases k with
            | zero =>
              generalize hX : atNt l 0 = x at hck HS1
              have HX := Lib.hid hX
              clear hX
              obtain ⟨r, s, a, o, t, d⟩ := x
              obtain ⟨p0, p1, p2, p3, p4, p5⟩ := hck
              simp only at p0 p1 p2 p3 p4 p5 HS1
              generalize hL : evL l T loud 0 = L at hown hlen
              have HL := Lib.hid hL
              clear hL
              have HS2 := HS1.out
              generalize hV1 : vsum l (0 + 1) = V1 at hsk1 HS1 HS2
              have HV1 := Lib.hid hV1
              clear hV1
              generalize hV : vsum l 0 = V at hsk HS1 HS2 ⊢
              have HV0 := Lib.hid hV
              have hadd := IntWalk.i64_in (V + t) (by omega)
              have hVt0 : 0 ≤ V + t := by omega
              have hVt1 : V + t ≤ 60000 := by omega
              have HVt := Lib.hid HS2
              clear hV HS2 hc
              have bX : Blk (wr.alloc (.cells #[.bool r, .int .i64 s, .int .i64 a, .int .i64 o, .int .i64 t, .bool d] 54)) wr.heap.size #[.bool r, .int .i64 s, .int .i64 a, .int .i64 o, .int .i64 t, .bool d] 54 := Blk.new wr _ _
              have hownX := hown.alloc (.cells #[.bool r, .int .i64 s, .int .i64 a, .int .i64 o, .int .i64 t, .bool d] 54)
              have hbX : Below w.heap.size w (wr.alloc (.cells #[.bool r, .int .i64 s, .int .i64 a, .int .i64 o, .int .i64 t, .bool d] 54)) := bel_al hb _
              have hTX := hTr.below (bel_al (bel_refl wr) (.cells #[.bool r, .int .i64 s, .int .i64 a, .int .i64 o, .int .i64 t, .bool d] 54))
              simp only [Nat.zero_mul, Nat.add_zero] at p0 p1 p2 p3 p4 p5
              have e0 : (((0 : Nat) : Int)) = 0 := rfl
              rw [e0]
              have HST : Hid (stI l 0 = 0) := rfl
              go_wp2_with fail
              refine (to_any _ _ _ T _ _ rfl hTX HT.out hsk.1 (by omega)).mono ?_
              rintro e5 v ⟨rfl, b5⟩
              have bY := bX.below b5
              have hownY := own_below hownX b5
              have hbY : Below w.heap.size w v := by repeat (first | (with_reducible assumption) | (exact bel_undr (by with_reducible assumption)) | (with_reducible exact bel_refl _) | (with_reducible refine bel_dr ?_) | (with_reducible refine bel_drN ?_ _) | (with_reducible refine bel_al ?_ _) | (refine bel_set ?_ (by first | (simp; done) | (simp; exact Below.size (by assumption)) | (simp; omega)) _) | (with_reducible refine bel_tr ?_ (by assumption)))
              have hTY := hTX.below b5
              clear bX hownX hbX hTX
              have bX := bY
              have hownX := hownY
              have hbX := hbY
              have hTX := hTY
              clear bY hownY hbY hTY b5 p0 p1 p2 p3 p4 p5 hTr hown hb
              generalize wr.heap.size = X at *
              obtain ⟨ON, hON⟩ : ∃ ON, timeI T V = ON := ⟨_, rfl⟩
              rw [hON]
              have HON := Lib.hid hON
              clear hON
              have lX := bX.lt
              have m0 : v.cell? ⟨X, 0, none⟩ = some (.bool r) := by rw [Blk.cell bX]; rfl
              have m1 : v.cell? ⟨X, 1, none⟩ = some (.int .i64 s) := by rw [Blk.cell bX]; rfl
              have m2 : v.cell? ⟨X, 2, none⟩ = some (.int .i64 a) := by rw [Blk.cell bX]; rfl
              have m3 : v.cell? ⟨X, 3, none⟩ = some (.int .i64 o) := by rw [Blk.cell bX]; rfl
              have m4 : v.cell? ⟨X, 4, none⟩ = some (.int .i64 t) := by rw [Blk.cell bX]; rfl
              have m5 : v.cell? ⟨X, 5, none⟩ = some (.bool d) := by rw [Blk.cell bX]; rfl
              cases r
              · obtain ⟨KEY, hK⟩ : ∃ KEY, pkI s a o = KEY := ⟨_, rfl⟩
                have HKY := Lib.hid hK
                clear hK
                by_cases hk2 : 0 ≤ KEY ∧ KEY ≤ 107
                · have hk2c := hk2
                  have HK2 := Lib.hid hk2c
                  clear hk2c
                  obtain ⟨k20, k21⟩ := hk2
                  cases d
                  · go_wp2_with fail
                    refine (pk_val HKY.out _).mono ?_
                    rintro e8 w8 ⟨rfl, b8⟩
                    have bX := bX.below b8
                    have hownX := own_below hownX b8
                    have hbX : Below w.heap.size w w8 := by repeat (first | (with_reducible assumption) | (exact bel_undr (by with_reducible assumption)) | (with_reducible exact bel_refl _) | (with_reducible refine bel_dr ?_) | (with_reducible refine bel_drN ?_ _) | (with_reducible refine bel_al ?_ _) | (refine bel_set ?_ (by first | (simp; done) | (simp; exact Below.size (by assumption)) | (simp; omega)) _) | (with_reducible refine bel_tr ?_ (by assumption)))
                    have hTX := hTX.below b8
                    have lX := bX.lt
                    have m0 := keep_tr m0 b8
                    have m1 := keep_tr m1 b8
                    have m2 := keep_tr m2 b8
                    have m3 := keep_tr m3 b8
                    have m4 := keep_tr m4 b8
                    have m5 := keep_tr m5 b8
                    clear b8
                    go_wp2_with fail
                    refine (win_yes _ _ _ _ k20 k21).mono ?_
                    rintro e9 w9 ⟨rfl, rfl⟩
                    go_wp2_with fail
                    have lf0 : ∀ xL : Later w8, xL.world.cell? ⟨X, 1, none⟩ = some (.int .i64 s) := fun xL => xL.at (m1)
                    have lf1 : ∀ xL : Later w8, xL.world.cell? ⟨X, 2, none⟩ = some (.int .i64 a) := fun xL => xL.at (m2)
                    have lf2 : ∀ xL : Later w8, xL.world.cell? ⟨X, 3, none⟩ = some (.int .i64 o) := fun xL => xL.at (m3)
                    refine region_tail1 (w0 := w8) 9 (by kernel_rfl) (by kernel_rfl) (bel_refl _) (fun _ _ _ h => h) (Or.inl ⟨rfl, fun _ => rfl⟩) ?_
                    simp only [List.take_succ_cons, List.take_zero, List.drop_succ_cons, List.drop_zero]
                    try go_simp
                    repeat (go_big_quiet_step ((first | (go_at_call 44; exact later_call (to_any _ _ _ T _ _ rfl (hTX.below (Later.bel _)) HT.out hVt0 hVt1)) | (go_at_call 42; exact later_call (pk_val HKY.out _)))))
                    refine wpQuiet_nil ?_
                    (first | (rintro w' ⟨x, rfl⟩) | (intro x))
                    obtain ⟨wl, bl⟩ := x
                    clear lf0 lf1 lf2
                    have hownX := own_below hownX bl
                    have hbX : Below w.heap.size w wl := by repeat (first | (with_reducible assumption) | (exact bel_undr (by with_reducible assumption)) | (with_reducible exact bel_refl _) | (with_reducible refine bel_dr ?_) | (with_reducible refine bel_drN ?_ _) | (with_reducible refine bel_al ?_ _) | (refine bel_set ?_ (by first | (simp; done) | (simp; exact Below.size (by assumption)) | (simp; omega)) _) | (with_reducible refine bel_tr ?_ (by assumption)))
                    have hwl := hbX.size
                    obtain ⟨TI, hTI⟩ : ∃ TI, timeI T (V + t) = TI := ⟨_, rfl⟩
                    rw [hTI]
                    have HTI := Lib.hid hTI
                    clear hTI
                    go_wp2_with (at_builtin; go_must (refine wpList_append_lies _ rfl _ _ 32 rfl w.heap.size 46 i0 _ 4 32 Try.underlying32 hi0 hz0 hz1 hz2 rfl (by omega) _ L.length (flat csEv L) rfl (hownX.alloc _) ⟨wl.heap.size, 0, none⟩ 1 1 [.int .i64 ON, .int .i64 TI, .int .i64 KEY, .int .i64 loud] rfl rfl (World.news_of_block (cs := #[.int .i64 ON, .int .i64 TI, .int .i64 KEY, .int .i64 loud]) (t := 46) (fr := (0, 0)) (heap_alloc_new wl _)) (by simp [Value.oneCell']) (by omega) (by unfold maxLen; omega) (by omega) (by simp; omega) _ rfl ?_; intro gg9 cp9 w9 hown9 hgrow9 hat9 hlt9))
                    have hb9 : Below w.heap.size w w9 := bel_grown (bel_al hbX (.cells #[.int .i64 ON, .int .i64 TI, .int .i64 KEY, .int .i64 loud] 46)) hgrow9 (own_ge hownX)
                    have hq := own_push (t := (⟨ON, TI, KEY, loud⟩ : Ev)) hown9 rfl
                    go_roundw
                    case rel => exact ⟨0 + 1, by omega, by go_num, by rw [HV1.out, HVt.out], by rw [onI, HST.out, HV0.out, HON.out], (by rw [evL_new (by rw [HX.out]; simp), HL.out]; unfold evK; rw [HV1.out, HX.out]; unfold keyN; simp only; rw [HKY.out, HVt.out, HTI.out, HST.out, HV0.out, HON.out]; exact hq), hb9, hid_snoc2 HK (by rw [HX.out]; exact fun _ => by unfold keyN; rw [HKY.out]; exact HK2.out)⟩
                    case measure => simp [intOf]; omega
                  · go_wp2_with fail
                    refine (pk_val HKY.out _).mono ?_
                    rintro e8 w8 ⟨rfl, b8⟩
                    have bX := bX.below b8
                    have hownX := own_below hownX b8
                    have hbX : Below w.heap.size w w8 := by repeat (first | (with_reducible assumption) | (exact bel_undr (by with_reducible assumption)) | (with_reducible exact bel_refl _) | (with_reducible refine bel_dr ?_) | (with_reducible refine bel_drN ?_ _) | (with_reducible refine bel_al ?_ _) | (refine bel_set ?_ (by first | (simp; done) | (simp; exact Below.size (by assumption)) | (simp; omega)) _) | (with_reducible refine bel_tr ?_ (by assumption)))
                    have hTX := hTX.below b8
                    have lX := bX.lt
                    have m0 := keep_tr m0 b8
                    have m1 := keep_tr m1 b8
                    have m2 := keep_tr m2 b8
                    have m3 := keep_tr m3 b8
                    have m4 := keep_tr m4 b8
                    have m5 := keep_tr m5 b8
                    clear b8
                    go_wp2_with fail
                    refine (win_yes _ _ _ _ k20 k21).mono ?_
                    rintro e9 w9 ⟨rfl, rfl⟩
                    go_wp2
                    go_roundw
                    case rel => exact ⟨0 + 1, by omega, by go_num, by rw [HV1.out, HVt.out], by rw [onI, HST.out, HV0.out, HON.out], (by rw [evL_skip (by rw [HX.out]; exact .inr rfl), HL.out]; exact hownX), hbX, hid_snoc2 HK (by rw [HX.out]; exact fun _ => by unfold keyN; rw [HKY.out]; exact HK2.out)⟩
                    case measure => simp [intOf]; omega
                · go_wp2_with fail
                  refine (pk_val HKY.out _).mono ?_
                  rintro e8 w8 ⟨rfl, b8⟩
                  have bX := bX.below b8
                  have hownX := own_below hownX b8
                  have hbX : Below w.heap.size w w8 := by repeat (first | (with_reducible assumption) | (exact bel_undr (by with_reducible assumption)) | (with_reducible exact bel_refl _) | (with_reducible refine bel_dr ?_) | (with_reducible refine bel_drN ?_ _) | (with_reducible refine bel_al ?_ _) | (refine bel_set ?_ (by first | (simp; done) | (simp; exact Below.size (by assumption)) | (simp; omega)) _) | (with_reducible refine bel_tr ?_ (by assumption)))
                  have hTX := hTX.below b8
                  have lX := bX.lt
                  have m0 := keep_tr m0 b8
                  have m1 := keep_tr m1 b8
                  have m2 := keep_tr m2 b8
                  have m3 := keep_tr m3 b8
                  have m4 := keep_tr m4 b8
                  have m5 := keep_tr m5 b8
                  clear b8
                  go_wp2_with fail
                  refine (win_no _ _ _ _ (by omega)).mono ?_
                  rintro e9 w9 ⟨rfl, rfl⟩
                  have HBK : ¬ kOk (atNt l 0) := by rw [HX.out]; intro z; have := z rfl; unfold keyN at this; rw [HKY.out] at this; exact hk2 this
                  have HB2 := Lib.hid (perL_bad (T := T) (loud := loud) 0 hlt HBK)
                  clear HBK
                  go_wp2
                  go_ret
                  refine ⟨_, rfl, ?_, by repeat (first | (with_reducible assumption) | (exact bel_undr (by with_reducible assumption)) | (with_reducible exact bel_refl _) | (with_reducible refine bel_dr ?_) | (with_reducible refine bel_drN ?_ _) | (with_reducible refine bel_al ?_ _) | (refine bel_set ?_ (by first | (simp; done) | (simp; exact Below.size (by assumption)) | (simp; omega)) _) | (with_reducible refine bel_tr ?_ (by assumption)))⟩
                  rw [HB2.out]
                  exact World.ownsRow_nil _ _ _ _
              · go_wp2
                go_roundw
                case rel => exact ⟨0 + 1, by omega, by go_num, by rw [HV1.out, HVt.out], by rw [onI, HST.out, HV0.out, HON.out], (by rw [evL_skip (by rw [HX.out]; exact .inl rfl), HL.out]; exact hownX), hbX, hid_snoc2 HK (by rw [HX.out]; exact kOk_rest rfl)⟩
                case measure => simp [intOf]; omega
            | succ q =>
              have hcq := (hc q (by omega)).2.2.2.2.2
              have hq1 : (((q + 1 : Nat) : Int)) - 1 = (q : Int) := by omega
              have hq2 : (q : Int) < (l.length : Int) := by omega
              have hq3 : (((q + 1 : Nat) : Int) == 0) = false := by simp; omega
              cases ht : (atNt l q).tied
              · rw [ht] at hcq
                have HST := Lib.hid (stI_new ht)
                clear ht
                generalize hX : atNt l (q + 1) = x at hck HS1
                have HX := Lib.hid hX
                clear hX
                obtain ⟨r, s, a, o, t, d⟩ := x
                obtain ⟨p0, p1, p2, p3, p4, p5⟩ := hck
                simp only at p0 p1 p2 p3 p4 p5 HS1
                generalize hL : evL l T loud (q + 1) = L at hown hlen
                have HL := Lib.hid hL
                clear hL
                have HS2 := HS1.out
                generalize hV1 : vsum l ((q + 1) + 1) = V1 at hsk1 HS1 HS2
                have HV1 := Lib.hid hV1
                clear hV1
                generalize hV : vsum l (q + 1) = V at hsk HS1 HS2 ⊢
                have HV0 := Lib.hid hV
                have hadd := IntWalk.i64_in (V + t) (by omega)
                have hVt0 : 0 ≤ V + t := by omega
                have hVt1 : V + t ≤ 60000 := by omega
                have HVt := Lib.hid HS2
                clear hV HS2 hc
                have bX : Blk (wr.alloc (.cells #[.bool r, .int .i64 s, .int .i64 a, .int .i64 o, .int .i64 t, .bool d] 54)) wr.heap.size #[.bool r, .int .i64 s, .int .i64 a, .int .i64 o, .int .i64 t, .bool d] 54 := Blk.new wr _ _
                have hownX := hown.alloc (.cells #[.bool r, .int .i64 s, .int .i64 a, .int .i64 o, .int .i64 t, .bool d] 54)
                have hbX : Below w.heap.size w (wr.alloc (.cells #[.bool r, .int .i64 s, .int .i64 a, .int .i64 o, .int .i64 t, .bool d] 54)) := bel_al hb _
                have hTX := hTr.below (bel_al (bel_refl wr) (.cells #[.bool r, .int .i64 s, .int .i64 a, .int .i64 o, .int .i64 t, .bool d] 54))
                go_wp2_with fail
                refine (to_any _ _ _ T _ _ rfl hTX HT.out hsk.1 (by omega)).mono ?_
                rintro e5 v ⟨rfl, b5⟩
                have bY := bX.below b5
                have hownY := own_below hownX b5
                have hbY : Below w.heap.size w v := by repeat (first | (with_reducible assumption) | (exact bel_undr (by with_reducible assumption)) | (with_reducible exact bel_refl _) | (with_reducible refine bel_dr ?_) | (with_reducible refine bel_drN ?_ _) | (with_reducible refine bel_al ?_ _) | (refine bel_set ?_ (by first | (simp; done) | (simp; exact Below.size (by assumption)) | (simp; omega)) _) | (with_reducible refine bel_tr ?_ (by assumption)))
                have hTY := hTX.below b5
                clear bX hownX hbX hTX
                have bX := bY
                have hownX := hownY
                have hbX := hbY
                have hTX := hTY
                clear bY hownY hbY hTY b5 p0 p1 p2 p3 p4 p5 hTr hown hb
                generalize wr.heap.size = X at *
                obtain ⟨ON, hON⟩ : ∃ ON, timeI T V = ON := ⟨_, rfl⟩
                rw [hON]
                have HON := Lib.hid hON
                clear hON
                have lX := bX.lt
                have m0 : v.cell? ⟨X, 0, none⟩ = some (.bool r) := by rw [Blk.cell bX]; rfl
                have m1 : v.cell? ⟨X, 1, none⟩ = some (.int .i64 s) := by rw [Blk.cell bX]; rfl
                have m2 : v.cell? ⟨X, 2, none⟩ = some (.int .i64 a) := by rw [Blk.cell bX]; rfl
                have m3 : v.cell? ⟨X, 3, none⟩ = some (.int .i64 o) := by rw [Blk.cell bX]; rfl
                have m4 : v.cell? ⟨X, 4, none⟩ = some (.int .i64 t) := by rw [Blk.cell bX]; rfl
                have m5 : v.cell? ⟨X, 5, none⟩ = some (.bool d) := by rw [Blk.cell bX]; rfl
                cases r
                · obtain ⟨KEY, hK⟩ : ∃ KEY, pkI s a o = KEY := ⟨_, rfl⟩
                  have HKY := Lib.hid hK
                  clear hK
                  by_cases hk2 : 0 ≤ KEY ∧ KEY ≤ 107
                  · have hk2c := hk2
                    have HK2 := Lib.hid hk2c
                    clear hk2c
                    obtain ⟨k20, k21⟩ := hk2
                    cases d
                    · go_wp2_with fail
                      refine (pk_val HKY.out _).mono ?_
                      rintro e8 w8 ⟨rfl, b8⟩
                      have bX := bX.below b8
                      have hownX := own_below hownX b8
                      have hbX : Below w.heap.size w w8 := by repeat (first | (with_reducible assumption) | (exact bel_undr (by with_reducible assumption)) | (with_reducible exact bel_refl _) | (with_reducible refine bel_dr ?_) | (with_reducible refine bel_drN ?_ _) | (with_reducible refine bel_al ?_ _) | (refine bel_set ?_ (by first | (simp; done) | (simp; exact Below.size (by assumption)) | (simp; omega)) _) | (with_reducible refine bel_tr ?_ (by assumption)))
                      have hTX := hTX.below b8
                      have lX := bX.lt
                      have m0 := keep_tr m0 b8
                      have m1 := keep_tr m1 b8
                      have m2 := keep_tr m2 b8
                      have m3 := keep_tr m3 b8
                      have m4 := keep_tr m4 b8
                      have m5 := keep_tr m5 b8
                      clear b8
                      go_wp2_with fail
                      refine (win_yes _ _ _ _ k20 k21).mono ?_
                      rintro e9 w9 ⟨rfl, rfl⟩
                      go_wp2_with fail
                      have lf0 : ∀ xL : Later w8, xL.world.cell? ⟨X, 1, none⟩ = some (.int .i64 s) := fun xL => xL.at (m1)
                      have lf1 : ∀ xL : Later w8, xL.world.cell? ⟨X, 2, none⟩ = some (.int .i64 a) := fun xL => xL.at (m2)
                      have lf2 : ∀ xL : Later w8, xL.world.cell? ⟨X, 3, none⟩ = some (.int .i64 o) := fun xL => xL.at (m3)
                      refine region_tail1 (w0 := w8) 9 (by kernel_rfl) (by kernel_rfl) (bel_refl _) (fun _ _ _ h => h) (Or.inl ⟨rfl, fun _ => rfl⟩) ?_
                      simp only [List.take_succ_cons, List.take_zero, List.drop_succ_cons, List.drop_zero]
                      try go_simp
                      repeat (go_big_quiet_step ((first | (go_at_call 44; exact later_call (to_any _ _ _ T _ _ rfl (hTX.below (Later.bel _)) HT.out hVt0 hVt1)) | (go_at_call 42; exact later_call (pk_val HKY.out _)))))
                      refine wpQuiet_nil ?_
                      (first | (rintro w' ⟨x, rfl⟩) | (intro x))
                      obtain ⟨wl, bl⟩ := x
                      clear lf0 lf1 lf2
                      have hownX := own_below hownX bl
                      have hbX : Below w.heap.size w wl := by repeat (first | (with_reducible assumption) | (exact bel_undr (by with_reducible assumption)) | (with_reducible exact bel_refl _) | (with_reducible refine bel_dr ?_) | (with_reducible refine bel_drN ?_ _) | (with_reducible refine bel_al ?_ _) | (refine bel_set ?_ (by first | (simp; done) | (simp; exact Below.size (by assumption)) | (simp; omega)) _) | (with_reducible refine bel_tr ?_ (by assumption)))
                      have hwl := hbX.size
                      obtain ⟨TI, hTI⟩ : ∃ TI, timeI T (V + t) = TI := ⟨_, rfl⟩
                      rw [hTI]
                      have HTI := Lib.hid hTI
                      clear hTI
                      go_wp2_with (at_builtin; go_must (refine wpList_append_lies _ rfl _ _ 32 rfl w.heap.size 46 i0 _ 4 32 Try.underlying32 hi0 hz0 hz1 hz2 rfl (by omega) _ L.length (flat csEv L) rfl (hownX.alloc _) ⟨wl.heap.size, 0, none⟩ 1 1 [.int .i64 ON, .int .i64 TI, .int .i64 KEY, .int .i64 loud] rfl rfl (World.news_of_block (cs := #[.int .i64 ON, .int .i64 TI, .int .i64 KEY, .int .i64 loud]) (t := 46) (fr := (0, 0)) (heap_alloc_new wl _)) (by simp [Value.oneCell']) (by omega) (by unfold maxLen; omega) (by omega) (by simp; omega) _ rfl ?_; intro gg9 cp9 w9 hown9 hgrow9 hat9 hlt9))
                      have hb9 : Below w.heap.size w w9 := bel_grown (bel_al hbX (.cells #[.int .i64 ON, .int .i64 TI, .int .i64 KEY, .int .i64 loud] 46)) hgrow9 (own_ge hownX)
                      have hq := own_push (t := (⟨ON, TI, KEY, loud⟩ : Ev)) hown9 rfl
                      go_roundw
                      case rel => exact ⟨(q + 1) + 1, by omega, by go_num, by rw [HV1.out, HVt.out], by rw [onI, HST.out, HV0.out, HON.out], (by rw [evL_new (by rw [HX.out]; simp), HL.out]; unfold evK; rw [HV1.out, HX.out]; unfold keyN; simp only; rw [HKY.out, HVt.out, HTI.out, HST.out, HV0.out, HON.out]; exact hq), hb9, hid_snoc2 HK (by rw [HX.out]; exact fun _ => by unfold keyN; rw [HKY.out]; exact HK2.out)⟩
                      case measure => simp [intOf]; omega
                    · go_wp2_with fail
                      refine (pk_val HKY.out _).mono ?_
                      rintro e8 w8 ⟨rfl, b8⟩
                      have bX := bX.below b8
                      have hownX := own_below hownX b8
                      have hbX : Below w.heap.size w w8 := by repeat (first | (with_reducible assumption) | (exact bel_undr (by with_reducible assumption)) | (with_reducible exact bel_refl _) | (with_reducible refine bel_dr ?_) | (with_reducible refine bel_drN ?_ _) | (with_reducible refine bel_al ?_ _) | (refine bel_set ?_ (by first | (simp; done) | (simp; exact Below.size (by assumption)) | (simp; omega)) _) | (with_reducible refine bel_tr ?_ (by assumption)))
                      have hTX := hTX.below b8
                      have lX := bX.lt
                      have m0 := keep_tr m0 b8
                      have m1 := keep_tr m1 b8
                      have m2 := keep_tr m2 b8
                      have m3 := keep_tr m3 b8
                      have m4 := keep_tr m4 b8
                      have m5 := keep_tr m5 b8
                      clear b8
                      go_wp2_with fail
                      refine (win_yes _ _ _ _ k20 k21).mono ?_
                      rintro e9 w9 ⟨rfl, rfl⟩
                      go_wp2
                      go_roundw
                      case rel => exact ⟨(q + 1) + 1, by omega, by go_num, by rw [HV1.out, HVt.out], by rw [onI, HST.out, HV0.out, HON.out], (by rw [evL_skip (by rw [HX.out]; exact .inr rfl), HL.out]; exact hownX), hbX, hid_snoc2 HK (by rw [HX.out]; exact fun _ => by unfold keyN; rw [HKY.out]; exact HK2.out)⟩
                      case measure => simp [intOf]; omega
                  · go_wp2_with fail
                    refine (pk_val HKY.out _).mono ?_
                    rintro e8 w8 ⟨rfl, b8⟩
                    have bX := bX.below b8
                    have hownX := own_below hownX b8
                    have hbX : Below w.heap.size w w8 := by repeat (first | (with_reducible assumption) | (exact bel_undr (by with_reducible assumption)) | (with_reducible exact bel_refl _) | (with_reducible refine bel_dr ?_) | (with_reducible refine bel_drN ?_ _) | (with_reducible refine bel_al ?_ _) | (refine bel_set ?_ (by first | (simp; done) | (simp; exact Below.size (by assumption)) | (simp; omega)) _) | (with_reducible refine bel_tr ?_ (by assumption)))
                    have hTX := hTX.below b8
                    have lX := bX.lt
                    have m0 := keep_tr m0 b8
                    have m1 := keep_tr m1 b8
                    have m2 := keep_tr m2 b8
                    have m3 := keep_tr m3 b8
                    have m4 := keep_tr m4 b8
                    have m5 := keep_tr m5 b8
                    clear b8
                    go_wp2_with fail
                    refine (win_no _ _ _ _ (by omega)).mono ?_
                    rintro e9 w9 ⟨rfl, rfl⟩
                    have HBK : ¬ kOk (atNt l (q + 1)) := by rw [HX.out]; intro z; have := z rfl; unfold keyN at this; rw [HKY.out] at this; exact hk2 this
                    have HB2 := Lib.hid (perL_bad (T := T) (loud := loud) (q + 1) hlt HBK)
                    clear HBK
                    go_wp2
                    go_ret
                    refine ⟨_, rfl, ?_, by repeat (first | (with_reducible assumption) | (exact bel_undr (by with_reducible assumption)) | (with_reducible exact bel_refl _) | (with_reducible refine bel_dr ?_) | (with_reducible refine bel_drN ?_ _) | (with_reducible refine bel_al ?_ _) | (refine bel_set ?_ (by first | (simp; done) | (simp; exact Below.size (by assumption)) | (simp; omega)) _) | (with_reducible refine bel_tr ?_ (by assumption)))⟩
                    rw [HB2.out]
                    exact World.ownsRow_nil _ _ _ _
                · go_wp2
                  go_roundw
                  case rel => exact ⟨(q + 1) + 1, by omega, by go_num, by rw [HV1.out, HVt.out], by rw [onI, HST.out, HV0.out, HON.out], (by rw [evL_skip (by rw [HX.out]; exact .inl rfl), HL.out]; exact hownX), hbX, hid_snoc2 HK (by rw [HX.out]; exact kOk_rest rfl)⟩
                  case measure => simp [intOf]; omega
              · rw [ht] at hcq
                have HST := Lib.hid (stI_tied ht)
                clear ht
                generalize hX : atNt l (q + 1) = x at hck HS1
                have HX := Lib.hid hX
                clear hX
                obtain ⟨r, s, a, o, t, d⟩ := x
                obtain ⟨p0, p1, p2, p3, p4, p5⟩ := hck
                simp only at p0 p1 p2 p3 p4 p5 HS1
                generalize hL : evL l T loud (q + 1) = L at hown hlen
                have HL := Lib.hid hL
                clear hL
                have HS2 := HS1.out
                generalize hV1 : vsum l ((q + 1) + 1) = V1 at hsk1 HS1 HS2
                have HV1 := Lib.hid hV1
                clear hV1
                generalize hV : vsum l (q + 1) = V at hsk HS1 HS2 ⊢
                have HV0 := Lib.hid hV
                have hadd := IntWalk.i64_in (V + t) (by omega)
                have hVt0 : 0 ≤ V + t := by omega
                have hVt1 : V + t ≤ 60000 := by omega
                have HVt := Lib.hid HS2
                clear hV HS2 hc
                have bX : Blk (wr.alloc (.cells #[.bool r, .int .i64 s, .int .i64 a, .int .i64 o, .int .i64 t, .bool d] 54)) wr.heap.size #[.bool r, .int .i64 s, .int .i64 a, .int .i64 o, .int .i64 t, .bool d] 54 := Blk.new wr _ _
                have hownX := hown.alloc (.cells #[.bool r, .int .i64 s, .int .i64 a, .int .i64 o, .int .i64 t, .bool d] 54)
                have hbX : Below w.heap.size w (wr.alloc (.cells #[.bool r, .int .i64 s, .int .i64 a, .int .i64 o, .int .i64 t, .bool d] 54)) := bel_al hb _
                have hTX := hTr.below (bel_al (bel_refl wr) (.cells #[.bool r, .int .i64 s, .int .i64 a, .int .i64 o, .int .i64 t, .bool d] 54))
                have e1 : onI l T (q + 1) = timeI T (vsum l (stI l q)) := rfl
                obtain ⟨ON, hON⟩ : ∃ ON, timeI T (vsum l (stI l q)) = ON := ⟨_, rfl⟩
                rw [e1, hON]
                have HON := Lib.hid hON
                clear hON e1
                go_upto_region 10 with fail
                clear p0 p1 p2 p3 p4 p5 hTr hown hb
                generalize (wr.alloc (.cells #[.bool r, .int .i64 s, .int .i64 a, .int .i64 o, .int .i64 t, .bool d] 54)) = v at *
                generalize wr.heap.size = X at *
                have lX := bX.lt
                have m0 : v.cell? ⟨X, 0, none⟩ = some (.bool r) := by rw [Blk.cell bX]; rfl
                have m1 : v.cell? ⟨X, 1, none⟩ = some (.int .i64 s) := by rw [Blk.cell bX]; rfl
                have m2 : v.cell? ⟨X, 2, none⟩ = some (.int .i64 a) := by rw [Blk.cell bX]; rfl
                have m3 : v.cell? ⟨X, 3, none⟩ = some (.int .i64 o) := by rw [Blk.cell bX]; rfl
                have m4 : v.cell? ⟨X, 4, none⟩ = some (.int .i64 t) := by rw [Blk.cell bX]; rfl
                have m5 : v.cell? ⟨X, 5, none⟩ = some (.bool d) := by rw [Blk.cell bX]; rfl
                cases r
                · obtain ⟨KEY, hK⟩ : ∃ KEY, pkI s a o = KEY := ⟨_, rfl⟩
                  have HKY := Lib.hid hK
                  clear hK
                  by_cases hk2 : 0 ≤ KEY ∧ KEY ≤ 107
                  · have hk2c := hk2
                    have HK2 := Lib.hid hk2c
                    clear hk2c
                    obtain ⟨k20, k21⟩ := hk2
                    cases d
                    · go_wp2_with fail
                      refine (pk_val HKY.out _).mono ?_
                      rintro e8 w8 ⟨rfl, b8⟩
                      have bX := bX.below b8
                      have hownX := own_below hownX b8
                      have hbX : Below w.heap.size w w8 := by repeat (first | (with_reducible assumption) | (exact bel_undr (by with_reducible assumption)) | (with_reducible exact bel_refl _) | (with_reducible refine bel_dr ?_) | (with_reducible refine bel_drN ?_ _) | (with_reducible refine bel_al ?_ _) | (refine bel_set ?_ (by first | (simp; done) | (simp; exact Below.size (by assumption)) | (simp; omega)) _) | (with_reducible refine bel_tr ?_ (by assumption)))
                      have hTX := hTX.below b8
                      have lX := bX.lt
                      have m0 := keep_tr m0 b8
                      have m1 := keep_tr m1 b8
                      have m2 := keep_tr m2 b8
                      have m3 := keep_tr m3 b8
                      have m4 := keep_tr m4 b8
                      have m5 := keep_tr m5 b8
                      clear b8
                      go_wp2_with fail
                      refine (win_yes _ _ _ _ k20 k21).mono ?_
                      rintro e9 w9 ⟨rfl, rfl⟩
                      go_wp2_with fail
                      have lf0 : ∀ xL : Later w8, xL.world.cell? ⟨X, 1, none⟩ = some (.int .i64 s) := fun xL => xL.at (m1)
                      have lf1 : ∀ xL : Later w8, xL.world.cell? ⟨X, 2, none⟩ = some (.int .i64 a) := fun xL => xL.at (m2)
                      have lf2 : ∀ xL : Later w8, xL.world.cell? ⟨X, 3, none⟩ = some (.int .i64 o) := fun xL => xL.at (m3)
                      refine region_tail1 (w0 := w8) 9 (by kernel_rfl) (by kernel_rfl) (bel_refl _) (fun _ _ _ h => h) (Or.inl ⟨rfl, fun _ => rfl⟩) ?_
                      simp only [List.take_succ_cons, List.take_zero, List.drop_succ_cons, List.drop_zero]
                      try go_simp
                      repeat (go_big_quiet_step ((first | (go_at_call 44; exact later_call (to_any _ _ _ T _ _ rfl (hTX.below (Later.bel _)) HT.out hVt0 hVt1)) | (go_at_call 42; exact later_call (pk_val HKY.out _)))))
                      refine wpQuiet_nil ?_
                      (first | (rintro w' ⟨x, rfl⟩) | (intro x))
                      obtain ⟨wl, bl⟩ := x
                      clear lf0 lf1 lf2
                      have hownX := own_below hownX bl
                      have hbX : Below w.heap.size w wl := by repeat (first | (with_reducible assumption) | (exact bel_undr (by with_reducible assumption)) | (with_reducible exact bel_refl _) | (with_reducible refine bel_dr ?_) | (with_reducible refine bel_drN ?_ _) | (with_reducible refine bel_al ?_ _) | (refine bel_set ?_ (by first | (simp; done) | (simp; exact Below.size (by assumption)) | (simp; omega)) _) | (with_reducible refine bel_tr ?_ (by assumption)))
                      have hwl := hbX.size
                      obtain ⟨TI, hTI⟩ : ∃ TI, timeI T (V + t) = TI := ⟨_, rfl⟩
                      rw [hTI]
                      have HTI := Lib.hid hTI
                      clear hTI
                      go_wp2_with (at_builtin; go_must (refine wpList_append_lies _ rfl _ _ 32 rfl w.heap.size 46 i0 _ 4 32 Try.underlying32 hi0 hz0 hz1 hz2 rfl (by omega) _ L.length (flat csEv L) rfl (hownX.alloc _) ⟨wl.heap.size, 0, none⟩ 1 1 [.int .i64 ON, .int .i64 TI, .int .i64 KEY, .int .i64 loud] rfl rfl (World.news_of_block (cs := #[.int .i64 ON, .int .i64 TI, .int .i64 KEY, .int .i64 loud]) (t := 46) (fr := (0, 0)) (heap_alloc_new wl _)) (by simp [Value.oneCell']) (by omega) (by unfold maxLen; omega) (by omega) (by simp; omega) _ rfl ?_; intro gg9 cp9 w9 hown9 hgrow9 hat9 hlt9))
                      have hb9 : Below w.heap.size w w9 := bel_grown (bel_al hbX (.cells #[.int .i64 ON, .int .i64 TI, .int .i64 KEY, .int .i64 loud] 46)) hgrow9 (own_ge hownX)
                      have hq := own_push (t := (⟨ON, TI, KEY, loud⟩ : Ev)) hown9 rfl
                      go_roundw
                      case rel => exact ⟨(q + 1) + 1, by omega, by go_num, by rw [HV1.out, HVt.out], by rw [onI, HST.out, HON.out], (by rw [evL_new (by rw [HX.out]; simp), HL.out]; unfold evK; rw [HV1.out, HX.out]; unfold keyN; simp only; rw [HKY.out, HVt.out, HTI.out, HST.out, HON.out]; exact hq), hb9, hid_snoc2 HK (by rw [HX.out]; exact fun _ => by unfold keyN; rw [HKY.out]; exact HK2.out)⟩
                      case measure => simp [intOf]; omega
                    · go_wp2_with fail
                      refine (pk_val HKY.out _).mono ?_
                      rintro e8 w8 ⟨rfl, b8⟩
                      have bX := bX.below b8
                      have hownX := own_below hownX b8
                      have hbX : Below w.heap.size w w8 := by repeat (first | (with_reducible assumption) | (exact bel_undr (by with_reducible assumption)) | (with_reducible exact bel_refl _) | (with_reducible refine bel_dr ?_) | (with_reducible refine bel_drN ?_ _) | (with_reducible refine bel_al ?_ _) | (refine bel_set ?_ (by first | (simp; done) | (simp; exact Below.size (by assumption)) | (simp; omega)) _) | (with_reducible refine bel_tr ?_ (by assumption)))
                      have hTX := hTX.below b8
                      have lX := bX.lt
                      have m0 := keep_tr m0 b8
                      have m1 := keep_tr m1 b8
                      have m2 := keep_tr m2 b8
                      have m3 := keep_tr m3 b8
                      have m4 := keep_tr m4 b8
                      have m5 := keep_tr m5 b8
                      clear b8
                      go_wp2_with fail
                      refine (win_yes _ _ _ _ k20 k21).mono ?_
                      rintro e9 w9 ⟨rfl, rfl⟩
                      go_wp2
                      go_roundw
                      case rel => exact ⟨(q + 1) + 1, by omega, by go_num, by rw [HV1.out, HVt.out], by rw [onI, HST.out, HON.out], (by rw [evL_skip (by rw [HX.out]; exact .inr rfl), HL.out]; exact hownX), hbX, hid_snoc2 HK (by rw [HX.out]; exact fun _ => by unfold keyN; rw [HKY.out]; exact HK2.out)⟩
                      case measure => simp [intOf]; omega
                  · go_wp2_with fail
                    refine (pk_val HKY.out _).mono ?_
                    rintro e8 w8 ⟨rfl, b8⟩
                    have bX := bX.below b8
                    have hownX := own_below hownX b8
                    have hbX : Below w.heap.size w w8 := by repeat (first | (with_reducible assumption) | (exact bel_undr (by with_reducible assumption)) | (with_reducible exact bel_refl _) | (with_reducible refine bel_dr ?_) | (with_reducible refine bel_drN ?_ _) | (with_reducible refine bel_al ?_ _) | (refine bel_set ?_ (by first | (simp; done) | (simp; exact Below.size (by assumption)) | (simp; omega)) _) | (with_reducible refine bel_tr ?_ (by assumption)))
                    have hTX := hTX.below b8
                    have lX := bX.lt
                    have m0 := keep_tr m0 b8
                    have m1 := keep_tr m1 b8
                    have m2 := keep_tr m2 b8
                    have m3 := keep_tr m3 b8
                    have m4 := keep_tr m4 b8
                    have m5 := keep_tr m5 b8
                    clear b8
                    go_wp2_with fail
                    refine (win_no _ _ _ _ (by omega)).mono ?_
                    rintro e9 w9 ⟨rfl, rfl⟩
                    have HBK : ¬ kOk (atNt l (q + 1)) := by rw [HX.out]; intro z; have := z rfl; unfold keyN at this; rw [HKY.out] at this; exact hk2 this
                    have HB2 := Lib.hid (perL_bad (T := T) (loud := loud) (q + 1) hlt HBK)
                    clear HBK
                    go_wp2
                    go_ret
                    refine ⟨_, rfl, ?_, by repeat (first | (with_reducible assumption) | (exact bel_undr (by with_reducible assumption)) | (with_reducible exact bel_refl _) | (with_reducible refine bel_dr ?_) | (with_reducible refine bel_drN ?_ _) | (with_reducible refine bel_al ?_ _) | (refine bel_set ?_ (by first | (simp; done) | (simp; exact Below.size (by assumption)) | (simp; omega)) _) | (with_reducible refine bel_tr ?_ (by assumption)))⟩
                    rw [HB2.out]
                    exact World.ownsRow_nil _ _ _ _
                · go_wp2
                  go_roundw
                  case rel => exact ⟨(q + 1) + 1, by omega, by go_num, by rw [HV1.out, HVt.out], by rw [onI, HST.out, HON.out], (by rw [evL_skip (by rw [HX.out]; exact .inl rfl), HL.out]; exact hownX), hbX, hid_snoc2 HK (by rw [HX.out]; exact kOk_rest rfl)⟩
                  case measure => simp [intOf]; omega
          · obtain rfl : k = l.length := by omega
            have HE := Lib.hid (perL_yes HV.out HT.out HLD.out HK.out)
            go_wp2
            go_ret
            refine ⟨_, rfl, ?_, hb⟩
            rw [HE.out]
            exact hown
      · have HV := Lib.hid hv
        have HT := Lib.hid ht
        clear hv ht
        go_enter Try.func32, Try.ntmps32
        go_wp2_with fail
        refine (vv_val HV.out _ _ _ _ rfl hm h).mono ?_
        rintro e1 w1 ⟨rfl, b1⟩
        go_wp2_with fail
        refine (tv_val HT.out _ _ _ _ rfl hm' (h'.below b1)).mono ?_
        rintro e2 w2 ⟨rfl, b2⟩
        go_wp2_with fail
        refine (win_no _ _ _ _ (by omega)).mono ?_
        rintro e3 w3 ⟨rfl, rfl⟩
        go_wp2
        go_ret
        refine ⟨_, rfl, ?_, by repeat (first | (with_reducible assumption) | (exact bel_undr (by with_reducible assumption)) | (with_reducible exact bel_refl _) | (with_reducible refine bel_dr ?_) | (with_reducible refine bel_drN ?_ _) | (with_reducible refine bel_al ?_ _) | (refine bel_set ?_ (by first | (simp; done) | (simp; exact Below.size (by assumption)) | (simp; omega)) _) | (with_reducible refine bel_tr ?_ (by assumption)))⟩
        rw [perL_no (fun z => hl z.2.2)]
        exact World.ownsRow_nil _ _ _ _
end Go.Proofs.Ytjfiknnclkilbaa
