/- Canons recognized by the program. -/
import Derived.Test.YtldgpgljapohiaaIcC
import Derived.Test.YtldgpgljapohiaaAh
import Derived.Deep.RegionHeld3
import Derived.Deep.DeepCutAuto
namespace Go.Proofs.Ytldgpgljapohiaa
set_option linter.unusedSimpArgs false
set_option linter.unusedVariables false
open Go.RowKit

theorem rowAt {w w' : World} {B : Nat} {A : Option Addr} {l : List Nt} (h : RowNt w B A l) (hb : Below B w w') (hs : B ≤ w'.heap.size) : RowNt w' w'.heap.size A l := h.keep hs fun b o hh => hb.cell (p := ⟨b, o, none⟩) hh
set_option maxRecDepth 20000 in
set_option maxHeartbeats 8000000 in
theorem ic_any (A A' : Option Addr) (n n' c c' : Nat) (l l' : List Nt) (w : World) (hn : l.length = n) (hn' : l'.length = n') (hm : n ≤ 2000000) (hm' : n' ≤ 2000000) (h : RowNt w w.heap.size A l) (h9 : RowNt w w.heap.size A' l') :
    Calls Try.prog 14 #[.slice A n c, .slice A' n' c'] w (IcR l l' w) := by
  subst hn hn'
  have bw : Below w.heap.size w w := bel_refl w
  cases hv : vvB l
  · have HN := Lib.hid (show ¬ icP l l' from fun z => by have := z.1; rw [hv] at this; cases this)
    have HV := Lib.hid hv
    clear hv
    go_enter Try.func14, Try.ntmps14
    go_wp2_with fail
    refine (vv_val HV.out _ _ _ _ rfl hm h).mono ?_
    rintro e1 w1 ⟨rfl, b1⟩
    have h := h.below b1
    have h9 := h9.below b1
    have bw := bel_tr bw b1
    clear b1
    go_wp2
    exact bodyPost_ret (v := .bool false) (by simp [results, Try.results14, go_sem]) rfl ⟨false, rfl, ⟨fun z => (by cases z), fun z => absurd z HN.out⟩, bw⟩
  · cases hv' : vvB l'
    · have HN := Lib.hid (show ¬ icP l l' from fun z => by have := z.2.1; rw [hv'] at this; cases this)
      have HV := Lib.hid hv
      have HV' := Lib.hid hv'
      have h60 := (vvB_of hv).len
      have clr := trivial
      clear hv hv' clr
      go_enter Try.func14, Try.ntmps14
      go_wp2_with fail
      refine (vv_val HV.out _ _ _ _ rfl hm h).mono ?_
      rintro e1 w1 ⟨rfl, b1⟩
      have h := h.below b1
      have h9 := h9.below b1
      have bw := bel_tr bw b1
      clear b1
      go_wp2_with fail
      refine (vv_val HV'.out _ _ _ _ rfl hm' h9).mono ?_
      rintro e2 w2 ⟨rfl, b2⟩
      have h := h.below b2
      have h9 := h9.below b2
      have bw := bel_tr bw b2
      clear b2
      go_wp2
      exact bodyPost_ret (v := .bool false) (by simp [results, Try.results14, go_sem]) rfl ⟨false, rfl, ⟨fun z => (by cases z), fun z => absurd z HN.out⟩, bw⟩
    · by_cases hz : l'.length = 0
      · have HN := Lib.hid (show ¬ icP l l' from fun z => by have := (ic_len z).1; omega)
        have HZ := Lib.hid hz
        clear hz
        have HV := Lib.hid hv
        have HV' := Lib.hid hv'
        have h60 := (vvB_of hv).len
        have clr := trivial
        clear hv hv' clr
        go_enter Try.func14, Try.ntmps14
        go_wp2_with fail
        refine (vv_val HV.out _ _ _ _ rfl hm h).mono ?_
        rintro e1 w1 ⟨rfl, b1⟩
        have h := h.below b1
        have h9 := h9.below b1
        have bw := bel_tr bw b1
        clear b1
        go_wp2_with fail
        refine (vv_val HV'.out _ _ _ _ rfl hm' h9).mono ?_
        rintro e2 w2 ⟨rfl, b2⟩
        have h := h.below b2
        have h9 := h9.below b2
        have bw := bel_tr bw b2
        clear b2
        have hzi : (l'.length : Int) = 0 := by have := HZ.out; omega
        go_wp2
        exact bodyPost_ret (v := .bool false) (by simp [results, Try.results14, go_sem]) rfl ⟨false, rfl, ⟨fun z => (by cases z), fun z => absurd z HN.out⟩, bw⟩
      · have HV := Lib.hid hv
        have HV' := Lib.hid hv'
        have h60 := (vvB_of hv).len
        have h60' := (vvB_of hv').len
        have clr := trivial
        clear hv hv' clr
        go_enter Try.func14, Try.ntmps14
        go_wp2_with fail
        refine (vv_val HV.out _ _ _ _ rfl hm h).mono ?_
        rintro e1 w1 ⟨rfl, b1⟩
        have h := h.below b1
        have h9 := h9.below b1
        have bw := bel_tr bw b1
        clear b1
        go_wp2_with fail
        refine (vv_val HV'.out _ _ _ _ rfl hm' h9).mono ?_
        rintro e2 w2 ⟨rfl, b2⟩
        have h := h.below b2
        have h9 := h9.below b2
        have bw := bel_tr bw b2
        clear b2
        have hzi : ¬ (l'.length : Int) = 0 := by omega
        have hzp : (0 : Int) < (l'.length : Int) := by omega
        obtain ⟨b, off, rfl, hlb, hc⟩ := h9 (by omega)
        have hc0 := hc 0 (by omega)
        clear hc
        simp only [Nat.zero_mul, Nat.add_zero] at hc0
        generalize hX : atNt l' 0 = x at hc0
        have HX := Lib.hid hX
        clear hX
        obtain ⟨r, s, a, o, t, d⟩ := x
        obtain ⟨p0, p1, p2, p3, p4, p5⟩ := hc0
        simp only at p0 p1 p2 p3 p4 p5
        cases r
        · have HN := Lib.hid (show ¬ icP l l' from fun z => by have := (ic_len z).2.1; rw [HX.out] at this; cases this)
          go_wp2
          exact bodyPost_ret (v := .bool false) (by simp [results, Try.results14, go_sem]) rfl ⟨false, rfl, ⟨fun z => (by cases z), fun z => absurd z HN.out⟩, bw⟩
        · have bY : Blk (w2.alloc (.cells #[.int .i64 0, .int .i64 0] 25)) w2.heap.size #[.int .i64 0, .int .i64 0] 25 := Blk.new w2 _ _
          have hR : RowNt (w2.alloc (.cells #[.int .i64 0, .int .i64 0] 25)) w2.heap.size A l := h.bel (bel_al (bel_refl w2) _) (Nat.le_refl _)
          have hR9 : RowNt (w2.alloc (.cells #[.int .i64 0, .int .i64 0] 25)) w2.heap.size (some ⟨b, off, none⟩) l' := h9.bel (bel_al (bel_refl w2) _) (Nat.le_refl _)
          have pT : (w2.alloc (.cells #[.int .i64 0, .int .i64 0] 25)).cell? ⟨b, off + 4, none⟩ = some (.int .i64 t) := keep_tr p4 (bel_al (bel_refl w2) _)
          have hlbY : b < w2.heap.size := hlb
          have hYw : w.heap.size ≤ w2.heap.size := bw.size
          have bw := bel_al bw (.cells #[.int .i64 0, .int .i64 0] 25)
          have bb : Below w2.heap.size (w2.alloc (.cells #[.int .i64 0, .int .i64 0] 25)) (w2.alloc (.cells #[.int .i64 0, .int .i64 0] 25)) := Below.refl _ _
          go_upto_region 4 with fail
          clear p0 p1 p2 p3 p4 p5 h h9 hlb
          generalize (w2.alloc (.cells #[.int .i64 0, .int .i64 0] 25)) = w3 at *
          generalize w2.heap.size = Y at *
          have h := rowAt hR bb (Nat.le_of_lt bY.lt)
          have h9 := rowAt hR9 bb (Nat.le_of_lt bY.lt)
          go_wp2_with fail
          refine (ft_any _ _ _ l _ rfl hm h).mono ?_
          rintro e4 w4 ⟨hd, b4⟩
          have bb := bb.trans (b4.mono (Nat.le_of_lt bY.lt))
          have bY := bY.below b4
          have bw := bel_tr bw b4
          clear b4 h h9
          rcases hd with ⟨i, x, hi, HXi, rx, pi, rfl⟩ | ⟨hall, rfl⟩
          · have HXi := Lib.hid HXi
            have bP : Blk (w4.alloc (.cells #[.int .i64 x.step, .int .i64 x.alter, .int .i64 x.octave] 35)) w4.heap.size #[.int .i64 x.step, .int .i64 x.alter, .int .i64 x.octave] 35 := Blk.new w4 _ _
            have bb := bb.alloc (Nat.le_of_lt bY.lt) (.cells #[.int .i64 x.step, .int .i64 x.alter, .int .i64 x.octave] 35)
            have bY := bY.alloc (.cells #[.int .i64 x.step, .int .i64 x.alter, .int .i64 x.octave] 35)
            have bw := bel_al bw (.cells #[.int .i64 x.step, .int .i64 x.alter, .int .i64 x.octave] 35)
            go_upto_region 5 with fail
            generalize (w4.alloc (.cells #[.int .i64 x.step, .int .i64 x.alter, .int .i64 x.octave] 35)) = w5 at *
            generalize w4.heap.size = P at *
            have h := rowAt hR bb (Nat.le_of_lt bY.lt)
            have h9 := rowAt hR9 bb (Nat.le_of_lt bY.lt)
            go_wp2_with fail
            refine (ft_any _ _ _ l' _ rfl hm' h9).mono ?_
            rintro e6 w6 ⟨hd, b6⟩
            have bP := bP.below b6
            have bb := bb.trans (b6.mono (Nat.le_of_lt bY.lt))
            have bY := bY.below b6
            have bw := bel_tr bw b6
            clear b6 h h9
            rcases hd with hd | hd
            · obtain ⟨j, y, hj, HY, ry, pj, rfl⟩ := hd
              have HY := Lib.hid HY
              have bQ : Blk (w6.alloc (.cells #[.int .i64 y.step, .int .i64 y.alter, .int .i64 y.octave] 35)) w6.heap.size #[.int .i64 y.step, .int .i64 y.alter, .int .i64 y.octave] 35 := Blk.new w6 _ _
              have bP := bP.alloc (.cells #[.int .i64 y.step, .int .i64 y.alter, .int .i64 y.octave] 35)
              have bb := bb.alloc (Nat.le_of_lt bY.lt) (.cells #[.int .i64 y.step, .int .i64 y.alter, .int .i64 y.octave] 35)
              have bY := bY.alloc (.cells #[.int .i64 y.step, .int .i64 y.alter, .int .i64 y.octave] 35)
              have bw := bel_al bw (.cells #[.int .i64 y.step, .int .i64 y.alter, .int .i64 y.octave] 35)
              go_upto_region 7 with fail
              generalize (w6.alloc (.cells #[.int .i64 y.step, .int .i64 y.alter, .int .i64 y.octave] 35)) = w8 at *
              generalize w6.heap.size = Q at *
              have HJ := Lib.hid (show icP l l' → j = i + 1 from fun z => ic_first z hi (by rw [HXi.out]; exact rx) pi hj (by rw [HY.out]; exact ry) pj)
              have hpx : pvB x.step x.alter x.octave = true := by have := vv_tone HV.out hi (by rw [HXi.out]; exact rx); rw [HXi.out] at this; exact this
              have hpy : pvB y.step y.alter y.octave = true := by have := vv_tone HV'.out hj (by rw [HY.out]; exact ry); rw [HY.out] at this; exact this
              obtain ⟨p, hP⟩ : ∃ p, 7 * y.octave + y.step - (7 * x.octave + x.step) = p := ⟨_, rfl⟩
              obtain ⟨q, hQ⟩ : ∃ q, 12 * y.octave + shI y.step + y.alter - (12 * x.octave + shI x.step + x.alter) = q := ⟨_, rfl⟩
              have HAT := Lib.hid (show icP l l' → ivB p q = true ∧ coB l t p q = true ∧ coL l t p q = l' from fun z => by
                have hj2 := HJ.out z
                have g := ic_at z hi (by rw [HXi.out]; exact rx)
                rw [← hj2, HXi.out, HY.out, HX.out] at g
                unfold ivP ivK at g
                rw [hP, hQ] at g
                exact g)
              have HPX := Lib.hid hpx
              have HPY := Lib.hid hpy
              have HP := Lib.hid hP
              have HQ2 := Lib.hid hQ
              clear hpx hpy hP hQ
              have cP0 : w8.cell? ⟨P, 0, none⟩ = some (.int .i64 x.step) := by rw [Blk.cell bP]; rfl
              have cQ0 : w8.cell? ⟨Q, 0, none⟩ = some (.int .i64 y.step) := by rw [Blk.cell bQ]; rfl
              have cP1 : w8.cell? ⟨P, 1, none⟩ = some (.int .i64 x.alter) := by rw [Blk.cell bP]; rfl
              have cQ1 : w8.cell? ⟨Q, 1, none⟩ = some (.int .i64 y.alter) := by rw [Blk.cell bQ]; rfl
              have cP2 : w8.cell? ⟨P, 2, none⟩ = some (.int .i64 x.octave) := by rw [Blk.cell bP]; rfl
              have cQ2 : w8.cell? ⟨Q, 2, none⟩ = some (.int .i64 y.octave) := by rw [Blk.cell bQ]; rfl
              cases hiv : ivB p q
              · have HIV := Lib.hid hiv
                clear hiv
                go_wp2_with fail
                refine (io_val HPX.out HPY.out HP.out HQ2.out HIV.out _).mono ?_
                rintro e10 w10 ⟨rfl, b10⟩
                have bb := bb.trans (b10.mono (Nat.le_of_lt bY.lt))
                have bY := bY.below b10
                have bw := bel_tr bw b10
                clear b10 cP0 cP1 cP2 cQ0 cQ1 cQ2 bP bQ
                simp only [Bool.false_eq_true, if_true, if_false]
                have HN := Lib.hid (show ¬ icP l l' from fun z => by have := (HAT.out z).1; rw [HIV.out] at this; cases this)
                go_wp2
                exact bodyPost_ret (v := .bool false) (by simp [results, Try.results14, go_sem]) rfl ⟨false, rfl, ⟨fun z => (by cases z), fun z => absurd z HN.out⟩, by repeat (first | (with_reducible assumption) | (exact bel_undr (by with_reducible assumption)) | (with_reducible exact bel_refl _) | (with_reducible refine bel_dr ?_) | (with_reducible refine bel_drN ?_ _) | (with_reducible refine bel_al ?_ _) | (refine bel_set ?_ (by first | (simp; done) | (simp; exact Below.size (by assumption)) | (simp; omega)) _) | (with_reducible refine bel_tr ?_ (by assumption)))⟩
              · have HIV := Lib.hid hiv
                clear hiv
                go_wp2_with fail
                refine (io_val HPX.out HPY.out HP.out HQ2.out HIV.out _).mono ?_
                rintro e10 w10 ⟨rfl, b10⟩
                have bb := bb.trans (b10.mono (Nat.le_of_lt bY.lt))
                have bY := bY.below b10
                have bw := bel_tr bw b10
                clear b10 cP0 cP1 cP2 cQ0 cQ1 cQ2 bP bQ
                simp only [Bool.false_eq_true, if_true, if_false]
                have lY := bY.lt
                have fY0 := bY.free 0
                have fY1 := bY.free 1
                have cY0 : w10.cell? ⟨Y, 0, none⟩ = some (.int .i64 0) := by rw [Blk.cell bY]; rfl
                have cY1 : w10.cell? ⟨Y, 1, none⟩ = some (.int .i64 0) := by rw [Blk.cell bY]; rfl
                go_upto_region 11 with fail
                have bb : Below Y w3 (((w10.setCell ⟨Y, 0, none⟩ (.int .i64 p)).setCell ⟨Y, 1, none⟩ (.int .i64 q)).alloc (.cells #[.int .i64 p, .int .i64 q] 25)) := ((bb.setCell (Nat.le_refl _) _).setCell (Nat.le_refl _) _).alloc (by simp; omega) _
                have bY : Blk (((w10.setCell ⟨Y, 0, none⟩ (.int .i64 p)).setCell ⟨Y, 1, none⟩ (.int .i64 q)).alloc (.cells #[.int .i64 p, .int .i64 q] 25)) Y #[.int .i64 p, .int .i64 q] 25 := ((bY.s20).s21).alloc (.cells #[.int .i64 p, .int .i64 q] 25)
                have bw : Below w.heap.size w (((w10.setCell ⟨Y, 0, none⟩ (.int .i64 p)).setCell ⟨Y, 1, none⟩ (.int .i64 q)).alloc (.cells #[.int .i64 p, .int .i64 q] 25)) := bel_al (bel_set (bel_set bw hYw _) hYw _) _
                clear fY0 fY1 cY0 cY1 lY
                generalize (((w10.setCell ⟨Y, 0, none⟩ (.int .i64 p)).setCell ⟨Y, 1, none⟩ (.int .i64 q)).alloc (.cells #[.int .i64 p, .int .i64 q] 25)) = w12 at *
                have HI := Lib.hid (show icP l l' → coB l t p q = true ∧ coL l t p q = l' from fun z => (HAT.out z).2)
                obtain ⟨L, hL⟩ : ∃ L, coL l t p q = L := ⟨_, rfl⟩
                have hLn : L.length ≤ 61 := by rw [← hL]; exact coL_len _ _ _ _
                have cT : w12.cell? ⟨b, off + 4, none⟩ = some (.int .i64 t) := (bb.cell (p := ⟨b, off + 4, none⟩) hlbY).trans pT
                have cY0 : w12.cell? ⟨Y, 0, none⟩ = some (.int .i64 p) := by rw [Blk.cell bY]; rfl
                have cY1 : w12.cell? ⟨Y, 1, none⟩ = some (.int .i64 q) := by rw [Blk.cell bY]; rfl
                cases hB : coB l t p q
                · have HL := Lib.hid hL
                  have HB := Lib.hid hB
                  clear hL hB
                  go_region_held3 (fun W => W.cell? ⟨b, off + 4, none⟩ = some (.int .i64 t) ∧ W.cell? ⟨Y, 0, none⟩ = some (.int .i64 p) ∧ W.cell? ⟨Y, 1, none⟩ = some (.int .i64 q) ∧ Below w.heap.size w W) (((try go_split_ands); (repeat' (with_reducible refine And.intro ?_ ?_)) <;> (first | (with_reducible assumption) | ((repeat (first | (with_reducible assumption) | (exact keep_undr (by with_reducible assumption)) | (simp [go_sem]; done) | (with_reducible refine keep_dr ?_) | (with_reducible refine keep_drN ?_ _) | (with_reducible refine keep_al ?_ _) | (refine keep_set ?_ (by first | (simp; done) | (simp; omega) | omega)) | (with_reducible refine keep_tr ?_ (by assumption)))); done) | ((repeat (first | (with_reducible assumption) | (exact bel_undr (by with_reducible assumption)) | (with_reducible exact bel_refl _) | (with_reducible refine bel_dr ?_) | (with_reducible refine bel_drN ?_ _) | (with_reducible refine bel_al ?_ _) | (refine bel_set ?_ (by first | (simp; done) | (simp; exact Below.size (by assumption)) | (simp; omega)) _) | (with_reducible refine bel_tr ?_ (by assumption)))); done) | (simp [go_sem]; done) | go_keep))) (first | (go_at_call 8; have b6 : Below w12.heap.size w12 w12.drew := bel_dr (bel_refl _); generalize w12.drew = wd at *; have bb := bb.trans (b6.mono (Nat.le_of_lt bY.lt)); have bY := bY.below b6; have bw := bel_tr bw b6; have cT := keep_tr cT b6; have cY0 := keep_tr cY0 b6; have cY1 := keep_tr cY1 b6; have h := rowAt hR bb (Nat.le_of_lt bY.lt); have h9 := rowAt hR9 bb (Nat.le_of_lt bY.lt); refine (co_val HL.out HB.out _ _ _ _ rfl hm h).mono ?_; rintro e7 w7 ⟨A7, c7, rfl, lc7, cm7, r7, o7, b7⟩; have h9 := h9.below b7; have bw := bel_tr bw b7; have cT := keep_tr cT b7; have cY0 := keep_tr cY0 b7; have cY1 := keep_tr cY1 b7; clear o7))
                  have HN := Lib.hid (show ¬ icP l l' from fun z => by have := (HI.out z).1; rw [HB.out] at this; cases this)
                  go_wp2
                  exact bodyPost_ret (v := .bool false) (by simp [results, Try.results14, go_sem]) rfl ⟨false, rfl, ⟨fun z => (by cases z), fun z => absurd z HN.out⟩, bw⟩
                · by_cases hq : L = l'
                  · have HQ := Lib.hid hq
                    have hd : decide (L = l') = true := by simp [hq]
                    have HD := Lib.hid hd
                    clear hd hq
                    have HL := Lib.hid hL
                    have HB := Lib.hid hB
                    clear hL hB
                    go_region_held3 (fun W => W.cell? ⟨b, off + 4, none⟩ = some (.int .i64 t) ∧ W.cell? ⟨Y, 0, none⟩ = some (.int .i64 p) ∧ W.cell? ⟨Y, 1, none⟩ = some (.int .i64 q) ∧ Below w.heap.size w W) (((try go_split_ands); (repeat' (with_reducible refine And.intro ?_ ?_)) <;> (first | (with_reducible assumption) | ((repeat (first | (with_reducible assumption) | (exact keep_undr (by with_reducible assumption)) | (simp [go_sem]; done) | (with_reducible refine keep_dr ?_) | (with_reducible refine keep_drN ?_ _) | (with_reducible refine keep_al ?_ _) | (refine keep_set ?_ (by first | (simp; done) | (simp; omega) | omega)) | (with_reducible refine keep_tr ?_ (by assumption)))); done) | ((repeat (first | (with_reducible assumption) | (exact bel_undr (by with_reducible assumption)) | (with_reducible exact bel_refl _) | (with_reducible refine bel_dr ?_) | (with_reducible refine bel_drN ?_ _) | (with_reducible refine bel_al ?_ _) | (refine bel_set ?_ (by first | (simp; done) | (simp; exact Below.size (by assumption)) | (simp; omega)) _) | (with_reducible refine bel_tr ?_ (by assumption)))); done) | (simp [go_sem]; done) | go_keep))) (first | (go_at_call 8; have b6 : Below w12.heap.size w12 w12.drew := bel_dr (bel_refl _); generalize w12.drew = wd at *; have bb := bb.trans (b6.mono (Nat.le_of_lt bY.lt)); have bY := bY.below b6; have bw := bel_tr bw b6; have cT := keep_tr cT b6; have cY0 := keep_tr cY0 b6; have cY1 := keep_tr cY1 b6; have h := rowAt hR bb (Nat.le_of_lt bY.lt); have h9 := rowAt hR9 bb (Nat.le_of_lt bY.lt); refine (co_val HL.out HB.out _ _ _ _ rfl hm h).mono ?_; rintro e7 w7 ⟨A7, c7, rfl, lc7, cm7, r7, o7, b7⟩; have h9 := h9.below b7; have bw := bel_tr bw b7; have cT := keep_tr cT b7; have cY0 := keep_tr cY0 b7; have cY1 := keep_tr cY1 b7; clear o7))
                    go_wp2_with fail
                    refine (seq_val HD.out _ _ _ _ _ _ _ rfl rfl (by omega) hm' r7 h9).mono ?_
                    rintro e8 w8 ⟨rfl, b8⟩
                    have bw := bel_tr bw b8
                    go_wp2
                    exact bodyPost_ret (v := .bool true) (by simp [results, Try.results14, go_sem]) rfl ⟨true, rfl, ⟨fun _ => ⟨HV.out, HV'.out, _, _, _, HB.out, HL.out.trans HQ.out⟩, fun _ => rfl⟩, bw⟩
                  · have HQ := Lib.hid hq
                    have hd : decide (L = l') = false := by simp [hq]
                    have HD := Lib.hid hd
                    clear hd hq
                    have HL := Lib.hid hL
                    have HB := Lib.hid hB
                    clear hL hB
                    go_region_held3 (fun W => W.cell? ⟨b, off + 4, none⟩ = some (.int .i64 t) ∧ W.cell? ⟨Y, 0, none⟩ = some (.int .i64 p) ∧ W.cell? ⟨Y, 1, none⟩ = some (.int .i64 q) ∧ Below w.heap.size w W) (((try go_split_ands); (repeat' (with_reducible refine And.intro ?_ ?_)) <;> (first | (with_reducible assumption) | ((repeat (first | (with_reducible assumption) | (exact keep_undr (by with_reducible assumption)) | (simp [go_sem]; done) | (with_reducible refine keep_dr ?_) | (with_reducible refine keep_drN ?_ _) | (with_reducible refine keep_al ?_ _) | (refine keep_set ?_ (by first | (simp; done) | (simp; omega) | omega)) | (with_reducible refine keep_tr ?_ (by assumption)))); done) | ((repeat (first | (with_reducible assumption) | (exact bel_undr (by with_reducible assumption)) | (with_reducible exact bel_refl _) | (with_reducible refine bel_dr ?_) | (with_reducible refine bel_drN ?_ _) | (with_reducible refine bel_al ?_ _) | (refine bel_set ?_ (by first | (simp; done) | (simp; exact Below.size (by assumption)) | (simp; omega)) _) | (with_reducible refine bel_tr ?_ (by assumption)))); done) | (simp [go_sem]; done) | go_keep))) (first | (go_at_call 8; have b6 : Below w12.heap.size w12 w12.drew := bel_dr (bel_refl _); generalize w12.drew = wd at *; have bb := bb.trans (b6.mono (Nat.le_of_lt bY.lt)); have bY := bY.below b6; have bw := bel_tr bw b6; have cT := keep_tr cT b6; have cY0 := keep_tr cY0 b6; have cY1 := keep_tr cY1 b6; have h := rowAt hR bb (Nat.le_of_lt bY.lt); have h9 := rowAt hR9 bb (Nat.le_of_lt bY.lt); refine (co_val HL.out HB.out _ _ _ _ rfl hm h).mono ?_; rintro e7 w7 ⟨A7, c7, rfl, lc7, cm7, r7, o7, b7⟩; have h9 := h9.below b7; have bw := bel_tr bw b7; have cT := keep_tr cT b7; have cY0 := keep_tr cY0 b7; have cY1 := keep_tr cY1 b7; clear o7))
                    go_wp2_with fail
                    refine (seq_val HD.out _ _ _ _ _ _ _ rfl rfl (by omega) hm' r7 h9).mono ?_
                    rintro e8 w8 ⟨rfl, b8⟩
                    have bw := bel_tr bw b8
                    go_wp2
                    have HN := Lib.hid (show ¬ icP l l' from fun z => HQ.out (HL.out.symm.trans (HI.out z).2))
                    exact bodyPost_ret (v := .bool false) (by simp [results, Try.results14, go_sem]) rfl ⟨false, rfl, ⟨fun z => (by cases z), fun z => absurd z HN.out⟩, bw⟩
            · obtain ⟨hall', rfl⟩ := hd
              have bQ : Blk (w6.alloc (.cells #[.int .i64 0, .int .i64 0, .int .i64 0] 35)) w6.heap.size #[.int .i64 0, .int .i64 0, .int .i64 0] 35 := Blk.new w6 _ _
              have bP := bP.alloc (.cells #[.int .i64 0, .int .i64 0, .int .i64 0] 35)
              have bb := bb.alloc (Nat.le_of_lt bY.lt) (.cells #[.int .i64 0, .int .i64 0, .int .i64 0] 35)
              have bY := bY.alloc (.cells #[.int .i64 0, .int .i64 0, .int .i64 0] 35)
              have bw := bel_al bw (.cells #[.int .i64 0, .int .i64 0, .int .i64 0] 35)
              go_upto_region 11 with fail
              generalize (w6.alloc (.cells #[.int .i64 0, .int .i64 0, .int .i64 0] 35)) = w8 at *
              generalize w6.heap.size = Q at *
              have HI := Lib.hid (show icP l l' → coB l t 0 0 = true ∧ coL l t 0 0 = l' from fun z => by have g := ic_len z; have g2 := hall' (i + 1) (by omega); rw [g.2.2 i hi, HXi.out, rx] at g2; cases g2)
              obtain ⟨L, hL⟩ : ∃ L, coL l t 0 0 = L := ⟨_, rfl⟩
              have hLn : L.length ≤ 61 := by rw [← hL]; exact coL_len _ _ _ _
              have cT : w8.cell? ⟨b, off + 4, none⟩ = some (.int .i64 t) := (bb.cell (p := ⟨b, off + 4, none⟩) hlbY).trans pT
              have cY0 : w8.cell? ⟨Y, 0, none⟩ = some (.int .i64 0) := by rw [Blk.cell bY]; rfl
              have cY1 : w8.cell? ⟨Y, 1, none⟩ = some (.int .i64 0) := by rw [Blk.cell bY]; rfl
              cases hB : coB l t 0 0
              · have HL := Lib.hid hL
                have HB := Lib.hid hB
                clear hL hB
                go_region_held3 (fun W => W.cell? ⟨b, off + 4, none⟩ = some (.int .i64 t) ∧ W.cell? ⟨Y, 0, none⟩ = some (.int .i64 0) ∧ W.cell? ⟨Y, 1, none⟩ = some (.int .i64 0) ∧ Below w.heap.size w W) (((try go_split_ands); (repeat' (with_reducible refine And.intro ?_ ?_)) <;> (first | (with_reducible assumption) | ((repeat (first | (with_reducible assumption) | (exact keep_undr (by with_reducible assumption)) | (simp [go_sem]; done) | (with_reducible refine keep_dr ?_) | (with_reducible refine keep_drN ?_ _) | (with_reducible refine keep_al ?_ _) | (refine keep_set ?_ (by first | (simp; done) | (simp; omega) | omega)) | (with_reducible refine keep_tr ?_ (by assumption)))); done) | ((repeat (first | (with_reducible assumption) | (exact bel_undr (by with_reducible assumption)) | (with_reducible exact bel_refl _) | (with_reducible refine bel_dr ?_) | (with_reducible refine bel_drN ?_ _) | (with_reducible refine bel_al ?_ _) | (refine bel_set ?_ (by first | (simp; done) | (simp; exact Below.size (by assumption)) | (simp; omega)) _) | (with_reducible refine bel_tr ?_ (by assumption)))); done) | (simp [go_sem]; done) | go_keep))) (first | (go_at_call 8; have b6 : Below w8.heap.size w8 w8.drew := bel_dr (bel_refl _); generalize w8.drew = wd at *; have bb := bb.trans (b6.mono (Nat.le_of_lt bY.lt)); have bY := bY.below b6; have bw := bel_tr bw b6; have cT := keep_tr cT b6; have cY0 := keep_tr cY0 b6; have cY1 := keep_tr cY1 b6; have h := rowAt hR bb (Nat.le_of_lt bY.lt); have h9 := rowAt hR9 bb (Nat.le_of_lt bY.lt); refine (co_val HL.out HB.out _ _ _ _ rfl hm h).mono ?_; rintro e7 w7 ⟨A7, c7, rfl, lc7, cm7, r7, o7, b7⟩; have h9 := h9.below b7; have bw := bel_tr bw b7; have cT := keep_tr cT b7; have cY0 := keep_tr cY0 b7; have cY1 := keep_tr cY1 b7; clear o7))
                have HN := Lib.hid (show ¬ icP l l' from fun z => by have := (HI.out z).1; rw [HB.out] at this; cases this)
                go_wp2
                exact bodyPost_ret (v := .bool false) (by simp [results, Try.results14, go_sem]) rfl ⟨false, rfl, ⟨fun z => (by cases z), fun z => absurd z HN.out⟩, bw⟩
              · by_cases hq : L = l'
                · have HQ := Lib.hid hq
                  have hd : decide (L = l') = true := by simp [hq]
                  have HD := Lib.hid hd
                  clear hd hq
                  have HL := Lib.hid hL
                  have HB := Lib.hid hB
                  clear hL hB
                  go_region_held3 (fun W => W.cell? ⟨b, off + 4, none⟩ = some (.int .i64 t) ∧ W.cell? ⟨Y, 0, none⟩ = some (.int .i64 0) ∧ W.cell? ⟨Y, 1, none⟩ = some (.int .i64 0) ∧ Below w.heap.size w W) (((try go_split_ands); (repeat' (with_reducible refine And.intro ?_ ?_)) <;> (first | (with_reducible assumption) | ((repeat (first | (with_reducible assumption) | (exact keep_undr (by with_reducible assumption)) | (simp [go_sem]; done) | (with_reducible refine keep_dr ?_) | (with_reducible refine keep_drN ?_ _) | (with_reducible refine keep_al ?_ _) | (refine keep_set ?_ (by first | (simp; done) | (simp; omega) | omega)) | (with_reducible refine keep_tr ?_ (by assumption)))); done) | ((repeat (first | (with_reducible assumption) | (exact bel_undr (by with_reducible assumption)) | (with_reducible exact bel_refl _) | (with_reducible refine bel_dr ?_) | (with_reducible refine bel_drN ?_ _) | (with_reducible refine bel_al ?_ _) | (refine bel_set ?_ (by first | (simp; done) | (simp; exact Below.size (by assumption)) | (simp; omega)) _) | (with_reducible refine bel_tr ?_ (by assumption)))); done) | (simp [go_sem]; done) | go_keep))) (first | (go_at_call 8; have b6 : Below w8.heap.size w8 w8.drew := bel_dr (bel_refl _); generalize w8.drew = wd at *; have bb := bb.trans (b6.mono (Nat.le_of_lt bY.lt)); have bY := bY.below b6; have bw := bel_tr bw b6; have cT := keep_tr cT b6; have cY0 := keep_tr cY0 b6; have cY1 := keep_tr cY1 b6; have h := rowAt hR bb (Nat.le_of_lt bY.lt); have h9 := rowAt hR9 bb (Nat.le_of_lt bY.lt); refine (co_val HL.out HB.out _ _ _ _ rfl hm h).mono ?_; rintro e7 w7 ⟨A7, c7, rfl, lc7, cm7, r7, o7, b7⟩; have h9 := h9.below b7; have bw := bel_tr bw b7; have cT := keep_tr cT b7; have cY0 := keep_tr cY0 b7; have cY1 := keep_tr cY1 b7; clear o7))
                  go_wp2_with fail
                  refine (seq_val HD.out _ _ _ _ _ _ _ rfl rfl (by omega) hm' r7 h9).mono ?_
                  rintro e8 w8 ⟨rfl, b8⟩
                  have bw := bel_tr bw b8
                  go_wp2
                  exact bodyPost_ret (v := .bool true) (by simp [results, Try.results14, go_sem]) rfl ⟨true, rfl, ⟨fun _ => ⟨HV.out, HV'.out, _, _, _, HB.out, HL.out.trans HQ.out⟩, fun _ => rfl⟩, bw⟩
                · have HQ := Lib.hid hq
                  have hd : decide (L = l') = false := by simp [hq]
                  have HD := Lib.hid hd
                  clear hd hq
                  have HL := Lib.hid hL
                  have HB := Lib.hid hB
                  clear hL hB
                  go_region_held3 (fun W => W.cell? ⟨b, off + 4, none⟩ = some (.int .i64 t) ∧ W.cell? ⟨Y, 0, none⟩ = some (.int .i64 0) ∧ W.cell? ⟨Y, 1, none⟩ = some (.int .i64 0) ∧ Below w.heap.size w W) (((try go_split_ands); (repeat' (with_reducible refine And.intro ?_ ?_)) <;> (first | (with_reducible assumption) | ((repeat (first | (with_reducible assumption) | (exact keep_undr (by with_reducible assumption)) | (simp [go_sem]; done) | (with_reducible refine keep_dr ?_) | (with_reducible refine keep_drN ?_ _) | (with_reducible refine keep_al ?_ _) | (refine keep_set ?_ (by first | (simp; done) | (simp; omega) | omega)) | (with_reducible refine keep_tr ?_ (by assumption)))); done) | ((repeat (first | (with_reducible assumption) | (exact bel_undr (by with_reducible assumption)) | (with_reducible exact bel_refl _) | (with_reducible refine bel_dr ?_) | (with_reducible refine bel_drN ?_ _) | (with_reducible refine bel_al ?_ _) | (refine bel_set ?_ (by first | (simp; done) | (simp; exact Below.size (by assumption)) | (simp; omega)) _) | (with_reducible refine bel_tr ?_ (by assumption)))); done) | (simp [go_sem]; done) | go_keep))) (first | (go_at_call 8; have b6 : Below w8.heap.size w8 w8.drew := bel_dr (bel_refl _); generalize w8.drew = wd at *; have bb := bb.trans (b6.mono (Nat.le_of_lt bY.lt)); have bY := bY.below b6; have bw := bel_tr bw b6; have cT := keep_tr cT b6; have cY0 := keep_tr cY0 b6; have cY1 := keep_tr cY1 b6; have h := rowAt hR bb (Nat.le_of_lt bY.lt); have h9 := rowAt hR9 bb (Nat.le_of_lt bY.lt); refine (co_val HL.out HB.out _ _ _ _ rfl hm h).mono ?_; rintro e7 w7 ⟨A7, c7, rfl, lc7, cm7, r7, o7, b7⟩; have h9 := h9.below b7; have bw := bel_tr bw b7; have cT := keep_tr cT b7; have cY0 := keep_tr cY0 b7; have cY1 := keep_tr cY1 b7; clear o7))
                  go_wp2_with fail
                  refine (seq_val HD.out _ _ _ _ _ _ _ rfl rfl (by omega) hm' r7 h9).mono ?_
                  rintro e8 w8 ⟨rfl, b8⟩
                  have bw := bel_tr bw b8
                  go_wp2
                  have HN := Lib.hid (show ¬ icP l l' from fun z => HQ.out (HL.out.symm.trans (HI.out z).2))
                  exact bodyPost_ret (v := .bool false) (by simp [results, Try.results14, go_sem]) rfl ⟨false, rfl, ⟨fun z => (by cases z), fun z => absurd z HN.out⟩, bw⟩
          · have bP : Blk (w4.alloc (.cells #[.int .i64 0, .int .i64 0, .int .i64 0] 35)) w4.heap.size #[.int .i64 0, .int .i64 0, .int .i64 0] 35 := Blk.new w4 _ _
            have bb := bb.alloc (Nat.le_of_lt bY.lt) (.cells #[.int .i64 0, .int .i64 0, .int .i64 0] 35)
            have bY := bY.alloc (.cells #[.int .i64 0, .int .i64 0, .int .i64 0] 35)
            have bw := bel_al bw (.cells #[.int .i64 0, .int .i64 0, .int .i64 0] 35)
            go_upto_region 5 with fail
            generalize (w4.alloc (.cells #[.int .i64 0, .int .i64 0, .int .i64 0] 35)) = w5 at *
            generalize w4.heap.size = P at *
            have h := rowAt hR bb (Nat.le_of_lt bY.lt)
            have h9 := rowAt hR9 bb (Nat.le_of_lt bY.lt)
            go_wp2_with fail
            refine (ft_any _ _ _ l' _ rfl hm' h9).mono ?_
            rintro e6 w6 ⟨hd, b6⟩
            have bP := bP.below b6
            have bb := bb.trans (b6.mono (Nat.le_of_lt bY.lt))
            have bY := bY.below b6
            have bw := bel_tr bw b6
            clear b6 h h9
            rcases hd with hd | hd
            · obtain ⟨j, y, hj, HY, ry, pj, rfl⟩ := hd
              have HY := Lib.hid HY
              have bQ : Blk (w6.alloc (.cells #[.int .i64 y.step, .int .i64 y.alter, .int .i64 y.octave] 35)) w6.heap.size #[.int .i64 y.step, .int .i64 y.alter, .int .i64 y.octave] 35 := Blk.new w6 _ _
              have bP := bP.alloc (.cells #[.int .i64 y.step, .int .i64 y.alter, .int .i64 y.octave] 35)
              have bb := bb.alloc (Nat.le_of_lt bY.lt) (.cells #[.int .i64 y.step, .int .i64 y.alter, .int .i64 y.octave] 35)
              have bY := bY.alloc (.cells #[.int .i64 y.step, .int .i64 y.alter, .int .i64 y.octave] 35)
              have bw := bel_al bw (.cells #[.int .i64 y.step, .int .i64 y.alter, .int .i64 y.octave] 35)
              go_upto_region 11 with fail
              generalize (w6.alloc (.cells #[.int .i64 y.step, .int .i64 y.alter, .int .i64 y.octave] 35)) = w8 at *
              generalize w6.heap.size = Q at *
              have HI := Lib.hid (show icP l l' → coB l t 0 0 = true ∧ coL l t 0 0 = l' from fun z => by have g := ic_none z hall; rw [HX.out] at g; exact g)
              obtain ⟨L, hL⟩ : ∃ L, coL l t 0 0 = L := ⟨_, rfl⟩
              have hLn : L.length ≤ 61 := by rw [← hL]; exact coL_len _ _ _ _
              have cT : w8.cell? ⟨b, off + 4, none⟩ = some (.int .i64 t) := (bb.cell (p := ⟨b, off + 4, none⟩) hlbY).trans pT
              have cY0 : w8.cell? ⟨Y, 0, none⟩ = some (.int .i64 0) := by rw [Blk.cell bY]; rfl
              have cY1 : w8.cell? ⟨Y, 1, none⟩ = some (.int .i64 0) := by rw [Blk.cell bY]; rfl
              cases hB : coB l t 0 0
              · have HL := Lib.hid hL
                have HB := Lib.hid hB
                clear hL hB
                go_region_held3 (fun W => W.cell? ⟨b, off + 4, none⟩ = some (.int .i64 t) ∧ W.cell? ⟨Y, 0, none⟩ = some (.int .i64 0) ∧ W.cell? ⟨Y, 1, none⟩ = some (.int .i64 0) ∧ Below w.heap.size w W) (((try go_split_ands); (repeat' (with_reducible refine And.intro ?_ ?_)) <;> (first | (with_reducible assumption) | ((repeat (first | (with_reducible assumption) | (exact keep_undr (by with_reducible assumption)) | (simp [go_sem]; done) | (with_reducible refine keep_dr ?_) | (with_reducible refine keep_drN ?_ _) | (with_reducible refine keep_al ?_ _) | (refine keep_set ?_ (by first | (simp; done) | (simp; omega) | omega)) | (with_reducible refine keep_tr ?_ (by assumption)))); done) | ((repeat (first | (with_reducible assumption) | (exact bel_undr (by with_reducible assumption)) | (with_reducible exact bel_refl _) | (with_reducible refine bel_dr ?_) | (with_reducible refine bel_drN ?_ _) | (with_reducible refine bel_al ?_ _) | (refine bel_set ?_ (by first | (simp; done) | (simp; exact Below.size (by assumption)) | (simp; omega)) _) | (with_reducible refine bel_tr ?_ (by assumption)))); done) | (simp [go_sem]; done) | go_keep))) (first | (go_at_call 8; have b6 : Below w8.heap.size w8 w8.drew := bel_dr (bel_refl _); generalize w8.drew = wd at *; have bb := bb.trans (b6.mono (Nat.le_of_lt bY.lt)); have bY := bY.below b6; have bw := bel_tr bw b6; have cT := keep_tr cT b6; have cY0 := keep_tr cY0 b6; have cY1 := keep_tr cY1 b6; have h := rowAt hR bb (Nat.le_of_lt bY.lt); have h9 := rowAt hR9 bb (Nat.le_of_lt bY.lt); refine (co_val HL.out HB.out _ _ _ _ rfl hm h).mono ?_; rintro e7 w7 ⟨A7, c7, rfl, lc7, cm7, r7, o7, b7⟩; have h9 := h9.below b7; have bw := bel_tr bw b7; have cT := keep_tr cT b7; have cY0 := keep_tr cY0 b7; have cY1 := keep_tr cY1 b7; clear o7))
                have HN := Lib.hid (show ¬ icP l l' from fun z => by have := (HI.out z).1; rw [HB.out] at this; cases this)
                go_wp2
                exact bodyPost_ret (v := .bool false) (by simp [results, Try.results14, go_sem]) rfl ⟨false, rfl, ⟨fun z => (by cases z), fun z => absurd z HN.out⟩, bw⟩
              · by_cases hq : L = l'
                · have HQ := Lib.hid hq
                  have hd : decide (L = l') = true := by simp [hq]
                  have HD := Lib.hid hd
                  clear hd hq
                  have HL := Lib.hid hL
                  have HB := Lib.hid hB
                  clear hL hB
                  go_region_held3 (fun W => W.cell? ⟨b, off + 4, none⟩ = some (.int .i64 t) ∧ W.cell? ⟨Y, 0, none⟩ = some (.int .i64 0) ∧ W.cell? ⟨Y, 1, none⟩ = some (.int .i64 0) ∧ Below w.heap.size w W) (((try go_split_ands); (repeat' (with_reducible refine And.intro ?_ ?_)) <;> (first | (with_reducible assumption) | ((repeat (first | (with_reducible assumption) | (exact keep_undr (by with_reducible assumption)) | (simp [go_sem]; done) | (with_reducible refine keep_dr ?_) | (with_reducible refine keep_drN ?_ _) | (with_reducible refine keep_al ?_ _) | (refine keep_set ?_ (by first | (simp; done) | (simp; omega) | omega)) | (with_reducible refine keep_tr ?_ (by assumption)))); done) | ((repeat (first | (with_reducible assumption) | (exact bel_undr (by with_reducible assumption)) | (with_reducible exact bel_refl _) | (with_reducible refine bel_dr ?_) | (with_reducible refine bel_drN ?_ _) | (with_reducible refine bel_al ?_ _) | (refine bel_set ?_ (by first | (simp; done) | (simp; exact Below.size (by assumption)) | (simp; omega)) _) | (with_reducible refine bel_tr ?_ (by assumption)))); done) | (simp [go_sem]; done) | go_keep))) (first | (go_at_call 8; have b6 : Below w8.heap.size w8 w8.drew := bel_dr (bel_refl _); generalize w8.drew = wd at *; have bb := bb.trans (b6.mono (Nat.le_of_lt bY.lt)); have bY := bY.below b6; have bw := bel_tr bw b6; have cT := keep_tr cT b6; have cY0 := keep_tr cY0 b6; have cY1 := keep_tr cY1 b6; have h := rowAt hR bb (Nat.le_of_lt bY.lt); have h9 := rowAt hR9 bb (Nat.le_of_lt bY.lt); refine (co_val HL.out HB.out _ _ _ _ rfl hm h).mono ?_; rintro e7 w7 ⟨A7, c7, rfl, lc7, cm7, r7, o7, b7⟩; have h9 := h9.below b7; have bw := bel_tr bw b7; have cT := keep_tr cT b7; have cY0 := keep_tr cY0 b7; have cY1 := keep_tr cY1 b7; clear o7))
                  go_wp2_with fail
                  refine (seq_val HD.out _ _ _ _ _ _ _ rfl rfl (by omega) hm' r7 h9).mono ?_
                  rintro e8 w8 ⟨rfl, b8⟩
                  have bw := bel_tr bw b8
                  go_wp2
                  exact bodyPost_ret (v := .bool true) (by simp [results, Try.results14, go_sem]) rfl ⟨true, rfl, ⟨fun _ => ⟨HV.out, HV'.out, _, _, _, HB.out, HL.out.trans HQ.out⟩, fun _ => rfl⟩, bw⟩
                · have HQ := Lib.hid hq
                  have hd : decide (L = l') = false := by simp [hq]
                  have HD := Lib.hid hd
                  clear hd hq
                  have HL := Lib.hid hL
                  have HB := Lib.hid hB
                  clear hL hB
                  go_region_held3 (fun W => W.cell? ⟨b, off + 4, none⟩ = some (.int .i64 t) ∧ W.cell? ⟨Y, 0, none⟩ = some (.int .i64 0) ∧ W.cell? ⟨Y, 1, none⟩ = some (.int .i64 0) ∧ Below w.heap.size w W) (((try go_split_ands); (repeat' (with_reducible refine And.intro ?_ ?_)) <;> (first | (with_reducible assumption) | ((repeat (first | (with_reducible assumption) | (exact keep_undr (by with_reducible assumption)) | (simp [go_sem]; done) | (with_reducible refine keep_dr ?_) | (with_reducible refine keep_drN ?_ _) | (with_reducible refine keep_al ?_ _) | (refine keep_set ?_ (by first | (simp; done) | (simp; omega) | omega)) | (with_reducible refine keep_tr ?_ (by assumption)))); done) | ((repeat (first | (with_reducible assumption) | (exact bel_undr (by with_reducible assumption)) | (with_reducible exact bel_refl _) | (with_reducible refine bel_dr ?_) | (with_reducible refine bel_drN ?_ _) | (with_reducible refine bel_al ?_ _) | (refine bel_set ?_ (by first | (simp; done) | (simp; exact Below.size (by assumption)) | (simp; omega)) _) | (with_reducible refine bel_tr ?_ (by assumption)))); done) | (simp [go_sem]; done) | go_keep))) (first | (go_at_call 8; have b6 : Below w8.heap.size w8 w8.drew := bel_dr (bel_refl _); generalize w8.drew = wd at *; have bb := bb.trans (b6.mono (Nat.le_of_lt bY.lt)); have bY := bY.below b6; have bw := bel_tr bw b6; have cT := keep_tr cT b6; have cY0 := keep_tr cY0 b6; have cY1 := keep_tr cY1 b6; have h := rowAt hR bb (Nat.le_of_lt bY.lt); have h9 := rowAt hR9 bb (Nat.le_of_lt bY.lt); refine (co_val HL.out HB.out _ _ _ _ rfl hm h).mono ?_; rintro e7 w7 ⟨A7, c7, rfl, lc7, cm7, r7, o7, b7⟩; have h9 := h9.below b7; have bw := bel_tr bw b7; have cT := keep_tr cT b7; have cY0 := keep_tr cY0 b7; have cY1 := keep_tr cY1 b7; clear o7))
                  go_wp2_with fail
                  refine (seq_val HD.out _ _ _ _ _ _ _ rfl rfl (by omega) hm' r7 h9).mono ?_
                  rintro e8 w8 ⟨rfl, b8⟩
                  have bw := bel_tr bw b8
                  go_wp2
                  have HN := Lib.hid (show ¬ icP l l' from fun z => HQ.out (HL.out.symm.trans (HI.out z).2))
                  exact bodyPost_ret (v := .bool false) (by simp [results, Try.results14, go_sem]) rfl ⟨false, rfl, ⟨fun z => (by cases z), fun z => absurd z HN.out⟩, bw⟩
            · obtain ⟨hall', rfl⟩ := hd
              have bQ : Blk (w6.alloc (.cells #[.int .i64 0, .int .i64 0, .int .i64 0] 35)) w6.heap.size #[.int .i64 0, .int .i64 0, .int .i64 0] 35 := Blk.new w6 _ _
              have bP := bP.alloc (.cells #[.int .i64 0, .int .i64 0, .int .i64 0] 35)
              have bb := bb.alloc (Nat.le_of_lt bY.lt) (.cells #[.int .i64 0, .int .i64 0, .int .i64 0] 35)
              have bY := bY.alloc (.cells #[.int .i64 0, .int .i64 0, .int .i64 0] 35)
              have bw := bel_al bw (.cells #[.int .i64 0, .int .i64 0, .int .i64 0] 35)
              go_upto_region 11 with fail
              generalize (w6.alloc (.cells #[.int .i64 0, .int .i64 0, .int .i64 0] 35)) = w8 at *
              generalize w6.heap.size = Q at *
              have HI := Lib.hid (show icP l l' → coB l t 0 0 = true ∧ coL l t 0 0 = l' from fun z => by have g := ic_none z hall; rw [HX.out] at g; exact g)
              obtain ⟨L, hL⟩ : ∃ L, coL l t 0 0 = L := ⟨_, rfl⟩
              have hLn : L.length ≤ 61 := by rw [← hL]; exact coL_len _ _ _ _
              have cT : w8.cell? ⟨b, off + 4, none⟩ = some (.int .i64 t) := (bb.cell (p := ⟨b, off + 4, none⟩) hlbY).trans pT
              have cY0 : w8.cell? ⟨Y, 0, none⟩ = some (.int .i64 0) := by rw [Blk.cell bY]; rfl
              have cY1 : w8.cell? ⟨Y, 1, none⟩ = some (.int .i64 0) := by rw [Blk.cell bY]; rfl
              cases hB : coB l t 0 0
              · have HL := Lib.hid hL
                have HB := Lib.hid hB
                clear hL hB
                go_region_held3 (fun W => W.cell? ⟨b, off + 4, none⟩ = some (.int .i64 t) ∧ W.cell? ⟨Y, 0, none⟩ = some (.int .i64 0) ∧ W.cell? ⟨Y, 1, none⟩ = some (.int .i64 0) ∧ Below w.heap.size w W) (((try go_split_ands); (repeat' (with_reducible refine And.intro ?_ ?_)) <;> (first | (with_reducible assumption) | ((repeat (first | (with_reducible assumption) | (exact keep_undr (by with_reducible assumption)) | (simp [go_sem]; done) | (with_reducible refine keep_dr ?_) | (with_reducible refine keep_drN ?_ _) | (with_reducible refine keep_al ?_ _) | (refine keep_set ?_ (by first | (simp; done) | (simp; omega) | omega)) | (with_reducible refine keep_tr ?_ (by assumption)))); done) | ((repeat (first | (with_reducible assumption) | (exact bel_undr (by with_reducible assumption)) | (with_reducible exact bel_refl _) | (with_reducible refine bel_dr ?_) | (with_reducible refine bel_drN ?_ _) | (with_reducible refine bel_al ?_ _) | (refine bel_set ?_ (by first | (simp; done) | (simp; exact Below.size (by assumption)) | (simp; omega)) _) | (with_reducible refine bel_tr ?_ (by assumption)))); done) | (simp [go_sem]; done) | go_keep))) (first | (go_at_call 8; have b6 : Below w8.heap.size w8 w8.drew := bel_dr (bel_refl _); generalize w8.drew = wd at *; have bb := bb.trans (b6.mono (Nat.le_of_lt bY.lt)); have bY := bY.below b6; have bw := bel_tr bw b6; have cT := keep_tr cT b6; have cY0 := keep_tr cY0 b6; have cY1 := keep_tr cY1 b6; have h := rowAt hR bb (Nat.le_of_lt bY.lt); have h9 := rowAt hR9 bb (Nat.le_of_lt bY.lt); refine (co_val HL.out HB.out _ _ _ _ rfl hm h).mono ?_; rintro e7 w7 ⟨A7, c7, rfl, lc7, cm7, r7, o7, b7⟩; have h9 := h9.below b7; have bw := bel_tr bw b7; have cT := keep_tr cT b7; have cY0 := keep_tr cY0 b7; have cY1 := keep_tr cY1 b7; clear o7))
                have HN := Lib.hid (show ¬ icP l l' from fun z => by have := (HI.out z).1; rw [HB.out] at this; cases this)
                go_wp2
                exact bodyPost_ret (v := .bool false) (by simp [results, Try.results14, go_sem]) rfl ⟨false, rfl, ⟨fun z => (by cases z), fun z => absurd z HN.out⟩, bw⟩
              · by_cases hq : L = l'
                · have HQ := Lib.hid hq
                  have hd : decide (L = l') = true := by simp [hq]
                  have HD := Lib.hid hd
                  clear hd hq
                  have HL := Lib.hid hL
                  have HB := Lib.hid hB
                  clear hL hB
                  go_region_held3 (fun W => W.cell? ⟨b, off + 4, none⟩ = some (.int .i64 t) ∧ W.cell? ⟨Y, 0, none⟩ = some (.int .i64 0) ∧ W.cell? ⟨Y, 1, none⟩ = some (.int .i64 0) ∧ Below w.heap.size w W) (((try go_split_ands); (repeat' (with_reducible refine And.intro ?_ ?_)) <;> (first | (with_reducible assumption) | ((repeat (first | (with_reducible assumption) | (exact keep_undr (by with_reducible assumption)) | (simp [go_sem]; done) | (with_reducible refine keep_dr ?_) | (with_reducible refine keep_drN ?_ _) | (with_reducible refine keep_al ?_ _) | (refine keep_set ?_ (by first | (simp; done) | (simp; omega) | omega)) | (with_reducible refine keep_tr ?_ (by assumption)))); done) | ((repeat (first | (with_reducible assumption) | (exact bel_undr (by with_reducible assumption)) | (with_reducible exact bel_refl _) | (with_reducible refine bel_dr ?_) | (with_reducible refine bel_drN ?_ _) | (with_reducible refine bel_al ?_ _) | (refine bel_set ?_ (by first | (simp; done) | (simp; exact Below.size (by assumption)) | (simp; omega)) _) | (with_reducible refine bel_tr ?_ (by assumption)))); done) | (simp [go_sem]; done) | go_keep))) (first | (go_at_call 8; have b6 : Below w8.heap.size w8 w8.drew := bel_dr (bel_refl _); generalize w8.drew = wd at *; have bb := bb.trans (b6.mono (Nat.le_of_lt bY.lt)); have bY := bY.below b6; have bw := bel_tr bw b6; have cT := keep_tr cT b6; have cY0 := keep_tr cY0 b6; have cY1 := keep_tr cY1 b6; have h := rowAt hR bb (Nat.le_of_lt bY.lt); have h9 := rowAt hR9 bb (Nat.le_of_lt bY.lt); refine (co_val HL.out HB.out _ _ _ _ rfl hm h).mono ?_; rintro e7 w7 ⟨A7, c7, rfl, lc7, cm7, r7, o7, b7⟩; have h9 := h9.below b7; have bw := bel_tr bw b7; have cT := keep_tr cT b7; have cY0 := keep_tr cY0 b7; have cY1 := keep_tr cY1 b7; clear o7))
                  go_wp2_with fail
                  refine (seq_val HD.out _ _ _ _ _ _ _ rfl rfl (by omega) hm' r7 h9).mono ?_
                  rintro e8 w8 ⟨rfl, b8⟩
                  have bw := bel_tr bw b8
                  go_wp2
                  exact bodyPost_ret (v := .bool true) (by simp [results, Try.results14, go_sem]) rfl ⟨true, rfl, ⟨fun _ => ⟨HV.out, HV'.out, _, _, _, HB.out, HL.out.trans HQ.out⟩, fun _ => rfl⟩, bw⟩
                · have HQ := Lib.hid hq
                  have hd : decide (L = l') = false := by simp [hq]
                  have HD := Lib.hid hd
                  clear hd hq
                  have HL := Lib.hid hL
                  have HB := Lib.hid hB
                  clear hL hB
                  go_region_held3 (fun W => W.cell? ⟨b, off + 4, none⟩ = some (.int .i64 t) ∧ W.cell? ⟨Y, 0, none⟩ = some (.int .i64 0) ∧ W.cell? ⟨Y, 1, none⟩ = some (.int .i64 0) ∧ Below w.heap.size w W) (((try go_split_ands); (repeat' (with_reducible refine And.intro ?_ ?_)) <;> (first | (with_reducible assumption) | ((repeat (first | (with_reducible assumption) | (exact keep_undr (by with_reducible assumption)) | (simp [go_sem]; done) | (with_reducible refine keep_dr ?_) | (with_reducible refine keep_drN ?_ _) | (with_reducible refine keep_al ?_ _) | (refine keep_set ?_ (by first | (simp; done) | (simp; omega) | omega)) | (with_reducible refine keep_tr ?_ (by assumption)))); done) | ((repeat (first | (with_reducible assumption) | (exact bel_undr (by with_reducible assumption)) | (with_reducible exact bel_refl _) | (with_reducible refine bel_dr ?_) | (with_reducible refine bel_drN ?_ _) | (with_reducible refine bel_al ?_ _) | (refine bel_set ?_ (by first | (simp; done) | (simp; exact Below.size (by assumption)) | (simp; omega)) _) | (with_reducible refine bel_tr ?_ (by assumption)))); done) | (simp [go_sem]; done) | go_keep))) (first | (go_at_call 8; have b6 : Below w8.heap.size w8 w8.drew := bel_dr (bel_refl _); generalize w8.drew = wd at *; have bb := bb.trans (b6.mono (Nat.le_of_lt bY.lt)); have bY := bY.below b6; have bw := bel_tr bw b6; have cT := keep_tr cT b6; have cY0 := keep_tr cY0 b6; have cY1 := keep_tr cY1 b6; have h := rowAt hR bb (Nat.le_of_lt bY.lt); have h9 := rowAt hR9 bb (Nat.le_of_lt bY.lt); refine (co_val HL.out HB.out _ _ _ _ rfl hm h).mono ?_; rintro e7 w7 ⟨A7, c7, rfl, lc7, cm7, r7, o7, b7⟩; have h9 := h9.below b7; have bw := bel_tr bw b7; have cT := keep_tr cT b7; have cY0 := keep_tr cY0 b7; have cY1 := keep_tr cY1 b7; clear o7))
                  go_wp2_with fail
                  refine (seq_val HD.out _ _ _ _ _ _ _ rfl rfl (by omega) hm' r7 h9).mono ?_
                  rintro e8 w8 ⟨rfl, b8⟩
                  have bw := bel_tr bw b8
                  go_wp2
                  have HN := Lib.hid (show ¬ icP l l' from fun z => HQ.out (HL.out.symm.trans (HI.out z).2))
                  exact bodyPost_ret (v := .bool false) (by simp [results, Try.results14, go_sem]) rfl ⟨false, rfl, ⟨fun z => (by cases z), fun z => absurd z HN.out⟩, bw⟩
end Go.Proofs.Ytldgpgljapohiaa
