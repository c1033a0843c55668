/- The number of the first chord that is not right: the reference. -/
import Derived.Test.YtpjakgnghpapmaaRf
import Derived.Test.YtpjakgnghpapmaaHas
import Derived.Test.YtpjakgnghpapmaaSFg
import Derived.Test.YtpjakgnghpapmaaBp
namespace Go.Proofs.Ytpjakgnghpapmaa
set_option linter.unusedSimpArgs false
set_option linter.unusedVariables false
open Go.RowKit

theorem rfP_no2 {f : Int} {bs : List Pi} {gs : List Int} {ll : List (List Pi)} (h : ¬ rfP f bs gs ll) : 8 < ll.length ∨ (ll.length ≤ 8 ∧ bs.length ≠ ll.length) ∨ (ll.length ≤ 8 ∧ bs.length = ll.length ∧ gs.length ≠ ll.length) ∨ (ll.length ≤ 8 ∧ bs.length = ll.length ∧ gs.length = ll.length ∧ (f < -7 ∨ 7 < f)) := by
  unfold rfP at h
  omega
def bzB (f : Int) (b : Pi) (g : Int) (s : List Pi) : Bool := ((fgL f b g).length == 0) || (s.length != 4) || !piB (atPi s 0) b || !fullB s (fgL f b g)
theorem bsB_is (f : Int) (b : Pi) (g : Int) (s : List Pi) (ft : Bool) : bsB f b g s ft = ((bzB f b g s || !fullB (fgL f b g) s) || ft) := rfl
set_option maxRecDepth 20000 in
set_option maxHeartbeats 8000000 in
theorem srf_any (f : Int) (A1 A2 A3 : Option Addr) (n1 n2 n3 c1 c2 c3 : Nat) (bs : List Pi) (gs : List Int) (ll : List (List Pi)) (w : World) (hn1 : bs.length = n1) (hn2 : gs.length = n2) (hn3 : ll.length = n3) (hm1 : n1 ≤ 2000000) (hm2 : n2 ≤ 2000000) (hm3 : n3 ≤ 2000000) (h1 : RowPi w w.heap.size A1 bs) (h2 : RowIn w w.heap.size A2 gs) (h3 : RowPP w w.heap.size A3 ll) (hbg : ∀ i, i < ll.length → (atPP ll i).length ≤ 2000000) :
    Calls Try.prog 24 #[.int .i64 f, .slice A1 n1 c1, .slice A2 n2 c2, .slice A3 n3 c3] w fun e w' => e = .returned (.int .i64 (rfI f bs gs ll)) ∧ Below w.heap.size w w' := by
  by_cases hP : rfP f bs gs ll
  · have HY := Lib.hid (rfI_yes hP)
    obtain ⟨⟨f0, f1⟩, g8, g9, g10⟩ := hP
    obtain rfl : n1 = n3 := by omega
    obtain rfl : n2 = n1 := by omega
    subst hn3
    obtain ⟨F, hF⟩ : ∃ F, pfL ll = F := ⟨_, rfl⟩
    have hFk : F = pfK ll ll.length := by rw [← hF]; exact if_pos g8
    have HANY : Hid (∀ k, k < ll.length → anyAt F k = ftB ll k) := fun k hk => by rw [hFk, anyAt_pfK, decide_eq_true hk, Bool.true_and]
    have hF20 : F.length ≤ 20 := by rw [← hF]; have := pfL_len ll; omega
    have HL := Lib.hid hF
    clear hF hFk
    have i0 : ¬ (8 : Int) < (ll.length : Int) := by omega
    have i1 : (ll.length : Int) ≤ 8 := by omega
    have HBG := Lib.hid hbg
    have HG1 := Lib.hid g9
    have HG2 := Lib.hid g10
    clear hbg g9 g10 hn1 hn2
    go_enter Try.func24, Try.ntmps24
    go_wp2_with (go_at_call 52; refine (swin_yes _ _ _ _ (by omega) (by omega)).mono ?_; rintro e w' ⟨rfl, rfl⟩)
    refine (spf_val HL.out _ _ _ _ rfl (by omega) h3 HBG.out).mono ?_
    rintro e1 w1 ⟨AF, cF, rfl, lcF, cmF, r9, _, bw0⟩
    go_wp2_with fail
    go_loopw [11] (fun i wr => ∃ k : Nat, k ≤ ll.length ∧ i = .int .i64 k ∧ RowFa wr wr.heap.size AF F ∧ Below w.heap.size w wr ∧ Hid (∀ j, j < k → bdB f bs gs ll j = false)) (fun i _ => ll.length - (intOf i).toNat)
    case atStart => exact ⟨0, Nat.zero_le _, rfl, r9, bw0, fun _ h => absurd h (Nat.not_lt_zero _)⟩
    case round =>
      obtain ⟨k, hk, rfl, hfr, hb, HK⟩ := hrel
      clear r9 bw0
      by_cases hlt : k < ll.length
      · obtain ⟨lb, lo, rfl, hlb, hlc⟩ := (h3.below hb) (by omega)
        obtain ⟨Ax, cx, hx0, hxl, hxm, hxr⟩ := hlc k hlt
        have hkl : (k : Int) < (ll.length : Int) := by omega
        have hk0 : (0 : Int) ≤ (k : Int) := by omega
        obtain ⟨bb, bo, rfl, hbb, hbc⟩ := (h1.below hb) (by rw [HG1.out]; omega)
        obtain ⟨d0, d1, d2⟩ := hbc k (by rw [HG1.out]; omega)
        obtain ⟨gb, go, rfl, hgb, hgc⟩ := (h2.below hb) (by rw [HG2.out]; omega)
        have eg := hgc k (by rw [HG2.out]; omega)
        have hsbg := HBG.out k hlt
        obtain ⟨s, hs⟩ : ∃ s, atPP ll k = s := ⟨_, rfl⟩
        obtain ⟨bq, hbq⟩ : ∃ q, atPi bs k = q := ⟨_, rfl⟩
        obtain ⟨g, hg⟩ : ∃ g, gs.getD k 0 = g := ⟨_, rfl⟩
        rw [hs] at hx0 hxl hxr hsbg
        rw [hbq] at d0 d1 d2
        rw [show atIn gs k = g from hg] at eg
        have HX := Lib.hid hs
        have HG := Lib.hid hg
        obtain ⟨b0, b1, b2⟩ := bq
        simp only at d0 d1 d2
        have HBB := Lib.hid hbq
        obtain ⟨t, ht⟩ : ∃ t, fgL f ⟨b0, b1, b2⟩ g = t := ⟨_, rfl⟩
        have ht4 : t.length ≤ 4 := by rw [← ht]; exact fgL_len _ _ _
        have HT := Lib.hid ht
        obtain ⟨bz, hbz⟩ : ∃ v, bzB f ⟨b0, b1, b2⟩ g s = v := ⟨_, rfl⟩
        have HE0 := Lib.hid hbz
        clear hs hbq hg ht hbc hgc hlc hbz
        go_upto_region 8 with fail
        have lf0 : ∀ xL : Later wr, xL.world.cell? ⟨bb, bo + k * 3, none⟩ = some (.int .i64 b0) := fun xL => xL.at (d0)
        have lf1 : ∀ xL : Later wr, xL.world.cell? ⟨bb, bo + k * 3 + 1, none⟩ = some (.int .i64 b1) := fun xL => xL.at (d1)
        have lf2 : ∀ xL : Later wr, xL.world.cell? ⟨bb, bo + k * 3 + 2, none⟩ = some (.int .i64 b2) := fun xL => xL.at (d2)
        have lf3 : ∀ xL : Later wr, xL.world.cell? ⟨gb, go + k, none⟩ = some (.int .i64 g) := fun xL => xL.at (eg)
        refine region_tail (w0 := wr) 9 (by kernel_rfl) (by kernel_rfl) (bel_refl _) ?_
        simp only [List.take_succ_cons, List.take_zero, List.drop_succ_cons, List.drop_zero]
        repeat (go_big_quiet_step ((fail)))
        refine wpQuiet_nil ?_
        rintro w' ⟨x, rfl⟩
        obtain ⟨wt, bt⟩ := x
        clear lf0 lf1 lf2 lf3
        go_wp2_with fail
        refine (sfg_val HT.out _).mono ?_
        rintro e1 w2 ⟨A9, c9, rfl, lc9, cm9, r9, _, be1⟩
        replace be1 := bel_tr bt be1
        replace hb := bel_tr hb be1
        replace hfr := hfr.below be1
        replace hxr := hxr.below be1
        replace hx0 := keep_tr hx0 be1
        replace d0 := keep_tr d0 be1
        replace d1 := keep_tr d1 be1
        replace d2 := keep_tr d2 be1
        clear be1 eg
        go_upto_region 9 with fail
        go_cut [13] (fun u wx => u = .bool bz ∧ Below w2.heap.size w2 wx)
        case first =>
          by_cases hT0 : t.length = 0
          · have i9 : ((t.length : Int) == 0) = true := beq_iff_eq.2 (by omega)
            have HE := Lib.hid (show bz = true from by rw [← HE0.out]; unfold bzB; rw [HT.out, show (t.length == 0) = true from beq_iff_eq.2 hT0]; rfl)
            refine region_later (w0 := w2) (by kernel_rfl) (by kernel_rfl) (bel_refl _) ?_
            repeat (go_big_quiet_step ((fail)))
            refine wpQuiet_nil ?_
            rintro w' ⟨x, rfl⟩
            obtain ⟨w9, b9⟩ := x
            go_wp2
            go_meet
            exact ⟨by rw [HE.out], b9⟩
          · by_cases hs4 : s.length = 4
            · have i9 : ((t.length : Int) == 0) = false := beq_eq_false_iff_ne.2 (by omega)
              have i9x : ¬ t.length = 0 := hT0
              have HS4 := Lib.hid hs4
              obtain ⟨sb, so, rfl, hsb, hsc⟩ := hxr (by omega)
              obtain ⟨y0, y1, y2⟩ := hsc 0 (by omega)
              simp only [Nat.zero_mul, Nat.add_zero] at y0 y1 y2
              obtain ⟨p, hp⟩ : ∃ p, atPi s 0 = p := ⟨_, rfl⟩
              rw [hp] at y0 y1 y2
              have HS0 := Lib.hid hp
              obtain ⟨p0, p1, p2⟩ := p
              simp only at y0 y1 y2
              rw [hs4] at hx0
              clear hp hsc hs4
              rcases pi_part ⟨p0, p1, p2⟩ ⟨b0, b1, b2⟩ with he | q1 | ⟨q1, q2⟩ | ⟨q1, q2, q3⟩
              · cases he
                obtain ⟨fv, hfv⟩ : ∃ v, fullB s t = v := ⟨_, rfl⟩
                have HFV := Lib.hid hfv
                clear hfv
                cases fv
                · have HE := Lib.hid (show bz = true from by rw [← HE0.out]; unfold bzB; rw [HT.out, HS0.out, HFV.out, piB_iff.2 rfl, HS4.out]; simp; first | done | exact fun h => i9x (by rw [h]; rfl))
                  have LF : ∀ xL : Later w2, Calls Try.prog 54 #[.slice (some ⟨sb, so, none⟩) 4 cx, .slice A9 t.length c9] xL.world fun e w'' => e = .returned (.bool false) ∧ ∃ z : Later w2, w'' = z.world := fun xL => later_call (full_val HFV.out (some ⟨sb, so, none⟩) A9 4 t.length cx c9 xL.world HS4.out rfl (by omega) (by omega) (hxr.below xL.bel) (r9.below xL.bel))
                  have lf0 : ∀ xL : Later w2, xL.world.cell? ⟨lb, lo + k, none⟩ = some (.slice (some ⟨sb, so, none⟩) 4 cx) := fun xL => xL.at (hx0)
                  have lf1 : ∀ xL : Later w2, xL.world.cell? ⟨sb, so, none⟩ = some (.int .i64 b0) := fun xL => xL.at (y0)
                  have lf2 : ∀ xL : Later w2, xL.world.cell? ⟨sb, so + 1, none⟩ = some (.int .i64 b1) := fun xL => xL.at (y1)
                  have lf3 : ∀ xL : Later w2, xL.world.cell? ⟨sb, so + 2, none⟩ = some (.int .i64 b2) := fun xL => xL.at (y2)
                  have lf4 : ∀ xL : Later w2, xL.world.cell? ⟨bb, bo + k * 3, none⟩ = some (.int .i64 b0) := fun xL => xL.at (d0)
                  have lf5 : ∀ xL : Later w2, xL.world.cell? ⟨bb, bo + k * 3 + 1, none⟩ = some (.int .i64 b1) := fun xL => xL.at (d1)
                  have lf6 : ∀ xL : Later w2, xL.world.cell? ⟨bb, bo + k * 3 + 2, none⟩ = some (.int .i64 b2) := fun xL => xL.at (d2)
                  refine region_later (w0 := w2) (by kernel_rfl) (by kernel_rfl) (bel_refl _) ?_
                  repeat (go_big_quiet_step ((first | (go_at_call 54; with_reducible exact LF _))))
                  refine wpQuiet_nil ?_
                  rintro w' ⟨x, rfl⟩
                  obtain ⟨w9, b9⟩ := x
                  clear lf0 lf1 lf2 lf3 lf4 lf5 lf6
                  clear LF
                  go_wp2
                  go_meet
                  exact ⟨by rw [HE.out], b9⟩
                · have HE := Lib.hid (show bz = false from by rw [← HE0.out]; unfold bzB; rw [HT.out, HS0.out, HFV.out, piB_iff.2 rfl, HS4.out]; simp; first | done | exact fun h => i9x (by rw [h]; rfl))
                  have LF : ∀ xL : Later w2, Calls Try.prog 54 #[.slice (some ⟨sb, so, none⟩) 4 cx, .slice A9 t.length c9] xL.world fun e w'' => e = .returned (.bool true) ∧ ∃ z : Later w2, w'' = z.world := fun xL => later_call (full_val HFV.out (some ⟨sb, so, none⟩) A9 4 t.length cx c9 xL.world HS4.out rfl (by omega) (by omega) (hxr.below xL.bel) (r9.below xL.bel))
                  have lf0 : ∀ xL : Later w2, xL.world.cell? ⟨lb, lo + k, none⟩ = some (.slice (some ⟨sb, so, none⟩) 4 cx) := fun xL => xL.at (hx0)
                  have lf1 : ∀ xL : Later w2, xL.world.cell? ⟨sb, so, none⟩ = some (.int .i64 b0) := fun xL => xL.at (y0)
                  have lf2 : ∀ xL : Later w2, xL.world.cell? ⟨sb, so + 1, none⟩ = some (.int .i64 b1) := fun xL => xL.at (y1)
                  have lf3 : ∀ xL : Later w2, xL.world.cell? ⟨sb, so + 2, none⟩ = some (.int .i64 b2) := fun xL => xL.at (y2)
                  have lf4 : ∀ xL : Later w2, xL.world.cell? ⟨bb, bo + k * 3, none⟩ = some (.int .i64 b0) := fun xL => xL.at (d0)
                  have lf5 : ∀ xL : Later w2, xL.world.cell? ⟨bb, bo + k * 3 + 1, none⟩ = some (.int .i64 b1) := fun xL => xL.at (d1)
                  have lf6 : ∀ xL : Later w2, xL.world.cell? ⟨bb, bo + k * 3 + 2, none⟩ = some (.int .i64 b2) := fun xL => xL.at (d2)
                  refine region_later (w0 := w2) (by kernel_rfl) (by kernel_rfl) (bel_refl _) ?_
                  repeat (go_big_quiet_step ((first | (go_at_call 54; with_reducible exact LF _))))
                  refine wpQuiet_nil ?_
                  rintro w' ⟨x, rfl⟩
                  obtain ⟨w9, b9⟩ := x
                  clear lf0 lf1 lf2 lf3 lf4 lf5 lf6
                  clear LF
                  go_wp2
                  go_meet
                  exact ⟨by rw [HE.out], b9⟩
              · have HE := Lib.hid (show bz = true from by rw [← HE0.out]; unfold bzB; rw [HS0.out, piB_ne (fun z => by cases z; simp at q1)]; simp)
                have lf0 : ∀ xL : Later w2, xL.world.cell? ⟨lb, lo + k, none⟩ = some (.slice (some ⟨sb, so, none⟩) 4 cx) := fun xL => xL.at (hx0)
                have lf1 : ∀ xL : Later w2, xL.world.cell? ⟨sb, so, none⟩ = some (.int .i64 p0) := fun xL => xL.at (y0)
                have lf2 : ∀ xL : Later w2, xL.world.cell? ⟨sb, so + 1, none⟩ = some (.int .i64 p1) := fun xL => xL.at (y1)
                have lf3 : ∀ xL : Later w2, xL.world.cell? ⟨sb, so + 2, none⟩ = some (.int .i64 p2) := fun xL => xL.at (y2)
                have lf4 : ∀ xL : Later w2, xL.world.cell? ⟨bb, bo + k * 3, none⟩ = some (.int .i64 b0) := fun xL => xL.at (d0)
                have lf5 : ∀ xL : Later w2, xL.world.cell? ⟨bb, bo + k * 3 + 1, none⟩ = some (.int .i64 b1) := fun xL => xL.at (d1)
                have lf6 : ∀ xL : Later w2, xL.world.cell? ⟨bb, bo + k * 3 + 2, none⟩ = some (.int .i64 b2) := fun xL => xL.at (d2)
                refine region_later (w0 := w2) (by kernel_rfl) (by kernel_rfl) (bel_refl _) ?_
                repeat (go_big_quiet_step ((fail)))
                refine wpQuiet_nil ?_
                rintro w' ⟨x, rfl⟩
                obtain ⟨w9, b9⟩ := x
                clear lf0 lf1 lf2 lf3 lf4 lf5 lf6
                go_wp2
                go_meet
                exact ⟨by rw [HE.out], b9⟩
              · subst q1
                have HE := Lib.hid (show bz = true from by rw [← HE0.out]; unfold bzB; rw [HS0.out, piB_ne (fun z => by cases z; simp at q2)]; simp)
                have lf0 : ∀ xL : Later w2, xL.world.cell? ⟨lb, lo + k, none⟩ = some (.slice (some ⟨sb, so, none⟩) 4 cx) := fun xL => xL.at (hx0)
                have lf1 : ∀ xL : Later w2, xL.world.cell? ⟨sb, so, none⟩ = some (.int .i64 p0) := fun xL => xL.at (y0)
                have lf2 : ∀ xL : Later w2, xL.world.cell? ⟨sb, so + 1, none⟩ = some (.int .i64 p1) := fun xL => xL.at (y1)
                have lf3 : ∀ xL : Later w2, xL.world.cell? ⟨sb, so + 2, none⟩ = some (.int .i64 p2) := fun xL => xL.at (y2)
                have lf4 : ∀ xL : Later w2, xL.world.cell? ⟨bb, bo + k * 3, none⟩ = some (.int .i64 p0) := fun xL => xL.at (d0)
                have lf5 : ∀ xL : Later w2, xL.world.cell? ⟨bb, bo + k * 3 + 1, none⟩ = some (.int .i64 b1) := fun xL => xL.at (d1)
                have lf6 : ∀ xL : Later w2, xL.world.cell? ⟨bb, bo + k * 3 + 2, none⟩ = some (.int .i64 b2) := fun xL => xL.at (d2)
                refine region_later (w0 := w2) (by kernel_rfl) (by kernel_rfl) (bel_refl _) ?_
                repeat (go_big_quiet_step ((fail)))
                refine wpQuiet_nil ?_
                rintro w' ⟨x, rfl⟩
                obtain ⟨w9, b9⟩ := x
                clear lf0 lf1 lf2 lf3 lf4 lf5 lf6
                go_wp2
                go_meet
                exact ⟨by rw [HE.out], b9⟩
              · subst q1
                subst q2
                have HE := Lib.hid (show bz = true from by rw [← HE0.out]; unfold bzB; rw [HS0.out, piB_ne (fun z => by cases z; simp at q3)]; simp)
                have lf0 : ∀ xL : Later w2, xL.world.cell? ⟨lb, lo + k, none⟩ = some (.slice (some ⟨sb, so, none⟩) 4 cx) := fun xL => xL.at (hx0)
                have lf1 : ∀ xL : Later w2, xL.world.cell? ⟨sb, so, none⟩ = some (.int .i64 p0) := fun xL => xL.at (y0)
                have lf2 : ∀ xL : Later w2, xL.world.cell? ⟨sb, so + 1, none⟩ = some (.int .i64 p1) := fun xL => xL.at (y1)
                have lf3 : ∀ xL : Later w2, xL.world.cell? ⟨sb, so + 2, none⟩ = some (.int .i64 p2) := fun xL => xL.at (y2)
                have lf4 : ∀ xL : Later w2, xL.world.cell? ⟨bb, bo + k * 3, none⟩ = some (.int .i64 p0) := fun xL => xL.at (d0)
                have lf5 : ∀ xL : Later w2, xL.world.cell? ⟨bb, bo + k * 3 + 1, none⟩ = some (.int .i64 p1) := fun xL => xL.at (d1)
                have lf6 : ∀ xL : Later w2, xL.world.cell? ⟨bb, bo + k * 3 + 2, none⟩ = some (.int .i64 b2) := fun xL => xL.at (d2)
                refine region_later (w0 := w2) (by kernel_rfl) (by kernel_rfl) (bel_refl _) ?_
                repeat (go_big_quiet_step ((fail)))
                refine wpQuiet_nil ?_
                rintro w' ⟨x, rfl⟩
                obtain ⟨w9, b9⟩ := x
                clear lf0 lf1 lf2 lf3 lf4 lf5 lf6
                go_wp2
                go_meet
                exact ⟨by rw [HE.out], b9⟩
            · have i9 : ((t.length : Int) == 0) = false := beq_eq_false_iff_ne.2 (by omega)
              have i8 : ((s.length : Int) != 4) = true := bne_iff_ne.2 (by omega)
              have HE := Lib.hid (show bz = true from by rw [← HE0.out]; unfold bzB; rw [show (s.length != 4) = true from bne_iff_ne.2 hs4]; simp)
              have lf0 : ∀ xL : Later w2, xL.world.cell? ⟨lb, lo + k, none⟩ = some (.slice Ax s.length cx) := fun xL => xL.at (hx0)
              refine region_later (w0 := w2) (by kernel_rfl) (by kernel_rfl) (bel_refl _) ?_
              repeat (go_big_quiet_step ((fail)))
              refine wpQuiet_nil ?_
              rintro w' ⟨x, rfl⟩
              obtain ⟨w9, b9⟩ := x
              clear lf0
              go_wp2
              go_meet
              exact ⟨by rw [HE.out], b9⟩
        case rest =>
          obtain ⟨rfl, b7⟩ := hcut
          have hb7 := bel_tr hb b7
          have hf7 := hfr.below b7
          replace hxr := hxr.below b7
          replace hx0 := keep_tr hx0 b7
          replace r9 := r9.below b7
          clear hb hfr b7 d0 d1 d2
          obtain ⟨wv, hwv⟩ : ∃ z : World, z = wc := ⟨_, rfl⟩
          rw [← hwv] at hb7 hf7 hxr hx0 r9 ⊢
          clear hwv
          have bz0 : Below wv.heap.size wv wv := bel_refl _
          go_wp2_with fail
          go_loopw [13, 14] (fun v i wr => ∃ j : Nat, j ≤ s.length ∧ i = .int .i64 j ∧ v = .bool (bz || !fullB t (s.take j)) ∧ Below wv.heap.size wv wr) (fun _ i _ => s.length - (intOf i).toNat)
          case atStart => exact ⟨0, Nat.zero_le _, rfl, by rw [List.take_zero, show fullB t [] = true from rfl]; simp, bz0⟩
          case round =>
            obtain ⟨j, hj, rfl, rfl, b3⟩ := hrel
            clear bz0
            have hx1 := keep_tr hx0 b3
            by_cases hjl : j < s.length
            · obtain ⟨sb, so, rfl, hsb, hsc⟩ := (hxr.below b3) (by omega)
              obtain ⟨y0, y1, y2⟩ := hsc j hjl
              have hjl2 : (j : Int) < (s.length : Int) := by omega
              have hj0 : (0 : Int) ≤ (j : Int) := by omega
              have HFT := Lib.hid (fullB_take (s := t) hjl)
              obtain ⟨p, hp⟩ : ∃ p, atPi s j = p := ⟨_, rfl⟩
              rw [hp] at y0 y1 y2 HFT
              clear hp hsc
              obtain ⟨p0, p1, p2⟩ := p
              simp only at y0 y1 y2
              obtain ⟨fj, hfj⟩ : ∃ v, fullB t (s.take j) = v := ⟨_, rfl⟩
              rw [hfj] at HFT ⊢
              clear hfj
              obtain ⟨bj, hbj⟩ : ∃ v, (bz || !fj) = v := ⟨_, rfl⟩
              rw [hbj]
              have HBJ := Lib.hid hbj
              clear hbj
              cases bj
              · obtain ⟨hv, hhv⟩ : ∃ v, hasB t ⟨p0, p1, p2⟩ = v := ⟨_, rfl⟩
                have HH := Lib.hid hhv
                rw [hhv] at HFT
                clear hhv
                have HB1 : Hid ((bz = false ∧ fj = true)) := by
                  have := HBJ.out
                  show _ ∧ _
                  cases bz <;> cases fj <;> simp at this ⊢
                cases hv
                · have HB2 := Lib.hid (show (bz || !fullB t (s.take (j + 1))) = true from by rw [HFT.out]; simp)
                  go_wp2_with fail
                  refine (has_val HH.out _ _ _ _ rfl (by omega) (r9.below b3)).mono ?_
                  rintro e6 w6 ⟨rfl, b6⟩
                  replace b3 := bel_tr b3 b6
                  go_wp2
                  go_roundw
                  case rel => exact ⟨j + 1, by omega, by go_num, by rw [HB2.out], b3⟩
                  case measure => simp [intOf]; omega
                · have HB2 := Lib.hid (show (bz || !fullB t (s.take (j + 1))) = false from by rw [HFT.out, HB1.out.1, HB1.out.2]; rfl)
                  go_wp2_with fail
                  refine (has_val HH.out _ _ _ _ rfl (by omega) (r9.below b3)).mono ?_
                  rintro e6 w6 ⟨rfl, b6⟩
                  replace b3 := bel_tr b3 b6
                  go_wp2
                  go_roundw
                  case rel => exact ⟨j + 1, by omega, by go_num, by rw [HB2.out], b3⟩
                  case measure => simp [intOf]; omega
              · have HB2 := Lib.hid (show (bz || !fullB t (s.take (j + 1))) = true from by rw [HFT.out]; have := HBJ.out; cases bz <;> cases fj <;> simp at this ⊢)
                go_wp2
                go_roundw
                case rel => exact ⟨j + 1, by omega, by go_num, by rw [HB2.out], b3⟩
                case measure => simp [intOf]; omega
            · obtain rfl : j = s.length := by omega
              rw [List.take_length]
              obtain ⟨bx, hbx⟩ : ∃ v, (bz || !fullB t s) = v := ⟨_, rfl⟩
              rw [hbx]
              have HBX := Lib.hid hbx
              clear hbx
              have hb8 := bel_tr hb7 b3
              have hfr := hf7.below b3
              clear hb7 hf7
              have by0 : Below wr.heap.size wr wr := bel_refl _
              obtain ⟨wu, hwu⟩ : ∃ z : World, z = wr := ⟨_, rfl⟩
              rw [← hwu] at by0 hb8 hfr hx1 ⊢
              clear hwu
              go_wp2_with fail
              go_loopw [13, 15] (fun v i wr => ∃ j : Nat, j ≤ F.length ∧ i = .int .i64 j ∧ v = .bool (bx || anyAt (F.take j) k) ∧ Below wu.heap.size wu wr) (fun _ i _ => F.length - (intOf i).toNat)
              case atStart => exact ⟨0, Nat.zero_le _, rfl, by rw [List.take_zero, show anyAt [] k = false from rfl, Bool.or_false], by0⟩
              case round =>
                obtain ⟨j, hj, rfl, rfl, b4⟩ := hrel
                clear by0
                by_cases hjl : j < F.length
                · obtain ⟨fb, fo, rfl, hfb, hfc⟩ := (hfr.below b4) (by omega)
                  obtain ⟨y0, y1⟩ := hfc j hjl
                  have hjl2 : (j : Int) < (F.length : Int) := by omega
                  have hj0 : (0 : Int) ≤ (j : Int) := by omega
                  have HAT := Lib.hid (anyAt_take hjl k)
                  obtain ⟨p, hp⟩ : ∃ p, atFa F j = p := ⟨_, rfl⟩
                  rw [hp] at y0 y1 HAT
                  clear hp hfc
                  obtain ⟨p0, p1⟩ := p
                  simp only at y0 y1
                  have HAT : Hid (anyAt (F.take (j + 1)) k = (anyAt (F.take j) k || (p0 == (k : Int)))) := HAT.out
                  obtain ⟨fj, hfj⟩ : ∃ v, anyAt (F.take j) k = v := ⟨_, rfl⟩
                  rw [hfj] at HAT ⊢
                  clear hfj
                  obtain ⟨bj, hbj⟩ : ∃ v, (bx || fj) = v := ⟨_, rfl⟩
                  rw [hbj]
                  have HBJ := Lib.hid hbj
                  clear hbj
                  cases bj
                  · obtain ⟨hv, hhv⟩ : ∃ v, (p0 == (k : Int)) = v := ⟨_, rfl⟩
                    rw [hhv] at HAT
                    have HB1 : Hid (bx = false ∧ fj = false) := by
                      have := HBJ.out
                      show _ ∧ _
                      cases bx <;> cases fj <;> simp at this ⊢
                    cases hv
                    · have HB2 := Lib.hid (show (bx || anyAt (F.take (j + 1)) k) = false from by rw [HAT.out, HB1.out.1, HB1.out.2]; rfl)
                      go_wp2
                      go_roundw
                      case rel => exact ⟨j + 1, by omega, by go_num, by rw [HB2.out], b4⟩
                      case measure => simp [intOf]; omega
                    · have HB2 := Lib.hid (show (bx || anyAt (F.take (j + 1)) k) = true from by rw [HAT.out]; simp)
                      go_wp2
                      go_roundw
                      case rel => exact ⟨j + 1, by omega, by go_num, by rw [HB2.out], b4⟩
                      case measure => simp [intOf]; omega
                  · have HB2 := Lib.hid (show (bx || anyAt (F.take (j + 1)) k) = true from by rw [HAT.out]; have := HBJ.out; cases bx <;> cases fj <;> simp at this ⊢)
                    go_wp2
                    go_roundw
                    case rel => exact ⟨j + 1, by omega, by go_num, by rw [HB2.out], b4⟩
                    case measure => simp [intOf]; omega
                · obtain rfl : j = F.length := by omega
                  rw [List.take_length]
                  obtain ⟨bf, hbf⟩ : ∃ v, (bx || anyAt F k) = v := ⟨_, rfl⟩
                  rw [hbf]
                  have HB : Hid (bdB f bs gs ll k = bf) := by
                    show _ = _
                    rw [← bsB_eq, HX.out, HG.out, HBB.out, bsB_is, HT.out, HE0.out, HBX.out, ← HANY.out k hlt]
                    exact hbf
                  clear hbf
                  have hb9 := bel_tr hb8 b4
                  have hf9 := hfr.below b4
                  cases bf
                  · go_wp2
                    go_roundw
                    case rel => exact ⟨k + 1, by omega, by go_num, hf9, hb9, hid_snoc HK HB.out⟩
                    case measure => simp [intOf]; omega
                  · have HE := Lib.hid (fstI_hit HB.out HK.out ll.length hlt)
                    go_wp2
                    go_ret
                    exact ⟨ret_int (by rw [HY.out, HE.out]), hb9⟩
      · obtain rfl : k = ll.length := by omega
        have HE := Lib.hid (fstI_none ll.length HK.out)
        go_wp2
        go_ret
        exact ⟨ret_int (by rw [HY.out, HE.out]), hb⟩
  · have HN := Lib.hid (rfI_no hP)
    rcases rfP_no2 hP with h | ⟨g8, h⟩ | ⟨g8, g9, h⟩ | ⟨g8, g9, g10, h⟩
    · have i0 : (8 : Int) < (n3 : Int) := by omega
      clear h1 h2 h3 hbg hP hn1 hn2 hn3
      go_enter Try.func24, Try.ntmps24
      go_wp2
      go_ret
      exact ⟨ret_int HN.out.symm, bel_refl _⟩
    · have i0 : ¬ (8 : Int) < (n3 : Int) := by omega
      have i1 : ((n1 : Int) != (n3 : Int)) = true := by simp; omega
      clear h1 h2 h3 hbg hP hn1 hn2 hn3
      go_enter Try.func24, Try.ntmps24
      go_wp2
      go_ret
      exact ⟨ret_int HN.out.symm, bel_refl _⟩
    · have i0 : ¬ (8 : Int) < (n3 : Int) := by omega
      have i1 : ((n1 : Int) != (n3 : Int)) = false := by simp; omega
      have i2 : ((n2 : Int) != (n3 : Int)) = true := by simp; omega
      clear h1 h2 h3 hbg hP hn1 hn2 hn3
      go_enter Try.func24, Try.ntmps24
      go_wp2
      go_ret
      exact ⟨ret_int HN.out.symm, bel_refl _⟩
    · have i0 : ¬ (8 : Int) < (n3 : Int) := by omega
      have i1 : ((n1 : Int) != (n3 : Int)) = false := by simp; omega
      have i2 : ((n2 : Int) != (n3 : Int)) = false := by simp; omega
      clear h1 h2 h3 hbg hP hn1 hn2 hn3
      go_enter Try.func24, Try.ntmps24
      go_wp2_with (go_at_call 52; refine (swin_no _ _ _ _ (by omega)).mono ?_; rintro e w' ⟨rfl, rfl⟩)
      go_ret
      exact ⟨ret_int HN.out.symm, bel_refl _⟩
end Go.Proofs.Ytpjakgnghpapmaa
