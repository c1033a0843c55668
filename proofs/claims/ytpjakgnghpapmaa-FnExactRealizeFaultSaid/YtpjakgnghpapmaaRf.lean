/- The number of the first chord that is not right: the program. -/
import Derived.Test.YtpjakgnghpapmaaBr
import Derived.Test.YtpjakgnghpapmaaRowIn
import Derived.Test.YtpjakgnghpapmaaPfV
import Derived.Deep.DeepCutAuto
namespace Go.Proofs.Ytpjakgnghpapmaa
set_option linter.unusedSimpArgs false
set_option linter.unusedVariables false
open Go.RowKit

/-- why there is no number -/
theorem rfP_no {f : Int} {bs : List Pi} {gs : List Int} {ll : List (List Pi)} (h : ¬ rfP f bs gs ll) : (f < -7 ∨ 7 < f) ∨ ((-7 ≤ f ∧ f ≤ 7) ∧ 8 < ll.length) ∨ ((-7 ≤ f ∧ f ≤ 7) ∧ ll.length ≤ 8 ∧ bs.length ≠ ll.length) ∨ ((-7 ≤ f ∧ f ≤ 7) ∧ ll.length ≤ 8 ∧ bs.length = ll.length ∧ gs.length ≠ ll.length) := by
  unfold rfP at h
  omega
theorem anyAt_take {L : List Fa} {j : Nat} (h : j < L.length) (i : Nat) : anyAt (L.take (j + 1)) i = (anyAt (L.take j) i || ((atFa L j).pos == (i : Int))) := by
  rw [List.take_succ_eq_append_getElem h, anyAt_snoc]
  unfold atFa
  rw [List.getD_eq_getElem?_getD, List.getElem?_eq_getElem h]
  rfl
theorem atFa_mem {L : List Fa} {j : Nat} (h : j < L.length) : atFa L j ∈ L := by
  unfold atFa
  rw [List.getD_eq_getElem?_getD, List.getElem?_eq_getElem h]
  exact List.getElem_mem h
set_option maxRecDepth 20000 in
set_option maxHeartbeats 4000000 in
theorem rf_any (f : Int) (A1 A2 A3 : Option Addr) (n1 n2 n3 c1 c2 c3 : Nat) (bs : List Pi) (gs : List Int) (ll : List (List Pi)) (w : World) (hn1 : bs.length = n1) (hn2 : gs.length = n2) (hn3 : ll.length = n3) (hm1 : n1 ≤ 2000000) (hm2 : n2 ≤ 2000000) (hm3 : n3 ≤ 2000000) (h1 : RowPi w w.heap.size A1 bs) (h2 : RowIn w w.heap.size A2 gs) (h3 : RowPP w w.heap.size A3 ll) (hbg : ∀ i, i < ll.length → (atPP ll i).length ≤ 2000000) :
    Calls Try.prog 27 #[.int .i64 f, .slice A1 n1 c1, .slice A2 n2 c2, .slice A3 n3 c3] w fun e w' => e = .returned (.int .i64 (rfI f bs gs ll)) ∧ Below w.heap.size w w' := by
  by_cases hP : rfP f bs gs ll
  · have HY := Lib.hid (rfI_yes hP)
    obtain ⟨⟨f0, f1⟩, g8, g9, g10⟩ := hP
    obtain rfl : n1 = n3 := by omega
    obtain rfl : n2 = n1 := by omega
    subst hn3
    obtain ⟨L, hL⟩ : ∃ L, pfL ll = L := ⟨_, rfl⟩
    have hLk : L = pfK ll ll.length := by rw [← hL]; exact if_pos g8
    have HPOS : Hid (∀ j, j < L.length → ∃ k : Nat, k < ll.length ∧ (atFa L j).pos = (k : Int)) := fun j hj => pfK_pos ll ll.length _ (by rw [← hLk]; exact atFa_mem hj)
    have HANY : Hid (∀ k, k < ll.length → anyAt L k = ftB ll k) := fun k hk => by rw [hLk, anyAt_pfK, decide_eq_true hk, Bool.true_and]
    have hL20 : L.length ≤ 20 := by rw [← hL]; have := pfL_len ll; omega
    have HL := Lib.hid hL
    clear hL hLk
    have i0 : ¬ (8 : Int) < (ll.length : Int) := by omega
    have i1 : (ll.length : Int) ≤ 8 := by omega
    have bA0 : Blk (w.alloc (.cells #[.bool false, .bool false, .bool false, .bool false, .bool false, .bool false, .bool false, .bool false] 80)) w.heap.size #[.bool false, .bool false, .bool false, .bool false, .bool false, .bool false, .bool false, .bool false] 80 := Blk.new w _ _
    have bw0 : Below w.heap.size w (w.alloc (.cells #[.bool false, .bool false, .bool false, .bool false, .bool false, .bool false, .bool false, .bool false] 80)) := bel_al (bel_refl w) _
    have HBG := Lib.hid hbg
    have HG1 := Lib.hid g9
    have HG2 := Lib.hid g10
    clear hbg g9 g10 hn1 hn2
    go_enter Try.func27, Try.ntmps27
    go_wp2_with (go_at_call 57; refine (ik_yes _ _ (by omega) (by omega)).mono ?_; rintro e w' ⟨rfl, rfl⟩)
    generalize (w.alloc (.cells #[.bool false, .bool false, .bool false, .bool false, .bool false, .bool false, .bool false, .bool false] 80)) = w0 at *
    refine (pf_val HL.out _ _ _ _ rfl (by omega) (h3.below bw0) HBG.out).mono ?_
    rintro e1 w1 ⟨A9, c9, rfl, lc9, cm9, r9, o9, be1⟩
    have hw0 := bA0.lt
    have HO9 : Hid (0 < L.length → ∃ b off, A9 = some ⟨b, off, none⟩ ∧ w.heap.size < b) := fun hl => by
      obtain ⟨b, off, e, h, _⟩ := o9 hl
      exact ⟨b, off, e, by omega⟩
    clear o9
    have bA0 := bA0.below be1
    replace bw0 := bel_tr bw0 be1
    clear be1
    go_wp2_with fail
    go_loopw [39] (fun i wr => ∃ j : Nat, j ≤ L.length ∧ i = .int .i64 j ∧ ∃ cs : Array Value, Blk wr w.heap.size cs 80 ∧ cs.size = 8 ∧ (∀ i, i < 8 → cs[i]? = some (.bool (anyAt (L.take j) i))) ∧ Below w.heap.size w wr ∧ RowFa wr wr.heap.size A9 L) (fun i _ => L.length - (intOf i).toNat)
    case atStart => exact ⟨0, Nat.zero_le _, rfl, _, bA0, rfl, fun i hi => by rcases (show i = 0 ∨ i = 1 ∨ i = 2 ∨ i = 3 ∨ i = 4 ∨ i = 5 ∨ i = 6 ∨ i = 7 from by omega) with rfl | rfl | rfl | rfl | rfl | rfl | rfl | rfl <;> rfl, bw0, r9⟩
    case round =>
      obtain ⟨j, hj, rfl, cs, bA, hcs8, hcs, hb, hrow⟩ := hrel
      clear bA0 bw0 r9
      by_cases hlt : j < L.length
      · obtain ⟨fb, fo, rfl, hfb, hfc⟩ := hrow (by omega)
        obtain ⟨p0, p1⟩ := hfc j hlt
        have hjl : (j : Int) < (L.length : Int) := by omega
        have hj0 : (0 : Int) ≤ (j : Int) := by omega
        have HT := Lib.hid (fun i => anyAt_take hlt i)
        obtain ⟨k, hk, hp⟩ := HPOS.out j hlt
        obtain ⟨t, ht⟩ : ∃ t, atFa L j = t := ⟨_, rfl⟩
        rw [ht] at p0 p1 HT hp
        have HFC := Lib.hid hfc
        clear ht hfc hrow
        obtain ⟨tp, tc⟩ := t
        simp only at p0 p1 HT hp
        subst hp
        have hk8 : (k : Int) < 8 := by omega
        have hk0 : (0 : Int) ≤ (k : Int) := by omega
        have hk9 : k < 8 := by omega
        have cA : wr.cell? ⟨w.heap.size, k, none⟩ = some (.bool (anyAt (L.take j) k)) := by rw [Blk.cell bA]; exact hcs k (by omega)
        have fA := Blk.free bA k
        have hlA := bA.lt
        have HCS := Lib.hid hcs
        obtain ⟨fb2, fo2, e2, hfbg⟩ := HO9.out (by omega)
        cases e2
        have hwr := hb.size
        have bA1 := bA.set k (.bool true)
        have hb1 : Below w.heap.size w (wr.setCell ⟨w.heap.size, k, none⟩ (.bool true)) := hb.setCell (Nat.le_refl _) _
        have hsz : (wr.setCell ⟨w.heap.size, k, none⟩ (.bool true)).heap.size = wr.heap.size := by simp [World.setCell]
        have hr1 : RowFa (wr.setCell ⟨w.heap.size, k, none⟩ (.bool true)) (wr.setCell ⟨w.heap.size, k, none⟩ (.bool true)).heap.size (some ⟨fb, fo, none⟩) L := by
          rw [hsz]
          exact fun _ => ⟨fb, fo, rfl, hfb, fun i hi => ⟨keep_set (HFC.out i hi).1 (by simp only; omega), keep_set (HFC.out i hi).2 (by simp only; omega)⟩⟩
        have HR9 := Lib.hid (hr1.below (bel_al (bel_refl _) (.cells #[.int .i64 (k : Int), .int .i64 tc] 40)))
        have HB9 := Lib.hid (bel_al hb1 (.cells #[.int .i64 (k : Int), .int .i64 tc] 40))
        have HA9 := Lib.hid (bA1.alloc (.cells #[.int .i64 (k : Int), .int .i64 tc] 40))
        clear hcs bA1 hb1 hr1 hsz
        go_wp2
        go_roundw
        case rel => exact ⟨j + 1, by omega, by go_num, _, HA9.out, by simpa using hcs8, fun i hi => by
          rw [HT.out i, Array.getElem?_setIfInBounds]
          by_cases e : k = i
          · subst e
            rw [if_pos rfl, if_pos (by omega)]
            simp
          · rw [if_neg e, HCS.out i hi]
            have : ((k : Int) == (i : Int)) = false := by simp; omega
            rw [this, Bool.or_false], HB9.out, HR9.out⟩
        case measure => simp [intOf]; omega
      · obtain rfl : j = L.length := by omega
        rw [List.take_length] at hcs
        have HC8 : Hid (∀ i, i < ll.length → cs[i]? = some (.bool (ftB ll i))) := fun i hi => by rw [← HANY.out i hi]; exact hcs i (by omega)
        obtain ⟨bA0, hb0⟩ : Blk wr w.heap.size cs 80 ∧ Below w.heap.size w wr := ⟨bA, hb⟩
        clear hcs hrow hcs8 bA hb
        go_wp2_with fail
        obtain ⟨wz, hwz⟩ : ∃ z : World, z = wr := ⟨_, rfl⟩
        rw [← hwz] at bA0 hb0 ⊢
        clear hwz
        go_loopw [49] (fun i wr => ∃ k : Nat, k ≤ ll.length ∧ i = .int .i64 k ∧ Blk wr w.heap.size cs 80 ∧ Below w.heap.size w wr ∧ Hid (∀ j, j < k → bdB f bs gs ll j = false)) (fun i _ => ll.length - (intOf i).toNat)
        case atStart => exact ⟨0, Nat.zero_le _, rfl, bA0, hb0, fun _ h => absurd h (Nat.not_lt_zero _)⟩
        case round =>
          obtain ⟨k, hk, rfl, bA, hb, HK⟩ := hrel
          clear bA0 hb0
          by_cases hlt : k < ll.length
          · obtain ⟨lb, lo, rfl, hlb, hlc⟩ := (h3.below hb) (by omega)
            obtain ⟨Ax, cx, hx0, hxl, hxm, hxr⟩ := hlc k hlt
            have hkl : (k : Int) < (ll.length : Int) := by omega
            have hk8 : (k : Int) < 8 := by omega
            have hk0 : (0 : Int) ≤ (k : Int) := by omega
            have cA : wr.cell? ⟨w.heap.size, k, none⟩ = some (.bool (ftB ll k)) := by rw [Blk.cell bA]; exact HC8.out k hlt
            clear hlc
            cases hft : ftB ll k
            · have hs4 := (ftB_ok hft).1
              have hpv := (ftB_ok hft).2
              have HF := Lib.hid hft
              rw [hft] at cA
              obtain ⟨bb, bo, rfl, hbb, hbc⟩ := (h1.below hb) (by rw [HG1.out]; omega)
              obtain ⟨d0, d1, d2⟩ := hbc k (by rw [HG1.out]; omega)
              obtain ⟨gb, go, rfl, hgb, hgc⟩ := (h2.below hb) (by rw [HG2.out]; omega)
              have eg := hgc k (by rw [HG2.out]; omega)
              obtain ⟨s, hs⟩ : ∃ s, atPP ll k = s := ⟨_, rfl⟩
              obtain ⟨bq, hbq⟩ : ∃ q, atPi bs k = q := ⟨_, rfl⟩
              obtain ⟨g, hg⟩ : ∃ g, gs.getD k 0 = g := ⟨_, rfl⟩
              rw [hs] at hx0 hxl hxr hs4 hpv
              rw [hbq] at d0 d1 d2
              rw [show atIn gs k = g from hg] at eg
              have HX := Lib.hid hs
              have HG := Lib.hid hg
              obtain ⟨b0, b1, b2⟩ := bq
              simp only at d0 d1 d2
              have HBB := Lib.hid hbq
              have HS4 := Lib.hid hs4
              have HPV : Hid (pvAll s) := hpv
              obtain ⟨v, hv⟩ : ∃ v, rcB f ⟨b0, b1, b2⟩ g s = v := ⟨_, rfl⟩
              have HV := Lib.hid hv

              clear hs hbq hg hv hft hs4 hpv hbc hgc
              go_upto_region 12 with fail
              generalize hwq : wr = wq at *
              clear hwq
              cases v
              · have LR : ∀ xL : Later wq, Calls Try.prog 58 #[.int .i64 f, .agg #[.int .i64 b0, .int .i64 b1, .int .i64 b2], .int .i64 g, .slice Ax s.length cx] xL.world fun e w'' => e = .returned (.bool false) ∧ ∃ z : Later wq, w'' = z.world := fun xL => later_call (by have q := rc_any f ⟨b0, b1, b2⟩ g Ax cx s xL.world HS4.out HPV.out (hxr.below xL.bel); rw [HV.out] at q; exact q)
                have lf0 : ∀ xL : Later wq, xL.world.cell? ⟨w.heap.size, k, none⟩ = some (.bool false) := fun xL => xL.at (cA)
                have lf1 : ∀ xL : Later wq, xL.world.cell? ⟨bb, bo + k * 3, none⟩ = some (.int .i64 b0) := fun xL => xL.at (d0)
                have lf2 : ∀ xL : Later wq, xL.world.cell? ⟨bb, bo + k * 3 + 1, none⟩ = some (.int .i64 b1) := fun xL => xL.at (d1)
                have lf3 : ∀ xL : Later wq, xL.world.cell? ⟨bb, bo + k * 3 + 2, none⟩ = some (.int .i64 b2) := fun xL => xL.at (d2)
                have lf4 : ∀ xL : Later wq, xL.world.cell? ⟨gb, go + k, none⟩ = some (.int .i64 g) := fun xL => xL.at (eg)
                refine region_later (w0 := wq) (by kernel_rfl) (by kernel_rfl) (bel_refl _) ?_
                repeat (go_big_quiet_step ((first | (go_at_call 58; with_reducible exact LR _))))
                refine wpQuiet_nil ?_
                rintro w' ⟨x, rfl⟩
                obtain ⟨w9, b9⟩ := x
                clear lf0 lf1 lf2 lf3 lf4
                clear LR
                have hb9 := bel_tr hb b9
                have HB : Hid (bdB f bs gs ll k = true) := by show _ = _; unfold bdB; rw [HF.out, HX.out, HG.out, HBB.out, HV.out]; rfl
                have HE := Lib.hid (fstI_hit HB.out HK.out ll.length hlt)
                clear HB
                go_wp2
                go_ret
                exact ⟨ret_int (by rw [HY.out, HE.out]), hb9⟩
              · have LR : ∀ xL : Later wq, Calls Try.prog 58 #[.int .i64 f, .agg #[.int .i64 b0, .int .i64 b1, .int .i64 b2], .int .i64 g, .slice Ax s.length cx] xL.world fun e w'' => e = .returned (.bool true) ∧ ∃ z : Later wq, w'' = z.world := fun xL => later_call (by have q := rc_any f ⟨b0, b1, b2⟩ g Ax cx s xL.world HS4.out HPV.out (hxr.below xL.bel); rw [HV.out] at q; exact q)
                have lf0 : ∀ xL : Later wq, xL.world.cell? ⟨w.heap.size, k, none⟩ = some (.bool false) := fun xL => xL.at (cA)
                have lf1 : ∀ xL : Later wq, xL.world.cell? ⟨bb, bo + k * 3, none⟩ = some (.int .i64 b0) := fun xL => xL.at (d0)
                have lf2 : ∀ xL : Later wq, xL.world.cell? ⟨bb, bo + k * 3 + 1, none⟩ = some (.int .i64 b1) := fun xL => xL.at (d1)
                have lf3 : ∀ xL : Later wq, xL.world.cell? ⟨bb, bo + k * 3 + 2, none⟩ = some (.int .i64 b2) := fun xL => xL.at (d2)
                have lf4 : ∀ xL : Later wq, xL.world.cell? ⟨gb, go + k, none⟩ = some (.int .i64 g) := fun xL => xL.at (eg)
                refine region_later (w0 := wq) (by kernel_rfl) (by kernel_rfl) (bel_refl _) ?_
                repeat (go_big_quiet_step ((first | (go_at_call 58; with_reducible exact LR _))))
                refine wpQuiet_nil ?_
                rintro w' ⟨x, rfl⟩
                obtain ⟨w9, b9⟩ := x
                clear lf0 lf1 lf2 lf3 lf4
                clear LR
                have hb9 := bel_tr hb b9
                have HB : Hid (bdB f bs gs ll k = false) := by show _ = _; unfold bdB; rw [HF.out, HX.out, HG.out, HBB.out, HV.out]; rfl
                replace bA := bA.below b9
                go_wp2
                go_roundw
                case rel => exact ⟨k + 1, by omega, by go_num, bA, hb9, hid_snoc HK HB.out⟩
                case measure => simp [intOf]; omega
            · have HF := Lib.hid hft
              rw [hft] at cA
              have HB : Hid (bdB f bs gs ll k = true) := by show _ = _; unfold bdB; rw [HF.out]; rfl
              have HE := Lib.hid (fstI_hit HB.out HK.out ll.length hlt)
              clear hft HB
              go_upto_region 12 with fail
              generalize hwq : wr = wq at *
              clear hwq
              have lf0 : ∀ xL : Later wq, xL.world.cell? ⟨w.heap.size, k, none⟩ = some (.bool true) := fun xL => xL.at (cA)
              refine region_later (w0 := wq) (by kernel_rfl) (by kernel_rfl) (bel_refl _) ?_
              repeat (go_big_quiet_step ((fail)))
              refine wpQuiet_nil ?_
              rintro w' ⟨x, rfl⟩
              obtain ⟨w9, b9⟩ := x
              clear lf0
              have hb9 := bel_tr hb b9
              go_wp2
              go_ret
              exact ⟨ret_int (by rw [HY.out, HE.out]), hb9⟩
          · obtain rfl : k = ll.length := by omega
            have HE := Lib.hid (fstI_none ll.length HK.out)
            go_wp2
            go_ret
            exact ⟨ret_int (by rw [HY.out, HE.out]), hb⟩
  · have HN := Lib.hid (rfI_no hP)
    rcases rfP_no hP with h | ⟨⟨f0, f1⟩, h⟩ | ⟨⟨f0, f1⟩, g8, h⟩ | ⟨⟨f0, f1⟩, g8, g9, h⟩
    · clear h1 h2 h3 hbg hP
      go_enter Try.func27, Try.ntmps27
      go_wp2_with (go_at_call 57; refine (ik_no _ _ (by omega)).mono ?_; rintro e w' ⟨rfl, rfl⟩)
      go_ret
      exact ⟨ret_int HN.out.symm, bel_refl _⟩
    · have i0 : (8 : Int) < (n3 : Int) := by omega
      clear h1 h2 h3 hbg hP hn1 hn2 hn3
      go_enter Try.func27, Try.ntmps27
      go_wp2_with (go_at_call 57; refine (ik_yes _ _ (by omega) (by omega)).mono ?_; rintro e w' ⟨rfl, rfl⟩)
      go_ret
      exact ⟨ret_int HN.out.symm, bel_refl _⟩
    · have i0 : ¬ (8 : Int) < (n3 : Int) := by omega
      have i1 : ((n1 : Int) != (n3 : Int)) = true := by simp; omega
      clear h1 h2 h3 hbg hP hn1 hn2 hn3
      go_enter Try.func27, Try.ntmps27
      go_wp2_with (go_at_call 57; refine (ik_yes _ _ (by omega) (by omega)).mono ?_; rintro e w' ⟨rfl, rfl⟩)
      go_ret
      exact ⟨ret_int HN.out.symm, bel_refl _⟩
    · have i0 : ¬ (8 : Int) < (n3 : Int) := by omega
      have i1 : ((n1 : Int) != (n3 : Int)) = false := by simp; omega
      have i2 : ((n2 : Int) != (n3 : Int)) = true := by simp; omega
      clear h1 h2 h3 hbg hP hn1 hn2 hn3
      go_enter Try.func27, Try.ntmps27
      go_wp2_with (go_at_call 57; refine (ik_yes _ _ (by omega) (by omega)).mono ?_; rintro e w' ⟨rfl, rfl⟩)
      go_ret
      exact ⟨ret_int HN.out.symm, bel_refl _⟩
end Go.Proofs.Ytpjakgnghpapmaa
