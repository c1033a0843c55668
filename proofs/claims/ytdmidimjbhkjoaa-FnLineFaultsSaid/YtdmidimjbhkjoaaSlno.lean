/- The line with a number: the reference. The first line, of both. -/
import Derived.Test.YtdmidimjbhkjoaaLno
import Derived.Test.YtdmidimjbhkjoaaScl
namespace Go.Proofs.Ytdmidimjbhkjoaa
set_option linter.unusedSimpArgs false
set_option linter.unusedVariables false
open Go.RowKit

theorem lnR_big {f : Int} {c : List Pi} {lo hi num : Int} (h : clI f c lo hi ≤ num) : lnR f c lo hi num = none := by
  unfold lnR
  by_cases ho : opB f c lo hi = true ∧ 0 ≤ num
  · rw [if_pos ho]
    obtain ⟨n2, n10⟩ := op_len ho.1
    rw [clI_yes ho.1] at h
    exact lnO_none (tns_len _ _ _) n10 (by omega) h
  · exact if_neg ho
theorem lnR_small {f : Int} {c : List Pi} {lo hi num : Int} (h0 : 0 ≤ num) (h : num < clI f c lo hi) : opB f c lo hi = true ∧ ∃ L, lnR f c lo hi num = some L ∧ lnO f c (tns f lo hi) num = some L ∧ L.length = c.length ∧ gdL f c (tns f lo hi) L := by
  cases ho : opB f c lo hi with
  | false => rw [clI_no ho] at h; omega
  | true =>
    obtain ⟨n2, n10⟩ := op_len ho
    rw [clI_yes ho] at h
    obtain ⟨L, a, b, d⟩ := lnO_some (tns_len f lo hi) n10 h0 h
    exact ⟨rfl, L, by rw [lnR_yes ho h0, a], a, b, d⟩
theorem Tab.base {w : World} {base base' G n m lo : Nat} {F : Nat → Nat → Int} (h : Tab w base G n m lo F) (hb : base' ≤ base) : Tab w base' G n m lo F := by
  obtain ⟨h0, R, a, a4, a5⟩ := h
  exact ⟨Nat.le_trans hb h0, R, a, fun k x y => by obtain ⟨z, u⟩ := a4 k x y; exact ⟨Nat.le_trans hb z, u⟩, a5⟩
def Off (o : Value) (AT : Option Addr) (m : Nat) : Prop := 0 < m → ∀ ad, AT = some ad → o.ownBlock ≠ some ad.block
theorem own_lt0 {w : World} {base : Nat} {e : TypeId} {g n cap : Nat} {xs : List Value} {size : Nat} (h : w.ownsRow base e size (.slice (some ⟨g, 0, none⟩) n cap) n xs) : g < w.heap.size := (own_lt h rfl).2
theorem off_start {w' : World} {b lo : Nat} {AT : Option Addr} {m : Nat} (hb : b < lo) (h : OwnPi w' lo AT m) : Off (.slice (some ⟨b, 0, none⟩) 0 0) AT m := fun hm ad e => by
  obtain ⟨g, off, e2, hlo, _⟩ := h hm
  rw [e2] at e
  cases e
  intro e3
  have : b = g := by simpa [Value.ownBlock] using e3
  omega
theorem Tab.grown {w w' : World} {base G n m lo : Nat} {F : Nat → Nat → Int} {base' : Nat} {e : TypeId} {size k : Nat} {v : Value} {xs : List Value} (h : Tab w base G n m lo F) (ho : w.ownsRow base' e size v k xs) (hg : w.grownBy w' v.ownBlock) (h1 : 55 ≠ e) (h2 : 3 ≠ e) : Tab w' base G n m lo F := by
  obtain ⟨h0, R, ⟨o, a1, a2, a3⟩, a4, a5⟩ := h
  exact ⟨h0, R, ⟨o, a1.grown hg (own_ne ho a1 h1), a2, a3⟩, fun k a b => by obtain ⟨x, y, r, z, u⟩ := a4 k a b; exact ⟨x, y, r, z.grown hg (own_ne ho z h2), u⟩, a5⟩
theorem rowPi_grown {w w' : World} {AT : Option Addr} {T : List Pi} {row : Option Nat} (h : RowPi w w.heap.size AT T) (hg : w.grownBy w' row) (hne : 0 < T.length → ∀ ad, AT = some ad → row ≠ some ad.block) : RowPi w' w'.heap.size AT T := fun hl => by
  obtain ⟨b, off, e, hb, hc⟩ := h hl
  have hn := hne hl _ e
  refine ⟨b, off, e, Nat.lt_of_lt_of_le hb hg.size, fun i hi => ?_⟩
  obtain ⟨c0, c1, c2⟩ := hc i hi
  exact ⟨grown_cell hg c0 hn, grown_cell hg c1 hn, grown_cell hg c2 hn⟩
theorem off_push {w : World} {v : Value} {AT : Option Addr} {T : List Pi} {g n cap : Nat} (h : Off v AT T.length) (hr : RowPi w w.heap.size AT T) {H : Nat} (hH : w.heap.size ≤ H) (hat : v.ownBlock = some g ∨ g = H) : Off (.slice (some ⟨g, 0, none⟩) n cap) AT T.length := fun hm ad e => by
  obtain ⟨b, off, e2, hb, _⟩ := hr hm
  rw [e2] at e
  cases e
  intro e3
  have e4 : g = b := by simpa [Value.ownBlock] using e3
  rcases hat with h1 | h1
  · exact h hm _ e2 (by rw [h1, e4])
  · omega
def SlS (f : Int) (c T acc : List Pi) (num : Int) (base : Nat) (wx : World) (AT : Option Addr) (a o : Value) : Prop :=
  ∃ (p : Pi) (r : Int), scI (okI c acc) (cnI f c T acc.length) T num = some (p, r) ∧ 0 ≤ r ∧ r ≤ 9223372036854775807 ∧ -2 ≤ kyP p ∧ a = .int .i64 r ∧ wx.ownsRow base 30 3 o (acc ++ [p]).length (flat csPi (acc ++ [p])) ∧ Off o AT T.length
set_option maxRecDepth 20000 in
set_option maxHeartbeats 8000000 in
theorem sln_any (f : Int) (c : List Pi) (A : Option Addr) (n c1 : Nat) (lo hi num0 : Int) (w : World) (hnum : num0 ≤ 9223372036854775807) (hn : c.length = n) (hm : n ≤ 2000000) (hc : RowPi w w.heap.size A c) :
    Calls Try.prog 33 #[.int .i64 f, .slice A n c1, .int .i64 lo, .int .i64 hi, .int .i64 num0] w (LnP w (lnR f c lo hi num0)) := by
  subst hn
  have own0 : (w.alloc (.cells #[] 30)).ownsRow w.heap.size 30 3 (.slice (some ⟨w.heap.size, 0, none⟩) 0 0) ([] : List Pi).length (flat csPi []) := World.ownsRow_lit w #[] 0 (Nat.le_refl _) (by simp [maxLen]) rfl
  have b0 : Below w.heap.size w (w.alloc (.cells #[] 30)) := bel_al (bel_refl w) _
  have hcX := hc.below b0
  obtain ⟨tot, htot⟩ : ∃ tot, clI f c lo hi = tot := ⟨_, rfl⟩
  by_cases h0 : 0 ≤ num0
  case neg =>
    have h0' : num0 < 0 := by omega
    have HL := Lib.hid (lnR_no (f := f) (c := c) (lo := lo) (hi := hi) (num := num0) (fun h => h0 h.2))
    clear h0 htot
    go_enter Try.func33, Try.ntmps33
    go_wp2
    exact bodyPost_ret (v := .tuple #[.slice (some ⟨w.heap.size, 0, none⟩) 0 0, .bool false]) (by simp [results, Try.results33, go_sem]) rfl ⟨.slice (some ⟨w.heap.size, 0, none⟩) 0 0, by rw [HL.out]; rfl, by rw [HL.out]; exact own0, b0⟩
  case pos =>
  have h0' : ¬ num0 < 0 := by omega
  by_cases h1 : tot ≤ num0
  case pos =>
    have HL := Lib.hid (lnR_big (f := f) (c := c) (lo := lo) (hi := hi) (num := num0) (by rw [htot]; exact h1))
    have HTOT := Lib.hid htot
    clear htot
    go_enter Try.func33, Try.ntmps33
    go_wp2_with fail
    generalize (w.alloc (.cells #[] 30)) = w0 at *
    refine (scl_val HTOT.out _ _ _ _ rfl hm hcX).mono ?_
    rintro e1 w1 ⟨rfl, b1⟩
    go_wp2
    exact bodyPost_ret (v := .tuple #[.slice (some ⟨w.heap.size, 0, none⟩) 0 0, .bool false]) (by simp [results, Try.results33, go_sem]) rfl ⟨.slice (some ⟨w.heap.size, 0, none⟩) 0 0, by rw [HL.out]; rfl, by rw [HL.out]; exact own_below own0 b1, bel_tr b0 b1⟩
  case neg =>
  have h1' : ¬ tot ≤ num0 := h1
  obtain ⟨ho, R, hL, hR, hRl, hRg⟩ := lnR_small (f := f) (c := c) (lo := lo) (hi := hi) (num := num0) h0 (by rw [htot]; omega)
  obtain ⟨n2, n10⟩ := op_len ho
  obtain ⟨hcv, ⟨g0, g1⟩, g2, g3, g4⟩ := opB_of ho
  obtain ⟨⟨f0, f1⟩, _, _⟩ := cvB_of hcv
  obtain ⟨T, hT⟩ : ∃ T, tns f lo hi = T := ⟨_, rfl⟩
  rw [hT] at hR
  have hT63 : T.length ≤ 63 := by rw [← hT]; exact tns_len _ _ _
  have HCV := Lib.hid (cv_pv hcv)
  have HTV := Lib.hid (tns_pv hT g0)
  have HT := Lib.hid hT
  have HL := Lib.hid hL
  have HR : Hid (goL f c T c.length [] num0 = some R) := hR
  have HTOT := Lib.hid htot
  rw [HL.out]
  clear hT hL hR hRl hRg hcv ho htot h1
  obtain ⟨i0, hi0, hz0, hz1, hz2⟩ := info_parts infoPi
  go_enter Try.func33, Try.ntmps33
  go_wp2_with fail
  generalize (w.alloc (.cells #[] 30)) = w0 at *
  refine (scl_val HTOT.out _ _ _ _ rfl hm hcX).mono ?_
  rintro e1 w1 ⟨rfl, b1⟩
  go_wp2_with fail
  refine (skt_any f lo hi _ f0 f1 g0 g2 g3).mono ?_
  rw [HT.out]
  rintro e2 w2 ⟨v2, rfl, o2, b2⟩
  obtain ⟨AT, cT, rfl, _, _, rT, oT⟩ := own_rowPi o2
  clear o2
  have hOF := off_start (show w.heap.size < w1.heap.size from by have := b0.size; have := own_lt0 own0; have := b1.size; omega) oT
  clear oT
  go_wp2_with fail
  refine (sct_any f c T A c.length c1 AT T.length cT _ rfl n2 n10 rfl hT63 (hcX.below (bel_tr b1 b2)) rT HCV.out HTV.out).mono ?_
  rintro e3 w3 ⟨G, cap, rfl, hcap, hTab, b3⟩
  have b13 := bel_tr (bel_tr b1 b2) b3
  have own3 := own_below own0 b13
  have hTr := rT.below b3
  replace hTab := hTab.base (show w.heap.size ≤ w2.heap.size from by have := b0.size; have := b1.size; have := b2.size; omega)
  have bw := bel_tr b0 b13
  have hw3 := bw.size
  have hcc3 : (c.length : Int) ≤ (cap : Int) := by omega
  clear b1 b2 b3 b13 own0 rT hcX
  go_wp2
  go_loopw [4, 12, 15, 16] (fun a o i _ wr => ∃ (k : Nat) (acc : List Pi) (num : Int), k ≤ c.length ∧ acc.length = k ∧ i = .int .i64 k ∧ a = .int .i64 num ∧ (0 ≤ num ∧ num ≤ 9223372036854775807) ∧ wr.ownsRow w.heap.size 30 3 o acc.length (flat csPi acc) ∧ Tab wr w.heap.size G c.length T.length 0 (fun a b => cnI f c T a (atPi T b)) ∧ RowPi wr wr.heap.size AT T ∧ Off o AT T.length ∧ Below w.heap.size w wr ∧ Hid (goL f c T (c.length - k) acc num = some R) ∧ Hid (∀ i, i < acc.length → -2 ≤ kyP (atPi acc i))) (fun _ _ i _ _ => c.length - (intOf i).toNat)
  case atStart => exact ⟨0, [], num0, by omega, rfl, rfl, rfl, ⟨h0, hnum⟩, own3, hTab, hTr, hOF, bw, HR, fun i hi => absurd hi (Nat.not_lt_zero _)⟩
  case round =>
    obtain ⟨k, acc, num, hk, hacc, rfl, rfl, ⟨hn0, hn1⟩, hown, hTab, hTr, hOF, hb, HG, HV⟩ := hrel
    clear own3 bw
    by_cases hlt : k < c.length
    · have hkl : (k : Int) < (c.length : Int) := by omega
      have hk0 : (0 : Int) ≤ (k : Int) := by omega
      obtain ⟨p9, r9, hsc9⟩ : ∃ p r, scI (okI c acc) (cnI f c T acc.length) T num = some (p, r) := by
        cases e : scI (okI c acc) (cnI f c T acc.length) T num with
        | some x => exact ⟨x.1, x.2, rfl⟩
        | none =>
          have h := HG.out
          rw [show c.length - k = (c.length - (k + 1)) + 1 from by omega, goL_none e] at h
          cases h
      have HSC9 := Lib.hid hsc9
      have HACC := Lib.hid hacc
      clear hacc hsc9
      go_upto_block 1 with fail
      go_cut [4, 12] from 43 to 98 (fun a o wx => SlS f c T acc num w.heap.size wx AT a o ∧ Tab wx w.heap.size G c.length T.length 0 (fun a b => cnI f c T a (atPi T b)) ∧ RowPi wx wx.heap.size AT T ∧ Below w.heap.size w wx)
      case first =>
        have hw1 := hown
        have hb1 := hb
        have hT1 := hTab
        have hR1 := hTr
        have hO1 := hOF
        obtain ⟨wo, hwo⟩ : ∃ wo : World, wo = wr := ⟨_, rfl⟩
        subst hwo
        clear hown hb hTab hTr hOF
        go_wp2_with fail
        go_loopw [4, 12, 16] (fun a o i wi => ∃ (j : Nat) (nu : Int), j ≤ T.length ∧ i = .int .i64 j ∧ a = .int .i64 nu ∧ (0 ≤ nu ∧ nu ≤ 9223372036854775807) ∧ wi.ownsRow w.heap.size 30 3 o acc.length (flat csPi acc) ∧ Tab wi w.heap.size G c.length T.length 0 (fun a b => cnI f c T a (atPi T b)) ∧ RowPi wi wi.heap.size AT T ∧ Off o AT T.length ∧ Below w.heap.size w wi ∧ Hid (scI (okI c acc) (cnI f c T acc.length) (T.drop j) nu = scI (okI c acc) (cnI f c T acc.length) T num)) (fun _ _ i _ => T.length - (intOf i).toNat)
        case atStart => exact ⟨0, num, by omega, rfl, rfl, ⟨hn0, hn1⟩, hw1, hT1, hR1, hO1, hb1, rfl⟩
        case round =>
          obtain ⟨j, nu, hj, rfl, rfl, ⟨hm0, hm1⟩, hown, hTab, hTr, hOF, hb, HS⟩ := hrel
          clear hw1 hb1 hT1 hR1 hO1
          by_cases hjt : j < T.length
          · obtain ⟨tb, toff, rfl, htb, htc⟩ := hTr (by omega)
            obtain ⟨cb, coff, rfl, hcb, hccl⟩ := (hc.below hb) (by omega)
            have htj := htc j hjt
            have hck := hccl k hlt
            have hjl : (j : Int) < (T.length : Int) := by omega
            have hj0 : (0 : Int) ≤ (j : Int) := by omega
            have hst := scI_step (ok := okI c acc) (g := cnI f c T acc.length) hjt nu
            obtain ⟨r, y1, y2, y3, y4, y5, y6⟩ := hTab.row k (Nat.zero_le _) hlt
            have y7 := y6 j hjt
            clear y6 y2 y3 y4 y5
            have hN1 := cnI_bd (f := f) (c := c) hT63 n10 k (atPi T j)
            have hpv := HTV.out j hjt
            rw [HACC.out] at hst
            obtain ⟨p, hp⟩ : ∃ p, atPi T j = p := ⟨_, rfl⟩
            obtain ⟨x, hx⟩ : ∃ x, atPi c k = x := ⟨_, rfl⟩
            rw [hp] at htj y7 hN1 hst hpv
            rw [hx] at hck
            obtain ⟨N, hN⟩ : ∃ N, cnI f c T k p = N := ⟨_, rfl⟩
            rw [hN] at y7 hN1 hst
            have HST := Lib.hid hst
            have HPJ := Lib.hid hp
            have HXX := Lib.hid hx
            have HNN := Lib.hid hN
            clear hp hx hN
            clear hst
            obtain ⟨N0, N1⟩ := hN1
            obtain ⟨p0, p1, p2⟩ := htj
            obtain ⟨x0, x1, x2⟩ := hck
            by_cases hkz : k = 0
            · have HOK := Lib.hid (okI_0 (c := c) (p := p) (show acc.length = 0 from by rw [HACC.out]; exact hkz))
              have hg0 : ¬ (0 : Int) < (k : Int) := by omega
              have hgd : decide ((0 : Int) < (k : Int)) = false := decide_eq_false hg0
              have hge : decide (0 < k) = false := decide_eq_false (by omega)
              clear hkz x0 x1 x2 hccl htc
              go_upto_region 12 with fail
              refine region_later (w0 := wr) (by kernel_rfl) (by kernel_rfl) (bel_refl _) ?_
              repeat (go_big_quiet_step ((fail)))
              refine wpQuiet_nil ?_
              rintro w' ⟨x, rfl⟩
              obtain ⟨w5, b5⟩ := x
              replace hown := own_below hown b5
              replace hTab := hTab.below b5
              replace hTr := hTr.below b5
              replace hb := bel_tr hb b5
              replace y1 := keep_tr y1 b5
              replace y7 := keep_tr y7 b5
              replace p0 := keep_tr p0 b5
              replace p1 := keep_tr p1 b5
              replace p2 := keep_tr p2 b5
              by_cases hlN : nu < N
              · have hs5 := hb.size
                have hal : acc.length ≤ 10 := by have := HACC.out; omega
                have HSOME := Lib.hid (show scI (okI c acc) (cnI f c T acc.length) T num = some (p, nu) from by rw [← HS.out, HACC.out, HST.out, if_pos HOK.out, if_pos hlN])
                go_wp2_with (at_builtin; go_must (refine wpList_append_lies _ rfl _ _ 23 rfl w.heap.size 30 i0 _ 3 24 Try.underlying23 hi0 hz0 hz1 hz2 rfl (by omega) _ acc.length (flat csPi acc) rfl (hown.alloc _) ⟨w5.heap.size, 0, none⟩ 1 1 [.int .i64 p.step, .int .i64 p.alter, .int .i64 p.octave] rfl rfl (World.news_of_block (cs := #[.int .i64 p.step, .int .i64 p.alter, .int .i64 p.octave]) (t := 30) (fr := (0, 0)) (heap_alloc_new w5 _)) (by simp [Value.oneCell']) (by omega) (by unfold maxLen; omega) (by omega) (by simp; omega) _ rfl ?_; intro gg9 cp9 w9 hown9 hgrow9 hat9 hlt9))
                have bA := bel_al (bel_refl w5) (.cells #[.int .i64 p.step, .int .i64 p.alter, .int .i64 p.octave] 30)
                have hT9 := (hTab.below bA).grown (hown.alloc _) hgrow9 (by decide) (by decide)
                have hR9 := rowPi_grown (hTr.below bA) hgrow9 hOF
                have hO9 := off_push (n := acc.length + 1) (cap := cp9) hOF (hTr.below bA) (Nat.le_refl _) hat9
                have hbZ : Below w.heap.size w w9 := bel_grown (bel_al hb (.cells #[.int .i64 p.step, .int .i64 p.alter, .int .i64 p.octave] 30)) hgrow9 (fun k hk => by have := own_ge hown k hk; omega)
                have hqq := own_push (t := (p : Pi)) hown9 rfl
                clear hat9
                go_wp2
                go_meet
                exact ⟨⟨p, nu, HSOME.out, hm0, hm1, hpv, rfl, hqq, hO9⟩, hT9, hR9, hbZ⟩
              · have hlN2 : N ≤ nu := by omega
                have iw := IntWalk.i64_in (nu - N) (by omega)
                have HNX := Lib.hid (show scI (okI c acc) (cnI f c T acc.length) (T.drop (j + 1)) (nu - N) = scI (okI c acc) (cnI f c T acc.length) T num from by rw [← HS.out, HACC.out, HST.out, if_pos HOK.out, if_neg hlN])
                clear hlN
                go_wp2
                go_roundw
                case rel => exact ⟨j + 1, nu - N, by omega, by go_num, rfl, ⟨by omega, by omega⟩, hown, hTab, hTr, hOF, hb, HNX⟩
                case measure => simp [intOf]; omega
            · obtain ⟨i, hi2⟩ : ∃ i : Nat, k = i + 1 := ⟨k - 1, by omega⟩
              have hg0 : (0 : Int) < (k : Int) := by omega
              have hgd : decide ((0 : Int) < (k : Int)) = true := decide_eq_true hg0
              have hge : decide (0 < k) = true := decide_eq_true (by omega)
              have hki : (k : Int) - 1 = (i : Int) := by omega
              have hii : (0 : Int) ≤ (i : Int) := by omega
              have hi3 : i < acc.length := by rw [HACC.out]; omega
              have hi4 : (i : Int) < (acc.length : Int) := by omega
              have hi5 : (i : Int) < (c.length : Int) := by omega
              have hci := hccl i (by omega)
              have hqv := HV.out i hi3
              have hyv := HCV.out i (by omega)
              obtain ⟨Aa, ca, hoe, hoc1, hoc2, hor, _⟩ := own_rowPi hown
              subst hoe
              obtain ⟨ab, aoff, rfl, hab, hac⟩ := hor (by omega)
              have hai := hac i hi3
              clear hac hccl htc
              obtain ⟨q, hq⟩ : ∃ q, atPi acc i = q := ⟨_, rfl⟩
              obtain ⟨y, hy⟩ : ∃ y, atPi c i = y := ⟨_, rfl⟩
              obtain ⟨t2, ht2⟩ : ∃ t2, stP c k q p = t2 := ⟨_, rfl⟩
              rw [hq] at hai hqv
              rw [hy] at hci hyv
              have HOK2 := Lib.hid (show okI c acc p = (t2 == 0) from by rw [okI_s HACC.out hi2, hq, ht2])
              have HI2 := Lib.hid hi2
              have HQ := Lib.hid hq
              have HY := Lib.hid hy
              have HT2 := Lib.hid ht2
              clear hq hy ht2
              clear hkz hi2
              obtain ⟨q0, q1, q2⟩ := hai
              obtain ⟨v0, v1, v2⟩ := hci
              have LB : ∀ xL : Later wr, Calls Try.prog 28 #[.agg #[.int .i64 y.step, .int .i64 y.alter, .int .i64 y.octave], .agg #[.int .i64 q.step, .int .i64 q.alter, .int .i64 q.octave], .agg #[.int .i64 x.step, .int .i64 x.alter, .int .i64 x.octave], .agg #[.int .i64 p.step, .int .i64 p.alter, .int .i64 p.octave]] xL.world fun e w'' => e = .returned (.int .i64 t2) ∧ ∃ z : Later wr, w'' = z.world := fun xL => later_call (by have h := st_any y.step y.alter y.octave q.step q.alter q.octave x.step x.alter x.octave p.step p.alter p.octave (kyP y) (kyP q) (kyP x) (kyP p) rfl rfl rfl rfl hyv hqv xL.world; rw [show stK (kyP y) (kyP q) (kyP x) (kyP p) = t2 from by rw [← HT2.out]; unfold stP; rw [show k - 1 = i from by have := HI2.out; omega, HXX.out, HY.out]] at h; exact h)
              go_upto_region 12 with fail
              have lf0 : ∀ xL : Later wr, xL.world.cell? ⟨cb, coff + i * 3, none⟩ = some (.int .i64 y.step) := fun xL => xL.at (v0)
              have lf1 : ∀ xL : Later wr, xL.world.cell? ⟨cb, coff + i * 3 + 1, none⟩ = some (.int .i64 y.alter) := fun xL => xL.at (v1)
              have lf2 : ∀ xL : Later wr, xL.world.cell? ⟨cb, coff + i * 3 + 2, none⟩ = some (.int .i64 y.octave) := fun xL => xL.at (v2)
              have lf3 : ∀ xL : Later wr, xL.world.cell? ⟨ab, aoff + i * 3, none⟩ = some (.int .i64 q.step) := fun xL => xL.at (q0)
              have lf4 : ∀ xL : Later wr, xL.world.cell? ⟨ab, aoff + i * 3 + 1, none⟩ = some (.int .i64 q.alter) := fun xL => xL.at (q1)
              have lf5 : ∀ xL : Later wr, xL.world.cell? ⟨ab, aoff + i * 3 + 2, none⟩ = some (.int .i64 q.octave) := fun xL => xL.at (q2)
              have lf6 : ∀ xL : Later wr, xL.world.cell? ⟨cb, coff + k * 3, none⟩ = some (.int .i64 x.step) := fun xL => xL.at (x0)
              have lf7 : ∀ xL : Later wr, xL.world.cell? ⟨cb, coff + k * 3 + 1, none⟩ = some (.int .i64 x.alter) := fun xL => xL.at (x1)
              have lf8 : ∀ xL : Later wr, xL.world.cell? ⟨cb, coff + k * 3 + 2, none⟩ = some (.int .i64 x.octave) := fun xL => xL.at (x2)
              have lf9 : ∀ xL : Later wr, xL.world.cell? ⟨tb, toff + j * 3, none⟩ = some (.int .i64 p.step) := fun xL => xL.at (p0)
              have lf10 : ∀ xL : Later wr, xL.world.cell? ⟨tb, toff + j * 3 + 1, none⟩ = some (.int .i64 p.alter) := fun xL => xL.at (p1)
              have lf11 : ∀ xL : Later wr, xL.world.cell? ⟨tb, toff + j * 3 + 2, none⟩ = some (.int .i64 p.octave) := fun xL => xL.at (p2)
              refine region_later (w0 := wr) (by kernel_rfl) (by kernel_rfl) (bel_refl _) ?_
              repeat (go_big_quiet_step (((go_at_call 28; with_reducible exact LB _))))
              refine wpQuiet_nil ?_
              rintro w' ⟨x, rfl⟩
              obtain ⟨w5, b5⟩ := x
              clear lf0 lf1 lf2 lf3 lf4 lf5 lf6 lf7 lf8 lf9 lf10 lf11
              clear LB v0 v1 v2 q0 q1 q2 x0 x1 x2 hki
              replace hown := own_below hown b5
              replace hTab := hTab.below b5
              replace hTr := hTr.below b5
              replace hb := bel_tr hb b5
              replace y1 := keep_tr y1 b5
              replace y7 := keep_tr y7 b5
              replace p0 := keep_tr p0 b5
              replace p1 := keep_tr p1 b5
              replace p2 := keep_tr p2 b5
              by_cases hz2 : t2 = 0
              · have hzb : (t2 != 0) = false := by simp only [bne_eq_false_iff_eq]; exact hz2
                have HOK := Lib.hid (show okI c acc p = true from by rw [HOK2.out]; simpa using hz2)
                clear hz2
                by_cases hlN : nu < N
                · have hs5 := hb.size
                  have hal : acc.length ≤ 10 := by have := HACC.out; omega
                  have HSOME := Lib.hid (show scI (okI c acc) (cnI f c T acc.length) T num = some (p, nu) from by rw [← HS.out, HACC.out, HST.out, if_pos HOK.out, if_pos hlN])
                  go_wp2_with (at_builtin; go_must (refine wpList_append_lies _ rfl _ _ 23 rfl w.heap.size 30 i0 _ 3 24 Try.underlying23 hi0 hz0 hz1 hz2 rfl (by omega) _ acc.length (flat csPi acc) rfl (hown.alloc _) ⟨w5.heap.size, 0, none⟩ 1 1 [.int .i64 p.step, .int .i64 p.alter, .int .i64 p.octave] rfl rfl (World.news_of_block (cs := #[.int .i64 p.step, .int .i64 p.alter, .int .i64 p.octave]) (t := 30) (fr := (0, 0)) (heap_alloc_new w5 _)) (by simp [Value.oneCell']) (by omega) (by unfold maxLen; omega) (by omega) (by simp; omega) _ rfl ?_; intro gg9 cp9 w9 hown9 hgrow9 hat9 hlt9))
                  have bA := bel_al (bel_refl w5) (.cells #[.int .i64 p.step, .int .i64 p.alter, .int .i64 p.octave] 30)
                  have hT9 := (hTab.below bA).grown (hown.alloc _) hgrow9 (by decide) (by decide)
                  have hR9 := rowPi_grown (hTr.below bA) hgrow9 hOF
                  have hO9 := off_push (n := acc.length + 1) (cap := cp9) hOF (hTr.below bA) (Nat.le_refl _) hat9
                  have hbZ : Below w.heap.size w w9 := bel_grown (bel_al hb (.cells #[.int .i64 p.step, .int .i64 p.alter, .int .i64 p.octave] 30)) hgrow9 (fun k hk => by have := own_ge hown k hk; omega)
                  have hqq := own_push (t := (p : Pi)) hown9 rfl
                  clear hat9
                  go_wp2
                  go_meet
                  exact ⟨⟨p, nu, HSOME.out, hm0, hm1, hpv, rfl, hqq, hO9⟩, hT9, hR9, hbZ⟩
                · have hlN2 : N ≤ nu := by omega
                  have iw := IntWalk.i64_in (nu - N) (by omega)
                  have HNX := Lib.hid (show scI (okI c acc) (cnI f c T acc.length) (T.drop (j + 1)) (nu - N) = scI (okI c acc) (cnI f c T acc.length) T num from by rw [← HS.out, HACC.out, HST.out, if_pos HOK.out, if_neg hlN])
                  clear hlN
                  go_wp2
                  go_roundw
                  case rel => exact ⟨j + 1, nu - N, by omega, by go_num, rfl, ⟨by omega, by omega⟩, hown, hTab, hTr, hOF, hb, HNX⟩
                  case measure => simp [intOf]; omega
              · have hzb : (t2 != 0) = true := by simp only [bne_iff_ne, ne_eq]; exact hz2
                have HNX := Lib.hid (show scI (okI c acc) (cnI f c T acc.length) (T.drop (j + 1)) nu = scI (okI c acc) (cnI f c T acc.length) T num from by rw [← HS.out, HACC.out, HST.out, if_neg (by rw [HOK2.out]; simpa using hz2)])
                clear hz2
                go_wp2
                go_roundw
                case rel => exact ⟨j + 1, nu, by omega, by go_num, rfl, ⟨hm0, hm1⟩, hown, hTab, hTr, hOF, hb, HNX⟩
                case measure => simp [intOf]; omega
          · exfalso
            have hjl : j = T.length := by omega
            subst hjl
            have h := HS.out
            rw [scI_end, HSC9.out] at h
            cases h
      case rest =>
        obtain ⟨⟨p, r, hsc, hr0, hr1, hpv, rfl, hown9, hO9⟩, hT9, hR9, hbX⟩ := hcut
        have HG2 := Lib.hid (show goL f c T (c.length - (k + 1)) (acc ++ [p]) r = some R from by
          rw [← HG.out, show c.length - k = (c.length - (k + 1)) + 1 from by omega, goL_some hsc])
        clear hsc
        have HAL := Lib.hid (show (acc ++ [p]).length = k + 1 from by rw [List.length_append, List.length_singleton, HACC.out])
        have HVV : Hid (∀ i, i < (acc ++ [p]).length → -2 ≤ kyP (atPi (acc ++ [p]) i)) := fun i hi => by
          rw [List.length_append, List.length_singleton] at hi
          by_cases e : i = acc.length
          · rw [e, atPi_snoc]; exact hpv
          · rw [atPi_append (by omega)]; exact HV.out i (by omega)
        go_wp2
        go_roundw
        case rel => exact ⟨k + 1, acc ++ [p], r, by omega, HAL.out, by go_num, rfl, ⟨hr0, hr1⟩, hown9, hT9, hR9, hO9, hbX, HG2, HVV⟩
        case measure => simp [intOf]; omega
    · have hkl : k = c.length := by omega
      subst hkl
      have HRS := Lib.hid (show R = acc from by have h := HG.out; rw [Nat.sub_self] at h; exact (Option.some.inj h).symm)
      go_wp2
      obtain ⟨Aa, ca, hoe, _, _, _, _⟩ := own_rowPi hown
      subst hoe
      exact bodyPost_ret (v := .tuple #[.slice Aa acc.length ca, .bool true]) (by simp [results, Try.results33, go_sem]) rfl ⟨.slice Aa acc.length ca, rfl, by rw [HRS.out]; exact hown, hb⟩
end Go.Proofs.Ytdmidimjbhkjoaa
