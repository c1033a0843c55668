/- The line with a number: the program. -/
import Derived.Test.YtkchlgmlfihkdaaCl
import Derived.Deep.DeepCutAuto
import Derived.Deep.CutBlock
namespace Go.Proofs.Ytkchlgmlfihkdaa
set_option linter.unusedSimpArgs false
set_option linter.unusedVariables false
open Go.RowKit

def lnR (f : Int) (c : List Pi) (lo hi num : Int) : Option (List Pi) := if opB f c lo hi = true ∧ 0 ≤ num then lnO f c (tns f lo hi) num else none
theorem lnR_no {f : Int} {c : List Pi} {lo hi num : Int} (h : ¬ (opB f c lo hi = true ∧ 0 ≤ num)) : lnR f c lo hi num = none := if_neg h
theorem lnR_yes {f : Int} {c : List Pi} {lo hi num : Int} (h : opB f c lo hi = true) (h0 : 0 ≤ num) : lnR f c lo hi num = lnO f c (tns f lo hi) num := if_pos ⟨h, h0⟩
/-- a new slice and whether there is one -/
def LnP (w : World) (R : Option (List Pi)) (e : Ending) (w' : World) : Prop :=
  ∃ v, e = .returned (.tuple #[v, .bool R.isSome]) ∧ w'.ownsRow w.heap.size 43 3 v (R.getD []).length (flat csPi (R.getD [])) ∧ Below w.heap.size w w'
def ScS (f : Int) (c T acc : List Pi) (num : Int) (base : Nat) (wx : World) (a o b : Value) : Prop :=
  (∃ (p : Pi) (r : Int), scI (okI c acc) (cnI f c T acc.length) T num = some (p, r) ∧ 0 ≤ r ∧ r ≤ 9223372036854775807 ∧ a = .int .i64 r ∧ b = .bool true ∧ wx.ownsRow base 43 3 o (acc ++ [p]).length (flat csPi (acc ++ [p]))) ∨ (scI (okI c acc) (cnI f c T acc.length) T num = none ∧ b = .bool false)
theorem okI_0 {c acc : List Pi} {p : Pi} (h : acc.length = 0) : okI c acc p = true := decide_eq_true (.inl h)
theorem okI_s {c acc : List Pi} {p : Pi} {k j : Nat} (h : acc.length = k) (hk : k = j + 1) : okI c acc p = (stP c k (atPi acc j) p == 0) := by
  unfold okI
  rw [Bool.eq_iff_iff, h, show k - 1 = j from by omega]
  simp only [decide_eq_true_eq, beq_iff_eq]
  exact ⟨fun x => x.resolve_left (by omega), fun x => .inr x⟩
set_option maxRecDepth 20000 in
set_option maxHeartbeats 8000000 in
theorem ln_any (f : Int) (c : List Pi) (A : Option Addr) (n c1 : Nat) (lo hi num0 : Int) (w : World) (hnum : num0 ≤ 9223372036854775807) (hn : c.length = n) (hm : n ≤ 2000000) (hc : RowPi w w.heap.size A c) :
    Calls Try.prog 33 #[.int .i64 f, .slice A n c1, .int .i64 lo, .int .i64 hi, .int .i64 num0] w (LnP w (lnR f c lo hi num0)) := by
  subst hn
  cases ho : opB f c lo hi
  · have HO := Lib.hid ho
    have HL := Lib.hid (lnR_no (f := f) (c := c) (lo := lo) (hi := hi) (num := num0) (fun h => by rw [ho] at h; exact absurd h.1 (by simp)))
    clear ho
    go_enter Try.func33, Try.ntmps33
    go_wp2_with fail
    refine (lo_no f c A c.length c1 lo hi _ HO.out rfl hm hc).mono ?_
    rintro e1 w1 ⟨rfl, b1⟩
    go_wp2
    exact bodyPost_ret (v := .tuple #[.slice none 0 0, .bool false]) (by simp [results, Try.results33, go_sem]) rfl ⟨.slice none 0 0, by rw [HL.out]; rfl, by rw [HL.out]; exact World.ownsRow_nil _ _ _ _, b1⟩
  · obtain ⟨n2, n10⟩ := op_len ho
    have HO := Lib.hid ho
    obtain ⟨T, hT⟩ : ∃ T, tns f lo hi = T := ⟨_, rfl⟩
    have hT63 : T.length ≤ 63 := by rw [← hT]; exact tns_len _ _ _
    have HT := Lib.hid hT
    clear hT
    by_cases h0 : 0 ≤ num0
    case neg =>
      have h0' : num0 < 0 := by omega
      have HL := Lib.hid (lnR_no (f := f) (c := c) (lo := lo) (hi := hi) (num := num0) (fun h => h0 h.2))
      clear ho h0
      go_enter Try.func33, Try.ntmps33
      go_wp2_with fail
      refine (lo_yes f c A c.length c1 lo hi _ HO.out rfl hm hc).mono ?_
      rintro e1 w1 ⟨P, G, AT, cT, rfl, hPw, hP, hTr, hTab, b1⟩
      go_wp2
      exact bodyPost_ret (v := .tuple #[.slice none 0 0, .bool false]) (by simp [results, Try.results33, go_sem]) rfl ⟨.slice none 0 0, by rw [HL.out]; rfl, by rw [HL.out]; exact World.ownsRow_nil _ _ _ _, b1⟩
    case pos =>
    have h0' : ¬ num0 < 0 := by omega
    obtain ⟨R, hR⟩ : ∃ R, lnO f c T num0 = R := ⟨_, rfl⟩
    have HL := Lib.hid ((lnR_yes (num := num0) ho h0).trans (by rw [HT.out, hR]))
    have HR : Hid (goL f c T c.length [] num0 = R) := hR
    rw [HL.out]
    clear ho hR
    obtain ⟨i0, hi0, hz0, hz1, hz2⟩ := info_parts infoPi
    go_enter Try.func33, Try.ntmps33
    go_wp2_with fail
    refine (lo_yes f c A c.length c1 lo hi _ HO.out rfl hm hc).mono ?_
    rw [HT.out]
    rintro e1 w1 ⟨P, G, AT, cT, rfl, hPw, hP, hTr, hTab, b1⟩
    have own0 : (w1.alloc (.cells #[] 43)).ownsRow w1.heap.size 43 3 (.slice (some ⟨w1.heap.size, 0, none⟩) 0 0) ([] : List Pi).length (flat csPi []) := World.ownsRow_lit w1 #[] 0 (Nat.le_refl _) (by simp [maxLen]) rfl
    have b0 : Below w1.heap.size w1 (w1.alloc (.cells #[] 43)) := bel_al (bel_refl w1) _
    go_wp2
    go_loopw [4, 14, 15, 16, 17, 18, 36, 44] (fun a o _ _ _ _ i _ wr => ∃ (k : Nat) (acc : List Pi) (num : Int), k ≤ c.length ∧ acc.length = k ∧ i = .int .i64 k ∧ a = .int .i64 num ∧ (0 ≤ num ∧ num ≤ 9223372036854775807) ∧ wr.ownsRow w1.heap.size 43 3 o acc.length (flat csPi acc) ∧ Below w1.heap.size w1 wr ∧ Hid (goL f c T (c.length - k) acc num = R)) (fun _ _ _ _ _ _ i _ _ => c.length - (intOf i).toNat)
    case atStart => exact ⟨0, [], num0, by omega, rfl, rfl, rfl, ⟨h0, hnum⟩, own0, b0, HR⟩
    case round =>
      obtain ⟨k, acc, num, hk, hacc, rfl, rfl, ⟨hn0, hn1⟩, hown, hb, HG⟩ := hrel
      clear own0 b0
      by_cases hlt : k < c.length
      · have hkl : (k : Int) < (c.length : Int) := by omega
        have hk0 : (0 : Int) ≤ (k : Int) := by omega
        have HACC := Lib.hid hacc
        clear hacc
        obtain ⟨l0, l1, l2, l3⟩ := (hP.below hb).at
        go_upto_block 2 with fail
        go_cut [4, 14, 16] from 37 to 94 (fun a o b wx => ScS f c T acc num w1.heap.size wx a o b ∧ Below w1.heap.size w1 wx)
        case first =>
          have hw1 := hown
          have hb1 := hb
          obtain ⟨wo, hwo⟩ : ∃ wo : World, wo = wr := ⟨_, rfl⟩
          subst hwo
          clear l0 l1 l2 l3 hown hb
          go_wp2_with fail
          go_loopw [4, 14, 16, 17, 18, 44] (fun a o b _ _ i wi => ∃ (j : Nat) (nu : Int), j ≤ T.length ∧ i = .int .i64 j ∧ a = .int .i64 nu ∧ (0 ≤ nu ∧ nu ≤ 9223372036854775807) ∧ b = .bool false ∧ wi.ownsRow w1.heap.size 43 3 o acc.length (flat csPi acc) ∧ Below w1.heap.size w1 wi ∧ Hid (scI (okI c acc) (cnI f c T acc.length) (T.drop j) nu = scI (okI c acc) (cnI f c T acc.length) T num)) (fun _ _ _ _ _ i _ => T.length - (intOf i).toNat)
          case atStart => exact ⟨0, num, by omega, rfl, rfl, ⟨hn0, hn1⟩, rfl, hw1, hb1, rfl⟩
          case round =>
            obtain ⟨j, nu, hj, rfl, rfl, ⟨hm0, hm1⟩, rfl, hown, hb, HS⟩ := hrel
            clear hw1 hb1
            by_cases hjt : j < T.length
            · obtain ⟨tb, toff, rfl, htb, htc⟩ := (hTr.below hb) (by omega)
              have htj := htc j hjt
              clear htc
              have hjl : (j : Int) < (T.length : Int) := by omega
              have hj0 : (0 : Int) ≤ (j : Int) := by omega
              have hst := scI_step (ok := okI c acc) (g := cnI f c T acc.length) hjt nu
              obtain ⟨r, x1, x2, x3, x4, x5, x6⟩ := hTab.row k (Nat.zero_le _) hlt
              have x7 := x6 j hjt
              clear x6
              have hN1 := cnI_bd (f := f) (c := c) hT63 n10 k (atPi T j)
              rw [HACC.out] at hst
              obtain ⟨p, hp⟩ : ∃ p, atPi T j = p := ⟨_, rfl⟩
              rw [hp] at htj x7 hN1 hst
              obtain ⟨N, hN⟩ : ∃ N, cnI f c T k p = N := ⟨_, rfl⟩
              rw [hN] at x7 hN1 hst
              have hy1 : ∀ z : World, Below w1.heap.size w1 z → z.cell? ⟨G, k, none⟩ = some (.slice (some ⟨r, 0, none⟩) T.length T.length) := fun z hz => keep_tr x1 hz
              have hy7 : ∀ z : World, Below w1.heap.size w1 z → z.cell? ⟨r, j, none⟩ = some (.int .i64 N) := fun z hz => keep_tr x7 hz
              have HY1 := Lib.hid hy1
              have HY7 := Lib.hid hy7
              clear hy1 hy7 x1 x7 x2 x3 x4 x5
              have HST := Lib.hid hst
              have HPJ := Lib.hid hp
              have HNN := Lib.hid hN
              clear hp hN
              clear hst
              obtain ⟨N0, N1⟩ := hN1
              obtain ⟨p0, p1, p2⟩ := htj
              obtain ⟨l0, l1, l2, l3⟩ := (hP.below hb).at
              have bX : Blk (wr.alloc (.cells #[.int .i64 p.step, .int .i64 p.alter, .int .i64 p.octave] 43)) wr.heap.size #[.int .i64 p.step, .int .i64 p.alter, .int .i64 p.octave] 43 := Blk.new wr _ _
              have hbl := bel_al (bel_refl wr) (.cells #[.int .i64 p.step, .int .i64 p.alter, .int .i64 p.octave] 43)
              replace hown := own_below hown hbl
              replace hb := bel_tr hb hbl
              go_upto_region 12 with fail
              clear p0 p1 p2 l0 l1 l2 l3 hbl
              generalize (wr.alloc (.cells #[.int .i64 p.step, .int .i64 p.alter, .int .i64 p.octave] 43)) = v at *
              generalize wr.heap.size = X at *
              by_cases hkz : k = 0
              · have HOK := Lib.hid (okI_0 (c := c) (p := p) (show acc.length = 0 from by rw [HACC.out]; exact hkz))
                have hg0 : ¬ (0 : Int) < (k : Int) := by omega
                have hgd : decide ((0 : Int) < (k : Int)) = false := decide_eq_false hg0
                have hge : decide (0 < k) = false := decide_eq_false (by omega)
                clear hkz
                refine region_later (w0 := v) (by kernel_rfl) (by kernel_rfl) (bel_refl _) ?_
                repeat (go_big_quiet_step ((fail)))
                refine wpQuiet_nil ?_
                rintro w' ⟨x, rfl⟩
                obtain ⟨w5, b5⟩ := x
                replace bX := bX.below b5
                replace hown := own_below hown b5
                replace hb := bel_tr hb b5
                obtain ⟨l0, l1, l2, l3⟩ := (hP.below hb).at
                have y1 := HY1.out _ hb
                have y7 := HY7.out _ hb
                by_cases hlN : nu < N
                · have m0 : w5.cell? ⟨X, 0, none⟩ = some (.int .i64 p.step) := by rw [Blk.cell bX]; rfl
                  have m1 : w5.cell? ⟨X, 1, none⟩ = some (.int .i64 p.alter) := by rw [Blk.cell bX]; rfl
                  have m2 : w5.cell? ⟨X, 2, none⟩ = some (.int .i64 p.octave) := by rw [Blk.cell bX]; rfl
                  have hs5 := hb.size
                  have hal : acc.length ≤ 10 := by have := HACC.out; omega
                  have HSOME := Lib.hid (show scI (okI c acc) (cnI f c T acc.length) T num = some (p, nu) from by rw [← HS.out, HACC.out, HST.out, if_pos HOK.out, if_pos hlN])
                  go_wp2_with (at_builtin; go_must (refine wpList_append_lies _ rfl _ _ 26 rfl w1.heap.size 43 i0 _ 3 24 Try.underlying26 hi0 hz0 hz1 hz2 rfl (by omega) _ acc.length (flat csPi acc) rfl (hown.alloc _) ⟨w5.heap.size, 0, none⟩ 1 1 [.int .i64 p.step, .int .i64 p.alter, .int .i64 p.octave] rfl rfl (World.news_of_block (cs := #[.int .i64 p.step, .int .i64 p.alter, .int .i64 p.octave]) (t := 43) (fr := (0, 0)) (heap_alloc_new w5 _)) (by simp [Value.oneCell']) (by omega) (by unfold maxLen; omega) (by omega) (by simp; omega) _ rfl ?_; intro gg9 cp9 w9 hown9 hgrow9 hat9 hlt9))
                  have hbZ : Below w1.heap.size w1 w9 := bel_grown (bel_al hb (.cells #[.int .i64 p.step, .int .i64 p.alter, .int .i64 p.octave] 43)) hgrow9 (fun k hk => by have := own_ge hown k hk; omega)
                  have hqq := own_push (t := (p : Pi)) hown9 rfl
                  go_wp2
                  go_meet
                  exact ⟨.inl ⟨p, nu, HSOME.out, hm0, hm1, rfl, rfl, hqq⟩, hbZ⟩
                · have hlN2 : N ≤ nu := by omega
                  have iw := IntWalk.i64_in (nu - N) (by omega)
                  have HNX := Lib.hid (show scI (okI c acc) (cnI f c T acc.length) (T.drop (j + 1)) (nu - N) = scI (okI c acc) (cnI f c T acc.length) T num from by rw [← HS.out, HACC.out, HST.out, if_pos HOK.out, if_neg hlN])
                  clear hlN
                  go_wp2
                  go_roundw
                  case rel => exact ⟨j + 1, nu - N, by omega, by go_num, rfl, ⟨by omega, by omega⟩, rfl, hown, hb, HNX⟩
                  case measure => simp [intOf]; omega
              · obtain ⟨i, hi2⟩ : ∃ i : Nat, k = i + 1 := ⟨k - 1, by omega⟩
                have hg0 : (0 : Int) < (k : Int) := by omega
                have hgd : decide ((0 : Int) < (k : Int)) = true := decide_eq_true hg0
                have hge : decide (0 < k) = true := decide_eq_true (by omega)
                have hki : (k : Int) - 1 = (i : Int) := by omega
                have hii : (0 : Int) ≤ (i : Int) := by omega
                have hi3 : i < acc.length := by rw [HACC.out]; omega
                have hi4 : (i : Int) < (acc.length : Int) := by omega
                obtain ⟨Aa, ca, hoe, hoc1, hoc2, hor, _⟩ := own_rowPi hown
                subst hoe
                obtain ⟨ab, aoff, rfl, hab, hac⟩ := hor (by omega)
                have hai := hac i hi3
                clear hac
                obtain ⟨q, hq⟩ : ∃ q, atPi acc i = q := ⟨_, rfl⟩
                rw [hq] at hai
                obtain ⟨B, hB⟩ : ∃ B, (stP c k q p == 0) = B := ⟨_, rfl⟩
                have HOK2 := Lib.hid (show okI c acc p = B from by rw [okI_s HACC.out hi2, hq]; exact hB)
                have HQ := Lib.hid hq
                have HB := Lib.hid hB
                have HI2 := Lib.hid hi2
                clear hq hB hkz hi2
                obtain ⟨q0, q1, q2⟩ := hai
                have m0 : v.cell? ⟨X, 0, none⟩ = some (.int .i64 p.step) := by rw [Blk.cell bX]; rfl
                have m1 : v.cell? ⟨X, 1, none⟩ = some (.int .i64 p.alter) := by rw [Blk.cell bX]; rfl
                have m2 : v.cell? ⟨X, 2, none⟩ = some (.int .i64 p.octave) := by rw [Blk.cell bX]; rfl
                have LA : ∀ xL : Later v, Calls Try.prog 63 #[.pointer (some ⟨P, 0, none⟩), .int .i64 k, .agg #[.int .i64 q.step, .int .i64 q.alter, .int .i64 q.octave], .agg #[.int .i64 p.step, .int .i64 p.alter, .int .i64 p.octave]] xL.world fun e w'' => e = .returned (.bool B) ∧ ∃ z : Later v, w'' = z.world := fun xL => later_call (fo_val HB.out A c.length c1 _ T.length cT (.slice (some ⟨G, 0, none⟩) c.length c.length) P xL.world (by have := HI2.out; omega) hlt rfl hm (hc.below (bel_tr b1 (bel_tr hb xL.bel))) (hP.below (bel_tr hb xL.bel)))
                have lf0 : ∀ xL : Later v, xL.world.cell? ⟨ab, aoff + i * 3, none⟩ = some (.int .i64 q.step) := fun xL => xL.at (q0)
                have lf1 : ∀ xL : Later v, xL.world.cell? ⟨ab, aoff + i * 3 + 1, none⟩ = some (.int .i64 q.alter) := fun xL => xL.at (q1)
                have lf2 : ∀ xL : Later v, xL.world.cell? ⟨ab, aoff + i * 3 + 2, none⟩ = some (.int .i64 q.octave) := fun xL => xL.at (q2)
                have lf3 : ∀ xL : Later v, xL.world.cell? ⟨X, 0, none⟩ = some (.int .i64 p.step) := fun xL => xL.at (m0)
                have lf4 : ∀ xL : Later v, xL.world.cell? ⟨X, 1, none⟩ = some (.int .i64 p.alter) := fun xL => xL.at (m1)
                have lf5 : ∀ xL : Later v, xL.world.cell? ⟨X, 2, none⟩ = some (.int .i64 p.octave) := fun xL => xL.at (m2)
                refine region_later (w0 := v) (by kernel_rfl) (by kernel_rfl) (bel_refl _) ?_
                repeat (go_big_quiet_step (((go_at_call 63; with_reducible exact LA _))))
                refine wpQuiet_nil ?_
                rintro w' ⟨x, rfl⟩
                obtain ⟨w5, b5⟩ := x
                clear lf0 lf1 lf2 lf3 lf4 lf5
                clear LA q0 q1 q2 m0 m1 m2 hki
                replace bX := bX.below b5
                replace hown := own_below hown b5
                replace hb := bel_tr hb b5
                cases B
                · have HNX := Lib.hid (show scI (okI c acc) (cnI f c T acc.length) (T.drop (j + 1)) nu = scI (okI c acc) (cnI f c T acc.length) T num from by rw [← HS.out, HACC.out, HST.out, if_neg (by rw [HOK2.out]; simp)])
                  go_wp2
                  go_roundw
                  case rel => exact ⟨j + 1, nu, by omega, by go_num, rfl, ⟨hm0, hm1⟩, rfl, hown, hb, HNX⟩
                  case measure => simp [intOf]; omega
                · have HOK := HOK2
                  obtain ⟨l0, l1, l2, l3⟩ := (hP.below hb).at
                  have y1 := HY1.out _ hb
                  have y7 := HY7.out _ hb
                  by_cases hlN : nu < N
                  · have m0 : w5.cell? ⟨X, 0, none⟩ = some (.int .i64 p.step) := by rw [Blk.cell bX]; rfl
                    have m1 : w5.cell? ⟨X, 1, none⟩ = some (.int .i64 p.alter) := by rw [Blk.cell bX]; rfl
                    have m2 : w5.cell? ⟨X, 2, none⟩ = some (.int .i64 p.octave) := by rw [Blk.cell bX]; rfl
                    have hs5 := hb.size
                    have hal : acc.length ≤ 10 := by have := HACC.out; omega
                    have HSOME := Lib.hid (show scI (okI c acc) (cnI f c T acc.length) T num = some (p, nu) from by rw [← HS.out, HACC.out, HST.out, if_pos HOK.out, if_pos hlN])
                    go_wp2_with (at_builtin; go_must (refine wpList_append_lies _ rfl _ _ 26 rfl w1.heap.size 43 i0 _ 3 24 Try.underlying26 hi0 hz0 hz1 hz2 rfl (by omega) _ acc.length (flat csPi acc) rfl (hown.alloc _) ⟨w5.heap.size, 0, none⟩ 1 1 [.int .i64 p.step, .int .i64 p.alter, .int .i64 p.octave] rfl rfl (World.news_of_block (cs := #[.int .i64 p.step, .int .i64 p.alter, .int .i64 p.octave]) (t := 43) (fr := (0, 0)) (heap_alloc_new w5 _)) (by simp [Value.oneCell']) (by omega) (by unfold maxLen; omega) (by omega) (by simp; omega) _ rfl ?_; intro gg9 cp9 w9 hown9 hgrow9 hat9 hlt9))
                    have hbZ : Below w1.heap.size w1 w9 := bel_grown (bel_al hb (.cells #[.int .i64 p.step, .int .i64 p.alter, .int .i64 p.octave] 43)) hgrow9 (fun k hk => by have := own_ge hown k hk; omega)
                    have hqq := own_push (t := (p : Pi)) hown9 rfl
                    go_wp2
                    go_meet
                    exact ⟨.inl ⟨p, nu, HSOME.out, hm0, hm1, rfl, rfl, hqq⟩, hbZ⟩
                  · have hlN2 : N ≤ nu := by omega
                    have iw := IntWalk.i64_in (nu - N) (by omega)
                    have HNX := Lib.hid (show scI (okI c acc) (cnI f c T acc.length) (T.drop (j + 1)) (nu - N) = scI (okI c acc) (cnI f c T acc.length) T num from by rw [← HS.out, HACC.out, HST.out, if_pos HOK.out, if_neg hlN])
                    clear hlN
                    go_wp2
                    go_roundw
                    case rel => exact ⟨j + 1, nu - N, by omega, by go_num, rfl, ⟨by omega, by omega⟩, rfl, hown, hb, HNX⟩
                    case measure => simp [intOf]; omega
            · have hjl : j = T.length := by omega
              subst hjl
              have HNO := Lib.hid (show scI (okI c acc) (cnI f c T acc.length) T num = none from by rw [← HS.out]; exact scI_end nu)
              go_wp2
              go_meet
              exact ⟨.inr ⟨HNO.out, rfl⟩, hb⟩
        case rest =>
          obtain ⟨hs, hbX⟩ := hcut
          rcases hs with ⟨p, r, hsc, hr0, hr1, rfl, rfl, hown9⟩ | ⟨hsc, rfl⟩
          · have HG2 := Lib.hid (show goL f c T (c.length - (k + 1)) (acc ++ [p]) r = R from by
              rw [← HG.out, show c.length - k = (c.length - (k + 1)) + 1 from by omega, goL_some hsc])
            have HSC := Lib.hid hsc
            clear hsc
            have hal : (acc ++ [p]).length = k + 1 := by rw [List.length_append, List.length_singleton, HACC.out]
            have HAL := Lib.hid hal
            clear hal
            go_wp2
            go_roundw
            case rel => exact ⟨k + 1, acc ++ [p], r, by omega, HAL.out, by go_num, rfl, ⟨hr0, hr1⟩, hown9, hbX, HG2⟩
            case measure => simp [intOf]; omega
          · have HRN := Lib.hid (show R = none from by rw [← HG.out, show c.length - k = (c.length - (k + 1)) + 1 from by omega, goL_none hsc])
            clear hsc
            go_wp2
            exact bodyPost_ret (v := .tuple #[.slice none 0 0, .bool false]) (by simp [results, Try.results33, go_sem]) rfl ⟨.slice none 0 0, by rw [HRN.out]; rfl, by rw [HRN.out]; exact World.ownsRow_nil _ _ _ _, bel_tr b1 hbX⟩
      · have hkl : k = c.length := by omega
        subst hkl
        have HRS := Lib.hid (show R = some acc from by rw [← HG.out, Nat.sub_self]; rfl)
        go_wp2
        obtain ⟨Aa, ca, hoe, _, _, _, _⟩ := own_rowPi hown
        subst hoe
        exact bodyPost_ret (v := .tuple #[.slice Aa acc.length ca, .bool true]) (by simp [results, Try.results33, go_sem]) rfl ⟨.slice Aa acc.length ca, by rw [HRS.out]; rfl, by rw [HRS.out]; exact own_lo hown b1.size, bel_tr b1 hb⟩
end Go.Proofs.Ytkchlgmlfihkdaa
