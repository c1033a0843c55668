/- The faults of a line: the program. -/
import Derived.Test.YtdmidimjbhkjoaaLfP
import Derived.Deep.AppendLies
import Derived.Deep.DeepCutAuto
namespace Go.Proofs.Ytdmidimjbhkjoaa
set_option linter.unusedSimpArgs false
set_option linter.unusedVariables false
open Go.RowKit

set_option maxRecDepth 20000 in
set_option maxHeartbeats 8000000 in
theorem lf_any (f : Int) (c l : List Pi) (A : Option Addr) (n c1 : Nat) (A' : Option Addr) (n' c2 : Nat) (w : World) (hn : c.length = n) (hm : n ≤ 2000000) (hn' : l.length = n') (hm' : n' ≤ 2000000) (hc : RowPi w w.heap.size A c) (h : RowPi w w.heap.size A' l) :
    Calls Try.prog 11 #[.int .i64 f, .slice A n c1, .slice A' n' c2] w (Lf w (lfL f c l)) := by
  subst hn hn'
  obtain ⟨i0, hi0, hz0, hz1, hz2⟩ := info_parts infoFa
  cases hcv : cvB f c
  · have HL := Lib.hid (lfL_no (f := f) (c := c) (l := l) (by unfold lfB; rw [hcv]; rfl))
    have HC := Lib.hid hcv
    clear hcv
    go_enter Try.func11, Try.ntmps11
    go_wp2_with fail
    refine (cv_val HC.out _ _ _ _ rfl hm hc).mono ?_
    rintro e1 w1 ⟨rfl, b1⟩
    go_wp2
    go_ret
    exact ⟨_, rfl, by rw [HL.out]; exact World.ownsRow_nil _ _ _ _, b1⟩
  cases hap : apB l c.length c.length
  · have HL := Lib.hid (lfL_no (f := f) (c := c) (l := l) (by unfold lfB; rw [hap, hcv]; rfl))
    have HC := Lib.hid hcv
    have HA := Lib.hid hap
    clear hcv hap
    go_enter Try.func11, Try.ntmps11
    go_wp2_with fail
    refine (cv_val HC.out _ _ _ _ rfl hm hc).mono ?_
    rintro e1 w1 ⟨rfl, b1⟩
    go_wp2_with fail
    refine (ap_val HA.out _ _ _ _ rfl hm' (h.below b1)).mono ?_
    rintro e2 w2 ⟨rfl, b2⟩
    go_wp2
    go_ret
    exact ⟨_, rfl, by rw [HL.out]; exact World.ownsRow_nil _ _ _ _, bel_tr b1 b2⟩
  obtain ⟨⟨n2, n10⟩, hlen, hcp, hlp, hL⟩ := lfB_facts hcv hap
  have HC := Lib.hid hcv
  have HA := Lib.hid hap
  have HL := Lib.hid hL
  have HLEN := Lib.hid hlen
  have hl10 : l.length ≤ 10 := by omega
  clear hcv hap hL hlen hcp hlp
  go_enter Try.func11, Try.ntmps11
  go_wp2_with fail
  refine (cv_val HC.out _ _ _ _ rfl hm hc).mono ?_
  rintro e1 w1 ⟨rfl, b1⟩
  go_wp2_with fail
  refine (ap_val HA.out _ _ _ _ rfl hm' (h.below b1)).mono ?_
  rintro e2 w2 ⟨rfl, b2⟩
  have hb0 := bel_tr b1 b2
  have own0 : (w2.alloc (.cells #[] 36)).ownsRow w.heap.size 36 2 (.slice (some ⟨w2.heap.size, 0, none⟩) 0 0) ([] : List Fa).length (flat csFa []) := World.ownsRow_lit w2 #[] 0 (by have := hb0.size; omega) (by simp [maxLen]) rfl
  have b0 := bel_al hb0 (.cells #[] 36)
  clear b1 b2 hb0
  go_wp2
  go_loopw [7, 8, 9, 10, 11, 12, 29] (fun o _ _ _ _ _ i wr => ∃ k : Nat, k ≤ l.length ∧ i = .int .i64 k ∧ wr.ownsRow w.heap.size 36 2 o (lfK f c l k).length (flat csFa (lfK f c l k)) ∧ Below w.heap.size w wr) (fun _ _ _ _ _ _ i _ => l.length - (intOf i).toNat)
  case atStart => exact ⟨0, Nat.zero_le _, rfl, own0, b0⟩
  case round =>
    obtain ⟨k, hk, rfl, hown, hb⟩ := hrel
    clear own0 b0
    by_cases hlt : k < l.length
    · obtain ⟨b, off, rfl, hlb, hcl⟩ := (h.below hb) (by omega)
      have hck := hcl k hlt
      have HCL := Lib.hid hcl
      have hcX := hc.below hb
      have hkl : (k : Int) < (l.length : Int) := by omega
      have hk0 : (0 : Int) ≤ (k : Int) := by omega
      have hL20 := lfK_len f c l k
      clear hcl
      obtain ⟨p, hp⟩ : ∃ p, atPi l k = p := ⟨_, rfl⟩
      obtain ⟨x, hx⟩ : ∃ x, atPi c k = x := ⟨_, rfl⟩
      obtain ⟨la, hla⟩ : ∃ la, ((k : Int) == (c.length : Int) - 1) = la := ⟨_, rfl⟩
      obtain ⟨t1, ht1⟩ : ∃ t1, tnF f c l k = t1 := ⟨_, rfl⟩
      obtain ⟨L, hLe⟩ : ∃ L, lfK f c l k = L := ⟨_, rfl⟩
      rw [hp] at hck
      rw [hLe] at hown hL20
      have hLn : L.length ≤ 20 := by omega
      have HP := Lib.hid hp
      have HX := Lib.hid hx
      have HLA := Lib.hid hla
      have HT1 := Lib.hid ht1
      have HLE := Lib.hid hLe
      clear hp hx hla ht1 hLe
      clear hL20
      obtain ⟨p0, p1, p2⟩ := hck
      have hownX := hown.alloc (.cells #[.int .i64 p.step, .int .i64 p.alter, .int .i64 p.octave] 30)
      have bX : Blk (wr.alloc (.cells #[.int .i64 p.step, .int .i64 p.alter, .int .i64 p.octave] 30)) wr.heap.size #[.int .i64 p.step, .int .i64 p.alter, .int .i64 p.octave] 30 := Blk.new wr _ _
      have hbl := bel_al (bel_refl wr) (.cells #[.int .i64 p.step, .int .i64 p.alter, .int .i64 p.octave] 30)
      replace hcX := hcX.below hbl
      have hbX := bel_tr hb hbl
      have hwr := bel_al (bel_refl wr) (.cells #[.int .i64 p.step, .int .i64 p.alter, .int .i64 p.octave] 30)
      go_upto_region 7 with fail
      clear p0 p1 p2 hown hbl
      generalize (wr.alloc (.cells #[.int .i64 p.step, .int .i64 p.alter, .int .i64 p.octave] 30)) = v at *
      generalize wr.heap.size = X at *
      have m0 : v.cell? ⟨X, 0, none⟩ = some (.int .i64 p.step) := by rw [Blk.cell bX]; rfl
      have m1 : v.cell? ⟨X, 1, none⟩ = some (.int .i64 p.alter) := by rw [Blk.cell bX]; rfl
      have m2 : v.cell? ⟨X, 2, none⟩ = some (.int .i64 p.octave) := by rw [Blk.cell bX]; rfl
      go_wp2_with fail
      refine (ta_any f A c.length c1 c k p.step p.alter p.octave la _ (by have := HLEN.out; omega) rfl hm HLA.out hcX).mono ?_
      rintro e3 w3 ⟨rfl, b3⟩
      rw [HX.out]
      replace hownX := own_below hownX b3
      replace hcX := hcX.below b3
      replace hbX := bel_tr hbX b3
      clear b3 m0 m1 m2 bX
      go_upto_region 8 with fail
      have bQ : Blk (w3.alloc (.cells #[.int .i64 f, .int .i64 k, .bool la, .int .i64 x.step, .int .i64 x.alter, .int .i64 x.octave, .int .i64 p.step, .int .i64 p.alter, .int .i64 p.octave] 47)) w3.heap.size #[.int .i64 f, .int .i64 k, .bool la, .int .i64 x.step, .int .i64 x.alter, .int .i64 x.octave, .int .i64 p.step, .int .i64 p.alter, .int .i64 p.octave] 47 := Blk.new w3 _ _
      have hbl := bel_al (bel_refl w3) (.cells #[.int .i64 f, .int .i64 k, .bool la, .int .i64 x.step, .int .i64 x.alter, .int .i64 x.octave, .int .i64 p.step, .int .i64 p.alter, .int .i64 p.octave] 47)
      replace hownX := own_below hownX hbl
      replace hcX := hcX.below hbl
      replace hbX := bel_tr hbX hbl
      clear hbl
      generalize (w3.alloc (.cells #[.int .i64 f, .int .i64 k, .bool la, .int .i64 x.step, .int .i64 x.alter, .int .i64 x.octave, .int .i64 p.step, .int .i64 p.alter, .int .i64 p.octave] 47)) = w4 at *
      generalize w3.heap.size = Q at *
      have q0 : w4.cell? ⟨Q, 0, none⟩ = some (.int .i64 f) := by rw [Blk.cell bQ]; rfl
      have q1 : w4.cell? ⟨Q, 1, none⟩ = some (.int .i64 k) := by rw [Blk.cell bQ]; rfl
      have q2 : w4.cell? ⟨Q, 2, none⟩ = some (.bool la) := by rw [Blk.cell bQ]; rfl
      have q3 : w4.cell? ⟨Q, 3, none⟩ = some (.int .i64 x.step) := by rw [Blk.cell bQ]; rfl
      have q4 : w4.cell? ⟨Q, 4, none⟩ = some (.int .i64 x.alter) := by rw [Blk.cell bQ]; rfl
      have q5 : w4.cell? ⟨Q, 5, none⟩ = some (.int .i64 x.octave) := by rw [Blk.cell bQ]; rfl
      have q6 : w4.cell? ⟨Q, 6, none⟩ = some (.int .i64 p.step) := by rw [Blk.cell bQ]; rfl
      have q7 : w4.cell? ⟨Q, 7, none⟩ = some (.int .i64 p.alter) := by rw [Blk.cell bQ]; rfl
      have q8 : w4.cell? ⟨Q, 8, none⟩ = some (.int .i64 p.octave) := by rw [Blk.cell bQ]; rfl
      go_wp2_with fail
      refine (tf_any f k la x.step x.alter x.octave p.step p.alter p.octave (kyP x) (kyP p) (ikT f p) ((k : Int) == 0) rfl rfl rfl rfl _).mono ?_
      rintro e5 w5 ⟨rfl, b5⟩
      have ht : tnK (ikT f p) (kyP x) (kyP p) ((k : Int) == 0) la = t1 := by rw [← HT1.out]; unfold tnF; rw [HP.out, HX.out, HLA.out]
      rw [ht]
      clear ht
      replace bQ := bQ.below b5
      replace hownX := own_below hownX b5
      replace hcX := hcX.below b5
      replace hbX := bel_tr hbX b5
      clear b5 q0 q1 q2 q3 q4 q5 q6 q7 q8 hwr
      go_upto_if 42 with fail
      go_cut [7] (fun o wx => wx.ownsRow w.heap.size 36 2 o (L ++ oneF k t1).length (flat csFa (L ++ oneF k t1)) ∧ Blk wx Q #[.int .i64 f, .int .i64 k, .bool la, .int .i64 x.step, .int .i64 x.alter, .int .i64 x.octave, .int .i64 p.step, .int .i64 p.alter, .int .i64 p.octave] 47 ∧ Below w.heap.size w wx ∧ RowPi wx wx.heap.size A c)
      case first =>
        by_cases hz : t1 = 0
        · subst hz
          go_wp2
          go_meet
          exact ⟨by rw [oneF_z, List.append_nil]; exact hownX, bQ, hbX, hcX⟩
        · have hzb : (t1 != 0) = true := by simpa using hz
          have HZ := Lib.hid hz
          clear hz
          have hs5 := hbX.size
          go_wp2_with (at_builtin; go_must (refine wpList_append_lies _ rfl _ _ 32 rfl w.heap.size 36 i0 _ 2 16 Try.underlying32 hi0 hz0 hz1 hz2 rfl (by omega) _ L.length (flat csFa L) rfl (hownX.alloc _) ⟨w5.heap.size, 0, none⟩ 1 1 [.int .i64 k, .int .i64 t1] rfl rfl (World.news_of_block (cs := #[.int .i64 k, .int .i64 t1]) (t := 36) (fr := (0, 0)) (heap_alloc_new w5 _)) (by simp [Value.oneCell']) (by omega) (by unfold maxLen; omega) (by omega) (by simp; omega) _ rfl ?_; intro gg9 cp9 w9 hown9 hgrow9 hat9 hlt9))
          have hbZ : Below w.heap.size w w9 := bel_grown (bel_al hbX (.cells #[.int .i64 k, .int .i64 t1] 36)) hgrow9 (fun k hk => by have := own_ge hownX k hk; omega)
          have hqq := own_push (t := (⟨k, t1⟩ : Fa)) hown9 rfl
          have bQ9 : Blk w9 Q #[.int .i64 f, .int .i64 k, .bool la, .int .i64 x.step, .int .i64 x.alter, .int .i64 x.octave, .int .i64 p.step, .int .i64 p.alter, .int .i64 p.octave] 47 := (bQ.alloc _).grown hgrow9 (own_ne hownX bQ (by decide))
          have hc9 := (hc.below hbZ)
          go_wp2
          go_meet
          exact ⟨by rw [oneF_n HZ.out]; exact hqq, bQ9, hbZ, hc9⟩
      case rest =>
        obtain ⟨hown1, bQ, hbX, hcX⟩ := hcut
        clear hownX
        obtain ⟨M, hM⟩ : ∃ M, (L ++ oneF k t1) = M := ⟨_, rfl⟩
        rw [hM] at hown1
        have hM20 : M.length ≤ 21 := by rw [← hM, List.length_append]; have := oneF_len k t1; omega
        have HM := Lib.hid hM
        clear hM
        cases hkz : ((k : Int) == 0)
        · have hk1 : ¬ (k : Int) = 0 := of_decide_eq_false hkz
          obtain ⟨j, hj⟩ : ∃ j : Nat, k = j + 1 := ⟨k - 1, by omega⟩
          have hkj : (k : Int) - 1 = (j : Int) := by omega
          have hjl : j < l.length := by omega
          have hj0 : (0 : Int) ≤ (j : Int) := by omega
          have hj1 : (j : Int) < (l.length : Int) := by omega
          have hcj := (h.below hbX)
          obtain ⟨b', off', e', hlb', hcl'⟩ := hcj (by omega)
          cases e'
          have hcj := hcl' j hjl
          clear hcl'
          obtain ⟨r, hr⟩ : ∃ r, atPi l j = r := ⟨_, rfl⟩
          obtain ⟨y, hy⟩ : ∃ y, atPi c j = y := ⟨_, rfl⟩
          obtain ⟨lb, hlb2⟩ : ∃ lb, ((j : Int) == (c.length : Int) - 1) = lb := ⟨_, rfl⟩
          obtain ⟨t2, ht2⟩ : ∃ t2, sdF c l k = t2 := ⟨_, rfl⟩
          rw [hr] at hcj
          have HJ := Lib.hid hj
          have HR := Lib.hid hr
          have HY := Lib.hid hy
          have HLB := Lib.hid hlb2
          have HT2 := Lib.hid ht2
          clear hr hy hlb2 ht2
          clear hj
          obtain ⟨r0, r1, r2⟩ := hcj
          have q0 : wc.cell? ⟨Q, 0, none⟩ = some (.int .i64 f) := by rw [Blk.cell bQ]; rfl
          have q1 : wc.cell? ⟨Q, 1, none⟩ = some (.int .i64 k) := by rw [Blk.cell bQ]; rfl
          have q2 : wc.cell? ⟨Q, 2, none⟩ = some (.bool la) := by rw [Blk.cell bQ]; rfl
          have q3 : wc.cell? ⟨Q, 3, none⟩ = some (.int .i64 x.step) := by rw [Blk.cell bQ]; rfl
          have q4 : wc.cell? ⟨Q, 4, none⟩ = some (.int .i64 x.alter) := by rw [Blk.cell bQ]; rfl
          have q5 : wc.cell? ⟨Q, 5, none⟩ = some (.int .i64 x.octave) := by rw [Blk.cell bQ]; rfl
          have q6 : wc.cell? ⟨Q, 6, none⟩ = some (.int .i64 p.step) := by rw [Blk.cell bQ]; rfl
          have q7 : wc.cell? ⟨Q, 7, none⟩ = some (.int .i64 p.alter) := by rw [Blk.cell bQ]; rfl
          have q8 : wc.cell? ⟨Q, 8, none⟩ = some (.int .i64 p.octave) := by rw [Blk.cell bQ]; rfl
          have LA : ∀ xL : Later wc, Calls Try.prog 24 #[.int .i64 f, .slice A c.length c1, .int .i64 j, .agg #[.int .i64 r.step, .int .i64 r.alter, .int .i64 r.octave]] xL.world fun e w'' => e = .returned (.agg #[.int .i64 f, .int .i64 j, .bool lb, .int .i64 y.step, .int .i64 y.alter, .int .i64 y.octave, .int .i64 r.step, .int .i64 r.alter, .int .i64 r.octave]) ∧ ∃ z : Later wc, w'' = z.world := fun xL => later_call (by have h := ta_any f A c.length c1 c j r.step r.alter r.octave lb xL.world (by have := HLEN.out; omega) rfl hm HLB.out (hcX.below xL.bel); rw [HY.out] at h; exact h)
          have LB : ∀ xL : Later wc, Calls Try.prog 26 #[.agg #[.int .i64 f, .int .i64 j, .bool lb, .int .i64 y.step, .int .i64 y.alter, .int .i64 y.octave, .int .i64 r.step, .int .i64 r.alter, .int .i64 r.octave], .agg #[.int .i64 f, .int .i64 k, .bool la, .int .i64 x.step, .int .i64 x.alter, .int .i64 x.octave, .int .i64 p.step, .int .i64 p.alter, .int .i64 p.octave]] xL.world fun e w'' => e = .returned (.int .i64 t2) ∧ ∃ z : Later wc, w'' = z.world := fun xL => later_call (by have h := sf_any f j lb y.step y.alter y.octave r.step r.alter r.octave f k la x.step x.alter x.octave p.step p.alter p.octave (kyP y) (kyP r) (kyP x) (kyP p) rfl rfl rfl rfl xL.world; rw [show stK (kyP y) (kyP r) (kyP x) (kyP p) = t2 from by rw [← HT2.out, HJ.out, sdF_s, HY.out, HR.out, ← HJ.out, HX.out, HP.out]] at h; exact h)
          go_upto_region 12 with fail
          have lf0 : ∀ xL : Later wc, xL.world.cell? ⟨b, off + j * 3, none⟩ = some (.int .i64 r.step) := fun xL => xL.at (r0)
          have lf1 : ∀ xL : Later wc, xL.world.cell? ⟨b, off + j * 3 + 1, none⟩ = some (.int .i64 r.alter) := fun xL => xL.at (r1)
          have lf2 : ∀ xL : Later wc, xL.world.cell? ⟨b, off + j * 3 + 2, none⟩ = some (.int .i64 r.octave) := fun xL => xL.at (r2)
          have lf3 : ∀ xL : Later wc, xL.world.cell? ⟨Q, 0, none⟩ = some (.int .i64 f) := fun xL => xL.at (q0)
          have lf4 : ∀ xL : Later wc, xL.world.cell? ⟨Q, 1, none⟩ = some (.int .i64 k) := fun xL => xL.at (q1)
          have lf5 : ∀ xL : Later wc, xL.world.cell? ⟨Q, 2, none⟩ = some (.bool la) := fun xL => xL.at (q2)
          have lf6 : ∀ xL : Later wc, xL.world.cell? ⟨Q, 3, none⟩ = some (.int .i64 x.step) := fun xL => xL.at (q3)
          have lf7 : ∀ xL : Later wc, xL.world.cell? ⟨Q, 4, none⟩ = some (.int .i64 x.alter) := fun xL => xL.at (q4)
          have lf8 : ∀ xL : Later wc, xL.world.cell? ⟨Q, 5, none⟩ = some (.int .i64 x.octave) := fun xL => xL.at (q5)
          have lf9 : ∀ xL : Later wc, xL.world.cell? ⟨Q, 6, none⟩ = some (.int .i64 p.step) := fun xL => xL.at (q6)
          have lf10 : ∀ xL : Later wc, xL.world.cell? ⟨Q, 7, none⟩ = some (.int .i64 p.alter) := fun xL => xL.at (q7)
          have lf11 : ∀ xL : Later wc, xL.world.cell? ⟨Q, 8, none⟩ = some (.int .i64 p.octave) := fun xL => xL.at (q8)
          refine region_later (w0 := wc) (by kernel_rfl) (by kernel_rfl) (bel_refl _) ?_
          repeat (go_big_quiet_step ((first | (go_at_call 24; with_reducible exact LA _) | (go_at_call 26; with_reducible exact LB _))))
          refine wpQuiet_nil ?_
          rintro w' ⟨x, rfl⟩
          obtain ⟨w7, b7⟩ := x
          clear lf0 lf1 lf2 lf3 lf4 lf5 lf6 lf7 lf8 lf9 lf10 lf11
          clear LA LB q0 q1 q2 q3 q4 q5 q6 q7 q8
          replace hown1 := own_below hown1 b7
          replace hbX := bel_tr hbX b7
          clear r0 r1 r2 bQ hcX hkj
          by_cases hz2 : t2 = 0
          · subst hz2
            go_wp2
            go_roundw
            case rel => exact ⟨k + 1, by omega, by go_num, by rw [show lfK f c l (k + 1) = M from by rw [lfK, HT1.out, HLE.out, HM.out, HT2.out, oneF_z, List.append_nil]]; exact hown1, hbX⟩
            case measure => simp [intOf]; omega
          · have hzb : (t2 != 0) = true := by simpa using hz2
            have HZ2 := Lib.hid hz2
            clear hz2
            have hs7 := hbX.size
            go_wp2_with (at_builtin; go_must (refine wpList_append_lies _ rfl _ _ 32 rfl w.heap.size 36 i0 _ 2 16 Try.underlying32 hi0 hz0 hz1 hz2 rfl (by omega) _ M.length (flat csFa M) rfl (hown1.alloc _) ⟨w7.heap.size, 0, none⟩ 1 1 [.int .i64 k, .int .i64 t2] rfl rfl (World.news_of_block (cs := #[.int .i64 k, .int .i64 t2]) (t := 36) (fr := (0, 0)) (heap_alloc_new w7 _)) (by simp [Value.oneCell']) (by omega) (by unfold maxLen; omega) (by omega) (by simp; omega) _ rfl ?_; intro gg9 cp9 w9 hown9 hgrow9 hat9 hlt9))
            have hbZ : Below w.heap.size w w9 := bel_grown (bel_al hbX (.cells #[.int .i64 k, .int .i64 t2] 36)) hgrow9 (fun k hk => by have := own_ge hown1 k hk; omega)
            have hqq := own_push (t := (⟨k, t2⟩ : Fa)) hown9 rfl
            go_wp2
            go_roundw
            case rel => exact ⟨k + 1, by omega, by go_num, by rw [show lfK f c l (k + 1) = M ++ [⟨k, t2⟩] from by rw [lfK, HT1.out, HLE.out, HM.out, HT2.out, oneF_n HZ2.out]]; exact hqq, hbZ⟩
            case measure => simp [intOf]; omega
        · have hk00 : k = 0 := by have h := of_decide_eq_true hkz; omega
          have HK0 := Lib.hid hk00
          clear hk00
          go_wp2
          go_roundw
          case rel => exact ⟨k + 1, by omega, by go_num, by rw [show lfK f c l (k + 1) = M from by rw [lfK, HT1.out, HLE.out, HM.out, HK0.out, sdF_z, oneF_z, List.append_nil]]; exact hown1, hbX⟩
          case measure => simp [intOf]; omega
    · have hkl : k = l.length := by omega
      have hnl : ¬ (k : Int) < (l.length : Int) := by omega
      have hlc := HLEN.out
      subst hkl
      go_wp2
      go_ret
      exact ⟨_, rfl, by rw [HL.out, ← hlc]; exact hown, hb⟩
end Go.Proofs.Ytdmidimjbhkjoaa
