/- The faults of a line: the reference. -/
import Derived.Test.YtdmidimjbhkjoaaLfP
import Derived.Deep.AppendLies
import Derived.Deep.DeepCutAuto
namespace Go.Proofs.Ytdmidimjbhkjoaa
set_option linter.unusedSimpArgs false
set_option linter.unusedVariables false
open Go.RowKit

set_option maxRecDepth 20000 in
set_option maxHeartbeats 8000000 in
theorem slf_any (f : Int) (c l : List Pi) (A : Option Addr) (n c1 : Nat) (A' : Option Addr) (n' c2 : Nat) (w : World) (hn : c.length = n) (hm : n ≤ 2000000) (hn' : l.length = n') (hm' : n' ≤ 2000000) (hc : RowPi w w.heap.size A c) (h : RowPi w w.heap.size A' l) :
    Calls Try.prog 13 #[.int .i64 f, .slice A n c1, .slice A' n' c2] w (Lf w (lfL f c l)) := by
  subst hn hn'
  obtain ⟨i0, hi0, hz0, hz1, hz2⟩ := info_parts infoFa
  have own0 : (w.alloc (.cells #[] 36)).ownsRow w.heap.size 36 2 (.slice (some ⟨w.heap.size, 0, none⟩) 0 0) ([] : List Fa).length (flat csFa []) := World.ownsRow_lit w #[] 0 (Nat.le_refl _) (by simp [maxLen]) rfl
  have b0 : Below w.heap.size w (w.alloc (.cells #[] 36)) := bel_al (bel_refl w) _
  have hcX := hc.below b0
  have hX := h.below b0
  have hwz : w.heap.size < (w.alloc (.cells #[] 36)).heap.size := by simp
  cases hcv : cvB f c
  · have HL := Lib.hid (lfL_no (f := f) (c := c) (l := l) (by unfold lfB; rw [hcv]; rfl))
    have HC := Lib.hid hcv
    clear hcv
    go_enter Try.func13, Try.ntmps13
    go_wp2_with fail
    generalize (w.alloc (.cells #[] 36)) = w0 at *
    refine (scv_val HC.out _ _ _ _ rfl hm hcX).mono ?_
    rintro e1 w1 ⟨rfl, b1⟩
    have own0 := own_below own0 b1
    go_wp2
    go_ret
    exact ⟨_, rfl, by rw [HL.out]; exact own0, bel_tr b0 b1⟩
  by_cases hlen : l.length = c.length
  case neg =>
    have HL := Lib.hid (lfL_no (f := f) (c := c) (l := l) (by unfold lfB; rw [apB_no (by omega), Bool.and_false]))
    have HC := Lib.hid hcv
    have hne : ((l.length : Int) != (c.length : Int)) = true := by simp only [bne_iff_ne, ne_eq]; omega
    clear hcv
    go_enter Try.func13, Try.ntmps13
    go_wp2_with fail
    generalize (w.alloc (.cells #[] 36)) = w0 at *
    refine (scv_val HC.out _ _ _ _ rfl hm hcX).mono ?_
    rintro e1 w1 ⟨rfl, b1⟩
    have own0 := own_below own0 b1
    go_wp2
    go_ret
    exact ⟨_, rfl, by rw [HL.out]; exact own0, bel_tr b0 b1⟩
  case pos =>
  have hne : ((l.length : Int) != (c.length : Int)) = false := by simp only [bne_eq_false_iff_eq]; omega
  obtain ⟨n2, n10⟩ := (cvB_of hcv).2.1
  have hl10 : l.length ≤ 10 := by omega
  have HCP : Hid (∀ k, k < c.length → pvP (atPi c k)) := fun k hk => ikP_pv ((cvB_of hcv).2.2 k hk)
  have HC := Lib.hid hcv
  have HLEN := Lib.hid hlen
  clear hcv hlen
  go_enter Try.func13, Try.ntmps13
  go_wp2_with fail
  generalize (w.alloc (.cells #[] 36)) = w0 at *
  refine (scv_val HC.out _ _ _ _ rfl hm hcX).mono ?_
  rintro e1 w1 ⟨rfl, b1⟩
  replace own0 := own_below own0 b1
  replace b0 := bel_tr b0 b1
  replace hwz : w.heap.size < w1.heap.size := by have := b1.size; omega
  clear hcX hX b1
  go_wp2
  go_loopw [8] (fun i wr => ∃ k : Nat, k ≤ l.length ∧ i = .int .i64 k ∧ wr.ownsRow w.heap.size 36 2 (.slice (some ⟨w.heap.size, 0, none⟩) 0 0) ([] : List Fa).length (flat csFa []) ∧ Below w.heap.size w wr ∧ Hid (∀ j, j < k → pvP (atPi l j))) (fun i _ => l.length - (intOf i).toNat)
  case atStart => exact ⟨0, Nat.zero_le _, rfl, own0, b0, fun _ h => absurd h (Nat.not_lt_zero _)⟩
  case round =>
    obtain ⟨k, hk, rfl, hown, hb, HV⟩ := hrel
    clear own0 b0 hwz
    by_cases hlt : k < l.length
    · obtain ⟨b, off, rfl, hlb, hcl⟩ := (h.below hb) (by omega)
      have hck := hcl k hlt
      have hkl : (k : Int) < (l.length : Int) := by omega
      have hk0 : (0 : Int) ≤ (k : Int) := by omega
      clear hcl
      by_cases hv : pvP (atPi l k)
      · have HB : Hid (pvP (atPi l k)) := hv
        unfold pvP at hv
        generalize atPi l k = t at hck hv
        obtain ⟨p0, p1, p2⟩ := hck
        obtain ⟨s, a, o⟩ := t
        simp only at p0 p1 p2 hv
        have HP := Lib.hid (hv)
        clear hv
        go_wp2_with (go_at_call 18; refine (spv_val HP.out _).mono ?_; rintro e1 w1 ⟨rfl, b1⟩; replace hown := own_below hown b1; have hb1 := bel_tr hb b1)
        go_roundw
        case rel => exact ⟨k + 1, by omega, by go_num, hown, hb1, hid_snoc HV HB⟩
        case measure => simp [intOf]; omega
      · have HB : Hid (¬ pvP (atPi l k)) := hv
        unfold pvP at hv
        generalize atPi l k = t at hck hv
        obtain ⟨p0, p1, p2⟩ := hck
        obtain ⟨s, a, o⟩ := t
        simp only at p0 p1 p2 hv
        have HP := Lib.hid (Bool.eq_false_iff.2 hv)
        clear hv
        go_wp2_with (go_at_call 18; refine (spv_val HP.out _).mono ?_; rintro e1 w1 ⟨rfl, b1⟩; replace hown := own_below hown b1; have hb1 := bel_tr hb b1)
        have own9 := World.ownsRow_lit (base := w.heap.size) (e := 36) (size := 2) w1 #[] 0 (by have := hb1.size; omega) (by simp [maxLen]) rfl
        go_ret
        exact ⟨_, rfl, by rw [lfL_no (by unfold lfB; rw [apB_bad k hlt HB, Bool.and_false])]; exact own9, bel_al hb1 _⟩
    · have hkl : k = l.length := by omega
      have hnl : ¬ (k : Int) < (l.length : Int) := by omega
      have hL := (lfB_facts (f := f) (c := c) (l := l) HC.out (apB_yes (by have := HLEN.out; omega) (fun j hj => HV j (by omega)))).2.2.2.2
      have HLP : Hid (∀ k, k < l.length → pvP (atPi l k)) := fun j hj => HV j (by omega)
      have HL := Lib.hid hL
      have own0 := hown
      have b0 := hb
      have hk0 := Lib.hid hkl
      clear hL HV hown hb
      subst hkl
      go_wp2
      go_loopw [7, 9, 10, 11] (fun o i _ _ wr => ∃ k : Nat, k ≤ l.length ∧ i = .int .i64 k ∧ wr.ownsRow w.heap.size 36 2 o (lfK f c l k).length (flat csFa (lfK f c l k)) ∧ Below w.heap.size w wr) (fun _ i _ _ _ => l.length - (intOf i).toNat)
      case atStart => exact ⟨0, Nat.zero_le _, rfl, own0, b0⟩
      case round =>
        obtain ⟨k, hk, rfl, hown, hb⟩ := hrel
        clear own0 b0 hk0 hnl
        by_cases hlt : k < l.length
        · obtain ⟨b, off, rfl, hlb, hcl⟩ := (h.below hb) (by omega)
          obtain ⟨cb, coff, rfl, hclb, hccl⟩ := (hc.below hb) (by omega)
          have hck := hcl k hlt
          have hcc := hccl k (by have := HLEN.out; omega)
          have hkl : (k : Int) < (l.length : Int) := by omega
          have hkc : (k : Int) < (c.length : Int) := by have := HLEN.out; omega
          have hk0 : (0 : Int) ≤ (k : Int) := by omega
          have hL20 := lfK_len f c l k
          clear hcl hccl
          obtain ⟨p, hp⟩ : ∃ p, atPi l k = p := ⟨_, rfl⟩
          obtain ⟨x, hx⟩ : ∃ x, atPi c k = x := ⟨_, rfl⟩
          obtain ⟨t1, ht1⟩ : ∃ t1, tnF f c l k = t1 := ⟨_, rfl⟩
          obtain ⟨L, hLe⟩ : ∃ L, lfK f c l k = L := ⟨_, rfl⟩
          rw [hp] at hck
          rw [hx] at hcc
          rw [hLe] at hown hL20
          have hLn : L.length ≤ 20 := by omega
          have HP := Lib.hid hp
          have HX := Lib.hid hx
          have HT1 := Lib.hid ht1
          have HLE := Lib.hid hLe
          clear hp hx ht1 hLe
          clear hL20
          obtain ⟨p0, p1, p2⟩ := hck
          obtain ⟨x0, x1, x2⟩ := hcc
          have LA : ∀ xL : Later wr, Calls Try.prog 27 #[.int .i64 f, .agg #[.int .i64 x.step, .int .i64 x.alter, .int .i64 x.octave], .agg #[.int .i64 p.step, .int .i64 p.alter, .int .i64 p.octave], .int .i64 k, .int .i64 l.length] xL.world fun e w'' => e = .returned (.int .i64 t1) ∧ ∃ z : Later wr, w'' = z.world := fun xL => later_call (by have h := so_any f k l.length x.step x.alter x.octave p.step p.alter p.octave (kyP x) (kyP p) (ikT f p) ((k : Int) == 0) ((k : Int) == (c.length : Int) - 1) rfl rfl rfl rfl (by rw [show (l.length : Int) = c.length from by have := HLEN.out; omega]) (by omega) xL.world; rw [show tnK (ikT f p) (kyP x) (kyP p) ((k : Int) == 0) ((k : Int) == (c.length : Int) - 1) = t1 from by rw [← HT1.out]; unfold tnF; rw [HP.out, HX.out]] at h; exact h)
          go_upto_region 12 with fail
          have lf0 : ∀ xL : Later wr, xL.world.cell? ⟨cb, coff + k * 3, none⟩ = some (.int .i64 x.step) := fun xL => xL.at (x0)
          have lf1 : ∀ xL : Later wr, xL.world.cell? ⟨cb, coff + k * 3 + 1, none⟩ = some (.int .i64 x.alter) := fun xL => xL.at (x1)
          have lf2 : ∀ xL : Later wr, xL.world.cell? ⟨cb, coff + k * 3 + 2, none⟩ = some (.int .i64 x.octave) := fun xL => xL.at (x2)
          have lf3 : ∀ xL : Later wr, xL.world.cell? ⟨b, off + k * 3, none⟩ = some (.int .i64 p.step) := fun xL => xL.at (p0)
          have lf4 : ∀ xL : Later wr, xL.world.cell? ⟨b, off + k * 3 + 1, none⟩ = some (.int .i64 p.alter) := fun xL => xL.at (p1)
          have lf5 : ∀ xL : Later wr, xL.world.cell? ⟨b, off + k * 3 + 2, none⟩ = some (.int .i64 p.octave) := fun xL => xL.at (p2)
          refine region_later (w0 := wr) (by kernel_rfl) (by kernel_rfl) (bel_refl _) ?_
          repeat (go_big_quiet_step (((go_at_call 27; with_reducible exact LA _))))
          refine wpQuiet_nil ?_
          rintro w' ⟨x, rfl⟩
          obtain ⟨w5, b5⟩ := x
          clear lf0 lf1 lf2 lf3 lf4 lf5
          clear LA
          have hownX := own_below hown b5
          have hbX := bel_tr hb b5
          clear hown
          go_upto_if 58 with fail
          go_cut [7] (fun o wx => wx.ownsRow w.heap.size 36 2 o (L ++ oneF k t1).length (flat csFa (L ++ oneF k t1)) ∧ Below w.heap.size w wx)
          case first =>
            by_cases hz : t1 = 0
            · subst hz
              go_wp2
              go_meet
              exact ⟨by rw [oneF_z, List.append_nil]; exact hownX, hbX⟩
            · have hzb : (t1 != 0) = true := by simpa using hz
              have HZ := Lib.hid hz
              clear hz
              have hs5 := hbX.size
              go_wp2_with (at_builtin; go_must (refine wpList_append_lies _ rfl _ _ 32 rfl w.heap.size 36 i0 _ 2 16 Try.underlying32 hi0 hz0 hz1 hz2 rfl (by omega) _ L.length (flat csFa L) rfl (hownX.alloc _) ⟨w5.heap.size, 0, none⟩ 1 1 [.int .i64 k, .int .i64 t1] rfl rfl (World.news_of_block (cs := #[.int .i64 k, .int .i64 t1]) (t := 36) (fr := (0, 0)) (heap_alloc_new w5 _)) (by simp [Value.oneCell']) (by omega) (by unfold maxLen; omega) (by omega) (by simp; omega) _ rfl ?_; intro gg9 cp9 w9 hown9 hgrow9 hat9 hlt9))
              have hbZ : Below w.heap.size w w9 := bel_grown (bel_al hbX (.cells #[.int .i64 k, .int .i64 t1] 36)) hgrow9 (fun k hk => by have := own_ge hownX k hk; omega)
              have hqq := own_push (t := (⟨k, t1⟩ : Fa)) hown9 rfl
              go_wp2
              go_meet
              exact ⟨by rw [oneF_n HZ.out]; exact hqq, hbZ⟩
          case rest =>
            obtain ⟨hown1, hbX⟩ := hcut
            clear hownX x0 x1 x2 p0 p1 p2
            obtain ⟨M, hM⟩ : ∃ M, (L ++ oneF k t1) = M := ⟨_, rfl⟩
            rw [hM] at hown1
            have hM20 : M.length ≤ 21 := by rw [← hM, List.length_append]; have := oneF_len k t1; omega
            have HM := Lib.hid hM
            clear hM
            by_cases hkz : k = 0
            · have HK0 := Lib.hid hkz
              have hg0 : ¬ (0 : Int) < (k : Int) := by omega
              clear hkz
              go_wp2
              go_roundw
              case rel => exact ⟨k + 1, by omega, by go_num, by rw [show lfK f c l (k + 1) = M from by rw [lfK, HT1.out, HLE.out, HM.out, HK0.out, sdF_z, oneF_z, List.append_nil]]; exact hown1, hbX⟩
              case measure => simp [intOf]; omega
            · obtain ⟨j, hj⟩ : ∃ j : Nat, k = j + 1 := ⟨k - 1, by omega⟩
              have hg0 : (0 : Int) < (k : Int) := by omega
              have hkj : (k : Int) - 1 = (j : Int) := by omega
              have hjl : j < l.length := by omega
              have hj0 : (0 : Int) ≤ (j : Int) := by omega
              have hj1 : (j : Int) < (l.length : Int) := by omega
              have hj2 : (j : Int) < (c.length : Int) := by omega
              obtain ⟨b', off', e', hlb', hcl'⟩ := (h.below hbX) (by omega)
              cases e'
              obtain ⟨b', off', e', hlc', hccl'⟩ := (hc.below hbX) (by omega)
              cases e'
              have hck := hcl' k hlt
              have hcj := hcl' j hjl
              have hcc := hccl' k (by omega)
              have hcd := hccl' j (by omega)
              clear hcl' hccl'
              have hpj : -2 ≤ kyP (atPi l j) := kyP_pv (HLP.out j hjl)
              have hyj : -2 ≤ kyP (atPi c j) := kyP_pv (HCP.out j (by omega))
              obtain ⟨r, hr⟩ : ∃ r, atPi l j = r := ⟨_, rfl⟩
              obtain ⟨y, hy⟩ : ∃ y, atPi c j = y := ⟨_, rfl⟩
              obtain ⟨t2, ht2⟩ : ∃ t2, sdF c l k = t2 := ⟨_, rfl⟩
              rw [hr] at hcj hpj
              rw [hy] at hcd hyj
              rw [HP.out] at hck
              rw [HX.out] at hcc
              have HJ := Lib.hid hj
              have HR := Lib.hid hr
              have HY := Lib.hid hy
              have HT2 := Lib.hid ht2
              clear hr hy ht2
              clear hj hkz
              obtain ⟨r0, r1, r2⟩ := hcj
              obtain ⟨y0, y1, y2⟩ := hcd
              obtain ⟨p0, p1, p2⟩ := hck
              obtain ⟨x0, x1, x2⟩ := hcc
              have LB : ∀ xL : Later wc, Calls Try.prog 28 #[.agg #[.int .i64 y.step, .int .i64 y.alter, .int .i64 y.octave], .agg #[.int .i64 r.step, .int .i64 r.alter, .int .i64 r.octave], .agg #[.int .i64 x.step, .int .i64 x.alter, .int .i64 x.octave], .agg #[.int .i64 p.step, .int .i64 p.alter, .int .i64 p.octave]] xL.world fun e w'' => e = .returned (.int .i64 t2) ∧ ∃ z : Later wc, w'' = z.world := fun xL => later_call (by have h := st_any y.step y.alter y.octave r.step r.alter r.octave x.step x.alter x.octave p.step p.alter p.octave (kyP y) (kyP r) (kyP x) (kyP p) rfl rfl rfl rfl hyj hpj xL.world; rw [show stK (kyP y) (kyP r) (kyP x) (kyP p) = t2 from by rw [← HT2.out, HJ.out, sdF_s, HY.out, HR.out, ← HJ.out, HX.out, HP.out]] at h; exact h)
              go_upto_region 16 with fail
              have lf0 : ∀ xL : Later wc, xL.world.cell? ⟨cb, coff + j * 3, none⟩ = some (.int .i64 y.step) := fun xL => xL.at (y0)
              have lf1 : ∀ xL : Later wc, xL.world.cell? ⟨cb, coff + j * 3 + 1, none⟩ = some (.int .i64 y.alter) := fun xL => xL.at (y1)
              have lf2 : ∀ xL : Later wc, xL.world.cell? ⟨cb, coff + j * 3 + 2, none⟩ = some (.int .i64 y.octave) := fun xL => xL.at (y2)
              have lf3 : ∀ xL : Later wc, xL.world.cell? ⟨b, off + j * 3, none⟩ = some (.int .i64 r.step) := fun xL => xL.at (r0)
              have lf4 : ∀ xL : Later wc, xL.world.cell? ⟨b, off + j * 3 + 1, none⟩ = some (.int .i64 r.alter) := fun xL => xL.at (r1)
              have lf5 : ∀ xL : Later wc, xL.world.cell? ⟨b, off + j * 3 + 2, none⟩ = some (.int .i64 r.octave) := fun xL => xL.at (r2)
              have lf6 : ∀ xL : Later wc, xL.world.cell? ⟨cb, coff + k * 3, none⟩ = some (.int .i64 x.step) := fun xL => xL.at (x0)
              have lf7 : ∀ xL : Later wc, xL.world.cell? ⟨cb, coff + k * 3 + 1, none⟩ = some (.int .i64 x.alter) := fun xL => xL.at (x1)
              have lf8 : ∀ xL : Later wc, xL.world.cell? ⟨cb, coff + k * 3 + 2, none⟩ = some (.int .i64 x.octave) := fun xL => xL.at (x2)
              have lf9 : ∀ xL : Later wc, xL.world.cell? ⟨b, off + k * 3, none⟩ = some (.int .i64 p.step) := fun xL => xL.at (p0)
              have lf10 : ∀ xL : Later wc, xL.world.cell? ⟨b, off + k * 3 + 1, none⟩ = some (.int .i64 p.alter) := fun xL => xL.at (p1)
              have lf11 : ∀ xL : Later wc, xL.world.cell? ⟨b, off + k * 3 + 2, none⟩ = some (.int .i64 p.octave) := fun xL => xL.at (p2)
              refine region_later (w0 := wc) (by kernel_rfl) (by kernel_rfl) (bel_refl _) ?_
              repeat (go_big_quiet_step (((go_at_call 28; with_reducible exact LB _))))
              refine wpQuiet_nil ?_
              rintro w' ⟨x, rfl⟩
              obtain ⟨w7, b7⟩ := x
              clear lf0 lf1 lf2 lf3 lf4 lf5 lf6 lf7 lf8 lf9 lf10 lf11
              clear LB
              replace hown1 := own_below hown1 b7
              replace hbX := bel_tr hbX b7
              clear r0 r1 r2 y0 y1 y2 x0 x1 x2 p0 p1 p2 hkj
              by_cases hz2 : t2 = 0
              · subst hz2
                go_wp2
                go_roundw
                case rel => exact ⟨k + 1, by omega, by go_num, by rw [show lfK f c l (k + 1) = M from by rw [lfK, HT1.out, HLE.out, HM.out, HT2.out, oneF_z, List.append_nil]]; exact hown1, hbX⟩
                case measure => simp [intOf]; omega
              · have hzb : (t2 != 0) = true := by simpa using hz2
                have HZ2 := Lib.hid hz2
                clear hz2
                have hs7 := hbX.size
                go_wp2_with (at_builtin; go_must (refine wpList_append_lies _ rfl _ _ 32 rfl w.heap.size 36 i0 _ 2 16 Try.underlying32 hi0 hz0 hz1 hz2 rfl (by omega) _ M.length (flat csFa M) rfl (hown1.alloc _) ⟨w7.heap.size, 0, none⟩ 1 1 [.int .i64 k, .int .i64 t2] rfl rfl (World.news_of_block (cs := #[.int .i64 k, .int .i64 t2]) (t := 36) (fr := (0, 0)) (heap_alloc_new w7 _)) (by simp [Value.oneCell']) (by omega) (by unfold maxLen; omega) (by omega) (by simp; omega) _ rfl ?_; intro gg9 cp9 w9 hown9 hgrow9 hat9 hlt9))
                have hbZ : Below w.heap.size w w9 := bel_grown (bel_al hbX (.cells #[.int .i64 k, .int .i64 t2] 36)) hgrow9 (fun k hk => by have := own_ge hown1 k hk; omega)
                have hqq := own_push (t := (⟨k, t2⟩ : Fa)) hown9 rfl
                go_wp2
                go_roundw
                case rel => exact ⟨k + 1, by omega, by go_num, by rw [show lfK f c l (k + 1) = M ++ [⟨k, t2⟩] from by rw [lfK, HT1.out, HLE.out, HM.out, HT2.out, oneF_n HZ2.out]]; exact hqq, hbZ⟩
                case measure => simp [intOf]; omega
        · have hkl : k = l.length := by omega
          have hnl : ¬ (k : Int) < (l.length : Int) := by omega
          have hlc := HLEN.out
          subst hkl
          go_wp2
          go_ret
          exact ⟨_, rfl, by rw [HL.out, ← hlc]; exact hown, hb⟩
end Go.Proofs.Ytdmidimjbhkjoaa
