/- The faults of parts: of the reference. -/
import Derived.Test.YtpjakgnghpapmaaPtP
import Derived.Deep.AppendLies
import Derived.Deep.DeepCutAuto
namespace Go.Proofs.Ytpjakgnghpapmaa
set_option linter.unusedSimpArgs false
set_option linter.unusedVariables false
open Go.RowKit

set_option maxRecDepth 20000 in
set_option maxHeartbeats 8000000 in
theorem spf_any (A : Option Addr) (n c : Nat) (ll : List (List Pi)) (w : World) (hn : ll.length = n) (hm : n ≤ 2000000) (h : RowPP w w.heap.size A ll) (hbg : ∀ i, i < ll.length → (atPP ll i).length ≤ 2000000) :
    Calls Try.prog 11 #[.slice A n c] w (Lf w (pfL ll)) := by
  subst hn
  have HBG := Lib.hid hbg
  clear hbg
  obtain ⟨i0, hi0, hz0, hz1, hz2⟩ := info_parts infoFa
  by_cases h8 : ll.length ≤ 8
  · have h9 : ¬ (8 : Int) < (ll.length : Int) := by omega
    have h9' : (ll.length : Int) ≤ 8 := by omega
    have HL := Lib.hid (show pfL ll = pfK ll ll.length from if_pos h8)
    have own0 : (w.alloc (.cells #[] 40)).ownsRow w.heap.size 40 2 (.slice (some ⟨w.heap.size, 0, none⟩) 0 0) ([] : List Fa).length (flat csFa []) := World.ownsRow_lit w #[] 0 (Nat.le_refl _) (by simp [maxLen]) rfl
    have b0 : Below w.heap.size w (w.alloc (.cells #[] 40)) := bel_al (bel_refl w) _
    go_enter Try.func11, Try.ntmps11
    go_wp2
    go_loopw [3, 4, 5, 6] (fun o i _ _ wr => ∃ k : Nat, k ≤ ll.length ∧ i = .int .i64 k ∧ wr.ownsRow w.heap.size 40 2 o (pfK ll k).length (flat csFa (pfK ll k)) ∧ Below w.heap.size w wr) (fun _ i _ _ _ => ll.length - (intOf i).toNat)
    case atStart => exact ⟨0, Nat.zero_le _, rfl, own0, b0⟩
    case round =>
      obtain ⟨k, hk, rfl, hown, hb⟩ := hrel
      clear own0 b0
      by_cases hlt : k < ll.length
      · obtain ⟨b, off, rfl, hlb, hcl⟩ := h (by omega)
        obtain ⟨Ax, cx, hx0, hxl, hxm, hxr⟩ := hcl k hlt
        have HCL := Lib.hid hcl
        have hXn := HBG.out k hlt
        have hkl : (k : Int) < (ll.length : Int) := by omega
        have hk0 : (0 : Int) ≤ (k : Int) := by omega
        have hL20 := pfK_len ll k
        clear hcl
        obtain ⟨x, hX⟩ : ∃ x, atPP ll k = x := ⟨_, rfl⟩
        obtain ⟨s, hs⟩ : ∃ s, sfK ll k = s := ⟨_, rfl⟩
        obtain ⟨t, ht⟩ : ∃ t, mfK ll k = t := ⟨_, rfl⟩
        obtain ⟨L, hLe⟩ : ∃ L, pfK ll k = L := ⟨_, rfl⟩
        rw [hX] at hx0 hxl hxr hXn
        have gx0 := keep_tr hx0 hb
        have HX0 := Lib.hid hx0
        clear hx0
        rw [hLe] at hown hL20
        have hLn : L.length ≤ 20 := by omega
        have HX := Lib.hid hX
        have HS := Lib.hid hs
        have HT := Lib.hid ht
        have HLE := Lib.hid hLe
        have HSX : Hid (stkF x = s) := by show _ = _; rw [← hs, ← hX]; rfl
        clear hX hs ht hLe hL20
        go_wp2_with fail
        refine (sstk_any _ _ _ x _ rfl (by omega) (hxr.below hb)).mono ?_
        rintro e3 w3 ⟨he, b3⟩
        rw [HSX.out] at he
        subst he
        replace hown := own_below hown b3
        have hbX := bel_tr hb b3
        clear b3 gx0
        go_upto_if 25 with fail
        go_cut [3] (fun o wx => wx.ownsRow w.heap.size 40 2 o (L ++ oneF k s).length (flat csFa (L ++ oneF k s)) ∧ Below w.heap.size w wx)
        case first =>
          by_cases hz : s = 0
          · subst hz
            go_wp2
            go_meet
            exact ⟨by rw [oneF_z, List.append_nil]; exact hown, hbX⟩
          · have hzb : (s != 0) = true := by simpa using hz
            have HZ := Lib.hid hz
            clear hz
            have hs5 := hbX.size
            go_wp2_with (at_builtin; go_must (refine wpList_append_lies _ rfl _ _ 24 rfl w.heap.size 40 i0 _ 2 16 Try.underlying24 hi0 hz0 hz1 hz2 rfl (by omega) _ L.length (flat csFa L) rfl (hown.alloc _) ⟨w3.heap.size, 0, none⟩ 1 1 [.int .i64 k, .int .i64 s] rfl rfl (World.news_of_block (cs := #[.int .i64 k, .int .i64 s]) (t := 40) (fr := (0, 0)) (heap_alloc_new w3 _)) (by simp [Value.oneCell']) (by omega) (by unfold maxLen; omega) (by omega) (by simp; omega) _ rfl ?_; intro gg9 cp9 w9 hown9 hgrow9 hat9 hlt9))
            have hbZ : Below w.heap.size w w9 := bel_grown (bel_al hbX (.cells #[.int .i64 k, .int .i64 s] 40)) hgrow9 (fun k hk => by have := own_ge hown k hk; omega)
            have hqq := own_push (t := (⟨k, s⟩ : Fa)) hown9 rfl
            go_wp2
            go_meet
            exact ⟨by rw [oneF_n HZ.out]; exact hqq, hbZ⟩
        case rest =>
          obtain ⟨hown1, hbY⟩ := hcut
          clear hown hbX
          obtain ⟨M, hM⟩ : ∃ M, (L ++ oneF k s) = M := ⟨_, rfl⟩
          rw [hM] at hown1
          have hM20 : M.length ≤ 21 := by rw [← hM, List.length_append]; have := oneF_len k s; omega
          have HM := Lib.hid hM
          clear hM
          cases hkz : ((k : Int) == 0)
          · have hk1 : ¬ (k : Int) = 0 := of_decide_eq_false hkz
            have hkn : ¬ k = 0 := by omega
            have hkp : 0 < k := by omega
            have hkq : (0 : Int) < (k : Int) := by omega
            obtain ⟨j, hj⟩ : ∃ j : Nat, k = j + 1 := ⟨k - 1, by omega⟩
            have hkj : (k : Int) - 1 = (j : Int) := by omega
            have hjl : j < ll.length := by omega
            have hj0 : (0 : Int) ≤ (j : Int) := by omega
            have hj1 : (j : Int) < (ll.length : Int) := by omega
            have hYn := HBG.out j hjl
            obtain ⟨Ay, cy, hy0, hyl, hym, hyr⟩ := HCL.out j hjl
            obtain ⟨y, hY⟩ : ∃ y, atPP ll j = y := ⟨_, rfl⟩
            rw [hY] at hy0 hyl hyr hYn
            have gy0 := keep_tr hy0 hbY
            have gx0 := keep_tr HX0.out hbY
            clear hy0
            have gyr := hyr.below hbY
            have gxr := hxr.below hbY
            have HTX : Hid (mvF y x = t) := by show _ = _; rw [← HT.out, hj, mfK_s, hY, ← hj, HX.out]
            have HJ := Lib.hid hj
            clear hY hj
            have LM : ∀ xL : Later wc, Calls Try.prog 40 #[.slice Ay y.length cy, .slice Ax x.length cx] xL.world fun e w'' => e = .returned (.int .i64 t) ∧ ∃ z : Later wc, w'' = z.world := fun xL => later_call (by have q := smvf_any Ay Ax y.length x.length cy cx y x xL.world rfl rfl (by omega) (by omega) (gyr.below xL.bel) (gxr.below xL.bel); rw [HTX.out] at q; exact q)
            go_wp2_with fail
            have lf0 : ∀ xL : Later wc, xL.world.cell? ⟨b, off + j, none⟩ = some (.slice Ay y.length cy) := fun xL => xL.at (gy0)
            have lf1 : ∀ xL : Later wc, xL.world.cell? ⟨b, off + k, none⟩ = some (.slice Ax x.length cx) := fun xL => xL.at (gx0)
            refine region_later (w0 := wc) (by kernel_rfl) (by kernel_rfl) (bel_refl _) ?_
            repeat (go_big_quiet_step ((first | (go_at_call 40; with_reducible exact LM _))))
            refine wpQuiet_nil ?_
            rintro w' ⟨x, rfl⟩
            obtain ⟨w7, b7⟩ := x
            clear lf0 lf1
            clear LM
            replace hown1 := own_below hown1 b7
            replace hbY := bel_tr hbY b7
            clear gy0 gx0 gyr gxr hkj
            by_cases hz : t = 0
            · subst hz
              go_wp2
              go_roundw
              case rel => exact ⟨k + 1, by omega, by go_num, by rw [show pfK ll (k + 1) = M from by rw [pfK, HS.out, HLE.out, HM.out, HT.out, oneF_z, List.append_nil]]; exact hown1, hbY⟩
              case measure => simp [intOf]; omega
            · have hzb : (t != 0) = true := by simpa using hz
              have HZ := Lib.hid hz
              clear hz
              have hs5 := hbY.size
              go_wp2_with (at_builtin; go_must (refine wpList_append_lies _ rfl _ _ 24 rfl w.heap.size 40 i0 _ 2 16 Try.underlying24 hi0 hz0 hz1 hz2 rfl (by omega) _ M.length (flat csFa M) rfl (hown1.alloc _) ⟨w7.heap.size, 0, none⟩ 1 1 [.int .i64 k, .int .i64 t] rfl rfl (World.news_of_block (cs := #[.int .i64 k, .int .i64 t]) (t := 40) (fr := (0, 0)) (heap_alloc_new w7 _)) (by simp [Value.oneCell']) (by omega) (by unfold maxLen; omega) (by omega) (by simp; omega) _ rfl ?_; intro gg9 cp9 w9 hown9 hgrow9 hat9 hlt9))
              have hbZ : Below w.heap.size w w9 := bel_grown (bel_al hbY (.cells #[.int .i64 k, .int .i64 t] 40)) hgrow9 (fun k hk => by have := own_ge hown1 k hk; omega)
              have hqq := own_push (t := (⟨k, t⟩ : Fa)) hown9 rfl
              go_wp2
              go_roundw
              case rel => exact ⟨k + 1, by omega, by go_num, by rw [show pfK ll (k + 1) = M ++ [⟨k, t⟩] from by rw [pfK, HS.out, HLE.out, HM.out, HT.out, oneF_n HZ.out]]; exact hqq, hbZ⟩
              case measure => simp [intOf]; omega
          · have hk00 : k = 0 := by have h := of_decide_eq_true hkz; omega
            have hkn : ¬ 0 < k := by omega
            have hkq : ¬ (0 : Int) < (k : Int) := by omega
            have HK0 := Lib.hid hk00
            clear hk00
            go_wp2
            go_roundw
            case rel => exact ⟨k + 1, by omega, by go_num, by rw [show pfK ll (k + 1) = M from by rw [pfK, HS.out, HLE.out, HM.out, show mfK ll k = 0 from by rw [HK0.out]; rfl, oneF_z, List.append_nil]]; exact hown1, hbY⟩
            case measure => simp [intOf]; omega
      · have hkl : k = ll.length := by omega
        have hnl : ¬ (k : Int) < (ll.length : Int) := by omega
        subst hkl
        go_wp2
        go_ret
        exact ⟨_, rfl, by rw [HL.out]; exact hown, hb⟩
  · have h9 : ¬ (ll.length : Int) ≤ 8 := by omega
    have h9' : (0 : Int) < (ll.length : Int) := by omega
    have h9'' : 0 < ll.length := by omega
    have HL := Lib.hid (show pfL ll = [] from if_neg h8)
    have own0 : (w.alloc (.cells #[] 40)).ownsRow w.heap.size 40 2 (.slice (some ⟨w.heap.size, 0, none⟩) 0 0) ([] : List Fa).length (flat csFa []) := World.ownsRow_lit w #[] 0 (Nat.le_refl _) (by simp [maxLen]) rfl
    have b0 : Below w.heap.size w (w.alloc (.cells #[] 40)) := bel_al (bel_refl w) _
    go_enter Try.func11, Try.ntmps11
    go_wp2
    go_loopw [3, 4, 5, 6] (fun o i _ _ wr => i = .int .i64 0 ∧ wr.ownsRow w.heap.size 40 2 o ([] : List Fa).length (flat csFa []) ∧ Below w.heap.size w wr) (fun _ i _ _ _ => ll.length - (intOf i).toNat)
    case atStart => exact ⟨rfl, own0, b0⟩
    case round =>
      obtain ⟨rfl, hown, hb⟩ := hrel
      go_wp2
      go_ret
      exact ⟨_, rfl, by rw [HL.out]; exact hown, hb⟩
end Go.Proofs.Ytpjakgnghpapmaa
