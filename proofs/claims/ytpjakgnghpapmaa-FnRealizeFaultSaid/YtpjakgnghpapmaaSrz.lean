/- Chords found for a bass: the reference. -/
import Derived.Test.YtpjakgnghpapmaaSrzP
namespace Go.Proofs.Ytpjakgnghpapmaa
set_option linter.unusedSimpArgs false
set_option linter.unusedVariables false
open Go.RowKit

theorem infoBL : (Try.prog.info? 87).map (fun i => (i.zero, i.size, i.bytes)) = some (some (.slice none 0 0), 1, 24) := by kernel_rfl
theorem infoBO : (Try.prog.info? 4).map (fun i => (i.zero, i.size, i.bytes)) = some (some (.bool false), 1, 1) := by kernel_rfl
theorem run_makeB (n : Nat) (h : n ≤ 1600000000) (w : World) :
    (Instr.makeSlice 87 (.int .i64 (n : Int)) (.int .i64 (n : Int))).run Try.prog w = .ok (.slice (some ⟨w.heap.size, 0, none⟩) n n) (w.alloc (.cells (madeCells #[.bool false] n) 4)) := by
  obtain ⟨i, hi, hz, hs, hb⟩ := info_parts infoBO
  have hr := run_make (P := Try.prog) w 87 4 i _ Try.underlying87 hi hz .i64 .i64 n n (by omega) (by omega) (by rw [hb]; omega) (by first | omega | (unfold maxLen; omega))
  simp only [Int.toNat_natCast, hs, Nat.mul_one] at hr
  exact hr
set_option maxRecDepth 20000 in
set_option maxHeartbeats 4000000 in
theorem srb_yes (f : Int) (A1 A2 : Option Addr) (c1 c2 : Nat) (bs : List Pi) (gs : List Int) (w : World) (h1 : RowPi w w.heap.size A1 bs) (h2 : RowIn w w.heap.size A2 gs) (hG : rbG f bs gs) :
    Calls Try.prog 31 #[.int .i64 f, .slice A1 bs.length c1, .slice A2 bs.length c2] w (RzR w (rfO f bs gs (bs.length - 1))) := by
  obtain ⟨OO, hOO⟩ : ∃ O, rfO f bs gs (bs.length - 1) = O := ⟨_, rfl⟩
  rw [hOO]
  have HOO := Lib.hid hOO
  clear hOO
  obtain ⟨⟨hf0, hf1⟩, ⟨hn0, hn8⟩, hgl⟩ := hG
  obtain ⟨i0, hi0, hz0, hz1, hz2⟩ := info_parts infoPSS
  obtain ⟨j0, hj0, hy0, hy1, hy2⟩ := info_parts infoBL
  obtain ⟨p0, hp0, hq0, hq1, hq2⟩ := info_parts infoPS
  have b01 : Below w.heap.size w (w.alloc (.cells #[] 37)) := bel_al (bel_refl w) _
  have bO : Blk (w.alloc (.cells #[] 37)) w.heap.size #[] 37 := Blk.new w _ _
  have hw1 : w.heap.size < (w.alloc (.cells #[] 37)).heap.size := bO.lt
  go_enter Try.func31, Try.ntmps31
  go_upto_region 5 with (go_at_call 52; refine (swin_yes _ _ _ _ (by omega) (by omega)).mono ?_; rintro e w' ⟨rfl, rfl⟩)
  generalize (w.alloc (.cells #[] 37)) = w1 at *
  have own1 : AlS f bs gs ((w1.alloc (.cells #[] 26)).alloc (.cells #[] 87)) w1.heap.size (.slice (some ⟨w1.heap.size, 0, none⟩) 0 0) 0 := ⟨[], (World.ownsRow_lit (base := w1.heap.size) (e := 26) (size := 1) w1 #[] 0 (Nat.le_refl _) (by simp [maxLen]) rfl).alloc _, fun j hj => absurd hj (by omega)⟩
  have own2 : GdS ((w1.alloc (.cells #[] 26)).alloc (.cells #[] 87)) w1.heap.size (.slice (some ⟨(w1.alloc (.cells #[] 26)).heap.size, 0, none⟩) 0 0) 0 (fun j => (spI f bs gs j).length) (fun _ => 0) [] := ⟨World.ownsRow_lit (base := w1.heap.size) (e := 87) (size := 1) (w1.alloc (.cells #[] 26)) #[] 0 (by simp) (by simp [maxLen]) rfl, fun j hj => absurd hj (by omega), fun i j _ hj => absurd hj (by omega)⟩
  have hz9 : (w1.alloc (.cells #[] 26)).heap.size = w1.heap.size + 1 := by simp
  rw [hz9] at own2
  have bw : Below w1.heap.size w1 ((w1.alloc (.cells #[] 26)).alloc (.cells #[] 87)) := bel_al (bel_al (bel_refl w1) _) _
  clear hz9
  go_wp2_with fail
  go_loopw [10, 11, 12] (fun v u i wr => ∃ k : Nat, k ≤ bs.length ∧ i = .int .i64 k ∧ AlS f bs gs wr w1.heap.size v k ∧ (∃ B gvs, GdS wr w1.heap.size u k (fun j => (spI f bs gs j).length) B gvs) ∧ Below w1.heap.size w1 wr) (fun _ _ i _ => bs.length - (intOf i).toNat)
  case atStart => exact ⟨0, by omega, rfl, own1, ⟨_, _, own2⟩, bw⟩
  case round =>
    clear own1 own2 bw
    obtain ⟨k, hk, rfl, hA, ⟨B, gvs, hG⟩, bw⟩ := hrel
    by_cases hlt : k < bs.length
    · have hkl : (k : Int) < (bs.length : Int) := by omega
      have hk0 : (0 : Int) ≤ (k : Int) := by omega
      have hk1 : (k : Int) < (k : Int) + 1 := by omega
      obtain ⟨bb, bo, rfl, hbb, hbc⟩ := ((h1.below b01).below bw) (by omega)
      obtain ⟨d0, d1, d2⟩ := hbc k (by omega)
      obtain ⟨gb, go, rfl, hgb, hgc⟩ := ((h2.below b01).below bw) (by omega)
      have eg := hgc k (by omega)
      obtain ⟨bq, hbq⟩ : ∃ q, atPi bs k = q := ⟨_, rfl⟩
      obtain ⟨g, hg⟩ : ∃ g, gs.getD k 0 = g := ⟨_, rfl⟩
      rw [hbq] at d0 d1 d2
      rw [show atIn gs k = g from hg] at eg
      obtain ⟨t, ht⟩ : ∃ t, fgL f bq g = t := ⟨_, rfl⟩
      have HT := Lib.hid ht
      have HSP := Lib.hid (show spI f bs gs k = spL bq t from by unfold spI tnI; rw [hbq, hg, ht])
      clear hbc hgc hbq hg ht
      go_upto_region 10 with fail
      have lf0 : ∀ xL : Later wr, xL.world.cell? ⟨bb, bo + k * 3, none⟩ = some (.int .i64 bq.step) := fun xL => xL.at (d0)
      have lf1 : ∀ xL : Later wr, xL.world.cell? ⟨bb, bo + k * 3 + 1, none⟩ = some (.int .i64 bq.alter) := fun xL => xL.at (d1)
      have lf2 : ∀ xL : Later wr, xL.world.cell? ⟨bb, bo + k * 3 + 2, none⟩ = some (.int .i64 bq.octave) := fun xL => xL.at (d2)
      have lf3 : ∀ xL : Later wr, xL.world.cell? ⟨gb, go + k, none⟩ = some (.int .i64 g) := fun xL => xL.at (eg)
      refine region_tail1 (w0 := wr) 9 (by kernel_rfl) (by kernel_rfl) (bel_refl _) (fun _ _ _ h => h) (Or.inl ⟨rfl, fun _ => rfl⟩) ?_
      simp only [List.take_succ_cons, List.take_zero, List.drop_succ_cons, List.drop_zero]
      try go_simp
      repeat (go_big_quiet_step ((fail)))
      refine wpQuiet_nil ?_
      (first | (rintro w' ⟨x, rfl⟩) | (intro x))
      obtain ⟨wt, bt⟩ := x
      clear lf0 lf1 lf2 lf3
      go_wp2_with fail
      refine (sks_any f g bq t HT.out _).mono ?_
      rintro e1 w2 ⟨v2, vs2, rfl, hown, b2⟩
      rw [← HSP.out] at hown
      have hA := hA.below (bel_tr bt b2)
      have hG := hG.below (bel_tr bt b2)
      have hown := hown.lo (Nat.le_trans bw.size bt.size)
      have bw := bel_tr bw (bel_tr bt b2)
      obtain ⟨A, c, rfl, _, _, _⟩ := hown.row
      obtain ⟨vs, hv, hvj⟩ := hA
      obtain ⟨LL, hLL⟩ : ∃ LL, spI f bs gs k = LL := ⟨_, rfl⟩
      have hln := spI_len f bs gs k
      rw [hLL] at hown hln ⊢
      have HLL := Lib.hid hLL
      have HVJ := Lib.hid hvj
      clear hLL HSP hvj d0 d1 d2 eg bt b2
      have hw2 := bw.size
      go_wp2_with (at_builtin; refine Hid.out ?_)
      refine Lib.hid ?_
      refine wpList_append_lies _ rfl _ _ 84 rfl w1.heap.size 26 i0 _ 1 24 Try.underlying84 hi0 hz0 hz1 hz2 rfl (by omega) _ k vs rfl (hv.alloc _) ⟨w2.heap.size, 0, none⟩ 1 1 [.slice A LL.length c] rfl rfl (World.news_of_block (cs := #[.slice A LL.length c]) (t := 26) (fr := (0, 0)) (heap_alloc_new w2 _)) (by simp [Value.oneCell']) (by omega) (by unfold maxLen; omega) (by omega) (by simp <;> omega) _ rfl ?_
      intro gg9 cp9 w9 hown9 hgrow9 hat9 hlt9
      have CP : Below w2.heap.size w2 (w2.alloc (.cells #[.slice A LL.length c] 26)) := bel_al (bel_refl w2) _
      have hA9 := AlS.push (own_below hv CP) (fun j hj => by obtain ⟨A', c', us', e1, o⟩ := HVJ.out j hj; exact ⟨A', c', us', e1, o.below CP⟩) hgrow9 (by rw [HLL.out]; exact hown9) (by rw [HLL.out]; exact hown.below CP)
      have hG9 := (hG.below CP).kt (KtB.grown (own_below hv CP) hgrow9) (by decide) (by decide)
      have bw9 := bel_grown (bel_tr bw CP) hgrow9 (fun k hk => own_ge hv k hk)
      obtain ⟨A9, c9, us9, cA9, oA9⟩ := hA9.at' rfl k (by omega)
      rw [HLL.out] at cA9
      have hw9 := bw9.size
      clear hown hv hG hA HVJ CP hgrow9 hown9 hat9 bw oA9
      have hmk := run_makeB LL.length hln w9
      have hs9 : (w9.alloc (.cells (madeCells #[.bool false] LL.length) 4)).heap.size = w9.heap.size + 1 := by simp
      have hnb : ((w9.alloc (.cells (madeCells #[.bool false] LL.length) 4)).alloc (.cells #[.slice (some ⟨w9.heap.size, 0, none⟩) LL.length LL.length] 87)).heap[w9.heap.size + 1]? = some (.cells #[.slice (some ⟨w9.heap.size, 0, none⟩) LL.length LL.length] 87) := by rw [← hs9]; exact heap_alloc_new _ _
      clear hs9
      go_upto_region 11 with fail
      go_wp2_with (at_builtin; refine Hid.out ?_)
      refine Lib.hid ?_
      refine wpList_append_lies _ rfl _ _ 85 rfl w1.heap.size 87 j0 _ 1 24 Try.underlying85 hj0 hy0 hy1 hy2 rfl (by omega) _ k gvs rfl ((hG9.own.alloc _).alloc _) ⟨w9.heap.size + 1, 0, none⟩ 1 1 [.slice (some ⟨w9.heap.size, 0, none⟩) LL.length LL.length] rfl rfl (World.news_of_block (cs := #[.slice (some ⟨w9.heap.size, 0, none⟩) LL.length LL.length]) (t := 87) (fr := (0, 0)) (hnb)) (by simp [Value.oneCell']) (by omega) (by unfold maxLen; omega) (by omega) (by simp <;> omega) _ rfl ?_
      intro gg8 cp8 w8 hown8 hgrow8 hat8 hlt8
      have C1 : Below w9.heap.size w9 (w9.alloc (.cells (madeCells #[.bool false] LL.length) 4)) := bel_al (bel_refl w9) _
      have C2 : Below w9.heap.size w9 ((w9.alloc (.cells (madeCells #[.bool false] LL.length) 4)).alloc (.cells #[.slice (some ⟨w9.heap.size, 0, none⟩) LL.length LL.length] 87)) := bel_al C1 _
      have bkb : Blk ((w9.alloc (.cells (madeCells #[.bool false] LL.length) 4)).alloc (.cells #[.slice (some ⟨w9.heap.size, 0, none⟩) LL.length LL.length] 87)) w9.heap.size (madeCells #[.bool false] LL.length) 4 := (Blk.new w9 _ _).alloc _
      have hG8 := (hG9.below C2).push hgrow8 (by rw [HLL.out]; exact hown8) bkb (by rw [HLL.out, size_madeCells]) hw9 (fun i hi => by
        obtain ⟨_, _, cs, hb, _⟩ := hG9.row i hi
        exact hb.lt)
      have hA8 := (hA9.below C2).kt (T0 := 87) (KtB.grown (own_below hG9.own C2) hgrow8) (by decide) (by decide) (by decide)
      have bw8 := bel_grown (bel_tr bw9 C2) hgrow8 (fun k hk => own_ge hG9.own k hk)
      go_wp2
      go_roundw
      case rel => exact ⟨k + 1, by omega, by go_num, hA8, ⟨_, _, hG8⟩, bw8⟩
      case measure => simp [intOf] <;> omega
    · obtain rfl : k = bs.length := by omega
      have hN0 : 0 < bs.length := by omega
      obtain ⟨ga, ca, rfl, hca1, hca2, hga, _⟩ := own_some (hA.choose_spec.1) hN0
      obtain ⟨gg, cg, rfl, hcg1, hcg2, hgg, _⟩ := own_some hG.own hN0
      have hS : SzS f bs gs wr w1.heap.size ga ca gg cg B (dn bs.length 0 0) := ⟨hA, ⟨_, hG⟩, fun j x cs hj _ hd _ => absurd (dn_z hd) (by omega)⟩
      clear hA hG
      obtain ⟨wq, hwq⟩ : ∃ q : World, q = wr := ⟨_, rfl⟩
      rw [← hwq] at hS bw ⊢
      clear hwq
      unfold maxLen at hca2 hcg2
      go_wp2_with fail
      go_loopw [13] (fun v wr => ∃ (m : Nat) (z : Int), z + m + 1 = bs.length ∧ -1 ≤ z ∧ v = .int .i64 z ∧ SzS f bs gs wr w1.heap.size ga ca gg cg B (dn bs.length m 0) ∧ Below w1.heap.size w1 wr) (fun v _ => (intOf v + 1).toNat)
      case atStart => exact ⟨0, (bs.length : Int) - 1, by omega, by omega, rfl, hS, bw⟩
      case round =>
        clear hS bw
        obtain ⟨m, z, hzm, hm, rfl, hS2, bw2⟩ := hrel
        by_cases hz : 0 ≤ z
        · obtain ⟨k, rfl⟩ : ∃ k : Nat, z = (k : Int) := ⟨z.toNat, by omega⟩
          have hkm : k + m + 1 = bs.length := by omega
          have hkN : (k : Int) < (bs.length : Int) := by omega
          obtain ⟨nk, hnk⟩ : ∃ n, (spI f bs gs k).length = n := ⟨_, rfl⟩
          have hnkb : nk ≤ 1600000000 := by rw [← hnk]; exact spI_len f bs gs k
          go_wp2_with fail
          obtain ⟨wq2, hwq2⟩ : ∃ q : World, q = wr := ⟨_, rfl⟩
          rw [← hwq2] at hS2 bw2 ⊢
          clear hwq2
          go_loopw [14] (fun v wr => ∃ i : Nat, i ≤ nk ∧ v = .int .i64 i ∧ SzS f bs gs wr w1.heap.size ga ca gg cg B (dn bs.length m i) ∧ Below w1.heap.size w1 wr) (fun v _ => nk - (intOf v).toNat)
          case atStart => exact ⟨0, by omega, rfl, hS2, bw2⟩
          case round =>
            clear hS2 bw2
            obtain ⟨i, hi, rfl, hS3, bw3⟩ := hrel
            obtain ⟨A, c, us, cA, oA⟩ := hS3.all.at' rfl k (by omega)
            have cG := hS3.gdAt (j := k) (by omega)
            rw [hnk] at cA cG
            have hw3 := bw3.size
            by_cases hin : i < nk
            · have hii : (i : Int) < (nk : Int) := by omega
              have hi0 : (0 : Int) ≤ (i : Int) := by omega
              obtain ⟨⟨u9, cK⟩, fK, lK, loK⟩ := hS3.bl (j := k) (x := i) (by omega) (by rw [hnk]; exact hin)
              by_cases hm0 : m = 0
              · have hij : ((k : Int) == (bs.length : Int) - 1) = true := beq_iff_eq.2 (by omega)
                go_wp2_with fail
                refine wp_loop_rounds 1 ?_
                rw [rounds_succ]
                have hd1 : decide ((k : Int) < (bs.length : Int) - 1) = false := decide_eq_false (by omega)
                go_upto_region 17 with fail
                go_wp2
                go_roundw
                case rel => exact ⟨i + 1, by omega, by go_num, (hS3.put (by omega) (dn_not hkm) _).grow (fun j x => dn_step hkm) (by rw [gv_last f bs gs k i (by omega)]; exact set_same (by rw [cK]; rfl)), bel_set bw3 (by simp only; omega) _⟩
                case measure => simp [intOf] <;> omega
              · have hij : ((k : Int) == (bs.length : Int) - 1) = false := beq_eq_false_iff_ne.2 (by omega)
                have hlk : (k : Int) < (bs.length : Int) - 1 := by omega
                obtain ⟨p, hp⟩ : ∃ p : Nat, p = k + 1 := ⟨_, rfl⟩
                have hpi : (k : Int) + 1 = (p : Int) := by omega
                have hp0 : (0 : Int) ≤ (p : Int) := by omega
                have hpN : (p : Int) < (bs.length : Int) := by omega
                have hpk : p < bs.length := by omega
                have hpk2 : k < p := by omega
                have HP := Lib.hid hp
                clear hp
                obtain ⟨np, hnp⟩ : ∃ n, (spI f bs gs p).length = n := ⟨_, rfl⟩
                have hnpb : np ≤ 1600000000 := by rw [← hnp]; exact spI_len f bs gs p
                obtain ⟨x, hX⟩ : ∃ x, atPP (spI f bs gs k) i = x := ⟨_, rfl⟩
                have hS4 := hS3.put (i := i) (by omega) (dn_not hkm) (.bool false)
                have bw4 : Below w1.heap.size w1 (wr.setCell ⟨B k, i, none⟩ (.bool false)) := bel_set bw3 (by simp only; omega) _
                have cB4 : (wr.setCell ⟨B k, i, none⟩ (.bool false)).cell? ⟨B k, i, none⟩ = some (.bool (anK f bs gs p x 0)) := set_same (by rw [cK]; rfl)
                go_wp2_with fail
                clear cA cG cK fK lK oA
                generalize (wr.setCell ⟨B k, i, none⟩ (.bool false)) = wq at *
                go_loopw [15] (fun v wr => ∃ j : Nat, j ≤ np ∧ v = .int .i64 j ∧ SzS f bs gs wr w1.heap.size ga ca gg cg B (dn bs.length m i) ∧ wr.cell? ⟨B k, i, none⟩ = some (.bool (anK f bs gs p x j)) ∧ Below w1.heap.size w1 wr) (fun v _ => np - (intOf v).toNat)
                case atStart => exact ⟨0, by omega, rfl, hS4, cB4, bw4⟩
                case round =>
                  clear hS3 bw3 hS4 bw4 cB4
                  obtain ⟨j, hjn, rfl, hS4, cB, bw4⟩ := hrel
                  obtain ⟨A, c, us, cA, oA⟩ := hS4.all.at' rfl k (by omega)
                  obtain ⟨A', c', us', cA', oA'⟩ := hS4.all.at' rfl p (by omega)
                  have cG := hS4.gdAt (j := k) (by omega)
                  have cG' := hS4.gdAt (j := p) (by omega)
                  obtain ⟨_, fK, lK, loK⟩ := hS4.bl (j := k) (x := i) (by omega) (by rw [hnk]; exact hin)
                  rw [hnk] at cA cG
                  rw [hnp] at cA' cG'
                  obtain ⟨b, hb⟩ : ∃ b, anK f bs gs p x j = b := ⟨_, rfl⟩
                  rw [hb] at cB
                  have HB := Lib.hid hb
                  clear hb
                  have hw4 := bw4.size
                  by_cases hjl : j < np
                  · have hji : (j : Int) < (np : Int) := by omega
                    have hj0 : (0 : Int) ≤ (j : Int) := by omega
                    cases b
                    · obtain ⟨ab, acap, Ai, ci, e1, _, hab, _, _, hx, hx1, hx2, hSx⟩ := oA.at' i (by rw [hnk]; exact hin)
                      cases e1
                      obtain ⟨ab', acap', Aj, cj, e1, _, hab', _, _, hy, hy1, hy2, hSy⟩ := oA'.at' j (by rw [hnp]; exact hjl)
                      cases e1
                      have hx4 := spI_four f bs gs k i (by rw [hnk]; exact hin)
                      have hy4 := spI_four f bs gs p j (by rw [hnp]; exact hjl)
                      have cV := hS4.at' (j := p) (x := j) (by omega) (by rw [hnp]; exact hjl) (dn_row hkm (by omega))
                      obtain ⟨v, hv⟩ : ∃ v, gv f bs gs p j = v := ⟨_, rfl⟩
                      obtain ⟨y, hyy⟩ : ∃ y, atPP (spI f bs gs p) j = y := ⟨_, rfl⟩
                      have HS := Lib.hid (anK_s f bs gs p x j (by rw [hnp]; exact hjl))
                      rw [hv] at cV
                      have HVX : Hid (anK f bs gs p x (j + 1) = (v && decide (mvF x y = 0))) := by
                        show _ = _
                        rw [HS.out, HB.out, hv, hyy, Bool.false_or]
                      rw [hX] at hx hx1 hSx hx4
                      rw [hyy] at hy hy1 hSy hy4
                      rw [hx4] at hx hx1
                      rw [hy4] at hy hy1
                      have HX4 := Lib.hid hx4
                      have HY4 := Lib.hid hy4
                      have hSxr := hSx.row
                      have hSyr := hSy.row
                      clear hx4 hy4 hyy hv HS hSx hSy oA oA'
                      go_upto_region 22 with fail
                      cases v
                      · have lf0 : ∀ xL : Later wr, xL.world.cell? ⟨gg, k, none⟩ = some (.slice (some ⟨B k, 0, none⟩) nk nk) := fun xL => xL.at (cG)
                        have lf1 : ∀ xL : Later wr, xL.world.cell? ⟨gg, p, none⟩ = some (.slice (some ⟨B p, 0, none⟩) np np) := fun xL => xL.at (cG')
                        have lf2 : ∀ xL : Later wr, xL.world.cell? ⟨B p, j, none⟩ = some (.bool false) := fun xL => xL.at (cV)
                        refine region_tail (w0 := wr) 33 (by kernel_rfl) (by kernel_rfl) (bel_refl _) ?_
                        simp only [List.take_succ_cons, List.take_zero, List.drop_succ_cons, List.drop_zero]
                        repeat (go_big_quiet_step ((fail)))
                        refine wpQuiet_nil ?_
                        rintro w' ⟨x, rfl⟩
                        obtain ⟨wt, bt⟩ := x
                        clear lf0 lf1 lf2
                        have hS5 := hS4.below bt
                        have bw5 := bel_tr bw4 bt
                        have hw5 := bt.size
                        obtain ⟨⟨u9, cK⟩, fK, lK, _⟩ := hS5.bl (j := k) (x := i) (by omega) (by rw [hnk]; exact hin)
                        go_wp2
                        go_roundw
                        case rel => exact ⟨j + 1, by omega, by go_num, hS5.put (by omega) (dn_not hkm) _, by rw [HVX.out]; exact set_same (by rw [cK]; rfl), bel_set bw5 (by simp only; omega) _⟩
                        case measure => simp [intOf] <;> omega
                      · obtain ⟨z, hz⟩ : ∃ z, mvF x y = z := ⟨_, rfl⟩
                        have HZ := Lib.hid hz
                        have LM : ∀ xL : Later wr, Calls Try.prog 40 #[.slice Ai 4 ci, .slice Aj 4 cj] xL.world fun e w'' => e = .returned (.int .i64 z) ∧ ∃ z : Later wr, w'' = z.world := fun xL => later_call (by have q := smvf_any Ai Aj 4 4 ci cj x y xL.world HX4.out HY4.out (by omega) (by omega) (hSxr.below xL.bel) (hSyr.below xL.bel); rw [HZ.out] at q; exact q)
                        clear hz
                        have lf0 : ∀ xL : Later wr, xL.world.cell? ⟨gg, k, none⟩ = some (.slice (some ⟨B k, 0, none⟩) nk nk) := fun xL => xL.at (cG)
                        have lf1 : ∀ xL : Later wr, xL.world.cell? ⟨gg, p, none⟩ = some (.slice (some ⟨B p, 0, none⟩) np np) := fun xL => xL.at (cG')
                        have lf2 : ∀ xL : Later wr, xL.world.cell? ⟨B p, j, none⟩ = some (.bool true) := fun xL => xL.at (cV)
                        have lf3 : ∀ xL : Later wr, xL.world.cell? ⟨ga, k, none⟩ = some (.slice (some ⟨ab, 0, none⟩) nk c) := fun xL => xL.at (cA)
                        have lf4 : ∀ xL : Later wr, xL.world.cell? ⟨ga, p, none⟩ = some (.slice (some ⟨ab', 0, none⟩) np c') := fun xL => xL.at (cA')
                        have lf5 : ∀ xL : Later wr, xL.world.cell? ⟨ab, i, none⟩ = some (.slice Ai 4 ci) := fun xL => xL.at (hx)
                        have lf6 : ∀ xL : Later wr, xL.world.cell? ⟨ab', j, none⟩ = some (.slice Aj 4 cj) := fun xL => xL.at (hy)
                        refine region_tail (w0 := wr) 33 (by kernel_rfl) (by kernel_rfl) (bel_refl _) ?_
                        simp only [List.take_succ_cons, List.take_zero, List.drop_succ_cons, List.drop_zero]
                        repeat (go_big_quiet_step ((first | (go_at_call 40; with_reducible exact LM _))))
                        refine wpQuiet_nil ?_
                        rintro w' ⟨x, rfl⟩
                        obtain ⟨wt, bt⟩ := x
                        clear lf0 lf1 lf2 lf3 lf4 lf5 lf6
                        clear LM
                        have hS5 := hS4.below bt
                        have bw5 := bel_tr bw4 bt
                        have hw5 := bt.size
                        obtain ⟨⟨u9, cK⟩, fK, lK, _⟩ := hS5.bl (j := k) (x := i) (by omega) (by rw [hnk]; exact hin)
                        have HVZ : Hid (anK f bs gs p x (j + 1) = (z == 0)) := by
                          show _ = _
                          rw [HVX.out, HZ.out, Bool.true_and]
                          rfl
                        go_wp2
                        go_roundw
                        case rel => exact ⟨j + 1, by omega, by go_num, hS5.put (by omega) (dn_not hkm) _, by rw [HVZ.out]; exact set_same (by rw [cK]; rfl), bel_set bw5 (by simp only; omega) _⟩
                        case measure => simp [intOf] <;> omega
                    · have HE := Lib.hid (anK_end f bs gs k p i j HP.out (by omega) (.inr (by rw [hX]; exact HB.out)))
                      go_wp2
                      go_roundw
                      case rel => exact ⟨i + 1, by omega, by go_num, hS4.grow (fun j x => dn_step hkm) (by rw [← HE.out, hX, HB.out]; exact cB), bw4⟩
                      case measure => simp [intOf] <;> omega
                  · obtain rfl : j = np := by omega
                    have HE := Lib.hid (anK_end f bs gs k p i j HP.out (by omega) (.inl (by omega)))
                    go_wp2
                    go_roundw
                    case rel => exact ⟨i + 1, by omega, by go_num, hS4.grow (fun j x => dn_step hkm) (by rw [← HE.out, hX, HB.out]; exact cB), bw4⟩
                    case measure => simp [intOf] <;> omega
            · obtain rfl : i = nk := by omega
              go_wp2
              go_roundw
              case rel => exact ⟨m + 1, (k : Int) - 1, by omega, by omega, by go_num, hS3.imp (fun j x hj hx h => by
                rcases h with h | ⟨_, h⟩
                · by_cases e : j = k
                  · subst e; rw [hnk] at hx; exact .inr ⟨hkm, hx⟩
                  · exact .inl (by omega)
                · omega), bw3⟩
              case measure => simp [intOf] <;> omega
        · obtain rfl : z = -1 := by omega
          obtain rfl : m = bs.length := by omega
          have hS : SzS f bs gs wr w1.heap.size ga ca gg cg B (fun _ _ => True) := hS2.imp (fun j x _ _ _ => .inl (by omega))
          have bO2 := bO.below bw2
          have hwq0 := bw2.size
          have own0 : OwPV wr w.heap.size (.slice (some ⟨w.heap.size, 0, none⟩) 0 0) [] [] := ⟨⟨rfl, .inr ⟨w.heap.size, 0, #[], rfl, Nat.le_refl _, bO2, Nat.le_refl _, by simp [maxLen], rfl, rfl⟩⟩, fun i hi => absurd hi (by simp)⟩
          clear hS2 bO2
          go_wp2_with fail
          obtain ⟨wq, hwq⟩ : ∃ q : World, q = wr := ⟨_, rfl⟩
          rw [← hwq] at hS bw2 own0 hwq0 ⊢
          clear hwq
          go_loopw [9, 16] (fun v i wr => ∃ (k : Nat) (L : List (List Pi)) (vs : List Value), k ≤ bs.length ∧ i = .int .i64 k ∧ Hid (rfQ f bs gs k = some L) ∧ OwPV wr w.heap.size v L vs ∧ (∀ g', v.ownBlock = some g' → g' = w.heap.size ∨ wq.heap.size ≤ g') ∧ Onb w.heap.size wq wr) (fun _ i _ => bs.length - (intOf i).toNat)
          case atStart => exact ⟨0, [], [], by omega, rfl, Lib.hid rfl, own0, fun g' e => .inl (Option.some.inj e).symm, Onb.refl _ _⟩
          case round =>
            clear own0
            obtain ⟨k, L, vs, hk, rfl, HR, hown, hcond, hO⟩ := hrel
            have HLEN := Lib.hid (rfQ_len f bs gs k L HR.out)
            have HL4 : Hid (four L) := rfQ_four f bs gs k L HR.out
            by_cases hlt : k < bs.length
            · have hkl : (k : Int) < (bs.length : Int) := by omega
              have hk0 : (0 : Int) ≤ (k : Int) := by omega
              obtain ⟨nk, hnk⟩ : ∃ n, (spI f bs gs k).length = n := ⟨_, rfl⟩
              have hnkb : nk ≤ 1600000000 := by rw [← hnk]; exact spI_len f bs gs k
              go_wp2_with fail
              obtain ⟨wq5, hwq5⟩ : ∃ q : World, q = wr := ⟨_, rfl⟩
              rw [← hwq5] at hown hO ⊢
              clear hwq5
              go_loopw [9, 17, 18] (fun v b i wr => ∃ j : Nat, j ≤ nk ∧ i = .int .i64 j ∧ Onb w.heap.size wq wr ∧ (∀ g', v.ownBlock = some g' → g' = w.heap.size ∨ wq.heap.size ≤ g') ∧ ((b = .bool false ∧ (∃ vs, OwPV wr w.heap.size v L vs) ∧ Hid (∀ x, x < j → prK f bs gs L k (atPP (spI f bs gs k) x) = false)) ∨ (b = .bool true ∧ ∃ y vs, Hid ((spI f bs gs k).find? (prK f bs gs L k) = some y) ∧ OwPV wr w.heap.size v (L ++ [y]) vs))) (fun _ _ i _ => nk - (intOf i).toNat)
              case atStart => exact ⟨0, by omega, rfl, hO, hcond, .inl ⟨rfl, ⟨_, hown⟩, Lib.hid (fun x hx => absurd hx (by omega))⟩⟩
              case round =>
                clear hown hO hcond
                obtain ⟨j, hjn, rfl, hO, hcond, hcs⟩ := hrel
                rcases hcs with ⟨rfl, ⟨vs, hown⟩, HN⟩ | ⟨rfl, y, vs, HF, hown⟩
                · by_cases hjl : j < nk
                  · have hji : (j : Int) < (nk : Int) := by omega
                    have hj0 : (0 : Int) ≤ (j : Int) := by omega
                    have hS6 := hS.onb hO hw1
                    obtain ⟨A, c, us, cA, oA⟩ := hS6.all.at' rfl k (by omega)
                    have cG := hS6.gdAt (j := k) (by omega)
                    have cV := hS6.at' (j := k) (x := j) (by omega) (by rw [hnk]; exact hjl) trivial
                    obtain ⟨ab, acap, Ay, cy, e1, _, hab, _, _, hy, hy1, hy2, hyS⟩ := oA.at' j (by rw [hnk]; exact hjl)
                    cases e1
                    rw [hnk] at cA cG
                    have hy4 := spI_four f bs gs k j (by rw [hnk]; exact hjl)
                    obtain ⟨y, hyy⟩ : ∃ y, atPP (spI f bs gs k) j = y := ⟨_, rfl⟩
                    obtain ⟨v, hv⟩ : ∃ v, gv f bs gs k j = v := ⟨_, rfl⟩
                    rw [hv] at cV
                    have HPE : Hid (prK f bs gs L k (atPP (spI f bs gs k) j) = (v && (decide (k = 0) || decide (mvF (atPP L (k - 1)) y = 0)))) := by
                      show _ = _
                      rw [← hv, ← hyy]
                      rfl
                    rw [hyy] at hy hy1 hyS hy4
                    rw [hy4] at hy hy1
                    have HYY := Lib.hid hyy
                    have HY4 := Lib.hid hy4
                    have hSyr := hyS.row
                    clear hyy hv hy4 oA
                    cases v
                    · have HPR : Hid (prK f bs gs L k (atPP (spI f bs gs k) j) = false) := HPE
                      go_upto_region 30 with fail
                      have lf0 : ∀ xL : Later wr, xL.world.cell? ⟨gg, k, none⟩ = some (.slice (some ⟨B k, 0, none⟩) nk nk) := fun xL => xL.at (cG)
                      have lf1 : ∀ xL : Later wr, xL.world.cell? ⟨B k, j, none⟩ = some (.bool false) := fun xL => xL.at (cV)
                      refine region_later (w0 := wr) (by kernel_rfl) (by kernel_rfl) (bel_refl _) ?_
                      repeat (go_big_quiet_step ((fail)))
                      refine wpQuiet_nil ?_
                      rintro w' ⟨x, rfl⟩
                      obtain ⟨wt, bt⟩ := x
                      clear lf0 lf1
                      have hown := hown.below bt
                      have hO := hO.trans (Onb.of_bel bt)
                      go_wp2
                      go_roundw
                      case rel => exact ⟨j + 1, by omega, by go_num, hO, hcond, .inl ⟨rfl, ⟨_, hown⟩, Lib.hid (fun x hx => by
                        rcases (show x < j ∨ x = j from by omega) with h | rfl
                        · exact HN.out x h
                        · exact HPR.out)⟩⟩
                      case measure => simp [intOf] <;> omega
                    · by_cases hk0z : k = 0
                      · have HPR : Hid (prK f bs gs L k (atPP (spI f bs gs k) j) = true) := by
                          show _ = _
                          rw [HPE.out, decide_eq_true hk0z]
                          rfl
                        have hkz : ((k : Int) == 0) = true := beq_iff_eq.2 (by omega)
                        clear hk0z HPE
                        go_upto_region 30 with fail
                        have lf0 : ∀ xL : Later wr, xL.world.cell? ⟨gg, k, none⟩ = some (.slice (some ⟨B k, 0, none⟩) nk nk) := fun xL => xL.at (cG)
                        have lf1 : ∀ xL : Later wr, xL.world.cell? ⟨B k, j, none⟩ = some (.bool true) := fun xL => xL.at (cV)
                        refine region_later (w0 := wr) (by kernel_rfl) (by kernel_rfl) (bel_refl _) ?_
                        repeat (go_big_quiet_step ((fail)))
                        refine wpQuiet_nil ?_
                        rintro w' ⟨x, rfl⟩
                        obtain ⟨wt, bt⟩ := x
                        clear lf0 lf1
                        have hyS9 : StP wt w.heap.size Ay y := (hyS.lo (by omega)).kp (Kp.bel bt)
                        have cA9 := keep_tr cA bt
                        have hy9 := keep_tr hy bt
                        have hown := hown.below bt
                        have hO := hO.trans (Onb.of_bel bt)
                        have hwt := hO.size
                        have HF := Lib.hid (find_at (p := prK f bs gs L k) (by rw [hnk]; exact hjl) HPR.out HN.out)
                        clear cA hy cG cV HN HPR
                        go_upto_region 31 with fail
                        go_wp2_with (at_builtin; refine Hid.out ?_)
                        refine Lib.hid ?_
                        refine wpList_append_lies _ rfl _ _ 26 rfl w.heap.size 37 p0 _ 1 24 Try.underlying26 hp0 hq0 hq1 hq2 rfl (by omega) _ k vs rfl (by have := hown.1.alloc (.cells #[.slice Ay 4 cy] 37); rw [HLEN.out] at this; exact this) ⟨wt.heap.size, 0, none⟩ 1 1 [.slice Ay 4 cy] rfl rfl (World.news_of_block (cs := #[.slice Ay 4 cy]) (t := 37) (fr := (0, 0)) (heap_alloc_new wt _)) (by simp [Value.oneCell']) (by omega) (by unfold maxLen; omega) (by omega) (by simp <;> omega) _ rfl ?_
                        intro gg9 cp9 w9 hown9 hgrow9 hat9 hlt9
                        have CP : Below wt.heap.size wt (wt.alloc (.cells #[.slice Ay 4 cy] 37)) := bel_al (bel_refl wt) _
                        have oA := (hown.below CP).push (l := y) (Al := Ay) (cl := cy) hgrow9 (by rw [HLEN.out, HY4.out]; exact hown9) (by rw [HY4.out]; exact hy1) hy2 (hyS9.kp (Kp.bel CP))
                        have hO9 := (hO.trans (Onb.of_bel CP)).grown2 hgrow9 hcond
                        have hco9 : ∀ g', (Value.slice (some ⟨gg9, 0, none⟩) (k + 1) cp9).ownBlock = some g' → g' = w.heap.size ∨ wq.heap.size ≤ g' := fun g' e => by
                          rw [← Option.some.inj e]
                          show gg9 = w.heap.size ∨ wq.heap.size ≤ gg9
                          rcases hat9 with h9 | h9
                          · exact hcond _ h9
                          · right; rw [h9]; have := CP.size; omega
                        go_wp2
                        go_roundw
                        case rel => exact ⟨j + 1, by omega, by go_num, hO9, hco9, .inr ⟨rfl, y, _, Lib.hid (by rw [← HYY.out]; exact HF.out), oA⟩⟩
                        case measure => simp [intOf] <;> omega
                      · have hkz : ((k : Int) == 0) = false := beq_eq_false_iff_ne.2 (by omega)
                        obtain ⟨l, hl⟩ : ∃ l : Nat, l = k - 1 := ⟨_, rfl⟩
                        have hkl1 : (k : Int) - 1 = (l : Int) := by omega
                        have hl0 : (0 : Int) ≤ (l : Int) := by omega
                        have hlk : (l : Int) < (k : Int) := by omega
                        obtain ⟨ob, ocap, Ax, cx, e1, hob0, hob, _, _, hx, hx1, hx2, hSx⟩ := hown.at' l (by have := HLEN.out; omega)
                        subst e1
                        obtain ⟨x, hX⟩ : ∃ x, atPP L l = x := ⟨_, rfl⟩
                        have hx4 := HL4.out l (by have := HLEN.out; omega)
                        rw [hX] at hx hx1 hSx hx4
                        rw [hx4] at hx hx1
                        have HX4 := Lib.hid hx4
                        have hSxr := hSx.row
                        obtain ⟨z, hz⟩ : ∃ z, mvF x y = z := ⟨_, rfl⟩
                        have HZ := Lib.hid hz
                        have HPZ : Hid (prK f bs gs L k (atPP (spI f bs gs k) j) = decide (z = 0)) := by
                          show _ = _
                          rw [HPE.out, decide_eq_false hk0z, ← hl, hX, hz]
                          rfl
                        have HLL : Hid (L.length = k) := HLEN
                        clear hx4 hX hz hl HPE hSx hk0z
                        rw [HLL.out] at hown hcond ⊢
                        have HCO := Lib.hid hcond
                        clear hcond
                        go_upto_region 30 with fail
                        have LM : ∀ xL : Later wr, Calls Try.prog 40 #[.slice Ax 4 cx, .slice Ay 4 cy] xL.world fun e w'' => e = .returned (.int .i64 z) ∧ ∃ z : Later wr, w'' = z.world := fun xL => later_call (by have q := smvf_any Ax Ay 4 4 cx cy x y xL.world HX4.out HY4.out (by omega) (by omega) (hSxr.below xL.bel) (hSyr.below xL.bel); rw [HZ.out] at q; exact q)
                        have lf0 : ∀ xL : Later wr, xL.world.cell? ⟨gg, k, none⟩ = some (.slice (some ⟨B k, 0, none⟩) nk nk) := fun xL => xL.at (cG)
                        have lf1 : ∀ xL : Later wr, xL.world.cell? ⟨B k, j, none⟩ = some (.bool true) := fun xL => xL.at (cV)
                        have lf2 : ∀ xL : Later wr, xL.world.cell? ⟨ob, l, none⟩ = some (.slice Ax 4 cx) := fun xL => xL.at (hx)
                        have lf3 : ∀ xL : Later wr, xL.world.cell? ⟨ga, k, none⟩ = some (.slice (some ⟨ab, 0, none⟩) nk c) := fun xL => xL.at (cA)
                        have lf4 : ∀ xL : Later wr, xL.world.cell? ⟨ab, j, none⟩ = some (.slice Ay 4 cy) := fun xL => xL.at (hy)
                        refine region_later (w0 := wr) (by kernel_rfl) (by kernel_rfl) (bel_refl _) ?_
                        repeat (go_big_quiet_step ((first | (go_at_call 40; with_reducible exact LM _))))
                        refine wpQuiet_nil ?_
                        rintro w' ⟨x, rfl⟩
                        obtain ⟨wt, bt⟩ := x
                        clear lf0 lf1 lf2 lf3 lf4
                        clear LM
                        by_cases hz0 : z = 0
                        · have HPR : Hid (prK f bs gs L k (atPP (spI f bs gs k) j) = true) := by
                            show _ = _
                            rw [HPZ.out, decide_eq_true hz0]
                          have hzb : (z == 0) = true := beq_iff_eq.2 hz0
                          rw [hzb]
                          clear hx HPZ hz0 hzb
                          have hcond := HCO.out
                          have hyS9 : StP wt w.heap.size Ay y := (hyS.lo (by omega)).kp (Kp.bel bt)
                          have cA9 := keep_tr cA bt
                          have hy9 := keep_tr hy bt
                          have hown := hown.below bt
                          have hO := hO.trans (Onb.of_bel bt)
                          have hwt := hO.size
                          have HF := Lib.hid (find_at (p := prK f bs gs L k) (by rw [hnk]; exact hjl) HPR.out HN.out)
                          clear cA hy cG cV HN HPR
                          go_upto_region 31 with fail
                          go_wp2_with (at_builtin; refine Hid.out ?_)
                          refine Lib.hid ?_
                          refine wpList_append_lies _ rfl _ _ 26 rfl w.heap.size 37 p0 _ 1 24 Try.underlying26 hp0 hq0 hq1 hq2 rfl (by omega) _ k vs rfl (by have := hown.1.alloc (.cells #[.slice Ay 4 cy] 37); rw [HLEN.out] at this; exact this) ⟨wt.heap.size, 0, none⟩ 1 1 [.slice Ay 4 cy] rfl rfl (World.news_of_block (cs := #[.slice Ay 4 cy]) (t := 37) (fr := (0, 0)) (heap_alloc_new wt _)) (by simp [Value.oneCell']) (by omega) (by unfold maxLen; omega) (by omega) (by simp <;> omega) _ rfl ?_
                          intro gg9 cp9 w9 hown9 hgrow9 hat9 hlt9
                          have CP : Below wt.heap.size wt (wt.alloc (.cells #[.slice Ay 4 cy] 37)) := bel_al (bel_refl wt) _
                          have oA := (hown.below CP).push (l := y) (Al := Ay) (cl := cy) hgrow9 (by rw [HLEN.out, HY4.out]; exact hown9) (by rw [HY4.out]; exact hy1) hy2 (hyS9.kp (Kp.bel CP))
                          have hO9 := (hO.trans (Onb.of_bel CP)).grown2 hgrow9 hcond
                          have hco9 : ∀ g', (Value.slice (some ⟨gg9, 0, none⟩) (k + 1) cp9).ownBlock = some g' → g' = w.heap.size ∨ wq.heap.size ≤ g' := fun g' e => by
                            rw [← Option.some.inj e]
                            show gg9 = w.heap.size ∨ wq.heap.size ≤ gg9
                            rcases hat9 with h9 | h9
                            · exact hcond _ h9
                            · right; rw [h9]; have := CP.size; omega
                          go_wp2
                          go_roundw
                          case rel => exact ⟨j + 1, by omega, by go_num, hO9, hco9, .inr ⟨rfl, y, _, Lib.hid (by rw [← HYY.out]; exact HF.out), oA⟩⟩
                          case measure => simp [intOf] <;> omega
                        · have HPR : Hid (prK f bs gs L k (atPP (spI f bs gs k) j) = false) := by
                            show _ = _
                            rw [HPZ.out, decide_eq_false hz0]
                          have hzb : (z == 0) = false := beq_eq_false_iff_ne.2 hz0
                          rw [hzb]
                          clear hx HPZ hz0 hzb hkl1 hlk hl0
                          go_upto_region 29 with fail
                          have hcond := HCO.out
                          have hown := hown.below bt
                          have hO := hO.trans (Onb.of_bel bt)
                          go_wp2
                          go_roundw
                          case rel => exact ⟨j + 1, by omega, by go_num, hO, hcond, .inl ⟨rfl, ⟨_, hown⟩, Lib.hid (fun x hx => by
                            rcases (show x < j ∨ x = j from by omega) with h | rfl
                            · exact HN.out x h
                            · exact HPR.out)⟩⟩
                          case measure => simp [intOf] <;> omega
                  · obtain rfl : j = nk := by omega
                    have HNO : Hid (OO = none) := by
                      show _ = _
                      rw [← HOO.out]
                      have h1 : rfQ f bs gs (k + 1) = none := by
                        rw [rfQ_s, HR.out, Option.bind_some, find_no (p := prK f bs gs L k) (fun x hx => HN.out x (by rw [hnk] at hx; exact hx))]
                        rfl
                      obtain ⟨d, hd⟩ : ∃ d, bs.length - 1 = k + d := ⟨bs.length - 1 - k, by omega⟩
                      rw [hd]
                      exact rfQ_none f bs gs k h1 d
                    have hS6 := hS.onb hO hw1
                    obtain ⟨A, c, us, cA, oA⟩ := hS6.all.at' rfl k (by omega)
                    rw [hnk] at cA
                    have bwr : Below w.heap.size w wr := b01.trans ((bw2.mono (Nat.le_of_lt hw1)).trans (hO.below (Nat.le_refl _) (by have := bw2.size; omega)))
                    go_wp2
                    exact bodyPost_ret (v := .tuple #[.slice (some ⟨wr.heap.size, 0, none⟩) 0 0, .bool false]) (by simp [results, Try.results31, go_sem]) rfl ⟨_, [], by rw [HNO.out]; rfl, by rw [HNO.out]; exact ⟨World.ownsRow_lit (base := w.heap.size) (e := 37) (size := 1) wr #[] 0 bwr.size (by simp [maxLen]) rfl, fun i hi => absurd hi (by simp)⟩, bel_al bwr _⟩
                · have HE : Hid (rfQ f bs gs (k + 1) = some (L ++ [y])) := by
                    show _ = _
                    rw [rfQ_s, HR.out, Option.bind_some, HF.out]
                    rfl
                  have hS6 := hS.onb hO hw1
                  obtain ⟨A, c, us, cA, oA⟩ := hS6.all.at' rfl k (by omega)
                  rw [hnk] at cA
                  by_cases hjl : j < nk
                  · have hji : (j : Int) < (nk : Int) := by omega
                    go_wp2
                    go_roundw
                    case rel => exact ⟨k + 1, L ++ [y], vs, by omega, by go_num, HE, hown, hcond, hO⟩
                    case measure => simp [intOf] <;> omega
                  · obtain rfl : j = nk := by omega
                    go_wp2
                    go_roundw
                    case rel => exact ⟨k + 1, L ++ [y], vs, by omega, by go_num, HE, hown, hcond, hO⟩
                    case measure => simp [intOf] <;> omega
            · obtain rfl : k = bs.length := by omega
              have HOS : Hid (OO = some L) := by
                show _ = _
                rw [← HOO.out, ← HR.out]
                obtain ⟨d, hd⟩ : ∃ d, bs.length = d + 1 := ⟨bs.length - 1, by omega⟩
                rw [hd]
                rfl
              have bwr : Below w.heap.size w wr := b01.trans ((bw2.mono (Nat.le_of_lt hw1)).trans (hO.below (Nat.le_refl _) (by have := bw2.size; omega)))
              go_wp2
              exact bodyPost_ret (v := .tuple #[u9, .bool true]) (by simp [results, Try.results31, go_sem]) rfl ⟨_, vs, by rw [HOS.out]; rfl, by rw [HOS.out]; exact hown, bwr⟩
end Go.Proofs.Ytpjakgnghpapmaa
