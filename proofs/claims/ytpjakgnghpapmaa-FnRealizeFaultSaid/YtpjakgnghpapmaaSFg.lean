/- Figures of thorough bass: the reference. -/
import Derived.Test.YtpjakgnghpapmaaFg
import Derived.Test.YtpjakgnghpapmaaBa
namespace Go.Proofs.Ytpjakgnghpapmaa
set_option linter.unusedSimpArgs false
set_option linter.unusedVariables false
open Go.RowKit

set_option maxRecDepth 20000 in
set_option maxHeartbeats 8000000 in
theorem sfg_any (f : Int) (s a o g : Int) (w : World) : Calls Try.prog 53 #[.int .i64 f, .agg #[.int .i64 s, .int .i64 a, .int .i64 o], .int .i64 g] w (FgR w (fgL f ⟨s, a, o⟩ g)) := by
  obtain ⟨i0, hi0, hz0, hz1, hz2⟩ := info_parts infoPi
  rcases stL_cases g with ⟨rfl, h⟩ | ⟨rfl, h⟩ | ⟨rfl, h⟩ | ⟨rfl, h⟩ | ⟨⟨h5, h6, h4, h7⟩, h⟩
  · by_cases hf : -7 ≤ f ∧ f ≤ 7
    · cases hv : pvB s a o
      · have HN := Lib.hid (fg_no (f := f) (b := ⟨s, a, o⟩) (g := 5) (fun z => by have := z.2.1; unfold pvQ at this; rw [hv] at this; cases this))
        have HV := Lib.hid hv
        obtain ⟨f0, f1⟩ := hf
        clear hv
        have z0 : (w.alloc (.cells #[.int .i64 s, .int .i64 a, .int .i64 o] 62)).heap.size = w.heap.size + 1 := by simp
        have z1 : ((w.alloc (.cells #[.int .i64 s, .int .i64 a, .int .i64 o] 62)).alloc (.cells #[] 3)).heap.size = w.heap.size + 2 := by simp
        have bP : Blk ((((w.alloc (.cells #[.int .i64 s, .int .i64 a, .int .i64 o] 62)).alloc (.cells #[] 3)).alloc (.cells #[.int .i64 2, .int .i64 4] 3)).alloc (.cells #[.int .i64 s, .int .i64 a, .int .i64 o] 62)) w.heap.size #[.int .i64 s, .int .i64 a, .int .i64 o] 62 := (((Blk.new w _ _).alloc _).alloc _).alloc _
        have bw : Below w.heap.size w ((((w.alloc (.cells #[.int .i64 s, .int .i64 a, .int .i64 o] 62)).alloc (.cells #[] 3)).alloc (.cells #[.int .i64 2, .int .i64 4] 3)).alloc (.cells #[.int .i64 s, .int .i64 a, .int .i64 o] 62)) := bel_al (bel_al (bel_al (bel_al (bel_refl w) _) _) _) _
        have bS : Blk ((((w.alloc (.cells #[.int .i64 s, .int .i64 a, .int .i64 o] 62)).alloc (.cells #[] 3)).alloc (.cells #[.int .i64 2, .int .i64 4] 3)).alloc (.cells #[.int .i64 s, .int .i64 a, .int .i64 o] 62)) (w.heap.size + 2) #[.int .i64 2, .int .i64 4] 3 := by rw [← z1]; exact (Blk.new ((w.alloc (.cells #[.int .i64 s, .int .i64 a, .int .i64 o] 62)).alloc (.cells #[] 3)) _ _).alloc _
        have zO : (((w.alloc (.cells #[.int .i64 s, .int .i64 a, .int .i64 o] 62)).alloc (.cells #[] 3)).alloc (.cells #[.int .i64 2, .int .i64 4] 3)).heap.size = w.heap.size + 2 + 1 := by simp
        have own0 : ((((w.alloc (.cells #[.int .i64 s, .int .i64 a, .int .i64 o] 62)).alloc (.cells #[] 3)).alloc (.cells #[.int .i64 2, .int .i64 4] 3)).alloc (.cells #[.int .i64 s, .int .i64 a, .int .i64 o] 62)).ownsRow (w.heap.size + 1) 62 3 (.slice (some ⟨w.heap.size + 2 + 1, 0, none⟩) 1 1) 1 (flat csPi [⟨s, a, o⟩]) := by rw [← zO]; exact World.ownsRow_lit (((w.alloc (.cells #[.int .i64 s, .int .i64 a, .int .i64 o] 62)).alloc (.cells #[] 3)).alloc (.cells #[.int .i64 2, .int .i64 4] 3)) #[.int .i64 s, .int .i64 a, .int .i64 o] 1 (by first | (simp; done) | (simp; omega)) (by simp [maxLen]) rfl
        clear z0 z1 zO
        go_enter Try.func53, Try.ntmps53
        go_upto_region 12 with fail
        generalize hO : w.heap.size + 2 + 1 = O at *
        generalize ((((w.alloc (.cells #[.int .i64 s, .int .i64 a, .int .i64 o] 62)).alloc (.cells #[] 3)).alloc (.cells #[.int .i64 2, .int .i64 4] 3)).alloc (.cells #[.int .i64 s, .int .i64 a, .int .i64 o] 62)) = w0 at *
        have hO2 : O < w0.heap.size := (own_lt own0 rfl).2
        have hO3 : w.heap.size + 2 + 1 ≤ O := by omega
        clear hO
        have cP0 : w0.cell? ⟨w.heap.size, 0, none⟩ = some (.int .i64 s) := by rw [Blk.cell bP]; rfl
        have cP1 : w0.cell? ⟨w.heap.size, 1, none⟩ = some (.int .i64 a) := by rw [Blk.cell bP]; rfl
        have cP2 : w0.cell? ⟨w.heap.size, 2, none⟩ = some (.int .i64 o) := by rw [Blk.cell bP]; rfl
        go_wp2_with (go_at_call 52; refine (swin_yes _ _ _ _ (by omega) (by omega)).mono ?_; rintro e w' ⟨rfl, rfl⟩)
        refine (spv_val HV.out _).mono ?_
        rintro e1 w1 ⟨rfl, b1⟩
        have bP := bP.below b1
        have bw := bel_tr bw b1
        have bS := bS.below b1
        have own0 := own_below own0 b1
        clear cP0 cP1 cP2
        go_wp2
        exact bodyPost_ret (v := .slice (some ⟨w1.heap.size, 0, none⟩) 0 0) (by simp [results, Try.results53, go_sem]) rfl ⟨_, _, by rw [HN.out]; rfl, by rw [HN.out]; exact Nat.zero_le _, by simp [maxLen], by rw [HN.out]; exact fun h => absurd h (by simp), by rw [HN.out]; exact fun h => absurd h (by simp), bel_al bw _⟩
      · have HF := Lib.hid hf
        have hb := pvB_bd hv
        obtain ⟨s0, s1, a0, a1, o0, o1⟩ := hb
        obtain ⟨d3, dk⟩ := stL_ok 5
        have HV := Lib.hid hv
        obtain ⟨f0, f1⟩ := hf
        clear hv
        have z0 : (w.alloc (.cells #[.int .i64 s, .int .i64 a, .int .i64 o] 62)).heap.size = w.heap.size + 1 := by simp
        have z1 : ((w.alloc (.cells #[.int .i64 s, .int .i64 a, .int .i64 o] 62)).alloc (.cells #[] 3)).heap.size = w.heap.size + 2 := by simp
        have bP : Blk ((((w.alloc (.cells #[.int .i64 s, .int .i64 a, .int .i64 o] 62)).alloc (.cells #[] 3)).alloc (.cells #[.int .i64 2, .int .i64 4] 3)).alloc (.cells #[.int .i64 s, .int .i64 a, .int .i64 o] 62)) w.heap.size #[.int .i64 s, .int .i64 a, .int .i64 o] 62 := (((Blk.new w _ _).alloc _).alloc _).alloc _
        have bw : Below w.heap.size w ((((w.alloc (.cells #[.int .i64 s, .int .i64 a, .int .i64 o] 62)).alloc (.cells #[] 3)).alloc (.cells #[.int .i64 2, .int .i64 4] 3)).alloc (.cells #[.int .i64 s, .int .i64 a, .int .i64 o] 62)) := bel_al (bel_al (bel_al (bel_al (bel_refl w) _) _) _) _
        have bS : Blk ((((w.alloc (.cells #[.int .i64 s, .int .i64 a, .int .i64 o] 62)).alloc (.cells #[] 3)).alloc (.cells #[.int .i64 2, .int .i64 4] 3)).alloc (.cells #[.int .i64 s, .int .i64 a, .int .i64 o] 62)) (w.heap.size + 2) #[.int .i64 2, .int .i64 4] 3 := by rw [← z1]; exact (Blk.new ((w.alloc (.cells #[.int .i64 s, .int .i64 a, .int .i64 o] 62)).alloc (.cells #[] 3)) _ _).alloc _
        have zO : (((w.alloc (.cells #[.int .i64 s, .int .i64 a, .int .i64 o] 62)).alloc (.cells #[] 3)).alloc (.cells #[.int .i64 2, .int .i64 4] 3)).heap.size = w.heap.size + 2 + 1 := by simp
        have own0 : ((((w.alloc (.cells #[.int .i64 s, .int .i64 a, .int .i64 o] 62)).alloc (.cells #[] 3)).alloc (.cells #[.int .i64 2, .int .i64 4] 3)).alloc (.cells #[.int .i64 s, .int .i64 a, .int .i64 o] 62)).ownsRow (w.heap.size + 1) 62 3 (.slice (some ⟨w.heap.size + 2 + 1, 0, none⟩) 1 1) 1 (flat csPi [⟨s, a, o⟩]) := by rw [← zO]; exact World.ownsRow_lit (((w.alloc (.cells #[.int .i64 s, .int .i64 a, .int .i64 o] 62)).alloc (.cells #[] 3)).alloc (.cells #[.int .i64 2, .int .i64 4] 3)) #[.int .i64 s, .int .i64 a, .int .i64 o] 1 (by first | (simp; done) | (simp; omega)) (by simp [maxLen]) rfl
        clear z0 z1 zO
        go_enter Try.func53, Try.ntmps53
        go_upto_region 12 with fail
        generalize hO : w.heap.size + 2 + 1 = O at *
        generalize ((((w.alloc (.cells #[.int .i64 s, .int .i64 a, .int .i64 o] 62)).alloc (.cells #[] 3)).alloc (.cells #[.int .i64 2, .int .i64 4] 3)).alloc (.cells #[.int .i64 s, .int .i64 a, .int .i64 o] 62)) = w0 at *
        have hO2 : O < w0.heap.size := (own_lt own0 rfl).2
        have hO3 : w.heap.size + 2 + 1 ≤ O := by omega
        clear hO
        have cP0 : w0.cell? ⟨w.heap.size, 0, none⟩ = some (.int .i64 s) := by rw [Blk.cell bP]; rfl
        have cP1 : w0.cell? ⟨w.heap.size, 1, none⟩ = some (.int .i64 a) := by rw [Blk.cell bP]; rfl
        have cP2 : w0.cell? ⟨w.heap.size, 2, none⟩ = some (.int .i64 o) := by rw [Blk.cell bP]; rfl
        go_wp2_with (go_at_call 52; refine (swin_yes _ _ _ _ (by omega) (by omega)).mono ?_; rintro e w' ⟨rfl, rfl⟩)
        refine (spv_val HV.out _).mono ?_
        rintro e1 w1 ⟨rfl, b1⟩
        have bP := bP.below b1
        have bw := bel_tr bw b1
        have bS := bS.below b1
        have own0 := own_below own0 b1
        clear cP0 cP1 cP2
        have hcs : ∀ i, i < (stL 5).length → w1.cell? ⟨w.heap.size + 2, 0 + i, none⟩ = some (.int .i64 ((stL 5).getD i 0)) := by
          rw [h]
          intro i hi
          rw [Nat.zero_add, Blk.cell bS]
          rcases (show i = 0 ∨ i = 1 from by simp at hi; omega) with rfl | rfl <;> rfl
        have hbs := bS.lt
        have hDn : (stL 5).length = 2 := by rw [h]; rfl
        have FS0 : FgS w w1 (w.heap.size + 2) s a o (.slice (some ⟨O, 0, none⟩) 1 1) w1 := ⟨rfl, hbs, bP, bw, fun g e => by have e2 : O = g := Option.some.inj e; omega⟩
        generalize hD : stL 5 = D at *
        have HDD := Lib.hid hD
        clear hD h bS
        generalize w.heap.size + 2 = bs at *
        go_wp2_with fail
        go_loopw [8, 9, 10, 11] (fun out i _ _ wr => ∃ k : Nat, k ≤ D.length ∧ i = .int .i64 k ∧ wr.ownsRow (w.heap.size + 1) 62 3 out (fgK f (plI ⟨s, a, o⟩) ⟨s, a, o⟩ D k).length (flat csPi (fgK f (plI ⟨s, a, o⟩) ⟨s, a, o⟩ D k)) ∧ FgS w w1 bs s a o out wr ∧ Hid (∀ j, j < k → pvQ (kpP f (plI ⟨s, a, o⟩ + D.getD j 0)))) (fun _ i _ _ _ => D.length - (intOf i).toNat)
        case atStart => exact ⟨0, Nat.zero_le _, rfl, own0, FS0, fun j hj => absurd hj (by omega)⟩
        case round =>
          obtain ⟨k, hk, rfl, hown, FS, HK⟩ := hrel
          clear own0 FS0
          have hlen2 := fgK_len f (plI ⟨s, a, o⟩) ⟨s, a, o⟩ D k
          have bP := FS.2.2.1
          have hbwr := FS.2.2.2.1
          have hk0 : (0 : Int) ≤ (k : Int) := by omega
          by_cases hlt : k < D.length
          · have hki : (k : Int) < 2 := by omega
            have hst : wr.cell? ⟨bs, 0 + k, none⟩ = some (.int .i64 (D.getD k 0)) := (World.cell?_of_block (a := ⟨bs, 0 + k, none⟩) FS.1).trans (hcs k hlt)
            rw [Nat.zero_add] at hst
            generalize hL : fgK f (plI ⟨s, a, o⟩) ⟨s, a, o⟩ D k = L at hown hlen2
            have HL := Lib.hid hL
            have hL5 : L.length ≤ 5 := by omega
            clear hL hlen2
            obtain ⟨d, hd⟩ : ∃ d, D.getD k 0 = d := ⟨_, rfl⟩
            obtain ⟨e0, e1⟩ := dk k hlt
            rw [hd] at e0 e1 hst
            have HDK := Lib.hid hd
            clear hd
            obtain ⟨pl, hpl⟩ : ∃ x, 7 * o + s + d = x := ⟨_, rfl⟩
            have p0 : 0 ≤ pl := by omega
            have p1 : pl ≤ 1000 := by omega
            have p2 : 0 ≤ pl % 7 := by omega
            have p3 : pl % 7 ≤ 6 := by omega
            have p4 : 0 ≤ pl / 7 := by omega
            have i1 := IntWalk.i64_in (7 * o + s + d) (by omega)
            rw [hpl] at i1
            obtain ⟨x, hx⟩ : ∃ x, alI f (pl % 7) = x := ⟨_, rfl⟩
            have HAL := Lib.hid hx
            have HPL := Lib.hid (show kpP f (plI ⟨s, a, o⟩ + D.getD k 0) = ⟨pl % 7, x, pl / 7⟩ from by unfold plI kpP; rw [HDK.out]; simp only; rw [hpl, hx])
            clear hx
            have cP0 : wr.cell? ⟨w.heap.size, 0, none⟩ = some (.int .i64 s) := by rw [Blk.cell bP]; rfl
            have cP1 : wr.cell? ⟨w.heap.size, 1, none⟩ = some (.int .i64 a) := by rw [Blk.cell bP]; rfl
            have cP2 : wr.cell? ⟨w.heap.size, 2, none⟩ = some (.int .i64 o) := by rw [Blk.cell bP]; rfl
            go_wp2_with fail
            have LA : ∀ xL : Later wr, Calls Try.prog 76 #[.agg #[.int .i64 s, .int .i64 a, .int .i64 o]] xL.world fun e w'' => e = .returned (.int .i64 (7 * o + s)) ∧ ∃ z : Later wr, w'' = z.world := fun xL => later_call (spp_yes s a o xL.world HV.out)
            have lf0 : ∀ xL : Later wr, xL.world.cell? ⟨w.heap.size, 0, none⟩ = some (.int .i64 s) := fun xL => xL.at (cP0)
            have lf1 : ∀ xL : Later wr, xL.world.cell? ⟨w.heap.size, 1, none⟩ = some (.int .i64 a) := fun xL => xL.at (cP1)
            have lf2 : ∀ xL : Later wr, xL.world.cell? ⟨w.heap.size, 2, none⟩ = some (.int .i64 o) := fun xL => xL.at (cP2)
            have lf3 : ∀ xL : Later wr, xL.world.cell? ⟨bs, k, none⟩ = some (.int .i64 d) := fun xL => xL.at (hst)
            refine region_later (w0 := wr) (by kernel_rfl) (by kernel_rfl) (bel_refl _) ?_
            repeat (go_big_quiet_step ((go_at_call 76; exact LA _)))
            refine wpQuiet_nil ?_
            rintro w' ⟨x, rfl⟩
            obtain ⟨w4, b4⟩ := x
            clear lf0 lf1 lf2 lf3
            clear LA cP0 cP1 cP2 hst
            have hownX := own_below hown b4
            go_wp2_with fail
            refine (sal_val HAL.out _ p2 p3 (by omega) (by omega)).mono ?_
            rintro e5 w5 ⟨rfl, b5⟩
            have b5 := bel_tr b4 b5
            have hownX := own_below hown b5
            have bX : Blk (w5.alloc (.cells #[.int .i64 (pl % 7), .int .i64 x, .int .i64 (pl / 7)] 62)) w5.heap.size #[.int .i64 (pl % 7), .int .i64 x, .int .i64 (pl / 7)] 62 := Blk.new w5 _ _
            have hownX := hownX.alloc (.cells #[.int .i64 (pl % 7), .int .i64 x, .int .i64 (pl / 7)] 62)
            have hbX : Below wr.heap.size wr (w5.alloc (.cells #[.int .i64 (pl % 7), .int .i64 x, .int .i64 (pl / 7)] 62)) := bel_al b5 _
            go_upto_region 19 with fail
            clear hown b4 b5
            generalize (w5.alloc (.cells #[.int .i64 (pl % 7), .int .i64 x, .int .i64 (pl / 7)] 62)) = v at *
            generalize w5.heap.size = X at *
            have m0 : v.cell? ⟨X, 0, none⟩ = some (.int .i64 (pl % 7)) := by rw [Blk.cell bX]; rfl
            have m1 : v.cell? ⟨X, 1, none⟩ = some (.int .i64 x) := by rw [Blk.cell bX]; rfl
            have m2 : v.cell? ⟨X, 2, none⟩ = some (.int .i64 (pl / 7)) := by rw [Blk.cell bX]; rfl
            cases hq : pvB (pl % 7) x (pl / 7)
            · have HN := Lib.hid (fg_no (f := f) (b := ⟨s, a, o⟩) (g := 5) (fun z => by have h := z.2.2.2 k (by rw [HDD.out]; omega); unfold pvQ at h; rw [HDD.out, HPL.out] at h; simp only at h; rw [hq] at h; cases h))
              have HQ := Lib.hid hq
              clear hq
              go_wp2_with fail
              refine (spv_val HQ.out _).mono ?_
              rintro e6 w6 ⟨rfl, b6⟩
              have bX := bX.below b6
              have hownX := own_below hownX b6
              have hbX : Below wr.heap.size wr w6 := bel_tr hbX b6
              clear b6 m0 m1 m2
              have hbw := bel_tr hbwr hbX
              go_wp2
              exact bodyPost_ret (v := .slice (some ⟨w6.heap.size, 0, none⟩) 0 0) (by simp [results, Try.results53, go_sem]) rfl ⟨_, _, by rw [HN.out]; rfl, by rw [HN.out]; exact Nat.zero_le _, by simp [maxLen], by rw [HN.out]; exact fun h => absurd h (by simp), by rw [HN.out]; exact fun h => absurd h (by simp), bel_al hbw _⟩
            · have HOK : Hid (pvQ (kpP f (plI ⟨s, a, o⟩ + D.getD k 0))) := by show pvQ _; rw [HPL.out]; exact hq
              have HQ := Lib.hid hq
              clear hq
              go_wp2_with fail
              refine (spv_val HQ.out _).mono ?_
              rintro e6 w6 ⟨rfl, b6⟩
              have bX := bX.below b6
              have hownX := own_below hownX b6
              have hbX : Below wr.heap.size wr w6 := bel_tr hbX b6
              clear b6 m0 m1 m2
              have m0 : w6.cell? ⟨X, 0, none⟩ = some (.int .i64 (pl % 7)) := by rw [Blk.cell bX]; rfl
              have m1 : w6.cell? ⟨X, 1, none⟩ = some (.int .i64 x) := by rw [Blk.cell bX]; rfl
              have m2 : w6.cell? ⟨X, 2, none⟩ = some (.int .i64 (pl / 7)) := by rw [Blk.cell bX]; rfl
              have hw6 := hbX.size
              have hbs6 := hbwr.size
              go_wp2_with (at_builtin; go_must (refine wpList_append_lies _ rfl _ _ 37 rfl (w.heap.size + 1) 62 i0 _ 3 24 Try.underlying37 hi0 hz0 hz1 hz2 rfl (by omega) _ L.length (flat csPi L) rfl (hownX.alloc _) ⟨w6.heap.size, 0, none⟩ 1 1 [.int .i64 (pl % 7), .int .i64 x, .int .i64 (pl / 7)] rfl rfl (World.news_of_block (cs := #[.int .i64 (pl % 7), .int .i64 x, .int .i64 (pl / 7)]) (t := 62) (fr := (0, 0)) (heap_alloc_new w6 _)) (by simp [Value.oneCell']) (by omega) (by unfold maxLen; omega) (by omega) (by simp; omega) _ rfl ?_; intro gg9 cp9 w9 hown9 hgrow9 hat9 hlt9))
              have FS9 := FS.grow (n := L.length + 1) (c := cp9) (bel_al hbX (.cells #[.int .i64 (pl % 7), .int .i64 x, .int .i64 (pl / 7)] 62)) hgrow9 (fun k hk => own_ge hownX k hk) hat9 (Nat.le_trans hw6 (by simp))
              have hq := own_push (t := (⟨(pl % 7), x, (pl / 7)⟩ : Pi)) hown9 rfl
              go_roundw
              case rel => exact ⟨k + 1, by omega, by go_num, by rw [show fgK f (plI ⟨s, a, o⟩) ⟨s, a, o⟩ D (k + 1) = fgK f (plI ⟨s, a, o⟩) ⟨s, a, o⟩ D k ++ [kpP f (plI ⟨s, a, o⟩ + D.getD k 0)] from rfl, HL.out, HPL.out]; exact hq, FS9, hid_snoc HK HOK.out⟩
              case measure => simp [intOf]; omega
          · obtain rfl : k = D.length := by omega
            have hki : ¬ (D.length : Int) < 2 := by omega
            have HE := Lib.hid (fg_yes (f := f) (b := ⟨s, a, o⟩) (g := 5) ⟨HF.out, HV.out, by rw [HDD.out]; omega, by rw [HDD.out]; exact HK.out⟩)
            have HEL := Lib.hid (show fgL f ⟨s, a, o⟩ 5 = fgK f (plI ⟨s, a, o⟩) ⟨s, a, o⟩ D D.length from by rw [HE.out, HDD.out])
            obtain ⟨A9, c9, rfl, lc9, cm9, r9, o9⟩ := own_rowPi hown
            go_wp2
            exact bodyPost_ret (v := .slice A9 (fgK f (plI ⟨s, a, o⟩) ⟨s, a, o⟩ D D.length).length c9) (by simp [results, Try.results53, go_sem, hDn]) rfl ⟨_, _, by rw [HEL.out], by rw [HEL.out]; exact lc9, cm9, by rw [HEL.out]; exact r9, by rw [HEL.out]; exact fun hh => by obtain ⟨b, off, e, g1, g2⟩ := o9 hh; exact ⟨b, off, e, by omega, g2⟩, hbwr⟩
    · have HN := Lib.hid (fg_no (f := f) (b := ⟨s, a, o⟩) (g := 5) (fun z => hf z.1))
      have z0 : (w.alloc (.cells #[.int .i64 s, .int .i64 a, .int .i64 o] 62)).heap.size = w.heap.size + 1 := by simp
      have z1 : ((w.alloc (.cells #[.int .i64 s, .int .i64 a, .int .i64 o] 62)).alloc (.cells #[] 3)).heap.size = w.heap.size + 2 := by simp
      have bP : Blk ((((w.alloc (.cells #[.int .i64 s, .int .i64 a, .int .i64 o] 62)).alloc (.cells #[] 3)).alloc (.cells #[.int .i64 2, .int .i64 4] 3)).alloc (.cells #[.int .i64 s, .int .i64 a, .int .i64 o] 62)) w.heap.size #[.int .i64 s, .int .i64 a, .int .i64 o] 62 := (((Blk.new w _ _).alloc _).alloc _).alloc _
      have bw : Below w.heap.size w ((((w.alloc (.cells #[.int .i64 s, .int .i64 a, .int .i64 o] 62)).alloc (.cells #[] 3)).alloc (.cells #[.int .i64 2, .int .i64 4] 3)).alloc (.cells #[.int .i64 s, .int .i64 a, .int .i64 o] 62)) := bel_al (bel_al (bel_al (bel_al (bel_refl w) _) _) _) _
      have bS : Blk ((((w.alloc (.cells #[.int .i64 s, .int .i64 a, .int .i64 o] 62)).alloc (.cells #[] 3)).alloc (.cells #[.int .i64 2, .int .i64 4] 3)).alloc (.cells #[.int .i64 s, .int .i64 a, .int .i64 o] 62)) (w.heap.size + 2) #[.int .i64 2, .int .i64 4] 3 := by rw [← z1]; exact (Blk.new ((w.alloc (.cells #[.int .i64 s, .int .i64 a, .int .i64 o] 62)).alloc (.cells #[] 3)) _ _).alloc _
      have zO : (((w.alloc (.cells #[.int .i64 s, .int .i64 a, .int .i64 o] 62)).alloc (.cells #[] 3)).alloc (.cells #[.int .i64 2, .int .i64 4] 3)).heap.size = w.heap.size + 2 + 1 := by simp
      have own0 : ((((w.alloc (.cells #[.int .i64 s, .int .i64 a, .int .i64 o] 62)).alloc (.cells #[] 3)).alloc (.cells #[.int .i64 2, .int .i64 4] 3)).alloc (.cells #[.int .i64 s, .int .i64 a, .int .i64 o] 62)).ownsRow (w.heap.size + 1) 62 3 (.slice (some ⟨w.heap.size + 2 + 1, 0, none⟩) 1 1) 1 (flat csPi [⟨s, a, o⟩]) := by rw [← zO]; exact World.ownsRow_lit (((w.alloc (.cells #[.int .i64 s, .int .i64 a, .int .i64 o] 62)).alloc (.cells #[] 3)).alloc (.cells #[.int .i64 2, .int .i64 4] 3)) #[.int .i64 s, .int .i64 a, .int .i64 o] 1 (by first | (simp; done) | (simp; omega)) (by simp [maxLen]) rfl
      clear z0 z1 zO
      go_enter Try.func53, Try.ntmps53
      go_upto_region 12 with fail
      generalize hO : w.heap.size + 2 + 1 = O at *
      generalize ((((w.alloc (.cells #[.int .i64 s, .int .i64 a, .int .i64 o] 62)).alloc (.cells #[] 3)).alloc (.cells #[.int .i64 2, .int .i64 4] 3)).alloc (.cells #[.int .i64 s, .int .i64 a, .int .i64 o] 62)) = w0 at *
      have hO2 : O < w0.heap.size := (own_lt own0 rfl).2
      have hO3 : w.heap.size + 2 + 1 ≤ O := by omega
      clear hO
      have cP0 : w0.cell? ⟨w.heap.size, 0, none⟩ = some (.int .i64 s) := by rw [Blk.cell bP]; rfl
      have cP1 : w0.cell? ⟨w.heap.size, 1, none⟩ = some (.int .i64 a) := by rw [Blk.cell bP]; rfl
      have cP2 : w0.cell? ⟨w.heap.size, 2, none⟩ = some (.int .i64 o) := by rw [Blk.cell bP]; rfl
      go_wp2_with (go_at_call 52; refine (swin_no _ _ _ _ (by omega)).mono ?_; rintro e w' ⟨rfl, rfl⟩)
      exact bodyPost_ret (v := .slice (some ⟨w0.heap.size, 0, none⟩) 0 0) (by simp [results, Try.results53, go_sem]) rfl ⟨_, _, by rw [HN.out]; rfl, by rw [HN.out]; exact Nat.zero_le _, by simp [maxLen], by rw [HN.out]; exact fun h => absurd h (by simp), by rw [HN.out]; exact fun h => absurd h (by simp), bel_al bw _⟩
  · by_cases hf : -7 ≤ f ∧ f ≤ 7
    · cases hv : pvB s a o
      · have HN := Lib.hid (fg_no (f := f) (b := ⟨s, a, o⟩) (g := 6) (fun z => by have := z.2.1; unfold pvQ at this; rw [hv] at this; cases this))
        have HV := Lib.hid hv
        obtain ⟨f0, f1⟩ := hf
        clear hv
        have z0 : (w.alloc (.cells #[.int .i64 s, .int .i64 a, .int .i64 o] 62)).heap.size = w.heap.size + 1 := by simp
        have z1 : ((w.alloc (.cells #[.int .i64 s, .int .i64 a, .int .i64 o] 62)).alloc (.cells #[] 3)).heap.size = w.heap.size + 2 := by simp
        have bP : Blk ((((w.alloc (.cells #[.int .i64 s, .int .i64 a, .int .i64 o] 62)).alloc (.cells #[] 3)).alloc (.cells #[.int .i64 2, .int .i64 5] 3)).alloc (.cells #[.int .i64 s, .int .i64 a, .int .i64 o] 62)) w.heap.size #[.int .i64 s, .int .i64 a, .int .i64 o] 62 := (((Blk.new w _ _).alloc _).alloc _).alloc _
        have bw : Below w.heap.size w ((((w.alloc (.cells #[.int .i64 s, .int .i64 a, .int .i64 o] 62)).alloc (.cells #[] 3)).alloc (.cells #[.int .i64 2, .int .i64 5] 3)).alloc (.cells #[.int .i64 s, .int .i64 a, .int .i64 o] 62)) := bel_al (bel_al (bel_al (bel_al (bel_refl w) _) _) _) _
        have bS : Blk ((((w.alloc (.cells #[.int .i64 s, .int .i64 a, .int .i64 o] 62)).alloc (.cells #[] 3)).alloc (.cells #[.int .i64 2, .int .i64 5] 3)).alloc (.cells #[.int .i64 s, .int .i64 a, .int .i64 o] 62)) (w.heap.size + 2) #[.int .i64 2, .int .i64 5] 3 := by rw [← z1]; exact (Blk.new ((w.alloc (.cells #[.int .i64 s, .int .i64 a, .int .i64 o] 62)).alloc (.cells #[] 3)) _ _).alloc _
        have zO : (((w.alloc (.cells #[.int .i64 s, .int .i64 a, .int .i64 o] 62)).alloc (.cells #[] 3)).alloc (.cells #[.int .i64 2, .int .i64 5] 3)).heap.size = w.heap.size + 2 + 1 := by simp
        have own0 : ((((w.alloc (.cells #[.int .i64 s, .int .i64 a, .int .i64 o] 62)).alloc (.cells #[] 3)).alloc (.cells #[.int .i64 2, .int .i64 5] 3)).alloc (.cells #[.int .i64 s, .int .i64 a, .int .i64 o] 62)).ownsRow (w.heap.size + 1) 62 3 (.slice (some ⟨w.heap.size + 2 + 1, 0, none⟩) 1 1) 1 (flat csPi [⟨s, a, o⟩]) := by rw [← zO]; exact World.ownsRow_lit (((w.alloc (.cells #[.int .i64 s, .int .i64 a, .int .i64 o] 62)).alloc (.cells #[] 3)).alloc (.cells #[.int .i64 2, .int .i64 5] 3)) #[.int .i64 s, .int .i64 a, .int .i64 o] 1 (by first | (simp; done) | (simp; omega)) (by simp [maxLen]) rfl
        clear z0 z1 zO
        go_enter Try.func53, Try.ntmps53
        go_upto_region 12 with fail
        generalize hO : w.heap.size + 2 + 1 = O at *
        generalize ((((w.alloc (.cells #[.int .i64 s, .int .i64 a, .int .i64 o] 62)).alloc (.cells #[] 3)).alloc (.cells #[.int .i64 2, .int .i64 5] 3)).alloc (.cells #[.int .i64 s, .int .i64 a, .int .i64 o] 62)) = w0 at *
        have hO2 : O < w0.heap.size := (own_lt own0 rfl).2
        have hO3 : w.heap.size + 2 + 1 ≤ O := by omega
        clear hO
        have cP0 : w0.cell? ⟨w.heap.size, 0, none⟩ = some (.int .i64 s) := by rw [Blk.cell bP]; rfl
        have cP1 : w0.cell? ⟨w.heap.size, 1, none⟩ = some (.int .i64 a) := by rw [Blk.cell bP]; rfl
        have cP2 : w0.cell? ⟨w.heap.size, 2, none⟩ = some (.int .i64 o) := by rw [Blk.cell bP]; rfl
        go_wp2_with (go_at_call 52; refine (swin_yes _ _ _ _ (by omega) (by omega)).mono ?_; rintro e w' ⟨rfl, rfl⟩)
        refine (spv_val HV.out _).mono ?_
        rintro e1 w1 ⟨rfl, b1⟩
        have bP := bP.below b1
        have bw := bel_tr bw b1
        have bS := bS.below b1
        have own0 := own_below own0 b1
        clear cP0 cP1 cP2
        go_wp2
        exact bodyPost_ret (v := .slice (some ⟨w1.heap.size, 0, none⟩) 0 0) (by simp [results, Try.results53, go_sem]) rfl ⟨_, _, by rw [HN.out]; rfl, by rw [HN.out]; exact Nat.zero_le _, by simp [maxLen], by rw [HN.out]; exact fun h => absurd h (by simp), by rw [HN.out]; exact fun h => absurd h (by simp), bel_al bw _⟩
      · have HF := Lib.hid hf
        have hb := pvB_bd hv
        obtain ⟨s0, s1, a0, a1, o0, o1⟩ := hb
        obtain ⟨d3, dk⟩ := stL_ok 6
        have HV := Lib.hid hv
        obtain ⟨f0, f1⟩ := hf
        clear hv
        have z0 : (w.alloc (.cells #[.int .i64 s, .int .i64 a, .int .i64 o] 62)).heap.size = w.heap.size + 1 := by simp
        have z1 : ((w.alloc (.cells #[.int .i64 s, .int .i64 a, .int .i64 o] 62)).alloc (.cells #[] 3)).heap.size = w.heap.size + 2 := by simp
        have bP : Blk ((((w.alloc (.cells #[.int .i64 s, .int .i64 a, .int .i64 o] 62)).alloc (.cells #[] 3)).alloc (.cells #[.int .i64 2, .int .i64 5] 3)).alloc (.cells #[.int .i64 s, .int .i64 a, .int .i64 o] 62)) w.heap.size #[.int .i64 s, .int .i64 a, .int .i64 o] 62 := (((Blk.new w _ _).alloc _).alloc _).alloc _
        have bw : Below w.heap.size w ((((w.alloc (.cells #[.int .i64 s, .int .i64 a, .int .i64 o] 62)).alloc (.cells #[] 3)).alloc (.cells #[.int .i64 2, .int .i64 5] 3)).alloc (.cells #[.int .i64 s, .int .i64 a, .int .i64 o] 62)) := bel_al (bel_al (bel_al (bel_al (bel_refl w) _) _) _) _
        have bS : Blk ((((w.alloc (.cells #[.int .i64 s, .int .i64 a, .int .i64 o] 62)).alloc (.cells #[] 3)).alloc (.cells #[.int .i64 2, .int .i64 5] 3)).alloc (.cells #[.int .i64 s, .int .i64 a, .int .i64 o] 62)) (w.heap.size + 2) #[.int .i64 2, .int .i64 5] 3 := by rw [← z1]; exact (Blk.new ((w.alloc (.cells #[.int .i64 s, .int .i64 a, .int .i64 o] 62)).alloc (.cells #[] 3)) _ _).alloc _
        have zO : (((w.alloc (.cells #[.int .i64 s, .int .i64 a, .int .i64 o] 62)).alloc (.cells #[] 3)).alloc (.cells #[.int .i64 2, .int .i64 5] 3)).heap.size = w.heap.size + 2 + 1 := by simp
        have own0 : ((((w.alloc (.cells #[.int .i64 s, .int .i64 a, .int .i64 o] 62)).alloc (.cells #[] 3)).alloc (.cells #[.int .i64 2, .int .i64 5] 3)).alloc (.cells #[.int .i64 s, .int .i64 a, .int .i64 o] 62)).ownsRow (w.heap.size + 1) 62 3 (.slice (some ⟨w.heap.size + 2 + 1, 0, none⟩) 1 1) 1 (flat csPi [⟨s, a, o⟩]) := by rw [← zO]; exact World.ownsRow_lit (((w.alloc (.cells #[.int .i64 s, .int .i64 a, .int .i64 o] 62)).alloc (.cells #[] 3)).alloc (.cells #[.int .i64 2, .int .i64 5] 3)) #[.int .i64 s, .int .i64 a, .int .i64 o] 1 (by first | (simp; done) | (simp; omega)) (by simp [maxLen]) rfl
        clear z0 z1 zO
        go_enter Try.func53, Try.ntmps53
        go_upto_region 12 with fail
        generalize hO : w.heap.size + 2 + 1 = O at *
        generalize ((((w.alloc (.cells #[.int .i64 s, .int .i64 a, .int .i64 o] 62)).alloc (.cells #[] 3)).alloc (.cells #[.int .i64 2, .int .i64 5] 3)).alloc (.cells #[.int .i64 s, .int .i64 a, .int .i64 o] 62)) = w0 at *
        have hO2 : O < w0.heap.size := (own_lt own0 rfl).2
        have hO3 : w.heap.size + 2 + 1 ≤ O := by omega
        clear hO
        have cP0 : w0.cell? ⟨w.heap.size, 0, none⟩ = some (.int .i64 s) := by rw [Blk.cell bP]; rfl
        have cP1 : w0.cell? ⟨w.heap.size, 1, none⟩ = some (.int .i64 a) := by rw [Blk.cell bP]; rfl
        have cP2 : w0.cell? ⟨w.heap.size, 2, none⟩ = some (.int .i64 o) := by rw [Blk.cell bP]; rfl
        go_wp2_with (go_at_call 52; refine (swin_yes _ _ _ _ (by omega) (by omega)).mono ?_; rintro e w' ⟨rfl, rfl⟩)
        refine (spv_val HV.out _).mono ?_
        rintro e1 w1 ⟨rfl, b1⟩
        have bP := bP.below b1
        have bw := bel_tr bw b1
        have bS := bS.below b1
        have own0 := own_below own0 b1
        clear cP0 cP1 cP2
        have hcs : ∀ i, i < (stL 6).length → w1.cell? ⟨w.heap.size + 2, 0 + i, none⟩ = some (.int .i64 ((stL 6).getD i 0)) := by
          rw [h]
          intro i hi
          rw [Nat.zero_add, Blk.cell bS]
          rcases (show i = 0 ∨ i = 1 from by simp at hi; omega) with rfl | rfl <;> rfl
        have hbs := bS.lt
        have hDn : (stL 6).length = 2 := by rw [h]; rfl
        have FS0 : FgS w w1 (w.heap.size + 2) s a o (.slice (some ⟨O, 0, none⟩) 1 1) w1 := ⟨rfl, hbs, bP, bw, fun g e => by have e2 : O = g := Option.some.inj e; omega⟩
        generalize hD : stL 6 = D at *
        have HDD := Lib.hid hD
        clear hD h bS
        generalize w.heap.size + 2 = bs at *
        go_wp2_with fail
        go_loopw [8, 9, 10, 11] (fun out i _ _ wr => ∃ k : Nat, k ≤ D.length ∧ i = .int .i64 k ∧ wr.ownsRow (w.heap.size + 1) 62 3 out (fgK f (plI ⟨s, a, o⟩) ⟨s, a, o⟩ D k).length (flat csPi (fgK f (plI ⟨s, a, o⟩) ⟨s, a, o⟩ D k)) ∧ FgS w w1 bs s a o out wr ∧ Hid (∀ j, j < k → pvQ (kpP f (plI ⟨s, a, o⟩ + D.getD j 0)))) (fun _ i _ _ _ => D.length - (intOf i).toNat)
        case atStart => exact ⟨0, Nat.zero_le _, rfl, own0, FS0, fun j hj => absurd hj (by omega)⟩
        case round =>
          obtain ⟨k, hk, rfl, hown, FS, HK⟩ := hrel
          clear own0 FS0
          have hlen2 := fgK_len f (plI ⟨s, a, o⟩) ⟨s, a, o⟩ D k
          have bP := FS.2.2.1
          have hbwr := FS.2.2.2.1
          have hk0 : (0 : Int) ≤ (k : Int) := by omega
          by_cases hlt : k < D.length
          · have hki : (k : Int) < 2 := by omega
            have hst : wr.cell? ⟨bs, 0 + k, none⟩ = some (.int .i64 (D.getD k 0)) := (World.cell?_of_block (a := ⟨bs, 0 + k, none⟩) FS.1).trans (hcs k hlt)
            rw [Nat.zero_add] at hst
            generalize hL : fgK f (plI ⟨s, a, o⟩) ⟨s, a, o⟩ D k = L at hown hlen2
            have HL := Lib.hid hL
            have hL5 : L.length ≤ 5 := by omega
            clear hL hlen2
            obtain ⟨d, hd⟩ : ∃ d, D.getD k 0 = d := ⟨_, rfl⟩
            obtain ⟨e0, e1⟩ := dk k hlt
            rw [hd] at e0 e1 hst
            have HDK := Lib.hid hd
            clear hd
            obtain ⟨pl, hpl⟩ : ∃ x, 7 * o + s + d = x := ⟨_, rfl⟩
            have p0 : 0 ≤ pl := by omega
            have p1 : pl ≤ 1000 := by omega
            have p2 : 0 ≤ pl % 7 := by omega
            have p3 : pl % 7 ≤ 6 := by omega
            have p4 : 0 ≤ pl / 7 := by omega
            have i1 := IntWalk.i64_in (7 * o + s + d) (by omega)
            rw [hpl] at i1
            obtain ⟨x, hx⟩ : ∃ x, alI f (pl % 7) = x := ⟨_, rfl⟩
            have HAL := Lib.hid hx
            have HPL := Lib.hid (show kpP f (plI ⟨s, a, o⟩ + D.getD k 0) = ⟨pl % 7, x, pl / 7⟩ from by unfold plI kpP; rw [HDK.out]; simp only; rw [hpl, hx])
            clear hx
            have cP0 : wr.cell? ⟨w.heap.size, 0, none⟩ = some (.int .i64 s) := by rw [Blk.cell bP]; rfl
            have cP1 : wr.cell? ⟨w.heap.size, 1, none⟩ = some (.int .i64 a) := by rw [Blk.cell bP]; rfl
            have cP2 : wr.cell? ⟨w.heap.size, 2, none⟩ = some (.int .i64 o) := by rw [Blk.cell bP]; rfl
            go_wp2_with fail
            have LA : ∀ xL : Later wr, Calls Try.prog 76 #[.agg #[.int .i64 s, .int .i64 a, .int .i64 o]] xL.world fun e w'' => e = .returned (.int .i64 (7 * o + s)) ∧ ∃ z : Later wr, w'' = z.world := fun xL => later_call (spp_yes s a o xL.world HV.out)
            have lf0 : ∀ xL : Later wr, xL.world.cell? ⟨w.heap.size, 0, none⟩ = some (.int .i64 s) := fun xL => xL.at (cP0)
            have lf1 : ∀ xL : Later wr, xL.world.cell? ⟨w.heap.size, 1, none⟩ = some (.int .i64 a) := fun xL => xL.at (cP1)
            have lf2 : ∀ xL : Later wr, xL.world.cell? ⟨w.heap.size, 2, none⟩ = some (.int .i64 o) := fun xL => xL.at (cP2)
            have lf3 : ∀ xL : Later wr, xL.world.cell? ⟨bs, k, none⟩ = some (.int .i64 d) := fun xL => xL.at (hst)
            refine region_later (w0 := wr) (by kernel_rfl) (by kernel_rfl) (bel_refl _) ?_
            repeat (go_big_quiet_step ((go_at_call 76; exact LA _)))
            refine wpQuiet_nil ?_
            rintro w' ⟨x, rfl⟩
            obtain ⟨w4, b4⟩ := x
            clear lf0 lf1 lf2 lf3
            clear LA cP0 cP1 cP2 hst
            have hownX := own_below hown b4
            go_wp2_with fail
            refine (sal_val HAL.out _ p2 p3 (by omega) (by omega)).mono ?_
            rintro e5 w5 ⟨rfl, b5⟩
            have b5 := bel_tr b4 b5
            have hownX := own_below hown b5
            have bX : Blk (w5.alloc (.cells #[.int .i64 (pl % 7), .int .i64 x, .int .i64 (pl / 7)] 62)) w5.heap.size #[.int .i64 (pl % 7), .int .i64 x, .int .i64 (pl / 7)] 62 := Blk.new w5 _ _
            have hownX := hownX.alloc (.cells #[.int .i64 (pl % 7), .int .i64 x, .int .i64 (pl / 7)] 62)
            have hbX : Below wr.heap.size wr (w5.alloc (.cells #[.int .i64 (pl % 7), .int .i64 x, .int .i64 (pl / 7)] 62)) := bel_al b5 _
            go_upto_region 19 with fail
            clear hown b4 b5
            generalize (w5.alloc (.cells #[.int .i64 (pl % 7), .int .i64 x, .int .i64 (pl / 7)] 62)) = v at *
            generalize w5.heap.size = X at *
            have m0 : v.cell? ⟨X, 0, none⟩ = some (.int .i64 (pl % 7)) := by rw [Blk.cell bX]; rfl
            have m1 : v.cell? ⟨X, 1, none⟩ = some (.int .i64 x) := by rw [Blk.cell bX]; rfl
            have m2 : v.cell? ⟨X, 2, none⟩ = some (.int .i64 (pl / 7)) := by rw [Blk.cell bX]; rfl
            cases hq : pvB (pl % 7) x (pl / 7)
            · have HN := Lib.hid (fg_no (f := f) (b := ⟨s, a, o⟩) (g := 6) (fun z => by have h := z.2.2.2 k (by rw [HDD.out]; omega); unfold pvQ at h; rw [HDD.out, HPL.out] at h; simp only at h; rw [hq] at h; cases h))
              have HQ := Lib.hid hq
              clear hq
              go_wp2_with fail
              refine (spv_val HQ.out _).mono ?_
              rintro e6 w6 ⟨rfl, b6⟩
              have bX := bX.below b6
              have hownX := own_below hownX b6
              have hbX : Below wr.heap.size wr w6 := bel_tr hbX b6
              clear b6 m0 m1 m2
              have hbw := bel_tr hbwr hbX
              go_wp2
              exact bodyPost_ret (v := .slice (some ⟨w6.heap.size, 0, none⟩) 0 0) (by simp [results, Try.results53, go_sem]) rfl ⟨_, _, by rw [HN.out]; rfl, by rw [HN.out]; exact Nat.zero_le _, by simp [maxLen], by rw [HN.out]; exact fun h => absurd h (by simp), by rw [HN.out]; exact fun h => absurd h (by simp), bel_al hbw _⟩
            · have HOK : Hid (pvQ (kpP f (plI ⟨s, a, o⟩ + D.getD k 0))) := by show pvQ _; rw [HPL.out]; exact hq
              have HQ := Lib.hid hq
              clear hq
              go_wp2_with fail
              refine (spv_val HQ.out _).mono ?_
              rintro e6 w6 ⟨rfl, b6⟩
              have bX := bX.below b6
              have hownX := own_below hownX b6
              have hbX : Below wr.heap.size wr w6 := bel_tr hbX b6
              clear b6 m0 m1 m2
              have m0 : w6.cell? ⟨X, 0, none⟩ = some (.int .i64 (pl % 7)) := by rw [Blk.cell bX]; rfl
              have m1 : w6.cell? ⟨X, 1, none⟩ = some (.int .i64 x) := by rw [Blk.cell bX]; rfl
              have m2 : w6.cell? ⟨X, 2, none⟩ = some (.int .i64 (pl / 7)) := by rw [Blk.cell bX]; rfl
              have hw6 := hbX.size
              have hbs6 := hbwr.size
              go_wp2_with (at_builtin; go_must (refine wpList_append_lies _ rfl _ _ 37 rfl (w.heap.size + 1) 62 i0 _ 3 24 Try.underlying37 hi0 hz0 hz1 hz2 rfl (by omega) _ L.length (flat csPi L) rfl (hownX.alloc _) ⟨w6.heap.size, 0, none⟩ 1 1 [.int .i64 (pl % 7), .int .i64 x, .int .i64 (pl / 7)] rfl rfl (World.news_of_block (cs := #[.int .i64 (pl % 7), .int .i64 x, .int .i64 (pl / 7)]) (t := 62) (fr := (0, 0)) (heap_alloc_new w6 _)) (by simp [Value.oneCell']) (by omega) (by unfold maxLen; omega) (by omega) (by simp; omega) _ rfl ?_; intro gg9 cp9 w9 hown9 hgrow9 hat9 hlt9))
              have FS9 := FS.grow (n := L.length + 1) (c := cp9) (bel_al hbX (.cells #[.int .i64 (pl % 7), .int .i64 x, .int .i64 (pl / 7)] 62)) hgrow9 (fun k hk => own_ge hownX k hk) hat9 (Nat.le_trans hw6 (by simp))
              have hq := own_push (t := (⟨(pl % 7), x, (pl / 7)⟩ : Pi)) hown9 rfl
              go_roundw
              case rel => exact ⟨k + 1, by omega, by go_num, by rw [show fgK f (plI ⟨s, a, o⟩) ⟨s, a, o⟩ D (k + 1) = fgK f (plI ⟨s, a, o⟩) ⟨s, a, o⟩ D k ++ [kpP f (plI ⟨s, a, o⟩ + D.getD k 0)] from rfl, HL.out, HPL.out]; exact hq, FS9, hid_snoc HK HOK.out⟩
              case measure => simp [intOf]; omega
          · obtain rfl : k = D.length := by omega
            have hki : ¬ (D.length : Int) < 2 := by omega
            have HE := Lib.hid (fg_yes (f := f) (b := ⟨s, a, o⟩) (g := 6) ⟨HF.out, HV.out, by rw [HDD.out]; omega, by rw [HDD.out]; exact HK.out⟩)
            have HEL := Lib.hid (show fgL f ⟨s, a, o⟩ 6 = fgK f (plI ⟨s, a, o⟩) ⟨s, a, o⟩ D D.length from by rw [HE.out, HDD.out])
            obtain ⟨A9, c9, rfl, lc9, cm9, r9, o9⟩ := own_rowPi hown
            go_wp2
            exact bodyPost_ret (v := .slice A9 (fgK f (plI ⟨s, a, o⟩) ⟨s, a, o⟩ D D.length).length c9) (by simp [results, Try.results53, go_sem, hDn]) rfl ⟨_, _, by rw [HEL.out], by rw [HEL.out]; exact lc9, cm9, by rw [HEL.out]; exact r9, by rw [HEL.out]; exact fun hh => by obtain ⟨b, off, e, g1, g2⟩ := o9 hh; exact ⟨b, off, e, by omega, g2⟩, hbwr⟩
    · have HN := Lib.hid (fg_no (f := f) (b := ⟨s, a, o⟩) (g := 6) (fun z => hf z.1))
      have z0 : (w.alloc (.cells #[.int .i64 s, .int .i64 a, .int .i64 o] 62)).heap.size = w.heap.size + 1 := by simp
      have z1 : ((w.alloc (.cells #[.int .i64 s, .int .i64 a, .int .i64 o] 62)).alloc (.cells #[] 3)).heap.size = w.heap.size + 2 := by simp
      have bP : Blk ((((w.alloc (.cells #[.int .i64 s, .int .i64 a, .int .i64 o] 62)).alloc (.cells #[] 3)).alloc (.cells #[.int .i64 2, .int .i64 5] 3)).alloc (.cells #[.int .i64 s, .int .i64 a, .int .i64 o] 62)) w.heap.size #[.int .i64 s, .int .i64 a, .int .i64 o] 62 := (((Blk.new w _ _).alloc _).alloc _).alloc _
      have bw : Below w.heap.size w ((((w.alloc (.cells #[.int .i64 s, .int .i64 a, .int .i64 o] 62)).alloc (.cells #[] 3)).alloc (.cells #[.int .i64 2, .int .i64 5] 3)).alloc (.cells #[.int .i64 s, .int .i64 a, .int .i64 o] 62)) := bel_al (bel_al (bel_al (bel_al (bel_refl w) _) _) _) _
      have bS : Blk ((((w.alloc (.cells #[.int .i64 s, .int .i64 a, .int .i64 o] 62)).alloc (.cells #[] 3)).alloc (.cells #[.int .i64 2, .int .i64 5] 3)).alloc (.cells #[.int .i64 s, .int .i64 a, .int .i64 o] 62)) (w.heap.size + 2) #[.int .i64 2, .int .i64 5] 3 := by rw [← z1]; exact (Blk.new ((w.alloc (.cells #[.int .i64 s, .int .i64 a, .int .i64 o] 62)).alloc (.cells #[] 3)) _ _).alloc _
      have zO : (((w.alloc (.cells #[.int .i64 s, .int .i64 a, .int .i64 o] 62)).alloc (.cells #[] 3)).alloc (.cells #[.int .i64 2, .int .i64 5] 3)).heap.size = w.heap.size + 2 + 1 := by simp
      have own0 : ((((w.alloc (.cells #[.int .i64 s, .int .i64 a, .int .i64 o] 62)).alloc (.cells #[] 3)).alloc (.cells #[.int .i64 2, .int .i64 5] 3)).alloc (.cells #[.int .i64 s, .int .i64 a, .int .i64 o] 62)).ownsRow (w.heap.size + 1) 62 3 (.slice (some ⟨w.heap.size + 2 + 1, 0, none⟩) 1 1) 1 (flat csPi [⟨s, a, o⟩]) := by rw [← zO]; exact World.ownsRow_lit (((w.alloc (.cells #[.int .i64 s, .int .i64 a, .int .i64 o] 62)).alloc (.cells #[] 3)).alloc (.cells #[.int .i64 2, .int .i64 5] 3)) #[.int .i64 s, .int .i64 a, .int .i64 o] 1 (by first | (simp; done) | (simp; omega)) (by simp [maxLen]) rfl
      clear z0 z1 zO
      go_enter Try.func53, Try.ntmps53
      go_upto_region 12 with fail
      generalize hO : w.heap.size + 2 + 1 = O at *
      generalize ((((w.alloc (.cells #[.int .i64 s, .int .i64 a, .int .i64 o] 62)).alloc (.cells #[] 3)).alloc (.cells #[.int .i64 2, .int .i64 5] 3)).alloc (.cells #[.int .i64 s, .int .i64 a, .int .i64 o] 62)) = w0 at *
      have hO2 : O < w0.heap.size := (own_lt own0 rfl).2
      have hO3 : w.heap.size + 2 + 1 ≤ O := by omega
      clear hO
      have cP0 : w0.cell? ⟨w.heap.size, 0, none⟩ = some (.int .i64 s) := by rw [Blk.cell bP]; rfl
      have cP1 : w0.cell? ⟨w.heap.size, 1, none⟩ = some (.int .i64 a) := by rw [Blk.cell bP]; rfl
      have cP2 : w0.cell? ⟨w.heap.size, 2, none⟩ = some (.int .i64 o) := by rw [Blk.cell bP]; rfl
      go_wp2_with (go_at_call 52; refine (swin_no _ _ _ _ (by omega)).mono ?_; rintro e w' ⟨rfl, rfl⟩)
      exact bodyPost_ret (v := .slice (some ⟨w0.heap.size, 0, none⟩) 0 0) (by simp [results, Try.results53, go_sem]) rfl ⟨_, _, by rw [HN.out]; rfl, by rw [HN.out]; exact Nat.zero_le _, by simp [maxLen], by rw [HN.out]; exact fun h => absurd h (by simp), by rw [HN.out]; exact fun h => absurd h (by simp), bel_al bw _⟩
  · by_cases hf : -7 ≤ f ∧ f ≤ 7
    · cases hv : pvB s a o
      · have HN := Lib.hid (fg_no (f := f) (b := ⟨s, a, o⟩) (g := 4) (fun z => by have := z.2.1; unfold pvQ at this; rw [hv] at this; cases this))
        have HV := Lib.hid hv
        obtain ⟨f0, f1⟩ := hf
        clear hv
        have z0 : (w.alloc (.cells #[.int .i64 s, .int .i64 a, .int .i64 o] 62)).heap.size = w.heap.size + 1 := by simp
        have z1 : ((w.alloc (.cells #[.int .i64 s, .int .i64 a, .int .i64 o] 62)).alloc (.cells #[] 3)).heap.size = w.heap.size + 2 := by simp
        have bP : Blk ((((w.alloc (.cells #[.int .i64 s, .int .i64 a, .int .i64 o] 62)).alloc (.cells #[] 3)).alloc (.cells #[.int .i64 3, .int .i64 5] 3)).alloc (.cells #[.int .i64 s, .int .i64 a, .int .i64 o] 62)) w.heap.size #[.int .i64 s, .int .i64 a, .int .i64 o] 62 := (((Blk.new w _ _).alloc _).alloc _).alloc _
        have bw : Below w.heap.size w ((((w.alloc (.cells #[.int .i64 s, .int .i64 a, .int .i64 o] 62)).alloc (.cells #[] 3)).alloc (.cells #[.int .i64 3, .int .i64 5] 3)).alloc (.cells #[.int .i64 s, .int .i64 a, .int .i64 o] 62)) := bel_al (bel_al (bel_al (bel_al (bel_refl w) _) _) _) _
        have bS : Blk ((((w.alloc (.cells #[.int .i64 s, .int .i64 a, .int .i64 o] 62)).alloc (.cells #[] 3)).alloc (.cells #[.int .i64 3, .int .i64 5] 3)).alloc (.cells #[.int .i64 s, .int .i64 a, .int .i64 o] 62)) (w.heap.size + 2) #[.int .i64 3, .int .i64 5] 3 := by rw [← z1]; exact (Blk.new ((w.alloc (.cells #[.int .i64 s, .int .i64 a, .int .i64 o] 62)).alloc (.cells #[] 3)) _ _).alloc _
        have zO : (((w.alloc (.cells #[.int .i64 s, .int .i64 a, .int .i64 o] 62)).alloc (.cells #[] 3)).alloc (.cells #[.int .i64 3, .int .i64 5] 3)).heap.size = w.heap.size + 2 + 1 := by simp
        have own0 : ((((w.alloc (.cells #[.int .i64 s, .int .i64 a, .int .i64 o] 62)).alloc (.cells #[] 3)).alloc (.cells #[.int .i64 3, .int .i64 5] 3)).alloc (.cells #[.int .i64 s, .int .i64 a, .int .i64 o] 62)).ownsRow (w.heap.size + 1) 62 3 (.slice (some ⟨w.heap.size + 2 + 1, 0, none⟩) 1 1) 1 (flat csPi [⟨s, a, o⟩]) := by rw [← zO]; exact World.ownsRow_lit (((w.alloc (.cells #[.int .i64 s, .int .i64 a, .int .i64 o] 62)).alloc (.cells #[] 3)).alloc (.cells #[.int .i64 3, .int .i64 5] 3)) #[.int .i64 s, .int .i64 a, .int .i64 o] 1 (by first | (simp; done) | (simp; omega)) (by simp [maxLen]) rfl
        clear z0 z1 zO
        go_enter Try.func53, Try.ntmps53
        go_upto_region 12 with fail
        generalize hO : w.heap.size + 2 + 1 = O at *
        generalize ((((w.alloc (.cells #[.int .i64 s, .int .i64 a, .int .i64 o] 62)).alloc (.cells #[] 3)).alloc (.cells #[.int .i64 3, .int .i64 5] 3)).alloc (.cells #[.int .i64 s, .int .i64 a, .int .i64 o] 62)) = w0 at *
        have hO2 : O < w0.heap.size := (own_lt own0 rfl).2
        have hO3 : w.heap.size + 2 + 1 ≤ O := by omega
        clear hO
        have cP0 : w0.cell? ⟨w.heap.size, 0, none⟩ = some (.int .i64 s) := by rw [Blk.cell bP]; rfl
        have cP1 : w0.cell? ⟨w.heap.size, 1, none⟩ = some (.int .i64 a) := by rw [Blk.cell bP]; rfl
        have cP2 : w0.cell? ⟨w.heap.size, 2, none⟩ = some (.int .i64 o) := by rw [Blk.cell bP]; rfl
        go_wp2_with (go_at_call 52; refine (swin_yes _ _ _ _ (by omega) (by omega)).mono ?_; rintro e w' ⟨rfl, rfl⟩)
        refine (spv_val HV.out _).mono ?_
        rintro e1 w1 ⟨rfl, b1⟩
        have bP := bP.below b1
        have bw := bel_tr bw b1
        have bS := bS.below b1
        have own0 := own_below own0 b1
        clear cP0 cP1 cP2
        go_wp2
        exact bodyPost_ret (v := .slice (some ⟨w1.heap.size, 0, none⟩) 0 0) (by simp [results, Try.results53, go_sem]) rfl ⟨_, _, by rw [HN.out]; rfl, by rw [HN.out]; exact Nat.zero_le _, by simp [maxLen], by rw [HN.out]; exact fun h => absurd h (by simp), by rw [HN.out]; exact fun h => absurd h (by simp), bel_al bw _⟩
      · have HF := Lib.hid hf
        have hb := pvB_bd hv
        obtain ⟨s0, s1, a0, a1, o0, o1⟩ := hb
        obtain ⟨d3, dk⟩ := stL_ok 4
        have HV := Lib.hid hv
        obtain ⟨f0, f1⟩ := hf
        clear hv
        have z0 : (w.alloc (.cells #[.int .i64 s, .int .i64 a, .int .i64 o] 62)).heap.size = w.heap.size + 1 := by simp
        have z1 : ((w.alloc (.cells #[.int .i64 s, .int .i64 a, .int .i64 o] 62)).alloc (.cells #[] 3)).heap.size = w.heap.size + 2 := by simp
        have bP : Blk ((((w.alloc (.cells #[.int .i64 s, .int .i64 a, .int .i64 o] 62)).alloc (.cells #[] 3)).alloc (.cells #[.int .i64 3, .int .i64 5] 3)).alloc (.cells #[.int .i64 s, .int .i64 a, .int .i64 o] 62)) w.heap.size #[.int .i64 s, .int .i64 a, .int .i64 o] 62 := (((Blk.new w _ _).alloc _).alloc _).alloc _
        have bw : Below w.heap.size w ((((w.alloc (.cells #[.int .i64 s, .int .i64 a, .int .i64 o] 62)).alloc (.cells #[] 3)).alloc (.cells #[.int .i64 3, .int .i64 5] 3)).alloc (.cells #[.int .i64 s, .int .i64 a, .int .i64 o] 62)) := bel_al (bel_al (bel_al (bel_al (bel_refl w) _) _) _) _
        have bS : Blk ((((w.alloc (.cells #[.int .i64 s, .int .i64 a, .int .i64 o] 62)).alloc (.cells #[] 3)).alloc (.cells #[.int .i64 3, .int .i64 5] 3)).alloc (.cells #[.int .i64 s, .int .i64 a, .int .i64 o] 62)) (w.heap.size + 2) #[.int .i64 3, .int .i64 5] 3 := by rw [← z1]; exact (Blk.new ((w.alloc (.cells #[.int .i64 s, .int .i64 a, .int .i64 o] 62)).alloc (.cells #[] 3)) _ _).alloc _
        have zO : (((w.alloc (.cells #[.int .i64 s, .int .i64 a, .int .i64 o] 62)).alloc (.cells #[] 3)).alloc (.cells #[.int .i64 3, .int .i64 5] 3)).heap.size = w.heap.size + 2 + 1 := by simp
        have own0 : ((((w.alloc (.cells #[.int .i64 s, .int .i64 a, .int .i64 o] 62)).alloc (.cells #[] 3)).alloc (.cells #[.int .i64 3, .int .i64 5] 3)).alloc (.cells #[.int .i64 s, .int .i64 a, .int .i64 o] 62)).ownsRow (w.heap.size + 1) 62 3 (.slice (some ⟨w.heap.size + 2 + 1, 0, none⟩) 1 1) 1 (flat csPi [⟨s, a, o⟩]) := by rw [← zO]; exact World.ownsRow_lit (((w.alloc (.cells #[.int .i64 s, .int .i64 a, .int .i64 o] 62)).alloc (.cells #[] 3)).alloc (.cells #[.int .i64 3, .int .i64 5] 3)) #[.int .i64 s, .int .i64 a, .int .i64 o] 1 (by first | (simp; done) | (simp; omega)) (by simp [maxLen]) rfl
        clear z0 z1 zO
        go_enter Try.func53, Try.ntmps53
        go_upto_region 12 with fail
        generalize hO : w.heap.size + 2 + 1 = O at *
        generalize ((((w.alloc (.cells #[.int .i64 s, .int .i64 a, .int .i64 o] 62)).alloc (.cells #[] 3)).alloc (.cells #[.int .i64 3, .int .i64 5] 3)).alloc (.cells #[.int .i64 s, .int .i64 a, .int .i64 o] 62)) = w0 at *
        have hO2 : O < w0.heap.size := (own_lt own0 rfl).2
        have hO3 : w.heap.size + 2 + 1 ≤ O := by omega
        clear hO
        have cP0 : w0.cell? ⟨w.heap.size, 0, none⟩ = some (.int .i64 s) := by rw [Blk.cell bP]; rfl
        have cP1 : w0.cell? ⟨w.heap.size, 1, none⟩ = some (.int .i64 a) := by rw [Blk.cell bP]; rfl
        have cP2 : w0.cell? ⟨w.heap.size, 2, none⟩ = some (.int .i64 o) := by rw [Blk.cell bP]; rfl
        go_wp2_with (go_at_call 52; refine (swin_yes _ _ _ _ (by omega) (by omega)).mono ?_; rintro e w' ⟨rfl, rfl⟩)
        refine (spv_val HV.out _).mono ?_
        rintro e1 w1 ⟨rfl, b1⟩
        have bP := bP.below b1
        have bw := bel_tr bw b1
        have bS := bS.below b1
        have own0 := own_below own0 b1
        clear cP0 cP1 cP2
        have hcs : ∀ i, i < (stL 4).length → w1.cell? ⟨w.heap.size + 2, 0 + i, none⟩ = some (.int .i64 ((stL 4).getD i 0)) := by
          rw [h]
          intro i hi
          rw [Nat.zero_add, Blk.cell bS]
          rcases (show i = 0 ∨ i = 1 from by simp at hi; omega) with rfl | rfl <;> rfl
        have hbs := bS.lt
        have hDn : (stL 4).length = 2 := by rw [h]; rfl
        have FS0 : FgS w w1 (w.heap.size + 2) s a o (.slice (some ⟨O, 0, none⟩) 1 1) w1 := ⟨rfl, hbs, bP, bw, fun g e => by have e2 : O = g := Option.some.inj e; omega⟩
        generalize hD : stL 4 = D at *
        have HDD := Lib.hid hD
        clear hD h bS
        generalize w.heap.size + 2 = bs at *
        go_wp2_with fail
        go_loopw [8, 9, 10, 11] (fun out i _ _ wr => ∃ k : Nat, k ≤ D.length ∧ i = .int .i64 k ∧ wr.ownsRow (w.heap.size + 1) 62 3 out (fgK f (plI ⟨s, a, o⟩) ⟨s, a, o⟩ D k).length (flat csPi (fgK f (plI ⟨s, a, o⟩) ⟨s, a, o⟩ D k)) ∧ FgS w w1 bs s a o out wr ∧ Hid (∀ j, j < k → pvQ (kpP f (plI ⟨s, a, o⟩ + D.getD j 0)))) (fun _ i _ _ _ => D.length - (intOf i).toNat)
        case atStart => exact ⟨0, Nat.zero_le _, rfl, own0, FS0, fun j hj => absurd hj (by omega)⟩
        case round =>
          obtain ⟨k, hk, rfl, hown, FS, HK⟩ := hrel
          clear own0 FS0
          have hlen2 := fgK_len f (plI ⟨s, a, o⟩) ⟨s, a, o⟩ D k
          have bP := FS.2.2.1
          have hbwr := FS.2.2.2.1
          have hk0 : (0 : Int) ≤ (k : Int) := by omega
          by_cases hlt : k < D.length
          · have hki : (k : Int) < 2 := by omega
            have hst : wr.cell? ⟨bs, 0 + k, none⟩ = some (.int .i64 (D.getD k 0)) := (World.cell?_of_block (a := ⟨bs, 0 + k, none⟩) FS.1).trans (hcs k hlt)
            rw [Nat.zero_add] at hst
            generalize hL : fgK f (plI ⟨s, a, o⟩) ⟨s, a, o⟩ D k = L at hown hlen2
            have HL := Lib.hid hL
            have hL5 : L.length ≤ 5 := by omega
            clear hL hlen2
            obtain ⟨d, hd⟩ : ∃ d, D.getD k 0 = d := ⟨_, rfl⟩
            obtain ⟨e0, e1⟩ := dk k hlt
            rw [hd] at e0 e1 hst
            have HDK := Lib.hid hd
            clear hd
            obtain ⟨pl, hpl⟩ : ∃ x, 7 * o + s + d = x := ⟨_, rfl⟩
            have p0 : 0 ≤ pl := by omega
            have p1 : pl ≤ 1000 := by omega
            have p2 : 0 ≤ pl % 7 := by omega
            have p3 : pl % 7 ≤ 6 := by omega
            have p4 : 0 ≤ pl / 7 := by omega
            have i1 := IntWalk.i64_in (7 * o + s + d) (by omega)
            rw [hpl] at i1
            obtain ⟨x, hx⟩ : ∃ x, alI f (pl % 7) = x := ⟨_, rfl⟩
            have HAL := Lib.hid hx
            have HPL := Lib.hid (show kpP f (plI ⟨s, a, o⟩ + D.getD k 0) = ⟨pl % 7, x, pl / 7⟩ from by unfold plI kpP; rw [HDK.out]; simp only; rw [hpl, hx])
            clear hx
            have cP0 : wr.cell? ⟨w.heap.size, 0, none⟩ = some (.int .i64 s) := by rw [Blk.cell bP]; rfl
            have cP1 : wr.cell? ⟨w.heap.size, 1, none⟩ = some (.int .i64 a) := by rw [Blk.cell bP]; rfl
            have cP2 : wr.cell? ⟨w.heap.size, 2, none⟩ = some (.int .i64 o) := by rw [Blk.cell bP]; rfl
            go_wp2_with fail
            have LA : ∀ xL : Later wr, Calls Try.prog 76 #[.agg #[.int .i64 s, .int .i64 a, .int .i64 o]] xL.world fun e w'' => e = .returned (.int .i64 (7 * o + s)) ∧ ∃ z : Later wr, w'' = z.world := fun xL => later_call (spp_yes s a o xL.world HV.out)
            have lf0 : ∀ xL : Later wr, xL.world.cell? ⟨w.heap.size, 0, none⟩ = some (.int .i64 s) := fun xL => xL.at (cP0)
            have lf1 : ∀ xL : Later wr, xL.world.cell? ⟨w.heap.size, 1, none⟩ = some (.int .i64 a) := fun xL => xL.at (cP1)
            have lf2 : ∀ xL : Later wr, xL.world.cell? ⟨w.heap.size, 2, none⟩ = some (.int .i64 o) := fun xL => xL.at (cP2)
            have lf3 : ∀ xL : Later wr, xL.world.cell? ⟨bs, k, none⟩ = some (.int .i64 d) := fun xL => xL.at (hst)
            refine region_later (w0 := wr) (by kernel_rfl) (by kernel_rfl) (bel_refl _) ?_
            repeat (go_big_quiet_step ((go_at_call 76; exact LA _)))
            refine wpQuiet_nil ?_
            rintro w' ⟨x, rfl⟩
            obtain ⟨w4, b4⟩ := x
            clear lf0 lf1 lf2 lf3
            clear LA cP0 cP1 cP2 hst
            have hownX := own_below hown b4
            go_wp2_with fail
            refine (sal_val HAL.out _ p2 p3 (by omega) (by omega)).mono ?_
            rintro e5 w5 ⟨rfl, b5⟩
            have b5 := bel_tr b4 b5
            have hownX := own_below hown b5
            have bX : Blk (w5.alloc (.cells #[.int .i64 (pl % 7), .int .i64 x, .int .i64 (pl / 7)] 62)) w5.heap.size #[.int .i64 (pl % 7), .int .i64 x, .int .i64 (pl / 7)] 62 := Blk.new w5 _ _
            have hownX := hownX.alloc (.cells #[.int .i64 (pl % 7), .int .i64 x, .int .i64 (pl / 7)] 62)
            have hbX : Below wr.heap.size wr (w5.alloc (.cells #[.int .i64 (pl % 7), .int .i64 x, .int .i64 (pl / 7)] 62)) := bel_al b5 _
            go_upto_region 19 with fail
            clear hown b4 b5
            generalize (w5.alloc (.cells #[.int .i64 (pl % 7), .int .i64 x, .int .i64 (pl / 7)] 62)) = v at *
            generalize w5.heap.size = X at *
            have m0 : v.cell? ⟨X, 0, none⟩ = some (.int .i64 (pl % 7)) := by rw [Blk.cell bX]; rfl
            have m1 : v.cell? ⟨X, 1, none⟩ = some (.int .i64 x) := by rw [Blk.cell bX]; rfl
            have m2 : v.cell? ⟨X, 2, none⟩ = some (.int .i64 (pl / 7)) := by rw [Blk.cell bX]; rfl
            cases hq : pvB (pl % 7) x (pl / 7)
            · have HN := Lib.hid (fg_no (f := f) (b := ⟨s, a, o⟩) (g := 4) (fun z => by have h := z.2.2.2 k (by rw [HDD.out]; omega); unfold pvQ at h; rw [HDD.out, HPL.out] at h; simp only at h; rw [hq] at h; cases h))
              have HQ := Lib.hid hq
              clear hq
              go_wp2_with fail
              refine (spv_val HQ.out _).mono ?_
              rintro e6 w6 ⟨rfl, b6⟩
              have bX := bX.below b6
              have hownX := own_below hownX b6
              have hbX : Below wr.heap.size wr w6 := bel_tr hbX b6
              clear b6 m0 m1 m2
              have hbw := bel_tr hbwr hbX
              go_wp2
              exact bodyPost_ret (v := .slice (some ⟨w6.heap.size, 0, none⟩) 0 0) (by simp [results, Try.results53, go_sem]) rfl ⟨_, _, by rw [HN.out]; rfl, by rw [HN.out]; exact Nat.zero_le _, by simp [maxLen], by rw [HN.out]; exact fun h => absurd h (by simp), by rw [HN.out]; exact fun h => absurd h (by simp), bel_al hbw _⟩
            · have HOK : Hid (pvQ (kpP f (plI ⟨s, a, o⟩ + D.getD k 0))) := by show pvQ _; rw [HPL.out]; exact hq
              have HQ := Lib.hid hq
              clear hq
              go_wp2_with fail
              refine (spv_val HQ.out _).mono ?_
              rintro e6 w6 ⟨rfl, b6⟩
              have bX := bX.below b6
              have hownX := own_below hownX b6
              have hbX : Below wr.heap.size wr w6 := bel_tr hbX b6
              clear b6 m0 m1 m2
              have m0 : w6.cell? ⟨X, 0, none⟩ = some (.int .i64 (pl % 7)) := by rw [Blk.cell bX]; rfl
              have m1 : w6.cell? ⟨X, 1, none⟩ = some (.int .i64 x) := by rw [Blk.cell bX]; rfl
              have m2 : w6.cell? ⟨X, 2, none⟩ = some (.int .i64 (pl / 7)) := by rw [Blk.cell bX]; rfl
              have hw6 := hbX.size
              have hbs6 := hbwr.size
              go_wp2_with (at_builtin; go_must (refine wpList_append_lies _ rfl _ _ 37 rfl (w.heap.size + 1) 62 i0 _ 3 24 Try.underlying37 hi0 hz0 hz1 hz2 rfl (by omega) _ L.length (flat csPi L) rfl (hownX.alloc _) ⟨w6.heap.size, 0, none⟩ 1 1 [.int .i64 (pl % 7), .int .i64 x, .int .i64 (pl / 7)] rfl rfl (World.news_of_block (cs := #[.int .i64 (pl % 7), .int .i64 x, .int .i64 (pl / 7)]) (t := 62) (fr := (0, 0)) (heap_alloc_new w6 _)) (by simp [Value.oneCell']) (by omega) (by unfold maxLen; omega) (by omega) (by simp; omega) _ rfl ?_; intro gg9 cp9 w9 hown9 hgrow9 hat9 hlt9))
              have FS9 := FS.grow (n := L.length + 1) (c := cp9) (bel_al hbX (.cells #[.int .i64 (pl % 7), .int .i64 x, .int .i64 (pl / 7)] 62)) hgrow9 (fun k hk => own_ge hownX k hk) hat9 (Nat.le_trans hw6 (by simp))
              have hq := own_push (t := (⟨(pl % 7), x, (pl / 7)⟩ : Pi)) hown9 rfl
              go_roundw
              case rel => exact ⟨k + 1, by omega, by go_num, by rw [show fgK f (plI ⟨s, a, o⟩) ⟨s, a, o⟩ D (k + 1) = fgK f (plI ⟨s, a, o⟩) ⟨s, a, o⟩ D k ++ [kpP f (plI ⟨s, a, o⟩ + D.getD k 0)] from rfl, HL.out, HPL.out]; exact hq, FS9, hid_snoc HK HOK.out⟩
              case measure => simp [intOf]; omega
          · obtain rfl : k = D.length := by omega
            have hki : ¬ (D.length : Int) < 2 := by omega
            have HE := Lib.hid (fg_yes (f := f) (b := ⟨s, a, o⟩) (g := 4) ⟨HF.out, HV.out, by rw [HDD.out]; omega, by rw [HDD.out]; exact HK.out⟩)
            have HEL := Lib.hid (show fgL f ⟨s, a, o⟩ 4 = fgK f (plI ⟨s, a, o⟩) ⟨s, a, o⟩ D D.length from by rw [HE.out, HDD.out])
            obtain ⟨A9, c9, rfl, lc9, cm9, r9, o9⟩ := own_rowPi hown
            go_wp2
            exact bodyPost_ret (v := .slice A9 (fgK f (plI ⟨s, a, o⟩) ⟨s, a, o⟩ D D.length).length c9) (by simp [results, Try.results53, go_sem, hDn]) rfl ⟨_, _, by rw [HEL.out], by rw [HEL.out]; exact lc9, cm9, by rw [HEL.out]; exact r9, by rw [HEL.out]; exact fun hh => by obtain ⟨b, off, e, g1, g2⟩ := o9 hh; exact ⟨b, off, e, by omega, g2⟩, hbwr⟩
    · have HN := Lib.hid (fg_no (f := f) (b := ⟨s, a, o⟩) (g := 4) (fun z => hf z.1))
      have z0 : (w.alloc (.cells #[.int .i64 s, .int .i64 a, .int .i64 o] 62)).heap.size = w.heap.size + 1 := by simp
      have z1 : ((w.alloc (.cells #[.int .i64 s, .int .i64 a, .int .i64 o] 62)).alloc (.cells #[] 3)).heap.size = w.heap.size + 2 := by simp
      have bP : Blk ((((w.alloc (.cells #[.int .i64 s, .int .i64 a, .int .i64 o] 62)).alloc (.cells #[] 3)).alloc (.cells #[.int .i64 3, .int .i64 5] 3)).alloc (.cells #[.int .i64 s, .int .i64 a, .int .i64 o] 62)) w.heap.size #[.int .i64 s, .int .i64 a, .int .i64 o] 62 := (((Blk.new w _ _).alloc _).alloc _).alloc _
      have bw : Below w.heap.size w ((((w.alloc (.cells #[.int .i64 s, .int .i64 a, .int .i64 o] 62)).alloc (.cells #[] 3)).alloc (.cells #[.int .i64 3, .int .i64 5] 3)).alloc (.cells #[.int .i64 s, .int .i64 a, .int .i64 o] 62)) := bel_al (bel_al (bel_al (bel_al (bel_refl w) _) _) _) _
      have bS : Blk ((((w.alloc (.cells #[.int .i64 s, .int .i64 a, .int .i64 o] 62)).alloc (.cells #[] 3)).alloc (.cells #[.int .i64 3, .int .i64 5] 3)).alloc (.cells #[.int .i64 s, .int .i64 a, .int .i64 o] 62)) (w.heap.size + 2) #[.int .i64 3, .int .i64 5] 3 := by rw [← z1]; exact (Blk.new ((w.alloc (.cells #[.int .i64 s, .int .i64 a, .int .i64 o] 62)).alloc (.cells #[] 3)) _ _).alloc _
      have zO : (((w.alloc (.cells #[.int .i64 s, .int .i64 a, .int .i64 o] 62)).alloc (.cells #[] 3)).alloc (.cells #[.int .i64 3, .int .i64 5] 3)).heap.size = w.heap.size + 2 + 1 := by simp
      have own0 : ((((w.alloc (.cells #[.int .i64 s, .int .i64 a, .int .i64 o] 62)).alloc (.cells #[] 3)).alloc (.cells #[.int .i64 3, .int .i64 5] 3)).alloc (.cells #[.int .i64 s, .int .i64 a, .int .i64 o] 62)).ownsRow (w.heap.size + 1) 62 3 (.slice (some ⟨w.heap.size + 2 + 1, 0, none⟩) 1 1) 1 (flat csPi [⟨s, a, o⟩]) := by rw [← zO]; exact World.ownsRow_lit (((w.alloc (.cells #[.int .i64 s, .int .i64 a, .int .i64 o] 62)).alloc (.cells #[] 3)).alloc (.cells #[.int .i64 3, .int .i64 5] 3)) #[.int .i64 s, .int .i64 a, .int .i64 o] 1 (by first | (simp; done) | (simp; omega)) (by simp [maxLen]) rfl
      clear z0 z1 zO
      go_enter Try.func53, Try.ntmps53
      go_upto_region 12 with fail
      generalize hO : w.heap.size + 2 + 1 = O at *
      generalize ((((w.alloc (.cells #[.int .i64 s, .int .i64 a, .int .i64 o] 62)).alloc (.cells #[] 3)).alloc (.cells #[.int .i64 3, .int .i64 5] 3)).alloc (.cells #[.int .i64 s, .int .i64 a, .int .i64 o] 62)) = w0 at *
      have hO2 : O < w0.heap.size := (own_lt own0 rfl).2
      have hO3 : w.heap.size + 2 + 1 ≤ O := by omega
      clear hO
      have cP0 : w0.cell? ⟨w.heap.size, 0, none⟩ = some (.int .i64 s) := by rw [Blk.cell bP]; rfl
      have cP1 : w0.cell? ⟨w.heap.size, 1, none⟩ = some (.int .i64 a) := by rw [Blk.cell bP]; rfl
      have cP2 : w0.cell? ⟨w.heap.size, 2, none⟩ = some (.int .i64 o) := by rw [Blk.cell bP]; rfl
      go_wp2_with (go_at_call 52; refine (swin_no _ _ _ _ (by omega)).mono ?_; rintro e w' ⟨rfl, rfl⟩)
      exact bodyPost_ret (v := .slice (some ⟨w0.heap.size, 0, none⟩) 0 0) (by simp [results, Try.results53, go_sem]) rfl ⟨_, _, by rw [HN.out]; rfl, by rw [HN.out]; exact Nat.zero_le _, by simp [maxLen], by rw [HN.out]; exact fun h => absurd h (by simp), by rw [HN.out]; exact fun h => absurd h (by simp), bel_al bw _⟩
  · by_cases hf : -7 ≤ f ∧ f ≤ 7
    · cases hv : pvB s a o
      · have HN := Lib.hid (fg_no (f := f) (b := ⟨s, a, o⟩) (g := 7) (fun z => by have := z.2.1; unfold pvQ at this; rw [hv] at this; cases this))
        have HV := Lib.hid hv
        obtain ⟨f0, f1⟩ := hf
        clear hv
        have z0 : (w.alloc (.cells #[.int .i64 s, .int .i64 a, .int .i64 o] 62)).heap.size = w.heap.size + 1 := by simp
        have z1 : ((w.alloc (.cells #[.int .i64 s, .int .i64 a, .int .i64 o] 62)).alloc (.cells #[] 3)).heap.size = w.heap.size + 2 := by simp
        have bP : Blk ((((w.alloc (.cells #[.int .i64 s, .int .i64 a, .int .i64 o] 62)).alloc (.cells #[] 3)).alloc (.cells #[.int .i64 2, .int .i64 4, .int .i64 6] 3)).alloc (.cells #[.int .i64 s, .int .i64 a, .int .i64 o] 62)) w.heap.size #[.int .i64 s, .int .i64 a, .int .i64 o] 62 := (((Blk.new w _ _).alloc _).alloc _).alloc _
        have bw : Below w.heap.size w ((((w.alloc (.cells #[.int .i64 s, .int .i64 a, .int .i64 o] 62)).alloc (.cells #[] 3)).alloc (.cells #[.int .i64 2, .int .i64 4, .int .i64 6] 3)).alloc (.cells #[.int .i64 s, .int .i64 a, .int .i64 o] 62)) := bel_al (bel_al (bel_al (bel_al (bel_refl w) _) _) _) _
        have bS : Blk ((((w.alloc (.cells #[.int .i64 s, .int .i64 a, .int .i64 o] 62)).alloc (.cells #[] 3)).alloc (.cells #[.int .i64 2, .int .i64 4, .int .i64 6] 3)).alloc (.cells #[.int .i64 s, .int .i64 a, .int .i64 o] 62)) (w.heap.size + 2) #[.int .i64 2, .int .i64 4, .int .i64 6] 3 := by rw [← z1]; exact (Blk.new ((w.alloc (.cells #[.int .i64 s, .int .i64 a, .int .i64 o] 62)).alloc (.cells #[] 3)) _ _).alloc _
        have zO : (((w.alloc (.cells #[.int .i64 s, .int .i64 a, .int .i64 o] 62)).alloc (.cells #[] 3)).alloc (.cells #[.int .i64 2, .int .i64 4, .int .i64 6] 3)).heap.size = w.heap.size + 2 + 1 := by simp
        have own0 : ((((w.alloc (.cells #[.int .i64 s, .int .i64 a, .int .i64 o] 62)).alloc (.cells #[] 3)).alloc (.cells #[.int .i64 2, .int .i64 4, .int .i64 6] 3)).alloc (.cells #[.int .i64 s, .int .i64 a, .int .i64 o] 62)).ownsRow (w.heap.size + 1) 62 3 (.slice (some ⟨w.heap.size + 2 + 1, 0, none⟩) 1 1) 1 (flat csPi [⟨s, a, o⟩]) := by rw [← zO]; exact World.ownsRow_lit (((w.alloc (.cells #[.int .i64 s, .int .i64 a, .int .i64 o] 62)).alloc (.cells #[] 3)).alloc (.cells #[.int .i64 2, .int .i64 4, .int .i64 6] 3)) #[.int .i64 s, .int .i64 a, .int .i64 o] 1 (by first | (simp; done) | (simp; omega)) (by simp [maxLen]) rfl
        clear z0 z1 zO
        go_enter Try.func53, Try.ntmps53
        go_upto_region 12 with fail
        generalize hO : w.heap.size + 2 + 1 = O at *
        generalize ((((w.alloc (.cells #[.int .i64 s, .int .i64 a, .int .i64 o] 62)).alloc (.cells #[] 3)).alloc (.cells #[.int .i64 2, .int .i64 4, .int .i64 6] 3)).alloc (.cells #[.int .i64 s, .int .i64 a, .int .i64 o] 62)) = w0 at *
        have hO2 : O < w0.heap.size := (own_lt own0 rfl).2
        have hO3 : w.heap.size + 2 + 1 ≤ O := by omega
        clear hO
        have cP0 : w0.cell? ⟨w.heap.size, 0, none⟩ = some (.int .i64 s) := by rw [Blk.cell bP]; rfl
        have cP1 : w0.cell? ⟨w.heap.size, 1, none⟩ = some (.int .i64 a) := by rw [Blk.cell bP]; rfl
        have cP2 : w0.cell? ⟨w.heap.size, 2, none⟩ = some (.int .i64 o) := by rw [Blk.cell bP]; rfl
        go_wp2_with (go_at_call 52; refine (swin_yes _ _ _ _ (by omega) (by omega)).mono ?_; rintro e w' ⟨rfl, rfl⟩)
        refine (spv_val HV.out _).mono ?_
        rintro e1 w1 ⟨rfl, b1⟩
        have bP := bP.below b1
        have bw := bel_tr bw b1
        have bS := bS.below b1
        have own0 := own_below own0 b1
        clear cP0 cP1 cP2
        go_wp2
        exact bodyPost_ret (v := .slice (some ⟨w1.heap.size, 0, none⟩) 0 0) (by simp [results, Try.results53, go_sem]) rfl ⟨_, _, by rw [HN.out]; rfl, by rw [HN.out]; exact Nat.zero_le _, by simp [maxLen], by rw [HN.out]; exact fun h => absurd h (by simp), by rw [HN.out]; exact fun h => absurd h (by simp), bel_al bw _⟩
      · have HF := Lib.hid hf
        have hb := pvB_bd hv
        obtain ⟨s0, s1, a0, a1, o0, o1⟩ := hb
        obtain ⟨d3, dk⟩ := stL_ok 7
        have HV := Lib.hid hv
        obtain ⟨f0, f1⟩ := hf
        clear hv
        have z0 : (w.alloc (.cells #[.int .i64 s, .int .i64 a, .int .i64 o] 62)).heap.size = w.heap.size + 1 := by simp
        have z1 : ((w.alloc (.cells #[.int .i64 s, .int .i64 a, .int .i64 o] 62)).alloc (.cells #[] 3)).heap.size = w.heap.size + 2 := by simp
        have bP : Blk ((((w.alloc (.cells #[.int .i64 s, .int .i64 a, .int .i64 o] 62)).alloc (.cells #[] 3)).alloc (.cells #[.int .i64 2, .int .i64 4, .int .i64 6] 3)).alloc (.cells #[.int .i64 s, .int .i64 a, .int .i64 o] 62)) w.heap.size #[.int .i64 s, .int .i64 a, .int .i64 o] 62 := (((Blk.new w _ _).alloc _).alloc _).alloc _
        have bw : Below w.heap.size w ((((w.alloc (.cells #[.int .i64 s, .int .i64 a, .int .i64 o] 62)).alloc (.cells #[] 3)).alloc (.cells #[.int .i64 2, .int .i64 4, .int .i64 6] 3)).alloc (.cells #[.int .i64 s, .int .i64 a, .int .i64 o] 62)) := bel_al (bel_al (bel_al (bel_al (bel_refl w) _) _) _) _
        have bS : Blk ((((w.alloc (.cells #[.int .i64 s, .int .i64 a, .int .i64 o] 62)).alloc (.cells #[] 3)).alloc (.cells #[.int .i64 2, .int .i64 4, .int .i64 6] 3)).alloc (.cells #[.int .i64 s, .int .i64 a, .int .i64 o] 62)) (w.heap.size + 2) #[.int .i64 2, .int .i64 4, .int .i64 6] 3 := by rw [← z1]; exact (Blk.new ((w.alloc (.cells #[.int .i64 s, .int .i64 a, .int .i64 o] 62)).alloc (.cells #[] 3)) _ _).alloc _
        have zO : (((w.alloc (.cells #[.int .i64 s, .int .i64 a, .int .i64 o] 62)).alloc (.cells #[] 3)).alloc (.cells #[.int .i64 2, .int .i64 4, .int .i64 6] 3)).heap.size = w.heap.size + 2 + 1 := by simp
        have own0 : ((((w.alloc (.cells #[.int .i64 s, .int .i64 a, .int .i64 o] 62)).alloc (.cells #[] 3)).alloc (.cells #[.int .i64 2, .int .i64 4, .int .i64 6] 3)).alloc (.cells #[.int .i64 s, .int .i64 a, .int .i64 o] 62)).ownsRow (w.heap.size + 1) 62 3 (.slice (some ⟨w.heap.size + 2 + 1, 0, none⟩) 1 1) 1 (flat csPi [⟨s, a, o⟩]) := by rw [← zO]; exact World.ownsRow_lit (((w.alloc (.cells #[.int .i64 s, .int .i64 a, .int .i64 o] 62)).alloc (.cells #[] 3)).alloc (.cells #[.int .i64 2, .int .i64 4, .int .i64 6] 3)) #[.int .i64 s, .int .i64 a, .int .i64 o] 1 (by first | (simp; done) | (simp; omega)) (by simp [maxLen]) rfl
        clear z0 z1 zO
        go_enter Try.func53, Try.ntmps53
        go_upto_region 12 with fail
        generalize hO : w.heap.size + 2 + 1 = O at *
        generalize ((((w.alloc (.cells #[.int .i64 s, .int .i64 a, .int .i64 o] 62)).alloc (.cells #[] 3)).alloc (.cells #[.int .i64 2, .int .i64 4, .int .i64 6] 3)).alloc (.cells #[.int .i64 s, .int .i64 a, .int .i64 o] 62)) = w0 at *
        have hO2 : O < w0.heap.size := (own_lt own0 rfl).2
        have hO3 : w.heap.size + 2 + 1 ≤ O := by omega
        clear hO
        have cP0 : w0.cell? ⟨w.heap.size, 0, none⟩ = some (.int .i64 s) := by rw [Blk.cell bP]; rfl
        have cP1 : w0.cell? ⟨w.heap.size, 1, none⟩ = some (.int .i64 a) := by rw [Blk.cell bP]; rfl
        have cP2 : w0.cell? ⟨w.heap.size, 2, none⟩ = some (.int .i64 o) := by rw [Blk.cell bP]; rfl
        go_wp2_with (go_at_call 52; refine (swin_yes _ _ _ _ (by omega) (by omega)).mono ?_; rintro e w' ⟨rfl, rfl⟩)
        refine (spv_val HV.out _).mono ?_
        rintro e1 w1 ⟨rfl, b1⟩
        have bP := bP.below b1
        have bw := bel_tr bw b1
        have bS := bS.below b1
        have own0 := own_below own0 b1
        clear cP0 cP1 cP2
        have hcs : ∀ i, i < (stL 7).length → w1.cell? ⟨w.heap.size + 2, 0 + i, none⟩ = some (.int .i64 ((stL 7).getD i 0)) := by
          rw [h]
          intro i hi
          rw [Nat.zero_add, Blk.cell bS]
          rcases (show i = 0 ∨ i = 1 ∨ i = 2 from by simp at hi; omega) with rfl | rfl | rfl <;> rfl
        have hbs := bS.lt
        have hDn : (stL 7).length = 3 := by rw [h]; rfl
        have FS0 : FgS w w1 (w.heap.size + 2) s a o (.slice (some ⟨O, 0, none⟩) 1 1) w1 := ⟨rfl, hbs, bP, bw, fun g e => by have e2 : O = g := Option.some.inj e; omega⟩
        generalize hD : stL 7 = D at *
        have HDD := Lib.hid hD
        clear hD h bS
        generalize w.heap.size + 2 = bs at *
        go_wp2_with fail
        go_loopw [8, 9, 10, 11] (fun out i _ _ wr => ∃ k : Nat, k ≤ D.length ∧ i = .int .i64 k ∧ wr.ownsRow (w.heap.size + 1) 62 3 out (fgK f (plI ⟨s, a, o⟩) ⟨s, a, o⟩ D k).length (flat csPi (fgK f (plI ⟨s, a, o⟩) ⟨s, a, o⟩ D k)) ∧ FgS w w1 bs s a o out wr ∧ Hid (∀ j, j < k → pvQ (kpP f (plI ⟨s, a, o⟩ + D.getD j 0)))) (fun _ i _ _ _ => D.length - (intOf i).toNat)
        case atStart => exact ⟨0, Nat.zero_le _, rfl, own0, FS0, fun j hj => absurd hj (by omega)⟩
        case round =>
          obtain ⟨k, hk, rfl, hown, FS, HK⟩ := hrel
          clear own0 FS0
          have hlen2 := fgK_len f (plI ⟨s, a, o⟩) ⟨s, a, o⟩ D k
          have bP := FS.2.2.1
          have hbwr := FS.2.2.2.1
          have hk0 : (0 : Int) ≤ (k : Int) := by omega
          by_cases hlt : k < D.length
          · have hki : (k : Int) < 3 := by omega
            have hst : wr.cell? ⟨bs, 0 + k, none⟩ = some (.int .i64 (D.getD k 0)) := (World.cell?_of_block (a := ⟨bs, 0 + k, none⟩) FS.1).trans (hcs k hlt)
            rw [Nat.zero_add] at hst
            generalize hL : fgK f (plI ⟨s, a, o⟩) ⟨s, a, o⟩ D k = L at hown hlen2
            have HL := Lib.hid hL
            have hL5 : L.length ≤ 5 := by omega
            clear hL hlen2
            obtain ⟨d, hd⟩ : ∃ d, D.getD k 0 = d := ⟨_, rfl⟩
            obtain ⟨e0, e1⟩ := dk k hlt
            rw [hd] at e0 e1 hst
            have HDK := Lib.hid hd
            clear hd
            obtain ⟨pl, hpl⟩ : ∃ x, 7 * o + s + d = x := ⟨_, rfl⟩
            have p0 : 0 ≤ pl := by omega
            have p1 : pl ≤ 1000 := by omega
            have p2 : 0 ≤ pl % 7 := by omega
            have p3 : pl % 7 ≤ 6 := by omega
            have p4 : 0 ≤ pl / 7 := by omega
            have i1 := IntWalk.i64_in (7 * o + s + d) (by omega)
            rw [hpl] at i1
            obtain ⟨x, hx⟩ : ∃ x, alI f (pl % 7) = x := ⟨_, rfl⟩
            have HAL := Lib.hid hx
            have HPL := Lib.hid (show kpP f (plI ⟨s, a, o⟩ + D.getD k 0) = ⟨pl % 7, x, pl / 7⟩ from by unfold plI kpP; rw [HDK.out]; simp only; rw [hpl, hx])
            clear hx
            have cP0 : wr.cell? ⟨w.heap.size, 0, none⟩ = some (.int .i64 s) := by rw [Blk.cell bP]; rfl
            have cP1 : wr.cell? ⟨w.heap.size, 1, none⟩ = some (.int .i64 a) := by rw [Blk.cell bP]; rfl
            have cP2 : wr.cell? ⟨w.heap.size, 2, none⟩ = some (.int .i64 o) := by rw [Blk.cell bP]; rfl
            go_wp2_with fail
            have LA : ∀ xL : Later wr, Calls Try.prog 76 #[.agg #[.int .i64 s, .int .i64 a, .int .i64 o]] xL.world fun e w'' => e = .returned (.int .i64 (7 * o + s)) ∧ ∃ z : Later wr, w'' = z.world := fun xL => later_call (spp_yes s a o xL.world HV.out)
            have lf0 : ∀ xL : Later wr, xL.world.cell? ⟨w.heap.size, 0, none⟩ = some (.int .i64 s) := fun xL => xL.at (cP0)
            have lf1 : ∀ xL : Later wr, xL.world.cell? ⟨w.heap.size, 1, none⟩ = some (.int .i64 a) := fun xL => xL.at (cP1)
            have lf2 : ∀ xL : Later wr, xL.world.cell? ⟨w.heap.size, 2, none⟩ = some (.int .i64 o) := fun xL => xL.at (cP2)
            have lf3 : ∀ xL : Later wr, xL.world.cell? ⟨bs, k, none⟩ = some (.int .i64 d) := fun xL => xL.at (hst)
            refine region_later (w0 := wr) (by kernel_rfl) (by kernel_rfl) (bel_refl _) ?_
            repeat (go_big_quiet_step ((go_at_call 76; exact LA _)))
            refine wpQuiet_nil ?_
            rintro w' ⟨x, rfl⟩
            obtain ⟨w4, b4⟩ := x
            clear lf0 lf1 lf2 lf3
            clear LA cP0 cP1 cP2 hst
            have hownX := own_below hown b4
            go_wp2_with fail
            refine (sal_val HAL.out _ p2 p3 (by omega) (by omega)).mono ?_
            rintro e5 w5 ⟨rfl, b5⟩
            have b5 := bel_tr b4 b5
            have hownX := own_below hown b5
            have bX : Blk (w5.alloc (.cells #[.int .i64 (pl % 7), .int .i64 x, .int .i64 (pl / 7)] 62)) w5.heap.size #[.int .i64 (pl % 7), .int .i64 x, .int .i64 (pl / 7)] 62 := Blk.new w5 _ _
            have hownX := hownX.alloc (.cells #[.int .i64 (pl % 7), .int .i64 x, .int .i64 (pl / 7)] 62)
            have hbX : Below wr.heap.size wr (w5.alloc (.cells #[.int .i64 (pl % 7), .int .i64 x, .int .i64 (pl / 7)] 62)) := bel_al b5 _
            go_upto_region 19 with fail
            clear hown b4 b5
            generalize (w5.alloc (.cells #[.int .i64 (pl % 7), .int .i64 x, .int .i64 (pl / 7)] 62)) = v at *
            generalize w5.heap.size = X at *
            have m0 : v.cell? ⟨X, 0, none⟩ = some (.int .i64 (pl % 7)) := by rw [Blk.cell bX]; rfl
            have m1 : v.cell? ⟨X, 1, none⟩ = some (.int .i64 x) := by rw [Blk.cell bX]; rfl
            have m2 : v.cell? ⟨X, 2, none⟩ = some (.int .i64 (pl / 7)) := by rw [Blk.cell bX]; rfl
            cases hq : pvB (pl % 7) x (pl / 7)
            · have HN := Lib.hid (fg_no (f := f) (b := ⟨s, a, o⟩) (g := 7) (fun z => by have h := z.2.2.2 k (by rw [HDD.out]; omega); unfold pvQ at h; rw [HDD.out, HPL.out] at h; simp only at h; rw [hq] at h; cases h))
              have HQ := Lib.hid hq
              clear hq
              go_wp2_with fail
              refine (spv_val HQ.out _).mono ?_
              rintro e6 w6 ⟨rfl, b6⟩
              have bX := bX.below b6
              have hownX := own_below hownX b6
              have hbX : Below wr.heap.size wr w6 := bel_tr hbX b6
              clear b6 m0 m1 m2
              have hbw := bel_tr hbwr hbX
              go_wp2
              exact bodyPost_ret (v := .slice (some ⟨w6.heap.size, 0, none⟩) 0 0) (by simp [results, Try.results53, go_sem]) rfl ⟨_, _, by rw [HN.out]; rfl, by rw [HN.out]; exact Nat.zero_le _, by simp [maxLen], by rw [HN.out]; exact fun h => absurd h (by simp), by rw [HN.out]; exact fun h => absurd h (by simp), bel_al hbw _⟩
            · have HOK : Hid (pvQ (kpP f (plI ⟨s, a, o⟩ + D.getD k 0))) := by show pvQ _; rw [HPL.out]; exact hq
              have HQ := Lib.hid hq
              clear hq
              go_wp2_with fail
              refine (spv_val HQ.out _).mono ?_
              rintro e6 w6 ⟨rfl, b6⟩
              have bX := bX.below b6
              have hownX := own_below hownX b6
              have hbX : Below wr.heap.size wr w6 := bel_tr hbX b6
              clear b6 m0 m1 m2
              have m0 : w6.cell? ⟨X, 0, none⟩ = some (.int .i64 (pl % 7)) := by rw [Blk.cell bX]; rfl
              have m1 : w6.cell? ⟨X, 1, none⟩ = some (.int .i64 x) := by rw [Blk.cell bX]; rfl
              have m2 : w6.cell? ⟨X, 2, none⟩ = some (.int .i64 (pl / 7)) := by rw [Blk.cell bX]; rfl
              have hw6 := hbX.size
              have hbs6 := hbwr.size
              go_wp2_with (at_builtin; go_must (refine wpList_append_lies _ rfl _ _ 37 rfl (w.heap.size + 1) 62 i0 _ 3 24 Try.underlying37 hi0 hz0 hz1 hz2 rfl (by omega) _ L.length (flat csPi L) rfl (hownX.alloc _) ⟨w6.heap.size, 0, none⟩ 1 1 [.int .i64 (pl % 7), .int .i64 x, .int .i64 (pl / 7)] rfl rfl (World.news_of_block (cs := #[.int .i64 (pl % 7), .int .i64 x, .int .i64 (pl / 7)]) (t := 62) (fr := (0, 0)) (heap_alloc_new w6 _)) (by simp [Value.oneCell']) (by omega) (by unfold maxLen; omega) (by omega) (by simp; omega) _ rfl ?_; intro gg9 cp9 w9 hown9 hgrow9 hat9 hlt9))
              have FS9 := FS.grow (n := L.length + 1) (c := cp9) (bel_al hbX (.cells #[.int .i64 (pl % 7), .int .i64 x, .int .i64 (pl / 7)] 62)) hgrow9 (fun k hk => own_ge hownX k hk) hat9 (Nat.le_trans hw6 (by simp))
              have hq := own_push (t := (⟨(pl % 7), x, (pl / 7)⟩ : Pi)) hown9 rfl
              go_roundw
              case rel => exact ⟨k + 1, by omega, by go_num, by rw [show fgK f (plI ⟨s, a, o⟩) ⟨s, a, o⟩ D (k + 1) = fgK f (plI ⟨s, a, o⟩) ⟨s, a, o⟩ D k ++ [kpP f (plI ⟨s, a, o⟩ + D.getD k 0)] from rfl, HL.out, HPL.out]; exact hq, FS9, hid_snoc HK HOK.out⟩
              case measure => simp [intOf]; omega
          · obtain rfl : k = D.length := by omega
            have hki : ¬ (D.length : Int) < 3 := by omega
            have HE := Lib.hid (fg_yes (f := f) (b := ⟨s, a, o⟩) (g := 7) ⟨HF.out, HV.out, by rw [HDD.out]; omega, by rw [HDD.out]; exact HK.out⟩)
            have HEL := Lib.hid (show fgL f ⟨s, a, o⟩ 7 = fgK f (plI ⟨s, a, o⟩) ⟨s, a, o⟩ D D.length from by rw [HE.out, HDD.out])
            obtain ⟨A9, c9, rfl, lc9, cm9, r9, o9⟩ := own_rowPi hown
            go_wp2
            exact bodyPost_ret (v := .slice A9 (fgK f (plI ⟨s, a, o⟩) ⟨s, a, o⟩ D D.length).length c9) (by simp [results, Try.results53, go_sem, hDn]) rfl ⟨_, _, by rw [HEL.out], by rw [HEL.out]; exact lc9, cm9, by rw [HEL.out]; exact r9, by rw [HEL.out]; exact fun hh => by obtain ⟨b, off, e, g1, g2⟩ := o9 hh; exact ⟨b, off, e, by omega, g2⟩, hbwr⟩
    · have HN := Lib.hid (fg_no (f := f) (b := ⟨s, a, o⟩) (g := 7) (fun z => hf z.1))
      have z0 : (w.alloc (.cells #[.int .i64 s, .int .i64 a, .int .i64 o] 62)).heap.size = w.heap.size + 1 := by simp
      have z1 : ((w.alloc (.cells #[.int .i64 s, .int .i64 a, .int .i64 o] 62)).alloc (.cells #[] 3)).heap.size = w.heap.size + 2 := by simp
      have bP : Blk ((((w.alloc (.cells #[.int .i64 s, .int .i64 a, .int .i64 o] 62)).alloc (.cells #[] 3)).alloc (.cells #[.int .i64 2, .int .i64 4, .int .i64 6] 3)).alloc (.cells #[.int .i64 s, .int .i64 a, .int .i64 o] 62)) w.heap.size #[.int .i64 s, .int .i64 a, .int .i64 o] 62 := (((Blk.new w _ _).alloc _).alloc _).alloc _
      have bw : Below w.heap.size w ((((w.alloc (.cells #[.int .i64 s, .int .i64 a, .int .i64 o] 62)).alloc (.cells #[] 3)).alloc (.cells #[.int .i64 2, .int .i64 4, .int .i64 6] 3)).alloc (.cells #[.int .i64 s, .int .i64 a, .int .i64 o] 62)) := bel_al (bel_al (bel_al (bel_al (bel_refl w) _) _) _) _
      have bS : Blk ((((w.alloc (.cells #[.int .i64 s, .int .i64 a, .int .i64 o] 62)).alloc (.cells #[] 3)).alloc (.cells #[.int .i64 2, .int .i64 4, .int .i64 6] 3)).alloc (.cells #[.int .i64 s, .int .i64 a, .int .i64 o] 62)) (w.heap.size + 2) #[.int .i64 2, .int .i64 4, .int .i64 6] 3 := by rw [← z1]; exact (Blk.new ((w.alloc (.cells #[.int .i64 s, .int .i64 a, .int .i64 o] 62)).alloc (.cells #[] 3)) _ _).alloc _
      have zO : (((w.alloc (.cells #[.int .i64 s, .int .i64 a, .int .i64 o] 62)).alloc (.cells #[] 3)).alloc (.cells #[.int .i64 2, .int .i64 4, .int .i64 6] 3)).heap.size = w.heap.size + 2 + 1 := by simp
      have own0 : ((((w.alloc (.cells #[.int .i64 s, .int .i64 a, .int .i64 o] 62)).alloc (.cells #[] 3)).alloc (.cells #[.int .i64 2, .int .i64 4, .int .i64 6] 3)).alloc (.cells #[.int .i64 s, .int .i64 a, .int .i64 o] 62)).ownsRow (w.heap.size + 1) 62 3 (.slice (some ⟨w.heap.size + 2 + 1, 0, none⟩) 1 1) 1 (flat csPi [⟨s, a, o⟩]) := by rw [← zO]; exact World.ownsRow_lit (((w.alloc (.cells #[.int .i64 s, .int .i64 a, .int .i64 o] 62)).alloc (.cells #[] 3)).alloc (.cells #[.int .i64 2, .int .i64 4, .int .i64 6] 3)) #[.int .i64 s, .int .i64 a, .int .i64 o] 1 (by first | (simp; done) | (simp; omega)) (by simp [maxLen]) rfl
      clear z0 z1 zO
      go_enter Try.func53, Try.ntmps53
      go_upto_region 12 with fail
      generalize hO : w.heap.size + 2 + 1 = O at *
      generalize ((((w.alloc (.cells #[.int .i64 s, .int .i64 a, .int .i64 o] 62)).alloc (.cells #[] 3)).alloc (.cells #[.int .i64 2, .int .i64 4, .int .i64 6] 3)).alloc (.cells #[.int .i64 s, .int .i64 a, .int .i64 o] 62)) = w0 at *
      have hO2 : O < w0.heap.size := (own_lt own0 rfl).2
      have hO3 : w.heap.size + 2 + 1 ≤ O := by omega
      clear hO
      have cP0 : w0.cell? ⟨w.heap.size, 0, none⟩ = some (.int .i64 s) := by rw [Blk.cell bP]; rfl
      have cP1 : w0.cell? ⟨w.heap.size, 1, none⟩ = some (.int .i64 a) := by rw [Blk.cell bP]; rfl
      have cP2 : w0.cell? ⟨w.heap.size, 2, none⟩ = some (.int .i64 o) := by rw [Blk.cell bP]; rfl
      go_wp2_with (go_at_call 52; refine (swin_no _ _ _ _ (by omega)).mono ?_; rintro e w' ⟨rfl, rfl⟩)
      exact bodyPost_ret (v := .slice (some ⟨w0.heap.size, 0, none⟩) 0 0) (by simp [results, Try.results53, go_sem]) rfl ⟨_, _, by rw [HN.out]; rfl, by rw [HN.out]; exact Nat.zero_le _, by simp [maxLen], by rw [HN.out]; exact fun h => absurd h (by simp), by rw [HN.out]; exact fun h => absurd h (by simp), bel_al bw _⟩
  · by_cases hf : -7 ≤ f ∧ f ≤ 7
    · cases hv : pvB s a o
      · have HN := Lib.hid (fg_no (f := f) (b := ⟨s, a, o⟩) (g := g) (fun z => by have := z.2.1; unfold pvQ at this; rw [hv] at this; cases this))
        have HV := Lib.hid hv
        obtain ⟨f0, f1⟩ := hf
        clear hv
        have z0 : (w.alloc (.cells #[.int .i64 s, .int .i64 a, .int .i64 o] 62)).heap.size = w.heap.size + 1 := by simp
        have z1 : ((w.alloc (.cells #[.int .i64 s, .int .i64 a, .int .i64 o] 62)).alloc (.cells #[] 3)).heap.size = w.heap.size + 2 := by simp
        have bP : Blk (((w.alloc (.cells #[.int .i64 s, .int .i64 a, .int .i64 o] 62)).alloc (.cells #[] 3)).alloc (.cells #[.int .i64 s, .int .i64 a, .int .i64 o] 62)) w.heap.size #[.int .i64 s, .int .i64 a, .int .i64 o] 62 := ((Blk.new w _ _).alloc _).alloc _
        have bw : Below w.heap.size w (((w.alloc (.cells #[.int .i64 s, .int .i64 a, .int .i64 o] 62)).alloc (.cells #[] 3)).alloc (.cells #[.int .i64 s, .int .i64 a, .int .i64 o] 62)) := bel_al (bel_al (bel_al (bel_refl w) _) _) _
        have zO : ((w.alloc (.cells #[.int .i64 s, .int .i64 a, .int .i64 o] 62)).alloc (.cells #[] 3)).heap.size = w.heap.size + 1 + 1 := by simp
        have own0 : (((w.alloc (.cells #[.int .i64 s, .int .i64 a, .int .i64 o] 62)).alloc (.cells #[] 3)).alloc (.cells #[.int .i64 s, .int .i64 a, .int .i64 o] 62)).ownsRow (w.heap.size + 1) 62 3 (.slice (some ⟨w.heap.size + 1 + 1, 0, none⟩) 1 1) 1 (flat csPi [⟨s, a, o⟩]) := by rw [← zO]; exact World.ownsRow_lit ((w.alloc (.cells #[.int .i64 s, .int .i64 a, .int .i64 o] 62)).alloc (.cells #[] 3)) #[.int .i64 s, .int .i64 a, .int .i64 o] 1 (by first | (simp; done) | (simp; omega)) (by simp [maxLen]) rfl
        clear z0 z1 zO
        go_enter Try.func53, Try.ntmps53
        go_upto_region 12 with fail
        generalize hO : w.heap.size + 1 + 1 = O at *
        generalize (((w.alloc (.cells #[.int .i64 s, .int .i64 a, .int .i64 o] 62)).alloc (.cells #[] 3)).alloc (.cells #[.int .i64 s, .int .i64 a, .int .i64 o] 62)) = w0 at *
        have hO2 : O < w0.heap.size := (own_lt own0 rfl).2
        have hO3 : w.heap.size + 1 + 1 ≤ O := by omega
        clear hO
        have cP0 : w0.cell? ⟨w.heap.size, 0, none⟩ = some (.int .i64 s) := by rw [Blk.cell bP]; rfl
        have cP1 : w0.cell? ⟨w.heap.size, 1, none⟩ = some (.int .i64 a) := by rw [Blk.cell bP]; rfl
        have cP2 : w0.cell? ⟨w.heap.size, 2, none⟩ = some (.int .i64 o) := by rw [Blk.cell bP]; rfl
        go_wp2_with (go_at_call 52; refine (swin_yes _ _ _ _ (by omega) (by omega)).mono ?_; rintro e w' ⟨rfl, rfl⟩)
        refine (spv_val HV.out _).mono ?_
        rintro e1 w1 ⟨rfl, b1⟩
        have bP := bP.below b1
        have bw := bel_tr bw b1
        clear cP0 cP1 cP2
        go_wp2
        exact bodyPost_ret (v := .slice (some ⟨w1.heap.size, 0, none⟩) 0 0) (by simp [results, Try.results53, go_sem]) rfl ⟨_, _, by rw [HN.out]; rfl, by rw [HN.out]; exact Nat.zero_le _, by simp [maxLen], by rw [HN.out]; exact fun h => absurd h (by simp), by rw [HN.out]; exact fun h => absurd h (by simp), bel_al bw _⟩
      · have HN := Lib.hid (fg_no (f := f) (b := ⟨s, a, o⟩) (g := g) (fun z => by have := z.2.2.1; rw [h] at this; simp at this))
        have HV := Lib.hid hv
        obtain ⟨f0, f1⟩ := hf
        clear hv
        have z0 : (w.alloc (.cells #[.int .i64 s, .int .i64 a, .int .i64 o] 62)).heap.size = w.heap.size + 1 := by simp
        have z1 : ((w.alloc (.cells #[.int .i64 s, .int .i64 a, .int .i64 o] 62)).alloc (.cells #[] 3)).heap.size = w.heap.size + 2 := by simp
        have bP : Blk (((w.alloc (.cells #[.int .i64 s, .int .i64 a, .int .i64 o] 62)).alloc (.cells #[] 3)).alloc (.cells #[.int .i64 s, .int .i64 a, .int .i64 o] 62)) w.heap.size #[.int .i64 s, .int .i64 a, .int .i64 o] 62 := ((Blk.new w _ _).alloc _).alloc _
        have bw : Below w.heap.size w (((w.alloc (.cells #[.int .i64 s, .int .i64 a, .int .i64 o] 62)).alloc (.cells #[] 3)).alloc (.cells #[.int .i64 s, .int .i64 a, .int .i64 o] 62)) := bel_al (bel_al (bel_al (bel_refl w) _) _) _
        have zO : ((w.alloc (.cells #[.int .i64 s, .int .i64 a, .int .i64 o] 62)).alloc (.cells #[] 3)).heap.size = w.heap.size + 1 + 1 := by simp
        have own0 : (((w.alloc (.cells #[.int .i64 s, .int .i64 a, .int .i64 o] 62)).alloc (.cells #[] 3)).alloc (.cells #[.int .i64 s, .int .i64 a, .int .i64 o] 62)).ownsRow (w.heap.size + 1) 62 3 (.slice (some ⟨w.heap.size + 1 + 1, 0, none⟩) 1 1) 1 (flat csPi [⟨s, a, o⟩]) := by rw [← zO]; exact World.ownsRow_lit ((w.alloc (.cells #[.int .i64 s, .int .i64 a, .int .i64 o] 62)).alloc (.cells #[] 3)) #[.int .i64 s, .int .i64 a, .int .i64 o] 1 (by first | (simp; done) | (simp; omega)) (by simp [maxLen]) rfl
        clear z0 z1 zO
        go_enter Try.func53, Try.ntmps53
        go_upto_region 12 with fail
        generalize hO : w.heap.size + 1 + 1 = O at *
        generalize (((w.alloc (.cells #[.int .i64 s, .int .i64 a, .int .i64 o] 62)).alloc (.cells #[] 3)).alloc (.cells #[.int .i64 s, .int .i64 a, .int .i64 o] 62)) = w0 at *
        have hO2 : O < w0.heap.size := (own_lt own0 rfl).2
        have hO3 : w.heap.size + 1 + 1 ≤ O := by omega
        clear hO
        have cP0 : w0.cell? ⟨w.heap.size, 0, none⟩ = some (.int .i64 s) := by rw [Blk.cell bP]; rfl
        have cP1 : w0.cell? ⟨w.heap.size, 1, none⟩ = some (.int .i64 a) := by rw [Blk.cell bP]; rfl
        have cP2 : w0.cell? ⟨w.heap.size, 2, none⟩ = some (.int .i64 o) := by rw [Blk.cell bP]; rfl
        go_wp2_with (go_at_call 52; refine (swin_yes _ _ _ _ (by omega) (by omega)).mono ?_; rintro e w' ⟨rfl, rfl⟩)
        refine (spv_val HV.out _).mono ?_
        rintro e1 w1 ⟨rfl, b1⟩
        have bP := bP.below b1
        have bw := bel_tr bw b1
        clear cP0 cP1 cP2
        go_wp2
        exact bodyPost_ret (v := .slice (some ⟨w1.heap.size, 0, none⟩) 0 0) (by simp [results, Try.results53, go_sem]) rfl ⟨_, _, by rw [HN.out]; rfl, by rw [HN.out]; exact Nat.zero_le _, by simp [maxLen], by rw [HN.out]; exact fun h => absurd h (by simp), by rw [HN.out]; exact fun h => absurd h (by simp), bel_al bw _⟩
    · have HN := Lib.hid (fg_no (f := f) (b := ⟨s, a, o⟩) (g := g) (fun z => hf z.1))
      have z0 : (w.alloc (.cells #[.int .i64 s, .int .i64 a, .int .i64 o] 62)).heap.size = w.heap.size + 1 := by simp
      have z1 : ((w.alloc (.cells #[.int .i64 s, .int .i64 a, .int .i64 o] 62)).alloc (.cells #[] 3)).heap.size = w.heap.size + 2 := by simp
      have bP : Blk (((w.alloc (.cells #[.int .i64 s, .int .i64 a, .int .i64 o] 62)).alloc (.cells #[] 3)).alloc (.cells #[.int .i64 s, .int .i64 a, .int .i64 o] 62)) w.heap.size #[.int .i64 s, .int .i64 a, .int .i64 o] 62 := ((Blk.new w _ _).alloc _).alloc _
      have bw : Below w.heap.size w (((w.alloc (.cells #[.int .i64 s, .int .i64 a, .int .i64 o] 62)).alloc (.cells #[] 3)).alloc (.cells #[.int .i64 s, .int .i64 a, .int .i64 o] 62)) := bel_al (bel_al (bel_al (bel_refl w) _) _) _
      have zO : ((w.alloc (.cells #[.int .i64 s, .int .i64 a, .int .i64 o] 62)).alloc (.cells #[] 3)).heap.size = w.heap.size + 1 + 1 := by simp
      have own0 : (((w.alloc (.cells #[.int .i64 s, .int .i64 a, .int .i64 o] 62)).alloc (.cells #[] 3)).alloc (.cells #[.int .i64 s, .int .i64 a, .int .i64 o] 62)).ownsRow (w.heap.size + 1) 62 3 (.slice (some ⟨w.heap.size + 1 + 1, 0, none⟩) 1 1) 1 (flat csPi [⟨s, a, o⟩]) := by rw [← zO]; exact World.ownsRow_lit ((w.alloc (.cells #[.int .i64 s, .int .i64 a, .int .i64 o] 62)).alloc (.cells #[] 3)) #[.int .i64 s, .int .i64 a, .int .i64 o] 1 (by first | (simp; done) | (simp; omega)) (by simp [maxLen]) rfl
      clear z0 z1 zO
      go_enter Try.func53, Try.ntmps53
      go_upto_region 12 with fail
      generalize hO : w.heap.size + 1 + 1 = O at *
      generalize (((w.alloc (.cells #[.int .i64 s, .int .i64 a, .int .i64 o] 62)).alloc (.cells #[] 3)).alloc (.cells #[.int .i64 s, .int .i64 a, .int .i64 o] 62)) = w0 at *
      have hO2 : O < w0.heap.size := (own_lt own0 rfl).2
      have hO3 : w.heap.size + 1 + 1 ≤ O := by omega
      clear hO
      have cP0 : w0.cell? ⟨w.heap.size, 0, none⟩ = some (.int .i64 s) := by rw [Blk.cell bP]; rfl
      have cP1 : w0.cell? ⟨w.heap.size, 1, none⟩ = some (.int .i64 a) := by rw [Blk.cell bP]; rfl
      have cP2 : w0.cell? ⟨w.heap.size, 2, none⟩ = some (.int .i64 o) := by rw [Blk.cell bP]; rfl
      go_wp2_with (go_at_call 52; refine (swin_no _ _ _ _ (by omega)).mono ?_; rintro e w' ⟨rfl, rfl⟩)
      exact bodyPost_ret (v := .slice (some ⟨w0.heap.size, 0, none⟩) 0 0) (by simp [results, Try.results53, go_sem]) rfl ⟨_, _, by rw [HN.out]; rfl, by rw [HN.out]; exact Nat.zero_le _, by simp [maxLen], by rw [HN.out]; exact fun h => absurd h (by simp), by rw [HN.out]; exact fun h => absurd h (by simp), bel_al bw _⟩
theorem fg_val {f s a o g : Int} {L : List Pi} (h : fgL f ⟨s, a, o⟩ g = L) (w : World) : Calls Try.prog 62 #[.int .i64 f, .agg #[.int .i64 s, .int .i64 a, .int .i64 o], .int .i64 g] w (FgR w L) := by
  subst h; exact fg_any f s a o g w
theorem sfg_val {f s a o g : Int} {L : List Pi} (h : fgL f ⟨s, a, o⟩ g = L) (w : World) : Calls Try.prog 53 #[.int .i64 f, .agg #[.int .i64 s, .int .i64 a, .int .i64 o], .int .i64 g] w (FgR w L) := by
  subst h; exact sfg_any f s a o g w
end Go.Proofs.Ytpjakgnghpapmaa
