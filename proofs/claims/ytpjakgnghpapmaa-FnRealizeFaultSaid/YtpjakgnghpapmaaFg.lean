/- Figures of thorough bass: the program. -/
import Derived.Test.YtpjakgnghpapmaaFgC
namespace Go.Proofs.Ytpjakgnghpapmaa
set_option linter.unusedSimpArgs false
set_option linter.unusedVariables false
open Go.RowKit

def fgI (f pl : Int) (b : Pi) (D : List Int) : Nat → List Pi
  | 0 => []
  | k + 1 => fgK f pl b D k
theorem fgI_len (f pl : Int) (b : Pi) (D : List Int) : ∀ k, (fgI f pl b D k).length = k
  | 0 => rfl
  | k + 1 => fgK_len f pl b D k
def FgS (w w3 : World) (bs : Nat) (s a o : Int) (out : Value) (wr : World) : Prop := wr.heap[bs]? = w3.heap[bs]? ∧ bs < wr.heap.size ∧ Blk wr w.heap.size #[.int .i64 s, .int .i64 a, .int .i64 o] 62 ∧ Below w.heap.size w wr ∧ (∀ g, out.ownBlock = some g → ¬ g = bs)
theorem FgS.grow {w w3 wr v w9 : World} {bs : Nat} {s a o : Int} {out : Value} (h : FgS w w3 bs s a o out wr) (hb : Below wr.heap.size wr v) (hg : v.grownBy w9 out.ownBlock) (hge : ∀ k, out.ownBlock = some k → w.heap.size + 1 ≤ k) {gg n c H : Nat} (hat : out.ownBlock = some gg ∨ gg = H) (hH : wr.heap.size ≤ H) : FgS w w3 bs s a o (.slice (some ⟨gg, 0, none⟩) n c) w9 := by
  obtain ⟨h1, h2, h3, h4, h5⟩ := h
  have hl : bs < v.heap.size := Nat.lt_of_lt_of_le h2 hb.size
  refine ⟨(hg.block bs hl (fun e => h5 bs e.symm rfl)).trans ((hb.block bs h2).trans h1), Nat.lt_of_lt_of_le hl hg.size, (h3.below hb).grown hg (fun e => by have := hge _ e; omega), bel_grown (bel_tr h4 hb) hg (fun k hk => by have := hge k hk; omega), fun g e => ?_⟩
  have e2 : gg = g := Option.some.inj e
  subst e2
  rcases hat with c | c
  · exact h5 gg c
  · omega
set_option maxRecDepth 20000 in
set_option maxHeartbeats 8000000 in
theorem fg_any (f : Int) (s a o g : Int) (w : World) : Calls Try.prog 62 #[.int .i64 f, .agg #[.int .i64 s, .int .i64 a, .int .i64 o], .int .i64 g] w (FgR w (fgL f ⟨s, a, o⟩ g)) := by
  obtain ⟨i0, hi0, hz0, hz1, hz2⟩ := info_parts infoPi
  by_cases hf : -7 ≤ f ∧ f ≤ 7
  · cases hv : pvB s a o
    · have HN := Lib.hid (fg_no (f := f) (b := ⟨s, a, o⟩) (g := g) (fun z => by have := z.2.1; unfold pvQ at this; rw [hv] at this; cases this))
      have HV := Lib.hid hv
      obtain ⟨f0, f1⟩ := hf
      clear hv
      have bP : Blk (w.alloc (.cells #[.int .i64 s, .int .i64 a, .int .i64 o] 62)) w.heap.size #[.int .i64 s, .int .i64 a, .int .i64 o] 62 := Blk.new w _ _
      have bw : Below w.heap.size w (w.alloc (.cells #[.int .i64 s, .int .i64 a, .int .i64 o] 62)) := bel_al (bel_refl w) _
      have lw : w.heap.size + 1 ≤ (w.alloc (.cells #[.int .i64 s, .int .i64 a, .int .i64 o] 62)).heap.size := bP.lt
      go_enter Try.func62, Try.ntmps62
      go_wp2_with (go_at_call 57; refine (ik_yes _ _ (by omega) (by omega)).mono ?_; rintro e w' ⟨rfl, rfl⟩)
      generalize (w.alloc (.cells #[.int .i64 s, .int .i64 a, .int .i64 o] 62)) = w0 at *
      refine (pv_val HV.out _).mono ?_
      rintro e1 w1 ⟨rfl, b1⟩
      have bP := bP.below b1
      have bw := bel_tr bw b1
      have lw : w.heap.size + 1 ≤ _ := bP.lt
      go_wp2
      exact bodyPost_ret (v := .slice none 0 0) (by simp [results, Try.results62, go_sem]) rfl ⟨_, _, by rw [HN.out]; rfl, by rw [HN.out]; exact Nat.zero_le _, by simp [maxLen], by rw [HN.out]; exact fun h => absurd h (by simp), by rw [HN.out]; exact fun h => absurd h (by simp), bw⟩
    · have HF := Lib.hid hf
      have HV := Lib.hid hv
      have hb := pvB_bd hv
      obtain ⟨f0, f1⟩ := hf
      obtain ⟨s0, s1, a0, a1, o0, o1⟩ := hb
      obtain ⟨d3, dk⟩ := stL_ok g
      clear hv
      have bP : Blk (w.alloc (.cells #[.int .i64 s, .int .i64 a, .int .i64 o] 62)) w.heap.size #[.int .i64 s, .int .i64 a, .int .i64 o] 62 := Blk.new w _ _
      have bw : Below w.heap.size w (w.alloc (.cells #[.int .i64 s, .int .i64 a, .int .i64 o] 62)) := bel_al (bel_refl w) _
      have lw : w.heap.size + 1 ≤ (w.alloc (.cells #[.int .i64 s, .int .i64 a, .int .i64 o] 62)).heap.size := bP.lt
      go_enter Try.func62, Try.ntmps62
      go_wp2_with (go_at_call 57; refine (ik_yes _ _ (by omega) (by omega)).mono ?_; rintro e w' ⟨rfl, rfl⟩)
      generalize (w.alloc (.cells #[.int .i64 s, .int .i64 a, .int .i64 o] 62)) = w0 at *
      refine (pv_val HV.out _).mono ?_
      rintro e1 w1 ⟨rfl, b1⟩
      have bP := bP.below b1
      have bw := bel_tr bw b1
      have lw : w.heap.size + 1 ≤ _ := bP.lt
      clear b1
      have own0 : (w1.alloc (.cells #[] 62)).ownsRow (w.heap.size + 1) 62 3 (.slice (some ⟨w1.heap.size, 0, none⟩) 0 0) ([] : List Pi).length (flat csPi []) := World.ownsRow_lit w1 #[] 0 (by omega) (by simp [maxLen]) rfl
      have bP := bP.alloc (.cells #[] 62)
      have bw := bel_al bw (.cells #[] 62)
      go_wp2_with fail
      generalize (w1.alloc (.cells #[] 62)) = w2 at *
      generalize w1.heap.size = O at *
      have hO : O < w2.heap.size := (own_lt own0 rfl).2
      refine (fs_any g _).mono ?_
      rintro e3 w3 ⟨A, c, rfl, hr, hfr, b3⟩
      have bP := bP.below b3
      have bw := bel_tr bw b3
      have lw : w.heap.size + 1 ≤ _ := bP.lt
      have own0 := own_below own0 b3
      clear b3
      generalize hD : stL g = D at *
      by_cases hg : 0 < D.length
      · have he : stF g = 0 :: D := by unfold stF; rw [hD, if_neg (by intro z; rw [z] at hg; simp at hg)]
        rw [he] at hr ⊢
        have HDD := Lib.hid hD
        clear he hD
        have hlen : (0 :: D).length = D.length + 1 := rfl
        rw [hlen]
        obtain ⟨bs, os, rfl, hbs, hcs⟩ := hr (by simp)
        have hsw := bw.size
        have hbO := hfr _ rfl
        simp only at hbO
        have FS0 : FgS w w3 bs s a o (.slice (some ⟨O, 0, none⟩) 0 0) w3 := ⟨rfl, hbs, bP, bw, fun g e => by have e2 : O = g := Option.some.inj e; omega⟩
        go_wp2_with fail
        go_loopw [7, 9, 10, 23] (fun out _ _ i wr => ∃ k : Nat, k ≤ D.length + 1 ∧ i = .int .i64 k ∧ wr.ownsRow (w.heap.size + 1) 62 3 out (fgI f (plI ⟨s, a, o⟩) ⟨s, a, o⟩ D k).length (flat csPi (fgI f (plI ⟨s, a, o⟩) ⟨s, a, o⟩ D k)) ∧ FgS w w3 bs s a o out wr ∧ Hid (∀ j, j + 1 < k → pvQ (kpP f (plI ⟨s, a, o⟩ + D.getD j 0)))) (fun _ _ _ i _ => D.length + 1 - (intOf i).toNat)
        case atStart => exact ⟨0, Nat.zero_le _, rfl, own0, FS0, fun j hj => absurd hj (by omega)⟩
        case round =>
          obtain ⟨k, hk, rfl, hown, FS, HK⟩ := hrel
          clear own0 FS0
          have hlen2 := fgI_len f (plI ⟨s, a, o⟩) ⟨s, a, o⟩ D k
          have bPr := FS.2.2.1
          have hbwr := FS.2.2.2.1
          by_cases hlt : k < D.length + 1
          · have hki : (k : Int) < (D.length : Int) + 1 := by omega
            have hk0 : (0 : Int) ≤ (k : Int) := by omega
            have hst : wr.cell? ⟨bs, os + k, none⟩ = some (.int .i64 ((0 :: D).getD k 0)) := (World.cell?_of_block (a := ⟨bs, os + k, none⟩) FS.1).trans (hcs k (by simp; omega))
            generalize hL : fgI f (plI ⟨s, a, o⟩) ⟨s, a, o⟩ D k = L at hown hlen2
            have HL := Lib.hid hL
            have hL5 : L.length ≤ 5 := by omega
            clear hL hlen2
            have hXo0 : ∀ b, _ = some b → b < wr.heap.size := fun b e => (own_lt hown e).2
            cases k with
            | zero =>
              simp only [Nat.add_zero, List.getD_cons_zero] at hst
              have cP0 : wr.cell? ⟨w.heap.size, 0, none⟩ = some (.int .i64 s) := by rw [Blk.cell bPr]; rfl
              have cP1 : wr.cell? ⟨w.heap.size, 1, none⟩ = some (.int .i64 a) := by rw [Blk.cell bPr]; rfl
              have cP2 : wr.cell? ⟨w.heap.size, 2, none⟩ = some (.int .i64 o) := by rw [Blk.cell bPr]; rfl
              have bX : Blk (wr.alloc (.cells #[.int .i64 s, .int .i64 a, .int .i64 o] 62)) wr.heap.size #[.int .i64 s, .int .i64 a, .int .i64 o] 62 := Blk.new wr _ _
              have hownX := hown.alloc (.cells #[.int .i64 s, .int .i64 a, .int .i64 o] 62)
              have bPX := bPr.alloc (.cells #[.int .i64 s, .int .i64 a, .int .i64 o] 62)
              have hbX : Below wr.heap.size wr (wr.alloc (.cells #[.int .i64 s, .int .i64 a, .int .i64 o] 62)) := bel_al (bel_refl wr) _
              go_upto_region 8 with fail
              clear cP0 cP1 cP2 hst hown bPr
              generalize (wr.alloc (.cells #[.int .i64 s, .int .i64 a, .int .i64 o] 62)) = v at *
              generalize hPX : wr.heap.size = X at *
              have hbX : Below wr.heap.size wr v := by rw [hPX]; exact hbX
              have hwr : wr.heap.size ≤ X := Nat.le_of_eq hPX
              have hXo : ∀ b, _ = some b → ¬ b = X := fun b e c => by have := hXo0 b e; omega
              clear hXo0
              have m0 : v.cell? ⟨X, 0, none⟩ = some (.int .i64 s) := by rw [Blk.cell bX]; rfl
              have m1 : v.cell? ⟨X, 1, none⟩ = some (.int .i64 a) := by rw [Blk.cell bX]; rfl
              have m2 : v.cell? ⟨X, 2, none⟩ = some (.int .i64 o) := by rw [Blk.cell bX]; rfl
              go_wp2_with fail
              refine (pv_val HV.out _).mono ?_
              rintro e6 w6 ⟨rfl, b6⟩
              have bX := bX.below b6
              have hownX := own_below hownX b6
              have hbX : Below wr.heap.size wr w6 := bel_tr hbX b6
              clear b6 m0 m1 m2
              have m0 : w6.cell? ⟨X, 0, none⟩ = some (.int .i64 s) := by rw [Blk.cell bX]; rfl
              have m1 : w6.cell? ⟨X, 1, none⟩ = some (.int .i64 a) := by rw [Blk.cell bX]; rfl
              have m2 : w6.cell? ⟨X, 2, none⟩ = some (.int .i64 o) := by rw [Blk.cell bX]; rfl
              have hw6 := hbX.size
              have hbs6 := hbwr.size
              go_wp2_with (at_builtin; go_must (refine wpList_append_lies _ rfl _ _ 37 rfl (w.heap.size + 1) 62 i0 _ 3 24 Try.underlying37 hi0 hz0 hz1 hz2 rfl (by omega) _ L.length (flat csPi L) rfl (hownX.alloc _) ⟨w6.heap.size, 0, none⟩ 1 1 [.int .i64 s, .int .i64 a, .int .i64 o] rfl rfl (World.news_of_block (cs := #[.int .i64 s, .int .i64 a, .int .i64 o]) (t := 62) (fr := (0, 0)) (heap_alloc_new w6 _)) (by simp [Value.oneCell']) (by omega) (by unfold maxLen; omega) (by omega) (by simp; omega) _ rfl ?_; intro gg9 cp9 w9 hown9 hgrow9 hat9 hlt9))
              have FS9 := FS.grow (n := L.length + 1) (c := cp9) (bel_al hbX (.cells #[.int .i64 s, .int .i64 a, .int .i64 o] 62)) hgrow9 (fun k hk => own_ge hownX k hk) hat9 (Nat.le_trans hw6 (by simp))
              have hq := own_push (t := (⟨s, a, o⟩ : Pi)) hown9 rfl
              go_roundw
              case rel => exact ⟨1, by omega, by go_num, by rw [show fgI f (plI ⟨s, a, o⟩) ⟨s, a, o⟩ D 1 = fgI f (plI ⟨s, a, o⟩) ⟨s, a, o⟩ D 0 ++ [⟨s, a, o⟩] from rfl, HL.out]; exact hq, FS9, fun j hj => absurd hj (by omega)⟩
              case measure => simp [intOf] <;> omega
            | succ k =>
              obtain ⟨d, hd⟩ : ∃ d, D.getD k 0 = d := ⟨_, rfl⟩
              obtain ⟨e0, e1⟩ := dk k (by omega)
              rw [hd] at e0 e1
              have hgd : (0 :: D).getD (k + 1) 0 = d := hd
              rw [hgd] at hst
              have HDK := Lib.hid hd
              clear hd hgd
              have cP0 : wr.cell? ⟨w.heap.size, 0, none⟩ = some (.int .i64 s) := by rw [Blk.cell bPr]; rfl
              have cP1 : wr.cell? ⟨w.heap.size, 1, none⟩ = some (.int .i64 a) := by rw [Blk.cell bPr]; rfl
              have cP2 : wr.cell? ⟨w.heap.size, 2, none⟩ = some (.int .i64 o) := by rw [Blk.cell bPr]; rfl
              have bX : Blk (wr.alloc (.cells #[.int .i64 s, .int .i64 a, .int .i64 o] 62)) wr.heap.size #[.int .i64 s, .int .i64 a, .int .i64 o] 62 := Blk.new wr _ _
              have hownX := hown.alloc (.cells #[.int .i64 s, .int .i64 a, .int .i64 o] 62)
              have bPX := bPr.alloc (.cells #[.int .i64 s, .int .i64 a, .int .i64 o] 62)
              have hbX : Below wr.heap.size wr (wr.alloc (.cells #[.int .i64 s, .int .i64 a, .int .i64 o] 62)) := bel_al (bel_refl wr) _
              go_upto_region 9 with fail
              clear cP0 cP1 cP2 hst hown bPr
              generalize (wr.alloc (.cells #[.int .i64 s, .int .i64 a, .int .i64 o] 62)) = v at *
              generalize hPX : wr.heap.size = X at *
              have hbX : Below wr.heap.size wr v := by rw [hPX]; exact hbX
              have hwr : wr.heap.size ≤ X := Nat.le_of_eq hPX
              have hXo : ∀ b, _ = some b → ¬ b = X := fun b e c => by have := hXo0 b e; omega
              clear hXo0
              have cP0 : v.cell? ⟨w.heap.size, 0, none⟩ = some (.int .i64 s) := by rw [Blk.cell bPX]; rfl
              have cP1 : v.cell? ⟨w.heap.size, 1, none⟩ = some (.int .i64 a) := by rw [Blk.cell bPX]; rfl
              have cP2 : v.cell? ⟨w.heap.size, 2, none⟩ = some (.int .i64 o) := by rw [Blk.cell bPX]; rfl
              go_wp2_with fail
              refine (pp_yes s a o _ HV.out).mono ?_
              rintro e4 w4 ⟨rfl, b4⟩
              have bX := bX.below b4
              have hownX := own_below hownX b4
              have hbX : Below wr.heap.size wr w4 := bel_tr hbX b4
              clear b4 cP0 cP1 cP2 bPX
              obtain ⟨pl, hpl⟩ : ∃ x, 7 * o + s + d = x := ⟨_, rfl⟩
              have p0 : 0 ≤ pl := by omega
              have p1 : pl ≤ 1000 := by omega
              have i1 := IntWalk.i64_in (7 * o + s + d) (by omega)
              rw [hpl] at i1
              have HPL := Lib.hid (show kpP f (plI ⟨s, a, o⟩ + D.getD k 0) = kpP f pl from by unfold plI; rw [HDK.out, ← hpl])
              go_wp2_with fail

              refine (kp_any f pl _ f0 f1 p0 p1).mono ?_
              rintro e5 w5 ⟨rfl, b5⟩
              have bX := bX.below b5
              have hownX := own_below hownX b5
              have hbX : Below wr.heap.size wr w5 := bel_tr hbX b5
              clear b5
              generalize hkp : kpP f pl = t at *
              have HKP := Lib.hid hkp
              clear hkp
              obtain ⟨ts, ta, tt⟩ := t
              simp only
              have m0 : w5.cell? ⟨X, 0, none⟩ = some (.int .i64 s) := by rw [Blk.cell bX]; rfl
              have m1 : w5.cell? ⟨X, 1, none⟩ = some (.int .i64 a) := by rw [Blk.cell bX]; rfl
              have m2 : w5.cell? ⟨X, 2, none⟩ = some (.int .i64 o) := by rw [Blk.cell bX]; rfl
              have fX0 := bX.free 0
              have fX1 := bX.free 1
              have fX2 := bX.free 2
              have lX := bX.lt
              go_upto_region 10 with fail
              have hownX := own_off (q := ⟨X, 2, none⟩) (own_off (q := ⟨X, 1, none⟩) (own_off (q := ⟨X, 0, none⟩) (hownX) (fun e => hXo X e rfl) (.int .i64 ts)) (fun e => hXo X e rfl) (.int .i64 ta)) (fun e => hXo X e rfl) (.int .i64 tt)
              have bX : Blk (((w5.setCell ⟨X, 0, none⟩ (.int .i64 ts)).setCell ⟨X, 1, none⟩ (.int .i64 ta)).setCell ⟨X, 2, none⟩ (.int .i64 tt)) X #[.int .i64 ts, .int .i64 ta, .int .i64 tt] 62 := bX.set3
              have hbX : Below wr.heap.size wr (((w5.setCell ⟨X, 0, none⟩ (.int .i64 ts)).setCell ⟨X, 1, none⟩ (.int .i64 ta)).setCell ⟨X, 2, none⟩ (.int .i64 tt)) := bel_set (bel_set (bel_set hbX hwr _) hwr _) hwr _
              clear m0 m1 m2 fX0 fX1 fX2 lX
              generalize (((w5.setCell ⟨X, 0, none⟩ (.int .i64 ts)).setCell ⟨X, 1, none⟩ (.int .i64 ta)).setCell ⟨X, 2, none⟩ (.int .i64 tt)) = v7 at *
              cases hq : pvB ts ta tt
              · have HQ := Lib.hid hq
                have HN := Lib.hid (fg_no (f := f) (b := ⟨s, a, o⟩) (g := g) (fun z => by have h := z.2.2.2 k (by rw [HDD.out]; omega); unfold pvQ at h; rw [HDD.out, HPL.out] at h; simp only at h; rw [hq] at h; cases h))
                clear hq
                have m0 : v7.cell? ⟨X, 0, none⟩ = some (.int .i64 ts) := by rw [Blk.cell bX]; rfl
                have m1 : v7.cell? ⟨X, 1, none⟩ = some (.int .i64 ta) := by rw [Blk.cell bX]; rfl
                have m2 : v7.cell? ⟨X, 2, none⟩ = some (.int .i64 tt) := by rw [Blk.cell bX]; rfl
                go_wp2_with fail
                refine (pv_val HQ.out _).mono ?_
                rintro e6 w6 ⟨rfl, b6⟩
                have bX := bX.below b6
                have hownX := own_below hownX b6
                have hbX : Below wr.heap.size wr w6 := bel_tr hbX b6
                clear b6 m0 m1 m2
                have hbw := bel_tr hbwr hbX
                go_wp2
                exact bodyPost_ret (v := .slice none 0 0) (by simp [results, Try.results62, go_sem]) rfl ⟨_, _, by rw [HN.out]; rfl, by rw [HN.out]; exact Nat.zero_le _, by simp [maxLen], by rw [HN.out]; exact fun h => absurd h (by simp), by rw [HN.out]; exact fun h => absurd h (by simp), hbw⟩
              · have HQ := Lib.hid hq
                have HOK : Hid (pvQ (kpP f (plI ⟨s, a, o⟩ + D.getD k 0))) := by show pvQ _; rw [HPL.out]; exact hq
                clear hq
                have m0 : v7.cell? ⟨X, 0, none⟩ = some (.int .i64 ts) := by rw [Blk.cell bX]; rfl
                have m1 : v7.cell? ⟨X, 1, none⟩ = some (.int .i64 ta) := by rw [Blk.cell bX]; rfl
                have m2 : v7.cell? ⟨X, 2, none⟩ = some (.int .i64 tt) := by rw [Blk.cell bX]; rfl
                go_wp2_with fail
                refine (pv_val HQ.out _).mono ?_
                rintro e6 w6 ⟨rfl, b6⟩
                have bX := bX.below b6
                have hownX := own_below hownX b6
                have hbX : Below wr.heap.size wr w6 := bel_tr hbX b6
                clear b6 m0 m1 m2
                have m0 : w6.cell? ⟨X, 0, none⟩ = some (.int .i64 ts) := by rw [Blk.cell bX]; rfl
                have m1 : w6.cell? ⟨X, 1, none⟩ = some (.int .i64 ta) := by rw [Blk.cell bX]; rfl
                have m2 : w6.cell? ⟨X, 2, none⟩ = some (.int .i64 tt) := by rw [Blk.cell bX]; rfl
                have hw6 := hbX.size
                have hbs6 := hbwr.size
                go_wp2_with (at_builtin; go_must (refine wpList_append_lies _ rfl _ _ 37 rfl (w.heap.size + 1) 62 i0 _ 3 24 Try.underlying37 hi0 hz0 hz1 hz2 rfl (by omega) _ L.length (flat csPi L) rfl (hownX.alloc _) ⟨w6.heap.size, 0, none⟩ 1 1 [.int .i64 ts, .int .i64 ta, .int .i64 tt] rfl rfl (World.news_of_block (cs := #[.int .i64 ts, .int .i64 ta, .int .i64 tt]) (t := 62) (fr := (0, 0)) (heap_alloc_new w6 _)) (by simp [Value.oneCell']) (by omega) (by unfold maxLen; omega) (by omega) (by simp; omega) _ rfl ?_; intro gg9 cp9 w9 hown9 hgrow9 hat9 hlt9))
                have FS9 := FS.grow (n := L.length + 1) (c := cp9) (bel_al hbX (.cells #[.int .i64 ts, .int .i64 ta, .int .i64 tt] 62)) hgrow9 (fun k hk => own_ge hownX k hk) hat9 (Nat.le_trans hw6 (by simp))
                have hq := own_push (t := (⟨ts, ta, tt⟩ : Pi)) hown9 rfl
                go_roundw
                case rel => exact ⟨k + 1 + 1, by omega, by go_num, by rw [show fgI f (plI ⟨s, a, o⟩) ⟨s, a, o⟩ D (k + 1 + 1) = fgI f (plI ⟨s, a, o⟩) ⟨s, a, o⟩ D (k + 1) ++ [kpP f (plI ⟨s, a, o⟩ + D.getD k 0)] from rfl, HL.out, HPL.out]; exact hq, FS9, fun j hj => by rcases Nat.lt_or_ge (j + 1) (k + 1) with c | c; exact HK.out j c; obtain rfl : j = k := (by omega); exact HOK.out⟩
                case measure => simp [intOf] <;> omega
          · obtain rfl : k = D.length + 1 := by omega
            have HE := Lib.hid (fg_yes (f := f) (b := ⟨s, a, o⟩) (g := g) ⟨HF.out, HV.out, by rw [HDD.out]; exact hg, by rw [HDD.out]; exact fun j hj => HK.out j (by omega)⟩)
            obtain ⟨A9, c9, rfl, lc9, cm9, r9, o9⟩ := own_rowPi hown
            have hbw := hbwr
            have HEL := Lib.hid (show fgL f ⟨s, a, o⟩ g = fgI f (plI ⟨s, a, o⟩) ⟨s, a, o⟩ D (D.length + 1) from by rw [HE.out, HDD.out]; rfl)
            go_wp2
            exact bodyPost_ret (v := .slice A9 (fgI f (plI ⟨s, a, o⟩) ⟨s, a, o⟩ D (D.length + 1)).length c9) (by simp [results, Try.results62, go_sem]) rfl ⟨_, _, by rw [HEL.out], by rw [HEL.out]; exact lc9, cm9, by rw [HEL.out]; exact r9, by rw [HEL.out]; exact fun hh => by obtain ⟨b, off, e, g1, g2⟩ := o9 hh; exact ⟨b, off, e, by omega, g2⟩, hbw⟩
      · have HN := Lib.hid (fg_no (f := f) (b := ⟨s, a, o⟩) (g := g) (fun z => by have := z.2.2.1; rw [hD] at this; exact hg this))
        have he : stF g = [] := by unfold stF; rw [hD, if_pos (List.eq_nil_of_length_eq_zero (by omega))]
        rw [he] at hr ⊢
        have HE := Lib.hid he
        clear he hD
        go_wp2_with fail
        refine wp_loop_rounds 1 ?_
        rw [rounds_succ]
        go_wp2
        exact bodyPost_ret (v := .slice (some ⟨O, 0, none⟩) 0 0) (by simp [results, Try.results62, go_sem]) rfl ⟨_, _, by rw [HN.out]; rfl, by rw [HN.out]; exact Nat.zero_le _, by simp [maxLen], by rw [HN.out]; exact fun h => absurd h (by simp), by rw [HN.out]; exact fun h => absurd h (by simp), bw⟩
  · have HN := Lib.hid (fg_no (f := f) (b := ⟨s, a, o⟩) (g := g) (fun z => hf z.1))
    have bP : Blk (w.alloc (.cells #[.int .i64 s, .int .i64 a, .int .i64 o] 62)) w.heap.size #[.int .i64 s, .int .i64 a, .int .i64 o] 62 := Blk.new w _ _
    have bw : Below w.heap.size w (w.alloc (.cells #[.int .i64 s, .int .i64 a, .int .i64 o] 62)) := bel_al (bel_refl w) _
    have lw : w.heap.size + 1 ≤ (w.alloc (.cells #[.int .i64 s, .int .i64 a, .int .i64 o] 62)).heap.size := bP.lt
    go_enter Try.func62, Try.ntmps62
    go_wp2_with (go_at_call 57; refine (ik_no _ _ (by omega)).mono ?_; rintro e w' ⟨rfl, rfl⟩)
    exact bodyPost_ret (v := .slice none 0 0) (by simp [results, Try.results62, go_sem]) rfl ⟨_, _, by rw [HN.out]; rfl, by rw [HN.out]; exact Nat.zero_le _, by simp [maxLen], by rw [HN.out]; exact fun h => absurd h (by simp), by rw [HN.out]; exact fun h => absurd h (by simp), bw⟩
end Go.Proofs.Ytpjakgnghpapmaa
