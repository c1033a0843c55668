/- Perform, as the reference does it. -/
import Derived.Test.YtaieamobjbckdaaPrC
namespace Go.Proofs.Ytaieamobjbckdaa
set_option linter.unusedSimpArgs false
set_option linter.unusedVariables false
open Go.RowKit

/-- note i of a row that lies at block b -/
def CN (w : World) (b off : Nat) (t : Nt) (i : Nat) : Prop := w.cell? ⟨b, off + i * 6, none⟩ = some (.bool t.rest) ∧ w.cell? ⟨b, off + i * 6 + 1, none⟩ = some (.int .i64 t.step) ∧ w.cell? ⟨b, off + i * 6 + 2, none⟩ = some (.int .i64 t.alter) ∧ w.cell? ⟨b, off + i * 6 + 3, none⟩ = some (.int .i64 t.octave) ∧ w.cell? ⟨b, off + i * 6 + 4, none⟩ = some (.int .i64 t.ticks) ∧ w.cell? ⟨b, off + i * 6 + 5, none⟩ = some (.bool t.tied)
theorem CN.tr {w w' : World} {b off i : Nat} {t : Nt} (h : CN w b off t i) (hb : Below w.heap.size w w') : CN w' b off t i := by
  obtain ⟨h0, h1, h2, h3, h4, h5⟩ := h
  exact ⟨keep_tr h0 hb, keep_tr h1 hb, keep_tr h2 hb, keep_tr h3 hb, keep_tr h4 hb, keep_tr h5 hb⟩
theorem CN.grown {w w' : World} {b off i : Nat} {t : Nt} {row : Option Nat} (h : CN w b off t i) (hg : w.grownBy w' row) (hn : row ≠ some b) : CN w' b off t i := by
  obtain ⟨h0, h1, h2, h3, h4, h5⟩ := h
  exact ⟨grown_cell hg h0 hn, grown_cell hg h1 hn, grown_cell hg h2 hn, grown_cell hg h3 hn, grown_cell hg h4 hn, grown_cell hg h5 hn⟩
theorem perL_bad2 {l : List Nt} {T : List Tp} {loud : Int} (h : ¬ ∀ k, k < l.length → kOk (atNt l k)) : perL l T loud = [] := by
  unfold perL; rw [if_neg]; intro c; exact h (of_decide_eq_true c).2.2.2
theorem sE_len (G : List Nt) (T : List Tp) (loud : Int) : ∀ k, (sE G T loud k).length ≤ k
  | 0 => by simp [sE]
  | k + 1 => by
    have := sE_len G T loud k
    unfold sE; split <;> simp <;> omega
theorem sE_skip {G : List Nt} {T : List Tp} {loud : Int} {k : Nat} (h : (atNt G k).rest = true) : sE G T loud (k + 1) = sE G T loud k := by rw [sE, if_pos h, List.append_nil]
theorem sE_new {G : List Nt} {T : List Tp} {loud : Int} {k : Nat} (h : ¬ (atNt G k).rest = true) : sE G T loud (k + 1) = sE G T loud k ++ [evG G T loud k] := by rw [sE, if_neg h]
theorem row_open {w : World} {A : Option Addr} {G : List Nt} {base : Nat} (h : RowNt w w.heap.size A G) (ho : OwnNt w base A G.length) :
    ∃ b off, (0 < G.length → A = some ⟨b, off, none⟩ ∧ base ≤ b ∧ b < w.heap.size) ∧ ∀ i, i < G.length → CN w b off (atNt G i) i := by
  by_cases h0 : 0 < G.length
  · obtain ⟨b, off, e, hb, hc⟩ := h h0
    obtain ⟨b', off', e', hb', _⟩ := ho h0
    rw [e] at e'
    simp only [Option.some.injEq, Addr.mk.injEq, and_true] at e'
    exact ⟨b, off, fun _ => ⟨e, by omega, hb⟩, hc⟩
  · exact ⟨0, 0, fun c => absurd c h0, fun i hi => absurd hi (by omega)⟩
set_option maxHeartbeats 8000000 in
theorem sprf_any (A A' : Option Addr) (n c n' c' : Nat) (l : List Nt) (T : List Tp) (loud : Int) (w : World) (hn : l.length = n) (hm : n ≤ 2000000) (hn' : T.length = n') (hm' : n' ≤ 2000000)
    (h : RowNt w w.heap.size A l) (h' : RowTp w w.heap.size A' T) :
    Calls Try.prog 14 #[.slice A n c, .slice A' n' c', .int .i64 loud] w (Prf w l T loud) := by
  subst hn hn'
  have h0 := h.below (bel_al (bel_refl w) (.cells #[] 28))
  have h0' := h'.below (bel_al (bel_refl w) (.cells #[] 28))
  have own0 : (w.alloc (.cells #[] 28)).ownsRow w.heap.size 28 4 (.slice (some ⟨w.heap.size, 0, none⟩) 0 0) 0 [] :=
    World.ownsRow_lit w #[] 0 (Nat.le_refl _) (by simp [maxLen]) rfl
  have b0 : Below w.heap.size w (w.alloc (.cells #[] 28)) := bel_al (bel_refl w) _
  cases hv : vvB l
  · have HV := Lib.hid hv
    clear hv
    go_enter Try.func14, Try.ntmps14
    go_wp2_with fail
    generalize (w.alloc (.cells #[] 28)) = w0 at *
    refine (svv_val HV.out _ _ _ _ rfl hm h0).mono ?_
    rintro e1 w1 ⟨rfl, b1⟩
    go_wp2
    go_ret
    refine ⟨_, rfl, ?_, by repeat (first | (with_reducible assumption) | (exact bel_undr (by with_reducible assumption)) | (with_reducible exact bel_refl _) | (with_reducible refine bel_dr ?_) | (with_reducible refine bel_drN ?_ _) | (with_reducible refine bel_al ?_ _) | (refine bel_set ?_ (by first | (simp; done) | (simp; exact Below.size (by assumption)) | (simp; omega)) _) | (with_reducible refine bel_tr ?_ (by assumption)))⟩
    rw [perL_no (fun z => by have := HV.out.symm.trans z.1; cases this)]
    exact own_below own0 b1
  · cases ht : tvB T
    · have HV := Lib.hid hv
      have HT := Lib.hid ht
      clear hv ht
      go_enter Try.func14, Try.ntmps14
      go_wp2_with fail
      generalize (w.alloc (.cells #[] 28)) = w0 at *
      refine (svv_val HV.out _ _ _ _ rfl hm h0).mono ?_
      rintro e1 w1 ⟨rfl, b1⟩
      go_wp2_with fail
      refine (stv_val HT.out _ _ _ _ rfl hm' (h0'.below b1)).mono ?_
      rintro e2 w2 ⟨rfl, b2⟩
      go_wp2
      go_ret
      refine ⟨_, rfl, ?_, by repeat (first | (with_reducible assumption) | (exact bel_undr (by with_reducible assumption)) | (with_reducible exact bel_refl _) | (with_reducible refine bel_dr ?_) | (with_reducible refine bel_drN ?_ _) | (with_reducible refine bel_al ?_ _) | (refine bel_set ?_ (by first | (simp; done) | (simp; exact Below.size (by assumption)) | (simp; omega)) _) | (with_reducible refine bel_tr ?_ (by assumption)))⟩
      rw [perL_no (fun z => by have := HT.out.symm.trans z.2.1; cases this)]
      exact own_below (own_below own0 b1) b2
    · by_cases hl : 1 ≤ loud ∧ loud ≤ 127
      · have HV := Lib.hid hv
        have HT := Lib.hid ht
        have HLD := Lib.hid hl
        have hf := vvB_of hv
        have h60 := hf.len
        obtain ⟨l0, l1⟩ := hl
        obtain ⟨i0, hi0, hz0, hz1, hz2⟩ := info_parts infoEv
        have hsum := hf.sum_le l.length (Nat.le_refl _)
        clear hv ht
        go_enter Try.func14, Try.ntmps14
        go_wp2_with fail
        generalize (w.alloc (.cells #[] 28)) = w0 at *
        refine (svv_val HV.out _ _ _ _ rfl hm h0).mono ?_
        rintro e1 w1 ⟨rfl, b1⟩
        go_wp2_with fail
        refine (stv_val HT.out _ _ _ _ rfl hm' (h0'.below b1)).mono ?_
        rintro e2 w2 ⟨rfl, b2⟩
        go_wp2_with fail
        refine (swin_yes _ _ _ _ l0 l1).mono ?_
        rintro e3 w3 ⟨rfl, rfl⟩
        go_wp2_with fail
        refine (svt_yes _ _ _ _ _ rfl HV.out ((h0.below b1).below b2)).mono ?_
        rintro e4 w4 ⟨rfl, b4⟩
        have hs1 : ¬ (50000 : Int) < vsum l l.length := by omega
        have own4 := own_below (own_below (own_below own0 b1) b2) b4
        have h4 := ((h0.below b1).below b2).below b4
        have h4' := ((h0'.below b1).below b2).below b4
        have bw : Below w.heap.size w w4 := by repeat (first | (with_reducible assumption) | (exact bel_undr (by with_reducible assumption)) | (with_reducible exact bel_refl _) | (with_reducible refine bel_dr ?_) | (with_reducible refine bel_drN ?_ _) | (with_reducible refine bel_al ?_ _) | (refine bel_set ?_ (by first | (simp; done) | (simp; exact Below.size (by assumption)) | (simp; omega)) _) | (with_reducible refine bel_tr ?_ (by assumption)))
        have hw0 : w.heap.size < w0.heap.size := (own_lt own0 rfl).2
        have hw4 : w0.heap.size ≤ w4.heap.size := Nat.le_trans b1.size (Nat.le_trans b2.size b4.size)
        clear b0 b1 b2 b4 hsum own0 h0 h0'
        generalize vsum l l.length = VS at *
        go_wp2_with fail
        refine (grp_any _ _ _ l _ rfl HV.out h4).mono ?_
        rintro e5 wg ⟨vG, rfl, hG, b5⟩
        obtain ⟨A3, c3, rfl, lc3, cm3, rG, oG⟩ := own_rowNt hG
        clear hG
        obtain ⟨g1, g2, g3, g4, g5⟩ := hf.groups T loud
        generalize hGG : gL l l.length = G at *
        have HGG := Lib.hid hGG
        clear hGG
        obtain ⟨bg, off, hA3, hc⟩ := row_open rG oG
        have own5 := own_below own4 b5
        have h5' := h4'.below b5
        have bwg : Below w.heap.size w wg := by repeat (first | (with_reducible assumption) | (exact bel_undr (by with_reducible assumption)) | (with_reducible exact bel_refl _) | (with_reducible refine bel_dr ?_) | (with_reducible refine bel_drN ?_ _) | (with_reducible refine bel_al ?_ _) | (refine bel_set ?_ (by first | (simp; done) | (simp; exact Below.size (by assumption)) | (simp; omega)) _) | (with_reducible refine bel_tr ?_ (by assumption)))
        have hwg := b5.size
        have HG1 := Lib.hid g1
        have HG2 := Lib.hid g2
        have HG5 := Lib.hid g5
        clear g1 g2 g4 g5 own4 h4 h4' b5 bw rG oG
        unfold maxLen at cm3
        go_wp2
        go_loopw [7, 8, 10, 11, 12] (fun o at' i _ _ wr => ∃ j : Nat, j ≤ G.length ∧ i = .int .i64 j ∧ at' = .int .i64 (vsum G j) ∧ wr.ownsRow w.heap.size 28 4 o (sE G T loud j).length (flat csEv (sE G T loud j)) ∧ (∀ b, o.ownBlock = some b → b < w4.heap.size ∨ wg.heap.size ≤ b) ∧ (∀ i, i < G.length → CN wr bg off (atNt G i) i) ∧ wg.heap.size ≤ wr.heap.size ∧ Below w.heap.size w wr ∧ Hid (∀ i, i < j → kOk (atNt G i))) (fun _ _ i _ _ _ => G.length - (intOf i).toNat)
        case atStart => exact ⟨0, Nat.zero_le _, rfl, rfl, own5, fun b hb => by have e : w.heap.size = b := Option.some.inj hb; left; omega, hc, Nat.le_refl _, bwg, fun j hj => absurd hj (by omega)⟩
        case round =>
          obtain ⟨j, hj, rfl, rfl, hown, hne, hcr, hgr, hb, HK⟩ := hrel
          clear own5 hc
          by_cases hlt : j < G.length
          · obtain ⟨rfl, hbg0, hbg1⟩ := hA3 (by omega)
            have hck := hcr j hlt
            have hkl : (j : Int) < (G.length : Int) := by omega
            have hk0 : (0 : Int) ≤ (j : Int) := by omega
            have hlen := sE_len G T loud j
            have hsk := HG5.out j (by omega)
            have hsk1 := HG5.out (j + 1) (by omega)
            have HS1 : Hid (vsum G (j + 1) = vsum G j + (atNt G j).ticks) := by show _ = _; rfl
            have hw := hb.size
            have hcm : (G.length : Int) ≤ (c3 : Int) := by omega
            generalize hX : atNt G j = x at hck HS1
            have HX := Lib.hid hX
            clear hX
            obtain ⟨r, s, a, o, t, d⟩ := x
            obtain ⟨p0, p1, p2, p3, p4, p5⟩ := hck
            simp only at p0 p1 p2 p3 p4 p5 HS1
            generalize hL : sE G T loud j = L at hown hlen
            have HL := Lib.hid hL
            clear hL
            have HS2 := HS1.out
            generalize hV1 : vsum G (j + 1) = V1 at hsk1 HS1 HS2
            have HV1 := Lib.hid hV1
            clear hV1
            generalize hV : vsum G j = V at hsk HS1 HS2 ⊢
            have HV0 := Lib.hid hV
            have hadd := IntWalk.i64_in (V + t) (by omega)
            have hVt0 : 0 ≤ V + t := by omega
            have hVt1 : V + t ≤ 60000 := by omega
            have hV0 := hsk.1
            have hV2 : V ≤ 60000 := by omega
            have HVt := Lib.hid HS2
            clear hV HS2
            have bX : Blk (wr.alloc (.cells #[.bool r, .int .i64 s, .int .i64 a, .int .i64 o, .int .i64 t, .bool d] 56)) wr.heap.size #[.bool r, .int .i64 s, .int .i64 a, .int .i64 o, .int .i64 t, .bool d] 56 := Blk.new wr _ _
            have hownX := hown.alloc (.cells #[.bool r, .int .i64 s, .int .i64 a, .int .i64 o, .int .i64 t, .bool d] 56)
            have hbX : Below w.heap.size w (wr.alloc (.cells #[.bool r, .int .i64 s, .int .i64 a, .int .i64 o, .int .i64 t, .bool d] 56)) := bel_al hb _
            have hTX := (h'.below hb).below (bel_al (bel_refl wr) (.cells #[.bool r, .int .i64 s, .int .i64 a, .int .i64 o, .int .i64 t, .bool d] 56))
            have hcX : ∀ i, i < G.length → CN (wr.alloc (.cells #[.bool r, .int .i64 s, .int .i64 a, .int .i64 o, .int .i64 t, .bool d] 56)) bg off (atNt G i) i := fun i hi => (hcr i hi).tr (bel_al (bel_refl wr) _)
            have hgX : wg.heap.size ≤ (wr.alloc (.cells #[.bool r, .int .i64 s, .int .i64 a, .int .i64 o, .int .i64 t, .bool d] 56)).heap.size := by simp; omega
            go_upto_region 10 with fail
            have hXo0 : ∀ b, _ = some b → b < wr.heap.size := fun b e => (own_lt hown e).2
            clear p0 p1 p2 p3 p4 p5 hown hb hcr hgr hw
            generalize (wr.alloc (.cells #[.bool r, .int .i64 s, .int .i64 a, .int .i64 o, .int .i64 t, .bool d] 56)) = v at *
            generalize wr.heap.size = X at *
            have hXo : ∀ b, _ = some b → ¬ b = X := fun b e c => by have := hXo0 b e; omega
            clear hXo0
            have lX := bX.lt
            have m0 : v.cell? ⟨X, 0, none⟩ = some (.bool r) := by rw [Blk.cell bX]; rfl
            have m1 : v.cell? ⟨X, 1, none⟩ = some (.int .i64 s) := by rw [Blk.cell bX]; rfl
            have m2 : v.cell? ⟨X, 2, none⟩ = some (.int .i64 a) := by rw [Blk.cell bX]; rfl
            have m3 : v.cell? ⟨X, 3, none⟩ = some (.int .i64 o) := by rw [Blk.cell bX]; rfl
            have m4 : v.cell? ⟨X, 4, none⟩ = some (.int .i64 t) := by rw [Blk.cell bX]; rfl
            have m5 : v.cell? ⟨X, 5, none⟩ = some (.bool d) := by rw [Blk.cell bX]; rfl
            cases r
            · obtain ⟨KEY, hK⟩ : ∃ KEY, pkI s a o = KEY := ⟨_, rfl⟩
              have HKY := Lib.hid hK
              clear hK
              by_cases hk2 : 0 ≤ KEY ∧ KEY ≤ 107
              · have hk2c := hk2
                have HK2 := Lib.hid hk2c
                clear hk2c
                obtain ⟨k20, k21⟩ := hk2
                go_wp2_with fail
                refine (spk_val HKY.out _).mono ?_
                rintro e8 w8 ⟨rfl, b8⟩
                have bX := bX.below b8
                have hownX := own_below hownX b8
                have hbX : Below w.heap.size w w8 := by repeat (first | (with_reducible assumption) | (exact bel_undr (by with_reducible assumption)) | (with_reducible exact bel_refl _) | (with_reducible refine bel_dr ?_) | (with_reducible refine bel_drN ?_ _) | (with_reducible refine bel_al ?_ _) | (refine bel_set ?_ (by first | (simp; done) | (simp; exact Below.size (by assumption)) | (simp; omega)) _) | (with_reducible refine bel_tr ?_ (by assumption)))
                have hTX := hTX.below b8
                have hcX : ∀ i, i < G.length → CN w8 bg off (atNt G i) i := fun i hi => (hcX i hi).tr b8
                have hgX : wg.heap.size ≤ w8.heap.size := Nat.le_trans hgX b8.size
                have lX := bX.lt
                have m0 := keep_tr m0 b8
                have m1 := keep_tr m1 b8
                have m2 := keep_tr m2 b8
                have m3 := keep_tr m3 b8
                have m4 := keep_tr m4 b8
                have m5 := keep_tr m5 b8
                clear b8
                go_wp2_with fail
                refine (swin_yes _ _ _ _ k20 k21).mono ?_
                rintro e9 w9 ⟨rfl, rfl⟩
                go_wp2_with fail
                have lf0 : ∀ xL : Later w8, xL.world.cell? ⟨X, 4, none⟩ = some (.int .i64 t) := fun xL => xL.at (m4)
                refine region_tail1 (w0 := w8) 12 (by kernel_rfl) (by kernel_rfl) (bel_refl _) (fun _ _ _ h => h) (Or.inl ⟨rfl, fun _ => rfl⟩) ?_
                simp only [List.take_succ_cons, List.take_zero, List.drop_succ_cons, List.drop_zero]
                try go_simp
                repeat (go_big_quiet_step ((first | (go_at_call 25; exact later_call (sto_any _ _ _ T _ _ rfl (hTX.below (Later.bel _)) HT.out hV0 hV2)) | (go_at_call 25; exact later_call (sto_any _ _ _ T _ _ rfl (hTX.below (Later.bel _)) HT.out hVt0 hVt1)))))
                refine wpQuiet_nil ?_
                (first | (rintro w' ⟨x, rfl⟩) | (intro x))
                obtain ⟨wl, bl⟩ := x
                clear lf0
                have hownX := own_below hownX bl
                have hbX : Below w.heap.size w wl := by repeat (first | (with_reducible assumption) | (exact bel_undr (by with_reducible assumption)) | (with_reducible exact bel_refl _) | (with_reducible refine bel_dr ?_) | (with_reducible refine bel_drN ?_ _) | (with_reducible refine bel_al ?_ _) | (refine bel_set ?_ (by first | (simp; done) | (simp; exact Below.size (by assumption)) | (simp; omega)) _) | (with_reducible refine bel_tr ?_ (by assumption)))
                have hwl := hbX.size
                have hcX : ∀ i, i < G.length → CN wl bg off (atNt G i) i := fun i hi => (hcX i hi).tr bl
                have hgX : wg.heap.size ≤ wl.heap.size := Nat.le_trans hgX bl.size
                have m4 := keep_tr m4 bl
                have bX := bX.below bl
                have lX := bX.lt
                obtain ⟨TI, hTI⟩ : ∃ TI, timeI T (V + t) = TI := ⟨_, rfl⟩
                obtain ⟨ON, hON⟩ : ∃ ON, timeI T V = ON := ⟨_, rfl⟩
                rw [hTI, hON]
                have HTI := Lib.hid hTI
                have HON := Lib.hid hON
                clear hTI hON
                go_wp2_with (at_builtin; go_must (refine wpList_append_lies _ rfl _ _ 23 rfl w.heap.size 28 i0 _ 4 32 Try.underlying23 hi0 hz0 hz1 hz2 rfl (by omega) _ L.length (flat csEv L) rfl (hownX.alloc _) ⟨wl.heap.size, 0, none⟩ 1 1 [.int .i64 ON, .int .i64 TI, .int .i64 KEY, .int .i64 loud] rfl rfl (World.news_of_block (cs := #[.int .i64 ON, .int .i64 TI, .int .i64 KEY, .int .i64 loud]) (t := 28) (fr := (0, 0)) (heap_alloc_new wl _)) (by simp [Value.oneCell']) (by omega) (by unfold maxLen; omega) (by omega) (by simp; omega) _ rfl ?_; intro gg9 cp9 w9 hown9 hgrow9 hat9 hlt9); have hb9 : Below w.heap.size w w9 := bel_grown (bel_al hbX (.cells #[.int .i64 ON, .int .i64 TI, .int .i64 KEY, .int .i64 loud] 28)) hgrow9 (own_ge hownX); have m4 : w9.cell? ⟨X, 4, none⟩ = some (.int .i64 t) := grown_cell hgrow9 (keep_al m4 _) (fun e => hXo X e rfl))
                have hq := own_push (t := (⟨ON, TI, KEY, loud⟩ : Ev)) hown9 rfl
                go_roundw
                case rel => exact ⟨j + 1, by omega, by go_num, by rw [HV1.out, HVt.out], (by rw [sE_new (by rw [HX.out]; simp), HL.out]; unfold evG; rw [HV1.out, HX.out]; unfold keyN; simp only; rw [HKY.out, HVt.out, HV0.out, HTI.out, HON.out]; exact hq), (fun b hb => by cases hb; rcases hat9 with e | e; exact hne _ e; right; rw [e]; simp; omega), (fun i hi => ((hcX i hi).tr (bel_al (bel_refl wl) (.cells #[.int .i64 ON, .int .i64 TI, .int .i64 KEY, .int .i64 loud] 28))).grown hgrow9 (fun e => by rcases hne bg e with z | z <;> omega)), (Nat.le_trans hgX (Nat.le_trans (by simp) hgrow9.size)), hb9, hid_snoc2 HK (by rw [HX.out]; exact fun _ => by unfold keyN; rw [HKY.out]; exact HK2.out)⟩
                case measure => simp [intOf]; omega
              · go_wp2_with fail
                refine (spk_val HKY.out _).mono ?_
                rintro e8 w8 ⟨rfl, b8⟩
                have bX := bX.below b8
                have hownX := own_below hownX b8
                have hbX : Below w.heap.size w w8 := by repeat (first | (with_reducible assumption) | (exact bel_undr (by with_reducible assumption)) | (with_reducible exact bel_refl _) | (with_reducible refine bel_dr ?_) | (with_reducible refine bel_drN ?_ _) | (with_reducible refine bel_al ?_ _) | (refine bel_set ?_ (by first | (simp; done) | (simp; exact Below.size (by assumption)) | (simp; omega)) _) | (with_reducible refine bel_tr ?_ (by assumption)))
                have hTX := hTX.below b8
                have hcX : ∀ i, i < G.length → CN w8 bg off (atNt G i) i := fun i hi => (hcX i hi).tr b8
                have hgX : wg.heap.size ≤ w8.heap.size := Nat.le_trans hgX b8.size
                have lX := bX.lt
                have m0 := keep_tr m0 b8
                have m1 := keep_tr m1 b8
                have m2 := keep_tr m2 b8
                have m3 := keep_tr m3 b8
                have m4 := keep_tr m4 b8
                have m5 := keep_tr m5 b8
                clear b8
                go_wp2_with fail
                refine (swin_no _ _ _ _ (by omega)).mono ?_
                rintro e9 w9 ⟨rfl, rfl⟩
                have HBK : ¬ kOk (atNt G j) := by rw [HX.out]; intro z; have := z rfl; unfold keyN at this; rw [HKY.out] at this; exact hk2 this
                have HB2 := Lib.hid (perL_bad2 (T := T) (loud := loud) (l := l) (fun z => HBK (HG2.out.2 z j hlt)))
                clear HBK
                have hw8 := hbX.size
                go_wp2
                go_ret
                refine ⟨_, rfl, ?_, by repeat (first | (with_reducible assumption) | (exact bel_undr (by with_reducible assumption)) | (with_reducible exact bel_refl _) | (with_reducible refine bel_dr ?_) | (with_reducible refine bel_drN ?_ _) | (with_reducible refine bel_al ?_ _) | (refine bel_set ?_ (by first | (simp; done) | (simp; exact Below.size (by assumption)) | (simp; omega)) _) | (with_reducible refine bel_tr ?_ (by assumption)))⟩
                rw [HB2.out]
                exact World.ownsRow_lit _ #[] 0 hw8 (by simp [maxLen]) rfl
            · go_wp2
              go_roundw
              case rel => exact ⟨j + 1, by omega, by go_num, by rw [HV1.out, HVt.out], (by rw [sE_skip (by rw [HX.out]), HL.out]; exact hownX), hne, hcX, hgX, hbX, hid_snoc2 HK (by rw [HX.out]; exact kOk_rest rfl)⟩
              case measure => simp [intOf]; omega
          · obtain rfl : j = G.length := by omega
            have HE := Lib.hid (perL_yes HV.out HT.out HLD.out (HG2.out.1 HK.out))
            go_wp2
            go_ret
            refine ⟨_, rfl, ?_, hb⟩
            rw [HE.out, ← HG1.out]
            exact hown
      · have HV := Lib.hid hv
        have HT := Lib.hid ht
        clear hv ht
        go_enter Try.func14, Try.ntmps14
        go_wp2_with fail
        generalize (w.alloc (.cells #[] 28)) = w0 at *
        refine (svv_val HV.out _ _ _ _ rfl hm h0).mono ?_
        rintro e1 w1 ⟨rfl, b1⟩
        go_wp2_with fail
        refine (stv_val HT.out _ _ _ _ rfl hm' (h0'.below b1)).mono ?_
        rintro e2 w2 ⟨rfl, b2⟩
        go_wp2_with fail
        refine (swin_no _ _ _ _ (by omega)).mono ?_
        rintro e3 w3 ⟨rfl, rfl⟩
        go_wp2
        go_ret
        refine ⟨_, rfl, ?_, by repeat (first | (with_reducible assumption) | (exact bel_undr (by with_reducible assumption)) | (with_reducible exact bel_refl _) | (with_reducible refine bel_dr ?_) | (with_reducible refine bel_drN ?_ _) | (with_reducible refine bel_al ?_ _) | (refine bel_set ?_ (by first | (simp; done) | (simp; exact Below.size (by assumption)) | (simp; omega)) _) | (with_reducible refine bel_tr ?_ (by assumption)))⟩
        rw [perL_no (fun z => hl z.2.2)]
        exact own_below (own_below own0 b1) b2
end Go.Proofs.Ytaieamobjbckdaa
