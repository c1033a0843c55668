/- A key, bass pitches, figures and chords, drawn. -/
import Derived.Test.YtpjakgnghpapmaaSrzV
import Derived.Test.YtpjakgnghpapmaaBz
import Derived.Test.YtpjakgnghpapmaaRzQ
import Derived.Test.YtpjakgnghpapmaaDrFi
import Derived.Test.YtpjakgnghpapmaaBn
namespace Go.Proofs.Ytpjakgnghpapmaa
set_option linter.unusedSimpArgs false
set_option linter.unusedVariables false
open Go.RowKit

theorem OwPV.put {w : World} {lo g n cap k : Nat} {ll : List (List Pi)} {vs : List Value} {l : List Pi} {Al : Option Addr} {cl : Nat} (h : OwPV w lo (.slice (some ⟨g, 0, none⟩) n cap) ll vs) (hk : k < ll.length) (hl : l.length ≤ cl) (hm : cl ≤ maxLen) (hs : StP w lo Al l) : OwPV (w.setCell ⟨g, k, none⟩ (.slice Al l.length cl)) lo (.slice (some ⟨g, 0, none⟩) n cap) (ll.set k l) (vs.set k (.slice Al l.length cl)) := by
  have hn : n = ll.length := by
    rcases h.1.2 with ⟨e, _⟩ | ⟨_, _, _, e, _⟩
    · cases e
    · cases e; rfl
  subst hn
  obtain ⟨cur, hcur⟩ := own_blk h.1
  have hvl : vs.length = ll.length := by have := h.1.1; omega
  have kk : KtB 37 lo w (w.setCell ⟨g, k, none⟩ (.slice Al l.length cl)) := KtB.set hcur k _
  have st := (h.1.stored k (.slice Al l.length cl)).1
  refine ⟨by rw [List.length_set]; exact st, fun i hi => ?_⟩
  rw [List.length_set] at hi
  rw [atPP_set hk]
  by_cases e : i = k
  · subst e
    rw [if_pos rfl]
    exact ⟨Al, cl, by rw [List.getElem?_set_self (by omega)], hl, hm, hs.kt kk (by decide)⟩
  · rw [if_neg e]
    obtain ⟨Ai, ci, a1, a2, a3, a4⟩ := h.2 i hi
    exact ⟨Ai, ci, by rw [List.getElem?_set_ne (Ne.symm e)]; exact a1, a2, a3, a4.kt kk (by decide)⟩
theorem short_put {ll : List (List Pi)} {l : List Pi} {k : Nat} (hk : k < ll.length) (h : shortPP ll) (hl : l.length ≤ 4) : shortPP (ll.set k l) := fun i hi => by
  rw [List.length_set] at hi
  rw [atPP_set hk]
  split
  · exact hl
  · exact h i hi
theorem own_rowPP {w : World} {lo : Nat} {v : Value} {ll : List (List Pi)} {vs : List Value} (h : OwPV w lo v ll vs) {A : Option Addr} {n c : Nat} (hv : v = .slice A n c) : ll.length = n ∧ ll.length ≤ c ∧ c ≤ maxLen ∧ RowPP w w.heap.size A ll := by
  obtain ⟨A', c', e, h1, h2, h3⟩ := h.row
  rw [e] at hv
  cases hv
  exact ⟨rfl, h1, h2, h3⟩
def DrRf (w : World) (e : Ending) (w' : World) : Prop := ∃ (f : Int) (A1 : Option Addr) (c1 : Nat) (bs : List Pi) (A2 : Option Addr) (c2 : Nat) (gs : List Int) (A3 : Option Addr) (c3 : Nat) (ll : List (List Pi)), e = .returned (.tuple #[.int .i64 f, .slice A1 bs.length c1, .slice A2 gs.length c2, .slice A3 ll.length c3]) ∧ bs.length ≤ 3 ∧ gs.length ≤ 4 ∧ ll.length ≤ 9 ∧ shortPP ll ∧ bs.length ≤ c1 ∧ c1 ≤ maxLen ∧ gs.length ≤ c2 ∧ c2 ≤ maxLen ∧ ll.length ≤ c3 ∧ c3 ≤ maxLen ∧ RowPi w' w'.heap.size A1 bs ∧ RowIn w' w'.heap.size A2 gs ∧ RowPP w' w'.heap.size A3 ll ∧ Below w.heap.size w w'
set_option maxRecDepth 20000 in
set_option maxHeartbeats 8000000 in
theorem DrawRealizeFault_any (w : World) (A : Option Addr) (len cap : Nat) (h : Cod w A len cap) : Calls Try.prog 30 #[.slice A len cap] w (DrRf w) := by
  have r1 := open_ok w A len cap w.heap.size (Nat.le_refl _) h.bt
  have k1 : Onb w.heap.size w (w.alloc (.cells #[.slice A (min len 2000) cap, .int .i64 0] 93)) := Onb.of_bel (bel_al (bel_refl _) _)
  have hLO : (w.alloc (.cells #[.slice A (min len 2000) cap, .int .i64 0] 93)).heap.size = w.heap.size + 1 := by simp
  obtain ⟨i0, hi0, hz0, hz1, hz2⟩ := info_parts infoPS
  go_enter Try.func30, Try.ntmps30
  go_wp2_with fail
  refine (open_eq _ A len cap h.lc h.cm).mono ?_
  rintro e w1 ⟨rfl, rfl⟩
  generalize (w.alloc (.cells #[.slice A (min len 2000) cap, .int .i64 0] 93)) = w1 at *
  generalize min len 2000 = len' at *
  go_wp2_with fail
  refine (figs_any _ _ _ _ _ _ _ r1 (by omega)).mono ?_
  rintro e w2 ⟨f, v1, v2, bs, gs, rfl, hf, hb3, hg4, _, hob, hog, k2, p2, hp2, r2⟩
  obtain ⟨A1, c1, rfl, _, _, hr1, _⟩ := own_rowPi hob
  obtain ⟨A2, c2, rfl, _, _, hr2, _⟩ := own_rowIn hog
  have hgL : w.heap.size < w1.heap.size := by omega
  have k02 := k1.trans k2
  have hs2 := k2.size
  have hgL2 : w.heap.size < w2.heap.size := by omega
  obtain ⟨O, hO⟩ : ∃ O, rbI f bs gs = O := ⟨_, rfl⟩
  obtain ⟨L, hL⟩ : ∃ L, O.getD [] = L := ⟨_, rfl⟩
  obtain ⟨B, hB⟩ : ∃ B, O.isSome = B := ⟨_, rfl⟩
  have hsm := rb_small (f := f) (bs := bs) (gs := gs) (L := L) (by rw [hO]; exact hL)
  have HO := Lib.hid hO
  have HL := Lib.hid hL
  have HB := Lib.hid hB
  have HX4 := Lib.hid hsm.2
  have SH : Hid (shortPP L) := fun i hi => by rw [hsm.2 i hi]; omega
  have hL8 := hsm.1
  clear hO hL hB hsm k1 k2 r1
  go_wp2_with fail
  refine (srb_val HO.out _ _ _ _ _ _ _ rfl rfl (by omega) (by omega) hr1 hr2).mono ?_
  rintro e w3 ⟨v3, vs, rfl, hown, b3⟩
  rw [HL.out] at hown
  rw [HB.out]
  obtain ⟨A3, c3, rfl, lc3, cm3, _⟩ := hown.row
  unfold maxLen at cm3
  obtain ⟨n, hn⟩ : ∃ n, L.length = n := ⟨_, rfl⟩
  rw [hn] at hown lc3 hL8 ⊢
  have HN := Lib.hid hn
  replace hob := own_below hob b3
  replace hog := own_below hog b3
  have k3 := k02.trans (Onb.of_bel b3)
  have r3 := r2.below b3
  have hs3 := b3.size
  clear hn k02 r2 b3 hr1 hr2
  by_cases h0 : 0 < n
  · have hni : (0 : Int) < (n : Int) := by omega
    have hnd : decide ((0 : Int) < (n : Int)) = true := decide_eq_true hni
    go_wp2_with fail
    refine (odd_any _ _ _ _ _ _ _ _ r3 (by omega)).mono ?_
    rintro e w4 ⟨b, rfl, _, o4, p4, hp4, r4⟩
    replace hown := hown.onb (Onb.of_onl o4) hgL2
    replace hob := own_onb hob (Onb.of_onl o4) hgL
    replace hog := own_onb hog (Onb.of_onl o4) hgL
    have k4 := k3.trans (Onb.of_onl o4)
    have hs4 : w3.heap.size ≤ w4.heap.size := Nat.le_of_eq o4.size.symm
    clear o4 r3 k3
    cases b
    · have kX := k4
      have rX := r4
      clear k4 r4
      go_wp2_with fail
      refine (odd_any _ _ _ _ _ _ _ _ rX (by omega)).mono ?_
      rintro e wf ⟨bq, rfl, _, of, pf, hpf, rf⟩
      replace hown := hown.onb (Onb.of_onl of) hgL2
      replace hob := own_onb hob (Onb.of_onl of) hgL
      replace hog := own_onb hog (Onb.of_onl of) hgL
      have kF := kX.trans (Onb.of_onl of)
      have hszf := kF.size
      have hszf2 : w2.heap.size ≤ wf.heap.size := by have := of.size; omega
      clear kX rX
      cases bq
      · obtain ⟨A1x, c1x, e1x, lc1x, cm1x, rw1x, _⟩ := own_rowPi hob
        obtain ⟨A2x, c2x, e2x, lc2x, cm2x, rw2x, _⟩ := own_rowIn hog
        cases e1x
        cases e2x
        obtain ⟨nx, lc3x, cm3x, rw3x⟩ := own_rowPP (hown) rfl
        have NX := Lib.hid nx
        have bwX := (kF).below (Nat.le_refl _) (Nat.le_refl _)
        have SX := Lib.hid (SH.out)
        have LX := Lib.hid (show (L).length ≤ 9 from by have := HN.out; omega)
        clear nx
        go_wp2
        exact bodyPost_ret (v := .tuple #[.int .i64 f, .slice A1 bs.length c1, .slice A2 gs.length c2, .slice (A3) (n) c3]) (by simp [results, Try.results30, go_sem]) rfl ⟨f, A1, c1, bs, A2, c2, gs, _, c3, L, by rw [← NX.out], hb3, hg4, LX.out, SX.out, lc1x, cm1x, lc2x, cm2x, lc3x, cm3x, rw1x, rw2x, rw3x, bwX⟩
      · have hzz : (wf.alloc (.cells #[] 62)).heap.size = wf.heap.size + 1 := by simp
        have hnb : ((wf.alloc (.cells #[] 62)).alloc (.cells #[.slice (some ⟨wf.heap.size, 0, none⟩) 0 0] 37)).heap[wf.heap.size + 1]? = some (.cells #[.slice (some ⟨wf.heap.size, 0, none⟩) 0 0] 37) := by rw [← hzz]; exact heap_alloc_new _ _
        clear hzz
        go_wp2_with (at_builtin; refine Hid.out ?_)
        refine Lib.hid ?_
        refine wpList_append_lies _ rfl _ _ 26 rfl w2.heap.size 37 i0 _ 1 24 Try.underlying26 hi0 hz0 hz1 hz2 rfl (by omega) _ n vs rfl ((own_castP (hown.1.alloc (.cells #[] 62)) HN.out rfl).alloc _) ⟨wf.heap.size + 1, 0, none⟩ 1 1 [.slice (some ⟨wf.heap.size, 0, none⟩) 0 0] rfl rfl (World.news_of_block (cs := #[.slice (some ⟨wf.heap.size, 0, none⟩) 0 0]) (t := 37) (fr := (0, 0)) hnb) (by simp [Value.oneCell']) (by omega) (by unfold maxLen; omega) (by omega) (by simp <;> omega) _ rfl ?_
        intro gg9 cp9 w9 hown9 hgrow9 hat9 hlt9
        have C1 : Below wf.heap.size wf ((wf.alloc (.cells #[] 62)).alloc (.cells #[.slice (some ⟨wf.heap.size, 0, none⟩) 0 0] 37)) := bel_al (bel_al (bel_refl wf) _) _
        have oA := (hown.below C1).push (l := []) (Al := some ⟨wf.heap.size, 0, none⟩) (cl := 0) hgrow9 (own_castP hown9 (by rw [HN.out]) rfl) (by simp) (by simp [maxLen]) (fun h0 => absurd h0 (by simp))
        have hob9 := own_kt (own_below hob C1) (KtB.grown (hown.below C1).1 hgrow9) (by decide)
        have hog9 := own_kt (own_below hog C1) (KtB.grown (hown.below C1).1 hgrow9) (by decide)
        have k9 := (kF.trans (Onb.of_bel C1)).grown hgrow9 (fun k hk => by have := own_ge hown.1 k hk; omega)
        have hsh9 := SH.out.snoc (l := []) (by simp)
        clear hown9 hgrow9 hat9 hnb
        obtain ⟨A1x, c1x, e1x, lc1x, cm1x, rw1x, _⟩ := own_rowPi hob9
        obtain ⟨A2x, c2x, e2x, lc2x, cm2x, rw2x, _⟩ := own_rowIn hog9
        cases e1x
        cases e2x
        obtain ⟨nx, lc3x, cm3x, rw3x⟩ := own_rowPP (oA) rfl
        have NX := Lib.hid nx
        have bwX := (k9).below (Nat.le_refl _) (Nat.le_refl _)
        have SX := Lib.hid (hsh9)
        have LX := Lib.hid (show (L ++ [[]]).length ≤ 9 from by rw [List.length_append, List.length_singleton]; have := HN.out; omega)
        clear nx
        go_wp2
        exact bodyPost_ret (v := .tuple #[.int .i64 f, .slice A1 bs.length c1, .slice A2 gs.length c2, .slice (some ⟨gg9, 0, none⟩) (n + 1) cp9]) (by simp [results, Try.results30, go_sem]) rfl ⟨f, A1, c1, bs, A2, c2, gs, _, cp9, L ++ [[]], by rw [← NX.out], hb3, hg4, LX.out, SX.out, lc1x, cm1x, lc2x, cm2x, lc3x, cm3x, rw1x, rw2x, rw3x, bwX⟩
    · go_wp2_with fail
      refine (pick_fr _ _ _ _ _ _ _ _ r4 (by omega)).mono ?_
      rintro e w5 ⟨x, rfl, ⟨x0, x1, _⟩, o5, r5⟩
      have x1 := x1 (by omega)
      obtain ⟨k, rfl⟩ : ∃ k : Nat, x = (k : Int) := ⟨x.toNat, by omega⟩
      have hkn : k < n := by omega
      replace hown := hown.onb (Onb.of_onl o5) hgL2
      replace hob := own_onb hob (Onb.of_onl o5) hgL
      replace hog := own_onb hog (Onb.of_onl o5) hgL
      have k5 := k4.trans (Onb.of_onl o5)
      have hs5o : w4.heap.size ≤ w5.heap.size := Nat.le_of_eq o5.size.symm
      clear o5 r4 k4
      obtain ⟨gb, cap9, Ai, ci, e9, b1, b2, b3, b4, b5, b6, b7, b8⟩ := hown.at' k (by have := HN.out; omega)
      obtain ⟨eA, en, ec⟩ := Value.slice.inj e9
      subst eA
      subst ec
      clear en e9
      have hx4 := HX4.out k (by have := HN.out; omega)
      obtain ⟨y, hy⟩ : ∃ y, atPP L k = y := ⟨_, rfl⟩
      rw [hy] at b5 b6 b8 hx4
      have hne : ∀ ad, Ai = some ad → 0 < y.length → ad.block ≠ w.heap.size := fun ad e h0 => by
        obtain ⟨b, o, _, e2, h1, _⟩ := b8 h0
        rw [e2] at e
        cases e
        show b ≠ w.heap.size
        omega
      have hyr := b8.row
      have HY4 := Lib.hid hx4
      have hy8 : y.length ≤ 8 := by omega
      clear hy b8 hx4
      go_wp2_with fail
      refine (next_any _ _ _ _ _ _ _ Ai ci y r5 (by omega) hy8 hyr hne).mono ?_
      rintro e w6 ⟨zA, zc, zl, rfl, zn, zlc, zcm, zS, zk, zp, hzp, zr⟩
      have hs6 := zk.size
      have hs5 := k5.size
      have zS := zS.lo (lo' := w2.heap.size) (by omega)
      replace hown := hown.onb zk hgL2
      replace hob := own_onb hob zk hgL
      replace hog := own_onb hog zk hgL
      have k6 := k5.trans zk
      have hzl4 : zl.length ≤ 4 := by have := HY4.out; omega
      rw [← zn]
      have hown1 := own_castP hown.1 HN.out rfl
      have cE : ∃ u, w6.cell? ⟨gb, k, none⟩ = some u := by
        obtain ⟨_, _, a1, _⟩ := hown.2 k (by have := HN.out; omega)
        exact ⟨_, by rw [hown1.cellAt k (by omega)]; exact a1⟩
      obtain ⟨u0, cE⟩ := cE
      have fE := hown1.frozenAt k
      have lE := (own_lt hown1 rfl).2
      obtain ⟨cur, hcur⟩ := own_blk hown1
      have hown2 := hown.put (k := k) (by have := HN.out; omega) zlc zcm zS
      have hob2 := own_kt hob (KtB.set (T0 := 37) (lo := w1.heap.size) hcur k (.slice zA zl.length zc)) (by decide)
      have hog2 := own_kt hog (KtB.set (T0 := 37) (lo := w1.heap.size) hcur k (.slice zA zl.length zc)) (by decide)
      have kX := k6.set (p := ⟨gb, k, none⟩) (by simp only; omega) (.slice zA zl.length zc)
      have rX := zr.set (q := ⟨gb, k, none⟩) (by simp only; omega) (by simp only; omega) (.slice zA zl.length zc)
      have SH := Lib.hid (short_put (k := k) (by have := HN.out; omega) SH.out hzl4)
      have HN : Hid ((L.set k zl).length = n) := by show _ = _; rw [List.length_set]; exact HN.out
      have hsX : w2.heap.size ≤ (w6.setCell ⟨gb, k, none⟩ (.slice zA zl.length zc)).heap.size := by simp [World.setCell]; omega
      clear hown1 b5 r5 k5 zn zS zk zr k6 hyr hne b3 b4 hob hog hown
      go_upto_region 7 with fail
      clear cE fE lE hcur
      generalize (w6.setCell ⟨gb, k, none⟩ (.slice zA zl.length zc)) = wX at *
      have hown := hown2
      have hob := hob2
      have hog := hog2
      clear hown2 hob2 hog2
      go_wp2_with fail
      refine (odd_any _ _ _ _ _ _ _ _ rX (by omega)).mono ?_
      rintro e wf ⟨bq, rfl, _, of, pf, hpf, rf⟩
      replace hown := hown.onb (Onb.of_onl of) hgL2
      replace hob := own_onb hob (Onb.of_onl of) hgL
      replace hog := own_onb hog (Onb.of_onl of) hgL
      have kF := kX.trans (Onb.of_onl of)
      have hszf := kF.size
      have hszf2 : w2.heap.size ≤ wf.heap.size := by have := of.size; omega
      clear kX rX
      cases bq
      · obtain ⟨A1x, c1x, e1x, lc1x, cm1x, rw1x, _⟩ := own_rowPi hob
        obtain ⟨A2x, c2x, e2x, lc2x, cm2x, rw2x, _⟩ := own_rowIn hog
        cases e1x
        cases e2x
        obtain ⟨nx, lc3x, cm3x, rw3x⟩ := own_rowPP (hown) rfl
        have NX := Lib.hid nx
        have bwX := (kF).below (Nat.le_refl _) (Nat.le_refl _)
        have SX := Lib.hid (SH.out)
        have LX := Lib.hid (show (L.set k zl).length ≤ 9 from by have := HN.out; omega)
        clear nx
        go_wp2
        exact bodyPost_ret (v := .tuple #[.int .i64 f, .slice A1 bs.length c1, .slice A2 gs.length c2, .slice (some ⟨gb, 0, none⟩) (n) c3]) (by simp [results, Try.results30, go_sem]) rfl ⟨f, A1, c1, bs, A2, c2, gs, _, c3, L.set k zl, by rw [← NX.out], hb3, hg4, LX.out, SX.out, lc1x, cm1x, lc2x, cm2x, lc3x, cm3x, rw1x, rw2x, rw3x, bwX⟩
      · have hzz : (wf.alloc (.cells #[] 62)).heap.size = wf.heap.size + 1 := by simp
        have hnb : ((wf.alloc (.cells #[] 62)).alloc (.cells #[.slice (some ⟨wf.heap.size, 0, none⟩) 0 0] 37)).heap[wf.heap.size + 1]? = some (.cells #[.slice (some ⟨wf.heap.size, 0, none⟩) 0 0] 37) := by rw [← hzz]; exact heap_alloc_new _ _
        clear hzz
        go_wp2_with (at_builtin; refine Hid.out ?_)
        refine Lib.hid ?_
        refine wpList_append_lies _ rfl _ _ 26 rfl w2.heap.size 37 i0 _ 1 24 Try.underlying26 hi0 hz0 hz1 hz2 rfl (by omega) _ n (vs.set k (.slice zA zl.length zc)) rfl ((own_castP (hown.1.alloc (.cells #[] 62)) HN.out rfl).alloc _) ⟨wf.heap.size + 1, 0, none⟩ 1 1 [.slice (some ⟨wf.heap.size, 0, none⟩) 0 0] rfl rfl (World.news_of_block (cs := #[.slice (some ⟨wf.heap.size, 0, none⟩) 0 0]) (t := 37) (fr := (0, 0)) hnb) (by simp [Value.oneCell']) (by omega) (by unfold maxLen; omega) (by omega) (by simp <;> omega) _ rfl ?_
        intro gg9 cp9 w9 hown9 hgrow9 hat9 hlt9
        have C1 : Below wf.heap.size wf ((wf.alloc (.cells #[] 62)).alloc (.cells #[.slice (some ⟨wf.heap.size, 0, none⟩) 0 0] 37)) := bel_al (bel_al (bel_refl wf) _) _
        have oA := (hown.below C1).push (l := []) (Al := some ⟨wf.heap.size, 0, none⟩) (cl := 0) hgrow9 (own_castP hown9 (by rw [HN.out]) rfl) (by simp) (by simp [maxLen]) (fun h0 => absurd h0 (by simp))
        have hob9 := own_kt (own_below hob C1) (KtB.grown (hown.below C1).1 hgrow9) (by decide)
        have hog9 := own_kt (own_below hog C1) (KtB.grown (hown.below C1).1 hgrow9) (by decide)
        have k9 := (kF.trans (Onb.of_bel C1)).grown hgrow9 (fun k hk => by have := own_ge hown.1 k hk; omega)
        have hsh9 := SH.out.snoc (l := []) (by simp)
        clear hown9 hgrow9 hat9 hnb
        obtain ⟨A1x, c1x, e1x, lc1x, cm1x, rw1x, _⟩ := own_rowPi hob9
        obtain ⟨A2x, c2x, e2x, lc2x, cm2x, rw2x, _⟩ := own_rowIn hog9
        cases e1x
        cases e2x
        obtain ⟨nx, lc3x, cm3x, rw3x⟩ := own_rowPP (oA) rfl
        have NX := Lib.hid nx
        have bwX := (k9).below (Nat.le_refl _) (Nat.le_refl _)
        have SX := Lib.hid (hsh9)
        have LX := Lib.hid (show (L.set k zl ++ [[]]).length ≤ 9 from by rw [List.length_append, List.length_singleton]; have := HN.out; omega)
        clear nx
        go_wp2
        exact bodyPost_ret (v := .tuple #[.int .i64 f, .slice A1 bs.length c1, .slice A2 gs.length c2, .slice (some ⟨gg9, 0, none⟩) (n + 1) cp9]) (by simp [results, Try.results30, go_sem]) rfl ⟨f, A1, c1, bs, A2, c2, gs, _, cp9, L.set k zl ++ [[]], by rw [← NX.out], hb3, hg4, LX.out, SX.out, lc1x, cm1x, lc2x, cm2x, lc3x, cm3x, rw1x, rw2x, rw3x, bwX⟩
  · have hnd : decide ((0 : Int) < (n : Int)) = false := decide_eq_false (by omega)
    have hnd2 : decide (0 < n) = false := decide_eq_false h0
    clear h0
    have kX := k3
    have rX := r3
    clear k3 r3
    go_wp2_with fail
    refine (odd_any _ _ _ _ _ _ _ _ rX (by omega)).mono ?_
    rintro e wf ⟨bq, rfl, _, of, pf, hpf, rf⟩
    replace hown := hown.onb (Onb.of_onl of) hgL2
    replace hob := own_onb hob (Onb.of_onl of) hgL
    replace hog := own_onb hog (Onb.of_onl of) hgL
    have kF := kX.trans (Onb.of_onl of)
    have hszf := kF.size
    have hszf2 : w2.heap.size ≤ wf.heap.size := by have := of.size; omega
    clear kX rX
    cases bq
    · obtain ⟨A1x, c1x, e1x, lc1x, cm1x, rw1x, _⟩ := own_rowPi hob
      obtain ⟨A2x, c2x, e2x, lc2x, cm2x, rw2x, _⟩ := own_rowIn hog
      cases e1x
      cases e2x
      obtain ⟨nx, lc3x, cm3x, rw3x⟩ := own_rowPP (hown) rfl
      have NX := Lib.hid nx
      have bwX := (kF).below (Nat.le_refl _) (Nat.le_refl _)
      have SX := Lib.hid (SH.out)
      have LX := Lib.hid (show (L).length ≤ 9 from by have := HN.out; omega)
      clear nx
      go_wp2
      exact bodyPost_ret (v := .tuple #[.int .i64 f, .slice A1 bs.length c1, .slice A2 gs.length c2, .slice (A3) (n) c3]) (by simp [results, Try.results30, go_sem]) rfl ⟨f, A1, c1, bs, A2, c2, gs, _, c3, L, by rw [← NX.out], hb3, hg4, LX.out, SX.out, lc1x, cm1x, lc2x, cm2x, lc3x, cm3x, rw1x, rw2x, rw3x, bwX⟩
    · have hzz : (wf.alloc (.cells #[] 62)).heap.size = wf.heap.size + 1 := by simp
      have hnb : ((wf.alloc (.cells #[] 62)).alloc (.cells #[.slice (some ⟨wf.heap.size, 0, none⟩) 0 0] 37)).heap[wf.heap.size + 1]? = some (.cells #[.slice (some ⟨wf.heap.size, 0, none⟩) 0 0] 37) := by rw [← hzz]; exact heap_alloc_new _ _
      clear hzz
      go_wp2_with (at_builtin; refine Hid.out ?_)
      refine Lib.hid ?_
      refine wpList_append_lies _ rfl _ _ 26 rfl w2.heap.size 37 i0 _ 1 24 Try.underlying26 hi0 hz0 hz1 hz2 rfl (by omega) _ n vs rfl ((own_castP (hown.1.alloc (.cells #[] 62)) HN.out rfl).alloc _) ⟨wf.heap.size + 1, 0, none⟩ 1 1 [.slice (some ⟨wf.heap.size, 0, none⟩) 0 0] rfl rfl (World.news_of_block (cs := #[.slice (some ⟨wf.heap.size, 0, none⟩) 0 0]) (t := 37) (fr := (0, 0)) hnb) (by simp [Value.oneCell']) (by omega) (by unfold maxLen; omega) (by omega) (by simp <;> omega) _ rfl ?_
      intro gg9 cp9 w9 hown9 hgrow9 hat9 hlt9
      have C1 : Below wf.heap.size wf ((wf.alloc (.cells #[] 62)).alloc (.cells #[.slice (some ⟨wf.heap.size, 0, none⟩) 0 0] 37)) := bel_al (bel_al (bel_refl wf) _) _
      have oA := (hown.below C1).push (l := []) (Al := some ⟨wf.heap.size, 0, none⟩) (cl := 0) hgrow9 (own_castP hown9 (by rw [HN.out]) rfl) (by simp) (by simp [maxLen]) (fun h0 => absurd h0 (by simp))
      have hob9 := own_kt (own_below hob C1) (KtB.grown (hown.below C1).1 hgrow9) (by decide)
      have hog9 := own_kt (own_below hog C1) (KtB.grown (hown.below C1).1 hgrow9) (by decide)
      have k9 := (kF.trans (Onb.of_bel C1)).grown hgrow9 (fun k hk => by have := own_ge hown.1 k hk; omega)
      have hsh9 := SH.out.snoc (l := []) (by simp)
      clear hown9 hgrow9 hat9 hnb
      obtain ⟨A1x, c1x, e1x, lc1x, cm1x, rw1x, _⟩ := own_rowPi hob9
      obtain ⟨A2x, c2x, e2x, lc2x, cm2x, rw2x, _⟩ := own_rowIn hog9
      cases e1x
      cases e2x
      obtain ⟨nx, lc3x, cm3x, rw3x⟩ := own_rowPP (oA) rfl
      have NX := Lib.hid nx
      have bwX := (k9).below (Nat.le_refl _) (Nat.le_refl _)
      have SX := Lib.hid (hsh9)
      have LX := Lib.hid (show (L ++ [[]]).length ≤ 9 from by rw [List.length_append, List.length_singleton]; have := HN.out; omega)
      clear nx
      go_wp2
      exact bodyPost_ret (v := .tuple #[.int .i64 f, .slice A1 bs.length c1, .slice A2 gs.length c2, .slice (some ⟨gg9, 0, none⟩) (n + 1) cp9]) (by simp [results, Try.results30, go_sem]) rfl ⟨f, A1, c1, bs, A2, c2, gs, _, cp9, L ++ [[]], by rw [← NX.out], hb3, hg4, LX.out, SX.out, lc1x, cm1x, lc2x, cm2x, lc3x, cm3x, rw1x, rw2x, rw3x, bwX⟩
end Go.Proofs.Ytpjakgnghpapmaa
