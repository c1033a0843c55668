/- Rows of chords that a call makes; chords for the faults of parts, drawn. -/
import Derived.Test.YtpjakgnghpapmaaNxt
import Derived.Test.YtpjakgnghpapmaaMkPQ
import Derived.Test.YtpjakgnghpapmaaBa
namespace Go.Proofs.Ytpjakgnghpapmaa
set_option linter.unusedSimpArgs false
set_option linter.unusedVariables false
open Go.RowKit

theorem infoPS : (Try.prog.info? 37).map (fun i => (i.zero, i.size, i.bytes)) = some (some (.slice none 0 0), 1, 24) := by kernel_rfl
theorem StP.grown {w w' : World} {lo : Nat} {A : Option Addr} {l : List Pi} {row : Option Nat} (h : StP w lo A l) (hg : w.grownBy w' row) (hne : ∀ b cs, Blk w b cs 62 → row ≠ some b) : StP w' lo A l := fun hl => by
  obtain ⟨b, off, cs, e, h1, h2, h3⟩ := h hl
  exact ⟨b, off, cs, e, h1, h2.grown hg (hne b cs h2), h3⟩
theorem StP.alloc {w : World} {lo : Nat} {A : Option Addr} {l : List Pi} (h : StP w lo A l) (o : Obj) : StP (w.alloc o) lo A l := fun hl => by
  obtain ⟨b, off, cs, e, h1, h2, h3⟩ := h hl
  exact ⟨b, off, cs, e, h1, h2.alloc o, h3⟩
/-- a row of chords of one's own, from block lo on, and the slices that it holds -/
def OwPV (w : World) (lo : Nat) (v : Value) (ll : List (List Pi)) (vs : List Value) : Prop :=
  w.ownsRow lo 37 1 v ll.length vs ∧ ∀ i, i < ll.length → ∃ Ai ci, vs[i]? = some (.slice Ai (atPP ll i).length ci) ∧ (atPP ll i).length ≤ ci ∧ ci ≤ maxLen ∧ StP w lo Ai (atPP ll i)
def OwPP (w : World) (lo : Nat) (v : Value) (ll : List (List Pi)) : Prop := ∃ vs, OwPV w lo v ll vs
theorem OwPV.onb {g : Nat} {w w' : World} {lo : Nat} {v : Value} {ll : List (List Pi)} {vs : List Value} (h : OwPV w lo v ll vs) (ho : Onb g w w') (hg : g < lo) : OwPV w' lo v ll vs :=
  ⟨own_onb h.1 ho hg, fun i hi => by obtain ⟨Ai, ci, h1, h2, h3, h4⟩ := h.2 i hi; exact ⟨Ai, ci, h1, h2, h3, h4.onb ho hg⟩⟩
theorem OwPV.alloc {w : World} {lo : Nat} {v : Value} {ll : List (List Pi)} {vs : List Value} (h : OwPV w lo v ll vs) (o : Obj) : OwPV (w.alloc o) lo v ll vs :=
  ⟨h.1.alloc o, fun i hi => by obtain ⟨Ai, ci, h1, h2, h3, h4⟩ := h.2 i hi; exact ⟨Ai, ci, h1, h2, h3, h4.alloc o⟩⟩
theorem OwPV.at' {w : World} {lo : Nat} {v : Value} {ll : List (List Pi)} {vs : List Value} (h : OwPV w lo v ll vs) (i : Nat) (hi : i < ll.length) :
    ∃ gb cap Ai ci, v = .slice (some ⟨gb, 0, none⟩) ll.length cap ∧ lo ≤ gb ∧ gb < w.heap.size ∧ ll.length ≤ cap ∧ cap ≤ maxLen ∧ w.cell? ⟨gb, i, none⟩ = some (.slice Ai (atPP ll i).length ci) ∧ (atPP ll i).length ≤ ci ∧ ci ≤ maxLen ∧ StP w lo Ai (atPP ll i) := by
  obtain ⟨Ai, ci, h1, h2, h3, h4⟩ := h.2 i hi
  rcases h.1.2 with ⟨_, h0⟩ | ⟨g, cap, cur, rfl, hb, hg, hnc, hcm, _, _⟩
  · omega
  · exact ⟨g, cap, Ai, ci, rfl, hb, (own_lt h.1 rfl).2, hnc, hcm, by rw [h.1.cellAt i (by omega)]; exact h1, h2, h3, h4⟩
theorem OwPV.row {w : World} {lo : Nat} {v : Value} {ll : List (List Pi)} {vs : List Value} (h : OwPV w lo v ll vs) : ∃ A c, v = .slice A ll.length c ∧ ll.length ≤ c ∧ c ≤ maxLen ∧ RowPP w w.heap.size A ll := by
  by_cases h0 : 0 < ll.length
  · obtain ⟨gb, cap, _, _, rfl, _, h2, h3, h4, _⟩ := h.at' 0 h0
    refine ⟨_, cap, rfl, h3, h4, fun _ => ⟨gb, 0, rfl, h2, fun i hi => ?_⟩⟩
    obtain ⟨gb', cap', Ai, ci, e, _, _, _, _, c1, c2, c3, c4⟩ := h.at' i hi
    cases e
    exact ⟨Ai, ci, by rw [Nat.zero_add]; exact c1, c2, c3, c4.row⟩
  · rcases h.1.2 with ⟨rfl, e0⟩ | ⟨g, cap, cur, rfl, hb, hg, hnc, hcm, _, _⟩
    · exact ⟨none, 0, by rw [e0], by omega, by simp [maxLen], fun z => absurd z h0⟩
    · exact ⟨_, cap, rfl, hnc, hcm, fun z => absurd z h0⟩
theorem atPP_snoc (ll : List (List Pi)) (l : List Pi) (i : Nat) (hi : i < ll.length + 1) : atPP (ll ++ [l]) i = if i = ll.length then l else atPP ll i := by
  unfold atPP
  by_cases e : i = ll.length
  · rw [if_pos e, e, List.getD_eq_getElem?_getD]; simp
  · rw [if_neg e, List.getD_eq_getElem?_getD, List.getElem?_append_left (by omega), ← List.getD_eq_getElem?_getD]
theorem OwPV.push {w w' : World} {lo : Nat} {v v' : Value} {ll : List (List Pi)} {vs : List Value} {l : List Pi} {Al : Option Addr} {cl : Nat} (h : OwPV w lo v ll vs) (hg : w.grownBy w' v.ownBlock) (ho : w'.ownsRow lo 37 1 v' (ll.length + 1) (vs ++ [.slice Al l.length cl])) (hl : l.length ≤ cl) (hm : cl ≤ maxLen) (hs : StP w lo Al l) : OwPV w' lo v' (ll ++ [l]) (vs ++ [.slice Al l.length cl]) := by
  have hvl : vs.length = ll.length := by have := h.1.1; omega
  have hne : ∀ b cs, Blk w b cs 62 → v.ownBlock ≠ some b := fun b cs hb => own_ne h.1 hb (by decide)
  refine ⟨by rw [List.length_append]; exact ho, fun i hi => ?_⟩
  rw [List.length_append, List.length_singleton] at hi
  rw [atPP_snoc ll l i hi]
  by_cases e : i = ll.length
  · subst e
    rw [if_pos rfl]
    exact ⟨Al, cl, by rw [← hvl]; simp, hl, hm, hs.grown hg hne⟩
  · rw [if_neg e]
    obtain ⟨Ai, ci, h1, h2, h3, h4⟩ := h.2 i (by omega)
    exact ⟨Ai, ci, by rw [List.getElem?_append_left (by omega)]; exact h1, h2, h3, h4.grown hg hne⟩
/-- every chord is short -/
def shortPP (ll : List (List Pi)) : Prop := ∀ i, i < ll.length → (atPP ll i).length ≤ 4
theorem shortPP.snoc {ll : List (List Pi)} {l : List Pi} (h : shortPP ll) (hl : l.length ≤ 4) : shortPP (ll ++ [l]) := fun i hi => by
  rw [List.length_append, List.length_singleton] at hi
  rw [atPP_snoc ll l i hi]
  split
  · exact hl
  · exact h i (by omega)
def DrPp (w : World) (e : Ending) (w' : World) : Prop := ∃ (A : Option Addr) (c : Nat) (ll : List (List Pi)), e = .returned (.slice A ll.length c) ∧ ll.length ≤ c ∧ c ≤ maxLen ∧ ll.length ≤ 9 ∧ shortPP ll ∧ RowPP w' w'.heap.size A ll ∧ Below w.heap.size w w'
theorem short9 : shortPP (List.replicate 9 []) := fun i hi => by
  unfold atPP
  rw [List.getD_eq_getElem?_getD, List.getElem?_replicate]
  split <;> simp
theorem row9 (w : World) : RowPP (w.alloc (.cells (madeCells #[.slice none 0 0] 9) 37)) (w.alloc (.cells (madeCells #[.slice none 0 0] 9) 37)).heap.size (some ⟨w.heap.size, 0, none⟩) (List.replicate 9 []) := fun _ => ⟨_, _, rfl, by simp, fun i hi => by
  have hi9 : i < 9 := hi
  have e : atPP (List.replicate 9 []) i = [] := by unfold atPP; rw [List.getD_eq_getElem?_getD, List.getElem?_replicate]; split <;> rfl
  refine ⟨none, 0, ?_, by rw [e]; simp, by simp [maxLen], by rw [e]; exact fun z => absurd z (by simp)⟩
  rw [e, World.cell?_alloc_new, Nat.zero_add]
  rcases (show i = 0 ∨ i = 1 ∨ i = 2 ∨ i = 3 ∨ i = 4 ∨ i = 5 ∨ i = 6 ∨ i = 7 ∨ i = 8 from by omega) with rfl | rfl | rfl | rfl | rfl | rfl | rfl | rfl | rfl <;> kernel_rfl⟩
set_option maxRecDepth 20000 in
set_option maxHeartbeats 8000000 in
theorem DrawPartsFaults_any (w : World) (A : Option Addr) (len cap : Nat) (h : Cod w A len cap) : Calls Try.prog 19 #[.slice A len cap] w (DrPp w) := by
  have r1 := open_ok w A len cap w.heap.size (Nat.le_refl _) h.bt
  have k1 : Onb w.heap.size w (w.alloc (.cells #[.slice A (min len 2000) cap, .int .i64 0] 93)) := Onb.of_bel (bel_al (bel_refl _) _)
  have hLO : (w.alloc (.cells #[.slice A (min len 2000) cap, .int .i64 0] 93)).heap.size = w.heap.size + 1 := by simp
  obtain ⟨i0, hi0, hz0, hz1, hz2⟩ := info_parts infoPS
  go_enter Try.func19, Try.ntmps19
  go_wp2_with fail
  refine (open_eq _ A len cap h.lc h.cm).mono ?_
  rintro e w1 ⟨rfl, rfl⟩
  go_upto_region 2 with fail
  generalize (w.alloc (.cells #[.slice A (min len 2000) cap, .int .i64 0] 93)) = w1 at *
  generalize min len 2000 = len' at *
  obtain ⟨LO, hLe⟩ : ∃ LO, w.heap.size + 1 = LO := ⟨_, rfl⟩
  have hgL : w.heap.size < LO := by omega
  have own0 : OwPV (w1.alloc (.cells #[] 37)) LO (.slice (some ⟨w1.heap.size, 0, none⟩) 0 0) [] [] := ⟨World.ownsRow_lit w1 #[] 0 (by omega) (by simp [maxLen]) rfl, fun i hi => absurd hi (by simp)⟩
  have k0 : Onb w.heap.size w1 (w1.alloc (.cells #[] 37)) := Onb.of_bel (bel_al (bel_refl w1) _)
  have r0 := r1.alloc (.cells #[] 37)
  rw [hLO] at own0
  go_wp2_with fail
  refine (pick_fr _ _ _ _ _ _ _ _ r0 (by omega)).mono ?_
  rintro e w3 ⟨x, rfl, ⟨x0, x1, _⟩, o3, r3⟩
  have x1 := x1 (by omega)
  replace own0 := own0.onb (Onb.of_onl o3) hgL
  replace k0 := k0.trans (Onb.of_onl o3)
  clear r0 o3 r1
  obtain ⟨x, rfl⟩ := Int.eq_ofNat_of_zero_le x0
  rw [hLe] at own0
  go_wp2_with fail
  go_loopw [4, 5, 6] (fun o i _ wr => ∃ (m : Nat) (ll : List (List Pi)) (pk : Nat), ll.length + m ≤ 5 ∧ i = .int .i64 m ∧ (∃ vs, OwPV wr LO o ll vs) ∧ shortPP ll ∧ Onb w.heap.size w1 wr ∧ pk + 70 * m ≤ 400 ∧ Rd wr w.heap.size w.heap.size A len' cap pk) (fun _ i _ _ => (intOf i).toNat)
  case atStart => exact ⟨x, [], 1, by simp; omega, rfl, ⟨_, own0⟩, fun i hi => absurd hi (by simp), k0, by omega, r3⟩
  case round =>
    obtain ⟨m', ll, pk, hlm, rfl, ⟨vs, hown⟩, hsh, hkO, hpk, rk⟩ := hrel
    clear own0 k0
    cases m' with
    | zero =>
      have hsz := hkO.size
      obtain ⟨A3, c3, rfl, lc3, cm3, hrow3⟩ := hown.row
      unfold maxLen at cm3
      rw [show ((0 : Nat) : Int) = 0 from rfl]
      go_wp2_with fail
      refine (odd_any _ _ _ _ _ _ _ _ rk (by omega)).mono ?_
      rintro e wf ⟨bq, rfl, _, of, pf, hpf, rf⟩
      have kF := hkO.trans (Onb.of_onl of)
      replace hown := hown.onb (Onb.of_onl of) hgL
      cases bq
      · obtain ⟨A4, c4, e4, lc4, cm4, hrow4⟩ := hown.row
        cases e4
        go_wp2
        exact bodyPost_ret (v := .slice A3 ll.length c3) (by simp [results, Try.results19, go_sem]) rfl ⟨A3, c3, ll, rfl, lc3, by unfold maxLen; omega, by omega, hsh, hrow4, (k1.trans kF).below (Nat.le_refl _) (Nat.le_refl _)⟩
      · have hmk : ∀ w, (Instr.makeSlice 26 (.int .i64 9) (.int .i64 9)).run Try.prog w = .ok (.slice (some ⟨w.heap.size, 0, none⟩) 9 9) (w.alloc (.cells (madeCells #[.slice none 0 0] 9) 37)) := run_makePP 9 (by omega)
        have kX := ((k1.trans kF).alloc (.cells (madeCells #[.slice none 0 0] 9) 37)).below (Nat.le_refl w.heap.size) (Nat.le_refl _)
        go_wp2
        exact bodyPost_ret (v := .slice (some ⟨wf.heap.size, 0, none⟩) 9 9) (by simp [results, Try.results19, go_sem]) rfl ⟨_, 9, List.replicate 9 [], rfl, by decide, by simp [maxLen], by decide, short9, row9 wf, kX⟩
    | succ m =>
      have hm0 : (0 : Int) < ((m + 1 : Nat) : Int) := by omega
      have hm1 : ((m + 1 : Nat) : Int) - 1 = (m : Int) := by omega
      obtain ⟨N, hN⟩ : ∃ N : Int, ((m + 1 : Nat) : Int) = N := ⟨_, rfl⟩
      rw [hN] at hm0 hm1 ⊢
      have HN := Lib.hid hN
      have HM1 := Lib.hid hm1
      have hN6 : N ≤ 6 := by omega
      clear hN hm1
      obtain ⟨A3, c3, rfl, lc3, cm3, hrow3⟩ := hown.row
      unfold maxLen at cm3
      have hll5 : ll.length ≤ 5 := by omega
      have hsz := hkO.size
      go_upto_region 7 with fail
      go_cut [24] (fun u wx => ∃ tb : Bool, u = .bool tb ∧ (tb = true → 0 < ll.length) ∧ Onl w.heap.size wr wx ∧ ∃ q, q ≤ pk + 1 ∧ Rd wx w.heap.size w.heap.size A len' cap q)
      case first =>
        by_cases h0 : 0 < ll.length
        · have i0 : (0 : Int) < (ll.length : Int) := by omega
          go_wp2_with fail
          refine (pick_fr _ _ _ _ _ _ _ _ rk (by omega)).mono ?_
          rintro e wx ⟨x, rfl, _, ox, rx⟩
          go_wp2
          go_meet
          exact ⟨_, rfl, fun _ => h0, ox, pk + 1, by omega, rx⟩
        · have i0 : ¬ (0 : Int) < (ll.length : Int) := by omega
          have i1 : decide (0 < ll.length) = false := decide_eq_false h0
          go_wp2
          go_meet
          exact ⟨false, rfl, fun h => (by cases h), Onl.refl w.heap.size wr, pk, by omega, rk⟩
      case rest =>
        obtain ⟨tb, rfl, htb, o9, q9, hq9, r9⟩ := hcut
        obtain ⟨wy, hwy⟩ : ∃ z : World, z = wc := ⟨_, rfl⟩
        rw [← hwy] at o9 r9 ⊢
        clear hwy rk
        replace hown := hown.onb (Onb.of_onl o9) hgL
        replace hkO := hkO.trans (Onb.of_onl o9)
        clear o9 hrow3
        have hsz2 := hkO.size
        cases tb
        · clear htb
          go_wp2_with fail
          refine (stack_any _ _ _ _ _ _ _ _ r9 (by omega)).mono ?_
          rintro e wd ⟨zA, zc, zl, rfl, zlc, zcm, zl4, zS, zk, zp, hzp, zr⟩
          have zS := zS.lo (lo' := LO) (by omega)
          replace hown := hown.onb zk hgL
          replace hkO := hkO.trans zk
          have hszd := hkO.size
          clear r9 zk
          go_wp2_with (at_builtin; go_must (refine wpList_append_lies _ rfl _ _ 26 rfl LO 37 i0 _ 1 24 Try.underlying26 hi0 hz0 hz1 hz2 rfl (by omega) _ ll.length vs rfl (hown.1.alloc _) ⟨wd.heap.size, 0, none⟩ 1 1 [.slice zA zl.length zc] rfl rfl (World.news_of_block (cs := #[.slice zA zl.length zc]) (t := 37) (fr := (0, 0)) (heap_alloc_new wd _)) (by simp [Value.oneCell']) (by omega) (by unfold maxLen; omega) (by omega) (by simp; omega) _ rfl ?_; intro gg9 cp9 w9 hown9 hgrow9 hat9 hlt9))
          have oA := (hown.alloc (.cells #[.slice zA zl.length zc] 37)).push hgrow9 hown9 zlc zcm (zS.alloc _)
          have kA := (hkO.alloc (.cells #[.slice zA zl.length zc] 37)).grown hgrow9 (fun k hk => by have := own_ge hown.1 k hk; omega)
          have rA := (zr.alloc (.cells #[.slice zA zl.length zc] 37)).grown hgrow9 (fun k hk => by have := own_ge hown.1 k hk; omega)
          have hsA := hsh.snoc zl4
          have HLN := Lib.hid (show (ll ++ [zl]).length + m ≤ 5 from by rw [List.length_append, List.length_singleton]; omega)
          have HOA := Lib.hid oA
          have HSA := Lib.hid hsA
          clear oA hsA hown hsh hown9
          go_wp2
          go_roundw
          case rel => exact ⟨m, ll ++ [zl], _, HLN.out, by rw [HM1.out], ⟨_, HOA.out⟩, HSA.out, kA, by omega, rA⟩
          case measure => simp [intOf]; omega
        · have h0 := htb rfl
          clear htb
          obtain ⟨j, hj⟩ : ∃ j, ll.length = j + 1 := ⟨ll.length - 1, by omega⟩
          obtain ⟨gb, cap9, Ai, ci, e9, b1, b2, b3, b4, b5, b6, b7, b8⟩ := hown.at' j (by omega)
          cases e9
          have hjj : (ll.length : Int) - 1 = (j : Int) := by omega
          have hj0 : (0 : Int) ≤ (j : Int) := by omega
          have hj1 : (j : Int) < (ll.length : Int) := by omega
          have hs4 := hsh j (by omega)
          have b9 := b8.row
          have hne : ∀ ad, Ai = some ad → 0 < (atPP ll j).length → ad.block ≠ w.heap.size := fun ad e h0 => by
            obtain ⟨b, o, _, e2, h1, _⟩ := b8 h0
            rw [e2] at e
            cases e
            show b ≠ w.heap.size
            omega
          have HJ := Lib.hid hj
          clear hj
          obtain ⟨x, hx⟩ : ∃ x, atPP ll j = x := ⟨_, rfl⟩
          rw [hx] at b5 b6 b9 hs4 hne
          clear hx b8
          go_wp2_with fail
          refine (next_any _ _ _ _ _ _ _ Ai ci x r9 (by omega) (by omega) b9 hne).mono ?_
          rintro e wd ⟨zA, zc, zl, rfl, zn, zlc, zcm, zS, zk, zp, hzp, zr⟩
          have zl4 : zl.length ≤ 4 := by omega
          have zS := zS.lo (lo' := LO) (by omega)
          replace hown := hown.onb zk hgL
          replace hkO := hkO.trans zk
          have hszd := hkO.size
          clear r9 zk b5 b9 hjj
          rw [← zn]
          clear zn
          go_wp2_with (at_builtin; go_must (refine wpList_append_lies _ rfl _ _ 26 rfl LO 37 i0 _ 1 24 Try.underlying26 hi0 hz0 hz1 hz2 rfl (by omega) _ ll.length vs rfl (hown.1.alloc _) ⟨wd.heap.size, 0, none⟩ 1 1 [.slice zA zl.length zc] rfl rfl (World.news_of_block (cs := #[.slice zA zl.length zc]) (t := 37) (fr := (0, 0)) (heap_alloc_new wd _)) (by simp [Value.oneCell']) (by omega) (by unfold maxLen; omega) (by omega) (by simp; omega) _ rfl ?_; intro gg9 cp9 w9 hown9 hgrow9 hat9 hlt9))
          have oA := (hown.alloc (.cells #[.slice zA zl.length zc] 37)).push hgrow9 hown9 zlc zcm (zS.alloc _)
          have kA := (hkO.alloc (.cells #[.slice zA zl.length zc] 37)).grown hgrow9 (fun k hk => by have := own_ge hown.1 k hk; omega)
          have rA := (zr.alloc (.cells #[.slice zA zl.length zc] 37)).grown hgrow9 (fun k hk => by have := own_ge hown.1 k hk; omega)
          have hsA := hsh.snoc zl4
          have HLN := Lib.hid (show (ll ++ [zl]).length + m ≤ 5 from by rw [List.length_append, List.length_singleton]; omega)
          have HOA := Lib.hid oA
          have HSA := Lib.hid hsA
          clear oA hsA hown hsh hown9
          go_wp2
          go_roundw
          case rel => exact ⟨m, ll ++ [zl], _, HLN.out, by rw [HM1.out], ⟨_, HOA.out⟩, HSA.out, kA, by omega, rA⟩
          case measure => simp [intOf]; omega
end Go.Proofs.Ytpjakgnghpapmaa
