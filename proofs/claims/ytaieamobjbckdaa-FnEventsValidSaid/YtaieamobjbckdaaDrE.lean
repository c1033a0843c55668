/- Events, drawn. -/
import Derived.Test.YtaieamobjbckdaaDrV
import Derived.Test.YtaieamobjbckdaaTps
import Derived.Test.YtaieamobjbckdaaSPrf
import Derived.Test.YtaieamobjbckdaaPfP
import Derived.Test.YtaieamobjbckdaaInv
import Derived.Test.YtaieamobjbckdaaOpCod
import Derived.Deep.AppendLies
import Derived.Deep.DeepCutAuto
namespace Go.Proofs.Ytaieamobjbckdaa
set_option linter.unusedSimpArgs false
set_option linter.unusedVariables false
open Go.RowKit

def dEv : Ev := ⟨0, 0, 0, 0⟩
section
variable {w : World} {lo gb n c k : Nat} {L : List Ev}
theorem ev_cell (h : w.ownsRow lo 28 4 (.slice (some ⟨gb, 0, none⟩) n c) n (flat csEv L)) (hn : L.length = n) (hk : k < n) (j : Nat) (hj : j < 4) : ∃ v : Int, w.cell? ⟨gb, k * 4 + j, none⟩ = some (.int .i64 v) := by
  subst hn
  have e := h.cellAt (k * 4 + j) (by omega)
  rw [flat_get csEv_len dEv L k j hk hj] at e
  rw [e]
  rcases (show j = 0 ∨ j = 1 ∨ j = 2 ∨ j = 3 from by omega) with rfl | rfl | rfl | rfl <;> exact ⟨_, rfl⟩
theorem ev_free (h : w.ownsRow lo 28 4 (.slice (some ⟨gb, 0, none⟩) n c) n (flat csEv L)) (hn : L.length = n) (hk : k < n) (j : Nat) : w.frozen? ⟨gb, k * 4 + j, none⟩ = false := h.frozenAt _
theorem ev_lt (h : w.ownsRow lo 28 4 (.slice (some ⟨gb, 0, none⟩) n c) n (flat csEv L)) (hn : L.length = n) (hk : k < n) : gb < w.heap.size := (own_lt h rfl).2
theorem ev_store0 (h : w.ownsRow lo 28 4 (.slice (some ⟨gb, 0, none⟩) n c) n (flat csEv L)) (hn : L.length = n) (hk : k < n) (y : Int) :
    (w.setCell ⟨gb, k * 4, none⟩ (.int .i64 y)).ownsRow lo 28 4 (.slice (some ⟨gb, 0, none⟩) n c) n (flat csEv (L.set k ⟨y, (atEv L k).off, (atEv L k).key, (atEv L k).loud⟩)) := by
  subst hn
  have := own_stored csEv_len dEv h k 0 hk (by decide) ⟨y, (atEv L k).off, (atEv L k).key, (atEv L k).loud⟩ (.int .i64 y) rfl
  rw [List.length_set] at this
  exact this
theorem ev_store1 (h : w.ownsRow lo 28 4 (.slice (some ⟨gb, 0, none⟩) n c) n (flat csEv L)) (hn : L.length = n) (hk : k < n) (y : Int) :
    (w.setCell ⟨gb, k * 4 + 1, none⟩ (.int .i64 y)).ownsRow lo 28 4 (.slice (some ⟨gb, 0, none⟩) n c) n (flat csEv (L.set k ⟨(atEv L k).on, y, (atEv L k).key, (atEv L k).loud⟩)) := by
  subst hn
  have := own_stored csEv_len dEv h k 1 hk (by decide) ⟨(atEv L k).on, y, (atEv L k).key, (atEv L k).loud⟩ (.int .i64 y) rfl
  rw [List.length_set] at this
  exact this
end
theorem own_loE {w : World} {lo lo' : Nat} {e : TypeId} {size : Nat} {v : Value} {n : Nat} {xs : List Value} (h : w.ownsRow lo e size v n xs) (hl : lo' ≤ lo) : w.ownsRow lo' e size v n xs := ⟨h.1, h.2.imp id fun ⟨g, cap, cur, a, b, r⟩ => ⟨g, cap, cur, a, by omega, r⟩⟩
theorem own_al {w : World} {lo : Nat} {e : TypeId} {size : Nat} {v : Value} {n : Nat} {xs : List Value} {o : Obj} (h : w.ownsRow lo e size v n xs) : (w.alloc o).ownsRow lo e size v n xs := h.alloc o
def DrEvR (w : World) (g B p : Nat) (A : Option Addr) (len cap : Nat) (e : Ending) (w' : World) : Prop :=
  ∃ (v : Value) (L : List Ev) (vT : Value), e = .returned (.tuple #[v, vT]) ∧ L.length ≤ 80 ∧ w'.ownsRow w.heap.size 28 4 v L.length (flat csEv L) ∧ Onb g w w' ∧ ∃ p', p' ≤ p + 1000 ∧ Rd w' g B A len cap p'
set_option maxRecDepth 20000 in
set_option maxHeartbeats 8000000 in
theorem events_any (w : World) (g B p : Nat) (A : Option Addr) (len cap : Nat) (m : Int) (h : Rd w g B A len cap p) (hp : p < 100000) :
    Calls Try.prog 8 #[.pointer (some ⟨g, 0, none⟩), .int .i64 m] w (DrEvR w g B p A len cap) := by
  have hg := h.gl
  obtain ⟨i0, hi0, hz0, hz1, hz2⟩ := info_parts infoEv
  go_enter Try.func8, Try.ntmps8
  go_wp2_with fail
  refine (tempos_any _ _ _ _ _ _ _ _ h (by omega)).mono ?_
  rintro e w1 ⟨vT, T, rfl, t4, own1, o1, p1, hp1, r1⟩
  have hs1 := o1.size
  go_wp2_with fail
  refine (voice_any _ _ _ _ _ _ _ _ r1 (by omega)).mono ?_
  rintro e w2 ⟨vl, l, rfl, l7, own2, o2, p2, hp2, r2⟩
  replace own1 := own_onb own1 o2 (by omega)
  have k2 := o1.trans o2
  have hs2 := o2.size
  have hg1 := r1.gl
  clear o1 o2 r1
  go_wp2_with fail
  refine (pick_fr _ _ _ _ _ _ _ _ r2 (by omega)).mono ?_
  rintro e w3 ⟨x, rfl, ⟨x0, x1, _⟩, o3, r3⟩
  have x1 := x1 (by omega)
  replace own1 := own_onl own1 o3 (by omega)
  replace own2 := own_onl own2 o3 (by omega)
  have kP := k2.trans (Onb.of_onl o3)
  clear k2 o3 r2
  have ix := IntWalk.i64_in (1 + x) (by omega)
  obtain ⟨A1, c1, rfl, lc1, cm1, h1, _⟩ := own_rowNt own2
  obtain ⟨A2, c2, e2, lc2, cm2, h2, _⟩ := tps_row own1
  subst e2
  unfold maxLen at cm1 cm2
  obtain ⟨n, hn⟩ : ∃ n, (perL l T (1 + x)).length = n := ⟨_, rfl⟩
  have hn70 : n ≤ 70 := by rw [← hn]; have := perL_len l T (1 + x); omega
  clear own1 own2
  go_wp2_with fail
  refine (sprf_any _ _ _ _ _ _ l T _ _ rfl (by omega) rfl (by omega) h1 h2).mono ?_
  rintro e w4 ⟨v, rfl, hown0, b4⟩
  obtain ⟨L0, hL0⟩ : ∃ L, perL l T (1 + x) = L := ⟨_, rfl⟩
  rw [hL0] at hown0 hn
  have r4 := r3.below b4
  obtain ⟨vA, c, rfl, hc1, hc2, hop⟩ := own_open csEv_len dEv hown0
  rw [hn] at hown0 hc1 hop ⊢
  unfold maxLen at hc2
  have hLg : g < w3.heap.size := r3.gl
  have k0 : Onb g w3 w4 := Onb.of_bel b4
  have hs4 := b4.size
  obtain ⟨LO, hLOe⟩ : ∃ z, w3.heap.size = z := ⟨_, rfl⟩
  rw [hLOe] at hown0 hop
  have hgL : g < LO := by omega
  have HVA : Hid (0 < n → ∃ gb, vA = some ⟨gb, 0, none⟩ ∧ LO ≤ gb) := fun h0 => by
    obtain ⟨gb, e, h1, _⟩ := hop h0
    exact ⟨gb, e, h1⟩
  have own0 := hown0
  have hLw : w.heap.size ≤ LO := by rw [← hLOe]; exact kP.size
  clear hop hL0 ix h1 h2 r3 b4 hown0
  obtain ⟨wP, hwP⟩ : ∃ z : World, z = w3 := ⟨_, rfl⟩
  rw [← hwP] at kP k0 hLOe
  clear hwP
  obtain ⟨vT, hvT⟩ : ∃ z, z = Value.slice A2 T.length c2 := ⟨_, rfl⟩
  rw [← hvT]
  clear hvT
  go_wp2_with fail
  go_loopw [8] (fun i wr => ∃ (k : Nat) (L : List Ev) (pk : Nat), k ≤ n ∧ L.length = n ∧ i = .int .i64 k ∧ wr.ownsRow LO 28 4 (.slice vA n c) n (flat csEv L) ∧ Onb g wP wr ∧ pk ≤ p + 430 + 3 * k ∧ Rd wr g B A len cap pk) (fun i _ => n - (intOf i).toNat)
  case atStart => exact ⟨0, L0, p2 + 1, by omega, hn, rfl, own0, k0, by omega, r4⟩
  case round =>
    obtain ⟨k, L, pk, hk, hLn, rfl, hown, hkO, hpk, rk⟩ := hrel
    clear own0 k0
    have hgr : g < wr.heap.size := rk.gl
    have hBgr := rk.Bg
    have hk0 : (0 : Int) ≤ (k : Int) := by omega
    have hkLO : LO ≤ wr.heap.size := by rw [← hLOe]; exact hkO.size
    go_upto_region 4 with fail
    go_cut [26] (fun u wx => ∃ tb : Bool, u = .bool tb ∧ (tb = true → k < n) ∧ Onl g wr wx ∧ ∃ q, q ≤ pk + 1 ∧ Rd wx g B A len cap q)
    case first =>
      by_cases hkn : k < n
      · have i0 : (k : Int) < (n : Int) := by omega
        have i1 : decide ((k : Int) < (n : Int)) = true := decide_eq_true i0
        have i2 : decide (k < n) = true := decide_eq_true hkn
        go_wp2_with fail
        refine (pick_fr _ _ _ _ _ _ _ _ rk (by omega)).mono ?_
        rintro e wx ⟨x, rfl, _, ox, rx⟩
        go_wp2
        go_meet
        exact ⟨_, rfl, fun _ => hkn, ox, pk + 1, by omega, rx⟩
      · have i0 : ¬ (k : Int) < (n : Int) := by omega
        have i1 : decide ((k : Int) < (n : Int)) = false := decide_eq_false i0
        have i2 : decide (k < n) = false := decide_eq_false hkn
        go_wp2
        go_meet
        exact ⟨false, rfl, fun h => (by cases h), Onl.refl g wr, pk, by omega, rk⟩
    case rest =>
      obtain ⟨tb, rfl, htb, o9, q9, hq9, r9⟩ := hcut
      obtain ⟨wy, hwy⟩ : ∃ z : World, z = wc := ⟨_, rfl⟩
      rw [← hwy] at o9 r9 ⊢
      clear hwy rk
      replace hown := own_onl hown o9 hgL
      replace hkO := hkO.trans (Onb.of_onl o9)
      replace hkLO : LO ≤ wy.heap.size := by rw [← hLOe]; exact hkO.size
      clear o9
      cases tb
      · clear htb
        go_wp2_with fail
        refine (odd_any _ _ _ _ _ _ _ _ r9 (by omega)).mono ?_
        rintro e wf ⟨bq, rfl, _, of, pf, hpf, rf⟩
        replace hown := own_onl hown of hgL
        have kF := kP.trans (hkO.trans (Onb.of_onl of))
        have hszf : wy.heap.size ≤ wf.heap.size := by rw [of.size]; exact Nat.le_refl _
        clear hkO of r9
        cases bq
        · rw [← hLn] at hown
          go_wp2
          exact bodyPost_ret (v := .tuple #[.slice vA n c, vT]) (by simp [results, Try.results8, go_sem]) rfl ⟨_, L, vT, rfl, by omega, own_loE (by rw [hLn] at hown ⊢; exact hown) (by omega), kF, pf, by omega, rf⟩
        · go_wp2_with fail
          refine (pick_fr _ _ _ _ _ _ _ _ rf (by omega)).mono ?_
          rintro e wg ⟨x, rfl, ⟨x0, x1, _⟩, og, rg⟩
          have x1 := x1 (by omega)
          replace hown := own_onl hown og hgL
          have kG := kF.trans (Onb.of_onl og)
          obtain ⟨pg, hpg⟩ : ∃ z, z = pf + 1 := ⟨_, rfl⟩
          rw [← hpg] at rg
          have hszG := kG.size
          have hszg : wf.heap.size ≤ wg.heap.size := by rw [og.size]; exact Nat.le_refl _
          have hLOg : LO ≤ wg.heap.size := by omega
          clear hszf hszg
          clear kF rf og
          rcases (show x = 0 ∨ x = 1 ∨ x = 2 ∨ x = 3 from by omega) with rfl | rfl | rfl | rfl
          · go_wp2_with (at_builtin; go_must (refine wpList_append_lies _ rfl _ _ 23 rfl LO 28 i0 _ 4 32 Try.underlying23 hi0 hz0 hz1 hz2 rfl (by omega) _ n (flat csEv L) rfl (own_al hown) ⟨wg.heap.size, 0, none⟩ 1 1 [.int .i64 (-1), .int .i64 1, .int .i64 1, .int .i64 1] rfl rfl (World.news_of_block (cs := #[.int .i64 (-1), .int .i64 1, .int .i64 1, .int .i64 1]) (t := 28) (fr := (0, 0)) (heap_alloc_new wg _)) (by simp [Value.oneCell']) (by omega) (by unfold maxLen; omega) (by omega) (by simp; omega) _ rfl ?_; intro gg9 cp9 w9 hown9 hgrow9 hat9 hlt9))
            have kA := (kG.alloc (.cells #[.int .i64 (-1), .int .i64 1, .int .i64 1, .int .i64 1] 28)).grown hgrow9 (fun k hk => by have := own_ge hown k hk; omega)
            have rA := (rg.alloc (.cells #[.int .i64 (-1), .int .i64 1, .int .i64 1, .int .i64 1] 28)).grown hgrow9 (fun k hk => by have := own_ge hown k hk; omega)
            have HO := Lib.hid (show w9.ownsRow LO 28 4 (.slice (some ⟨gg9, 0, none⟩) (n + 1) cp9) (n + 1) (flat csEv (L ++ [(⟨(-1), 1, 1, 1⟩ : Ev)])) from by simpa [flat, csEv] using hown9)
            have HL9 := Lib.hid (show (L ++ [(⟨(-1), 1, 1, 1⟩ : Ev)]).length = n + 1 from by simp [hLn])
            clear hown hown9 hLn
            go_wp2
            exact bodyPost_ret (v := .tuple #[.slice (some ⟨gg9, 0, none⟩) (n + 1) cp9, vT]) (by simp [results, Try.results8, go_sem]) rfl ⟨_, L ++ [(⟨(-1), 1, 1, 1⟩ : Ev)], vT, rfl, by rw [HL9.out]; omega, by rw [HL9.out]; exact own_loE HO.out (by omega), kA, pg, by omega, rA⟩
          · go_wp2_with (at_builtin; go_must (refine wpList_append_lies _ rfl _ _ 23 rfl LO 28 i0 _ 4 32 Try.underlying23 hi0 hz0 hz1 hz2 rfl (by omega) _ n (flat csEv L) rfl (own_al hown) ⟨wg.heap.size, 0, none⟩ 1 1 [.int .i64 5, .int .i64 5, .int .i64 1, .int .i64 1] rfl rfl (World.news_of_block (cs := #[.int .i64 5, .int .i64 5, .int .i64 1, .int .i64 1]) (t := 28) (fr := (0, 0)) (heap_alloc_new wg _)) (by simp [Value.oneCell']) (by omega) (by unfold maxLen; omega) (by omega) (by simp; omega) _ rfl ?_; intro gg9 cp9 w9 hown9 hgrow9 hat9 hlt9))
            have kA := (kG.alloc (.cells #[.int .i64 5, .int .i64 5, .int .i64 1, .int .i64 1] 28)).grown hgrow9 (fun k hk => by have := own_ge hown k hk; omega)
            have rA := (rg.alloc (.cells #[.int .i64 5, .int .i64 5, .int .i64 1, .int .i64 1] 28)).grown hgrow9 (fun k hk => by have := own_ge hown k hk; omega)
            have HO := Lib.hid (show w9.ownsRow LO 28 4 (.slice (some ⟨gg9, 0, none⟩) (n + 1) cp9) (n + 1) (flat csEv (L ++ [(⟨5, 5, 1, 1⟩ : Ev)])) from by simpa [flat, csEv] using hown9)
            have HL9 := Lib.hid (show (L ++ [(⟨5, 5, 1, 1⟩ : Ev)]).length = n + 1 from by simp [hLn])
            clear hown hown9 hLn
            go_wp2
            exact bodyPost_ret (v := .tuple #[.slice (some ⟨gg9, 0, none⟩) (n + 1) cp9, vT]) (by simp [results, Try.results8, go_sem]) rfl ⟨_, L ++ [(⟨5, 5, 1, 1⟩ : Ev)], vT, rfl, by rw [HL9.out]; omega, by rw [HL9.out]; exact own_loE HO.out (by omega), kA, pg, by omega, rA⟩
          · go_wp2_with (at_builtin; go_must (refine wpList_append_lies _ rfl _ _ 23 rfl LO 28 i0 _ 4 32 Try.underlying23 hi0 hz0 hz1 hz2 rfl (by omega) _ n (flat csEv L) rfl (own_al hown) ⟨wg.heap.size, 0, none⟩ 1 1 [.int .i64 0, .int .i64 9, .int .i64 108, .int .i64 1] rfl rfl (World.news_of_block (cs := #[.int .i64 0, .int .i64 9, .int .i64 108, .int .i64 1]) (t := 28) (fr := (0, 0)) (heap_alloc_new wg _)) (by simp [Value.oneCell']) (by omega) (by unfold maxLen; omega) (by omega) (by simp; omega) _ rfl ?_; intro gg9 cp9 w9 hown9 hgrow9 hat9 hlt9))
            have kA := (kG.alloc (.cells #[.int .i64 0, .int .i64 9, .int .i64 108, .int .i64 1] 28)).grown hgrow9 (fun k hk => by have := own_ge hown k hk; omega)
            have rA := (rg.alloc (.cells #[.int .i64 0, .int .i64 9, .int .i64 108, .int .i64 1] 28)).grown hgrow9 (fun k hk => by have := own_ge hown k hk; omega)
            have HO := Lib.hid (show w9.ownsRow LO 28 4 (.slice (some ⟨gg9, 0, none⟩) (n + 1) cp9) (n + 1) (flat csEv (L ++ [(⟨0, 9, 108, 1⟩ : Ev)])) from by simpa [flat, csEv] using hown9)
            have HL9 := Lib.hid (show (L ++ [(⟨0, 9, 108, 1⟩ : Ev)]).length = n + 1 from by simp [hLn])
            clear hown hown9 hLn
            go_wp2
            exact bodyPost_ret (v := .tuple #[.slice (some ⟨gg9, 0, none⟩) (n + 1) cp9, vT]) (by simp [results, Try.results8, go_sem]) rfl ⟨_, L ++ [(⟨0, 9, 108, 1⟩ : Ev)], vT, rfl, by rw [HL9.out]; omega, by rw [HL9.out]; exact own_loE HO.out (by omega), kA, pg, by omega, rA⟩
          · go_wp2_with (at_builtin; go_must (refine wpList_append_lies _ rfl _ _ 23 rfl LO 28 i0 _ 4 32 Try.underlying23 hi0 hz0 hz1 hz2 rfl (by omega) _ n (flat csEv L) rfl (own_al hown) ⟨wg.heap.size, 0, none⟩ 2 2 [.int .i64 0, .int .i64 5, .int .i64 1, .int .i64 1, .int .i64 4, .int .i64 9, .int .i64 1, .int .i64 1] rfl rfl (World.news_of_block (cs := #[.int .i64 0, .int .i64 5, .int .i64 1, .int .i64 1, .int .i64 4, .int .i64 9, .int .i64 1, .int .i64 1]) (t := 28) (fr := (0, 0)) (heap_alloc_new wg _)) (by simp [Value.oneCell']) (by omega) (by unfold maxLen; omega) (by omega) (by simp; omega) _ rfl ?_; intro gg9 cp9 w9 hown9 hgrow9 hat9 hlt9))
            have kA := (kG.alloc (.cells #[.int .i64 0, .int .i64 5, .int .i64 1, .int .i64 1, .int .i64 4, .int .i64 9, .int .i64 1, .int .i64 1] 28)).grown hgrow9 (fun k hk => by have := own_ge hown k hk; omega)
            have rA := (rg.alloc (.cells #[.int .i64 0, .int .i64 5, .int .i64 1, .int .i64 1, .int .i64 4, .int .i64 9, .int .i64 1, .int .i64 1] 28)).grown hgrow9 (fun k hk => by have := own_ge hown k hk; omega)
            have HO := Lib.hid (show w9.ownsRow LO 28 4 (.slice (some ⟨gg9, 0, none⟩) (n + 2) cp9) (n + 2) (flat csEv (L ++ [(⟨0, 5, 1, 1⟩ : Ev)] ++ [(⟨4, 9, 1, 1⟩ : Ev)])) from by simpa [flat, csEv] using hown9)
            have HL9 := Lib.hid (show (L ++ [(⟨0, 5, 1, 1⟩ : Ev)] ++ [(⟨4, 9, 1, 1⟩ : Ev)]).length = n + 2 from by simp [hLn])
            clear hown hown9 hLn
            go_wp2
            exact bodyPost_ret (v := .tuple #[.slice (some ⟨gg9, 0, none⟩) (n + 2) cp9, vT]) (by simp [results, Try.results8, go_sem]) rfl ⟨_, L ++ [(⟨0, 5, 1, 1⟩ : Ev)] ++ [(⟨4, 9, 1, 1⟩ : Ev)], vT, rfl, by rw [HL9.out]; omega, by rw [HL9.out]; exact own_loE HO.out (by omega), kA, pg, by omega, rA⟩
      · have hkn := htb rfl
        clear htb
        have hkm : (k : Int) < (n : Int) := by omega
        obtain ⟨gb, rfl, hgb⟩ := HVA.out (by omega)
        have hgbg : gb ≠ g := by omega
        go_upto_region 6 with fail
        go_cut [] (fun wx => ∃ L : List Ev, L.length = n ∧ wx.ownsRow LO 28 4 (.slice (some ⟨gb, 0, none⟩) n c) n (flat csEv L) ∧ Onb g wP wx ∧ ∃ q, q ≤ q9 + 1 ∧ Rd wx g B A len cap q)
        case first =>
          refine region_slots (by kernel_rfl) (by kernel_rfl) [29, 30, 31, 32, 33, 34, 35, 36, 37, 38, 39, 40] (fun D us W => ∃ u29 u30 u31 u32 u33 u34 u35 u36 u37 u38 u39 u40 : Value, us = [u29, u30, u31, u32, u33, u34, u35, u36, u37, u38, u39, u40] ∧ (Onb g wP W ∧ (∃ q : Nat, q ≤ q9 + (D 8).toNat ∧ Rd W g B A len cap q) ∧ ∃ L : List Ev, L.length = n ∧ W.ownsRow LO 28 4 (.slice (some ⟨gb, 0, none⟩) n c) n (flat csEv L)) ∧ (D 0 = true → u29 = .slice (some ⟨gb, 0, none⟩) n c) ∧ (D 1 = true → u30 = .int .i64 k) ∧ (D 2 = true → u31 = .slice (some ⟨gb, 0, none⟩) n c) ∧ (D 3 = true → u32 = .int .i64 k) ∧ (D 4 = true → u33 = .pointer (some ⟨gb, k * 4, none⟩)) ∧ (D 5 = true → u34 = .pointer (some ⟨gb, k * 4, none⟩)) ∧ (D 6 = true → (∃ y : Int, u35 = .int .i64 y)) ∧ (D 7 = true → u36 = .pointer (some ⟨g, 0, none⟩)) ∧ (D 8 = true → (∃ y : Int, u37 = .int .i64 y)) ∧ (D 9 = true → (∃ y : Int, u38 = .int .i64 y)) ∧ (D 10 = true → u39 = .pointer (some ⟨gb, k * 4, none⟩)) ∧ (D 11 = true → u40 = .pointer (some ⟨gb, k * 4, none⟩))) ?_ ?_ ?_
          · intro us hu
            obtain ⟨u29, u30, u31, u32, u33, u34, u35, u36, u37, u38, u39, u40, rfl⟩ : ∃ u29 u30 u31 u32 u33 u34 u35 u36 u37 u38 u39 u40, us = [u29, u30, u31, u32, u33, u34, u35, u36, u37, u38, u39, u40] := by
              match us, hu with
              | [u29, u30, u31, u32, u33, u34, u35, u36, u37, u38, u39, u40], _ => exact ⟨_, _, _, _, _, _, _, _, _, _, _, _, rfl⟩
            exact ⟨_, _, _, _, _, _, _, _, _, _, _, _, rfl, ⟨hkO.drew, ⟨q9, by omega, r9.drew⟩, L, hLn, own_below hown (bel_dr (bel_refl _))⟩, fun h => absurd h (by simp), fun h => absurd h (by simp), fun h => absurd h (by simp), fun h => absurd h (by simp), fun h => absurd h (by simp), fun h => absurd h (by simp), fun h => absurd h (by simp), fun h => absurd h (by simp), fun h => absurd h (by simp), fun h => absurd h (by simp), fun h => absurd h (by simp), fun h => absurd h (by simp)⟩
          · rintro i o hi ho D us W hu hd hdep ⟨u29, u30, u31, u32, u33, u34, u35, u36, u37, u38, u39, u40, rfl, hJ, f0, f1, f2, f3, f4, f5, f6, f7, f8, f9, f10, f11⟩
            have hi' : i < 13 := by simpa using hi
            clear hi hu
            rcases (show i = 0 ∨ i = 1 ∨ i = 2 ∨ i = 3 ∨ i = 4 ∨ i = 5 ∨ i = 6 ∨ i = 7 ∨ i = 8 ∨ i = 9 ∨ i = 10 ∨ i = 11 ∨ i = 12 from by omega) with rfl | rfl | rfl | rfl | rfl | rfl | rfl | rfl | rfl | rfl | rfl | rfl | rfl
            · simp only [List.getElem?_cons_zero, List.getElem?_cons_succ, Option.some.injEq] at ho
              subst ho
              clear hi'
              clear hdep
              have hI := hJ
              refine wpOp_step rfl (fun K hK => ?_)
              simp only [List.zip_cons_cons, List.zip_nil_right, puts]
              have Hf0 := Lib.hid f0
              have Hf1 := Lib.hid f1
              have Hf2 := Lib.hid f2
              have Hf3 := Lib.hid f3
              have Hf4 := Lib.hid f4
              have Hf5 := Lib.hid f5
              have Hf6 := Lib.hid f6
              have Hf7 := Lib.hid f7
              have Hf8 := Lib.hid f8
              have Hf9 := Lib.hid f9
              have Hf10 := Lib.hid f10
              have Hf11 := Lib.hid f11
              have HhK := Lib.hid hK
              have Hhd := Lib.hid hd
              have HhJ := Lib.hid hJ
              clear hd hK hJ f0 f1 f2 f3 f4 f5 f6 f7 f8 f9 f10 f11
              go_simp
              have f0 := Hf0.out
              have f1 := Hf1.out
              have f2 := Hf2.out
              have f3 := Hf3.out
              have f4 := Hf4.out
              have f5 := Hf5.out
              have f6 := Hf6.out
              have f7 := Hf7.out
              have f8 := Hf8.out
              have f9 := Hf9.out
              have f10 := Hf10.out
              have f11 := Hf11.out
              have hK := HhK.out
              have hd := Hhd.out
              have hJ := HhJ.out
              exact hK _ _ ⟨[(.slice (some ⟨gb, 0, none⟩) n c), u30, u31, u32, u33, u34, u35, u36, u37, u38, u39, u40], rfl, by kernel_rfl, _, _, _, _, _, _, _, _, _, _, _, _, rfl, hI, (fun _ => rfl), f1, f2, f3, f4, f5, f6, f7, f8, f9, f10, f11⟩
            · simp only [List.getElem?_cons_zero, List.getElem?_cons_succ, Option.some.injEq] at ho
              subst ho
              clear hi'
              clear hdep
              have hI := hJ
              refine wpOp_step rfl (fun K hK => ?_)
              simp only [List.zip_cons_cons, List.zip_nil_right, puts]
              have Hf0 := Lib.hid f0
              have Hf1 := Lib.hid f1
              have Hf2 := Lib.hid f2
              have Hf3 := Lib.hid f3
              have Hf4 := Lib.hid f4
              have Hf5 := Lib.hid f5
              have Hf6 := Lib.hid f6
              have Hf7 := Lib.hid f7
              have Hf8 := Lib.hid f8
              have Hf9 := Lib.hid f9
              have Hf10 := Lib.hid f10
              have Hf11 := Lib.hid f11
              have HhK := Lib.hid hK
              have Hhd := Lib.hid hd
              have HhJ := Lib.hid hJ
              clear hd hK hJ f0 f1 f2 f3 f4 f5 f6 f7 f8 f9 f10 f11
              go_simp
              have f0 := Hf0.out
              have f1 := Hf1.out
              have f2 := Hf2.out
              have f3 := Hf3.out
              have f4 := Hf4.out
              have f5 := Hf5.out
              have f6 := Hf6.out
              have f7 := Hf7.out
              have f8 := Hf8.out
              have f9 := Hf9.out
              have f10 := Hf10.out
              have f11 := Hf11.out
              have hK := HhK.out
              have hd := Hhd.out
              have hJ := HhJ.out
              exact hK _ _ ⟨[u29, (.int .i64 k), u31, u32, u33, u34, u35, u36, u37, u38, u39, u40], rfl, by kernel_rfl, _, _, _, _, _, _, _, _, _, _, _, _, rfl, hI, f0, (fun _ => rfl), f2, f3, f4, f5, f6, f7, f8, f9, f10, f11⟩
            · simp only [List.getElem?_cons_zero, List.getElem?_cons_succ, Option.some.injEq] at ho
              subst ho
              clear hi'
              clear hdep
              have hI := hJ
              refine wpOp_step rfl (fun K hK => ?_)
              simp only [List.zip_cons_cons, List.zip_nil_right, puts]
              have Hf0 := Lib.hid f0
              have Hf1 := Lib.hid f1
              have Hf2 := Lib.hid f2
              have Hf3 := Lib.hid f3
              have Hf4 := Lib.hid f4
              have Hf5 := Lib.hid f5
              have Hf6 := Lib.hid f6
              have Hf7 := Lib.hid f7
              have Hf8 := Lib.hid f8
              have Hf9 := Lib.hid f9
              have Hf10 := Lib.hid f10
              have Hf11 := Lib.hid f11
              have HhK := Lib.hid hK
              have Hhd := Lib.hid hd
              have HhJ := Lib.hid hJ
              clear hd hK hJ f0 f1 f2 f3 f4 f5 f6 f7 f8 f9 f10 f11
              go_simp
              have f0 := Hf0.out
              have f1 := Hf1.out
              have f2 := Hf2.out
              have f3 := Hf3.out
              have f4 := Hf4.out
              have f5 := Hf5.out
              have f6 := Hf6.out
              have f7 := Hf7.out
              have f8 := Hf8.out
              have f9 := Hf9.out
              have f10 := Hf10.out
              have f11 := Hf11.out
              have hK := HhK.out
              have hd := Hhd.out
              have hJ := HhJ.out
              exact hK _ _ ⟨[u29, u30, (.slice (some ⟨gb, 0, none⟩) n c), u32, u33, u34, u35, u36, u37, u38, u39, u40], rfl, by kernel_rfl, _, _, _, _, _, _, _, _, _, _, _, _, rfl, hI, f0, f1, (fun _ => rfl), f3, f4, f5, f6, f7, f8, f9, f10, f11⟩
            · simp only [List.getElem?_cons_zero, List.getElem?_cons_succ, Option.some.injEq] at ho
              subst ho
              clear hi'
              clear hdep
              have hI := hJ
              refine wpOp_step rfl (fun K hK => ?_)
              simp only [List.zip_cons_cons, List.zip_nil_right, puts]
              have Hf0 := Lib.hid f0
              have Hf1 := Lib.hid f1
              have Hf2 := Lib.hid f2
              have Hf3 := Lib.hid f3
              have Hf4 := Lib.hid f4
              have Hf5 := Lib.hid f5
              have Hf6 := Lib.hid f6
              have Hf7 := Lib.hid f7
              have Hf8 := Lib.hid f8
              have Hf9 := Lib.hid f9
              have Hf10 := Lib.hid f10
              have Hf11 := Lib.hid f11
              have HhK := Lib.hid hK
              have Hhd := Lib.hid hd
              have HhJ := Lib.hid hJ
              clear hd hK hJ f0 f1 f2 f3 f4 f5 f6 f7 f8 f9 f10 f11
              go_simp
              have f0 := Hf0.out
              have f1 := Hf1.out
              have f2 := Hf2.out
              have f3 := Hf3.out
              have f4 := Hf4.out
              have f5 := Hf5.out
              have f6 := Hf6.out
              have f7 := Hf7.out
              have f8 := Hf8.out
              have f9 := Hf9.out
              have f10 := Hf10.out
              have f11 := Hf11.out
              have hK := HhK.out
              have hd := Hhd.out
              have hJ := HhJ.out
              exact hK _ _ ⟨[u29, u30, u31, (.int .i64 k), u33, u34, u35, u36, u37, u38, u39, u40], rfl, by kernel_rfl, _, _, _, _, _, _, _, _, _, _, _, _, rfl, hI, f0, f1, f2, (fun _ => rfl), f4, f5, f6, f7, f8, f9, f10, f11⟩
            · simp only [List.getElem?_cons_zero, List.getElem?_cons_succ, Option.some.injEq] at ho
              subst ho
              clear hi'
              have d2 : D 2 = true := hdep ⟨2, Ground.data⟩ (by simp) rfl
              have d3 : D 3 = true := hdep ⟨3, Ground.data⟩ (by simp) rfl
              clear hdep
              have hI := hJ
              obtain rfl := f2 d2
              obtain rfl := f3 d3
              refine wpOp_step rfl (fun K hK => ?_)
              simp only [List.zip_cons_cons, List.zip_nil_right, puts]
              have Hf0 := Lib.hid f0
              have Hf1 := Lib.hid f1
              have Hf2 := Lib.hid f2
              have Hf3 := Lib.hid f3
              have Hf4 := Lib.hid f4
              have Hf5 := Lib.hid f5
              have Hf6 := Lib.hid f6
              have Hf7 := Lib.hid f7
              have Hf8 := Lib.hid f8
              have Hf9 := Lib.hid f9
              have Hf10 := Lib.hid f10
              have Hf11 := Lib.hid f11
              have HhK := Lib.hid hK
              have Hhd := Lib.hid hd
              have HhJ := Lib.hid hJ
              clear hd hK hJ f0 f1 f2 f3 f4 f5 f6 f7 f8 f9 f10 f11
              go_simp
              have f0 := Hf0.out
              have f1 := Hf1.out
              have f2 := Hf2.out
              have f3 := Hf3.out
              have f4 := Hf4.out
              have f5 := Hf5.out
              have f6 := Hf6.out
              have f7 := Hf7.out
              have f8 := Hf8.out
              have f9 := Hf9.out
              have f10 := Hf10.out
              have f11 := Hf11.out
              have hK := HhK.out
              have hd := Hhd.out
              have hJ := HhJ.out
              exact hK _ _ ⟨[u29, u30, (.slice (some ⟨gb, 0, none⟩) n c), (.int .i64 k), (.pointer (some ⟨gb, k * 4, none⟩)), u34, u35, u36, u37, u38, u39, u40], rfl, by kernel_rfl, _, _, _, _, _, _, _, _, _, _, _, _, rfl, hI, f0, f1, (fun _ => rfl), (fun _ => rfl), (fun _ => rfl), f5, f6, f7, f8, f9, f10, f11⟩
            · simp only [List.getElem?_cons_zero, List.getElem?_cons_succ, Option.some.injEq] at ho
              subst ho
              clear hi'
              have d4 : D 4 = true := hdep ⟨4, Ground.data⟩ (by simp) rfl
              clear hdep
              have hI := hJ
              obtain rfl := f4 d4
              refine wpOp_step rfl (fun K hK => ?_)
              simp only [List.zip_cons_cons, List.zip_nil_right, puts]
              have Hf0 := Lib.hid f0
              have Hf1 := Lib.hid f1
              have Hf2 := Lib.hid f2
              have Hf3 := Lib.hid f3
              have Hf4 := Lib.hid f4
              have Hf5 := Lib.hid f5
              have Hf6 := Lib.hid f6
              have Hf7 := Lib.hid f7
              have Hf8 := Lib.hid f8
              have Hf9 := Lib.hid f9
              have Hf10 := Lib.hid f10
              have Hf11 := Lib.hid f11
              have HhK := Lib.hid hK
              have Hhd := Lib.hid hd
              have HhJ := Lib.hid hJ
              clear hd hK hJ f0 f1 f2 f3 f4 f5 f6 f7 f8 f9 f10 f11
              go_simp
              have f0 := Hf0.out
              have f1 := Hf1.out
              have f2 := Hf2.out
              have f3 := Hf3.out
              have f4 := Hf4.out
              have f5 := Hf5.out
              have f6 := Hf6.out
              have f7 := Hf7.out
              have f8 := Hf8.out
              have f9 := Hf9.out
              have f10 := Hf10.out
              have f11 := Hf11.out
              have hK := HhK.out
              have hd := Hhd.out
              have hJ := HhJ.out
              exact hK _ _ ⟨[u29, u30, u31, u32, (.pointer (some ⟨gb, k * 4, none⟩)), (.pointer (some ⟨gb, k * 4, none⟩)), u35, u36, u37, u38, u39, u40], rfl, by kernel_rfl, _, _, _, _, _, _, _, _, _, _, _, _, rfl, hI, f0, f1, f2, f3, (fun _ => rfl), (fun _ => rfl), f6, f7, f8, f9, f10, f11⟩
            · simp only [List.getElem?_cons_zero, List.getElem?_cons_succ, Option.some.injEq] at ho
              subst ho
              clear hi'
              have d5 : D 5 = true := hdep ⟨5, Ground.data⟩ (by simp) rfl
              clear hdep
              have hI := hJ
              obtain rfl := f5 d5
              have hI0 := hI
              obtain ⟨kO, ⟨q, hp, rd⟩, L, hLn, ho⟩ := hI0
              obtain ⟨v0, hc0⟩ := ev_cell ho hLn hkn 0 (by decide)
              simp only [Nat.add_zero] at hc0
              refine wpOp_step rfl (fun K hK => ?_)
              simp only [List.zip_cons_cons, List.zip_nil_right, puts]
              have Hf0 := Lib.hid f0
              have Hf1 := Lib.hid f1
              have Hf2 := Lib.hid f2
              have Hf3 := Lib.hid f3
              have Hf4 := Lib.hid f4
              have Hf5 := Lib.hid f5
              have Hf6 := Lib.hid f6
              have Hf7 := Lib.hid f7
              have Hf8 := Lib.hid f8
              have Hf9 := Lib.hid f9
              have Hf10 := Lib.hid f10
              have Hf11 := Lib.hid f11
              have HhK := Lib.hid hK
              have Hhd := Lib.hid hd
              have HhJ := Lib.hid hJ
              clear hd hK hJ f0 f1 f2 f3 f4 f5 f6 f7 f8 f9 f10 f11
              go_simp
              have f0 := Hf0.out
              have f1 := Hf1.out
              have f2 := Hf2.out
              have f3 := Hf3.out
              have f4 := Hf4.out
              have f5 := Hf5.out
              have f6 := Hf6.out
              have f7 := Hf7.out
              have f8 := Hf8.out
              have f9 := Hf9.out
              have f10 := Hf10.out
              have f11 := Hf11.out
              have hK := HhK.out
              have hd := Hhd.out
              have hJ := HhJ.out
              exact hK _ _ ⟨[u29, u30, u31, u32, u33, (.pointer (some ⟨gb, k * 4, none⟩)), (.int .i64 v0), u36, u37, u38, u39, u40], rfl, by kernel_rfl, _, _, _, _, _, _, _, _, _, _, _, _, rfl, hI, f0, f1, f2, f3, f4, (fun _ => rfl), (fun _ => ⟨_, rfl⟩), f7, f8, f9, f10, f11⟩
            · simp only [List.getElem?_cons_zero, List.getElem?_cons_succ, Option.some.injEq] at ho
              subst ho
              clear hi'
              clear hdep
              have hI := hJ
              refine wpOp_step rfl (fun K hK => ?_)
              simp only [List.zip_cons_cons, List.zip_nil_right, puts]
              have Hf0 := Lib.hid f0
              have Hf1 := Lib.hid f1
              have Hf2 := Lib.hid f2
              have Hf3 := Lib.hid f3
              have Hf4 := Lib.hid f4
              have Hf5 := Lib.hid f5
              have Hf6 := Lib.hid f6
              have Hf7 := Lib.hid f7
              have Hf8 := Lib.hid f8
              have Hf9 := Lib.hid f9
              have Hf10 := Lib.hid f10
              have Hf11 := Lib.hid f11
              have HhK := Lib.hid hK
              have Hhd := Lib.hid hd
              have HhJ := Lib.hid hJ
              clear hd hK hJ f0 f1 f2 f3 f4 f5 f6 f7 f8 f9 f10 f11
              go_simp
              have f0 := Hf0.out
              have f1 := Hf1.out
              have f2 := Hf2.out
              have f3 := Hf3.out
              have f4 := Hf4.out
              have f5 := Hf5.out
              have f6 := Hf6.out
              have f7 := Hf7.out
              have f8 := Hf8.out
              have f9 := Hf9.out
              have f10 := Hf10.out
              have f11 := Hf11.out
              have hK := HhK.out
              have hd := Hhd.out
              have hJ := HhJ.out
              exact hK _ _ ⟨[u29, u30, u31, u32, u33, u34, u35, (.pointer (some ⟨g, 0, none⟩)), u37, u38, u39, u40], rfl, by kernel_rfl, _, _, _, _, _, _, _, _, _, _, _, _, rfl, hI, f0, f1, f2, f3, f4, f5, f6, (fun _ => rfl), f8, f9, f10, f11⟩
            · simp only [List.getElem?_cons_zero, List.getElem?_cons_succ, Option.some.injEq] at ho
              subst ho
              clear hi'
              have d7 : D 7 = true := hdep ⟨7, Ground.data⟩ (by simp) rfl
              clear hdep
              have hI := hJ
              obtain rfl := f7 d7
              have hI0 := hI
              obtain ⟨kO, ⟨q, hp, rd⟩, L, hLn, ho⟩ := hI0
              have a5 := Bool.toNat_le (D 8)
              refine wpOp_step rfl (fun K hK => ?_)
              simp only [List.zip_cons_cons, List.zip_nil_right, puts]
              have Hf0 := Lib.hid f0
              have Hf1 := Lib.hid f1
              have Hf2 := Lib.hid f2
              have Hf3 := Lib.hid f3
              have Hf4 := Lib.hid f4
              have Hf5 := Lib.hid f5
              have Hf6 := Lib.hid f6
              have Hf7 := Lib.hid f7
              have Hf8 := Lib.hid f8
              have Hf9 := Lib.hid f9
              have Hf10 := Lib.hid f10
              have Hf11 := Lib.hid f11
              have HhK := Lib.hid hK
              have Hhd := Lib.hid hd
              have HhJ := Lib.hid hJ
              clear hd hK hJ f0 f1 f2 f3 f4 f5 f6 f7 f8 f9 f10 f11
              go_simp
              go_wp2_with (go_at_call 16; refine (pick_fr _ _ _ _ _ _ _ _ rd (by omega)).mono ?_; rintro e w9 ⟨x, rfl, ⟨x0, x1, _⟩, o9, r9⟩)
              have f0 := Hf0.out
              have f1 := Hf1.out
              have f2 := Hf2.out
              have f3 := Hf3.out
              have f4 := Hf4.out
              have f5 := Hf5.out
              have f6 := Hf6.out
              have f7 := Hf7.out
              have f8 := Hf8.out
              have f9 := Hf9.out
              have f10 := Hf10.out
              have f11 := Hf11.out
              have hK := HhK.out
              have hd := Hhd.out
              have hJ := HhJ.out
              exact hK _ _ ⟨[u29, u30, u31, u32, u33, u34, u35, (.pointer (some ⟨g, 0, none⟩)), (.int .i64 x), u38, u39, u40], rfl, by kernel_rfl, _, _, _, _, _, _, _, _, _, _, _, _, rfl, ⟨kO.trans (Onb.of_onl o9), ⟨q + 1, (by have e := hp; rw [hd] at e; show q + 1 ≤ q9 + (true).toNat; simp only [Bool.toNat_true, Bool.toNat_false] at e ⊢; omega), r9⟩, L, hLn, own_onl ho o9 hgL⟩, f0, f1, f2, f3, f4, f5, f6, (fun _ => rfl), (fun _ => ⟨_, rfl⟩), f9, f10, f11⟩
            · simp only [List.getElem?_cons_zero, List.getElem?_cons_succ, Option.some.injEq] at ho
              subst ho
              clear hi'
              have d6 : D 6 = true := hdep ⟨6, Ground.data⟩ (by simp) rfl
              have d8 : D 8 = true := hdep ⟨8, Ground.data⟩ (by simp) rfl
              clear hdep
              have hI := hJ
              obtain ⟨u, rfl⟩ := f6 d6
              obtain ⟨x, rfl⟩ := f8 d8
              obtain ⟨y, hy⟩ : ∃ y, IntKind.i64.wrap (u + x) = y := ⟨_, rfl⟩
              refine wpOp_step rfl (fun K hK => ?_)
              simp only [List.zip_cons_cons, List.zip_nil_right, puts]
              have Hf0 := Lib.hid f0
              have Hf1 := Lib.hid f1
              have Hf2 := Lib.hid f2
              have Hf3 := Lib.hid f3
              have Hf4 := Lib.hid f4
              have Hf5 := Lib.hid f5
              have Hf6 := Lib.hid f6
              have Hf7 := Lib.hid f7
              have Hf8 := Lib.hid f8
              have Hf9 := Lib.hid f9
              have Hf10 := Lib.hid f10
              have Hf11 := Lib.hid f11
              have HhK := Lib.hid hK
              have Hhd := Lib.hid hd
              have HhJ := Lib.hid hJ
              clear hd hK hJ f0 f1 f2 f3 f4 f5 f6 f7 f8 f9 f10 f11
              go_simp
              have f0 := Hf0.out
              have f1 := Hf1.out
              have f2 := Hf2.out
              have f3 := Hf3.out
              have f4 := Hf4.out
              have f5 := Hf5.out
              have f6 := Hf6.out
              have f7 := Hf7.out
              have f8 := Hf8.out
              have f9 := Hf9.out
              have f10 := Hf10.out
              have f11 := Hf11.out
              have hK := HhK.out
              have hd := Hhd.out
              have hJ := HhJ.out
              exact hK _ _ ⟨[u29, u30, u31, u32, u33, u34, (.int .i64 u), u36, (.int .i64 x), (.int .i64 y), u39, u40], rfl, by kernel_rfl, _, _, _, _, _, _, _, _, _, _, _, _, rfl, hI, f0, f1, f2, f3, f4, f5, f6, f7, f8, (fun _ => ⟨_, rfl⟩), f10, f11⟩
            · simp only [List.getElem?_cons_zero, List.getElem?_cons_succ, Option.some.injEq] at ho
              subst ho
              clear hi'
              have d0 : D 0 = true := hdep ⟨0, Ground.data⟩ (by simp) rfl
              have d1 : D 1 = true := hdep ⟨1, Ground.data⟩ (by simp) rfl
              clear hdep
              have hI := hJ
              obtain rfl := f0 d0
              obtain rfl := f1 d1
              refine wpOp_step rfl (fun K hK => ?_)
              simp only [List.zip_cons_cons, List.zip_nil_right, puts]
              have Hf0 := Lib.hid f0
              have Hf1 := Lib.hid f1
              have Hf2 := Lib.hid f2
              have Hf3 := Lib.hid f3
              have Hf4 := Lib.hid f4
              have Hf5 := Lib.hid f5
              have Hf6 := Lib.hid f6
              have Hf7 := Lib.hid f7
              have Hf8 := Lib.hid f8
              have Hf9 := Lib.hid f9
              have Hf10 := Lib.hid f10
              have Hf11 := Lib.hid f11
              have HhK := Lib.hid hK
              have Hhd := Lib.hid hd
              have HhJ := Lib.hid hJ
              clear hd hK hJ f0 f1 f2 f3 f4 f5 f6 f7 f8 f9 f10 f11
              go_simp
              have f0 := Hf0.out
              have f1 := Hf1.out
              have f2 := Hf2.out
              have f3 := Hf3.out
              have f4 := Hf4.out
              have f5 := Hf5.out
              have f6 := Hf6.out
              have f7 := Hf7.out
              have f8 := Hf8.out
              have f9 := Hf9.out
              have f10 := Hf10.out
              have f11 := Hf11.out
              have hK := HhK.out
              have hd := Hhd.out
              have hJ := HhJ.out
              exact hK _ _ ⟨[(.slice (some ⟨gb, 0, none⟩) n c), (.int .i64 k), u31, u32, u33, u34, u35, u36, u37, u38, (.pointer (some ⟨gb, k * 4, none⟩)), u40], rfl, by kernel_rfl, _, _, _, _, _, _, _, _, _, _, _, _, rfl, hI, (fun _ => rfl), (fun _ => rfl), f2, f3, f4, f5, f6, f7, f8, f9, (fun _ => rfl), f11⟩
            · simp only [List.getElem?_cons_zero, List.getElem?_cons_succ, Option.some.injEq] at ho
              subst ho
              clear hi'
              have d10 : D 10 = true := hdep ⟨10, Ground.data⟩ (by simp) rfl
              clear hdep
              have hI := hJ
              obtain rfl := f10 d10
              refine wpOp_step rfl (fun K hK => ?_)
              simp only [List.zip_cons_cons, List.zip_nil_right, puts]
              have Hf0 := Lib.hid f0
              have Hf1 := Lib.hid f1
              have Hf2 := Lib.hid f2
              have Hf3 := Lib.hid f3
              have Hf4 := Lib.hid f4
              have Hf5 := Lib.hid f5
              have Hf6 := Lib.hid f6
              have Hf7 := Lib.hid f7
              have Hf8 := Lib.hid f8
              have Hf9 := Lib.hid f9
              have Hf10 := Lib.hid f10
              have Hf11 := Lib.hid f11
              have HhK := Lib.hid hK
              have Hhd := Lib.hid hd
              have HhJ := Lib.hid hJ
              clear hd hK hJ f0 f1 f2 f3 f4 f5 f6 f7 f8 f9 f10 f11
              go_simp
              have f0 := Hf0.out
              have f1 := Hf1.out
              have f2 := Hf2.out
              have f3 := Hf3.out
              have f4 := Hf4.out
              have f5 := Hf5.out
              have f6 := Hf6.out
              have f7 := Hf7.out
              have f8 := Hf8.out
              have f9 := Hf9.out
              have f10 := Hf10.out
              have f11 := Hf11.out
              have hK := HhK.out
              have hd := Hhd.out
              have hJ := HhJ.out
              exact hK _ _ ⟨[u29, u30, u31, u32, u33, u34, u35, u36, u37, u38, (.pointer (some ⟨gb, k * 4, none⟩)), (.pointer (some ⟨gb, k * 4, none⟩))], rfl, by kernel_rfl, _, _, _, _, _, _, _, _, _, _, _, _, rfl, hI, f0, f1, f2, f3, f4, f5, f6, f7, f8, f9, (fun _ => rfl), (fun _ => rfl)⟩
            · simp only [List.getElem?_cons_zero, List.getElem?_cons_succ, Option.some.injEq] at ho
              subst ho
              clear hi'
              have d11 : D 11 = true := hdep ⟨11, Ground.data⟩ (by simp) rfl
              have d9 : D 9 = true := hdep ⟨9, Ground.data⟩ (by simp) rfl
              clear hdep
              have hI := hJ
              obtain rfl := f11 d11
              obtain ⟨y, rfl⟩ := f9 d9
              have hI0 := hI
              obtain ⟨kO, ⟨q, hp, rd⟩, L, hLn, ho⟩ := hI0
              obtain ⟨v0, hc0⟩ := ev_cell ho hLn hkn 0 (by decide)
              have fz := ev_free ho hLn hkn 0
              have lb' := ev_lt ho hLn hkn
              have hBg9 := rd.Bg
              simp only [Nat.add_zero] at hc0 fz
              refine wpOp_step rfl (fun K hK => ?_)
              simp only [List.zip_cons_cons, List.zip_nil_right, puts]
              have Hf0 := Lib.hid f0
              have Hf1 := Lib.hid f1
              have Hf2 := Lib.hid f2
              have Hf3 := Lib.hid f3
              have Hf4 := Lib.hid f4
              have Hf5 := Lib.hid f5
              have Hf6 := Lib.hid f6
              have Hf7 := Lib.hid f7
              have Hf8 := Lib.hid f8
              have Hf9 := Lib.hid f9
              have Hf10 := Lib.hid f10
              have Hf11 := Lib.hid f11
              have HhK := Lib.hid hK
              have Hhd := Lib.hid hd
              have HhJ := Lib.hid hJ
              clear hd hK hJ f0 f1 f2 f3 f4 f5 f6 f7 f8 f9 f10 f11
              go_simp
              have f0 := Hf0.out
              have f1 := Hf1.out
              have f2 := Hf2.out
              have f3 := Hf3.out
              have f4 := Hf4.out
              have f5 := Hf5.out
              have f6 := Hf6.out
              have f7 := Hf7.out
              have f8 := Hf8.out
              have f9 := Hf9.out
              have f10 := Hf10.out
              have f11 := Hf11.out
              have hK := HhK.out
              have hd := Hhd.out
              have hJ := HhJ.out
              exact hK _ _ ⟨[u29, u30, u31, u32, u33, u34, u35, u36, u37, (.int .i64 y), u39, (.pointer (some ⟨gb, k * 4, none⟩))], rfl, by kernel_rfl, _, _, _, _, _, _, _, _, _, _, _, _, rfl, ⟨kO.set (by simp only; omega) _, ⟨q, hp, rd.set (by simp only; omega) (by simp only; omega) _⟩, L.set k ⟨y, (atEv L k).off, (atEv L k).key, (atEv L k).loud⟩, by rw [List.length_set]; exact hLn, ev_store0 ho hLn hkn y⟩, f0, f1, f2, f3, f4, f5, f6, f7, f8, f9, f10, (fun _ => rfl)⟩
          · rintro D us W hu hall ⟨u29, u30, u31, u32, u33, u34, u35, u36, u37, u38, u39, u40, rfl, hJ, f0, f1, f2, f3, f4, f5, f6, f7, f8, f9, f10, f11⟩
            have d0 : D 0 = true := hall 0 (by simp)
            have d1 : D 1 = true := hall 1 (by simp)
            have d2 : D 2 = true := hall 2 (by simp)
            have d3 : D 3 = true := hall 3 (by simp)
            have d4 : D 4 = true := hall 4 (by simp)
            have d5 : D 5 = true := hall 5 (by simp)
            have d6 : D 6 = true := hall 6 (by simp)
            have d7 : D 7 = true := hall 7 (by simp)
            have d8 : D 8 = true := hall 8 (by simp)
            have d9 : D 9 = true := hall 9 (by simp)
            have d10 : D 10 = true := hall 10 (by simp)
            have d11 : D 11 = true := hall 11 (by simp)
            have d12 : D 12 = true := hall 12 (by simp)
            have hI := hJ
            clear hJ
            obtain ⟨kW, ⟨q6, hq6, r6⟩, L, hLn, ho⟩ := hI
            have a5 := Bool.toNat_le (D 8)
            clear f0 f1 f2 f3 f4 f5 f6 f7 f8 f9 f10 f11 d0 d1 d2 d3 d4 d5 d6 d7 d8 d9 d10 d11 d12 hall hu
            simp only [List.zip_cons_cons, List.zip_nil_right, puts]
            go_simp
            apply_assumption
            go_meet
            exact ⟨L, hLn, ho, kW, q6, by omega, r6⟩
        case rest =>
          obtain ⟨L2, hL2, hown2, hk2, q2, hq2, r2⟩ := hcut
          obtain ⟨ws, hws⟩ : ∃ z : World, z = wc := ⟨_, rfl⟩
          rw [← hws] at hown2 hk2 r2 ⊢
          clear hws hown hkO r9
          go_upto_region 7 with fail
          refine region_slots (by kernel_rfl) (by kernel_rfl) [41, 42, 43, 44, 45, 46, 47, 48, 49, 50, 51, 52, 53, 54, 55, 56, 57, 58, 59] (fun D us W => ∃ u41 u42 u43 u44 u45 u46 u47 u48 u49 u50 u51 u52 u53 u54 u55 u56 u57 u58 u59 : Value, us = [u41, u42, u43, u44, u45, u46, u47, u48, u49, u50, u51, u52, u53, u54, u55, u56, u57, u58, u59] ∧ (Onb g wP W ∧ (∃ q : Nat, q ≤ q2 + (D 14).toNat ∧ Rd W g B A len cap q) ∧ ∃ L : List Ev, L.length = n ∧ W.ownsRow LO 28 4 (.slice (some ⟨gb, 0, none⟩) n c) n (flat csEv L)) ∧ (D 0 = true → u41 = .slice (some ⟨gb, 0, none⟩) n c) ∧ (D 1 = true → u42 = .int .i64 k) ∧ (D 2 = true → u43 = .slice (some ⟨gb, 0, none⟩) n c) ∧ (D 3 = true → u44 = .int .i64 k) ∧ (D 4 = true → u45 = .pointer (some ⟨gb, k * 4, none⟩)) ∧ (D 5 = true → u46 = .pointer (some ⟨gb, k * 4, none⟩)) ∧ (D 6 = true → (∃ y : Int, u47 = .int .i64 y)) ∧ (D 7 = true → (∃ y : Int, u48 = .int .i64 y)) ∧ (D 8 = true → u49 = .slice (some ⟨gb, 0, none⟩) n c) ∧ (D 9 = true → u50 = .int .i64 k) ∧ (D 10 = true → u51 = .pointer (some ⟨gb, k * 4, none⟩)) ∧ (D 11 = true → u52 = .pointer (some ⟨gb, k * 4 + 1, none⟩)) ∧ (D 12 = true → (∃ y : Int, u53 = .int .i64 y)) ∧ (D 13 = true → u54 = .pointer (some ⟨g, 0, none⟩)) ∧ (D 14 = true → (∃ y : Int, u55 = .int .i64 y)) ∧ (D 15 = true → (∃ y : Int, u56 = .int .i64 y)) ∧ (D 16 = true → (∃ y : Int, u57 = .int .i64 y)) ∧ (D 17 = true → u58 = .pointer (some ⟨gb, k * 4, none⟩)) ∧ (D 18 = true → u59 = .pointer (some ⟨gb, k * 4 + 1, none⟩))) ?_ ?_ ?_
          · intro us hu
            obtain ⟨u41, u42, u43, u44, u45, u46, u47, u48, u49, u50, u51, u52, u53, u54, u55, u56, u57, u58, u59, rfl⟩ : ∃ u41 u42 u43 u44 u45 u46 u47 u48 u49 u50 u51 u52 u53 u54 u55 u56 u57 u58 u59, us = [u41, u42, u43, u44, u45, u46, u47, u48, u49, u50, u51, u52, u53, u54, u55, u56, u57, u58, u59] := by
              match us, hu with
              | [u41, u42, u43, u44, u45, u46, u47, u48, u49, u50, u51, u52, u53, u54, u55, u56, u57, u58, u59], _ => exact ⟨_, _, _, _, _, _, _, _, _, _, _, _, _, _, _, _, _, _, _, rfl⟩
            exact ⟨_, _, _, _, _, _, _, _, _, _, _, _, _, _, _, _, _, _, _, rfl, ⟨hk2.drew, ⟨q2, by omega, r2.drew⟩, L2, hL2, own_below hown2 (bel_dr (bel_refl _))⟩, fun h => absurd h (by simp), fun h => absurd h (by simp), fun h => absurd h (by simp), fun h => absurd h (by simp), fun h => absurd h (by simp), fun h => absurd h (by simp), fun h => absurd h (by simp), fun h => absurd h (by simp), fun h => absurd h (by simp), fun h => absurd h (by simp), fun h => absurd h (by simp), fun h => absurd h (by simp), fun h => absurd h (by simp), fun h => absurd h (by simp), fun h => absurd h (by simp), fun h => absurd h (by simp), fun h => absurd h (by simp), fun h => absurd h (by simp), fun h => absurd h (by simp)⟩
          · rintro i o hi ho D us W hu hd hdep ⟨u41, u42, u43, u44, u45, u46, u47, u48, u49, u50, u51, u52, u53, u54, u55, u56, u57, u58, u59, rfl, hJ, f0, f1, f2, f3, f4, f5, f6, f7, f8, f9, f10, f11, f12, f13, f14, f15, f16, f17, f18⟩
            have hi' : i < 20 := by simpa using hi
            clear hi hu
            rcases (show i = 0 ∨ i = 1 ∨ i = 2 ∨ i = 3 ∨ i = 4 ∨ i = 5 ∨ i = 6 ∨ i = 7 ∨ i = 8 ∨ i = 9 ∨ i = 10 ∨ i = 11 ∨ i = 12 ∨ i = 13 ∨ i = 14 ∨ i = 15 ∨ i = 16 ∨ i = 17 ∨ i = 18 ∨ i = 19 from by omega) with rfl | rfl | rfl | rfl | rfl | rfl | rfl | rfl | rfl | rfl | rfl | rfl | rfl | rfl | rfl | rfl | rfl | rfl | rfl | rfl
            · simp only [List.getElem?_cons_zero, List.getElem?_cons_succ, Option.some.injEq] at ho
              subst ho
              clear hi'
              clear hdep
              have hI := hJ
              refine wpOp_step rfl (fun K hK => ?_)
              simp only [List.zip_cons_cons, List.zip_nil_right, puts]
              have Hf0 := Lib.hid f0
              have Hf1 := Lib.hid f1
              have Hf2 := Lib.hid f2
              have Hf3 := Lib.hid f3
              have Hf4 := Lib.hid f4
              have Hf5 := Lib.hid f5
              have Hf6 := Lib.hid f6
              have Hf7 := Lib.hid f7
              have Hf8 := Lib.hid f8
              have Hf9 := Lib.hid f9
              have Hf10 := Lib.hid f10
              have Hf11 := Lib.hid f11
              have Hf12 := Lib.hid f12
              have Hf13 := Lib.hid f13
              have Hf14 := Lib.hid f14
              have Hf15 := Lib.hid f15
              have Hf16 := Lib.hid f16
              have Hf17 := Lib.hid f17
              have Hf18 := Lib.hid f18
              have HhK := Lib.hid hK
              have Hhd := Lib.hid hd
              have HhJ := Lib.hid hJ
              clear hd hK hJ f0 f1 f2 f3 f4 f5 f6 f7 f8 f9 f10 f11 f12 f13 f14 f15 f16 f17 f18
              go_simp
              have f0 := Hf0.out
              have f1 := Hf1.out
              have f2 := Hf2.out
              have f3 := Hf3.out
              have f4 := Hf4.out
              have f5 := Hf5.out
              have f6 := Hf6.out
              have f7 := Hf7.out
              have f8 := Hf8.out
              have f9 := Hf9.out
              have f10 := Hf10.out
              have f11 := Hf11.out
              have f12 := Hf12.out
              have f13 := Hf13.out
              have f14 := Hf14.out
              have f15 := Hf15.out
              have f16 := Hf16.out
              have f17 := Hf17.out
              have f18 := Hf18.out
              have hK := HhK.out
              have hd := Hhd.out
              have hJ := HhJ.out
              exact hK _ _ ⟨[(.slice (some ⟨gb, 0, none⟩) n c), u42, u43, u44, u45, u46, u47, u48, u49, u50, u51, u52, u53, u54, u55, u56, u57, u58, u59], rfl, by kernel_rfl, _, _, _, _, _, _, _, _, _, _, _, _, _, _, _, _, _, _, _, rfl, hI, (fun _ => rfl), f1, f2, f3, f4, f5, f6, f7, f8, f9, f10, f11, f12, f13, f14, f15, f16, f17, f18⟩
            · simp only [List.getElem?_cons_zero, List.getElem?_cons_succ, Option.some.injEq] at ho
              subst ho
              clear hi'
              clear hdep
              have hI := hJ
              refine wpOp_step rfl (fun K hK => ?_)
              simp only [List.zip_cons_cons, List.zip_nil_right, puts]
              have Hf0 := Lib.hid f0
              have Hf1 := Lib.hid f1
              have Hf2 := Lib.hid f2
              have Hf3 := Lib.hid f3
              have Hf4 := Lib.hid f4
              have Hf5 := Lib.hid f5
              have Hf6 := Lib.hid f6
              have Hf7 := Lib.hid f7
              have Hf8 := Lib.hid f8
              have Hf9 := Lib.hid f9
              have Hf10 := Lib.hid f10
              have Hf11 := Lib.hid f11
              have Hf12 := Lib.hid f12
              have Hf13 := Lib.hid f13
              have Hf14 := Lib.hid f14
              have Hf15 := Lib.hid f15
              have Hf16 := Lib.hid f16
              have Hf17 := Lib.hid f17
              have Hf18 := Lib.hid f18
              have HhK := Lib.hid hK
              have Hhd := Lib.hid hd
              have HhJ := Lib.hid hJ
              clear hd hK hJ f0 f1 f2 f3 f4 f5 f6 f7 f8 f9 f10 f11 f12 f13 f14 f15 f16 f17 f18
              go_simp
              have f0 := Hf0.out
              have f1 := Hf1.out
              have f2 := Hf2.out
              have f3 := Hf3.out
              have f4 := Hf4.out
              have f5 := Hf5.out
              have f6 := Hf6.out
              have f7 := Hf7.out
              have f8 := Hf8.out
              have f9 := Hf9.out
              have f10 := Hf10.out
              have f11 := Hf11.out
              have f12 := Hf12.out
              have f13 := Hf13.out
              have f14 := Hf14.out
              have f15 := Hf15.out
              have f16 := Hf16.out
              have f17 := Hf17.out
              have f18 := Hf18.out
              have hK := HhK.out
              have hd := Hhd.out
              have hJ := HhJ.out
              exact hK _ _ ⟨[u41, (.int .i64 k), u43, u44, u45, u46, u47, u48, u49, u50, u51, u52, u53, u54, u55, u56, u57, u58, u59], rfl, by kernel_rfl, _, _, _, _, _, _, _, _, _, _, _, _, _, _, _, _, _, _, _, rfl, hI, f0, (fun _ => rfl), f2, f3, f4, f5, f6, f7, f8, f9, f10, f11, f12, f13, f14, f15, f16, f17, f18⟩
            · simp only [List.getElem?_cons_zero, List.getElem?_cons_succ, Option.some.injEq] at ho
              subst ho
              clear hi'
              clear hdep
              have hI := hJ
              refine wpOp_step rfl (fun K hK => ?_)
              simp only [List.zip_cons_cons, List.zip_nil_right, puts]
              have Hf0 := Lib.hid f0
              have Hf1 := Lib.hid f1
              have Hf2 := Lib.hid f2
              have Hf3 := Lib.hid f3
              have Hf4 := Lib.hid f4
              have Hf5 := Lib.hid f5
              have Hf6 := Lib.hid f6
              have Hf7 := Lib.hid f7
              have Hf8 := Lib.hid f8
              have Hf9 := Lib.hid f9
              have Hf10 := Lib.hid f10
              have Hf11 := Lib.hid f11
              have Hf12 := Lib.hid f12
              have Hf13 := Lib.hid f13
              have Hf14 := Lib.hid f14
              have Hf15 := Lib.hid f15
              have Hf16 := Lib.hid f16
              have Hf17 := Lib.hid f17
              have Hf18 := Lib.hid f18
              have HhK := Lib.hid hK
              have Hhd := Lib.hid hd
              have HhJ := Lib.hid hJ
              clear hd hK hJ f0 f1 f2 f3 f4 f5 f6 f7 f8 f9 f10 f11 f12 f13 f14 f15 f16 f17 f18
              go_simp
              have f0 := Hf0.out
              have f1 := Hf1.out
              have f2 := Hf2.out
              have f3 := Hf3.out
              have f4 := Hf4.out
              have f5 := Hf5.out
              have f6 := Hf6.out
              have f7 := Hf7.out
              have f8 := Hf8.out
              have f9 := Hf9.out
              have f10 := Hf10.out
              have f11 := Hf11.out
              have f12 := Hf12.out
              have f13 := Hf13.out
              have f14 := Hf14.out
              have f15 := Hf15.out
              have f16 := Hf16.out
              have f17 := Hf17.out
              have f18 := Hf18.out
              have hK := HhK.out
              have hd := Hhd.out
              have hJ := HhJ.out
              exact hK _ _ ⟨[u41, u42, (.slice (some ⟨gb, 0, none⟩) n c), u44, u45, u46, u47, u48, u49, u50, u51, u52, u53, u54, u55, u56, u57, u58, u59], rfl, by kernel_rfl, _, _, _, _, _, _, _, _, _, _, _, _, _, _, _, _, _, _, _, rfl, hI, f0, f1, (fun _ => rfl), f3, f4, f5, f6, f7, f8, f9, f10, f11, f12, f13, f14, f15, f16, f17, f18⟩
            · simp only [List.getElem?_cons_zero, List.getElem?_cons_succ, Option.some.injEq] at ho
              subst ho
              clear hi'
              clear hdep
              have hI := hJ
              refine wpOp_step rfl (fun K hK => ?_)
              simp only [List.zip_cons_cons, List.zip_nil_right, puts]
              have Hf0 := Lib.hid f0
              have Hf1 := Lib.hid f1
              have Hf2 := Lib.hid f2
              have Hf3 := Lib.hid f3
              have Hf4 := Lib.hid f4
              have Hf5 := Lib.hid f5
              have Hf6 := Lib.hid f6
              have Hf7 := Lib.hid f7
              have Hf8 := Lib.hid f8
              have Hf9 := Lib.hid f9
              have Hf10 := Lib.hid f10
              have Hf11 := Lib.hid f11
              have Hf12 := Lib.hid f12
              have Hf13 := Lib.hid f13
              have Hf14 := Lib.hid f14
              have Hf15 := Lib.hid f15
              have Hf16 := Lib.hid f16
              have Hf17 := Lib.hid f17
              have Hf18 := Lib.hid f18
              have HhK := Lib.hid hK
              have Hhd := Lib.hid hd
              have HhJ := Lib.hid hJ
              clear hd hK hJ f0 f1 f2 f3 f4 f5 f6 f7 f8 f9 f10 f11 f12 f13 f14 f15 f16 f17 f18
              go_simp
              have f0 := Hf0.out
              have f1 := Hf1.out
              have f2 := Hf2.out
              have f3 := Hf3.out
              have f4 := Hf4.out
              have f5 := Hf5.out
              have f6 := Hf6.out
              have f7 := Hf7.out
              have f8 := Hf8.out
              have f9 := Hf9.out
              have f10 := Hf10.out
              have f11 := Hf11.out
              have f12 := Hf12.out
              have f13 := Hf13.out
              have f14 := Hf14.out
              have f15 := Hf15.out
              have f16 := Hf16.out
              have f17 := Hf17.out
              have f18 := Hf18.out
              have hK := HhK.out
              have hd := Hhd.out
              have hJ := HhJ.out
              exact hK _ _ ⟨[u41, u42, u43, (.int .i64 k), u45, u46, u47, u48, u49, u50, u51, u52, u53, u54, u55, u56, u57, u58, u59], rfl, by kernel_rfl, _, _, _, _, _, _, _, _, _, _, _, _, _, _, _, _, _, _, _, rfl, hI, f0, f1, f2, (fun _ => rfl), f4, f5, f6, f7, f8, f9, f10, f11, f12, f13, f14, f15, f16, f17, f18⟩
            · simp only [List.getElem?_cons_zero, List.getElem?_cons_succ, Option.some.injEq] at ho
              subst ho
              clear hi'
              have d2 : D 2 = true := hdep ⟨2, Ground.data⟩ (by simp) rfl
              have d3 : D 3 = true := hdep ⟨3, Ground.data⟩ (by simp) rfl
              clear hdep
              have hI := hJ
              obtain rfl := f2 d2
              obtain rfl := f3 d3
              refine wpOp_step rfl (fun K hK => ?_)
              simp only [List.zip_cons_cons, List.zip_nil_right, puts]
              have Hf0 := Lib.hid f0
              have Hf1 := Lib.hid f1
              have Hf2 := Lib.hid f2
              have Hf3 := Lib.hid f3
              have Hf4 := Lib.hid f4
              have Hf5 := Lib.hid f5
              have Hf6 := Lib.hid f6
              have Hf7 := Lib.hid f7
              have Hf8 := Lib.hid f8
              have Hf9 := Lib.hid f9
              have Hf10 := Lib.hid f10
              have Hf11 := Lib.hid f11
              have Hf12 := Lib.hid f12
              have Hf13 := Lib.hid f13
              have Hf14 := Lib.hid f14
              have Hf15 := Lib.hid f15
              have Hf16 := Lib.hid f16
              have Hf17 := Lib.hid f17
              have Hf18 := Lib.hid f18
              have HhK := Lib.hid hK
              have Hhd := Lib.hid hd
              have HhJ := Lib.hid hJ
              clear hd hK hJ f0 f1 f2 f3 f4 f5 f6 f7 f8 f9 f10 f11 f12 f13 f14 f15 f16 f17 f18
              go_simp
              have f0 := Hf0.out
              have f1 := Hf1.out
              have f2 := Hf2.out
              have f3 := Hf3.out
              have f4 := Hf4.out
              have f5 := Hf5.out
              have f6 := Hf6.out
              have f7 := Hf7.out
              have f8 := Hf8.out
              have f9 := Hf9.out
              have f10 := Hf10.out
              have f11 := Hf11.out
              have f12 := Hf12.out
              have f13 := Hf13.out
              have f14 := Hf14.out
              have f15 := Hf15.out
              have f16 := Hf16.out
              have f17 := Hf17.out
              have f18 := Hf18.out
              have hK := HhK.out
              have hd := Hhd.out
              have hJ := HhJ.out
              exact hK _ _ ⟨[u41, u42, (.slice (some ⟨gb, 0, none⟩) n c), (.int .i64 k), (.pointer (some ⟨gb, k * 4, none⟩)), u46, u47, u48, u49, u50, u51, u52, u53, u54, u55, u56, u57, u58, u59], rfl, by kernel_rfl, _, _, _, _, _, _, _, _, _, _, _, _, _, _, _, _, _, _, _, rfl, hI, f0, f1, (fun _ => rfl), (fun _ => rfl), (fun _ => rfl), f5, f6, f7, f8, f9, f10, f11, f12, f13, f14, f15, f16, f17, f18⟩
            · simp only [List.getElem?_cons_zero, List.getElem?_cons_succ, Option.some.injEq] at ho
              subst ho
              clear hi'
              have d4 : D 4 = true := hdep ⟨4, Ground.data⟩ (by simp) rfl
              clear hdep
              have hI := hJ
              obtain rfl := f4 d4
              refine wpOp_step rfl (fun K hK => ?_)
              simp only [List.zip_cons_cons, List.zip_nil_right, puts]
              have Hf0 := Lib.hid f0
              have Hf1 := Lib.hid f1
              have Hf2 := Lib.hid f2
              have Hf3 := Lib.hid f3
              have Hf4 := Lib.hid f4
              have Hf5 := Lib.hid f5
              have Hf6 := Lib.hid f6
              have Hf7 := Lib.hid f7
              have Hf8 := Lib.hid f8
              have Hf9 := Lib.hid f9
              have Hf10 := Lib.hid f10
              have Hf11 := Lib.hid f11
              have Hf12 := Lib.hid f12
              have Hf13 := Lib.hid f13
              have Hf14 := Lib.hid f14
              have Hf15 := Lib.hid f15
              have Hf16 := Lib.hid f16
              have Hf17 := Lib.hid f17
              have Hf18 := Lib.hid f18
              have HhK := Lib.hid hK
              have Hhd := Lib.hid hd
              have HhJ := Lib.hid hJ
              clear hd hK hJ f0 f1 f2 f3 f4 f5 f6 f7 f8 f9 f10 f11 f12 f13 f14 f15 f16 f17 f18
              go_simp
              have f0 := Hf0.out
              have f1 := Hf1.out
              have f2 := Hf2.out
              have f3 := Hf3.out
              have f4 := Hf4.out
              have f5 := Hf5.out
              have f6 := Hf6.out
              have f7 := Hf7.out
              have f8 := Hf8.out
              have f9 := Hf9.out
              have f10 := Hf10.out
              have f11 := Hf11.out
              have f12 := Hf12.out
              have f13 := Hf13.out
              have f14 := Hf14.out
              have f15 := Hf15.out
              have f16 := Hf16.out
              have f17 := Hf17.out
              have f18 := Hf18.out
              have hK := HhK.out
              have hd := Hhd.out
              have hJ := HhJ.out
              exact hK _ _ ⟨[u41, u42, u43, u44, (.pointer (some ⟨gb, k * 4, none⟩)), (.pointer (some ⟨gb, k * 4, none⟩)), u47, u48, u49, u50, u51, u52, u53, u54, u55, u56, u57, u58, u59], rfl, by kernel_rfl, _, _, _, _, _, _, _, _, _, _, _, _, _, _, _, _, _, _, _, rfl, hI, f0, f1, f2, f3, (fun _ => rfl), (fun _ => rfl), f6, f7, f8, f9, f10, f11, f12, f13, f14, f15, f16, f17, f18⟩
            · simp only [List.getElem?_cons_zero, List.getElem?_cons_succ, Option.some.injEq] at ho
              subst ho
              clear hi'
              have d5 : D 5 = true := hdep ⟨5, Ground.data⟩ (by simp) rfl
              clear hdep
              have hI := hJ
              obtain rfl := f5 d5
              have hI0 := hI
              obtain ⟨kO, ⟨q, hp, rd⟩, L, hLn, ho⟩ := hI0
              obtain ⟨v0, hc0⟩ := ev_cell ho hLn hkn 0 (by decide)
              simp only [Nat.add_zero] at hc0
              refine wpOp_step rfl (fun K hK => ?_)
              simp only [List.zip_cons_cons, List.zip_nil_right, puts]
              have Hf0 := Lib.hid f0
              have Hf1 := Lib.hid f1
              have Hf2 := Lib.hid f2
              have Hf3 := Lib.hid f3
              have Hf4 := Lib.hid f4
              have Hf5 := Lib.hid f5
              have Hf6 := Lib.hid f6
              have Hf7 := Lib.hid f7
              have Hf8 := Lib.hid f8
              have Hf9 := Lib.hid f9
              have Hf10 := Lib.hid f10
              have Hf11 := Lib.hid f11
              have Hf12 := Lib.hid f12
              have Hf13 := Lib.hid f13
              have Hf14 := Lib.hid f14
              have Hf15 := Lib.hid f15
              have Hf16 := Lib.hid f16
              have Hf17 := Lib.hid f17
              have Hf18 := Lib.hid f18
              have HhK := Lib.hid hK
              have Hhd := Lib.hid hd
              have HhJ := Lib.hid hJ
              clear hd hK hJ f0 f1 f2 f3 f4 f5 f6 f7 f8 f9 f10 f11 f12 f13 f14 f15 f16 f17 f18
              go_simp
              have f0 := Hf0.out
              have f1 := Hf1.out
              have f2 := Hf2.out
              have f3 := Hf3.out
              have f4 := Hf4.out
              have f5 := Hf5.out
              have f6 := Hf6.out
              have f7 := Hf7.out
              have f8 := Hf8.out
              have f9 := Hf9.out
              have f10 := Hf10.out
              have f11 := Hf11.out
              have f12 := Hf12.out
              have f13 := Hf13.out
              have f14 := Hf14.out
              have f15 := Hf15.out
              have f16 := Hf16.out
              have f17 := Hf17.out
              have f18 := Hf18.out
              have hK := HhK.out
              have hd := Hhd.out
              have hJ := HhJ.out
              exact hK _ _ ⟨[u41, u42, u43, u44, u45, (.pointer (some ⟨gb, k * 4, none⟩)), (.int .i64 v0), u48, u49, u50, u51, u52, u53, u54, u55, u56, u57, u58, u59], rfl, by kernel_rfl, _, _, _, _, _, _, _, _, _, _, _, _, _, _, _, _, _, _, _, rfl, hI, f0, f1, f2, f3, f4, (fun _ => rfl), (fun _ => ⟨_, rfl⟩), f7, f8, f9, f10, f11, f12, f13, f14, f15, f16, f17, f18⟩
            · simp only [List.getElem?_cons_zero, List.getElem?_cons_succ, Option.some.injEq] at ho
              subst ho
              clear hi'
              have d6 : D 6 = true := hdep ⟨6, Ground.data⟩ (by simp) rfl
              clear hdep
              have hI := hJ
              obtain ⟨u, rfl⟩ := f6 d6
              obtain ⟨y, hy⟩ : ∃ y, IntKind.i64.wrap (u + 1) = y := ⟨_, rfl⟩
              refine wpOp_step rfl (fun K hK => ?_)
              simp only [List.zip_cons_cons, List.zip_nil_right, puts]
              have Hf0 := Lib.hid f0
              have Hf1 := Lib.hid f1
              have Hf2 := Lib.hid f2
              have Hf3 := Lib.hid f3
              have Hf4 := Lib.hid f4
              have Hf5 := Lib.hid f5
              have Hf6 := Lib.hid f6
              have Hf7 := Lib.hid f7
              have Hf8 := Lib.hid f8
              have Hf9 := Lib.hid f9
              have Hf10 := Lib.hid f10
              have Hf11 := Lib.hid f11
              have Hf12 := Lib.hid f12
              have Hf13 := Lib.hid f13
              have Hf14 := Lib.hid f14
              have Hf15 := Lib.hid f15
              have Hf16 := Lib.hid f16
              have Hf17 := Lib.hid f17
              have Hf18 := Lib.hid f18
              have HhK := Lib.hid hK
              have Hhd := Lib.hid hd
              have HhJ := Lib.hid hJ
              clear hd hK hJ f0 f1 f2 f3 f4 f5 f6 f7 f8 f9 f10 f11 f12 f13 f14 f15 f16 f17 f18
              go_simp
              have f0 := Hf0.out
              have f1 := Hf1.out
              have f2 := Hf2.out
              have f3 := Hf3.out
              have f4 := Hf4.out
              have f5 := Hf5.out
              have f6 := Hf6.out
              have f7 := Hf7.out
              have f8 := Hf8.out
              have f9 := Hf9.out
              have f10 := Hf10.out
              have f11 := Hf11.out
              have f12 := Hf12.out
              have f13 := Hf13.out
              have f14 := Hf14.out
              have f15 := Hf15.out
              have f16 := Hf16.out
              have f17 := Hf17.out
              have f18 := Hf18.out
              have hK := HhK.out
              have hd := Hhd.out
              have hJ := HhJ.out
              exact hK _ _ ⟨[u41, u42, u43, u44, u45, u46, (.int .i64 u), (.int .i64 y), u49, u50, u51, u52, u53, u54, u55, u56, u57, u58, u59], rfl, by kernel_rfl, _, _, _, _, _, _, _, _, _, _, _, _, _, _, _, _, _, _, _, rfl, hI, f0, f1, f2, f3, f4, f5, f6, (fun _ => ⟨_, rfl⟩), f8, f9, f10, f11, f12, f13, f14, f15, f16, f17, f18⟩
            · simp only [List.getElem?_cons_zero, List.getElem?_cons_succ, Option.some.injEq] at ho
              subst ho
              clear hi'
              clear hdep
              have hI := hJ
              refine wpOp_step rfl (fun K hK => ?_)
              simp only [List.zip_cons_cons, List.zip_nil_right, puts]
              have Hf0 := Lib.hid f0
              have Hf1 := Lib.hid f1
              have Hf2 := Lib.hid f2
              have Hf3 := Lib.hid f3
              have Hf4 := Lib.hid f4
              have Hf5 := Lib.hid f5
              have Hf6 := Lib.hid f6
              have Hf7 := Lib.hid f7
              have Hf8 := Lib.hid f8
              have Hf9 := Lib.hid f9
              have Hf10 := Lib.hid f10
              have Hf11 := Lib.hid f11
              have Hf12 := Lib.hid f12
              have Hf13 := Lib.hid f13
              have Hf14 := Lib.hid f14
              have Hf15 := Lib.hid f15
              have Hf16 := Lib.hid f16
              have Hf17 := Lib.hid f17
              have Hf18 := Lib.hid f18
              have HhK := Lib.hid hK
              have Hhd := Lib.hid hd
              have HhJ := Lib.hid hJ
              clear hd hK hJ f0 f1 f2 f3 f4 f5 f6 f7 f8 f9 f10 f11 f12 f13 f14 f15 f16 f17 f18
              go_simp
              have f0 := Hf0.out
              have f1 := Hf1.out
              have f2 := Hf2.out
              have f3 := Hf3.out
              have f4 := Hf4.out
              have f5 := Hf5.out
              have f6 := Hf6.out
              have f7 := Hf7.out
              have f8 := Hf8.out
              have f9 := Hf9.out
              have f10 := Hf10.out
              have f11 := Hf11.out
              have f12 := Hf12.out
              have f13 := Hf13.out
              have f14 := Hf14.out
              have f15 := Hf15.out
              have f16 := Hf16.out
              have f17 := Hf17.out
              have f18 := Hf18.out
              have hK := HhK.out
              have hd := Hhd.out
              have hJ := HhJ.out
              exact hK _ _ ⟨[u41, u42, u43, u44, u45, u46, u47, u48, (.slice (some ⟨gb, 0, none⟩) n c), u50, u51, u52, u53, u54, u55, u56, u57, u58, u59], rfl, by kernel_rfl, _, _, _, _, _, _, _, _, _, _, _, _, _, _, _, _, _, _, _, rfl, hI, f0, f1, f2, f3, f4, f5, f6, f7, (fun _ => rfl), f9, f10, f11, f12, f13, f14, f15, f16, f17, f18⟩
            · simp only [List.getElem?_cons_zero, List.getElem?_cons_succ, Option.some.injEq] at ho
              subst ho
              clear hi'
              clear hdep
              have hI := hJ
              refine wpOp_step rfl (fun K hK => ?_)
              simp only [List.zip_cons_cons, List.zip_nil_right, puts]
              have Hf0 := Lib.hid f0
              have Hf1 := Lib.hid f1
              have Hf2 := Lib.hid f2
              have Hf3 := Lib.hid f3
              have Hf4 := Lib.hid f4
              have Hf5 := Lib.hid f5
              have Hf6 := Lib.hid f6
              have Hf7 := Lib.hid f7
              have Hf8 := Lib.hid f8
              have Hf9 := Lib.hid f9
              have Hf10 := Lib.hid f10
              have Hf11 := Lib.hid f11
              have Hf12 := Lib.hid f12
              have Hf13 := Lib.hid f13
              have Hf14 := Lib.hid f14
              have Hf15 := Lib.hid f15
              have Hf16 := Lib.hid f16
              have Hf17 := Lib.hid f17
              have Hf18 := Lib.hid f18
              have HhK := Lib.hid hK
              have Hhd := Lib.hid hd
              have HhJ := Lib.hid hJ
              clear hd hK hJ f0 f1 f2 f3 f4 f5 f6 f7 f8 f9 f10 f11 f12 f13 f14 f15 f16 f17 f18
              go_simp
              have f0 := Hf0.out
              have f1 := Hf1.out
              have f2 := Hf2.out
              have f3 := Hf3.out
              have f4 := Hf4.out
              have f5 := Hf5.out
              have f6 := Hf6.out
              have f7 := Hf7.out
              have f8 := Hf8.out
              have f9 := Hf9.out
              have f10 := Hf10.out
              have f11 := Hf11.out
              have f12 := Hf12.out
              have f13 := Hf13.out
              have f14 := Hf14.out
              have f15 := Hf15.out
              have f16 := Hf16.out
              have f17 := Hf17.out
              have f18 := Hf18.out
              have hK := HhK.out
              have hd := Hhd.out
              have hJ := HhJ.out
              exact hK _ _ ⟨[u41, u42, u43, u44, u45, u46, u47, u48, u49, (.int .i64 k), u51, u52, u53, u54, u55, u56, u57, u58, u59], rfl, by kernel_rfl, _, _, _, _, _, _, _, _, _, _, _, _, _, _, _, _, _, _, _, rfl, hI, f0, f1, f2, f3, f4, f5, f6, f7, f8, (fun _ => rfl), f10, f11, f12, f13, f14, f15, f16, f17, f18⟩
            · simp only [List.getElem?_cons_zero, List.getElem?_cons_succ, Option.some.injEq] at ho
              subst ho
              clear hi'
              have d8 : D 8 = true := hdep ⟨8, Ground.data⟩ (by simp) rfl
              have d9 : D 9 = true := hdep ⟨9, Ground.data⟩ (by simp) rfl
              clear hdep
              have hI := hJ
              obtain rfl := f8 d8
              obtain rfl := f9 d9
              refine wpOp_step rfl (fun K hK => ?_)
              simp only [List.zip_cons_cons, List.zip_nil_right, puts]
              have Hf0 := Lib.hid f0
              have Hf1 := Lib.hid f1
              have Hf2 := Lib.hid f2
              have Hf3 := Lib.hid f3
              have Hf4 := Lib.hid f4
              have Hf5 := Lib.hid f5
              have Hf6 := Lib.hid f6
              have Hf7 := Lib.hid f7
              have Hf8 := Lib.hid f8
              have Hf9 := Lib.hid f9
              have Hf10 := Lib.hid f10
              have Hf11 := Lib.hid f11
              have Hf12 := Lib.hid f12
              have Hf13 := Lib.hid f13
              have Hf14 := Lib.hid f14
              have Hf15 := Lib.hid f15
              have Hf16 := Lib.hid f16
              have Hf17 := Lib.hid f17
              have Hf18 := Lib.hid f18
              have HhK := Lib.hid hK
              have Hhd := Lib.hid hd
              have HhJ := Lib.hid hJ
              clear hd hK hJ f0 f1 f2 f3 f4 f5 f6 f7 f8 f9 f10 f11 f12 f13 f14 f15 f16 f17 f18
              go_simp
              have f0 := Hf0.out
              have f1 := Hf1.out
              have f2 := Hf2.out
              have f3 := Hf3.out
              have f4 := Hf4.out
              have f5 := Hf5.out
              have f6 := Hf6.out
              have f7 := Hf7.out
              have f8 := Hf8.out
              have f9 := Hf9.out
              have f10 := Hf10.out
              have f11 := Hf11.out
              have f12 := Hf12.out
              have f13 := Hf13.out
              have f14 := Hf14.out
              have f15 := Hf15.out
              have f16 := Hf16.out
              have f17 := Hf17.out
              have f18 := Hf18.out
              have hK := HhK.out
              have hd := Hhd.out
              have hJ := HhJ.out
              exact hK _ _ ⟨[u41, u42, u43, u44, u45, u46, u47, u48, (.slice (some ⟨gb, 0, none⟩) n c), (.int .i64 k), (.pointer (some ⟨gb, k * 4, none⟩)), u52, u53, u54, u55, u56, u57, u58, u59], rfl, by kernel_rfl, _, _, _, _, _, _, _, _, _, _, _, _, _, _, _, _, _, _, _, rfl, hI, f0, f1, f2, f3, f4, f5, f6, f7, (fun _ => rfl), (fun _ => rfl), (fun _ => rfl), f11, f12, f13, f14, f15, f16, f17, f18⟩
            · simp only [List.getElem?_cons_zero, List.getElem?_cons_succ, Option.some.injEq] at ho
              subst ho
              clear hi'
              have d10 : D 10 = true := hdep ⟨10, Ground.data⟩ (by simp) rfl
              clear hdep
              have hI := hJ
              obtain rfl := f10 d10
              refine wpOp_step rfl (fun K hK => ?_)
              simp only [List.zip_cons_cons, List.zip_nil_right, puts]
              have Hf0 := Lib.hid f0
              have Hf1 := Lib.hid f1
              have Hf2 := Lib.hid f2
              have Hf3 := Lib.hid f3
              have Hf4 := Lib.hid f4
              have Hf5 := Lib.hid f5
              have Hf6 := Lib.hid f6
              have Hf7 := Lib.hid f7
              have Hf8 := Lib.hid f8
              have Hf9 := Lib.hid f9
              have Hf10 := Lib.hid f10
              have Hf11 := Lib.hid f11
              have Hf12 := Lib.hid f12
              have Hf13 := Lib.hid f13
              have Hf14 := Lib.hid f14
              have Hf15 := Lib.hid f15
              have Hf16 := Lib.hid f16
              have Hf17 := Lib.hid f17
              have Hf18 := Lib.hid f18
              have HhK := Lib.hid hK
              have Hhd := Lib.hid hd
              have HhJ := Lib.hid hJ
              clear hd hK hJ f0 f1 f2 f3 f4 f5 f6 f7 f8 f9 f10 f11 f12 f13 f14 f15 f16 f17 f18
              go_simp
              have f0 := Hf0.out
              have f1 := Hf1.out
              have f2 := Hf2.out
              have f3 := Hf3.out
              have f4 := Hf4.out
              have f5 := Hf5.out
              have f6 := Hf6.out
              have f7 := Hf7.out
              have f8 := Hf8.out
              have f9 := Hf9.out
              have f10 := Hf10.out
              have f11 := Hf11.out
              have f12 := Hf12.out
              have f13 := Hf13.out
              have f14 := Hf14.out
              have f15 := Hf15.out
              have f16 := Hf16.out
              have f17 := Hf17.out
              have f18 := Hf18.out
              have hK := HhK.out
              have hd := Hhd.out
              have hJ := HhJ.out
              exact hK _ _ ⟨[u41, u42, u43, u44, u45, u46, u47, u48, u49, u50, (.pointer (some ⟨gb, k * 4, none⟩)), (.pointer (some ⟨gb, k * 4 + 1, none⟩)), u53, u54, u55, u56, u57, u58, u59], rfl, by kernel_rfl, _, _, _, _, _, _, _, _, _, _, _, _, _, _, _, _, _, _, _, rfl, hI, f0, f1, f2, f3, f4, f5, f6, f7, f8, f9, (fun _ => rfl), (fun _ => rfl), f12, f13, f14, f15, f16, f17, f18⟩
            · simp only [List.getElem?_cons_zero, List.getElem?_cons_succ, Option.some.injEq] at ho
              subst ho
              clear hi'
              have d11 : D 11 = true := hdep ⟨11, Ground.data⟩ (by simp) rfl
              clear hdep
              have hI := hJ
              obtain rfl := f11 d11
              have hI0 := hI
              obtain ⟨kO, ⟨q, hp, rd⟩, L, hLn, ho⟩ := hI0
              obtain ⟨v0, hc0⟩ := ev_cell ho hLn hkn 1 (by decide)
              refine wpOp_step rfl (fun K hK => ?_)
              simp only [List.zip_cons_cons, List.zip_nil_right, puts]
              have Hf0 := Lib.hid f0
              have Hf1 := Lib.hid f1
              have Hf2 := Lib.hid f2
              have Hf3 := Lib.hid f3
              have Hf4 := Lib.hid f4
              have Hf5 := Lib.hid f5
              have Hf6 := Lib.hid f6
              have Hf7 := Lib.hid f7
              have Hf8 := Lib.hid f8
              have Hf9 := Lib.hid f9
              have Hf10 := Lib.hid f10
              have Hf11 := Lib.hid f11
              have Hf12 := Lib.hid f12
              have Hf13 := Lib.hid f13
              have Hf14 := Lib.hid f14
              have Hf15 := Lib.hid f15
              have Hf16 := Lib.hid f16
              have Hf17 := Lib.hid f17
              have Hf18 := Lib.hid f18
              have HhK := Lib.hid hK
              have Hhd := Lib.hid hd
              have HhJ := Lib.hid hJ
              clear hd hK hJ f0 f1 f2 f3 f4 f5 f6 f7 f8 f9 f10 f11 f12 f13 f14 f15 f16 f17 f18
              go_simp
              have f0 := Hf0.out
              have f1 := Hf1.out
              have f2 := Hf2.out
              have f3 := Hf3.out
              have f4 := Hf4.out
              have f5 := Hf5.out
              have f6 := Hf6.out
              have f7 := Hf7.out
              have f8 := Hf8.out
              have f9 := Hf9.out
              have f10 := Hf10.out
              have f11 := Hf11.out
              have f12 := Hf12.out
              have f13 := Hf13.out
              have f14 := Hf14.out
              have f15 := Hf15.out
              have f16 := Hf16.out
              have f17 := Hf17.out
              have f18 := Hf18.out
              have hK := HhK.out
              have hd := Hhd.out
              have hJ := HhJ.out
              exact hK _ _ ⟨[u41, u42, u43, u44, u45, u46, u47, u48, u49, u50, u51, (.pointer (some ⟨gb, k * 4 + 1, none⟩)), (.int .i64 v0), u54, u55, u56, u57, u58, u59], rfl, by kernel_rfl, _, _, _, _, _, _, _, _, _, _, _, _, _, _, _, _, _, _, _, rfl, hI, f0, f1, f2, f3, f4, f5, f6, f7, f8, f9, f10, (fun _ => rfl), (fun _ => ⟨_, rfl⟩), f13, f14, f15, f16, f17, f18⟩
            · simp only [List.getElem?_cons_zero, List.getElem?_cons_succ, Option.some.injEq] at ho
              subst ho
              clear hi'
              clear hdep
              have hI := hJ
              refine wpOp_step rfl (fun K hK => ?_)
              simp only [List.zip_cons_cons, List.zip_nil_right, puts]
              have Hf0 := Lib.hid f0
              have Hf1 := Lib.hid f1
              have Hf2 := Lib.hid f2
              have Hf3 := Lib.hid f3
              have Hf4 := Lib.hid f4
              have Hf5 := Lib.hid f5
              have Hf6 := Lib.hid f6
              have Hf7 := Lib.hid f7
              have Hf8 := Lib.hid f8
              have Hf9 := Lib.hid f9
              have Hf10 := Lib.hid f10
              have Hf11 := Lib.hid f11
              have Hf12 := Lib.hid f12
              have Hf13 := Lib.hid f13
              have Hf14 := Lib.hid f14
              have Hf15 := Lib.hid f15
              have Hf16 := Lib.hid f16
              have Hf17 := Lib.hid f17
              have Hf18 := Lib.hid f18
              have HhK := Lib.hid hK
              have Hhd := Lib.hid hd
              have HhJ := Lib.hid hJ
              clear hd hK hJ f0 f1 f2 f3 f4 f5 f6 f7 f8 f9 f10 f11 f12 f13 f14 f15 f16 f17 f18
              go_simp
              have f0 := Hf0.out
              have f1 := Hf1.out
              have f2 := Hf2.out
              have f3 := Hf3.out
              have f4 := Hf4.out
              have f5 := Hf5.out
              have f6 := Hf6.out
              have f7 := Hf7.out
              have f8 := Hf8.out
              have f9 := Hf9.out
              have f10 := Hf10.out
              have f11 := Hf11.out
              have f12 := Hf12.out
              have f13 := Hf13.out
              have f14 := Hf14.out
              have f15 := Hf15.out
              have f16 := Hf16.out
              have f17 := Hf17.out
              have f18 := Hf18.out
              have hK := HhK.out
              have hd := Hhd.out
              have hJ := HhJ.out
              exact hK _ _ ⟨[u41, u42, u43, u44, u45, u46, u47, u48, u49, u50, u51, u52, u53, (.pointer (some ⟨g, 0, none⟩)), u55, u56, u57, u58, u59], rfl, by kernel_rfl, _, _, _, _, _, _, _, _, _, _, _, _, _, _, _, _, _, _, _, rfl, hI, f0, f1, f2, f3, f4, f5, f6, f7, f8, f9, f10, f11, f12, (fun _ => rfl), f14, f15, f16, f17, f18⟩
            · simp only [List.getElem?_cons_zero, List.getElem?_cons_succ, Option.some.injEq] at ho
              subst ho
              clear hi'
              have d13 : D 13 = true := hdep ⟨13, Ground.data⟩ (by simp) rfl
              clear hdep
              have hI := hJ
              obtain rfl := f13 d13
              have hI0 := hI
              obtain ⟨kO, ⟨q, hp, rd⟩, L, hLn, ho⟩ := hI0
              have a5 := Bool.toNat_le (D 14)
              refine wpOp_step rfl (fun K hK => ?_)
              simp only [List.zip_cons_cons, List.zip_nil_right, puts]
              have Hf0 := Lib.hid f0
              have Hf1 := Lib.hid f1
              have Hf2 := Lib.hid f2
              have Hf3 := Lib.hid f3
              have Hf4 := Lib.hid f4
              have Hf5 := Lib.hid f5
              have Hf6 := Lib.hid f6
              have Hf7 := Lib.hid f7
              have Hf8 := Lib.hid f8
              have Hf9 := Lib.hid f9
              have Hf10 := Lib.hid f10
              have Hf11 := Lib.hid f11
              have Hf12 := Lib.hid f12
              have Hf13 := Lib.hid f13
              have Hf14 := Lib.hid f14
              have Hf15 := Lib.hid f15
              have Hf16 := Lib.hid f16
              have Hf17 := Lib.hid f17
              have Hf18 := Lib.hid f18
              have HhK := Lib.hid hK
              have Hhd := Lib.hid hd
              have HhJ := Lib.hid hJ
              clear hd hK hJ f0 f1 f2 f3 f4 f5 f6 f7 f8 f9 f10 f11 f12 f13 f14 f15 f16 f17 f18
              go_simp
              go_wp2_with (go_at_call 16; refine (pick_fr _ _ _ _ _ _ _ _ rd (by omega)).mono ?_; rintro e w9 ⟨x, rfl, ⟨x0, x1, _⟩, o9, r9⟩)
              have f0 := Hf0.out
              have f1 := Hf1.out
              have f2 := Hf2.out
              have f3 := Hf3.out
              have f4 := Hf4.out
              have f5 := Hf5.out
              have f6 := Hf6.out
              have f7 := Hf7.out
              have f8 := Hf8.out
              have f9 := Hf9.out
              have f10 := Hf10.out
              have f11 := Hf11.out
              have f12 := Hf12.out
              have f13 := Hf13.out
              have f14 := Hf14.out
              have f15 := Hf15.out
              have f16 := Hf16.out
              have f17 := Hf17.out
              have f18 := Hf18.out
              have hK := HhK.out
              have hd := Hhd.out
              have hJ := HhJ.out
              exact hK _ _ ⟨[u41, u42, u43, u44, u45, u46, u47, u48, u49, u50, u51, u52, u53, (.pointer (some ⟨g, 0, none⟩)), (.int .i64 x), u56, u57, u58, u59], rfl, by kernel_rfl, _, _, _, _, _, _, _, _, _, _, _, _, _, _, _, _, _, _, _, rfl, ⟨kO.trans (Onb.of_onl o9), ⟨q + 1, (by have e := hp; rw [hd] at e; show q + 1 ≤ q2 + (true).toNat; simp only [Bool.toNat_true, Bool.toNat_false] at e ⊢; omega), r9⟩, L, hLn, own_onl ho o9 hgL⟩, f0, f1, f2, f3, f4, f5, f6, f7, f8, f9, f10, f11, f12, (fun _ => rfl), (fun _ => ⟨_, rfl⟩), f15, f16, f17, f18⟩
            · simp only [List.getElem?_cons_zero, List.getElem?_cons_succ, Option.some.injEq] at ho
              subst ho
              clear hi'
              have d12 : D 12 = true := hdep ⟨12, Ground.data⟩ (by simp) rfl
              have d14 : D 14 = true := hdep ⟨14, Ground.data⟩ (by simp) rfl
              clear hdep
              have hI := hJ
              obtain ⟨u, rfl⟩ := f12 d12
              obtain ⟨x, rfl⟩ := f14 d14
              obtain ⟨y, hy⟩ : ∃ y, IntKind.i64.wrap (u - x) = y := ⟨_, rfl⟩
              refine wpOp_step rfl (fun K hK => ?_)
              simp only [List.zip_cons_cons, List.zip_nil_right, puts]
              have Hf0 := Lib.hid f0
              have Hf1 := Lib.hid f1
              have Hf2 := Lib.hid f2
              have Hf3 := Lib.hid f3
              have Hf4 := Lib.hid f4
              have Hf5 := Lib.hid f5
              have Hf6 := Lib.hid f6
              have Hf7 := Lib.hid f7
              have Hf8 := Lib.hid f8
              have Hf9 := Lib.hid f9
              have Hf10 := Lib.hid f10
              have Hf11 := Lib.hid f11
              have Hf12 := Lib.hid f12
              have Hf13 := Lib.hid f13
              have Hf14 := Lib.hid f14
              have Hf15 := Lib.hid f15
              have Hf16 := Lib.hid f16
              have Hf17 := Lib.hid f17
              have Hf18 := Lib.hid f18
              have HhK := Lib.hid hK
              have Hhd := Lib.hid hd
              have HhJ := Lib.hid hJ
              clear hd hK hJ f0 f1 f2 f3 f4 f5 f6 f7 f8 f9 f10 f11 f12 f13 f14 f15 f16 f17 f18
              go_simp
              have f0 := Hf0.out
              have f1 := Hf1.out
              have f2 := Hf2.out
              have f3 := Hf3.out
              have f4 := Hf4.out
              have f5 := Hf5.out
              have f6 := Hf6.out
              have f7 := Hf7.out
              have f8 := Hf8.out
              have f9 := Hf9.out
              have f10 := Hf10.out
              have f11 := Hf11.out
              have f12 := Hf12.out
              have f13 := Hf13.out
              have f14 := Hf14.out
              have f15 := Hf15.out
              have f16 := Hf16.out
              have f17 := Hf17.out
              have f18 := Hf18.out
              have hK := HhK.out
              have hd := Hhd.out
              have hJ := HhJ.out
              exact hK _ _ ⟨[u41, u42, u43, u44, u45, u46, u47, u48, u49, u50, u51, u52, (.int .i64 u), u54, (.int .i64 x), (.int .i64 y), u57, u58, u59], rfl, by kernel_rfl, _, _, _, _, _, _, _, _, _, _, _, _, _, _, _, _, _, _, _, rfl, hI, f0, f1, f2, f3, f4, f5, f6, f7, f8, f9, f10, f11, f12, f13, f14, (fun _ => ⟨_, rfl⟩), f16, f17, f18⟩
            · simp only [List.getElem?_cons_zero, List.getElem?_cons_succ, Option.some.injEq] at ho
              subst ho
              clear hi'
              have d7 : D 7 = true := hdep ⟨7, Ground.data⟩ (by simp) rfl
              have d15 : D 15 = true := hdep ⟨15, Ground.data⟩ (by simp) rfl
              clear hdep
              have hI := hJ
              obtain ⟨u, rfl⟩ := f7 d7
              obtain ⟨x, rfl⟩ := f15 d15
              refine wpOp_step rfl (fun K hK => ?_)
              simp only [List.zip_cons_cons, List.zip_nil_right, puts]
              have Hf0 := Lib.hid f0
              have Hf1 := Lib.hid f1
              have Hf2 := Lib.hid f2
              have Hf3 := Lib.hid f3
              have Hf4 := Lib.hid f4
              have Hf5 := Lib.hid f5
              have Hf6 := Lib.hid f6
              have Hf7 := Lib.hid f7
              have Hf8 := Lib.hid f8
              have Hf9 := Lib.hid f9
              have Hf10 := Lib.hid f10
              have Hf11 := Lib.hid f11
              have Hf12 := Lib.hid f12
              have Hf13 := Lib.hid f13
              have Hf14 := Lib.hid f14
              have Hf15 := Lib.hid f15
              have Hf16 := Lib.hid f16
              have Hf17 := Lib.hid f17
              have Hf18 := Lib.hid f18
              have HhK := Lib.hid hK
              have Hhd := Lib.hid hd
              have HhJ := Lib.hid hJ
              clear hd hK hJ f0 f1 f2 f3 f4 f5 f6 f7 f8 f9 f10 f11 f12 f13 f14 f15 f16 f17 f18
              go_simp
              have f0 := Hf0.out
              have f1 := Hf1.out
              have f2 := Hf2.out
              have f3 := Hf3.out
              have f4 := Hf4.out
              have f5 := Hf5.out
              have f6 := Hf6.out
              have f7 := Hf7.out
              have f8 := Hf8.out
              have f9 := Hf9.out
              have f10 := Hf10.out
              have f11 := Hf11.out
              have f12 := Hf12.out
              have f13 := Hf13.out
              have f14 := Hf14.out
              have f15 := Hf15.out
              have f16 := Hf16.out
              have f17 := Hf17.out
              have f18 := Hf18.out
              have hK := HhK.out
              have hd := Hhd.out
              have hJ := HhJ.out
              exact hK _ _ ⟨[u41, u42, u43, u44, u45, u46, u47, (.int .i64 u), u49, u50, u51, u52, u53, u54, u55, (.int .i64 x), (.int .i64 (if u < x then x else u)), u58, u59], rfl, by kernel_rfl, _, _, _, _, _, _, _, _, _, _, _, _, _, _, _, _, _, _, _, rfl, hI, f0, f1, f2, f3, f4, f5, f6, f7, f8, f9, f10, f11, f12, f13, f14, f15, (fun _ => ⟨_, rfl⟩), f17, f18⟩
            · simp only [List.getElem?_cons_zero, List.getElem?_cons_succ, Option.some.injEq] at ho
              subst ho
              clear hi'
              have d0 : D 0 = true := hdep ⟨0, Ground.data⟩ (by simp) rfl
              have d1 : D 1 = true := hdep ⟨1, Ground.data⟩ (by simp) rfl
              clear hdep
              have hI := hJ
              obtain rfl := f0 d0
              obtain rfl := f1 d1
              refine wpOp_step rfl (fun K hK => ?_)
              simp only [List.zip_cons_cons, List.zip_nil_right, puts]
              have Hf0 := Lib.hid f0
              have Hf1 := Lib.hid f1
              have Hf2 := Lib.hid f2
              have Hf3 := Lib.hid f3
              have Hf4 := Lib.hid f4
              have Hf5 := Lib.hid f5
              have Hf6 := Lib.hid f6
              have Hf7 := Lib.hid f7
              have Hf8 := Lib.hid f8
              have Hf9 := Lib.hid f9
              have Hf10 := Lib.hid f10
              have Hf11 := Lib.hid f11
              have Hf12 := Lib.hid f12
              have Hf13 := Lib.hid f13
              have Hf14 := Lib.hid f14
              have Hf15 := Lib.hid f15
              have Hf16 := Lib.hid f16
              have Hf17 := Lib.hid f17
              have Hf18 := Lib.hid f18
              have HhK := Lib.hid hK
              have Hhd := Lib.hid hd
              have HhJ := Lib.hid hJ
              clear hd hK hJ f0 f1 f2 f3 f4 f5 f6 f7 f8 f9 f10 f11 f12 f13 f14 f15 f16 f17 f18
              go_simp
              have f0 := Hf0.out
              have f1 := Hf1.out
              have f2 := Hf2.out
              have f3 := Hf3.out
              have f4 := Hf4.out
              have f5 := Hf5.out
              have f6 := Hf6.out
              have f7 := Hf7.out
              have f8 := Hf8.out
              have f9 := Hf9.out
              have f10 := Hf10.out
              have f11 := Hf11.out
              have f12 := Hf12.out
              have f13 := Hf13.out
              have f14 := Hf14.out
              have f15 := Hf15.out
              have f16 := Hf16.out
              have f17 := Hf17.out
              have f18 := Hf18.out
              have hK := HhK.out
              have hd := Hhd.out
              have hJ := HhJ.out
              exact hK _ _ ⟨[(.slice (some ⟨gb, 0, none⟩) n c), (.int .i64 k), u43, u44, u45, u46, u47, u48, u49, u50, u51, u52, u53, u54, u55, u56, u57, (.pointer (some ⟨gb, k * 4, none⟩)), u59], rfl, by kernel_rfl, _, _, _, _, _, _, _, _, _, _, _, _, _, _, _, _, _, _, _, rfl, hI, (fun _ => rfl), (fun _ => rfl), f2, f3, f4, f5, f6, f7, f8, f9, f10, f11, f12, f13, f14, f15, f16, (fun _ => rfl), f18⟩
            · simp only [List.getElem?_cons_zero, List.getElem?_cons_succ, Option.some.injEq] at ho
              subst ho
              clear hi'
              have d17 : D 17 = true := hdep ⟨17, Ground.data⟩ (by simp) rfl
              clear hdep
              have hI := hJ
              obtain rfl := f17 d17
              refine wpOp_step rfl (fun K hK => ?_)
              simp only [List.zip_cons_cons, List.zip_nil_right, puts]
              have Hf0 := Lib.hid f0
              have Hf1 := Lib.hid f1
              have Hf2 := Lib.hid f2
              have Hf3 := Lib.hid f3
              have Hf4 := Lib.hid f4
              have Hf5 := Lib.hid f5
              have Hf6 := Lib.hid f6
              have Hf7 := Lib.hid f7
              have Hf8 := Lib.hid f8
              have Hf9 := Lib.hid f9
              have Hf10 := Lib.hid f10
              have Hf11 := Lib.hid f11
              have Hf12 := Lib.hid f12
              have Hf13 := Lib.hid f13
              have Hf14 := Lib.hid f14
              have Hf15 := Lib.hid f15
              have Hf16 := Lib.hid f16
              have Hf17 := Lib.hid f17
              have Hf18 := Lib.hid f18
              have HhK := Lib.hid hK
              have Hhd := Lib.hid hd
              have HhJ := Lib.hid hJ
              clear hd hK hJ f0 f1 f2 f3 f4 f5 f6 f7 f8 f9 f10 f11 f12 f13 f14 f15 f16 f17 f18
              go_simp
              have f0 := Hf0.out
              have f1 := Hf1.out
              have f2 := Hf2.out
              have f3 := Hf3.out
              have f4 := Hf4.out
              have f5 := Hf5.out
              have f6 := Hf6.out
              have f7 := Hf7.out
              have f8 := Hf8.out
              have f9 := Hf9.out
              have f10 := Hf10.out
              have f11 := Hf11.out
              have f12 := Hf12.out
              have f13 := Hf13.out
              have f14 := Hf14.out
              have f15 := Hf15.out
              have f16 := Hf16.out
              have f17 := Hf17.out
              have f18 := Hf18.out
              have hK := HhK.out
              have hd := Hhd.out
              have hJ := HhJ.out
              exact hK _ _ ⟨[u41, u42, u43, u44, u45, u46, u47, u48, u49, u50, u51, u52, u53, u54, u55, u56, u57, (.pointer (some ⟨gb, k * 4, none⟩)), (.pointer (some ⟨gb, k * 4 + 1, none⟩))], rfl, by kernel_rfl, _, _, _, _, _, _, _, _, _, _, _, _, _, _, _, _, _, _, _, rfl, hI, f0, f1, f2, f3, f4, f5, f6, f7, f8, f9, f10, f11, f12, f13, f14, f15, f16, (fun _ => rfl), (fun _ => rfl)⟩
            · simp only [List.getElem?_cons_zero, List.getElem?_cons_succ, Option.some.injEq] at ho
              subst ho
              clear hi'
              have d18 : D 18 = true := hdep ⟨18, Ground.data⟩ (by simp) rfl
              have d16 : D 16 = true := hdep ⟨16, Ground.data⟩ (by simp) rfl
              clear hdep
              have hI := hJ
              obtain rfl := f18 d18
              obtain ⟨y, rfl⟩ := f16 d16
              have hI0 := hI
              obtain ⟨kO, ⟨q, hp, rd⟩, L, hLn, ho⟩ := hI0
              obtain ⟨v0, hc0⟩ := ev_cell ho hLn hkn 1 (by decide)
              have fz := ev_free ho hLn hkn 1
              have lb' := ev_lt ho hLn hkn
              have hBg9 := rd.Bg
              refine wpOp_step rfl (fun K hK => ?_)
              simp only [List.zip_cons_cons, List.zip_nil_right, puts]
              have Hf0 := Lib.hid f0
              have Hf1 := Lib.hid f1
              have Hf2 := Lib.hid f2
              have Hf3 := Lib.hid f3
              have Hf4 := Lib.hid f4
              have Hf5 := Lib.hid f5
              have Hf6 := Lib.hid f6
              have Hf7 := Lib.hid f7
              have Hf8 := Lib.hid f8
              have Hf9 := Lib.hid f9
              have Hf10 := Lib.hid f10
              have Hf11 := Lib.hid f11
              have Hf12 := Lib.hid f12
              have Hf13 := Lib.hid f13
              have Hf14 := Lib.hid f14
              have Hf15 := Lib.hid f15
              have Hf16 := Lib.hid f16
              have Hf17 := Lib.hid f17
              have Hf18 := Lib.hid f18
              have HhK := Lib.hid hK
              have Hhd := Lib.hid hd
              have HhJ := Lib.hid hJ
              clear hd hK hJ f0 f1 f2 f3 f4 f5 f6 f7 f8 f9 f10 f11 f12 f13 f14 f15 f16 f17 f18
              go_simp
              have f0 := Hf0.out
              have f1 := Hf1.out
              have f2 := Hf2.out
              have f3 := Hf3.out
              have f4 := Hf4.out
              have f5 := Hf5.out
              have f6 := Hf6.out
              have f7 := Hf7.out
              have f8 := Hf8.out
              have f9 := Hf9.out
              have f10 := Hf10.out
              have f11 := Hf11.out
              have f12 := Hf12.out
              have f13 := Hf13.out
              have f14 := Hf14.out
              have f15 := Hf15.out
              have f16 := Hf16.out
              have f17 := Hf17.out
              have f18 := Hf18.out
              have hK := HhK.out
              have hd := Hhd.out
              have hJ := HhJ.out
              exact hK _ _ ⟨[u41, u42, u43, u44, u45, u46, u47, u48, u49, u50, u51, u52, u53, u54, u55, u56, (.int .i64 y), u58, (.pointer (some ⟨gb, k * 4 + 1, none⟩))], rfl, by kernel_rfl, _, _, _, _, _, _, _, _, _, _, _, _, _, _, _, _, _, _, _, rfl, ⟨kO.set (by simp only; omega) _, ⟨q, hp, rd.set (by simp only; omega) (by simp only; omega) _⟩, L.set k ⟨(atEv L k).on, y, (atEv L k).key, (atEv L k).loud⟩, by rw [List.length_set]; exact hLn, ev_store1 ho hLn hkn y⟩, f0, f1, f2, f3, f4, f5, f6, f7, f8, f9, f10, f11, f12, f13, f14, f15, f16, f17, (fun _ => rfl)⟩
          · rintro D us W hu hall ⟨u41, u42, u43, u44, u45, u46, u47, u48, u49, u50, u51, u52, u53, u54, u55, u56, u57, u58, u59, rfl, hJ, f0, f1, f2, f3, f4, f5, f6, f7, f8, f9, f10, f11, f12, f13, f14, f15, f16, f17, f18⟩
            have d0 : D 0 = true := hall 0 (by simp)
            have d1 : D 1 = true := hall 1 (by simp)
            have d2 : D 2 = true := hall 2 (by simp)
            have d3 : D 3 = true := hall 3 (by simp)
            have d4 : D 4 = true := hall 4 (by simp)
            have d5 : D 5 = true := hall 5 (by simp)
            have d6 : D 6 = true := hall 6 (by simp)
            have d7 : D 7 = true := hall 7 (by simp)
            have d8 : D 8 = true := hall 8 (by simp)
            have d9 : D 9 = true := hall 9 (by simp)
            have d10 : D 10 = true := hall 10 (by simp)
            have d11 : D 11 = true := hall 11 (by simp)
            have d12 : D 12 = true := hall 12 (by simp)
            have d13 : D 13 = true := hall 13 (by simp)
            have d14 : D 14 = true := hall 14 (by simp)
            have d15 : D 15 = true := hall 15 (by simp)
            have d16 : D 16 = true := hall 16 (by simp)
            have d17 : D 17 = true := hall 17 (by simp)
            have d18 : D 18 = true := hall 18 (by simp)
            have d19 : D 19 = true := hall 19 (by simp)
            have hI := hJ
            clear hJ
            obtain ⟨kW, ⟨q6, hq6, r6⟩, L, hLn, ho⟩ := hI
            have a5 := Bool.toNat_le (D 14)
            clear f0 f1 f2 f3 f4 f5 f6 f7 f8 f9 f10 f11 f12 f13 f14 f15 f16 f17 f18 d0 d1 d2 d3 d4 d5 d6 d7 d8 d9 d10 d11 d12 d13 d14 d15 d16 d17 d18 d19 hall hu
            simp only [List.zip_cons_cons, List.zip_nil_right, puts]
            go_simp
            apply_assumption
            go_wp2
            go_roundw
            case rel => exact ⟨k + 1, L, q6, by omega, hLn, by go_num, ho, kW, by omega, r6⟩
            case measure => simp [intOf]; omega
def DrEv (w : World) (e : Ending) (w' : World) : Prop := ∃ (A : Option Addr) (c : Nat) (L : List Ev), e = .returned (.slice A L.length c) ∧ L.length ≤ c ∧ c ≤ maxLen ∧ L.length ≤ 80 ∧ RowEv w' w'.heap.size A L ∧ Below w.heap.size w w'
set_option maxHeartbeats 1000000 in
theorem DrawEventsValid_any (w : World) (A : Option Addr) (len cap : Nat) (h : Cod w A len cap) : Calls Try.prog 4 #[.slice A len cap] w (DrEv w) := by
  go_enter Try.func4, Try.ntmps4
  have r1 := open_ok w A len cap w.heap.size (Nat.le_refl _) h.bt
  have k1 : Onb w.heap.size w (w.alloc (.cells #[.slice A (min len 2000) cap, .int .i64 0] 46)) := Onb.of_bel (bel_al (bel_refl _) _)
  go_wp2_with fail
  refine (open_eq _ A len cap h.lc h.cm).mono ?_
  rintro e w1 ⟨rfl, rfl⟩
  go_wp2_with fail
  generalize (w.alloc (.cells #[.slice A (min len 2000) cap, .int .i64 0] 46)) = w1 at *
  generalize min len 2000 = len' at *
  refine (events_any _ _ _ _ _ _ _ _ r1 (by omega)).mono ?_
  rintro e w2 ⟨v, L, vT, rfl, l8, o1, k2, p2, hp2, r2⟩
  have k3 := k1.trans k2
  obtain ⟨A1, c1, rfl, lc1, cm1, h1, _⟩ := own_rowEv o1
  clear o1
  go_wp2
  exact bodyPost_ret (v := .slice A1 L.length c1) (by simp [results, Try.results4, go_sem]) rfl ⟨A1, c1, L, rfl, lc1, cm1, l8, h1, k3.below (Nat.le_refl _) (Nat.le_refl _)⟩
end Go.Proofs.Ytaieamobjbckdaa
