/- The generator of tempos. -/
import Derived.Test.YtaieamobjbckdaaOnb
import Derived.Test.YtaieamobjbckdaaTv
import Derived.Test.YtaieamobjbckdaaAlive
import Derived.Deep.DeepCutAuto
namespace Go.Proofs.Ytaieamobjbckdaa
set_option linter.unusedSimpArgs false
set_option linter.unusedVariables false
open Go.RowKit

def csTp (t : Tp) : List Value := [.int .i64 t.tick, .int .i64 t.micros]
theorem csTp_len (t : Tp) : (csTp t).length = 2 := rfl
/-- what the generator leaves: a list of at most four tempos that lies in a new block -/
def Tps (w : World) (g B p : Nat) (A : Option Addr) (len cap : Nat) (e : Ending) (w' : World) : Prop :=
  ∃ (v : Value) (l : List Tp), e = .returned v ∧ l.length ≤ 4 ∧ w'.ownsRow w.heap.size 50 2 v l.length (flat csTp l) ∧ Onb g w w' ∧ ∃ p', p' ≤ p + 20 ∧ Rd w' g B A len cap p'
set_option maxHeartbeats 4000000 in
theorem tempos_any (w : World) (g B p : Nat) (A : Option Addr) (len cap : Nat) (m : Int) (h : Rd w g B A len cap p) (hp : p < 1000000) :
    Calls Try.prog 13 #[.pointer (some ⟨g, 0, none⟩), .int .i64 m] w (Tps w g B p A len cap) := by
  have hg := h.gl
  obtain ⟨i0, hi0, hz0, hz1, hz2⟩ := info_parts infoTp
  go_enter Try.func13, Try.ntmps13
  go_wp2_with fail
  refine (pick_fr _ _ _ _ _ _ _ _ (h.alloc _) (by omega)).mono ?_
  rintro e w1 ⟨v, rfl, ⟨v0, v1, _⟩, o1, r1⟩
  have v1 := v1 (by omega)
  have own1 : w1.ownsRow w.heap.size 50 2 (.slice (some ⟨w.heap.size, 0, none⟩) 0 0) ([] : List Tp).length (flat csTp []) :=
    own_onl (World.ownsRow_lit w #[] 0 (Nat.le_refl _) (by simp [maxLen]) rfl) o1 hg
  have k1 : Onb g w w1 := ((Onb.refl g w).alloc _).trans (Onb.of_onl o1)
  clear o1
  go_wp2
  go_loopw [5, 6, 7] (fun o t i wr => ∃ (l : List Tp) (k : Nat) (tk : Int) (p' : Nat), l.length + k ≤ 3 ∧ 1 ≤ l.length + k ∧ p' ≤ p + 1 + 2 * l.length ∧ 0 ≤ tk ∧ tk ≤ 300 * l.length ∧ i = .int .i64 k ∧ t = .int .i64 tk ∧ wr.ownsRow w.heap.size 50 2 o l.length (flat csTp l) ∧ Onb g w wr ∧ Rd wr g B A len cap p') (fun _ _ i _ => (intOf i).toNat)
  case atStart => exact ⟨[], (1 + v).toNat, 0, p + 1, by simp; omega, by simp; omega, by simp, by omega, by simp, by go_num, rfl, own1, k1, r1⟩
  case round =>
    obtain ⟨l, k, tk, p', hl3, hl1, hp', t0, t1, rfl, rfl, hown, hk, hr⟩ := hrel
    by_cases hlt : 0 < k
    · have hlt1 : (0 : Int) < (k : Int) := by omega
      have hsz := hk.size
      go_wp2_with fail
      refine (pick_fr _ _ _ _ _ _ _ _ (hr.alloc _) (by omega)).mono ?_
      rintro e w2 ⟨v', rfl, ⟨v2, v3, _⟩, o2, r2⟩
      have v3 := v3 (by omega)
      have hgr := hr.gl
      obtain ⟨u, um, hu⟩ := lit_at (w := w2) (b := wr.heap.size) (xs := [10416, 5000, 100, 100000]) ((o2.block _ (by omega)).trans (heap_alloc_new wr _)) v2 v3
      have ub : 99 ≤ u ∧ u ≤ 100001 := by simp at um; omega
      clear um
      have hown2 := own_onl (hown.alloc (.cells #[.int .i64 10416, .int .i64 5000, .int .i64 100, .int .i64 100000] 3)) o2 hg
      have hk2 : Onb g w w2 := (hk.alloc _).trans (Onb.of_onl o2)
      have hs2 : w2.heap.size = wr.heap.size + 1 := by have := o2.size; simpa using this
      have HS2 := Lib.hid hs2
      clear hs2 hown hk hr o2
      have hw2 : w.heap.size ≤ w2.heap.size := by have := HS2.out; omega
      go_wp2_with (at_builtin; go_must (refine wpList_append_lies _ rfl _ _ 30 rfl w.heap.size 50 i0 _ 2 16 Try.underlying30 hi0 hz0 hz1 hz2 rfl (by omega) _ l.length (flat csTp l) rfl ((hown2).alloc _) ⟨w2.heap.size, 0, none⟩ 1 1 [.int .i64 tk, .int .i64 u] rfl rfl (World.news_of_block (cs := #[.int .i64 tk, .int .i64 u]) (t := 50) (fr := (0, 0)) (heap_alloc_new w2 _)) (by simp [Value.oneCell']) (by omega) (by unfold maxLen; omega) (by omega) (by simp; omega) _ rfl ?_; intro gg cp w9 hown9 hgrow9 hat9 hlt9))
      have hr9 := (r2.alloc (.cells #[.int .i64 tk, .int .i64 u] 50)).grown hgrow9 (own_gt hown2 hg)
      have hk9 := (hk2.alloc (.cells #[.int .i64 tk, .int .i64 u] 50)).grown hgrow9 (own_ge hown2)
      clear hgrow9 hat9 hown2 r2 hk2 hu hlt9
      refine (pick_fr _ _ _ _ _ _ _ _ hr9 (by omega)).mono ?_
      rintro e w3 ⟨v', rfl, ⟨v4, v5, _⟩, o3, r3⟩
      have v5 := v5 (by omega)
      have hown3 := own_onl hown9 o3 hg
      have hk3 := hk9.trans (Onb.of_onl o3)
      clear hown9 hk9 hr9 o3
      go_wp2
      go_roundw
      case rel => exact ⟨l ++ [⟨tk, u⟩], k - 1, tk + 1 + v', p' + 2, by simp; omega, by simp; omega, by simp; omega, by omega, by simp; omega, by go_num, rfl, own_push (t := ⟨tk, u⟩) hown3 rfl, hk3, r3⟩
      case measure => simp [intOf]; omega
    · obtain rfl : k = 0 := by omega
      go_wp2_with fail
      refine (odd_any _ _ _ _ _ _ _ _ hr (by omega)).mono ?_
      rintro e w2 ⟨b, rfl, _, o2, p2, hp2, r2⟩
      have hown2 := own_onl hown o2 hg
      have hk2 := hk.trans (Onb.of_onl o2)
      clear hown hk hr o2
      cases b
      · go_wp2
        go_ret
        exact ⟨_, l, rfl, by omega, hown2, hk2, p2, by omega, r2⟩
      · go_wp2_with fail
        refine (pick_fr _ _ _ _ _ _ _ _ r2 (by omega)).mono ?_
        rintro e w3 ⟨x, rfl, ⟨x0, x1, _⟩, o3, r3⟩
        have x1 := x1 (by omega)
        have hown3 := own_onl hown2 o3 hg
        have hk3 := hk2.trans (Onb.of_onl o3)
        clear hown2 hk2 r2 o3
        have hw3 := hk3.size
        obtain ⟨A3, c3, rfl, lc3, cm3, op3⟩ := own_open csTp_len ⟨0, 0⟩ hown3
        obtain ⟨gg, rfl, gb, gl, gf, gc⟩ := op3 (by omega)
        have g0 : w3.cell? ⟨gg, 0, none⟩ = some (.int .i64 (l.getD 0 ⟨0, 0⟩).tick) := by simpa [csTp] using gc 0 0 (by omega) (by omega)
        have g1 : w3.cell? ⟨gg, 1, none⟩ = some (.int .i64 (l.getD 0 ⟨0, 0⟩).micros) := by simpa [csTp] using gc 0 1 (by omega) (by omega)
        have f0 := gf 0
        have f1 := gf 1
        clear gc gf
        rcases (show x = 0 ∨ x = 1 ∨ x = 2 ∨ x = 3 from by omega) with rfl | rfl | rfl | rfl
        · go_wp2
          go_ret
          exact ⟨_, [], rfl, by simp, World.ownsRow_lit w3 #[] 0 (by omega) (by simp [maxLen]) rfl, hk3.alloc _, p2 + 1, by omega, r3.alloc _⟩
        · have hl0 : (0 : Int) < (l.length : Int) := by omega
          go_wp2
          go_ret
          exact ⟨_, l.set 0 ⟨1, (l.getD 0 ⟨0, 0⟩).micros⟩, rfl, by simp; omega, own_stored csTp_len ⟨0, 0⟩ hown3 0 0 (by omega) (by omega) _ _ rfl, hk3.set gb _, p2 + 1, by omega, r3.set (by have := r3.Bg; simp only; omega) (by simp only; omega) _⟩
        · have hl0 : (0 : Int) < (l.length : Int) := by omega
          go_wp2_with fail
          refine (pick_fr _ _ _ _ _ _ _ _ (r3.alloc _) (by omega)).mono ?_
          rintro e w4 ⟨y, rfl, ⟨y0, y1, _⟩, o4, r4⟩
          have y1 := y1 (by omega)
          have hgr := r3.gl
          obtain ⟨u, _, hu⟩ := lit_at (w := w4) (b := w3.heap.size) (xs := [99, 100001]) ((o4.block _ (by omega)).trans (heap_alloc_new w3 _)) y0 y1
          have hown4 := own_onl (hown3.alloc (.cells #[.int .i64 99, .int .i64 100001] 3)) o4 hg
          have hk4 := (hk3.alloc (.cells #[.int .i64 99, .int .i64 100001] 3)).trans (Onb.of_onl o4)
          have g1' := o4.at (keep_al g1 (.cells #[.int .i64 99, .int .i64 100001] 3)) (by simp only; omega)
          have f1' : w4.frozen? ⟨gg, 1, none⟩ = false := by rw [o4.frozen _ _ (by omega)]; exact fz_al f1 gl _
          clear g0 g1 f0 f1 hown3 hk3 r3 o4
          go_wp2
          go_ret
          exact ⟨_, l.set 0 ⟨(l.getD 0 ⟨0, 0⟩).tick, u⟩, rfl, by simp; omega, own_stored csTp_len ⟨0, 0⟩ hown4 0 1 (by omega) (by omega) _ _ rfl, hk4.set gb _, p2 + 2, by omega, r4.set (by have := r4.Bg; simp only; omega) (by simp only; omega) _⟩
        · go_wp2_with fail
          refine (pick_fr _ _ _ _ _ _ _ _ (r3.alloc _) (by omega)).mono ?_
          rintro e w4 ⟨y, rfl, ⟨y0, y1, _⟩, o4, r4⟩
          have y1 := y1 (by omega)
          have hgr := r3.gl
          obtain ⟨u, _, hu⟩ := lit_at (w := w4) (b := w3.heap.size) (xs := [0, 50001]) ((o4.block _ (by omega)).trans (heap_alloc_new w3 _)) y0 y1
          have hown4 := own_onl (hown3.alloc (.cells #[.int .i64 0, .int .i64 50001] 3)) o4 hg
          have hk4 := (hk3.alloc (.cells #[.int .i64 0, .int .i64 50001] 3)).trans (Onb.of_onl o4)
          have hw4 := hk4.size
          clear g0 g1 f0 f1 hown3 hk3 r3 o4
          go_wp2_with (at_builtin; go_must (refine wpList_append_lies _ rfl _ _ 30 rfl w.heap.size 50 i0 _ 2 16 Try.underlying30 hi0 hz0 hz1 hz2 rfl (by omega) _ l.length (flat csTp l) rfl (hown4.alloc _) ⟨w4.heap.size, 0, none⟩ 1 1 [.int .i64 u, .int .i64 1000] rfl rfl (World.news_of_block (cs := #[.int .i64 u, .int .i64 1000]) (t := 50) (fr := (0, 0)) (heap_alloc_new w4 _)) (by simp [Value.oneCell']) (by omega) (by unfold maxLen; omega) (by omega) (by simp; omega) _ rfl ?_; intro gg cp w9 hown9 hgrow9 hat9 hlt9))
          have hr9 := (r4.alloc (.cells #[.int .i64 u, .int .i64 1000] 50)).grown hgrow9 (own_gt hown4 hg)
          have hk9 := (hk4.alloc (.cells #[.int .i64 u, .int .i64 1000] 50)).grown hgrow9 (own_ge hown4)
          have hq := own_push (t := (⟨u, 1000⟩ : Tp)) hown9 rfl
          go_wp2
          go_ret
          exact ⟨_, l ++ [(⟨u, 1000⟩ : Tp)], rfl, by simp; omega, hq, hk9, p2 + 2, by omega, hr9⟩
theorem tps_row {w' : World} {base : Nat} {v : Value} {l : List Tp} (h : w'.ownsRow base 50 2 v l.length (flat csTp l)) :
    ∃ A cap, v = .slice A l.length cap ∧ l.length ≤ cap ∧ cap ≤ maxLen ∧ RowTp w' w'.heap.size A l ∧ OwnTp w' base A l.length := by
  obtain ⟨A, cap, rfl, h1, h2, h3⟩ := own_open csTp_len ⟨0, 0⟩ h
  refine ⟨A, cap, rfl, h1, h2, fun hl => ?_, fun hl => ?_⟩
  · obtain ⟨g, rfl, hb, hg, _, hc⟩ := h3 hl
    exact ⟨g, 0, rfl, hg, fun i hi => ⟨by simpa [csTp, atTp] using hc i 0 hi (by omega), by simpa [csTp, atTp] using hc i 1 hi (by omega)⟩⟩
  · obtain ⟨g, rfl, hb, hg, hf, _⟩ := h3 hl
    exact ⟨g, 0, rfl, hb, hf⟩
/-- a slice of tempos that was drawn -/
def DrT (w : World) (e : Ending) (w' : World) : Prop := ∃ (A : Option Addr) (cap : Nat) (l : List Tp), e = .returned (.slice A l.length cap) ∧ l.length ≤ cap ∧ cap ≤ maxLen ∧ l.length ≤ 4 ∧ RowTp w' w'.heap.size A l ∧ Below w.heap.size w w'
end Go.Proofs.Ytaieamobjbckdaa
