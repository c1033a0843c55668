/- The ticks at which a voice's notes begin; the ticks at which two voices are to be looked at: of the program. -/
import Derived.Test.YtiapfpjggginoaaRowIn
import Derived.Test.YtiapfpjggginoaaMtP
import Derived.Test.YtiapfpjggginoaaShelf
import Derived.Test.YtiapfpjggginoaaBc
import Derived.Sort.OwnSortedInts
import Derived.Lib.RowBridge
import Derived.Deep.AppendLies
import Derived.Deep.DeepCutAuto
namespace Go.Proofs.Ytiapfpjggginoaa
set_option linter.unusedSimpArgs false
set_option linter.unusedVariables false
open Go.RowKit

theorem own_neQ {w : World} {base : Nat} {e : TypeId} {size : Nat} {v : Value} {n : Nat} {xs : List Value} {Q : Nat} {cs : Array Value} {T : TypeId} (h : w.ownsRow base e size v n xs) (b : Blk w Q cs T) (hne : T ≠ e) : v.ownBlock ≠ some Q := by
  rcases h.2 with ⟨rfl, _⟩ | ⟨g, cap, cur, rfl, _, hg, _⟩
  · simp [Value.ownBlock]
  · intro e'
    have e2 : g = Q := by simpa [Value.ownBlock] using e'
    subst e2
    unfold Blk at b
    rw [hg] at b
    simp only [Option.some.injEq, Obj.cells.injEq] at b
    exact hne b.2.1.symm
theorem own_bel {W w w' : World} {base : Nat} {e : TypeId} {size : Nat} {v : Value} {n : Nat} {xs : List Value} (h : w.ownsRow base e size v n xs) (hb : Below W.heap.size W w) (hB : W.heap.size ≤ base) (hg : w.grownBy w' v.ownBlock) : Below W.heap.size W w' :=
  bel_grown hb hg fun k hk => by have := (own_lt h hk).1; omega
theorem bgK_len (l : List Nt) (k : Nat) : (bgK l k).length = k := by simp [bgK]
theorem enK_len (l : List Nt) (k : Nat) : (enK l k).length = k := by simp [enK]
theorem flatIn_app (l m : List Int) : flat csIn l ++ flat csIn m = flat csIn (l ++ m) := by simp [flat]
theorem flatIn_s (l : List Int) (x : Int) : flat csIn l ++ [.int .i64 x] = flat csIn (l ++ [x]) := by simp [flat, csIn]
/-- a row of numbers of the call's own, sorted -/
theorem srt_own (v : Value) (zs : List Int) (base : Nat) (w : World) (hm : zs.length ≤ 2000000) (h : w.ownsRow base 3 1 v (zs).length (flat csIn (zs))) :
    Calls Try.prog 41 #[v] w fun e w' => e = .returned (.tuple #[]) ∧ w'.ownsRow base 3 1 v (zs.mergeSort fun x y => decide (x ≤ y)).length (flat csIn (zs.mergeSort fun x y => decide (x ≤ y))) ∧ w.grownBy w' v.ownBlock := by
  have hl : (zs.mergeSort fun x y => decide (x ≤ y)).length = zs.length := List.length_mergeSort _
  rcases h.2 with ⟨rfl, h0⟩ | ⟨g, cap, cur, rfl, hb, hg, hnc, hcm, hcs, ht⟩
  · refine (Try.slices_Sort_int_none none 0 w).mono ?_
    rintro e w' ⟨rfl, rfl⟩
    have hz : zs = [] := List.eq_nil_of_length_eq_zero h0
    subst hz
    exact ⟨rfl, by simpa using h, World.grownBy.refl _ _⟩
  · rw [Nat.mul_one] at ht
    rw [flatIn] at ht
    have hlt : g < w.heap.size := (own_lt h rfl).2
    refine (Try.slices_Sort_int g 0 cap zs w (holds_of_blockI hg ht) hlt (by omega)).mono ?_
    rintro e w' ⟨rfl, n, os, rfl⟩
    refine ⟨rfl, ?_, grownBy_sortedI _⟩
    rw [flatIn, hl]
    exact ownsRow_sortedI hl hb hg hnc hcm hcs
/-- .. and each once -/
theorem cmp_own (v : Value) (zs : List Int) (base : Nat) (w : World) (hm : zs.length ≤ 2000000) (h : w.ownsRow base 3 1 v (zs).length (flat csIn (zs))) :
    Calls Try.prog 42 #[v] w fun e w' => ∃ u, e = .returned u ∧ w'.ownsRow base 3 1 u (Lib.compact zs).length (flat csIn (Lib.compact zs)) ∧ w.grownBy w' v.ownBlock := by
  have hl := Lib.compact_length_le zs
  rcases h.2 with ⟨rfl, h0⟩ | ⟨g, cap, cur, rfl, hb, hg, hnc, hcm, hcs, ht⟩
  · refine (Try.slices_Compact_int_empty none 0 w).mono ?_
    rintro e w' ⟨rfl, rfl⟩
    have hz : zs = [] := List.eq_nil_of_length_eq_zero h0
    subst hz
    exact ⟨_, rfl, h, World.grownBy.refl _ _⟩
  · rw [Nat.mul_one] at ht
    rw [flatIn] at ht
    refine (Try.slices_Compact_int g 0 cap zs w (holds_of_blockI hg ht) (by omega) hnc).mono ?_
    rintro e w' ⟨rfl, q, rfl⟩
    obtain ⟨ts, hts⟩ : ∃ ts, Lib.compact zs ++ List.replicate (zs.length - (Lib.compact zs).length) 0 = ts := ⟨_, rfl⟩
    have htl : ts.length = zs.length := by rw [← hts, List.length_append, List.length_replicate]; omega
    rw [hts]
    have hgr := grownBy_sortedI (w := w) (g := g) (n := q) (os := #[]) ts.toArray
    have hhp := heap_sortedI (w := w) (g := g) (n := q) (os := #[]) ts.toArray hg
    have e0 : Sort.grow (Sort.putRow (Value.int .i64) (Sort.ahead w q) g 0 ts.toArray) #[] = Sort.putRow (Value.int .i64) (Sort.ahead w q) g 0 ts.toArray := by simp [Sort.grow]; rfl
    rw [e0] at hgr hhp
    refine ⟨_, rfl, ⟨?_, .inr ⟨g, cap, _, rfl, hb, hhp, by omega, hcm, by simp [Sort.putCells, hcs], ?_⟩⟩, hgr⟩
    · rw [flatIn, List.length_map, Nat.mul_one]
    · have hk := take_putCellsI cur ts (by omega)
      rw [flatIn, Nat.mul_one]
      have h2 := congrArg (List.take (Lib.compact zs).length) hk
      rw [List.take_take, Nat.min_eq_left (by omega)] at h2
      rw [h2, ← hts, List.map_append, List.take_left' (by rw [List.length_map])]
def OnsR (w : World) (l : List Nt) (e : Ending) (w' : World) : Prop :=
  ∃ v, e = .returned (.tuple #[v, .int .i64 (tsum l l.length)]) ∧ w'.ownsRow w.heap.size 3 1 v (bgK l l.length).length (flat csIn (bgK l l.length)) ∧ Below w.heap.size w w'
set_option maxHeartbeats 2000000 in
theorem ons_any (A : Option Addr) (n c : Nat) (l : List Nt) (w : World) (hn : l.length = n) (hf : VvF l) (h : RowNt w w.heap.size A l) :
    Calls Try.prog 40 #[.slice A n c] w (OnsR w l) := by
  subst hn
  obtain ⟨i0, hi0, hz0, hz1, hz2⟩ := info_parts infoIn
  have h60 := hf.len
  have own0 : (w.alloc (.cells #[] 3)).ownsRow w.heap.size 3 1 (.slice (some ⟨w.heap.size, 0, none⟩) 0 0) (bgK l 0).length (flat csIn (bgK l 0)) := World.ownsRow_lit w #[] 0 (Nat.le_refl _) (by simp [maxLen]) rfl
  have b0 : Below w.heap.size w (w.alloc (.cells #[] 3)) := bel_al (bel_refl w) _
  go_enter Try.func40, Try.ntmps40
  go_wp2
  go_loopw [4, 5, 7, 11] (fun o t _ i wr => ∃ k : Nat, k ≤ l.length ∧ i = .int .i64 k ∧ t = .int .i64 (tsum l k) ∧ wr.ownsRow w.heap.size 3 1 o (bgK l k).length (flat csIn (bgK l k)) ∧ Below w.heap.size w wr) (fun _ _ _ i _ => l.length - (intOf i).toNat)
  case atStart => exact ⟨0, Nat.zero_le _, rfl, rfl, own0, b0⟩
  case round =>
    obtain ⟨k, hk, rfl, rfl, hown, hb⟩ := hrel
    clear own0 b0
    by_cases hlt : k < l.length
    · obtain ⟨b, off, rfl, hlb, hc⟩ := (h.below hb) (by omega)
      have hck := hc k hlt
      have hs0 := hf.tsum_bd k (by omega)
      have ht := hf.tickT k hlt
      have hkl : (k : Int) < (l.length : Int) := by omega
      have hk0 : (0 : Int) ≤ (k : Int) := by omega
      have HS : Hid (tsum l (k + 1) = tsum l k + (atNt l k).ticks) := by show _ = _; rfl
      have HST := Lib.hid (bgK_s l k)
      have hz := hb.size
      clear hc
      generalize tsum l k = V at *
      generalize atNt l k = x at hck ht HS
      obtain ⟨p0, p1, p2, p3, p4, p5⟩ := hck
      obtain ⟨r, s, a, o', tk, d⟩ := x
      simp only at p0 p1 p2 p3 p4 p5 ht
      have hV := IntWalk.i64_in (V + tk) (by omega)
      have bX : Blk (wr.alloc (.cells #[.bool (⟨r, s, a, o', tk, d⟩ : Nt).rest, .int .i64 (⟨r, s, a, o', tk, d⟩ : Nt).step, .int .i64 (⟨r, s, a, o', tk, d⟩ : Nt).alter, .int .i64 (⟨r, s, a, o', tk, d⟩ : Nt).octave, .int .i64 (⟨r, s, a, o', tk, d⟩ : Nt).ticks, .bool (⟨r, s, a, o', tk, d⟩ : Nt).tied] 55)) wr.heap.size #[.bool (⟨r, s, a, o', tk, d⟩ : Nt).rest, .int .i64 (⟨r, s, a, o', tk, d⟩ : Nt).step, .int .i64 (⟨r, s, a, o', tk, d⟩ : Nt).alter, .int .i64 (⟨r, s, a, o', tk, d⟩ : Nt).octave, .int .i64 (⟨r, s, a, o', tk, d⟩ : Nt).ticks, .bool (⟨r, s, a, o', tk, d⟩ : Nt).tied] 55 := Blk.new wr _ _
      have hownX := hown.alloc (.cells #[.bool (⟨r, s, a, o', tk, d⟩ : Nt).rest, .int .i64 (⟨r, s, a, o', tk, d⟩ : Nt).step, .int .i64 (⟨r, s, a, o', tk, d⟩ : Nt).alter, .int .i64 (⟨r, s, a, o', tk, d⟩ : Nt).octave, .int .i64 (⟨r, s, a, o', tk, d⟩ : Nt).ticks, .bool (⟨r, s, a, o', tk, d⟩ : Nt).tied] 55)
      have hbX := bel_al hb (.cells #[.bool (⟨r, s, a, o', tk, d⟩ : Nt).rest, .int .i64 (⟨r, s, a, o', tk, d⟩ : Nt).step, .int .i64 (⟨r, s, a, o', tk, d⟩ : Nt).alter, .int .i64 (⟨r, s, a, o', tk, d⟩ : Nt).octave, .int .i64 (⟨r, s, a, o', tk, d⟩ : Nt).ticks, .bool (⟨r, s, a, o', tk, d⟩ : Nt).tied] 55)
      simp only at bX hownX hbX
      go_upto_region 6 with fail
      clear p0 p1 p2 p3 p4 p5
      generalize (wr.alloc (.cells #[.bool r, .int .i64 s, .int .i64 a, .int .i64 o', .int .i64 tk, .bool d] 55)) = v1 at *
      generalize wr.heap.size = X at *
      have hz1' := hbX.size
      go_upto_region 7 with (at_builtin; go_must (refine wpList_append_lies _ rfl _ _ 24 rfl w.heap.size 3 i0 _ 1 8 Try.underlying24 hi0 hz0 hz1 hz2 rfl (by omega) _ (bgK l k).length (flat csIn (bgK l k)) rfl (hownX.alloc _) ⟨v1.heap.size, 0, none⟩ 1 1 [.int .i64 V] rfl rfl (World.news_of_block (cs := #[.int .i64 V]) (t := 3) (fr := (0, 0)) (heap_alloc_new v1 _)) (by simp [Value.oneCell']) (by first | (simp; done) | (simp; omega)) (by rw [bgK_len]; unfold maxLen; omega) (by rw [bgK_len]; omega) (by simp; omega) _ rfl ?_; intro gg9 cp9 w9 hown9 hgrow9 hat9 hlt9))
      have hownY : w9.ownsRow w.heap.size 3 1 (.slice (some ⟨gg9, 0, none⟩) (bgK l (k + 1)).length cp9) (bgK l (k + 1)).length (flat csIn (bgK l (k + 1))) := by rw [HST.out, List.length_append, List.length_singleton, ← flatIn_s]; exact hown9
      have hbY : Below w.heap.size w w9 := own_bel (hownX.alloc _) (bel_al hbX _) (Nat.le_refl _) hgrow9
      have bY : Blk w9 X _ 55 := (bX.alloc (.cells #[.int .i64 V] 3)).grown hgrow9 (own_neQ (hownX.alloc (.cells #[.int .i64 V] 3)) (bX.alloc (.cells #[.int .i64 V] 3)) (by decide))
      have t4 : w9.cell? ⟨X, 4, none⟩ = some (.int .i64 tk) := by rw [Blk.cell bY]; rfl
      rw [bgK_len] at hownY hown9
      rw [bgK_len]
      clear hgrow9 hown9 hat9 bX bY hownX
      go_wp2
      go_roundw
      case rel => exact ⟨k + 1, by omega, by go_num, by rw [HS.out], by rw [bgK_len]; exact hownY, hbY⟩
      case measure => simp [intOf]; omega
    · obtain rfl : k = l.length := by omega
      go_wp2
      exact bodyPost_ret (v := .tuple #[u4, .int .i64 (tsum l l.length)]) (by simp [results, Try.results40, go_sem]) rfl ⟨u4, rfl, hown, hb⟩
end Go.Proofs.Ytiapfpjggginoaa
