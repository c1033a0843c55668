/- The groups of tied notes, as the reference makes them. -/
import Derived.Test.YtaieamobjbckdaaPerf
import Derived.Test.YtaieamobjbckdaaDrV
namespace Go.Proofs.Ytaieamobjbckdaa
set_option linter.unusedSimpArgs false
set_option linter.unusedVariables false
open Go.RowKit

theorem gL_app {l : List Nt} {k : Nat} (h : ¬ (0 < k ∧ (atNt l (k - 1)).tied = true)) : gL l (k + 1) = gL l k ++ [atNt l k] := by rw [gL, if_neg h]
theorem gL_set {l : List Nt} {q m : Nat} (ht : (atNt l q).tied = true) (hl : (gL l (q + 1)).length = m + 1) :
    gL l (q + 1 + 1) = (gL l (q + 1)).set m { atNt (gL l (q + 1)) m with ticks := (atNt (gL l (q + 1)) m).ticks + (atNt l (q + 1)).ticks } := by
  rw [gL, if_pos ⟨by omega, by simpa using ht⟩, hl]; simp
set_option maxHeartbeats 4000000 in
theorem grp_any (A : Option Addr) (n c : Nat) (l : List Nt) (w : World) (hn : l.length = n) (hv : vvB l = true) (h : RowNt w w.heap.size A l) :
    Calls Try.prog 23 #[.slice A n c] w fun e w' => ∃ v, e = .returned v ∧ w'.ownsRow w.heap.size 56 6 v (gL l l.length).length (flat csNt (gL l l.length)) ∧ Below w.heap.size w w' := by
  subst hn
  have hf := vvB_of hv
  have h60 := hf.len
  obtain ⟨i0, hi0, hz0, hz1, hz2⟩ := info_parts infoNt
  go_enter Try.func23, Try.ntmps23
  go_wp2
  have own0 : (w.alloc (.cells #[] 56)).ownsRow w.heap.size 56 6 (.slice (some ⟨w.heap.size, 0, none⟩) 0 0) (gL l 0).length (flat csNt (gL l 0)) :=
    World.ownsRow_lit w #[] 0 (Nat.le_refl _) (by simp [maxLen]) rfl
  go_loopw [3, 4, 5] (fun o i _ wr => ∃ k : Nat, k ≤ l.length ∧ i = .int .i64 k ∧ wr.ownsRow w.heap.size 56 6 o (gL l k).length (flat csNt (gL l k)) ∧ Below w.heap.size w wr) (fun _ i _ _ => l.length - (intOf i).toNat)
  case atStart => exact ⟨0, Nat.zero_le _, rfl, own0, by repeat (first | (with_reducible assumption) | (exact bel_undr (by with_reducible assumption)) | (with_reducible exact bel_refl _) | (with_reducible refine bel_dr ?_) | (with_reducible refine bel_drN ?_ _) | (with_reducible refine bel_al ?_ _) | (refine bel_set ?_ (by first | (simp; done) | (simp; exact Below.size (by assumption)) | (simp; omega)) _) | (with_reducible refine bel_tr ?_ (by assumption)))⟩
  case round =>
    obtain ⟨k, hk, rfl, hown, hb⟩ := hrel
    clear own0
    by_cases hlt : k < l.length
    · obtain ⟨b, off, rfl, hlb, hc⟩ := (h.below hb) (by omega)
      have hck := hc k hlt
      have hkl : (k : Int) < (l.length : Int) := by omega
      have hk0 : (0 : Int) ≤ (k : Int) := by omega
      have hlen : (gL l k).length ≤ 61 := by
        cases k with
        | zero => simp [gL]
        | succ q => obtain ⟨m, I⟩ := hf.ginv [] 0 q (by omega); have := I.len; have := I.le; omega
      cases k with
      | zero =>
        clear hc
        generalize hG : gL l 0 = G at hown hlen
        have HG := Lib.hid hG
        generalize hX : atNt l 0 = x at hck
        have HX := Lib.hid hX
        clear hG hX
        obtain ⟨r, s, a, o, t, d⟩ := x
        obtain ⟨p0, p1, p2, p3, p4, p5⟩ := hck
        simp only at p0 p1 p2 p3 p4 p5
        obtain ⟨A2, c2, rfl, lc2, cm2, op2⟩ := own_open csNt_len dNt hown
        unfold maxLen at cm2
        have hw := hb.size
        simp only [Nat.zero_mul, Nat.add_zero] at p0 p1 p2 p3 p4 p5
        have e0 : (((0 : Nat) : Int)) = 0 := rfl
        rw [e0]
        go_wp2_with (at_builtin; go_must (refine wpList_append_lies _ rfl _ _ 41 rfl w.heap.size 56 i0 _ 6 48 Try.underlying41 hi0 hz0 hz1 hz2 rfl (by omega) _ G.length (flat csNt G) rfl (hown.alloc _) ⟨wr.heap.size, 0, none⟩ 1 1 [.bool r, .int .i64 s, .int .i64 a, .int .i64 o, .int .i64 t, .bool d] rfl rfl (World.news_of_block (cs := #[.bool r, .int .i64 s, .int .i64 a, .int .i64 o, .int .i64 t, .bool d]) (t := 56) (fr := (0, 0)) (heap_alloc_new wr _)) (by simp [Value.oneCell']) (by omega) (by unfold maxLen; omega) (by omega) (by simp; omega) _ rfl ?_; intro gg9 cp9 w9 hown9 hgrow9 hat9 hlt9))
        have hb9 : Below w.heap.size w w9 := bel_grown (bel_al hb (.cells #[.bool r, .int .i64 s, .int .i64 a, .int .i64 o, .int .i64 t, .bool d] 56)) hgrow9 (own_ge hown)
        have hq := own_push (t := (⟨r, s, a, o, t, d⟩ : Nt)) hown9 rfl
        go_roundw
        case rel => exact ⟨0 + 1, by omega, by go_num, by rw [gL_app (by omega), HG.out, HX.out]; exact hq, hb9⟩
        case measure => simp [intOf]; omega
      | succ q =>
        have hcq := (hc q (by omega)).2.2.2.2.2
        have hq1 : (((q + 1 : Nat) : Int)) - 1 = (q : Int) := by omega
        have hq2 : (q : Int) < (l.length : Int) := by omega
        have hq3 : (0 : Int) < (((q + 1 : Nat) : Int)) := by omega
        obtain ⟨m, I⟩ := hf.ginv [] 0 q (by omega)
        have hsq := hf.sum_le (q + 1) (by omega)
        have hss := hf.sum_le (stI l q) (by have := stI_le l q; omega)
        have htk := I.tk
        have hlm := I.len
        have htq := hf.tick (q + 1) hlt
        clear hc I
        cases ht : (atNt l q).tied
        · rw [ht] at hcq
          clear htk hlm htq hsq hss
          generalize hG : gL l (q + 1) = G at hown hlen
          have HG := Lib.hid hG
          generalize hX : atNt l (q + 1) = x at hck
          have HX := Lib.hid hX
          clear hG hX
          obtain ⟨r, s, a, o, t, d⟩ := x
          obtain ⟨p0, p1, p2, p3, p4, p5⟩ := hck
          simp only at p0 p1 p2 p3 p4 p5
          obtain ⟨A2, c2, rfl, lc2, cm2, op2⟩ := own_open csNt_len dNt hown
          unfold maxLen at cm2
          have hw := hb.size
          go_wp2_with (at_builtin; go_must (refine wpList_append_lies _ rfl _ _ 41 rfl w.heap.size 56 i0 _ 6 48 Try.underlying41 hi0 hz0 hz1 hz2 rfl (by omega) _ G.length (flat csNt G) rfl (hown.alloc _) ⟨wr.heap.size, 0, none⟩ 1 1 [.bool r, .int .i64 s, .int .i64 a, .int .i64 o, .int .i64 t, .bool d] rfl rfl (World.news_of_block (cs := #[.bool r, .int .i64 s, .int .i64 a, .int .i64 o, .int .i64 t, .bool d]) (t := 56) (fr := (0, 0)) (heap_alloc_new wr _)) (by simp [Value.oneCell']) (by omega) (by unfold maxLen; omega) (by omega) (by simp; omega) _ rfl ?_; intro gg9 cp9 w9 hown9 hgrow9 hat9 hlt9))
          have hb9 : Below w.heap.size w w9 := bel_grown (bel_al hb (.cells #[.bool r, .int .i64 s, .int .i64 a, .int .i64 o, .int .i64 t, .bool d] 56)) hgrow9 (own_ge hown)
          have hq := own_push (t := (⟨r, s, a, o, t, d⟩ : Nt)) hown9 rfl
          go_roundw
          case rel => exact ⟨(q + 1) + 1, by omega, by go_num, by rw [gL_app (by rintro ⟨_, c⟩; simp only [Nat.add_sub_cancel] at c; rw [ht] at c; cases c), HG.out, HX.out]; exact hq, hb9⟩
          case measure => simp [intOf]; omega
        · rw [ht] at hcq
          have HS := Lib.hid (gL_set ht hlm)
          clear ht
          obtain ⟨y, hy⟩ : ∃ y, (gL l (q + 1)).getD m dNt = y := ⟨_, rfl⟩
          have hy2 : atNt (gL l (q + 1)) m = y := hy
          rw [hy2] at htk HS
          generalize hG : gL l (q + 1) = G at hown hlen
          have HG := Lib.hid hG
          generalize hX : atNt l (q + 1) = x at hck
          have HX := Lib.hid hX
          clear hG hX
          obtain ⟨r, s, a, o, t, d⟩ := x
          obtain ⟨p0, p1, p2, p3, p4, p5⟩ := hck
          rw [HX.out] at htq HS
          rw [HG.out] at HS hy hlm
          simp only at htq HS
          simp only at p0 p1 p2 p3 p4 p5
          obtain ⟨A2, c2, rfl, lc2, cm2, op2⟩ := own_open csNt_len dNt hown
          unfold maxLen at cm2
          have hw := hb.size
          obtain ⟨gg, rfl, gb, gl, gf, gc⟩ := op2 (by omega)
          obtain ⟨r0, s0, a0, o0, t0, d0⟩ := y
          have em : (G.length : Int) - 1 = (m : Int) := by omega
          have hml : (m : Int) < (G.length : Int) := by omega
          have hmn : m < G.length := by omega
          have hmc : (m : Int) < (c2 : Int) := by omega
          have g4 : wr.cell? ⟨gg, m * 6 + 4, none⟩ = some (.int .i64 t0) := by have hh := gc m 4 hmn (by omega); rw [hy] at hh; simpa [csNt] using hh
          have gf4 := gf (m * 6 + 4)
          have HY := Lib.hid hy
          simp only at htk HS
          have hadd := IntWalk.i64_in (t0 + t) (by omega)
          clear gc gf hy op2 hlm htk hsq hss
          go_wp2
          try go_big_region
          try go_wp2
          have hown6 := own_stored csNt_len dNt hown m 4 hmn (by omega) ⟨r0, s0, a0, o0, t0 + t, d0⟩ (.int .i64 (t0 + t)) (by rw [HY.out]; rfl)
          go_roundw
          case rel => exact ⟨q + 1 + 1, by omega, by go_num, by rw [HS.out]; exact hown6, by repeat (first | (with_reducible assumption) | (exact bel_undr (by with_reducible assumption)) | (with_reducible exact bel_refl _) | (with_reducible refine bel_dr ?_) | (with_reducible refine bel_drN ?_ _) | (with_reducible refine bel_al ?_ _) | (refine bel_set ?_ (by first | (simp; done) | (simp; exact Below.size (by assumption)) | (simp; omega)) _) | (with_reducible refine bel_tr ?_ (by assumption)))⟩
          case measure => simp [intOf]; omega
    · obtain rfl : k = l.length := by omega
      go_wp2
      go_ret
      exact ⟨_, rfl, hown, hb⟩
end Go.Proofs.Ytaieamobjbckdaa
