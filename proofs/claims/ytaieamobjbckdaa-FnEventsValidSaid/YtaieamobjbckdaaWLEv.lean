/- The walk of the law FnEventsValid: for every input it returns true and turns nothing that was there. -/
import Derived.Test.YtaieamobjbckdaaEwP
import Derived.Test.YtaieamobjbckdaaDrE
import Derived.Test.YtaieamobjbckdaaAlive
namespace Go.Proofs.Ytaieamobjbckdaa.FnEventsValid
set_option linter.unusedSimpArgs false
set_option linter.unusedVariables false
open Go.RowKit

set_option maxRecDepth 20000 in
set_option maxHeartbeats 4000000 in
theorem walk (A : Option Addr) (len cap : Nat) (w : World) (h : Cod w A len cap) :
    Calls Try.prog 3 #[.slice A len cap] w fun e w' => e = .returned (.bool true) ∧ Below w.heap.size w w' := by
  by_cases hl : len ≤ 1048576
  · go_enter Try.func3, Try.ntmps3
    go_wp2_with fail
    refine (DrawEventsValid_any w A len cap h).mono ?_
    rintro e1 w1 ⟨A1, c, L, rfl, lc1, cm1, l8, hr, bw⟩
    unfold maxLen at cm1
    obtain ⟨B, hB⟩ : ∃ B, evB L = B := ⟨_, rfl⟩
    have HB := Lib.hid hB
    go_wp2_with fail
    refine (ev_any _ _ _ L _ rfl (by omega) hr).mono ?_
    rintro e2 w2 h2
    obtain ⟨rfl, b2⟩ := h2
    rw [hB]
    replace hr := hr.below b2
    replace bw := bel_tr bw b2
    clear b2
    go_wp2_with fail
    refine (sev_any _ _ _ L _ rfl (by omega) hr).mono ?_
    rintro e3 w3 h3
    obtain ⟨rfl, b3⟩ := h3
    rw [hB]
    replace hr := hr.below b3
    replace bw := bel_tr bw b3
    clear b3 hB
    by_cases hq : B = true ∧ 0 < L.length
    · obtain ⟨rfl, h0⟩ := hq
      have i0 : ((L.length : Int) == 0) = false := beq_eq_false_iff_ne.2 (by omega)
      obtain ⟨lb, lo, rfl, hlb, hlc⟩ := hr h0
      go_upto_region 9 with fail
      obtain ⟨i0, hi0, hz0, hz1, hz2⟩ := info_parts infoEv
      have HR := Lib.hid hr
      obtain ⟨j, hj⟩ : ∃ j, L.length = j + 1 := ⟨L.length - 1, by omega⟩
      obtain ⟨hx0, hx1, hx2, hx3⟩ := hlc j (by omega)
      have htw := evB_twice HB.out h0
      rw [show L.length - 1 = j from by omega] at htw
      obtain ⟨x, hx⟩ : ∃ x, atEv L j = x := ⟨_, rfl⟩
      rw [hx] at hx0 hx1 hx2 hx3 htw
      obtain ⟨x0, x1, x2, x3⟩ := x
      simp only at hx0 hx1 hx2 hx3
      obtain ⟨hh, hhe⟩ : ∃ hh, L.length / 2 = hh := ⟨_, rfl⟩
      have HT := Lib.hid htw
      have HD := Lib.hid (evB_drop HB.out hh)
      have HDL := Lib.hid (show (L.drop hh).length = L.length - hh from List.length_drop ..)
      have hh1 : hh < L.length := by omega
      have hhc : hh < c := by omega
      have iq : (L.length : Int) / 2 = (hh : Int) := by omega
      have iq2 : (L.length : Int).tdiv 2 = (hh : Int) := by rw [Int.tdiv_eq_ediv_of_nonneg (by omega)]; exact iq
      have iw := IntWalk.i64_in (hh : Int) (by omega)
      have ij : (L.length : Int) - 1 = (j : Int) := by omega
      have ij2 := IntWalk.i64_in (j : Int) (by omega)
      have j0 : (0 : Int) ≤ (j : Int) := by omega
      have j1 : (j : Int) < (L.length : Int) := by omega
      have g0 : (0 : Int) ≤ (hh : Int) := by omega
      have g1 : (hh : Int) ≤ (L.length : Int) := by omega
      have g2 : (L.length : Int) ≤ (c : Int) := by omega
      have g3 : ¬ (hh : Int) = (c : Int) := by omega
      have g4 : ¬ c = hh := by omega
      have g5 : ¬ (c : Int) = (hh : Int) := by omega
      have HJ := Lib.hid hj
      clear hx hhe hj htw hlc hr
      refine region_slots (by kernel_rfl) (by kernel_rfl) [24, 25, 26, 27, 28, 29, 30, 31, 32, 33, 34, 35, 36, 37, 38, 39, 40, 41, 42, 43, 44, 2] (fun D us W => ∃ u24 u25 u26 u27 u28 u29 u30 u31 u32 u33 u34 u35 u36 u37 u38 u39 u40 u41 u42 u43 u44 u2 : Value, us = [u24, u25, u26, u27, u28, u29, u30, u31, u32, u33, u34, u35, u36, u37, u38, u39, u40, u41, u42, u43, u44, u2] ∧ (Below w3.heap.size w3 W ∧ (D 7 = true → D 9 = false → W.ownsRow w3.heap.size 28 4 u31 0 []) ∧ (D 9 = true → D 17 = false → W.ownsRow w3.heap.size 28 4 u33 L.length (flat csEv L)) ∧ (D 16 = true → D 17 = false → ∃ b : Nat, u40 = .slice (some ⟨b, 0, none⟩) 1 1 ∧ Blk W b #[.int .i64 x0, .int .i64 x1, .int .i64 x2, .int .i64 x3] 28 ∧ w3.heap.size ≤ b ∧ (D 7 = true → D 9 = false → u31.ownBlock ≠ some b) ∧ (D 9 = true → u33.ownBlock ≠ some b)) ∧ (D 17 = true → W.ownsRow w3.heap.size 28 4 u41 (L.length + 1) (flat csEv (L ++ [⟨x0, x1, x2, x3⟩]))) ∧ (D 17 = true → D 9 = true)) ∧ (D 0 = true → u24 = .slice (some ⟨lb, lo, none⟩) L.length c) ∧ (D 1 = true → u25 = .slice (some ⟨lb, lo, none⟩) L.length c) ∧ (D 2 = true → u26 = .int .i64 L.length) ∧ (D 3 = true → u27 = .int .i64 hh) ∧ (D 4 = true → u28 = .slice (some ⟨lb, lo + hh * 4, none⟩) (L.length - hh) (c - hh)) ∧ (D 5 = true → u29 = .bool true) ∧ (D 6 = true → u30 = .bool true) ∧ (D 7 = true → (∃ b : Nat, u31 = .slice (some ⟨b, 0, none⟩) 0 0)) ∧ (D 8 = true → u32 = .slice (some ⟨lb, lo, none⟩) L.length c) ∧ (D 9 = true → (∃ b cp : Nat, u33 = .slice (some ⟨b, 0, none⟩) L.length cp)) ∧ (D 10 = true → u34 = .slice (some ⟨lb, lo, none⟩) L.length c) ∧ (D 11 = true → u35 = .slice (some ⟨lb, lo, none⟩) L.length c) ∧ (D 12 = true → u36 = .int .i64 L.length) ∧ (D 13 = true → u37 = .int .i64 j) ∧ (D 14 = true → u38 = .pointer (some ⟨lb, lo + j * 4, none⟩)) ∧ (D 15 = true → u39 = .agg #[.int .i64 x0, .int .i64 x1, .int .i64 x2, .int .i64 x3]) ∧ (D 16 = true → (∃ b : Nat, u40 = .slice (some ⟨b, 0, none⟩) 1 1)) ∧ (D 17 = true → (∃ b cp : Nat, u41 = .slice (some ⟨b, 0, none⟩) (L.length + 1) cp)) ∧ (D 18 = true → u42 = .bool false) ∧ (D 19 = true → u43 = .bool true) ∧ (D 20 = true → u44 = .bool true) ∧ (D 21 = true → u2 = .bool true)) ?_ ?_ ?_
      · intro us hu
        obtain ⟨u24, u25, u26, u27, u28, u29, u30, u31, u32, u33, u34, u35, u36, u37, u38, u39, u40, u41, u42, u43, u44, u2, rfl⟩ : ∃ u24 u25 u26 u27 u28 u29 u30 u31 u32 u33 u34 u35 u36 u37 u38 u39 u40 u41 u42 u43 u44 u2, us = [u24, u25, u26, u27, u28, u29, u30, u31, u32, u33, u34, u35, u36, u37, u38, u39, u40, u41, u42, u43, u44, u2] := by
          match us, hu with
          | [u24, u25, u26, u27, u28, u29, u30, u31, u32, u33, u34, u35, u36, u37, u38, u39, u40, u41, u42, u43, u44, u2], _ => exact ⟨_, _, _, _, _, _, _, _, _, _, _, _, _, _, _, _, _, _, _, _, _, _, rfl⟩
        exact ⟨_, _, _, _, _, _, _, _, _, _, _, _, _, _, _, _, _, _, _, _, _, _, rfl, ⟨bel_dr (bel_refl w3), fun h => absurd h (by simp), fun h => absurd h (by simp), fun h => absurd h (by simp), fun h => absurd h (by simp), fun h => absurd h (by simp)⟩, fun h => absurd h (by simp), fun h => absurd h (by simp), fun h => absurd h (by simp), fun h => absurd h (by simp), fun h => absurd h (by simp), fun h => absurd h (by simp), fun h => absurd h (by simp), fun h => absurd h (by simp), fun h => absurd h (by simp), fun h => absurd h (by simp), fun h => absurd h (by simp), fun h => absurd h (by simp), fun h => absurd h (by simp), fun h => absurd h (by simp), fun h => absurd h (by simp), fun h => absurd h (by simp), fun h => absurd h (by simp), fun h => absurd h (by simp), fun h => absurd h (by simp), fun h => absurd h (by simp), fun h => absurd h (by simp), fun h => absurd h (by simp)⟩
      · rintro i o hi ho D us W hu hd hdep ⟨u24, u25, u26, u27, u28, u29, u30, u31, u32, u33, u34, u35, u36, u37, u38, u39, u40, u41, u42, u43, u44, u2, rfl, hJ, f0, f1, f2, f3, f4, f5, f6, f7, f8, f9, f10, f11, f12, f13, f14, f15, f16, f17, f18, f19, f20, f21⟩
        have hi' : i < 22 := by simpa using hi
        clear hi hu
        rcases (show i = 0 ∨ i = 1 ∨ i = 2 ∨ i = 3 ∨ i = 4 ∨ i = 5 ∨ i = 6 ∨ i = 7 ∨ i = 8 ∨ i = 9 ∨ i = 10 ∨ i = 11 ∨ i = 12 ∨ i = 13 ∨ i = 14 ∨ i = 15 ∨ i = 16 ∨ i = 17 ∨ i = 18 ∨ i = 19 ∨ i = 20 ∨ i = 21 from by omega) with rfl | rfl | rfl | rfl | rfl | rfl | rfl | rfl | rfl | rfl | rfl | rfl | rfl | rfl | rfl | rfl | rfl | rfl | rfl | rfl | rfl | rfl
        · simp only [List.getElem?_cons_zero, List.getElem?_cons_succ, Option.some.injEq] at ho
          subst ho
          clear hi'
          clear hdep
          have hI := hJ
          refine wpOp_step rfl (fun K hK => ?_)
          simp only [List.zip_cons_cons, List.zip_nil_right, puts]
          have Hf0 := Lib.hid f0
          have Hf1 := Lib.hid f1
          have Hf2 := Lib.hid f2
          have Hf3 := Lib.hid f3
          have Hf4 := Lib.hid f4
          have Hf5 := Lib.hid f5
          have Hf6 := Lib.hid f6
          have Hf7 := Lib.hid f7
          have Hf8 := Lib.hid f8
          have Hf9 := Lib.hid f9
          have Hf10 := Lib.hid f10
          have Hf11 := Lib.hid f11
          have Hf12 := Lib.hid f12
          have Hf13 := Lib.hid f13
          have Hf14 := Lib.hid f14
          have Hf15 := Lib.hid f15
          have Hf16 := Lib.hid f16
          have Hf17 := Lib.hid f17
          have Hf18 := Lib.hid f18
          have Hf19 := Lib.hid f19
          have Hf20 := Lib.hid f20
          have Hf21 := Lib.hid f21
          have HhK := Lib.hid hK
          have Hhd := Lib.hid hd
          have HhJ := Lib.hid hJ
          clear hd hK hJ f0 f1 f2 f3 f4 f5 f6 f7 f8 f9 f10 f11 f12 f13 f14 f15 f16 f17 f18 f19 f20 f21
          go_simp
          have f0 := Hf0.out
          have f1 := Hf1.out
          have f2 := Hf2.out
          have f3 := Hf3.out
          have f4 := Hf4.out
          have f5 := Hf5.out
          have f6 := Hf6.out
          have f7 := Hf7.out
          have f8 := Hf8.out
          have f9 := Hf9.out
          have f10 := Hf10.out
          have f11 := Hf11.out
          have f12 := Hf12.out
          have f13 := Hf13.out
          have f14 := Hf14.out
          have f15 := Hf15.out
          have f16 := Hf16.out
          have f17 := Hf17.out
          have f18 := Hf18.out
          have f19 := Hf19.out
          have f20 := Hf20.out
          have f21 := Hf21.out
          have hK := HhK.out
          have hd := Hhd.out
          have hJ := HhJ.out
          exact hK _ _ ⟨[(.slice (some ⟨lb, lo, none⟩) L.length c), u25, u26, u27, u28, u29, u30, u31, u32, u33, u34, u35, u36, u37, u38, u39, u40, u41, u42, u43, u44, u2], rfl, by kernel_rfl, _, _, _, _, _, _, _, _, _, _, _, _, _, _, _, _, _, _, _, _, _, _, rfl, hI, (fun _ => rfl), f1, f2, f3, f4, f5, f6, f7, f8, f9, f10, f11, f12, f13, f14, f15, f16, f17, f18, f19, f20, f21⟩
        · simp only [List.getElem?_cons_zero, List.getElem?_cons_succ, Option.some.injEq] at ho
          subst ho
          clear hi'
          clear hdep
          have hI := hJ
          refine wpOp_step rfl (fun K hK => ?_)
          simp only [List.zip_cons_cons, List.zip_nil_right, puts]
          have Hf0 := Lib.hid f0
          have Hf1 := Lib.hid f1
          have Hf2 := Lib.hid f2
          have Hf3 := Lib.hid f3
          have Hf4 := Lib.hid f4
          have Hf5 := Lib.hid f5
          have Hf6 := Lib.hid f6
          have Hf7 := Lib.hid f7
          have Hf8 := Lib.hid f8
          have Hf9 := Lib.hid f9
          have Hf10 := Lib.hid f10
          have Hf11 := Lib.hid f11
          have Hf12 := Lib.hid f12
          have Hf13 := Lib.hid f13
          have Hf14 := Lib.hid f14
          have Hf15 := Lib.hid f15
          have Hf16 := Lib.hid f16
          have Hf17 := Lib.hid f17
          have Hf18 := Lib.hid f18
          have Hf19 := Lib.hid f19
          have Hf20 := Lib.hid f20
          have Hf21 := Lib.hid f21
          have HhK := Lib.hid hK
          have Hhd := Lib.hid hd
          have HhJ := Lib.hid hJ
          clear hd hK hJ f0 f1 f2 f3 f4 f5 f6 f7 f8 f9 f10 f11 f12 f13 f14 f15 f16 f17 f18 f19 f20 f21
          go_simp
          have f0 := Hf0.out
          have f1 := Hf1.out
          have f2 := Hf2.out
          have f3 := Hf3.out
          have f4 := Hf4.out
          have f5 := Hf5.out
          have f6 := Hf6.out
          have f7 := Hf7.out
          have f8 := Hf8.out
          have f9 := Hf9.out
          have f10 := Hf10.out
          have f11 := Hf11.out
          have f12 := Hf12.out
          have f13 := Hf13.out
          have f14 := Hf14.out
          have f15 := Hf15.out
          have f16 := Hf16.out
          have f17 := Hf17.out
          have f18 := Hf18.out
          have f19 := Hf19.out
          have f20 := Hf20.out
          have f21 := Hf21.out
          have hK := HhK.out
          have hd := Hhd.out
          have hJ := HhJ.out
          exact hK _ _ ⟨[u24, (.slice (some ⟨lb, lo, none⟩) L.length c), u26, u27, u28, u29, u30, u31, u32, u33, u34, u35, u36, u37, u38, u39, u40, u41, u42, u43, u44, u2], rfl, by kernel_rfl, _, _, _, _, _, _, _, _, _, _, _, _, _, _, _, _, _, _, _, _, _, _, rfl, hI, f0, (fun _ => rfl), f2, f3, f4, f5, f6, f7, f8, f9, f10, f11, f12, f13, f14, f15, f16, f17, f18, f19, f20, f21⟩
        · simp only [List.getElem?_cons_zero, List.getElem?_cons_succ, Option.some.injEq] at ho
          subst ho
          clear hi'
          have d1 : D 1 = true := hdep ⟨1, Ground.data⟩ (by simp) rfl
          clear hdep
          have hI := hJ
          have q1 := (f1 d1)
          subst q1
          refine wpOp_step rfl (fun K hK => ?_)
          simp only [List.zip_cons_cons, List.zip_nil_right, puts]
          have Hf0 := Lib.hid f0
          have Hf1 := Lib.hid f1
          have Hf2 := Lib.hid f2
          have Hf3 := Lib.hid f3
          have Hf4 := Lib.hid f4
          have Hf5 := Lib.hid f5
          have Hf6 := Lib.hid f6
          have Hf7 := Lib.hid f7
          have Hf8 := Lib.hid f8
          have Hf9 := Lib.hid f9
          have Hf10 := Lib.hid f10
          have Hf11 := Lib.hid f11
          have Hf12 := Lib.hid f12
          have Hf13 := Lib.hid f13
          have Hf14 := Lib.hid f14
          have Hf15 := Lib.hid f15
          have Hf16 := Lib.hid f16
          have Hf17 := Lib.hid f17
          have Hf18 := Lib.hid f18
          have Hf19 := Lib.hid f19
          have Hf20 := Lib.hid f20
          have Hf21 := Lib.hid f21
          have HhK := Lib.hid hK
          have Hhd := Lib.hid hd
          have HhJ := Lib.hid hJ
          clear hd hK hJ f0 f1 f2 f3 f4 f5 f6 f7 f8 f9 f10 f11 f12 f13 f14 f15 f16 f17 f18 f19 f20 f21
          go_simp
          have f0 := Hf0.out
          have f1 := Hf1.out
          have f2 := Hf2.out
          have f3 := Hf3.out
          have f4 := Hf4.out
          have f5 := Hf5.out
          have f6 := Hf6.out
          have f7 := Hf7.out
          have f8 := Hf8.out
          have f9 := Hf9.out
          have f10 := Hf10.out
          have f11 := Hf11.out
          have f12 := Hf12.out
          have f13 := Hf13.out
          have f14 := Hf14.out
          have f15 := Hf15.out
          have f16 := Hf16.out
          have f17 := Hf17.out
          have f18 := Hf18.out
          have f19 := Hf19.out
          have f20 := Hf20.out
          have f21 := Hf21.out
          have hK := HhK.out
          have hd := Hhd.out
          have hJ := HhJ.out
          exact hK _ _ ⟨[u24, (.slice (some ⟨lb, lo, none⟩) L.length c), (.int .i64 L.length), u27, u28, u29, u30, u31, u32, u33, u34, u35, u36, u37, u38, u39, u40, u41, u42, u43, u44, u2], rfl, by kernel_rfl, _, _, _, _, _, _, _, _, _, _, _, _, _, _, _, _, _, _, _, _, _, _, rfl, hI, f0, (fun _ => rfl), (fun _ => rfl), f3, f4, f5, f6, f7, f8, f9, f10, f11, f12, f13, f14, f15, f16, f17, f18, f19, f20, f21⟩
        · simp only [List.getElem?_cons_zero, List.getElem?_cons_succ, Option.some.injEq] at ho
          subst ho
          clear hi'
          have d2 : D 2 = true := hdep ⟨2, Ground.data⟩ (by simp) rfl
          clear hdep
          have hI := hJ
          have q2 := (f2 d2)
          subst q2
          refine wpOp_step rfl (fun K hK => ?_)
          simp only [List.zip_cons_cons, List.zip_nil_right, puts]
          have Hf0 := Lib.hid f0
          have Hf1 := Lib.hid f1
          have Hf2 := Lib.hid f2
          have Hf3 := Lib.hid f3
          have Hf4 := Lib.hid f4
          have Hf5 := Lib.hid f5
          have Hf6 := Lib.hid f6
          have Hf7 := Lib.hid f7
          have Hf8 := Lib.hid f8
          have Hf9 := Lib.hid f9
          have Hf10 := Lib.hid f10
          have Hf11 := Lib.hid f11
          have Hf12 := Lib.hid f12
          have Hf13 := Lib.hid f13
          have Hf14 := Lib.hid f14
          have Hf15 := Lib.hid f15
          have Hf16 := Lib.hid f16
          have Hf17 := Lib.hid f17
          have Hf18 := Lib.hid f18
          have Hf19 := Lib.hid f19
          have Hf20 := Lib.hid f20
          have Hf21 := Lib.hid f21
          have HhK := Lib.hid hK
          have Hhd := Lib.hid hd
          have HhJ := Lib.hid hJ
          clear hd hK hJ f0 f1 f2 f3 f4 f5 f6 f7 f8 f9 f10 f11 f12 f13 f14 f15 f16 f17 f18 f19 f20 f21
          go_simp
          have f0 := Hf0.out
          have f1 := Hf1.out
          have f2 := Hf2.out
          have f3 := Hf3.out
          have f4 := Hf4.out
          have f5 := Hf5.out
          have f6 := Hf6.out
          have f7 := Hf7.out
          have f8 := Hf8.out
          have f9 := Hf9.out
          have f10 := Hf10.out
          have f11 := Hf11.out
          have f12 := Hf12.out
          have f13 := Hf13.out
          have f14 := Hf14.out
          have f15 := Hf15.out
          have f16 := Hf16.out
          have f17 := Hf17.out
          have f18 := Hf18.out
          have f19 := Hf19.out
          have f20 := Hf20.out
          have f21 := Hf21.out
          have hK := HhK.out
          have hd := Hhd.out
          have hJ := HhJ.out
          exact hK _ _ ⟨[u24, u25, (.int .i64 L.length), (.int .i64 hh), u28, u29, u30, u31, u32, u33, u34, u35, u36, u37, u38, u39, u40, u41, u42, u43, u44, u2], rfl, by kernel_rfl, _, _, _, _, _, _, _, _, _, _, _, _, _, _, _, _, _, _, _, _, _, _, rfl, hI, f0, f1, (fun _ => rfl), (fun _ => rfl), f4, f5, f6, f7, f8, f9, f10, f11, f12, f13, f14, f15, f16, f17, f18, f19, f20, f21⟩
        · simp only [List.getElem?_cons_zero, List.getElem?_cons_succ, Option.some.injEq] at ho
          subst ho
          clear hi'
          have d0 : D 0 = true := hdep ⟨0, Ground.data⟩ (by simp) rfl
          have d3 : D 3 = true := hdep ⟨3, Ground.data⟩ (by simp) rfl
          clear hdep
          have hI := hJ
          have q0 := (f0 d0)
          subst q0
          have q3 := (f3 d3)
          subst q3
          refine wpOp_step rfl (fun K hK => ?_)
          simp only [List.zip_cons_cons, List.zip_nil_right, puts]
          have Hf0 := Lib.hid f0
          have Hf1 := Lib.hid f1
          have Hf2 := Lib.hid f2
          have Hf3 := Lib.hid f3
          have Hf4 := Lib.hid f4
          have Hf5 := Lib.hid f5
          have Hf6 := Lib.hid f6
          have Hf7 := Lib.hid f7
          have Hf8 := Lib.hid f8
          have Hf9 := Lib.hid f9
          have Hf10 := Lib.hid f10
          have Hf11 := Lib.hid f11
          have Hf12 := Lib.hid f12
          have Hf13 := Lib.hid f13
          have Hf14 := Lib.hid f14
          have Hf15 := Lib.hid f15
          have Hf16 := Lib.hid f16
          have Hf17 := Lib.hid f17
          have Hf18 := Lib.hid f18
          have Hf19 := Lib.hid f19
          have Hf20 := Lib.hid f20
          have Hf21 := Lib.hid f21
          have HhK := Lib.hid hK
          have Hhd := Lib.hid hd
          have HhJ := Lib.hid hJ
          clear hd hK hJ f0 f1 f2 f3 f4 f5 f6 f7 f8 f9 f10 f11 f12 f13 f14 f15 f16 f17 f18 f19 f20 f21
          go_simp
          have f0 := Hf0.out
          have f1 := Hf1.out
          have f2 := Hf2.out
          have f3 := Hf3.out
          have f4 := Hf4.out
          have f5 := Hf5.out
          have f6 := Hf6.out
          have f7 := Hf7.out
          have f8 := Hf8.out
          have f9 := Hf9.out
          have f10 := Hf10.out
          have f11 := Hf11.out
          have f12 := Hf12.out
          have f13 := Hf13.out
          have f14 := Hf14.out
          have f15 := Hf15.out
          have f16 := Hf16.out
          have f17 := Hf17.out
          have f18 := Hf18.out
          have f19 := Hf19.out
          have f20 := Hf20.out
          have f21 := Hf21.out
          have hK := HhK.out
          have hd := Hhd.out
          have hJ := HhJ.out
          exact hK _ _ ⟨[(.slice (some ⟨lb, lo, none⟩) L.length c), u25, u26, (.int .i64 hh), (.slice (some ⟨lb, lo + hh * 4, none⟩) (L.length - hh) (c - hh)), u29, u30, u31, u32, u33, u34, u35, u36, u37, u38, u39, u40, u41, u42, u43, u44, u2], rfl, by kernel_rfl, _, _, _, _, _, _, _, _, _, _, _, _, _, _, _, _, _, _, _, _, _, _, rfl, hI, (fun _ => rfl), f1, f2, (fun _ => rfl), (fun _ => rfl), f5, f6, f7, f8, f9, f10, f11, f12, f13, f14, f15, f16, f17, f18, f19, f20, f21⟩
        · simp only [List.getElem?_cons_zero, List.getElem?_cons_succ, Option.some.injEq] at ho
          subst ho
          clear hi'
          have d4 : D 4 = true := hdep ⟨4, Ground.data⟩ (by simp) rfl
          clear hdep
          have hI := hJ
          have q4 := (f4 d4)
          subst q4
          have hb := hI.1
          have a1 := hI.2.1
          have a2 := hI.2.2.1
          have a3 := hI.2.2.2.1
          have a4 := hI.2.2.2.2.1
          have a5 := hI.2.2.2.2.2
          have hrW := HR.out.below hb
          refine wpOp_step rfl (fun K hK => ?_)
          simp only [List.zip_cons_cons, List.zip_nil_right, puts]
          have Hf0 := Lib.hid f0
          have Hf1 := Lib.hid f1
          have Hf2 := Lib.hid f2
          have Hf3 := Lib.hid f3
          have Hf4 := Lib.hid f4
          have Hf5 := Lib.hid f5
          have Hf6 := Lib.hid f6
          have Hf7 := Lib.hid f7
          have Hf8 := Lib.hid f8
          have Hf9 := Lib.hid f9
          have Hf10 := Lib.hid f10
          have Hf11 := Lib.hid f11
          have Hf12 := Lib.hid f12
          have Hf13 := Lib.hid f13
          have Hf14 := Lib.hid f14
          have Hf15 := Lib.hid f15
          have Hf16 := Lib.hid f16
          have Hf17 := Lib.hid f17
          have Hf18 := Lib.hid f18
          have Hf19 := Lib.hid f19
          have Hf20 := Lib.hid f20
          have Hf21 := Lib.hid f21
          have HhK := Lib.hid hK
          have Hhd := Lib.hid hd
          have HhJ := Lib.hid hJ
          clear hd hK hJ f0 f1 f2 f3 f4 f5 f6 f7 f8 f9 f10 f11 f12 f13 f14 f15 f16 f17 f18 f19 f20 f21
          go_simp
          go_wp2_with (go_at_call 5; refine (evd_val HD.out _ _ _ _ HDL.out (by omega) (rowEv_drop hrW hh)).mono ?_; rintro e w9 ⟨rfl, b9⟩)
          have f0 := Hf0.out
          have f1 := Hf1.out
          have f2 := Hf2.out
          have f3 := Hf3.out
          have f4 := Hf4.out
          have f5 := Hf5.out
          have f6 := Hf6.out
          have f7 := Hf7.out
          have f8 := Hf8.out
          have f9 := Hf9.out
          have f10 := Hf10.out
          have f11 := Hf11.out
          have f12 := Hf12.out
          have f13 := Hf13.out
          have f14 := Hf14.out
          have f15 := Hf15.out
          have f16 := Hf16.out
          have f17 := Hf17.out
          have f18 := Hf18.out
          have f19 := Hf19.out
          have f20 := Hf20.out
          have f21 := Hf21.out
          have hK := HhK.out
          have hd := Hhd.out
          have hJ := HhJ.out
          exact hK _ _ ⟨[u24, u25, u26, u27, (.slice (some ⟨lb, lo + hh * 4, none⟩) (L.length - hh) (c - hh)), (.bool true), u30, u31, u32, u33, u34, u35, u36, u37, u38, u39, u40, u41, u42, u43, u44, u2], rfl, by kernel_rfl, _, _, _, _, _, _, _, _, _, _, _, _, _, _, _, _, _, _, _, _, _, _, rfl, ⟨bel_tr hb b9, fun p q => own_below (a1 p q) b9, fun p q => own_below (a2 p q) b9, fun p q => by obtain ⟨b, e, hB, hl, n1, n2⟩ := a3 p q; exact ⟨b, e, hB.below b9, hl, n1, n2⟩, fun p => own_below (a4 p) b9, a5⟩, f0, f1, f2, f3, (fun _ => rfl), (fun _ => rfl), f6, f7, f8, f9, f10, f11, f12, f13, f14, f15, f16, f17, f18, f19, f20, f21⟩
        · simp only [List.getElem?_cons_zero, List.getElem?_cons_succ, Option.some.injEq] at ho
          subst ho
          clear hi'
          have d5 : D 5 = true := hdep ⟨5, Ground.data⟩ (by simp) rfl
          clear hdep
          have hI := hJ
          have q5 := (f5 d5)
          subst q5
          refine wpOp_step rfl (fun K hK => ?_)
          simp only [List.zip_cons_cons, List.zip_nil_right, puts]
          have Hf0 := Lib.hid f0
          have Hf1 := Lib.hid f1
          have Hf2 := Lib.hid f2
          have Hf3 := Lib.hid f3
          have Hf4 := Lib.hid f4
          have Hf5 := Lib.hid f5
          have Hf6 := Lib.hid f6
          have Hf7 := Lib.hid f7
          have Hf8 := Lib.hid f8
          have Hf9 := Lib.hid f9
          have Hf10 := Lib.hid f10
          have Hf11 := Lib.hid f11
          have Hf12 := Lib.hid f12
          have Hf13 := Lib.hid f13
          have Hf14 := Lib.hid f14
          have Hf15 := Lib.hid f15
          have Hf16 := Lib.hid f16
          have Hf17 := Lib.hid f17
          have Hf18 := Lib.hid f18
          have Hf19 := Lib.hid f19
          have Hf20 := Lib.hid f20
          have Hf21 := Lib.hid f21
          have HhK := Lib.hid hK
          have Hhd := Lib.hid hd
          have HhJ := Lib.hid hJ
          clear hd hK hJ f0 f1 f2 f3 f4 f5 f6 f7 f8 f9 f10 f11 f12 f13 f14 f15 f16 f17 f18 f19 f20 f21
          go_simp
          have f0 := Hf0.out
          have f1 := Hf1.out
          have f2 := Hf2.out
          have f3 := Hf3.out
          have f4 := Hf4.out
          have f5 := Hf5.out
          have f6 := Hf6.out
          have f7 := Hf7.out
          have f8 := Hf8.out
          have f9 := Hf9.out
          have f10 := Hf10.out
          have f11 := Hf11.out
          have f12 := Hf12.out
          have f13 := Hf13.out
          have f14 := Hf14.out
          have f15 := Hf15.out
          have f16 := Hf16.out
          have f17 := Hf17.out
          have f18 := Hf18.out
          have f19 := Hf19.out
          have f20 := Hf20.out
          have f21 := Hf21.out
          have hK := HhK.out
          have hd := Hhd.out
          have hJ := HhJ.out
          exact hK _ _ ⟨[u24, u25, u26, u27, u28, (.bool true), (.bool true), u31, u32, u33, u34, u35, u36, u37, u38, u39, u40, u41, u42, u43, u44, u2], rfl, by kernel_rfl, _, _, _, _, _, _, _, _, _, _, _, _, _, _, _, _, _, _, _, _, _, _, rfl, hI, f0, f1, f2, f3, f4, (fun _ => rfl), (fun _ => rfl), f7, f8, f9, f10, f11, f12, f13, f14, f15, f16, f17, f18, f19, f20, f21⟩
        · with_reducible refine wpOp_guard (o := o) ?_ ?_ ?_
          · rw [List.getElem?_toArray]; exact ho
          · simp only [List.getElem?_cons_zero, List.getElem?_cons_succ, Option.some.injEq] at ho
            subst ho
            have d6 : D 6 = true := hdep ⟨6, Ground.guard⟩ (by simp) rfl
            have q6 := f6 d6
            subst q6
            show _ = true
            kernel_rfl
          intro K hK
          simp only [List.getElem?_cons_zero, List.getElem?_cons_succ, Option.some.injEq] at ho
          subst ho
          clear hi'
          have d6 : D 6 = true := hdep ⟨6, Ground.guard⟩ (by simp) rfl
          clear hdep
          have hI := hJ
          have q6 := (f6 d6)
          subst q6
          have hb := hI.1
          have a1 := hI.2.1
          have a2 := hI.2.2.1
          have a3 := hI.2.2.2.1
          have a4 := hI.2.2.2.2.1
          have a5 := hI.2.2.2.2.2
          simp only [List.zip_cons_cons, List.zip_nil_right, puts]
          have Hf0 := Lib.hid f0
          have Hf1 := Lib.hid f1
          have Hf2 := Lib.hid f2
          have Hf3 := Lib.hid f3
          have Hf4 := Lib.hid f4
          have Hf5 := Lib.hid f5
          have Hf6 := Lib.hid f6
          have Hf7 := Lib.hid f7
          have Hf8 := Lib.hid f8
          have Hf9 := Lib.hid f9
          have Hf10 := Lib.hid f10
          have Hf11 := Lib.hid f11
          have Hf12 := Lib.hid f12
          have Hf13 := Lib.hid f13
          have Hf14 := Lib.hid f14
          have Hf15 := Lib.hid f15
          have Hf16 := Lib.hid f16
          have Hf17 := Lib.hid f17
          have Hf18 := Lib.hid f18
          have Hf19 := Lib.hid f19
          have Hf20 := Lib.hid f20
          have Hf21 := Lib.hid f21
          have HhK := Lib.hid hK
          have Hhd := Lib.hid hd
          have HhJ := Lib.hid hJ
          clear hd hK hJ f0 f1 f2 f3 f4 f5 f6 f7 f8 f9 f10 f11 f12 f13 f14 f15 f16 f17 f18 f19 f20 f21
          go_simp
          have f0 := Hf0.out
          have f1 := Hf1.out
          have f2 := Hf2.out
          have f3 := Hf3.out
          have f4 := Hf4.out
          have f5 := Hf5.out
          have f6 := Hf6.out
          have f7 := Hf7.out
          have f8 := Hf8.out
          have f9 := Hf9.out
          have f10 := Hf10.out
          have f11 := Hf11.out
          have f12 := Hf12.out
          have f13 := Hf13.out
          have f14 := Hf14.out
          have f15 := Hf15.out
          have f16 := Hf16.out
          have f17 := Hf17.out
          have f18 := Hf18.out
          have f19 := Hf19.out
          have f20 := Hf20.out
          have f21 := Hf21.out
          have hK := HhK.out
          have hd := Hhd.out
          have hJ := HhJ.out
          exact hK _ _ ⟨[u24, u25, u26, u27, u28, u29, (.bool true), (.slice (some ⟨W.heap.size, 0, none⟩) 0 0), u32, u33, u34, u35, u36, u37, u38, u39, u40, u41, u42, u43, u44, u2], rfl, by kernel_rfl, _, _, _, _, _, _, _, _, _, _, _, _, _, _, _, _, _, _, _, _, _, _, rfl, ⟨bel_tr hb (bel_al (bel_refl W) (.cells #[] 28)), fun _ _ => World.ownsRow_lit W #[] 0 hb.size (by simp [maxLen]) rfl, fun p q => own_below (a2 p q) (bel_al (bel_refl W) (.cells #[] 28)), fun p q => by obtain ⟨b, e, hB, hl, n1, n2⟩ := a3 p q; exact ⟨b, e, hB.below (bel_al (bel_refl W) (.cells #[] 28)), hl, fun _ _ e2 => (by have := hB.lt; have e3 : W.heap.size = b := Option.some.inj e2; omega), n2⟩, fun p => own_below (a4 p) (bel_al (bel_refl W) (.cells #[] 28)), a5⟩, f0, f1, f2, f3, f4, f5, (fun _ => rfl), (fun _ => ⟨_, rfl⟩), f8, f9, f10, f11, f12, f13, f14, f15, f16, f17, f18, f19, f20, f21⟩
        · with_reducible refine wpOp_guard (o := o) ?_ ?_ ?_
          · rw [List.getElem?_toArray]; exact ho
          · simp only [List.getElem?_cons_zero, List.getElem?_cons_succ, Option.some.injEq] at ho
            subst ho
            have d6 : D 6 = true := hdep ⟨6, Ground.guard⟩ (by simp) rfl
            have q6 := f6 d6
            subst q6
            show _ = true
            kernel_rfl
          intro K hK
          simp only [List.getElem?_cons_zero, List.getElem?_cons_succ, Option.some.injEq] at ho
          subst ho
          clear hi'
          have d6 : D 6 = true := hdep ⟨6, Ground.guard⟩ (by simp) rfl
          clear hdep
          have hI := hJ
          have q6 := (f6 d6)
          subst q6
          simp only [List.zip_cons_cons, List.zip_nil_right, puts]
          have Hf0 := Lib.hid f0
          have Hf1 := Lib.hid f1
          have Hf2 := Lib.hid f2
          have Hf3 := Lib.hid f3
          have Hf4 := Lib.hid f4
          have Hf5 := Lib.hid f5
          have Hf6 := Lib.hid f6
          have Hf7 := Lib.hid f7
          have Hf8 := Lib.hid f8
          have Hf9 := Lib.hid f9
          have Hf10 := Lib.hid f10
          have Hf11 := Lib.hid f11
          have Hf12 := Lib.hid f12
          have Hf13 := Lib.hid f13
          have Hf14 := Lib.hid f14
          have Hf15 := Lib.hid f15
          have Hf16 := Lib.hid f16
          have Hf17 := Lib.hid f17
          have Hf18 := Lib.hid f18
          have Hf19 := Lib.hid f19
          have Hf20 := Lib.hid f20
          have Hf21 := Lib.hid f21
          have HhK := Lib.hid hK
          have Hhd := Lib.hid hd
          have HhJ := Lib.hid hJ
          clear hd hK hJ f0 f1 f2 f3 f4 f5 f6 f7 f8 f9 f10 f11 f12 f13 f14 f15 f16 f17 f18 f19 f20 f21
          go_simp
          have f0 := Hf0.out
          have f1 := Hf1.out
          have f2 := Hf2.out
          have f3 := Hf3.out
          have f4 := Hf4.out
          have f5 := Hf5.out
          have f6 := Hf6.out
          have f7 := Hf7.out
          have f8 := Hf8.out
          have f9 := Hf9.out
          have f10 := Hf10.out
          have f11 := Hf11.out
          have f12 := Hf12.out
          have f13 := Hf13.out
          have f14 := Hf14.out
          have f15 := Hf15.out
          have f16 := Hf16.out
          have f17 := Hf17.out
          have f18 := Hf18.out
          have f19 := Hf19.out
          have f20 := Hf20.out
          have f21 := Hf21.out
          have hK := HhK.out
          have hd := Hhd.out
          have hJ := HhJ.out
          exact hK _ _ ⟨[u24, u25, u26, u27, u28, u29, (.bool true), u31, (.slice (some ⟨lb, lo, none⟩) L.length c), u33, u34, u35, u36, u37, u38, u39, u40, u41, u42, u43, u44, u2], rfl, by kernel_rfl, _, _, _, _, _, _, _, _, _, _, _, _, _, _, _, _, _, _, _, _, _, _, rfl, hI, f0, f1, f2, f3, f4, f5, (fun _ => rfl), f7, (fun _ => rfl), f9, f10, f11, f12, f13, f14, f15, f16, f17, f18, f19, f20, f21⟩
        · with_reducible refine wpOp_guard (o := o) ?_ ?_ ?_
          · rw [List.getElem?_toArray]; exact ho
          · simp only [List.getElem?_cons_zero, List.getElem?_cons_succ, Option.some.injEq] at ho
            subst ho
            have d6 : D 6 = true := hdep ⟨6, Ground.guard⟩ (by simp) rfl
            have q6 := f6 d6
            subst q6
            show _ = true
            kernel_rfl
          intro K hK
          simp only [List.getElem?_cons_zero, List.getElem?_cons_succ, Option.some.injEq] at ho
          subst ho
          clear hi'
          have d6 : D 6 = true := hdep ⟨6, Ground.guard⟩ (by simp) rfl
          have d7 : D 7 = true := hdep ⟨7, Ground.data⟩ (by simp) rfl
          have d8 : D 8 = true := hdep ⟨8, Ground.data⟩ (by simp) rfl
          clear hdep
          have hI := hJ
          have q6 := (f6 d6)
          subst q6
          refine Exists.elim (f7 d7) (fun b7 q7 => ?_)
          subst q7
          have q8 := (f8 d8)
          subst q8
          have hb := hI.1
          have a1 := hI.2.1
          have a2 := hI.2.2.1
          have a3 := hI.2.2.2.1
          have a4 := hI.2.2.2.2.1
          have a5 := hI.2.2.2.2.2
          have o7 := a1 d7 hd
          have hrW := HR.out.below hb
          simp only [List.zip_cons_cons, List.zip_nil_right, puts]
          have Hf0 := Lib.hid f0
          have Hf1 := Lib.hid f1
          have Hf2 := Lib.hid f2
          have Hf3 := Lib.hid f3
          have Hf4 := Lib.hid f4
          have Hf5 := Lib.hid f5
          have Hf6 := Lib.hid f6
          have Hf7 := Lib.hid f7
          have Hf8 := Lib.hid f8
          have Hf9 := Lib.hid f9
          have Hf10 := Lib.hid f10
          have Hf11 := Lib.hid f11
          have Hf12 := Lib.hid f12
          have Hf13 := Lib.hid f13
          have Hf14 := Lib.hid f14
          have Hf15 := Lib.hid f15
          have Hf16 := Lib.hid f16
          have Hf17 := Lib.hid f17
          have Hf18 := Lib.hid f18
          have Hf19 := Lib.hid f19
          have Hf20 := Lib.hid f20
          have Hf21 := Lib.hid f21
          have HhK := Lib.hid hK
          have Hhd := Lib.hid hd
          have HhJ := Lib.hid hJ
          clear hd hK hJ f0 f1 f2 f3 f4 f5 f6 f7 f8 f9 f10 f11 f12 f13 f14 f15 f16 f17 f18 f19 f20 f21
          have hN := @rowEv_news
          refine wp_append_lies _ (.tmp 31) (.tmp 32) 23 (by rfl) w3.heap.size 28 i0 _ 4 32 Try.underlying23 hi0 hz0 hz1 hz2 rfl (by omega) (.slice (some ⟨b7, 0, none⟩) 0 0) 0 [] (by show _ = _; kernel_rfl) o7 ⟨lb, lo, none⟩ L.length c (flat csEv L) (by show _ = _; kernel_rfl) (flat_len csEv_len L) (rowEv_news hrW) (flatEv_one L) (by omega) (by unfold maxLen; omega) (by omega) hb.size _ rfl ?_
          intro gg cp w9 hown9 hgrow9 hat9 hlt9
          simp only [Nat.zero_add, List.nil_append] at hown9 ⊢
          have f0 := Hf0.out
          have f1 := Hf1.out
          have f2 := Hf2.out
          have f3 := Hf3.out
          have f4 := Hf4.out
          have f5 := Hf5.out
          have f6 := Hf6.out
          have f7 := Hf7.out
          have f8 := Hf8.out
          have f9 := Hf9.out
          have f10 := Hf10.out
          have f11 := Hf11.out
          have f12 := Hf12.out
          have f13 := Hf13.out
          have f14 := Hf14.out
          have f15 := Hf15.out
          have f16 := Hf16.out
          have f17 := Hf17.out
          have f18 := Hf18.out
          have f19 := Hf19.out
          have f20 := Hf20.out
          have f21 := Hf21.out
          have hK := HhK.out
          have hd := Hhd.out
          have hJ := HhJ.out
          exact hK _ _ ⟨[u24, u25, u26, u27, u28, u29, (.bool true), (.slice (some ⟨b7, 0, none⟩) 0 0), (.slice (some ⟨lb, lo, none⟩) L.length c), (.slice (some ⟨gg, 0, none⟩) L.length cp), u34, u35, u36, u37, u38, u39, u40, u41, u42, u43, u44, u2], rfl, by kernel_rfl, _, _, _, _, _, _, _, _, _, _, _, _, _, _, _, _, _, _, _, _, _, _, rfl, ⟨bel_grown hb hgrow9 (fun k hk => own_ge o7 k hk), fun _ q => Bool.noConfusion (show true = false from q), fun _ _ => hown9, fun p q => by obtain ⟨b, e, hB, hl, n1, n2⟩ := a3 p q; have hne := n1 d7 hd; exact ⟨b, e, hB.grown hgrow9 hne, hl, fun _ q => Bool.noConfusion (show true = false from q), fun _ e3 => (by have e4 : gg = b := Option.some.inj e3; subst e4; exact hat9.elim hne (fun h => absurd hB.lt (by omega)))⟩, fun p => absurd (a5 p) (by rw [hd]; simp), fun _ => rfl⟩, f0, f1, f2, f3, f4, f5, (fun _ => rfl), f7, (fun _ => rfl), (fun _ => ⟨_, _, rfl⟩), f10, f11, f12, f13, f14, f15, f16, f17, f18, f19, f20, f21⟩
        · with_reducible refine wpOp_guard (o := o) ?_ ?_ ?_
          · rw [List.getElem?_toArray]; exact ho
          · simp only [List.getElem?_cons_zero, List.getElem?_cons_succ, Option.some.injEq] at ho
            subst ho
            have d6 : D 6 = true := hdep ⟨6, Ground.guard⟩ (by simp) rfl
            have q6 := f6 d6
            subst q6
            show _ = true
            kernel_rfl
          intro K hK
          simp only [List.getElem?_cons_zero, List.getElem?_cons_succ, Option.some.injEq] at ho
          subst ho
          clear hi'
          have d6 : D 6 = true := hdep ⟨6, Ground.guard⟩ (by simp) rfl
          clear hdep
          have hI := hJ
          have q6 := (f6 d6)
          subst q6
          simp only [List.zip_cons_cons, List.zip_nil_right, puts]
          have Hf0 := Lib.hid f0
          have Hf1 := Lib.hid f1
          have Hf2 := Lib.hid f2
          have Hf3 := Lib.hid f3
          have Hf4 := Lib.hid f4
          have Hf5 := Lib.hid f5
          have Hf6 := Lib.hid f6
          have Hf7 := Lib.hid f7
          have Hf8 := Lib.hid f8
          have Hf9 := Lib.hid f9
          have Hf10 := Lib.hid f10
          have Hf11 := Lib.hid f11
          have Hf12 := Lib.hid f12
          have Hf13 := Lib.hid f13
          have Hf14 := Lib.hid f14
          have Hf15 := Lib.hid f15
          have Hf16 := Lib.hid f16
          have Hf17 := Lib.hid f17
          have Hf18 := Lib.hid f18
          have Hf19 := Lib.hid f19
          have Hf20 := Lib.hid f20
          have Hf21 := Lib.hid f21
          have HhK := Lib.hid hK
          have Hhd := Lib.hid hd
          have HhJ := Lib.hid hJ
          clear hd hK hJ f0 f1 f2 f3 f4 f5 f6 f7 f8 f9 f10 f11 f12 f13 f14 f15 f16 f17 f18 f19 f20 f21
          go_simp
          have f0 := Hf0.out
          have f1 := Hf1.out
          have f2 := Hf2.out
          have f3 := Hf3.out
          have f4 := Hf4.out
          have f5 := Hf5.out
          have f6 := Hf6.out
          have f7 := Hf7.out
          have f8 := Hf8.out
          have f9 := Hf9.out
          have f10 := Hf10.out
          have f11 := Hf11.out
          have f12 := Hf12.out
          have f13 := Hf13.out
          have f14 := Hf14.out
          have f15 := Hf15.out
          have f16 := Hf16.out
          have f17 := Hf17.out
          have f18 := Hf18.out
          have f19 := Hf19.out
          have f20 := Hf20.out
          have f21 := Hf21.out
          have hK := HhK.out
          have hd := Hhd.out
          have hJ := HhJ.out
          exact hK _ _ ⟨[u24, u25, u26, u27, u28, u29, (.bool true), u31, u32, u33, (.slice (some ⟨lb, lo, none⟩) L.length c), u35, u36, u37, u38, u39, u40, u41, u42, u43, u44, u2], rfl, by kernel_rfl, _, _, _, _, _, _, _, _, _, _, _, _, _, _, _, _, _, _, _, _, _, _, rfl, hI, f0, f1, f2, f3, f4, f5, (fun _ => rfl), f7, f8, f9, (fun _ => rfl), f11, f12, f13, f14, f15, f16, f17, f18, f19, f20, f21⟩
        · with_reducible refine wpOp_guard (o := o) ?_ ?_ ?_
          · rw [List.getElem?_toArray]; exact ho
          · simp only [List.getElem?_cons_zero, List.getElem?_cons_succ, Option.some.injEq] at ho
            subst ho
            have d6 : D 6 = true := hdep ⟨6, Ground.guard⟩ (by simp) rfl
            have q6 := f6 d6
            subst q6
            show _ = true
            kernel_rfl
          intro K hK
          simp only [List.getElem?_cons_zero, List.getElem?_cons_succ, Option.some.injEq] at ho
          subst ho
          clear hi'
          have d6 : D 6 = true := hdep ⟨6, Ground.guard⟩ (by simp) rfl
          clear hdep
          have hI := hJ
          have q6 := (f6 d6)
          subst q6
          simp only [List.zip_cons_cons, List.zip_nil_right, puts]
          have Hf0 := Lib.hid f0
          have Hf1 := Lib.hid f1
          have Hf2 := Lib.hid f2
          have Hf3 := Lib.hid f3
          have Hf4 := Lib.hid f4
          have Hf5 := Lib.hid f5
          have Hf6 := Lib.hid f6
          have Hf7 := Lib.hid f7
          have Hf8 := Lib.hid f8
          have Hf9 := Lib.hid f9
          have Hf10 := Lib.hid f10
          have Hf11 := Lib.hid f11
          have Hf12 := Lib.hid f12
          have Hf13 := Lib.hid f13
          have Hf14 := Lib.hid f14
          have Hf15 := Lib.hid f15
          have Hf16 := Lib.hid f16
          have Hf17 := Lib.hid f17
          have Hf18 := Lib.hid f18
          have Hf19 := Lib.hid f19
          have Hf20 := Lib.hid f20
          have Hf21 := Lib.hid f21
          have HhK := Lib.hid hK
          have Hhd := Lib.hid hd
          have HhJ := Lib.hid hJ
          clear hd hK hJ f0 f1 f2 f3 f4 f5 f6 f7 f8 f9 f10 f11 f12 f13 f14 f15 f16 f17 f18 f19 f20 f21
          go_simp
          have f0 := Hf0.out
          have f1 := Hf1.out
          have f2 := Hf2.out
          have f3 := Hf3.out
          have f4 := Hf4.out
          have f5 := Hf5.out
          have f6 := Hf6.out
          have f7 := Hf7.out
          have f8 := Hf8.out
          have f9 := Hf9.out
          have f10 := Hf10.out
          have f11 := Hf11.out
          have f12 := Hf12.out
          have f13 := Hf13.out
          have f14 := Hf14.out
          have f15 := Hf15.out
          have f16 := Hf16.out
          have f17 := Hf17.out
          have f18 := Hf18.out
          have f19 := Hf19.out
          have f20 := Hf20.out
          have f21 := Hf21.out
          have hK := HhK.out
          have hd := Hhd.out
          have hJ := HhJ.out
          exact hK _ _ ⟨[u24, u25, u26, u27, u28, u29, (.bool true), u31, u32, u33, u34, (.slice (some ⟨lb, lo, none⟩) L.length c), u36, u37, u38, u39, u40, u41, u42, u43, u44, u2], rfl, by kernel_rfl, _, _, _, _, _, _, _, _, _, _, _, _, _, _, _, _, _, _, _, _, _, _, rfl, hI, f0, f1, f2, f3, f4, f5, (fun _ => rfl), f7, f8, f9, f10, (fun _ => rfl), f12, f13, f14, f15, f16, f17, f18, f19, f20, f21⟩
        · with_reducible refine wpOp_guard (o := o) ?_ ?_ ?_
          · rw [List.getElem?_toArray]; exact ho
          · simp only [List.getElem?_cons_zero, List.getElem?_cons_succ, Option.some.injEq] at ho
            subst ho
            have d6 : D 6 = true := hdep ⟨6, Ground.guard⟩ (by simp) rfl
            have q6 := f6 d6
            subst q6
            show _ = true
            kernel_rfl
          intro K hK
          simp only [List.getElem?_cons_zero, List.getElem?_cons_succ, Option.some.injEq] at ho
          subst ho
          clear hi'
          have d6 : D 6 = true := hdep ⟨6, Ground.guard⟩ (by simp) rfl
          have d11 : D 11 = true := hdep ⟨11, Ground.data⟩ (by simp) rfl
          clear hdep
          have hI := hJ
          have q6 := (f6 d6)
          subst q6
          have q11 := (f11 d11)
          subst q11
          simp only [List.zip_cons_cons, List.zip_nil_right, puts]
          have Hf0 := Lib.hid f0
          have Hf1 := Lib.hid f1
          have Hf2 := Lib.hid f2
          have Hf3 := Lib.hid f3
          have Hf4 := Lib.hid f4
          have Hf5 := Lib.hid f5
          have Hf6 := Lib.hid f6
          have Hf7 := Lib.hid f7
          have Hf8 := Lib.hid f8
          have Hf9 := Lib.hid f9
          have Hf10 := Lib.hid f10
          have Hf11 := Lib.hid f11
          have Hf12 := Lib.hid f12
          have Hf13 := Lib.hid f13
          have Hf14 := Lib.hid f14
          have Hf15 := Lib.hid f15
          have Hf16 := Lib.hid f16
          have Hf17 := Lib.hid f17
          have Hf18 := Lib.hid f18
          have Hf19 := Lib.hid f19
          have Hf20 := Lib.hid f20
          have Hf21 := Lib.hid f21
          have HhK := Lib.hid hK
          have Hhd := Lib.hid hd
          have HhJ := Lib.hid hJ
          clear hd hK hJ f0 f1 f2 f3 f4 f5 f6 f7 f8 f9 f10 f11 f12 f13 f14 f15 f16 f17 f18 f19 f20 f21
          go_simp
          have f0 := Hf0.out
          have f1 := Hf1.out
          have f2 := Hf2.out
          have f3 := Hf3.out
          have f4 := Hf4.out
          have f5 := Hf5.out
          have f6 := Hf6.out
          have f7 := Hf7.out
          have f8 := Hf8.out
          have f9 := Hf9.out
          have f10 := Hf10.out
          have f11 := Hf11.out
          have f12 := Hf12.out
          have f13 := Hf13.out
          have f14 := Hf14.out
          have f15 := Hf15.out
          have f16 := Hf16.out
          have f17 := Hf17.out
          have f18 := Hf18.out
          have f19 := Hf19.out
          have f20 := Hf20.out
          have f21 := Hf21.out
          have hK := HhK.out
          have hd := Hhd.out
          have hJ := HhJ.out
          exact hK _ _ ⟨[u24, u25, u26, u27, u28, u29, (.bool true), u31, u32, u33, u34, (.slice (some ⟨lb, lo, none⟩) L.length c), (.int .i64 L.length), u37, u38, u39, u40, u41, u42, u43, u44, u2], rfl, by kernel_rfl, _, _, _, _, _, _, _, _, _, _, _, _, _, _, _, _, _, _, _, _, _, _, rfl, hI, f0, f1, f2, f3, f4, f5, (fun _ => rfl), f7, f8, f9, f10, (fun _ => rfl), (fun _ => rfl), f13, f14, f15, f16, f17, f18, f19, f20, f21⟩
        · with_reducible refine wpOp_guard (o := o) ?_ ?_ ?_
          · rw [List.getElem?_toArray]; exact ho
          · simp only [List.getElem?_cons_zero, List.getElem?_cons_succ, Option.some.injEq] at ho
            subst ho
            have d6 : D 6 = true := hdep ⟨6, Ground.guard⟩ (by simp) rfl
            have q6 := f6 d6
            subst q6
            show _ = true
            kernel_rfl
          intro K hK
          simp only [List.getElem?_cons_zero, List.getElem?_cons_succ, Option.some.injEq] at ho
          subst ho
          clear hi'
          have d6 : D 6 = true := hdep ⟨6, Ground.guard⟩ (by simp) rfl
          have d12 : D 12 = true := hdep ⟨12, Ground.data⟩ (by simp) rfl
          clear hdep
          have hI := hJ
          have q6 := (f6 d6)
          subst q6
          have q12 := (f12 d12)
          subst q12
          simp only [List.zip_cons_cons, List.zip_nil_right, puts]
          have Hf0 := Lib.hid f0
          have Hf1 := Lib.hid f1
          have Hf2 := Lib.hid f2
          have Hf3 := Lib.hid f3
          have Hf4 := Lib.hid f4
          have Hf5 := Lib.hid f5
          have Hf6 := Lib.hid f6
          have Hf7 := Lib.hid f7
          have Hf8 := Lib.hid f8
          have Hf9 := Lib.hid f9
          have Hf10 := Lib.hid f10
          have Hf11 := Lib.hid f11
          have Hf12 := Lib.hid f12
          have Hf13 := Lib.hid f13
          have Hf14 := Lib.hid f14
          have Hf15 := Lib.hid f15
          have Hf16 := Lib.hid f16
          have Hf17 := Lib.hid f17
          have Hf18 := Lib.hid f18
          have Hf19 := Lib.hid f19
          have Hf20 := Lib.hid f20
          have Hf21 := Lib.hid f21
          have HhK := Lib.hid hK
          have Hhd := Lib.hid hd
          have HhJ := Lib.hid hJ
          clear hd hK hJ f0 f1 f2 f3 f4 f5 f6 f7 f8 f9 f10 f11 f12 f13 f14 f15 f16 f17 f18 f19 f20 f21
          go_simp
          have f0 := Hf0.out
          have f1 := Hf1.out
          have f2 := Hf2.out
          have f3 := Hf3.out
          have f4 := Hf4.out
          have f5 := Hf5.out
          have f6 := Hf6.out
          have f7 := Hf7.out
          have f8 := Hf8.out
          have f9 := Hf9.out
          have f10 := Hf10.out
          have f11 := Hf11.out
          have f12 := Hf12.out
          have f13 := Hf13.out
          have f14 := Hf14.out
          have f15 := Hf15.out
          have f16 := Hf16.out
          have f17 := Hf17.out
          have f18 := Hf18.out
          have f19 := Hf19.out
          have f20 := Hf20.out
          have f21 := Hf21.out
          have hK := HhK.out
          have hd := Hhd.out
          have hJ := HhJ.out
          exact hK _ _ ⟨[u24, u25, u26, u27, u28, u29, (.bool true), u31, u32, u33, u34, u35, (.int .i64 L.length), (.int .i64 j), u38, u39, u40, u41, u42, u43, u44, u2], rfl, by kernel_rfl, _, _, _, _, _, _, _, _, _, _, _, _, _, _, _, _, _, _, _, _, _, _, rfl, hI, f0, f1, f2, f3, f4, f5, (fun _ => rfl), f7, f8, f9, f10, f11, (fun _ => rfl), (fun _ => rfl), f14, f15, f16, f17, f18, f19, f20, f21⟩
        · with_reducible refine wpOp_guard (o := o) ?_ ?_ ?_
          · rw [List.getElem?_toArray]; exact ho
          · simp only [List.getElem?_cons_zero, List.getElem?_cons_succ, Option.some.injEq] at ho
            subst ho
            have d6 : D 6 = true := hdep ⟨6, Ground.guard⟩ (by simp) rfl
            have q6 := f6 d6
            subst q6
            show _ = true
            kernel_rfl
          intro K hK
          simp only [List.getElem?_cons_zero, List.getElem?_cons_succ, Option.some.injEq] at ho
          subst ho
          clear hi'
          have d6 : D 6 = true := hdep ⟨6, Ground.guard⟩ (by simp) rfl
          have d10 : D 10 = true := hdep ⟨10, Ground.data⟩ (by simp) rfl
          have d13 : D 13 = true := hdep ⟨13, Ground.data⟩ (by simp) rfl
          clear hdep
          have hI := hJ
          have q6 := (f6 d6)
          subst q6
          have q10 := (f10 d10)
          subst q10
          have q13 := (f13 d13)
          subst q13
          simp only [List.zip_cons_cons, List.zip_nil_right, puts]
          have Hf0 := Lib.hid f0
          have Hf1 := Lib.hid f1
          have Hf2 := Lib.hid f2
          have Hf3 := Lib.hid f3
          have Hf4 := Lib.hid f4
          have Hf5 := Lib.hid f5
          have Hf6 := Lib.hid f6
          have Hf7 := Lib.hid f7
          have Hf8 := Lib.hid f8
          have Hf9 := Lib.hid f9
          have Hf10 := Lib.hid f10
          have Hf11 := Lib.hid f11
          have Hf12 := Lib.hid f12
          have Hf13 := Lib.hid f13
          have Hf14 := Lib.hid f14
          have Hf15 := Lib.hid f15
          have Hf16 := Lib.hid f16
          have Hf17 := Lib.hid f17
          have Hf18 := Lib.hid f18
          have Hf19 := Lib.hid f19
          have Hf20 := Lib.hid f20
          have Hf21 := Lib.hid f21
          have HhK := Lib.hid hK
          have Hhd := Lib.hid hd
          have HhJ := Lib.hid hJ
          clear hd hK hJ f0 f1 f2 f3 f4 f5 f6 f7 f8 f9 f10 f11 f12 f13 f14 f15 f16 f17 f18 f19 f20 f21
          go_simp
          have f0 := Hf0.out
          have f1 := Hf1.out
          have f2 := Hf2.out
          have f3 := Hf3.out
          have f4 := Hf4.out
          have f5 := Hf5.out
          have f6 := Hf6.out
          have f7 := Hf7.out
          have f8 := Hf8.out
          have f9 := Hf9.out
          have f10 := Hf10.out
          have f11 := Hf11.out
          have f12 := Hf12.out
          have f13 := Hf13.out
          have f14 := Hf14.out
          have f15 := Hf15.out
          have f16 := Hf16.out
          have f17 := Hf17.out
          have f18 := Hf18.out
          have f19 := Hf19.out
          have f20 := Hf20.out
          have f21 := Hf21.out
          have hK := HhK.out
          have hd := Hhd.out
          have hJ := HhJ.out
          exact hK _ _ ⟨[u24, u25, u26, u27, u28, u29, (.bool true), u31, u32, u33, (.slice (some ⟨lb, lo, none⟩) L.length c), u35, u36, (.int .i64 j), (.pointer (some ⟨lb, lo + j * 4, none⟩)), u39, u40, u41, u42, u43, u44, u2], rfl, by kernel_rfl, _, _, _, _, _, _, _, _, _, _, _, _, _, _, _, _, _, _, _, _, _, _, rfl, hI, f0, f1, f2, f3, f4, f5, (fun _ => rfl), f7, f8, f9, (fun _ => rfl), f11, f12, (fun _ => rfl), (fun _ => rfl), f15, f16, f17, f18, f19, f20, f21⟩
        · with_reducible refine wpOp_guard (o := o) ?_ ?_ ?_
          · rw [List.getElem?_toArray]; exact ho
          · simp only [List.getElem?_cons_zero, List.getElem?_cons_succ, Option.some.injEq] at ho
            subst ho
            have d6 : D 6 = true := hdep ⟨6, Ground.guard⟩ (by simp) rfl
            have q6 := f6 d6
            subst q6
            show _ = true
            kernel_rfl
          intro K hK
          simp only [List.getElem?_cons_zero, List.getElem?_cons_succ, Option.some.injEq] at ho
          subst ho
          clear hi'
          have d6 : D 6 = true := hdep ⟨6, Ground.guard⟩ (by simp) rfl
          have d14 : D 14 = true := hdep ⟨14, Ground.data⟩ (by simp) rfl
          clear hdep
          have hI := hJ
          have q6 := (f6 d6)
          subst q6
          have q14 := (f14 d14)
          subst q14
          have e0 := keep_tr hx0 hI.1
          have e1 := keep_tr hx1 hI.1
          have e2 := keep_tr hx2 hI.1
          have e3 := keep_tr hx3 hI.1
          simp only [List.zip_cons_cons, List.zip_nil_right, puts]
          have Hf0 := Lib.hid f0
          have Hf1 := Lib.hid f1
          have Hf2 := Lib.hid f2
          have Hf3 := Lib.hid f3
          have Hf4 := Lib.hid f4
          have Hf5 := Lib.hid f5
          have Hf6 := Lib.hid f6
          have Hf7 := Lib.hid f7
          have Hf8 := Lib.hid f8
          have Hf9 := Lib.hid f9
          have Hf10 := Lib.hid f10
          have Hf11 := Lib.hid f11
          have Hf12 := Lib.hid f12
          have Hf13 := Lib.hid f13
          have Hf14 := Lib.hid f14
          have Hf15 := Lib.hid f15
          have Hf16 := Lib.hid f16
          have Hf17 := Lib.hid f17
          have Hf18 := Lib.hid f18
          have Hf19 := Lib.hid f19
          have Hf20 := Lib.hid f20
          have Hf21 := Lib.hid f21
          have HhK := Lib.hid hK
          have Hhd := Lib.hid hd
          have HhJ := Lib.hid hJ
          clear hd hK hJ f0 f1 f2 f3 f4 f5 f6 f7 f8 f9 f10 f11 f12 f13 f14 f15 f16 f17 f18 f19 f20 f21
          go_simp
          have f0 := Hf0.out
          have f1 := Hf1.out
          have f2 := Hf2.out
          have f3 := Hf3.out
          have f4 := Hf4.out
          have f5 := Hf5.out
          have f6 := Hf6.out
          have f7 := Hf7.out
          have f8 := Hf8.out
          have f9 := Hf9.out
          have f10 := Hf10.out
          have f11 := Hf11.out
          have f12 := Hf12.out
          have f13 := Hf13.out
          have f14 := Hf14.out
          have f15 := Hf15.out
          have f16 := Hf16.out
          have f17 := Hf17.out
          have f18 := Hf18.out
          have f19 := Hf19.out
          have f20 := Hf20.out
          have f21 := Hf21.out
          have hK := HhK.out
          have hd := Hhd.out
          have hJ := HhJ.out
          exact hK _ _ ⟨[u24, u25, u26, u27, u28, u29, (.bool true), u31, u32, u33, u34, u35, u36, u37, (.pointer (some ⟨lb, lo + j * 4, none⟩)), (.agg #[.int .i64 x0, .int .i64 x1, .int .i64 x2, .int .i64 x3]), u40, u41, u42, u43, u44, u2], rfl, by kernel_rfl, _, _, _, _, _, _, _, _, _, _, _, _, _, _, _, _, _, _, _, _, _, _, rfl, hI, f0, f1, f2, f3, f4, f5, (fun _ => rfl), f7, f8, f9, f10, f11, f12, f13, (fun _ => rfl), (fun _ => rfl), f16, f17, f18, f19, f20, f21⟩
        · with_reducible refine wpOp_guard (o := o) ?_ ?_ ?_
          · rw [List.getElem?_toArray]; exact ho
          · simp only [List.getElem?_cons_zero, List.getElem?_cons_succ, Option.some.injEq] at ho
            subst ho
            have d6 : D 6 = true := hdep ⟨6, Ground.guard⟩ (by simp) rfl
            have q6 := f6 d6
            subst q6
            show _ = true
            kernel_rfl
          intro K hK
          simp only [List.getElem?_cons_zero, List.getElem?_cons_succ, Option.some.injEq] at ho
          subst ho
          clear hi'
          have d6 : D 6 = true := hdep ⟨6, Ground.guard⟩ (by simp) rfl
          have d15 : D 15 = true := hdep ⟨15, Ground.data⟩ (by simp) rfl
          clear hdep
          have hI := hJ
          have q6 := (f6 d6)
          subst q6
          have q15 := (f15 d15)
          subst q15
          have hb := hI.1
          have a1 := hI.2.1
          have a2 := hI.2.2.1
          have a3 := hI.2.2.2.1
          have a4 := hI.2.2.2.2.1
          have a5 := hI.2.2.2.2.2
          simp only [List.zip_cons_cons, List.zip_nil_right, puts]
          have Hf0 := Lib.hid f0
          have Hf1 := Lib.hid f1
          have Hf2 := Lib.hid f2
          have Hf3 := Lib.hid f3
          have Hf4 := Lib.hid f4
          have Hf5 := Lib.hid f5
          have Hf6 := Lib.hid f6
          have Hf7 := Lib.hid f7
          have Hf8 := Lib.hid f8
          have Hf9 := Lib.hid f9
          have Hf10 := Lib.hid f10
          have Hf11 := Lib.hid f11
          have Hf12 := Lib.hid f12
          have Hf13 := Lib.hid f13
          have Hf14 := Lib.hid f14
          have Hf15 := Lib.hid f15
          have Hf16 := Lib.hid f16
          have Hf17 := Lib.hid f17
          have Hf18 := Lib.hid f18
          have Hf19 := Lib.hid f19
          have Hf20 := Lib.hid f20
          have Hf21 := Lib.hid f21
          have HhK := Lib.hid hK
          have Hhd := Lib.hid hd
          have HhJ := Lib.hid hJ
          clear hd hK hJ f0 f1 f2 f3 f4 f5 f6 f7 f8 f9 f10 f11 f12 f13 f14 f15 f16 f17 f18 f19 f20 f21
          go_simp
          have f0 := Hf0.out
          have f1 := Hf1.out
          have f2 := Hf2.out
          have f3 := Hf3.out
          have f4 := Hf4.out
          have f5 := Hf5.out
          have f6 := Hf6.out
          have f7 := Hf7.out
          have f8 := Hf8.out
          have f9 := Hf9.out
          have f10 := Hf10.out
          have f11 := Hf11.out
          have f12 := Hf12.out
          have f13 := Hf13.out
          have f14 := Hf14.out
          have f15 := Hf15.out
          have f16 := Hf16.out
          have f17 := Hf17.out
          have f18 := Hf18.out
          have f19 := Hf19.out
          have f20 := Hf20.out
          have f21 := Hf21.out
          have hK := HhK.out
          have hd := Hhd.out
          have hJ := HhJ.out
          exact hK _ _ ⟨[u24, u25, u26, u27, u28, u29, (.bool true), u31, u32, u33, u34, u35, u36, u37, u38, (.agg #[.int .i64 x0, .int .i64 x1, .int .i64 x2, .int .i64 x3]), (.slice (some ⟨W.heap.size, 0, none⟩) 1 1), u41, u42, u43, u44, u2], rfl, by kernel_rfl, _, _, _, _, _, _, _, _, _, _, _, _, _, _, _, _, _, _, _, _, _, _, rfl, ⟨bel_tr hb (bel_al (bel_refl W) (.cells #[.int .i64 x0, .int .i64 x1, .int .i64 x2, .int .i64 x3] 28)), fun p q => own_below (a1 p q) (bel_al (bel_refl W) (.cells #[.int .i64 x0, .int .i64 x1, .int .i64 x2, .int .i64 x3] 28)), fun p q => own_below (a2 p q) (bel_al (bel_refl W) (.cells #[.int .i64 x0, .int .i64 x1, .int .i64 x2, .int .i64 x3] 28)), fun _ q => ⟨W.heap.size, rfl, Blk.new W _ _, hb.size, fun p q2 e => (by have := (own_lt (a1 p q2) e).2; omega), fun p e => (by have := (own_lt (a2 p q) e).2; omega)⟩, fun p => own_below (a4 p) (bel_al (bel_refl W) (.cells #[.int .i64 x0, .int .i64 x1, .int .i64 x2, .int .i64 x3] 28)), a5⟩, f0, f1, f2, f3, f4, f5, (fun _ => rfl), f7, f8, f9, f10, f11, f12, f13, f14, (fun _ => rfl), (fun _ => ⟨_, rfl⟩), f17, f18, f19, f20, f21⟩
        · with_reducible refine wpOp_guard (o := o) ?_ ?_ ?_
          · rw [List.getElem?_toArray]; exact ho
          · simp only [List.getElem?_cons_zero, List.getElem?_cons_succ, Option.some.injEq] at ho
            subst ho
            have d6 : D 6 = true := hdep ⟨6, Ground.guard⟩ (by simp) rfl
            have q6 := f6 d6
            subst q6
            show _ = true
            kernel_rfl
          intro K hK
          simp only [List.getElem?_cons_zero, List.getElem?_cons_succ, Option.some.injEq] at ho
          subst ho
          clear hi'
          have d6 : D 6 = true := hdep ⟨6, Ground.guard⟩ (by simp) rfl
          have d9 : D 9 = true := hdep ⟨9, Ground.data⟩ (by simp) rfl
          have d16 : D 16 = true := hdep ⟨16, Ground.data⟩ (by simp) rfl
          clear hdep
          have hI := hJ
          have q6 := (f6 d6)
          subst q6
          refine Exists.elim (f9 d9) (fun b9 q9 => ?_)
          refine Exists.elim q9 (fun cp9 q9 => ?_)
          subst q9
          refine Exists.elim (f16 d16) (fun b8 q16 => ?_)
          subst q16
          have hb := hI.1
          have a1 := hI.2.1
          have a2 := hI.2.2.1
          have a3 := hI.2.2.2.1
          have a4 := hI.2.2.2.2.1
          have a5 := hI.2.2.2.2.2
          have o9 := a2 d9 hd
          refine Exists.elim (a3 d16 hd) (fun b hx => ?_)
          have e := hx.1
          have hB := hx.2.1
          have hl := hx.2.2.1
          have eb : b8 = b := by have e2 := (Value.slice.inj e).1; have e3 := Option.some.inj e2; injection e3
          subst eb
          clear e hx
          simp only [List.zip_cons_cons, List.zip_nil_right, puts]
          have Hf0 := Lib.hid f0
          have Hf1 := Lib.hid f1
          have Hf2 := Lib.hid f2
          have Hf3 := Lib.hid f3
          have Hf4 := Lib.hid f4
          have Hf5 := Lib.hid f5
          have Hf6 := Lib.hid f6
          have Hf7 := Lib.hid f7
          have Hf8 := Lib.hid f8
          have Hf9 := Lib.hid f9
          have Hf10 := Lib.hid f10
          have Hf11 := Lib.hid f11
          have Hf12 := Lib.hid f12
          have Hf13 := Lib.hid f13
          have Hf14 := Lib.hid f14
          have Hf15 := Lib.hid f15
          have Hf16 := Lib.hid f16
          have Hf17 := Lib.hid f17
          have Hf18 := Lib.hid f18
          have Hf19 := Lib.hid f19
          have Hf20 := Lib.hid f20
          have Hf21 := Lib.hid f21
          have HhK := Lib.hid hK
          have Hhd := Lib.hid hd
          have HhJ := Lib.hid hJ
          clear hd hK hJ f0 f1 f2 f3 f4 f5 f6 f7 f8 f9 f10 f11 f12 f13 f14 f15 f16 f17 f18 f19 f20 f21
          refine wp_append_lies _ (.tmp 33) (.tmp 40) 23 (by rfl) w3.heap.size 28 i0 _ 4 32 Try.underlying23 hi0 hz0 hz1 hz2 rfl (by omega) (.slice (some ⟨b9, 0, none⟩) L.length cp9) L.length (flat csEv L) (by show _ = _; kernel_rfl) o9 ⟨b8, 0, none⟩ 1 1 [.int .i64 x0, .int .i64 x1, .int .i64 x2, .int .i64 x3] (by show _ = _; kernel_rfl) rfl (World.news_of_block (cs := #[.int .i64 x0, .int .i64 x1, .int .i64 x2, .int .i64 x3]) (t := 28) (fr := (0, 0)) hB) (by simp [Value.oneCell']) (by omega) (by unfold maxLen; omega) (by omega) hb.size _ rfl ?_
          intro gg cp w9 hown9 hgrow9 hat9 hlt9
          have f0 := Hf0.out
          have f1 := Hf1.out
          have f2 := Hf2.out
          have f3 := Hf3.out
          have f4 := Hf4.out
          have f5 := Hf5.out
          have f6 := Hf6.out
          have f7 := Hf7.out
          have f8 := Hf8.out
          have f9 := Hf9.out
          have f10 := Hf10.out
          have f11 := Hf11.out
          have f12 := Hf12.out
          have f13 := Hf13.out
          have f14 := Hf14.out
          have f15 := Hf15.out
          have f16 := Hf16.out
          have f17 := Hf17.out
          have f18 := Hf18.out
          have f19 := Hf19.out
          have f20 := Hf20.out
          have f21 := Hf21.out
          have hK := HhK.out
          have hd := Hhd.out
          have hJ := HhJ.out
          exact hK _ _ ⟨[u24, u25, u26, u27, u28, u29, (.bool true), u31, u32, (.slice (some ⟨b9, 0, none⟩) L.length cp9), u34, u35, u36, u37, u38, u39, (.slice (some ⟨b8, 0, none⟩) 1 1), (.slice (some ⟨gg, 0, none⟩) (L.length + 1) cp), u42, u43, u44, u2], rfl, by kernel_rfl, _, _, _, _, _, _, _, _, _, _, _, _, _, _, _, _, _, _, _, _, _, _, rfl, ⟨bel_grown hb hgrow9 (fun k hk => own_ge o9 k hk), fun _ q => Bool.noConfusion (show true = false from q.symm.trans d9 |>.symm), fun _ q => Bool.noConfusion (show true = false from q), fun _ q => Bool.noConfusion (show true = false from q), fun _ => by rw [flat_snoc]; exact hown9, fun _ => d9⟩, f0, f1, f2, f3, f4, f5, (fun _ => rfl), f7, f8, f9, f10, f11, f12, f13, f14, f15, f16, (fun _ => ⟨_, _, rfl⟩), f18, f19, f20, f21⟩
        · with_reducible refine wpOp_guard (o := o) ?_ ?_ ?_
          · rw [List.getElem?_toArray]; exact ho
          · simp only [List.getElem?_cons_zero, List.getElem?_cons_succ, Option.some.injEq] at ho
            subst ho
            have d6 : D 6 = true := hdep ⟨6, Ground.guard⟩ (by simp) rfl
            have q6 := f6 d6
            subst q6
            show _ = true
            kernel_rfl
          intro K hK
          simp only [List.getElem?_cons_zero, List.getElem?_cons_succ, Option.some.injEq] at ho
          subst ho
          clear hi'
          have d6 : D 6 = true := hdep ⟨6, Ground.guard⟩ (by simp) rfl
          have d17 : D 17 = true := hdep ⟨17, Ground.data⟩ (by simp) rfl
          clear hdep
          have hI := hJ
          have q6 := (f6 d6)
          subst q6
          refine Exists.elim (f17 d17) (fun b7 q17 => ?_)
          refine Exists.elim q17 (fun cp7 q17 => ?_)
          subst q17
          have hb := hI.1
          have a1 := hI.2.1
          have a2 := hI.2.2.1
          have a3 := hI.2.2.2.1
          have a4 := hI.2.2.2.2.1
          have a5 := hI.2.2.2.2.2
          have o17 := own_rowEvN (a4 d17) (by rw [List.length_append, List.length_singleton])
          simp only [List.zip_cons_cons, List.zip_nil_right, puts]
          have Hf0 := Lib.hid f0
          have Hf1 := Lib.hid f1
          have Hf2 := Lib.hid f2
          have Hf3 := Lib.hid f3
          have Hf4 := Lib.hid f4
          have Hf5 := Lib.hid f5
          have Hf6 := Lib.hid f6
          have Hf7 := Lib.hid f7
          have Hf8 := Lib.hid f8
          have Hf9 := Lib.hid f9
          have Hf10 := Lib.hid f10
          have Hf11 := Lib.hid f11
          have Hf12 := Lib.hid f12
          have Hf13 := Lib.hid f13
          have Hf14 := Lib.hid f14
          have Hf15 := Lib.hid f15
          have Hf16 := Lib.hid f16
          have Hf17 := Lib.hid f17
          have Hf18 := Lib.hid f18
          have Hf19 := Lib.hid f19
          have Hf20 := Lib.hid f20
          have Hf21 := Lib.hid f21
          have HhK := Lib.hid hK
          have Hhd := Lib.hid hd
          have HhJ := Lib.hid hJ
          clear hd hK hJ f0 f1 f2 f3 f4 f5 f6 f7 f8 f9 f10 f11 f12 f13 f14 f15 f16 f17 f18 f19 f20 f21
          go_simp
          go_wp2_with (go_at_call 5; refine (evd_val HT.out _ _ _ _ (by rw [List.length_append, List.length_singleton]) (by omega) o17).mono ?_; rintro e w9 ⟨rfl, b9⟩)
          have f0 := Hf0.out
          have f1 := Hf1.out
          have f2 := Hf2.out
          have f3 := Hf3.out
          have f4 := Hf4.out
          have f5 := Hf5.out
          have f6 := Hf6.out
          have f7 := Hf7.out
          have f8 := Hf8.out
          have f9 := Hf9.out
          have f10 := Hf10.out
          have f11 := Hf11.out
          have f12 := Hf12.out
          have f13 := Hf13.out
          have f14 := Hf14.out
          have f15 := Hf15.out
          have f16 := Hf16.out
          have f17 := Hf17.out
          have f18 := Hf18.out
          have f19 := Hf19.out
          have f20 := Hf20.out
          have f21 := Hf21.out
          have hK := HhK.out
          have hd := Hhd.out
          have hJ := HhJ.out
          exact hK _ _ ⟨[u24, u25, u26, u27, u28, u29, (.bool true), u31, u32, u33, u34, u35, u36, u37, u38, u39, u40, (.slice (some ⟨b7, 0, none⟩) (L.length + 1) cp7), (.bool false), u43, u44, u2], rfl, by kernel_rfl, _, _, _, _, _, _, _, _, _, _, _, _, _, _, _, _, _, _, _, _, _, _, rfl, ⟨bel_tr hb b9, fun p q => own_below (a1 p q) b9, fun p q => own_below (a2 p q) b9, fun p q => by obtain ⟨b, e, hB, hl, n1, n2⟩ := a3 p q; exact ⟨b, e, hB.below b9, hl, n1, n2⟩, fun p => own_below (a4 p) b9, a5⟩, f0, f1, f2, f3, f4, f5, (fun _ => rfl), f7, f8, f9, f10, f11, f12, f13, f14, f15, f16, f17, (fun _ => rfl), f19, f20, f21⟩
        · with_reducible refine wpOp_guard (o := o) ?_ ?_ ?_
          · rw [List.getElem?_toArray]; exact ho
          · simp only [List.getElem?_cons_zero, List.getElem?_cons_succ, Option.some.injEq] at ho
            subst ho
            have d6 : D 6 = true := hdep ⟨6, Ground.guard⟩ (by simp) rfl
            have q6 := f6 d6
            subst q6
            show _ = true
            kernel_rfl
          intro K hK
          simp only [List.getElem?_cons_zero, List.getElem?_cons_succ, Option.some.injEq] at ho
          subst ho
          clear hi'
          have d6 : D 6 = true := hdep ⟨6, Ground.guard⟩ (by simp) rfl
          have d18 : D 18 = true := hdep ⟨18, Ground.data⟩ (by simp) rfl
          clear hdep
          have hI := hJ
          have q6 := (f6 d6)
          subst q6
          have q18 := (f18 d18)
          subst q18
          simp only [List.zip_cons_cons, List.zip_nil_right, puts]
          have Hf0 := Lib.hid f0
          have Hf1 := Lib.hid f1
          have Hf2 := Lib.hid f2
          have Hf3 := Lib.hid f3
          have Hf4 := Lib.hid f4
          have Hf5 := Lib.hid f5
          have Hf6 := Lib.hid f6
          have Hf7 := Lib.hid f7
          have Hf8 := Lib.hid f8
          have Hf9 := Lib.hid f9
          have Hf10 := Lib.hid f10
          have Hf11 := Lib.hid f11
          have Hf12 := Lib.hid f12
          have Hf13 := Lib.hid f13
          have Hf14 := Lib.hid f14
          have Hf15 := Lib.hid f15
          have Hf16 := Lib.hid f16
          have Hf17 := Lib.hid f17
          have Hf18 := Lib.hid f18
          have Hf19 := Lib.hid f19
          have Hf20 := Lib.hid f20
          have Hf21 := Lib.hid f21
          have HhK := Lib.hid hK
          have Hhd := Lib.hid hd
          have HhJ := Lib.hid hJ
          clear hd hK hJ f0 f1 f2 f3 f4 f5 f6 f7 f8 f9 f10 f11 f12 f13 f14 f15 f16 f17 f18 f19 f20 f21
          go_simp
          have f0 := Hf0.out
          have f1 := Hf1.out
          have f2 := Hf2.out
          have f3 := Hf3.out
          have f4 := Hf4.out
          have f5 := Hf5.out
          have f6 := Hf6.out
          have f7 := Hf7.out
          have f8 := Hf8.out
          have f9 := Hf9.out
          have f10 := Hf10.out
          have f11 := Hf11.out
          have f12 := Hf12.out
          have f13 := Hf13.out
          have f14 := Hf14.out
          have f15 := Hf15.out
          have f16 := Hf16.out
          have f17 := Hf17.out
          have f18 := Hf18.out
          have f19 := Hf19.out
          have f20 := Hf20.out
          have f21 := Hf21.out
          have hK := HhK.out
          have hd := Hhd.out
          have hJ := HhJ.out
          exact hK _ _ ⟨[u24, u25, u26, u27, u28, u29, (.bool true), u31, u32, u33, u34, u35, u36, u37, u38, u39, u40, u41, (.bool false), (.bool true), u44, u2], rfl, by kernel_rfl, _, _, _, _, _, _, _, _, _, _, _, _, _, _, _, _, _, _, _, _, _, _, rfl, hI, f0, f1, f2, f3, f4, f5, (fun _ => rfl), f7, f8, f9, f10, f11, f12, f13, f14, f15, f16, f17, (fun _ => rfl), (fun _ => rfl), f20, f21⟩
        · simp only [List.getElem?_cons_zero, List.getElem?_cons_succ, Option.some.injEq] at ho
          subst ho
          clear hi'
          have d6 : D 6 = true := hdep ⟨6, Ground.data⟩ (by simp) rfl
          have d19 : D 19 = true := hdep ⟨19, Ground.data⟩ (by simp) rfl
          clear hdep
          have hI := hJ
          have q6 := (f6 d6)
          subst q6
          have q19 := (f19 d19)
          subst q19
          refine wpOp_step rfl (fun K hK => ?_)
          simp only [List.zip_cons_cons, List.zip_nil_right, puts]
          have Hf0 := Lib.hid f0
          have Hf1 := Lib.hid f1
          have Hf2 := Lib.hid f2
          have Hf3 := Lib.hid f3
          have Hf4 := Lib.hid f4
          have Hf5 := Lib.hid f5
          have Hf6 := Lib.hid f6
          have Hf7 := Lib.hid f7
          have Hf8 := Lib.hid f8
          have Hf9 := Lib.hid f9
          have Hf10 := Lib.hid f10
          have Hf11 := Lib.hid f11
          have Hf12 := Lib.hid f12
          have Hf13 := Lib.hid f13
          have Hf14 := Lib.hid f14
          have Hf15 := Lib.hid f15
          have Hf16 := Lib.hid f16
          have Hf17 := Lib.hid f17
          have Hf18 := Lib.hid f18
          have Hf19 := Lib.hid f19
          have Hf20 := Lib.hid f20
          have Hf21 := Lib.hid f21
          have HhK := Lib.hid hK
          have Hhd := Lib.hid hd
          have HhJ := Lib.hid hJ
          clear hd hK hJ f0 f1 f2 f3 f4 f5 f6 f7 f8 f9 f10 f11 f12 f13 f14 f15 f16 f17 f18 f19 f20 f21
          go_simp
          have f0 := Hf0.out
          have f1 := Hf1.out
          have f2 := Hf2.out
          have f3 := Hf3.out
          have f4 := Hf4.out
          have f5 := Hf5.out
          have f6 := Hf6.out
          have f7 := Hf7.out
          have f8 := Hf8.out
          have f9 := Hf9.out
          have f10 := Hf10.out
          have f11 := Hf11.out
          have f12 := Hf12.out
          have f13 := Hf13.out
          have f14 := Hf14.out
          have f15 := Hf15.out
          have f16 := Hf16.out
          have f17 := Hf17.out
          have f18 := Hf18.out
          have f19 := Hf19.out
          have f20 := Hf20.out
          have f21 := Hf21.out
          have hK := HhK.out
          have hd := Hhd.out
          have hJ := HhJ.out
          exact hK _ _ ⟨[u24, u25, u26, u27, u28, u29, (.bool true), u31, u32, u33, u34, u35, u36, u37, u38, u39, u40, u41, u42, (.bool true), (.bool true), u2], rfl, by kernel_rfl, _, _, _, _, _, _, _, _, _, _, _, _, _, _, _, _, _, _, _, _, _, _, rfl, hI, f0, f1, f2, f3, f4, f5, (fun _ => rfl), f7, f8, f9, f10, f11, f12, f13, f14, f15, f16, f17, f18, (fun _ => rfl), (fun _ => rfl), f21⟩
        · simp only [List.getElem?_cons_zero, List.getElem?_cons_succ, Option.some.injEq] at ho
          subst ho
          clear hi'
          have d20 : D 20 = true := hdep ⟨20, Ground.data⟩ (by simp) rfl
          clear hdep
          have hI := hJ
          have q20 := (f20 d20)
          subst q20
          refine wpOp_step rfl (fun K hK => ?_)
          simp only [List.zip_cons_cons, List.zip_nil_right, puts]
          have Hf0 := Lib.hid f0
          have Hf1 := Lib.hid f1
          have Hf2 := Lib.hid f2
          have Hf3 := Lib.hid f3
          have Hf4 := Lib.hid f4
          have Hf5 := Lib.hid f5
          have Hf6 := Lib.hid f6
          have Hf7 := Lib.hid f7
          have Hf8 := Lib.hid f8
          have Hf9 := Lib.hid f9
          have Hf10 := Lib.hid f10
          have Hf11 := Lib.hid f11
          have Hf12 := Lib.hid f12
          have Hf13 := Lib.hid f13
          have Hf14 := Lib.hid f14
          have Hf15 := Lib.hid f15
          have Hf16 := Lib.hid f16
          have Hf17 := Lib.hid f17
          have Hf18 := Lib.hid f18
          have Hf19 := Lib.hid f19
          have Hf20 := Lib.hid f20
          have Hf21 := Lib.hid f21
          have HhK := Lib.hid hK
          have Hhd := Lib.hid hd
          have HhJ := Lib.hid hJ
          clear hd hK hJ f0 f1 f2 f3 f4 f5 f6 f7 f8 f9 f10 f11 f12 f13 f14 f15 f16 f17 f18 f19 f20 f21
          go_simp
          have f0 := Hf0.out
          have f1 := Hf1.out
          have f2 := Hf2.out
          have f3 := Hf3.out
          have f4 := Hf4.out
          have f5 := Hf5.out
          have f6 := Hf6.out
          have f7 := Hf7.out
          have f8 := Hf8.out
          have f9 := Hf9.out
          have f10 := Hf10.out
          have f11 := Hf11.out
          have f12 := Hf12.out
          have f13 := Hf13.out
          have f14 := Hf14.out
          have f15 := Hf15.out
          have f16 := Hf16.out
          have f17 := Hf17.out
          have f18 := Hf18.out
          have f19 := Hf19.out
          have f20 := Hf20.out
          have f21 := Hf21.out
          have hK := HhK.out
          have hd := Hhd.out
          have hJ := HhJ.out
          exact hK _ _ ⟨[u24, u25, u26, u27, u28, u29, u30, u31, u32, u33, u34, u35, u36, u37, u38, u39, u40, u41, u42, u43, (.bool true), (.bool true)], rfl, by kernel_rfl, _, _, _, _, _, _, _, _, _, _, _, _, _, _, _, _, _, _, _, _, _, _, rfl, hI, f0, f1, f2, f3, f4, f5, f6, f7, f8, f9, f10, f11, f12, f13, f14, f15, f16, f17, f18, f19, (fun _ => rfl), (fun _ => rfl)⟩
      · rintro D us W hu hall ⟨u24, u25, u26, u27, u28, u29, u30, u31, u32, u33, u34, u35, u36, u37, u38, u39, u40, u41, u42, u43, u44, u2, rfl, hJ, f0, f1, f2, f3, f4, f5, f6, f7, f8, f9, f10, f11, f12, f13, f14, f15, f16, f17, f18, f19, f20, f21⟩
        have d0 : D 0 = true := hall 0 (by simp)
        have d1 : D 1 = true := hall 1 (by simp)
        have d2 : D 2 = true := hall 2 (by simp)
        have d3 : D 3 = true := hall 3 (by simp)
        have d4 : D 4 = true := hall 4 (by simp)
        have d5 : D 5 = true := hall 5 (by simp)
        have d6 : D 6 = true := hall 6 (by simp)
        have d7 : D 7 = true := hall 7 (by simp)
        have d8 : D 8 = true := hall 8 (by simp)
        have d9 : D 9 = true := hall 9 (by simp)
        have d10 : D 10 = true := hall 10 (by simp)
        have d11 : D 11 = true := hall 11 (by simp)
        have d12 : D 12 = true := hall 12 (by simp)
        have d13 : D 13 = true := hall 13 (by simp)
        have d14 : D 14 = true := hall 14 (by simp)
        have d15 : D 15 = true := hall 15 (by simp)
        have d16 : D 16 = true := hall 16 (by simp)
        have d17 : D 17 = true := hall 17 (by simp)
        have d18 : D 18 = true := hall 18 (by simp)
        have d19 : D 19 = true := hall 19 (by simp)
        have d20 : D 20 = true := hall 20 (by simp)
        have d21 : D 21 = true := hall 21 (by simp)
        have hI := hJ
        clear hJ
        obtain ⟨hb, _⟩ := hI
        have e2 := f21 d21
        clear f0 f1 f2 f3 f4 f5 f6 f7 f8 f9 f10 f11 f12 f13 f14 f15 f16 f17 f18 f19 f20 f21 d0 d1 d2 d3 d4 d5 d6 d7 d8 d9 d10 d11 d12 d13 d14 d15 d16 d17 d18 d19 d20 d21 hall hu
        subst e2
        simp only [List.zip_cons_cons, List.zip_nil_right, puts]
        go_simp
        apply_assumption
        go_wp2
        go_ret
        exact ⟨rfl, bel_tr bw hb⟩
    · cases B
      · go_wp2_with fail
        refine (alive_any _).mono ?_
        rintro e4 w4 ⟨rfl, b4⟩
        replace bw := bel_tr bw b4
        go_wp2
        go_ret
        exact ⟨rfl, bw⟩
      · have hL0 : L.length = 0 := by have : ¬ 0 < L.length := fun z => hq ⟨rfl, z⟩; omega
        have i0 : ((L.length : Int) == 0) = true := beq_iff_eq.2 (by omega)
        clear hL0
        go_wp2_with fail
        refine (alive_any _).mono ?_
        rintro e4 w4 ⟨rfl, b4⟩
        replace bw := bel_tr bw b4
        go_wp2
        go_ret
        exact ⟨rfl, bw⟩
  · have hl2 : (1048576 : Int) < (len : Int) := by omega
    go_enter Try.func3, Try.ntmps3
    go_wp2
    go_ret
    exact ⟨rfl, bel_refl _⟩

end Go.Proofs.Ytaieamobjbckdaa.FnEventsValid
