/- A voice, a number of ticks and an interval, drawn for the law of CanonDelays. -/
import Derived.Test.YtiapfpjggginoaaDrCo
namespace Go.Proofs.Ytiapfpjggginoaa
set_option linter.unusedSimpArgs false
set_option linter.unusedVariables false
open Go.RowKit

def FLd5 (lo : Nat) (W : World) (u : Value) : Prop := ∃ b : Nat, u = .slice (some ⟨b, 0, none⟩) 5 5 ∧ lo ≤ b ∧ Blk W b #[.int .i64 24, .int .i64 48, .int .i64 12, .int .i64 0, .int .i64 769] 3
def FPd5 (lo : Nat) (W : World) (u : Value) : Prop := ∃ (b t : Nat), u = .pointer (some ⟨b, t, none⟩) ∧ t < 5 ∧ lo ≤ b ∧ Blk W b #[.int .i64 24, .int .i64 48, .int .i64 12, .int .i64 0, .int .i64 769] 3
theorem FLd5.onb {lo g : Nat} {W W' : World} {u : Value} (h : FLd5 lo W u) (ho : Onb g W W') (hg : g < lo) : FLd5 lo W' u := by obtain ⟨b, e, hl, hb⟩ := h; exact ⟨b, e, hl, hb.onb ho (by omega)⟩
theorem FPd5.onb {lo g : Nat} {W W' : World} {u : Value} (h : FPd5 lo W u) (ho : Onb g W W') (hg : g < lo) : FPd5 lo W' u := by obtain ⟨b, t, e, ht, hl, hb⟩ := h; exact ⟨b, t, e, ht, hl, hb.onb ho (by omega)⟩
def FLd7 (lo : Nat) (W : World) (u : Value) : Prop := ∃ b : Nat, u = .slice (some ⟨b, 0, none⟩) 7 7 ∧ lo ≤ b ∧ Blk W b #[.int .i64 0, .int .i64 0, .int .i64 1, .int .i64 1, .int .i64 2, .int .i64 3, .int .i64 4] 3
def FPd7 (lo : Nat) (W : World) (u : Value) : Prop := ∃ (b t : Nat), u = .pointer (some ⟨b, t, none⟩) ∧ t < 7 ∧ lo ≤ b ∧ Blk W b #[.int .i64 0, .int .i64 0, .int .i64 1, .int .i64 1, .int .i64 2, .int .i64 3, .int .i64 4] 3
theorem FLd7.onb {lo g : Nat} {W W' : World} {u : Value} (h : FLd7 lo W u) (ho : Onb g W W') (hg : g < lo) : FLd7 lo W' u := by obtain ⟨b, e, hl, hb⟩ := h; exact ⟨b, e, hl, hb.onb ho (by omega)⟩
theorem FPd7.onb {lo g : Nat} {W W' : World} {u : Value} (h : FPd7 lo W u) (ho : Onb g W W') (hg : g < lo) : FPd7 lo W' u := by obtain ⟨b, t, e, ht, hl, hb⟩ := h; exact ⟨b, t, e, ht, hl, hb.onb ho (by omega)⟩
def FLd4 (lo : Nat) (W : World) (u : Value) : Prop := ∃ b : Nat, u = .slice (some ⟨b, 0, none⟩) 4 4 ∧ lo ≤ b ∧ Blk W b #[.int .i64 0, .int .i64 0, .int .i64 4, .int .i64 7, .int .i64 (-7), .int .i64 (-12), .int .i64 2, .int .i64 4] 44
def FPd4 (lo : Nat) (W : World) (u : Value) : Prop := ∃ (b t : Nat), u = .pointer (some ⟨b, t * 2, none⟩) ∧ t < 4 ∧ lo ≤ b ∧ Blk W b #[.int .i64 0, .int .i64 0, .int .i64 4, .int .i64 7, .int .i64 (-7), .int .i64 (-12), .int .i64 2, .int .i64 4] 44
theorem FLd4.onb {lo g : Nat} {W W' : World} {u : Value} (h : FLd4 lo W u) (ho : Onb g W W') (hg : g < lo) : FLd4 lo W' u := by obtain ⟨b, e, hl, hb⟩ := h; exact ⟨b, e, hl, hb.onb ho (by omega)⟩
theorem FPd4.onb {lo g : Nat} {W W' : World} {u : Value} (h : FPd4 lo W u) (ho : Onb g W W') (hg : g < lo) : FPd4 lo W' u := by obtain ⟨b, t, e, ht, hl, hb⟩ := h; exact ⟨b, t, e, ht, hl, hb.onb ho (by omega)⟩
theorem blkd7_at {W : World} {b t : Nat} (h : Blk W b #[.int .i64 0, .int .i64 0, .int .i64 1, .int .i64 1, .int .i64 2, .int .i64 3, .int .i64 4] 3) (h1 : t < 7) : ∃ x : Int, W.cell? ⟨b, t, none⟩ = some (.int .i64 x) ∧ 0 ≤ x ∧ x < 5 := by
  rw [Blk.cell h]
  rcases (show t = 0 ∨ t = 1 ∨ t = 2 ∨ t = 3 ∨ t = 4 ∨ t = 5 ∨ t = 6 from by omega) with rfl | rfl | rfl | rfl | rfl | rfl | rfl <;> exact ⟨_, rfl, by omega, by omega⟩
theorem blkd5_at {W : World} {b t : Nat} (h : Blk W b #[.int .i64 24, .int .i64 48, .int .i64 12, .int .i64 0, .int .i64 769] 3) (h1 : t < 5) : ∃ x : Int, W.cell? ⟨b, t, none⟩ = some (.int .i64 x) := by
  rw [Blk.cell h]
  rcases (show t = 0 ∨ t = 1 ∨ t = 2 ∨ t = 3 ∨ t = 4 from by omega) with rfl | rfl | rfl | rfl | rfl <;> exact ⟨_, rfl⟩
theorem blkd4_at {W : World} {b t : Nat} (h : Blk W b #[.int .i64 0, .int .i64 0, .int .i64 4, .int .i64 7, .int .i64 (-7), .int .i64 (-12), .int .i64 2, .int .i64 4] 44) (h1 : t < 4) : ∃ x y : Int, W.cell? ⟨b, t * 2, none⟩ = some (.int .i64 x) ∧ W.cell? ⟨b, t * 2 + 1, none⟩ = some (.int .i64 y) := by
  rw [Blk.cell h, Blk.cell h]
  rcases (show t = 0 ∨ t = 1 ∨ t = 2 ∨ t = 3 from by omega) with rfl | rfl | rfl | rfl <;> exact ⟨_, _, rfl, rfl⟩
set_option maxRecDepth 20000 in
set_option maxHeartbeats 8000000 in
theorem DrawCanonDelays_any (w : World) (A : Option Addr) (len cap : Nat) (h : Cod w A len cap) : Calls Try.prog 32 #[.slice A len cap] w (DrCo w) := by
  go_enter Try.func32, Try.ntmps32
  go_wp2_with fail
  have bR : Blk (w.alloc (.cells #[.int .i64 0, .int .i64 0] 44)) w.heap.size #[.int .i64 0, .int .i64 0] 44 := Blk.new w _ _
  have b0 : Below w.heap.size w (w.alloc (.cells #[.int .i64 0, .int .i64 0] 44)) := bel_al (bel_refl w) _
  generalize (w.alloc (.cells #[.int .i64 0, .int .i64 0] 44)) = w0 at *
  refine (open_eq _ A len cap h.lc h.cm).mono ?_
  rintro e w1 ⟨rfl, rfl⟩
  have r1 := h.rd b0
  have hgR : w.heap.size < w0.heap.size := bR.lt
  have qR1 := bR.alloc (.cells #[.slice A (min len 2000) cap, .int .i64 0] 86)
  have k1 : Onb w0.heap.size w0 (w0.alloc (.cells #[.slice A (min len 2000) cap, .int .i64 0] 86)) := Onb.of_bel (bel_al (bel_refl _) _)
  have hg1 := r1.gl
  have hsz : w.heap.size ≤ w0.heap.size := b0.size
  have hs1 : (w0.alloc (.cells #[.slice A (min len 2000) cap, .int .i64 0] 86)).heap.size = w0.heap.size + 1 := by simp
  clear bR
  generalize hW1 : w0.alloc (.cells #[.slice A (min len 2000) cap, .int .i64 0] 86) = w1 at *
  generalize hgg : w0.heap.size = g at *
  clear hW1
  generalize min len 2000 = len' at *
  go_wp2_with fail
  refine (voice_any _ _ _ _ _ _ _ _ r1 (by omega)).mono ?_
  rintro e w2 ⟨vv, l, rfl, l7, own2, o2, p2, hp2, r2⟩
  have k2 := k1.trans o2
  have qR2 := qR1.onb o2 (by omega)
  have hg2 := r2.gl
  rw [hs1] at own2
  obtain ⟨A2, c2, rfl, lc, cm, _, _⟩ := own_rowNt own2
  have OWN2 := Lib.hid own2
  have lR2 := qR2.lt
  have hBg := r2.Bg
  clear own2 k1 o2 r1 qR1 hs1
  go_upto_region 3 with fail
  refine region_slots (by kernel_rfl) (by kernel_rfl) [11, 12, 13, 14, 15, 16, 17, 18, 19, 20, 21, 22, 23, 24, 25, 26, 27, 28, 2, 3] (fun D us W => ∃ u11 u12 u13 u14 u15 u16 u17 u18 u19 u20 u21 u22 u23 u24 u25 u26 u27 u28 u2 u3 : Value, us = [u11, u12, u13, u14, u15, u16, u17, u18, u19, u20, u21, u22, u23, u24, u25, u26, u27, u28, u2, u3] ∧ ((D 20 = false ∧ (Onb g w2 W ∧ ∃ p : Nat, p ≤ p2 + 6 * ((D 4).toNat + (D 15).toNat) ∧ Rd W g w.heap.size A len' cap p)) ∨ (D 20 = true ∧ (∀ j, j < 18 → D j = true) ∧ ∃ (wz : World) (st ha : Int), W = (wz.setCell ⟨w.heap.size, 0, none⟩ (.int .i64 st)).setCell ⟨w.heap.size, 1, none⟩ (.int .i64 ha) ∧ Onb g w2 wz)) ∧ (D 0 = true → u11 = .slice A2 l.length c2) ∧ (D 1 = true → D 20 = false → FLd5 w2.heap.size W u12) ∧ (D 2 = true → D 20 = false → FLd7 w2.heap.size W u13) ∧ (D 3 = true → u14 = .pointer (some ⟨g, 0, none⟩)) ∧ (D 4 = true → FInt 0 7 u15) ∧ (D 5 = true → D 20 = false → FPd7 w2.heap.size W u16) ∧ (D 6 = true → FInt 0 5 u17) ∧ (D 7 = true → D 20 = false → FPd5 w2.heap.size W u18) ∧ (D 8 = true → FAny u19) ∧ (D 9 = true → u20 = .agg #[.int .i64 0, .int .i64 0]) ∧ (D 10 = true → u21 = .agg #[.int .i64 4, .int .i64 7]) ∧ (D 11 = true → u22 = .agg #[.int .i64 (-7), .int .i64 (-12)]) ∧ (D 12 = true → u23 = .agg #[.int .i64 2, .int .i64 4]) ∧ (D 13 = true → D 20 = false → FLd4 w2.heap.size W u24) ∧ (D 14 = true → u25 = .pointer (some ⟨g, 0, none⟩)) ∧ (D 15 = true → FInt 0 4 u26) ∧ (D 16 = true → D 20 = false → FPd4 w2.heap.size W u27) ∧ (D 17 = true → (∃ st ha : Int, u28 = .agg #[.int .i64 st, .int .i64 ha])) ∧ (D 18 = true → u2 = .slice A2 l.length c2) ∧ (D 19 = true → FAny u3)) ?_ ?_ ?_
  · intro us hu
    obtain ⟨u11, u12, u13, u14, u15, u16, u17, u18, u19, u20, u21, u22, u23, u24, u25, u26, u27, u28, u2, u3, rfl⟩ : ∃ u11 u12 u13 u14 u15 u16 u17 u18 u19 u20 u21 u22 u23 u24 u25 u26 u27 u28 u2 u3, us = [u11, u12, u13, u14, u15, u16, u17, u18, u19, u20, u21, u22, u23, u24, u25, u26, u27, u28, u2, u3] := by
      match us, hu with
      | [u11, u12, u13, u14, u15, u16, u17, u18, u19, u20, u21, u22, u23, u24, u25, u26, u27, u28, u2, u3], _ => exact ⟨_, _, _, _, _, _, _, _, _, _, _, _, _, _, _, _, _, _, _, _, rfl⟩
    exact ⟨_, _, _, _, _, _, _, _, _, _, _, _, _, _, _, _, _, _, _, _, rfl, (.inl ⟨by simp, ⟨(Onb.refl g w2).drew, p2, by omega, r2.drew⟩⟩), fun h => absurd h (by simp), fun h => absurd h (by simp), fun h => absurd h (by simp), fun h => absurd h (by simp), fun h => absurd h (by simp), fun h => absurd h (by simp), fun h => absurd h (by simp), fun h => absurd h (by simp), fun h => absurd h (by simp), fun h => absurd h (by simp), fun h => absurd h (by simp), fun h => absurd h (by simp), fun h => absurd h (by simp), fun h => absurd h (by simp), fun h => absurd h (by simp), fun h => absurd h (by simp), fun h => absurd h (by simp), fun h => absurd h (by simp), fun h => absurd h (by simp), fun h => absurd h (by simp)⟩
  · rintro i o hi ho D us W hu hd hdep ⟨u11, u12, u13, u14, u15, u16, u17, u18, u19, u20, u21, u22, u23, u24, u25, u26, u27, u28, u2, u3, rfl, hJ, f0, f1, f2, f3, f4, f5, f6, f7, f8, f9, f10, f11, f12, f13, f14, f15, f16, f17, f18, f19⟩
    have hi' : i < 21 := by simpa using hi
    clear hi hu
    rcases (show i = 0 ∨ i = 1 ∨ i = 2 ∨ i = 3 ∨ i = 4 ∨ i = 5 ∨ i = 6 ∨ i = 7 ∨ i = 8 ∨ i = 9 ∨ i = 10 ∨ i = 11 ∨ i = 12 ∨ i = 13 ∨ i = 14 ∨ i = 15 ∨ i = 16 ∨ i = 17 ∨ i = 18 ∨ i = 19 ∨ i = 20 from by omega) with rfl | rfl | rfl | rfl | rfl | rfl | rfl | rfl | rfl | rfl | rfl | rfl | rfl | rfl | rfl | rfl | rfl | rfl | rfl | rfl | rfl
    · simp only [List.getElem?_cons_zero, List.getElem?_cons_succ, Option.some.injEq] at ho
      subst ho
      clear hi'
      clear hdep
      have hI := (hJ.resolve_right (fun h => absurd ((h.2.1 0 (by decide)).symm.trans hd) (by simp)))
      obtain ⟨hz, hI⟩ := hI
      refine wpOp_step rfl (fun K hK => ?_)
      simp only [List.zip_cons_cons, List.zip_nil_right, puts]
      have Hf0 := Lib.hid f0
      have Hf1 := Lib.hid f1
      have Hf2 := Lib.hid f2
      have Hf3 := Lib.hid f3
      have Hf4 := Lib.hid f4
      have Hf5 := Lib.hid f5
      have Hf6 := Lib.hid f6
      have Hf7 := Lib.hid f7
      have Hf8 := Lib.hid f8
      have Hf9 := Lib.hid f9
      have Hf10 := Lib.hid f10
      have Hf11 := Lib.hid f11
      have Hf12 := Lib.hid f12
      have Hf13 := Lib.hid f13
      have Hf14 := Lib.hid f14
      have Hf15 := Lib.hid f15
      have Hf16 := Lib.hid f16
      have Hf17 := Lib.hid f17
      have Hf18 := Lib.hid f18
      have Hf19 := Lib.hid f19
      have HhK := Lib.hid hK
      have Hhd := Lib.hid hd
      have HhJ := Lib.hid hJ
      clear hd hK hJ f0 f1 f2 f3 f4 f5 f6 f7 f8 f9 f10 f11 f12 f13 f14 f15 f16 f17 f18 f19
      go_simp
      have f0 := Hf0.out
      have f1 := Hf1.out
      have f2 := Hf2.out
      have f3 := Hf3.out
      have f4 := Hf4.out
      have f5 := Hf5.out
      have f6 := Hf6.out
      have f7 := Hf7.out
      have f8 := Hf8.out
      have f9 := Hf9.out
      have f10 := Hf10.out
      have f11 := Hf11.out
      have f12 := Hf12.out
      have f13 := Hf13.out
      have f14 := Hf14.out
      have f15 := Hf15.out
      have f16 := Hf16.out
      have f17 := Hf17.out
      have f18 := Hf18.out
      have f19 := Hf19.out
      have hK := HhK.out
      have hd := Hhd.out
      have hJ := HhJ.out
      exact hK _ _ ⟨[(.slice A2 l.length c2), u12, u13, u14, u15, u16, u17, u18, u19, u20, u21, u22, u23, u24, u25, u26, u27, u28, u2, u3], rfl, by kernel_rfl, _, _, _, _, _, _, _, _, _, _, _, _, _, _, _, _, _, _, _, _, rfl, (.inl ⟨hz, hI⟩), (fun _ => rfl), f1, f2, f3, f4, f5, f6, f7, f8, f9, f10, f11, f12, f13, f14, f15, f16, f17, f18, f19⟩
    · simp only [List.getElem?_cons_zero, List.getElem?_cons_succ, Option.some.injEq] at ho
      subst ho
      clear hi'
      clear hdep
      have hI := (hJ.resolve_right (fun h => absurd ((h.2.1 1 (by decide)).symm.trans hd) (by simp)))
      obtain ⟨hz, hI⟩ := hI
      obtain ⟨kO, p, hp, rd⟩ := hI
      refine wpOp_step rfl (fun K hK => ?_)
      simp only [List.zip_cons_cons, List.zip_nil_right, puts]
      have Hf0 := Lib.hid f0
      have Hf1 := Lib.hid f1
      have Hf2 := Lib.hid f2
      have Hf3 := Lib.hid f3
      have Hf4 := Lib.hid f4
      have Hf5 := Lib.hid f5
      have Hf6 := Lib.hid f6
      have Hf7 := Lib.hid f7
      have Hf8 := Lib.hid f8
      have Hf9 := Lib.hid f9
      have Hf10 := Lib.hid f10
      have Hf11 := Lib.hid f11
      have Hf12 := Lib.hid f12
      have Hf13 := Lib.hid f13
      have Hf14 := Lib.hid f14
      have Hf15 := Lib.hid f15
      have Hf16 := Lib.hid f16
      have Hf17 := Lib.hid f17
      have Hf18 := Lib.hid f18
      have Hf19 := Lib.hid f19
      have HhK := Lib.hid hK
      have Hhd := Lib.hid hd
      have HhJ := Lib.hid hJ
      clear hd hK hJ f0 f1 f2 f3 f4 f5 f6 f7 f8 f9 f10 f11 f12 f13 f14 f15 f16 f17 f18 f19
      go_simp
      have f0 := Hf0.out
      have f1 := Hf1.out
      have f2 := Hf2.out
      have f3 := Hf3.out
      have f4 := Hf4.out
      have f5 := Hf5.out
      have f6 := Hf6.out
      have f7 := Hf7.out
      have f8 := Hf8.out
      have f9 := Hf9.out
      have f10 := Hf10.out
      have f11 := Hf11.out
      have f12 := Hf12.out
      have f13 := Hf13.out
      have f14 := Hf14.out
      have f15 := Hf15.out
      have f16 := Hf16.out
      have f17 := Hf17.out
      have f18 := Hf18.out
      have f19 := Hf19.out
      have hK := HhK.out
      have hd := Hhd.out
      have hJ := HhJ.out
      exact hK _ _ ⟨[u11, (.slice (some ⟨W.heap.size, 0, none⟩) 5 5), u13, u14, u15, u16, u17, u18, u19, u20, u21, u22, u23, u24, u25, u26, u27, u28, u2, u3], rfl, by kernel_rfl, _, _, _, _, _, _, _, _, _, _, _, _, _, _, _, _, _, _, _, _, rfl, (.inl ⟨hz, ⟨kO.trans (Onb.of_bel (bel_al (bel_refl W) (.cells #[.int .i64 24, .int .i64 48, .int .i64 12, .int .i64 0, .int .i64 769] 3))), p, hp, rd.alloc _⟩⟩), f0, (fun _ _ => ⟨_, rfl, kO.size, Blk.new W _ _⟩), (fun h z => ((f2 h z)).onb (Onb.of_bel (bel_al (bel_refl W) (.cells #[.int .i64 24, .int .i64 48, .int .i64 12, .int .i64 0, .int .i64 769] 3))) hg2), f3, f4, (fun h z => ((f5 h z)).onb (Onb.of_bel (bel_al (bel_refl W) (.cells #[.int .i64 24, .int .i64 48, .int .i64 12, .int .i64 0, .int .i64 769] 3))) hg2), f6, (fun h z => ((f7 h z)).onb (Onb.of_bel (bel_al (bel_refl W) (.cells #[.int .i64 24, .int .i64 48, .int .i64 12, .int .i64 0, .int .i64 769] 3))) hg2), f8, f9, f10, f11, f12, (fun h z => ((f13 h z)).onb (Onb.of_bel (bel_al (bel_refl W) (.cells #[.int .i64 24, .int .i64 48, .int .i64 12, .int .i64 0, .int .i64 769] 3))) hg2), f14, f15, (fun h z => ((f16 h z)).onb (Onb.of_bel (bel_al (bel_refl W) (.cells #[.int .i64 24, .int .i64 48, .int .i64 12, .int .i64 0, .int .i64 769] 3))) hg2), f17, f18, f19⟩
    · simp only [List.getElem?_cons_zero, List.getElem?_cons_succ, Option.some.injEq] at ho
      subst ho
      clear hi'
      clear hdep
      have hI := (hJ.resolve_right (fun h => absurd ((h.2.1 2 (by decide)).symm.trans hd) (by simp)))
      obtain ⟨hz, hI⟩ := hI
      obtain ⟨kO, p, hp, rd⟩ := hI
      refine wpOp_step rfl (fun K hK => ?_)
      simp only [List.zip_cons_cons, List.zip_nil_right, puts]
      have Hf0 := Lib.hid f0
      have Hf1 := Lib.hid f1
      have Hf2 := Lib.hid f2
      have Hf3 := Lib.hid f3
      have Hf4 := Lib.hid f4
      have Hf5 := Lib.hid f5
      have Hf6 := Lib.hid f6
      have Hf7 := Lib.hid f7
      have Hf8 := Lib.hid f8
      have Hf9 := Lib.hid f9
      have Hf10 := Lib.hid f10
      have Hf11 := Lib.hid f11
      have Hf12 := Lib.hid f12
      have Hf13 := Lib.hid f13
      have Hf14 := Lib.hid f14
      have Hf15 := Lib.hid f15
      have Hf16 := Lib.hid f16
      have Hf17 := Lib.hid f17
      have Hf18 := Lib.hid f18
      have Hf19 := Lib.hid f19
      have HhK := Lib.hid hK
      have Hhd := Lib.hid hd
      have HhJ := Lib.hid hJ
      clear hd hK hJ f0 f1 f2 f3 f4 f5 f6 f7 f8 f9 f10 f11 f12 f13 f14 f15 f16 f17 f18 f19
      go_simp
      have f0 := Hf0.out
      have f1 := Hf1.out
      have f2 := Hf2.out
      have f3 := Hf3.out
      have f4 := Hf4.out
      have f5 := Hf5.out
      have f6 := Hf6.out
      have f7 := Hf7.out
      have f8 := Hf8.out
      have f9 := Hf9.out
      have f10 := Hf10.out
      have f11 := Hf11.out
      have f12 := Hf12.out
      have f13 := Hf13.out
      have f14 := Hf14.out
      have f15 := Hf15.out
      have f16 := Hf16.out
      have f17 := Hf17.out
      have f18 := Hf18.out
      have f19 := Hf19.out
      have hK := HhK.out
      have hd := Hhd.out
      have hJ := HhJ.out
      exact hK _ _ ⟨[u11, u12, (.slice (some ⟨W.heap.size, 0, none⟩) 7 7), u14, u15, u16, u17, u18, u19, u20, u21, u22, u23, u24, u25, u26, u27, u28, u2, u3], rfl, by kernel_rfl, _, _, _, _, _, _, _, _, _, _, _, _, _, _, _, _, _, _, _, _, rfl, (.inl ⟨hz, ⟨kO.trans (Onb.of_bel (bel_al (bel_refl W) (.cells #[.int .i64 0, .int .i64 0, .int .i64 1, .int .i64 1, .int .i64 2, .int .i64 3, .int .i64 4] 3))), p, hp, rd.alloc _⟩⟩), f0, (fun h z => ((f1 h z)).onb (Onb.of_bel (bel_al (bel_refl W) (.cells #[.int .i64 0, .int .i64 0, .int .i64 1, .int .i64 1, .int .i64 2, .int .i64 3, .int .i64 4] 3))) hg2), (fun _ _ => ⟨_, rfl, kO.size, Blk.new W _ _⟩), f3, f4, (fun h z => ((f5 h z)).onb (Onb.of_bel (bel_al (bel_refl W) (.cells #[.int .i64 0, .int .i64 0, .int .i64 1, .int .i64 1, .int .i64 2, .int .i64 3, .int .i64 4] 3))) hg2), f6, (fun h z => ((f7 h z)).onb (Onb.of_bel (bel_al (bel_refl W) (.cells #[.int .i64 0, .int .i64 0, .int .i64 1, .int .i64 1, .int .i64 2, .int .i64 3, .int .i64 4] 3))) hg2), f8, f9, f10, f11, f12, (fun h z => ((f13 h z)).onb (Onb.of_bel (bel_al (bel_refl W) (.cells #[.int .i64 0, .int .i64 0, .int .i64 1, .int .i64 1, .int .i64 2, .int .i64 3, .int .i64 4] 3))) hg2), f14, f15, (fun h z => ((f16 h z)).onb (Onb.of_bel (bel_al (bel_refl W) (.cells #[.int .i64 0, .int .i64 0, .int .i64 1, .int .i64 1, .int .i64 2, .int .i64 3, .int .i64 4] 3))) hg2), f17, f18, f19⟩
    · simp only [List.getElem?_cons_zero, List.getElem?_cons_succ, Option.some.injEq] at ho
      subst ho
      clear hi'
      clear hdep
      have hI := (hJ.resolve_right (fun h => absurd ((h.2.1 3 (by decide)).symm.trans hd) (by simp)))
      obtain ⟨hz, hI⟩ := hI
      refine wpOp_step rfl (fun K hK => ?_)
      simp only [List.zip_cons_cons, List.zip_nil_right, puts]
      have Hf0 := Lib.hid f0
      have Hf1 := Lib.hid f1
      have Hf2 := Lib.hid f2
      have Hf3 := Lib.hid f3
      have Hf4 := Lib.hid f4
      have Hf5 := Lib.hid f5
      have Hf6 := Lib.hid f6
      have Hf7 := Lib.hid f7
      have Hf8 := Lib.hid f8
      have Hf9 := Lib.hid f9
      have Hf10 := Lib.hid f10
      have Hf11 := Lib.hid f11
      have Hf12 := Lib.hid f12
      have Hf13 := Lib.hid f13
      have Hf14 := Lib.hid f14
      have Hf15 := Lib.hid f15
      have Hf16 := Lib.hid f16
      have Hf17 := Lib.hid f17
      have Hf18 := Lib.hid f18
      have Hf19 := Lib.hid f19
      have HhK := Lib.hid hK
      have Hhd := Lib.hid hd
      have HhJ := Lib.hid hJ
      clear hd hK hJ f0 f1 f2 f3 f4 f5 f6 f7 f8 f9 f10 f11 f12 f13 f14 f15 f16 f17 f18 f19
      go_simp
      have f0 := Hf0.out
      have f1 := Hf1.out
      have f2 := Hf2.out
      have f3 := Hf3.out
      have f4 := Hf4.out
      have f5 := Hf5.out
      have f6 := Hf6.out
      have f7 := Hf7.out
      have f8 := Hf8.out
      have f9 := Hf9.out
      have f10 := Hf10.out
      have f11 := Hf11.out
      have f12 := Hf12.out
      have f13 := Hf13.out
      have f14 := Hf14.out
      have f15 := Hf15.out
      have f16 := Hf16.out
      have f17 := Hf17.out
      have f18 := Hf18.out
      have f19 := Hf19.out
      have hK := HhK.out
      have hd := Hhd.out
      have hJ := HhJ.out
      exact hK _ _ ⟨[u11, u12, u13, (.pointer (some ⟨g, 0, none⟩)), u15, u16, u17, u18, u19, u20, u21, u22, u23, u24, u25, u26, u27, u28, u2, u3], rfl, by kernel_rfl, _, _, _, _, _, _, _, _, _, _, _, _, _, _, _, _, _, _, _, _, rfl, (.inl ⟨hz, hI⟩), f0, f1, f2, (fun _ => rfl), f4, f5, f6, f7, f8, f9, f10, f11, f12, f13, f14, f15, f16, f17, f18, f19⟩
    · simp only [List.getElem?_cons_zero, List.getElem?_cons_succ, Option.some.injEq] at ho
      subst ho
      clear hi'
      have d3 : D 3 = true := hdep ⟨3, Ground.data⟩ (by simp) rfl
      clear hdep
      have hI := (hJ.resolve_right (fun h => absurd ((h.2.1 4 (by decide)).symm.trans hd) (by simp)))
      obtain ⟨hz, hI⟩ := hI
      obtain rfl := f3 d3
      obtain ⟨kO, p, hp, rd⟩ := hI
      have a4 := Bool.toNat_le (D 4)
      have a15 := Bool.toNat_le (D 15)
      refine wpOp_step rfl (fun K hK => ?_)
      simp only [List.zip_cons_cons, List.zip_nil_right, puts]
      have Hf0 := Lib.hid f0
      have Hf1 := Lib.hid f1
      have Hf2 := Lib.hid f2
      have Hf3 := Lib.hid f3
      have Hf4 := Lib.hid f4
      have Hf5 := Lib.hid f5
      have Hf6 := Lib.hid f6
      have Hf7 := Lib.hid f7
      have Hf8 := Lib.hid f8
      have Hf9 := Lib.hid f9
      have Hf10 := Lib.hid f10
      have Hf11 := Lib.hid f11
      have Hf12 := Lib.hid f12
      have Hf13 := Lib.hid f13
      have Hf14 := Lib.hid f14
      have Hf15 := Lib.hid f15
      have Hf16 := Lib.hid f16
      have Hf17 := Lib.hid f17
      have Hf18 := Lib.hid f18
      have Hf19 := Lib.hid f19
      have HhK := Lib.hid hK
      have Hhd := Lib.hid hd
      have HhJ := Lib.hid hJ
      clear hd hK hJ f0 f1 f2 f3 f4 f5 f6 f7 f8 f9 f10 f11 f12 f13 f14 f15 f16 f17 f18 f19
      go_simp
      go_wp2_with (go_at_call 52; refine (pick_fr _ _ _ _ _ _ _ _ rd (by omega)).mono ?_; rintro e w9 ⟨v, rfl, ⟨v0, v1, _⟩, o9, r9⟩)
      have v1 := v1 (by omega)
      have f0 := Hf0.out
      have f1 := Hf1.out
      have f2 := Hf2.out
      have f3 := Hf3.out
      have f4 := Hf4.out
      have f5 := Hf5.out
      have f6 := Hf6.out
      have f7 := Hf7.out
      have f8 := Hf8.out
      have f9 := Hf9.out
      have f10 := Hf10.out
      have f11 := Hf11.out
      have f12 := Hf12.out
      have f13 := Hf13.out
      have f14 := Hf14.out
      have f15 := Hf15.out
      have f16 := Hf16.out
      have f17 := Hf17.out
      have f18 := Hf18.out
      have f19 := Hf19.out
      have hK := HhK.out
      have hd := Hhd.out
      have hJ := HhJ.out
      exact hK _ _ ⟨[u11, u12, u13, (.pointer (some ⟨g, 0, none⟩)), (.int .i64 v), u16, u17, u18, u19, u20, u21, u22, u23, u24, u25, u26, u27, u28, u2, u3], rfl, by kernel_rfl, _, _, _, _, _, _, _, _, _, _, _, _, _, _, _, _, _, _, _, _, rfl, (.inl ⟨hz, ⟨kO.trans (Onb.of_onl o9), p + 1, (by have e := hp; rw [hd] at e; show p + 1 ≤ p2 + 6 * (true.toNat + (D 15).toNat); simp only [Bool.toNat_true, Bool.toNat_false] at e ⊢; omega), r9⟩⟩), f0, (fun h z => ((f1 h z)).onb (Onb.of_onl o9) hg2), (fun h z => ((f2 h z)).onb (Onb.of_onl o9) hg2), (fun _ => rfl), (fun _ => ⟨v, rfl, v0, v1⟩), (fun h z => ((f5 h z)).onb (Onb.of_onl o9) hg2), f6, (fun h z => ((f7 h z)).onb (Onb.of_onl o9) hg2), f8, f9, f10, f11, f12, (fun h z => ((f13 h z)).onb (Onb.of_onl o9) hg2), f14, f15, (fun h z => ((f16 h z)).onb (Onb.of_onl o9) hg2), f17, f18, f19⟩
    · simp only [List.getElem?_cons_zero, List.getElem?_cons_succ, Option.some.injEq] at ho
      subst ho
      clear hi'
      have d2 : D 2 = true := hdep ⟨2, Ground.data⟩ (by simp) rfl
      have d4 : D 4 = true := hdep ⟨4, Ground.data⟩ (by simp) rfl
      clear hdep
      have hI := (hJ.resolve_right (fun h => absurd ((h.2.1 5 (by decide)).symm.trans hd) (by simp)))
      obtain ⟨hz, hI⟩ := hI
      obtain ⟨b, rfl, hl, hb⟩ := f2 d2 hz
      obtain ⟨v, rfl, v0, v1⟩ := f4 d4
      refine wpOp_step rfl (fun K hK => ?_)
      simp only [List.zip_cons_cons, List.zip_nil_right, puts]
      have Hf0 := Lib.hid f0
      have Hf1 := Lib.hid f1
      have Hf2 := Lib.hid f2
      have Hf3 := Lib.hid f3
      have Hf4 := Lib.hid f4
      have Hf5 := Lib.hid f5
      have Hf6 := Lib.hid f6
      have Hf7 := Lib.hid f7
      have Hf8 := Lib.hid f8
      have Hf9 := Lib.hid f9
      have Hf10 := Lib.hid f10
      have Hf11 := Lib.hid f11
      have Hf12 := Lib.hid f12
      have Hf13 := Lib.hid f13
      have Hf14 := Lib.hid f14
      have Hf15 := Lib.hid f15
      have Hf16 := Lib.hid f16
      have Hf17 := Lib.hid f17
      have Hf18 := Lib.hid f18
      have Hf19 := Lib.hid f19
      have HhK := Lib.hid hK
      have Hhd := Lib.hid hd
      have HhJ := Lib.hid hJ
      clear hd hK hJ f0 f1 f2 f3 f4 f5 f6 f7 f8 f9 f10 f11 f12 f13 f14 f15 f16 f17 f18 f19
      go_simp
      have f0 := Hf0.out
      have f1 := Hf1.out
      have f2 := Hf2.out
      have f3 := Hf3.out
      have f4 := Hf4.out
      have f5 := Hf5.out
      have f6 := Hf6.out
      have f7 := Hf7.out
      have f8 := Hf8.out
      have f9 := Hf9.out
      have f10 := Hf10.out
      have f11 := Hf11.out
      have f12 := Hf12.out
      have f13 := Hf13.out
      have f14 := Hf14.out
      have f15 := Hf15.out
      have f16 := Hf16.out
      have f17 := Hf17.out
      have f18 := Hf18.out
      have f19 := Hf19.out
      have hK := HhK.out
      have hd := Hhd.out
      have hJ := HhJ.out
      exact hK _ _ ⟨[u11, u12, (.slice (some ⟨b, 0, none⟩) 7 7), u14, (.int .i64 v), (.pointer (some ⟨b, v.toNat, none⟩)), u17, u18, u19, u20, u21, u22, u23, u24, u25, u26, u27, u28, u2, u3], rfl, by kernel_rfl, _, _, _, _, _, _, _, _, _, _, _, _, _, _, _, _, _, _, _, _, rfl, (.inl ⟨hz, hI⟩), f0, f1, f2, f3, f4, (fun _ _ => ⟨_, v.toNat, rfl, by omega, hl, hb⟩), f6, f7, f8, f9, f10, f11, f12, f13, f14, f15, f16, f17, f18, f19⟩
    · simp only [List.getElem?_cons_zero, List.getElem?_cons_succ, Option.some.injEq] at ho
      subst ho
      clear hi'
      have d5 : D 5 = true := hdep ⟨5, Ground.data⟩ (by simp) rfl
      clear hdep
      have hI := (hJ.resolve_right (fun h => absurd ((h.2.1 6 (by decide)).symm.trans hd) (by simp)))
      obtain ⟨hz, hI⟩ := hI
      obtain ⟨b, t, rfl, t1, hl, hb⟩ := f5 d5 hz
      obtain ⟨x, hx, x0, x1⟩ := blkd7_at hb t1
      refine wpOp_step rfl (fun K hK => ?_)
      simp only [List.zip_cons_cons, List.zip_nil_right, puts]
      have Hf0 := Lib.hid f0
      have Hf1 := Lib.hid f1
      have Hf2 := Lib.hid f2
      have Hf3 := Lib.hid f3
      have Hf4 := Lib.hid f4
      have Hf5 := Lib.hid f5
      have Hf6 := Lib.hid f6
      have Hf7 := Lib.hid f7
      have Hf8 := Lib.hid f8
      have Hf9 := Lib.hid f9
      have Hf10 := Lib.hid f10
      have Hf11 := Lib.hid f11
      have Hf12 := Lib.hid f12
      have Hf13 := Lib.hid f13
      have Hf14 := Lib.hid f14
      have Hf15 := Lib.hid f15
      have Hf16 := Lib.hid f16
      have Hf17 := Lib.hid f17
      have Hf18 := Lib.hid f18
      have Hf19 := Lib.hid f19
      have HhK := Lib.hid hK
      have Hhd := Lib.hid hd
      have HhJ := Lib.hid hJ
      clear hd hK hJ f0 f1 f2 f3 f4 f5 f6 f7 f8 f9 f10 f11 f12 f13 f14 f15 f16 f17 f18 f19
      go_simp
      have f0 := Hf0.out
      have f1 := Hf1.out
      have f2 := Hf2.out
      have f3 := Hf3.out
      have f4 := Hf4.out
      have f5 := Hf5.out
      have f6 := Hf6.out
      have f7 := Hf7.out
      have f8 := Hf8.out
      have f9 := Hf9.out
      have f10 := Hf10.out
      have f11 := Hf11.out
      have f12 := Hf12.out
      have f13 := Hf13.out
      have f14 := Hf14.out
      have f15 := Hf15.out
      have f16 := Hf16.out
      have f17 := Hf17.out
      have f18 := Hf18.out
      have f19 := Hf19.out
      have hK := HhK.out
      have hd := Hhd.out
      have hJ := HhJ.out
      exact hK _ _ ⟨[u11, u12, u13, u14, u15, (.pointer (some ⟨b, t, none⟩)), (.int .i64 x), u18, u19, u20, u21, u22, u23, u24, u25, u26, u27, u28, u2, u3], rfl, by kernel_rfl, _, _, _, _, _, _, _, _, _, _, _, _, _, _, _, _, _, _, _, _, rfl, (.inl ⟨hz, hI⟩), f0, f1, f2, f3, f4, f5, (fun _ => ⟨_, rfl, x0, x1⟩), f7, f8, f9, f10, f11, f12, f13, f14, f15, f16, f17, f18, f19⟩
    · simp only [List.getElem?_cons_zero, List.getElem?_cons_succ, Option.some.injEq] at ho
      subst ho
      clear hi'
      have d1 : D 1 = true := hdep ⟨1, Ground.data⟩ (by simp) rfl
      have d6 : D 6 = true := hdep ⟨6, Ground.data⟩ (by simp) rfl
      clear hdep
      have hI := (hJ.resolve_right (fun h => absurd ((h.2.1 7 (by decide)).symm.trans hd) (by simp)))
      obtain ⟨hz, hI⟩ := hI
      obtain ⟨b, rfl, hl, hb⟩ := f1 d1 hz
      obtain ⟨v, rfl, v0, v1⟩ := f6 d6
      refine wpOp_step rfl (fun K hK => ?_)
      simp only [List.zip_cons_cons, List.zip_nil_right, puts]
      have Hf0 := Lib.hid f0
      have Hf1 := Lib.hid f1
      have Hf2 := Lib.hid f2
      have Hf3 := Lib.hid f3
      have Hf4 := Lib.hid f4
      have Hf5 := Lib.hid f5
      have Hf6 := Lib.hid f6
      have Hf7 := Lib.hid f7
      have Hf8 := Lib.hid f8
      have Hf9 := Lib.hid f9
      have Hf10 := Lib.hid f10
      have Hf11 := Lib.hid f11
      have Hf12 := Lib.hid f12
      have Hf13 := Lib.hid f13
      have Hf14 := Lib.hid f14
      have Hf15 := Lib.hid f15
      have Hf16 := Lib.hid f16
      have Hf17 := Lib.hid f17
      have Hf18 := Lib.hid f18
      have Hf19 := Lib.hid f19
      have HhK := Lib.hid hK
      have Hhd := Lib.hid hd
      have HhJ := Lib.hid hJ
      clear hd hK hJ f0 f1 f2 f3 f4 f5 f6 f7 f8 f9 f10 f11 f12 f13 f14 f15 f16 f17 f18 f19
      go_simp
      have f0 := Hf0.out
      have f1 := Hf1.out
      have f2 := Hf2.out
      have f3 := Hf3.out
      have f4 := Hf4.out
      have f5 := Hf5.out
      have f6 := Hf6.out
      have f7 := Hf7.out
      have f8 := Hf8.out
      have f9 := Hf9.out
      have f10 := Hf10.out
      have f11 := Hf11.out
      have f12 := Hf12.out
      have f13 := Hf13.out
      have f14 := Hf14.out
      have f15 := Hf15.out
      have f16 := Hf16.out
      have f17 := Hf17.out
      have f18 := Hf18.out
      have f19 := Hf19.out
      have hK := HhK.out
      have hd := Hhd.out
      have hJ := HhJ.out
      exact hK _ _ ⟨[u11, (.slice (some ⟨b, 0, none⟩) 5 5), u13, u14, u15, u16, (.int .i64 v), (.pointer (some ⟨b, v.toNat, none⟩)), u19, u20, u21, u22, u23, u24, u25, u26, u27, u28, u2, u3], rfl, by kernel_rfl, _, _, _, _, _, _, _, _, _, _, _, _, _, _, _, _, _, _, _, _, rfl, (.inl ⟨hz, hI⟩), f0, f1, f2, f3, f4, f5, f6, (fun _ _ => ⟨_, v.toNat, rfl, by omega, hl, hb⟩), f8, f9, f10, f11, f12, f13, f14, f15, f16, f17, f18, f19⟩
    · simp only [List.getElem?_cons_zero, List.getElem?_cons_succ, Option.some.injEq] at ho
      subst ho
      clear hi'
      have d7 : D 7 = true := hdep ⟨7, Ground.data⟩ (by simp) rfl
      clear hdep
      have hI := (hJ.resolve_right (fun h => absurd ((h.2.1 8 (by decide)).symm.trans hd) (by simp)))
      obtain ⟨hz, hI⟩ := hI
      obtain ⟨b, t, rfl, t1, hl, hb⟩ := f7 d7 hz
      obtain ⟨x, hx⟩ := blkd5_at hb t1
      refine wpOp_step rfl (fun K hK => ?_)
      simp only [List.zip_cons_cons, List.zip_nil_right, puts]
      have Hf0 := Lib.hid f0
      have Hf1 := Lib.hid f1
      have Hf2 := Lib.hid f2
      have Hf3 := Lib.hid f3
      have Hf4 := Lib.hid f4
      have Hf5 := Lib.hid f5
      have Hf6 := Lib.hid f6
      have Hf7 := Lib.hid f7
      have Hf8 := Lib.hid f8
      have Hf9 := Lib.hid f9
      have Hf10 := Lib.hid f10
      have Hf11 := Lib.hid f11
      have Hf12 := Lib.hid f12
      have Hf13 := Lib.hid f13
      have Hf14 := Lib.hid f14
      have Hf15 := Lib.hid f15
      have Hf16 := Lib.hid f16
      have Hf17 := Lib.hid f17
      have Hf18 := Lib.hid f18
      have Hf19 := Lib.hid f19
      have HhK := Lib.hid hK
      have Hhd := Lib.hid hd
      have HhJ := Lib.hid hJ
      clear hd hK hJ f0 f1 f2 f3 f4 f5 f6 f7 f8 f9 f10 f11 f12 f13 f14 f15 f16 f17 f18 f19
      go_simp
      have f0 := Hf0.out
      have f1 := Hf1.out
      have f2 := Hf2.out
      have f3 := Hf3.out
      have f4 := Hf4.out
      have f5 := Hf5.out
      have f6 := Hf6.out
      have f7 := Hf7.out
      have f8 := Hf8.out
      have f9 := Hf9.out
      have f10 := Hf10.out
      have f11 := Hf11.out
      have f12 := Hf12.out
      have f13 := Hf13.out
      have f14 := Hf14.out
      have f15 := Hf15.out
      have f16 := Hf16.out
      have f17 := Hf17.out
      have f18 := Hf18.out
      have f19 := Hf19.out
      have hK := HhK.out
      have hd := Hhd.out
      have hJ := HhJ.out
      exact hK _ _ ⟨[u11, u12, u13, u14, u15, u16, u17, (.pointer (some ⟨b, t, none⟩)), (.int .i64 x), u20, u21, u22, u23, u24, u25, u26, u27, u28, u2, u3], rfl, by kernel_rfl, _, _, _, _, _, _, _, _, _, _, _, _, _, _, _, _, _, _, _, _, rfl, (.inl ⟨hz, hI⟩), f0, f1, f2, f3, f4, f5, f6, f7, (fun _ => ⟨_, rfl⟩), f9, f10, f11, f12, f13, f14, f15, f16, f17, f18, f19⟩
    · simp only [List.getElem?_cons_zero, List.getElem?_cons_succ, Option.some.injEq] at ho
      subst ho
      clear hi'
      clear hdep
      have hI := (hJ.resolve_right (fun h => absurd ((h.2.1 9 (by decide)).symm.trans hd) (by simp)))
      obtain ⟨hz, hI⟩ := hI
      refine wpOp_step rfl (fun K hK => ?_)
      simp only [List.zip_cons_cons, List.zip_nil_right, puts]
      have Hf0 := Lib.hid f0
      have Hf1 := Lib.hid f1
      have Hf2 := Lib.hid f2
      have Hf3 := Lib.hid f3
      have Hf4 := Lib.hid f4
      have Hf5 := Lib.hid f5
      have Hf6 := Lib.hid f6
      have Hf7 := Lib.hid f7
      have Hf8 := Lib.hid f8
      have Hf9 := Lib.hid f9
      have Hf10 := Lib.hid f10
      have Hf11 := Lib.hid f11
      have Hf12 := Lib.hid f12
      have Hf13 := Lib.hid f13
      have Hf14 := Lib.hid f14
      have Hf15 := Lib.hid f15
      have Hf16 := Lib.hid f16
      have Hf17 := Lib.hid f17
      have Hf18 := Lib.hid f18
      have Hf19 := Lib.hid f19
      have HhK := Lib.hid hK
      have Hhd := Lib.hid hd
      have HhJ := Lib.hid hJ
      clear hd hK hJ f0 f1 f2 f3 f4 f5 f6 f7 f8 f9 f10 f11 f12 f13 f14 f15 f16 f17 f18 f19
      go_simp
      have f0 := Hf0.out
      have f1 := Hf1.out
      have f2 := Hf2.out
      have f3 := Hf3.out
      have f4 := Hf4.out
      have f5 := Hf5.out
      have f6 := Hf6.out
      have f7 := Hf7.out
      have f8 := Hf8.out
      have f9 := Hf9.out
      have f10 := Hf10.out
      have f11 := Hf11.out
      have f12 := Hf12.out
      have f13 := Hf13.out
      have f14 := Hf14.out
      have f15 := Hf15.out
      have f16 := Hf16.out
      have f17 := Hf17.out
      have f18 := Hf18.out
      have f19 := Hf19.out
      have hK := HhK.out
      have hd := Hhd.out
      have hJ := HhJ.out
      exact hK _ _ ⟨[u11, u12, u13, u14, u15, u16, u17, u18, u19, (.agg #[.int .i64 0, .int .i64 0]), u21, u22, u23, u24, u25, u26, u27, u28, u2, u3], rfl, by kernel_rfl, _, _, _, _, _, _, _, _, _, _, _, _, _, _, _, _, _, _, _, _, rfl, (.inl ⟨hz, hI⟩), f0, f1, f2, f3, f4, f5, f6, f7, f8, (fun _ => rfl), f10, f11, f12, f13, f14, f15, f16, f17, f18, f19⟩
    · simp only [List.getElem?_cons_zero, List.getElem?_cons_succ, Option.some.injEq] at ho
      subst ho
      clear hi'
      clear hdep
      have hI := (hJ.resolve_right (fun h => absurd ((h.2.1 10 (by decide)).symm.trans hd) (by simp)))
      obtain ⟨hz, hI⟩ := hI
      refine wpOp_step rfl (fun K hK => ?_)
      simp only [List.zip_cons_cons, List.zip_nil_right, puts]
      have Hf0 := Lib.hid f0
      have Hf1 := Lib.hid f1
      have Hf2 := Lib.hid f2
      have Hf3 := Lib.hid f3
      have Hf4 := Lib.hid f4
      have Hf5 := Lib.hid f5
      have Hf6 := Lib.hid f6
      have Hf7 := Lib.hid f7
      have Hf8 := Lib.hid f8
      have Hf9 := Lib.hid f9
      have Hf10 := Lib.hid f10
      have Hf11 := Lib.hid f11
      have Hf12 := Lib.hid f12
      have Hf13 := Lib.hid f13
      have Hf14 := Lib.hid f14
      have Hf15 := Lib.hid f15
      have Hf16 := Lib.hid f16
      have Hf17 := Lib.hid f17
      have Hf18 := Lib.hid f18
      have Hf19 := Lib.hid f19
      have HhK := Lib.hid hK
      have Hhd := Lib.hid hd
      have HhJ := Lib.hid hJ
      clear hd hK hJ f0 f1 f2 f3 f4 f5 f6 f7 f8 f9 f10 f11 f12 f13 f14 f15 f16 f17 f18 f19
      go_simp
      have f0 := Hf0.out
      have f1 := Hf1.out
      have f2 := Hf2.out
      have f3 := Hf3.out
      have f4 := Hf4.out
      have f5 := Hf5.out
      have f6 := Hf6.out
      have f7 := Hf7.out
      have f8 := Hf8.out
      have f9 := Hf9.out
      have f10 := Hf10.out
      have f11 := Hf11.out
      have f12 := Hf12.out
      have f13 := Hf13.out
      have f14 := Hf14.out
      have f15 := Hf15.out
      have f16 := Hf16.out
      have f17 := Hf17.out
      have f18 := Hf18.out
      have f19 := Hf19.out
      have hK := HhK.out
      have hd := Hhd.out
      have hJ := HhJ.out
      exact hK _ _ ⟨[u11, u12, u13, u14, u15, u16, u17, u18, u19, u20, (.agg #[.int .i64 4, .int .i64 7]), u22, u23, u24, u25, u26, u27, u28, u2, u3], rfl, by kernel_rfl, _, _, _, _, _, _, _, _, _, _, _, _, _, _, _, _, _, _, _, _, rfl, (.inl ⟨hz, hI⟩), f0, f1, f2, f3, f4, f5, f6, f7, f8, f9, (fun _ => rfl), f11, f12, f13, f14, f15, f16, f17, f18, f19⟩
    · simp only [List.getElem?_cons_zero, List.getElem?_cons_succ, Option.some.injEq] at ho
      subst ho
      clear hi'
      clear hdep
      have hI := (hJ.resolve_right (fun h => absurd ((h.2.1 11 (by decide)).symm.trans hd) (by simp)))
      obtain ⟨hz, hI⟩ := hI
      refine wpOp_step rfl (fun K hK => ?_)
      simp only [List.zip_cons_cons, List.zip_nil_right, puts]
      have Hf0 := Lib.hid f0
      have Hf1 := Lib.hid f1
      have Hf2 := Lib.hid f2
      have Hf3 := Lib.hid f3
      have Hf4 := Lib.hid f4
      have Hf5 := Lib.hid f5
      have Hf6 := Lib.hid f6
      have Hf7 := Lib.hid f7
      have Hf8 := Lib.hid f8
      have Hf9 := Lib.hid f9
      have Hf10 := Lib.hid f10
      have Hf11 := Lib.hid f11
      have Hf12 := Lib.hid f12
      have Hf13 := Lib.hid f13
      have Hf14 := Lib.hid f14
      have Hf15 := Lib.hid f15
      have Hf16 := Lib.hid f16
      have Hf17 := Lib.hid f17
      have Hf18 := Lib.hid f18
      have Hf19 := Lib.hid f19
      have HhK := Lib.hid hK
      have Hhd := Lib.hid hd
      have HhJ := Lib.hid hJ
      clear hd hK hJ f0 f1 f2 f3 f4 f5 f6 f7 f8 f9 f10 f11 f12 f13 f14 f15 f16 f17 f18 f19
      go_simp
      have f0 := Hf0.out
      have f1 := Hf1.out
      have f2 := Hf2.out
      have f3 := Hf3.out
      have f4 := Hf4.out
      have f5 := Hf5.out
      have f6 := Hf6.out
      have f7 := Hf7.out
      have f8 := Hf8.out
      have f9 := Hf9.out
      have f10 := Hf10.out
      have f11 := Hf11.out
      have f12 := Hf12.out
      have f13 := Hf13.out
      have f14 := Hf14.out
      have f15 := Hf15.out
      have f16 := Hf16.out
      have f17 := Hf17.out
      have f18 := Hf18.out
      have f19 := Hf19.out
      have hK := HhK.out
      have hd := Hhd.out
      have hJ := HhJ.out
      exact hK _ _ ⟨[u11, u12, u13, u14, u15, u16, u17, u18, u19, u20, u21, (.agg #[.int .i64 (-7), .int .i64 (-12)]), u23, u24, u25, u26, u27, u28, u2, u3], rfl, by kernel_rfl, _, _, _, _, _, _, _, _, _, _, _, _, _, _, _, _, _, _, _, _, rfl, (.inl ⟨hz, hI⟩), f0, f1, f2, f3, f4, f5, f6, f7, f8, f9, f10, (fun _ => rfl), f12, f13, f14, f15, f16, f17, f18, f19⟩
    · simp only [List.getElem?_cons_zero, List.getElem?_cons_succ, Option.some.injEq] at ho
      subst ho
      clear hi'
      clear hdep
      have hI := (hJ.resolve_right (fun h => absurd ((h.2.1 12 (by decide)).symm.trans hd) (by simp)))
      obtain ⟨hz, hI⟩ := hI
      refine wpOp_step rfl (fun K hK => ?_)
      simp only [List.zip_cons_cons, List.zip_nil_right, puts]
      have Hf0 := Lib.hid f0
      have Hf1 := Lib.hid f1
      have Hf2 := Lib.hid f2
      have Hf3 := Lib.hid f3
      have Hf4 := Lib.hid f4
      have Hf5 := Lib.hid f5
      have Hf6 := Lib.hid f6
      have Hf7 := Lib.hid f7
      have Hf8 := Lib.hid f8
      have Hf9 := Lib.hid f9
      have Hf10 := Lib.hid f10
      have Hf11 := Lib.hid f11
      have Hf12 := Lib.hid f12
      have Hf13 := Lib.hid f13
      have Hf14 := Lib.hid f14
      have Hf15 := Lib.hid f15
      have Hf16 := Lib.hid f16
      have Hf17 := Lib.hid f17
      have Hf18 := Lib.hid f18
      have Hf19 := Lib.hid f19
      have HhK := Lib.hid hK
      have Hhd := Lib.hid hd
      have HhJ := Lib.hid hJ
      clear hd hK hJ f0 f1 f2 f3 f4 f5 f6 f7 f8 f9 f10 f11 f12 f13 f14 f15 f16 f17 f18 f19
      go_simp
      have f0 := Hf0.out
      have f1 := Hf1.out
      have f2 := Hf2.out
      have f3 := Hf3.out
      have f4 := Hf4.out
      have f5 := Hf5.out
      have f6 := Hf6.out
      have f7 := Hf7.out
      have f8 := Hf8.out
      have f9 := Hf9.out
      have f10 := Hf10.out
      have f11 := Hf11.out
      have f12 := Hf12.out
      have f13 := Hf13.out
      have f14 := Hf14.out
      have f15 := Hf15.out
      have f16 := Hf16.out
      have f17 := Hf17.out
      have f18 := Hf18.out
      have f19 := Hf19.out
      have hK := HhK.out
      have hd := Hhd.out
      have hJ := HhJ.out
      exact hK _ _ ⟨[u11, u12, u13, u14, u15, u16, u17, u18, u19, u20, u21, u22, (.agg #[.int .i64 2, .int .i64 4]), u24, u25, u26, u27, u28, u2, u3], rfl, by kernel_rfl, _, _, _, _, _, _, _, _, _, _, _, _, _, _, _, _, _, _, _, _, rfl, (.inl ⟨hz, hI⟩), f0, f1, f2, f3, f4, f5, f6, f7, f8, f9, f10, f11, (fun _ => rfl), f13, f14, f15, f16, f17, f18, f19⟩
    · simp only [List.getElem?_cons_zero, List.getElem?_cons_succ, Option.some.injEq] at ho
      subst ho
      clear hi'
      have d9 : D 9 = true := hdep ⟨9, Ground.data⟩ (by simp) rfl
      have d10 : D 10 = true := hdep ⟨10, Ground.data⟩ (by simp) rfl
      have d11 : D 11 = true := hdep ⟨11, Ground.data⟩ (by simp) rfl
      have d12 : D 12 = true := hdep ⟨12, Ground.data⟩ (by simp) rfl
      clear hdep
      have hI := (hJ.resolve_right (fun h => absurd ((h.2.1 13 (by decide)).symm.trans hd) (by simp)))
      obtain ⟨hz, hI⟩ := hI
      obtain rfl := f9 d9
      obtain rfl := f10 d10
      obtain rfl := f11 d11
      obtain rfl := f12 d12
      obtain ⟨kO, p, hp, rd⟩ := hI
      refine wpOp_step rfl (fun K hK => ?_)
      simp only [List.zip_cons_cons, List.zip_nil_right, puts]
      have Hf0 := Lib.hid f0
      have Hf1 := Lib.hid f1
      have Hf2 := Lib.hid f2
      have Hf3 := Lib.hid f3
      have Hf4 := Lib.hid f4
      have Hf5 := Lib.hid f5
      have Hf6 := Lib.hid f6
      have Hf7 := Lib.hid f7
      have Hf8 := Lib.hid f8
      have Hf9 := Lib.hid f9
      have Hf10 := Lib.hid f10
      have Hf11 := Lib.hid f11
      have Hf12 := Lib.hid f12
      have Hf13 := Lib.hid f13
      have Hf14 := Lib.hid f14
      have Hf15 := Lib.hid f15
      have Hf16 := Lib.hid f16
      have Hf17 := Lib.hid f17
      have Hf18 := Lib.hid f18
      have Hf19 := Lib.hid f19
      have HhK := Lib.hid hK
      have Hhd := Lib.hid hd
      have HhJ := Lib.hid hJ
      clear hd hK hJ f0 f1 f2 f3 f4 f5 f6 f7 f8 f9 f10 f11 f12 f13 f14 f15 f16 f17 f18 f19
      go_simp
      have f0 := Hf0.out
      have f1 := Hf1.out
      have f2 := Hf2.out
      have f3 := Hf3.out
      have f4 := Hf4.out
      have f5 := Hf5.out
      have f6 := Hf6.out
      have f7 := Hf7.out
      have f8 := Hf8.out
      have f9 := Hf9.out
      have f10 := Hf10.out
      have f11 := Hf11.out
      have f12 := Hf12.out
      have f13 := Hf13.out
      have f14 := Hf14.out
      have f15 := Hf15.out
      have f16 := Hf16.out
      have f17 := Hf17.out
      have f18 := Hf18.out
      have f19 := Hf19.out
      have hK := HhK.out
      have hd := Hhd.out
      have hJ := HhJ.out
      exact hK _ _ ⟨[u11, u12, u13, u14, u15, u16, u17, u18, u19, (.agg #[.int .i64 0, .int .i64 0]), (.agg #[.int .i64 4, .int .i64 7]), (.agg #[.int .i64 (-7), .int .i64 (-12)]), (.agg #[.int .i64 2, .int .i64 4]), (.slice (some ⟨W.heap.size, 0, none⟩) 4 4), u25, u26, u27, u28, u2, u3], rfl, by kernel_rfl, _, _, _, _, _, _, _, _, _, _, _, _, _, _, _, _, _, _, _, _, rfl, (.inl ⟨hz, ⟨kO.trans (Onb.of_bel (bel_al (bel_refl W) (.cells #[.int .i64 0, .int .i64 0, .int .i64 4, .int .i64 7, .int .i64 (-7), .int .i64 (-12), .int .i64 2, .int .i64 4] 44))), p, hp, rd.alloc _⟩⟩), f0, (fun h z => ((f1 h z)).onb (Onb.of_bel (bel_al (bel_refl W) (.cells #[.int .i64 0, .int .i64 0, .int .i64 4, .int .i64 7, .int .i64 (-7), .int .i64 (-12), .int .i64 2, .int .i64 4] 44))) hg2), (fun h z => ((f2 h z)).onb (Onb.of_bel (bel_al (bel_refl W) (.cells #[.int .i64 0, .int .i64 0, .int .i64 4, .int .i64 7, .int .i64 (-7), .int .i64 (-12), .int .i64 2, .int .i64 4] 44))) hg2), f3, f4, (fun h z => ((f5 h z)).onb (Onb.of_bel (bel_al (bel_refl W) (.cells #[.int .i64 0, .int .i64 0, .int .i64 4, .int .i64 7, .int .i64 (-7), .int .i64 (-12), .int .i64 2, .int .i64 4] 44))) hg2), f6, (fun h z => ((f7 h z)).onb (Onb.of_bel (bel_al (bel_refl W) (.cells #[.int .i64 0, .int .i64 0, .int .i64 4, .int .i64 7, .int .i64 (-7), .int .i64 (-12), .int .i64 2, .int .i64 4] 44))) hg2), f8, (fun _ => rfl), (fun _ => rfl), (fun _ => rfl), (fun _ => rfl), (fun _ _ => ⟨_, rfl, kO.size, Blk.new W _ _⟩), f14, f15, (fun h z => ((f16 h z)).onb (Onb.of_bel (bel_al (bel_refl W) (.cells #[.int .i64 0, .int .i64 0, .int .i64 4, .int .i64 7, .int .i64 (-7), .int .i64 (-12), .int .i64 2, .int .i64 4] 44))) hg2), f17, f18, f19⟩
    · simp only [List.getElem?_cons_zero, List.getElem?_cons_succ, Option.some.injEq] at ho
      subst ho
      clear hi'
      clear hdep
      have hI := (hJ.resolve_right (fun h => absurd ((h.2.1 14 (by decide)).symm.trans hd) (by simp)))
      obtain ⟨hz, hI⟩ := hI
      refine wpOp_step rfl (fun K hK => ?_)
      simp only [List.zip_cons_cons, List.zip_nil_right, puts]
      have Hf0 := Lib.hid f0
      have Hf1 := Lib.hid f1
      have Hf2 := Lib.hid f2
      have Hf3 := Lib.hid f3
      have Hf4 := Lib.hid f4
      have Hf5 := Lib.hid f5
      have Hf6 := Lib.hid f6
      have Hf7 := Lib.hid f7
      have Hf8 := Lib.hid f8
      have Hf9 := Lib.hid f9
      have Hf10 := Lib.hid f10
      have Hf11 := Lib.hid f11
      have Hf12 := Lib.hid f12
      have Hf13 := Lib.hid f13
      have Hf14 := Lib.hid f14
      have Hf15 := Lib.hid f15
      have Hf16 := Lib.hid f16
      have Hf17 := Lib.hid f17
      have Hf18 := Lib.hid f18
      have Hf19 := Lib.hid f19
      have HhK := Lib.hid hK
      have Hhd := Lib.hid hd
      have HhJ := Lib.hid hJ
      clear hd hK hJ f0 f1 f2 f3 f4 f5 f6 f7 f8 f9 f10 f11 f12 f13 f14 f15 f16 f17 f18 f19
      go_simp
      have f0 := Hf0.out
      have f1 := Hf1.out
      have f2 := Hf2.out
      have f3 := Hf3.out
      have f4 := Hf4.out
      have f5 := Hf5.out
      have f6 := Hf6.out
      have f7 := Hf7.out
      have f8 := Hf8.out
      have f9 := Hf9.out
      have f10 := Hf10.out
      have f11 := Hf11.out
      have f12 := Hf12.out
      have f13 := Hf13.out
      have f14 := Hf14.out
      have f15 := Hf15.out
      have f16 := Hf16.out
      have f17 := Hf17.out
      have f18 := Hf18.out
      have f19 := Hf19.out
      have hK := HhK.out
      have hd := Hhd.out
      have hJ := HhJ.out
      exact hK _ _ ⟨[u11, u12, u13, u14, u15, u16, u17, u18, u19, u20, u21, u22, u23, u24, (.pointer (some ⟨g, 0, none⟩)), u26, u27, u28, u2, u3], rfl, by kernel_rfl, _, _, _, _, _, _, _, _, _, _, _, _, _, _, _, _, _, _, _, _, rfl, (.inl ⟨hz, hI⟩), f0, f1, f2, f3, f4, f5, f6, f7, f8, f9, f10, f11, f12, f13, (fun _ => rfl), f15, f16, f17, f18, f19⟩
    · simp only [List.getElem?_cons_zero, List.getElem?_cons_succ, Option.some.injEq] at ho
      subst ho
      clear hi'
      have d14 : D 14 = true := hdep ⟨14, Ground.data⟩ (by simp) rfl
      clear hdep
      have hI := (hJ.resolve_right (fun h => absurd ((h.2.1 15 (by decide)).symm.trans hd) (by simp)))
      obtain ⟨hz, hI⟩ := hI
      obtain rfl := f14 d14
      obtain ⟨kO, p, hp, rd⟩ := hI
      have a4 := Bool.toNat_le (D 4)
      have a15 := Bool.toNat_le (D 15)
      refine wpOp_step rfl (fun K hK => ?_)
      simp only [List.zip_cons_cons, List.zip_nil_right, puts]
      have Hf0 := Lib.hid f0
      have Hf1 := Lib.hid f1
      have Hf2 := Lib.hid f2
      have Hf3 := Lib.hid f3
      have Hf4 := Lib.hid f4
      have Hf5 := Lib.hid f5
      have Hf6 := Lib.hid f6
      have Hf7 := Lib.hid f7
      have Hf8 := Lib.hid f8
      have Hf9 := Lib.hid f9
      have Hf10 := Lib.hid f10
      have Hf11 := Lib.hid f11
      have Hf12 := Lib.hid f12
      have Hf13 := Lib.hid f13
      have Hf14 := Lib.hid f14
      have Hf15 := Lib.hid f15
      have Hf16 := Lib.hid f16
      have Hf17 := Lib.hid f17
      have Hf18 := Lib.hid f18
      have Hf19 := Lib.hid f19
      have HhK := Lib.hid hK
      have Hhd := Lib.hid hd
      have HhJ := Lib.hid hJ
      clear hd hK hJ f0 f1 f2 f3 f4 f5 f6 f7 f8 f9 f10 f11 f12 f13 f14 f15 f16 f17 f18 f19
      go_simp
      go_wp2_with (go_at_call 52; refine (pick_fr _ _ _ _ _ _ _ _ rd (by omega)).mono ?_; rintro e w9 ⟨v, rfl, ⟨v0, v1, _⟩, o9, r9⟩)
      have v1 := v1 (by omega)
      have f0 := Hf0.out
      have f1 := Hf1.out
      have f2 := Hf2.out
      have f3 := Hf3.out
      have f4 := Hf4.out
      have f5 := Hf5.out
      have f6 := Hf6.out
      have f7 := Hf7.out
      have f8 := Hf8.out
      have f9 := Hf9.out
      have f10 := Hf10.out
      have f11 := Hf11.out
      have f12 := Hf12.out
      have f13 := Hf13.out
      have f14 := Hf14.out
      have f15 := Hf15.out
      have f16 := Hf16.out
      have f17 := Hf17.out
      have f18 := Hf18.out
      have f19 := Hf19.out
      have hK := HhK.out
      have hd := Hhd.out
      have hJ := HhJ.out
      exact hK _ _ ⟨[u11, u12, u13, u14, u15, u16, u17, u18, u19, u20, u21, u22, u23, u24, (.pointer (some ⟨g, 0, none⟩)), (.int .i64 v), u27, u28, u2, u3], rfl, by kernel_rfl, _, _, _, _, _, _, _, _, _, _, _, _, _, _, _, _, _, _, _, _, rfl, (.inl ⟨hz, ⟨kO.trans (Onb.of_onl o9), p + 1, (by have e := hp; rw [hd] at e; show p + 1 ≤ p2 + 6 * ((D 4).toNat + true.toNat); simp only [Bool.toNat_true, Bool.toNat_false] at e ⊢; omega), r9⟩⟩), f0, (fun h z => ((f1 h z)).onb (Onb.of_onl o9) hg2), (fun h z => ((f2 h z)).onb (Onb.of_onl o9) hg2), f3, f4, (fun h z => ((f5 h z)).onb (Onb.of_onl o9) hg2), f6, (fun h z => ((f7 h z)).onb (Onb.of_onl o9) hg2), f8, f9, f10, f11, f12, (fun h z => ((f13 h z)).onb (Onb.of_onl o9) hg2), (fun _ => rfl), (fun _ => ⟨v, rfl, v0, v1⟩), (fun h z => ((f16 h z)).onb (Onb.of_onl o9) hg2), f17, f18, f19⟩
    · simp only [List.getElem?_cons_zero, List.getElem?_cons_succ, Option.some.injEq] at ho
      subst ho
      clear hi'
      have d13 : D 13 = true := hdep ⟨13, Ground.data⟩ (by simp) rfl
      have d15 : D 15 = true := hdep ⟨15, Ground.data⟩ (by simp) rfl
      clear hdep
      have hI := (hJ.resolve_right (fun h => absurd ((h.2.1 16 (by decide)).symm.trans hd) (by simp)))
      obtain ⟨hz, hI⟩ := hI
      obtain ⟨b, rfl, hl, hb⟩ := f13 d13 hz
      obtain ⟨v, rfl, v0, v1⟩ := f15 d15
      refine wpOp_step rfl (fun K hK => ?_)
      simp only [List.zip_cons_cons, List.zip_nil_right, puts]
      have Hf0 := Lib.hid f0
      have Hf1 := Lib.hid f1
      have Hf2 := Lib.hid f2
      have Hf3 := Lib.hid f3
      have Hf4 := Lib.hid f4
      have Hf5 := Lib.hid f5
      have Hf6 := Lib.hid f6
      have Hf7 := Lib.hid f7
      have Hf8 := Lib.hid f8
      have Hf9 := Lib.hid f9
      have Hf10 := Lib.hid f10
      have Hf11 := Lib.hid f11
      have Hf12 := Lib.hid f12
      have Hf13 := Lib.hid f13
      have Hf14 := Lib.hid f14
      have Hf15 := Lib.hid f15
      have Hf16 := Lib.hid f16
      have Hf17 := Lib.hid f17
      have Hf18 := Lib.hid f18
      have Hf19 := Lib.hid f19
      have HhK := Lib.hid hK
      have Hhd := Lib.hid hd
      have HhJ := Lib.hid hJ
      clear hd hK hJ f0 f1 f2 f3 f4 f5 f6 f7 f8 f9 f10 f11 f12 f13 f14 f15 f16 f17 f18 f19
      go_simp
      have f0 := Hf0.out
      have f1 := Hf1.out
      have f2 := Hf2.out
      have f3 := Hf3.out
      have f4 := Hf4.out
      have f5 := Hf5.out
      have f6 := Hf6.out
      have f7 := Hf7.out
      have f8 := Hf8.out
      have f9 := Hf9.out
      have f10 := Hf10.out
      have f11 := Hf11.out
      have f12 := Hf12.out
      have f13 := Hf13.out
      have f14 := Hf14.out
      have f15 := Hf15.out
      have f16 := Hf16.out
      have f17 := Hf17.out
      have f18 := Hf18.out
      have f19 := Hf19.out
      have hK := HhK.out
      have hd := Hhd.out
      have hJ := HhJ.out
      exact hK _ _ ⟨[u11, u12, u13, u14, u15, u16, u17, u18, u19, u20, u21, u22, u23, (.slice (some ⟨b, 0, none⟩) 4 4), u25, (.int .i64 v), (.pointer (some ⟨b, v.toNat * 2, none⟩)), u28, u2, u3], rfl, by kernel_rfl, _, _, _, _, _, _, _, _, _, _, _, _, _, _, _, _, _, _, _, _, rfl, (.inl ⟨hz, hI⟩), f0, f1, f2, f3, f4, f5, f6, f7, f8, f9, f10, f11, f12, f13, f14, f15, (fun _ _ => ⟨_, v.toNat, rfl, by omega, hl, hb⟩), f17, f18, f19⟩
    · simp only [List.getElem?_cons_zero, List.getElem?_cons_succ, Option.some.injEq] at ho
      subst ho
      clear hi'
      have d16 : D 16 = true := hdep ⟨16, Ground.data⟩ (by simp) rfl
      clear hdep
      have hI := (hJ.resolve_right (fun h => absurd ((h.2.1 17 (by decide)).symm.trans hd) (by simp)))
      obtain ⟨hz, hI⟩ := hI
      obtain ⟨b, t, rfl, t1, hl, hb⟩ := f16 d16 hz
      obtain ⟨x, y, hx, hy⟩ := blkd4_at hb t1
      refine wpOp_step rfl (fun K hK => ?_)
      simp only [List.zip_cons_cons, List.zip_nil_right, puts]
      have Hf0 := Lib.hid f0
      have Hf1 := Lib.hid f1
      have Hf2 := Lib.hid f2
      have Hf3 := Lib.hid f3
      have Hf4 := Lib.hid f4
      have Hf5 := Lib.hid f5
      have Hf6 := Lib.hid f6
      have Hf7 := Lib.hid f7
      have Hf8 := Lib.hid f8
      have Hf9 := Lib.hid f9
      have Hf10 := Lib.hid f10
      have Hf11 := Lib.hid f11
      have Hf12 := Lib.hid f12
      have Hf13 := Lib.hid f13
      have Hf14 := Lib.hid f14
      have Hf15 := Lib.hid f15
      have Hf16 := Lib.hid f16
      have Hf17 := Lib.hid f17
      have Hf18 := Lib.hid f18
      have Hf19 := Lib.hid f19
      have HhK := Lib.hid hK
      have Hhd := Lib.hid hd
      have HhJ := Lib.hid hJ
      clear hd hK hJ f0 f1 f2 f3 f4 f5 f6 f7 f8 f9 f10 f11 f12 f13 f14 f15 f16 f17 f18 f19
      go_simp
      have f0 := Hf0.out
      have f1 := Hf1.out
      have f2 := Hf2.out
      have f3 := Hf3.out
      have f4 := Hf4.out
      have f5 := Hf5.out
      have f6 := Hf6.out
      have f7 := Hf7.out
      have f8 := Hf8.out
      have f9 := Hf9.out
      have f10 := Hf10.out
      have f11 := Hf11.out
      have f12 := Hf12.out
      have f13 := Hf13.out
      have f14 := Hf14.out
      have f15 := Hf15.out
      have f16 := Hf16.out
      have f17 := Hf17.out
      have f18 := Hf18.out
      have f19 := Hf19.out
      have hK := HhK.out
      have hd := Hhd.out
      have hJ := HhJ.out
      exact hK _ _ ⟨[u11, u12, u13, u14, u15, u16, u17, u18, u19, u20, u21, u22, u23, u24, u25, u26, (.pointer (some ⟨b, t * 2, none⟩)), (.agg #[.int .i64 x, .int .i64 y]), u2, u3], rfl, by kernel_rfl, _, _, _, _, _, _, _, _, _, _, _, _, _, _, _, _, _, _, _, _, rfl, (.inl ⟨hz, hI⟩), f0, f1, f2, f3, f4, f5, f6, f7, f8, f9, f10, f11, f12, f13, f14, f15, f16, (fun _ => ⟨_, _, rfl⟩), f18, f19⟩
    · simp only [List.getElem?_cons_zero, List.getElem?_cons_succ, Option.some.injEq] at ho
      subst ho
      clear hi'
      have d0 : D 0 = true := hdep ⟨0, Ground.data⟩ (by simp) rfl
      clear hdep
      obtain rfl := f0 d0
      refine wpOp_step rfl (fun K hK => ?_)
      simp only [List.zip_cons_cons, List.zip_nil_right, puts]
      have Hf0 := Lib.hid f0
      have Hf1 := Lib.hid f1
      have Hf2 := Lib.hid f2
      have Hf3 := Lib.hid f3
      have Hf4 := Lib.hid f4
      have Hf5 := Lib.hid f5
      have Hf6 := Lib.hid f6
      have Hf7 := Lib.hid f7
      have Hf8 := Lib.hid f8
      have Hf9 := Lib.hid f9
      have Hf10 := Lib.hid f10
      have Hf11 := Lib.hid f11
      have Hf12 := Lib.hid f12
      have Hf13 := Lib.hid f13
      have Hf14 := Lib.hid f14
      have Hf15 := Lib.hid f15
      have Hf16 := Lib.hid f16
      have Hf17 := Lib.hid f17
      have Hf18 := Lib.hid f18
      have Hf19 := Lib.hid f19
      have HhK := Lib.hid hK
      have Hhd := Lib.hid hd
      have HhJ := Lib.hid hJ
      clear hd hK hJ f0 f1 f2 f3 f4 f5 f6 f7 f8 f9 f10 f11 f12 f13 f14 f15 f16 f17 f18 f19
      go_simp
      have f0 := Hf0.out
      have f1 := Hf1.out
      have f2 := Hf2.out
      have f3 := Hf3.out
      have f4 := Hf4.out
      have f5 := Hf5.out
      have f6 := Hf6.out
      have f7 := Hf7.out
      have f8 := Hf8.out
      have f9 := Hf9.out
      have f10 := Hf10.out
      have f11 := Hf11.out
      have f12 := Hf12.out
      have f13 := Hf13.out
      have f14 := Hf14.out
      have f15 := Hf15.out
      have f16 := Hf16.out
      have f17 := Hf17.out
      have f18 := Hf18.out
      have f19 := Hf19.out
      have hK := HhK.out
      have hd := Hhd.out
      have hJ := HhJ.out
      exact hK _ _ ⟨[(.slice A2 l.length c2), u12, u13, u14, u15, u16, u17, u18, u19, u20, u21, u22, u23, u24, u25, u26, u27, u28, (.slice A2 l.length c2), u3], rfl, by kernel_rfl, _, _, _, _, _, _, _, _, _, _, _, _, _, _, _, _, _, _, _, _, rfl, (hJ.imp (fun h => h) (fun h => ⟨h.1, fun j hj => updD_of (h.2.1 j hj), h.2.2⟩)), (fun _ => rfl), f1, f2, f3, f4, f5, f6, f7, f8, f9, f10, f11, f12, f13, f14, f15, f16, f17, (fun _ => rfl), f19⟩
    · simp only [List.getElem?_cons_zero, List.getElem?_cons_succ, Option.some.injEq] at ho
      subst ho
      clear hi'
      have d8 : D 8 = true := hdep ⟨8, Ground.data⟩ (by simp) rfl
      clear hdep
      obtain ⟨x, rfl⟩ := f8 d8
      refine wpOp_step rfl (fun K hK => ?_)
      simp only [List.zip_cons_cons, List.zip_nil_right, puts]
      have Hf0 := Lib.hid f0
      have Hf1 := Lib.hid f1
      have Hf2 := Lib.hid f2
      have Hf3 := Lib.hid f3
      have Hf4 := Lib.hid f4
      have Hf5 := Lib.hid f5
      have Hf6 := Lib.hid f6
      have Hf7 := Lib.hid f7
      have Hf8 := Lib.hid f8
      have Hf9 := Lib.hid f9
      have Hf10 := Lib.hid f10
      have Hf11 := Lib.hid f11
      have Hf12 := Lib.hid f12
      have Hf13 := Lib.hid f13
      have Hf14 := Lib.hid f14
      have Hf15 := Lib.hid f15
      have Hf16 := Lib.hid f16
      have Hf17 := Lib.hid f17
      have Hf18 := Lib.hid f18
      have Hf19 := Lib.hid f19
      have HhK := Lib.hid hK
      have Hhd := Lib.hid hd
      have HhJ := Lib.hid hJ
      clear hd hK hJ f0 f1 f2 f3 f4 f5 f6 f7 f8 f9 f10 f11 f12 f13 f14 f15 f16 f17 f18 f19
      go_simp
      have f0 := Hf0.out
      have f1 := Hf1.out
      have f2 := Hf2.out
      have f3 := Hf3.out
      have f4 := Hf4.out
      have f5 := Hf5.out
      have f6 := Hf6.out
      have f7 := Hf7.out
      have f8 := Hf8.out
      have f9 := Hf9.out
      have f10 := Hf10.out
      have f11 := Hf11.out
      have f12 := Hf12.out
      have f13 := Hf13.out
      have f14 := Hf14.out
      have f15 := Hf15.out
      have f16 := Hf16.out
      have f17 := Hf17.out
      have f18 := Hf18.out
      have f19 := Hf19.out
      have hK := HhK.out
      have hd := Hhd.out
      have hJ := HhJ.out
      exact hK _ _ ⟨[u11, u12, u13, u14, u15, u16, u17, u18, (.int .i64 x), u20, u21, u22, u23, u24, u25, u26, u27, u28, u2, (.int .i64 x)], rfl, by kernel_rfl, _, _, _, _, _, _, _, _, _, _, _, _, _, _, _, _, _, _, _, _, rfl, (hJ.imp (fun h => h) (fun h => ⟨h.1, fun j hj => updD_of (h.2.1 j hj), h.2.2⟩)), f0, f1, f2, f3, f4, f5, f6, f7, f8, f9, f10, f11, f12, f13, f14, f15, f16, f17, f18, (fun _ => ⟨_, rfl⟩)⟩
    · simp only [List.getElem?_cons_zero, List.getElem?_cons_succ, Option.some.injEq] at ho
      subst ho
      clear hi'
      have d17 : D 17 = true := hdep ⟨17, Ground.data⟩ (by simp) rfl
      have e0 : D 0 = true := hdep ⟨0, Ground.phase⟩ (by simp) rfl
      have e1 : D 1 = true := hdep ⟨1, Ground.phase⟩ (by simp) rfl
      have e2 : D 2 = true := hdep ⟨2, Ground.phase⟩ (by simp) rfl
      have e3 : D 3 = true := hdep ⟨3, Ground.phase⟩ (by simp) rfl
      have e4 : D 4 = true := hdep ⟨4, Ground.phase⟩ (by simp) rfl
      have e5 : D 5 = true := hdep ⟨5, Ground.phase⟩ (by simp) rfl
      have e6 : D 6 = true := hdep ⟨6, Ground.phase⟩ (by simp) rfl
      have e7 : D 7 = true := hdep ⟨7, Ground.phase⟩ (by simp) rfl
      have e8 : D 8 = true := hdep ⟨8, Ground.phase⟩ (by simp) rfl
      have e9 : D 9 = true := hdep ⟨9, Ground.phase⟩ (by simp) rfl
      have e10 : D 10 = true := hdep ⟨10, Ground.phase⟩ (by simp) rfl
      have e11 : D 11 = true := hdep ⟨11, Ground.phase⟩ (by simp) rfl
      have e12 : D 12 = true := hdep ⟨12, Ground.phase⟩ (by simp) rfl
      have e13 : D 13 = true := hdep ⟨13, Ground.phase⟩ (by simp) rfl
      have e14 : D 14 = true := hdep ⟨14, Ground.phase⟩ (by simp) rfl
      have e15 : D 15 = true := hdep ⟨15, Ground.phase⟩ (by simp) rfl
      have e16 : D 16 = true := hdep ⟨16, Ground.phase⟩ (by simp) rfl
      have e17 : D 17 = true := d17
      clear hdep
      have hI := (hJ.resolve_right (fun h => absurd (h.1.symm.trans hd) (by simp))).2
      have hz := hd
      obtain ⟨st, ha, rfl⟩ := f17 d17
      obtain ⟨kO, p, hp, rd⟩ := hI
      have qz := qR2.onb kO (by omega)
      have cR0 : W.cell? ⟨w.heap.size, 0, none⟩ = some (.int .i64 0) := by rw [Blk.cell qz]; rfl
      have cR1 : W.cell? ⟨w.heap.size, 1, none⟩ = some (.int .i64 0) := by rw [Blk.cell qz]; rfl
      have fR0 := Blk.free qz 0
      have fR1 := Blk.free qz 1
      have lR := qz.lt
      refine wpOp_step rfl (fun K hK => ?_)
      simp only [List.zip_cons_cons, List.zip_nil_right, puts]
      have Hf0 := Lib.hid f0
      have Hf1 := Lib.hid f1
      have Hf2 := Lib.hid f2
      have Hf3 := Lib.hid f3
      have Hf4 := Lib.hid f4
      have Hf5 := Lib.hid f5
      have Hf6 := Lib.hid f6
      have Hf7 := Lib.hid f7
      have Hf8 := Lib.hid f8
      have Hf9 := Lib.hid f9
      have Hf10 := Lib.hid f10
      have Hf11 := Lib.hid f11
      have Hf12 := Lib.hid f12
      have Hf13 := Lib.hid f13
      have Hf14 := Lib.hid f14
      have Hf15 := Lib.hid f15
      have Hf16 := Lib.hid f16
      have Hf17 := Lib.hid f17
      have Hf18 := Lib.hid f18
      have Hf19 := Lib.hid f19
      have HhK := Lib.hid hK
      have Hhd := Lib.hid hd
      have HhJ := Lib.hid hJ
      clear hd hK hJ f0 f1 f2 f3 f4 f5 f6 f7 f8 f9 f10 f11 f12 f13 f14 f15 f16 f17 f18 f19
      go_simp
      have f0 := Hf0.out
      have f1 := Hf1.out
      have f2 := Hf2.out
      have f3 := Hf3.out
      have f4 := Hf4.out
      have f5 := Hf5.out
      have f6 := Hf6.out
      have f7 := Hf7.out
      have f8 := Hf8.out
      have f9 := Hf9.out
      have f10 := Hf10.out
      have f11 := Hf11.out
      have f12 := Hf12.out
      have f13 := Hf13.out
      have f14 := Hf14.out
      have f15 := Hf15.out
      have f16 := Hf16.out
      have f17 := Hf17.out
      have f18 := Hf18.out
      have f19 := Hf19.out
      have hK := HhK.out
      have hd := Hhd.out
      have hJ := HhJ.out
      exact hK _ _ ⟨[u11, u12, u13, u14, u15, u16, u17, u18, u19, u20, u21, u22, u23, u24, u25, u26, u27, (.agg #[.int .i64 st, .int .i64 ha]), u2, u3], rfl, by kernel_rfl, _, _, _, _, _, _, _, _, _, _, _, _, _, _, _, _, _, _, _, _, rfl, (.inr ⟨rfl, fun j hj => updD_of (by rcases (show j = 0 ∨ j = 1 ∨ j = 2 ∨ j = 3 ∨ j = 4 ∨ j = 5 ∨ j = 6 ∨ j = 7 ∨ j = 8 ∨ j = 9 ∨ j = 10 ∨ j = 11 ∨ j = 12 ∨ j = 13 ∨ j = 14 ∨ j = 15 ∨ j = 16 ∨ j = 17 from by omega) with rfl | rfl | rfl | rfl | rfl | rfl | rfl | rfl | rfl | rfl | rfl | rfl | rfl | rfl | rfl | rfl | rfl | rfl <;> assumption), ⟨W, st, ha, rfl, kO⟩⟩), f0, (fun _ h => Bool.noConfusion (show true = false from h)), (fun _ h => Bool.noConfusion (show true = false from h)), f3, f4, (fun _ h => Bool.noConfusion (show true = false from h)), f6, (fun _ h => Bool.noConfusion (show true = false from h)), f8, f9, f10, f11, f12, (fun _ h => Bool.noConfusion (show true = false from h)), f14, f15, (fun _ h => Bool.noConfusion (show true = false from h)), f17, f18, f19⟩
  · rintro D us W hu hall ⟨u11, u12, u13, u14, u15, u16, u17, u18, u19, u20, u21, u22, u23, u24, u25, u26, u27, u28, u2, u3, rfl, hJ, f0, f1, f2, f3, f4, f5, f6, f7, f8, f9, f10, f11, f12, f13, f14, f15, f16, f17, f18, f19⟩
    have d0 : D 0 = true := hall 0 (by simp)
    have d1 : D 1 = true := hall 1 (by simp)
    have d2 : D 2 = true := hall 2 (by simp)
    have d3 : D 3 = true := hall 3 (by simp)
    have d4 : D 4 = true := hall 4 (by simp)
    have d5 : D 5 = true := hall 5 (by simp)
    have d6 : D 6 = true := hall 6 (by simp)
    have d7 : D 7 = true := hall 7 (by simp)
    have d8 : D 8 = true := hall 8 (by simp)
    have d9 : D 9 = true := hall 9 (by simp)
    have d10 : D 10 = true := hall 10 (by simp)
    have d11 : D 11 = true := hall 11 (by simp)
    have d12 : D 12 = true := hall 12 (by simp)
    have d13 : D 13 = true := hall 13 (by simp)
    have d14 : D 14 = true := hall 14 (by simp)
    have d15 : D 15 = true := hall 15 (by simp)
    have d16 : D 16 = true := hall 16 (by simp)
    have d17 : D 17 = true := hall 17 (by simp)
    have d18 : D 18 = true := hall 18 (by simp)
    have d19 : D 19 = true := hall 19 (by simp)
    have d20 : D 20 = true := hall 20 (by simp)
    have hI := (hJ.resolve_left (fun h => absurd (h.1.symm.trans d20) (by simp))).2.2
    clear hJ
    have v18 := f18 d18
    obtain ⟨t, v19⟩ := f19 d19
    subst v18 v19
    obtain ⟨wz, st, ha, rfl, kz⟩ := hI
    clear f0 f1 f2 f3 f4 f5 f6 f7 f8 f9 f10 f11 f12 f13 f14 f15 f16 f17 f18 f19 d0 d1 d2 d3 d4 d5 d6 d7 d8 d9 d10 d11 d12 d13 d14 d15 d16 d17 d18 d19 d20 hall hu
    simp only [List.zip_cons_cons, List.zip_nil_right, puts]
    have qz := qR2.onb kz (by omega)
    have cR0 : wz.cell? ⟨w.heap.size, 0, none⟩ = some (.int .i64 0) := by rw [Blk.cell qz]; rfl
    have cR1 : wz.cell? ⟨w.heap.size, 1, none⟩ = some (.int .i64 0) := by rw [Blk.cell qz]; rfl
    have fR0 := Blk.free qz 0
    have fR1 := Blk.free qz 1
    have lR := qz.lt
    have hz1 := (drco_end (u := .int .i64 st) (v := .int .i64 ha) b0 (by omega) (by omega) k2 OWN2.out kz).1
    have hz2 := (drco_end (u := .int .i64 st) (v := .int .i64 ha) b0 (by omega) (by omega) k2 OWN2.out kz).2 (by omega) lR
    go_wp2
    exact bodyPost_ret (v := .tuple #[.slice A2 l.length c2, .int .i64 t, .agg #[.int .i64 st, .int .i64 ha]]) (by simp [results, Try.results32, go_sem, cR0, fR0, cR1, fR1, lR]) rfl ⟨A2, c2, l, t, st, ha, rfl, lc, cm, l7, hz2, hz1⟩
end Go.Proofs.Ytiapfpjggginoaa
