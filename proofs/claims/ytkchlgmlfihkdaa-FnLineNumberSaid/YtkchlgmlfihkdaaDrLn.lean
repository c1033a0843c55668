/- A key, a cantus, bounds and a number, drawn for the law of LineNumber. -/
import Derived.Test.YtkchlgmlfihkdaaSrch
import Derived.Test.YtkchlgmlfihkdaaScl
import Derived.Test.YtkchlgmlfihkdaaInv
namespace Go.Proofs.Ytkchlgmlfihkdaa
set_option linter.unusedSimpArgs false
set_option linter.unusedVariables false
open Go.RowKit

def FInt (lo hi : Int) (u : Value) : Prop := ∃ v : Int, u = .int .i64 v ∧ lo ≤ v ∧ v < hi
def FAny (v : Int) (u : Value) : Prop := ∃ x : Int, u = .int .i64 x ∧ (0 ≤ x ∧ x < 256 ∨ x = v - 1 ∨ x = v ∨ x = -1)
def FL4 (v : Int) (lo : Nat) (W : World) (u : Value) : Prop := ∃ (b : Nat) (x : Int), u = .slice (some ⟨b, 0, none⟩) 4 4 ∧ (0 ≤ x ∧ x < 256) ∧ lo ≤ b ∧ Blk W b #[.int .i64 x, .int .i64 (v - 1), .int .i64 v, .int .i64 (-1)] 3
def FP4 (v : Int) (lo : Nat) (W : World) (u : Value) : Prop := ∃ (b t : Nat) (x : Int), u = .pointer (some ⟨b, t, none⟩) ∧ t < 4 ∧ (0 ≤ x ∧ x < 256) ∧ lo ≤ b ∧ Blk W b #[.int .i64 x, .int .i64 (v - 1), .int .i64 v, .int .i64 (-1)] 3
def FL7 (lo : Nat) (W : World) (u : Value) : Prop := ∃ b : Nat, u = .slice (some ⟨b, 0, none⟩) 7 7 ∧ lo ≤ b ∧ Blk W b #[.int .i64 0, .int .i64 0, .int .i64 0, .int .i64 0, .int .i64 1, .int .i64 2, .int .i64 3] 3
def FP7 (lo : Nat) (W : World) (u : Value) : Prop := ∃ (b t : Nat), u = .pointer (some ⟨b, t, none⟩) ∧ t < 7 ∧ lo ≤ b ∧ Blk W b #[.int .i64 0, .int .i64 0, .int .i64 0, .int .i64 0, .int .i64 1, .int .i64 2, .int .i64 3] 3
theorem FL4.onb {v : Int} {lo g : Nat} {W W' : World} {u : Value} (h : FL4 v lo W u) (ho : Onb g W W') (hg : g < lo) : FL4 v lo W' u := by obtain ⟨b, x, e, hx, hl, hb⟩ := h; exact ⟨b, x, e, hx, hl, hb.onb ho (by omega)⟩
theorem FP4.onb {v : Int} {lo g : Nat} {W W' : World} {u : Value} (h : FP4 v lo W u) (ho : Onb g W W') (hg : g < lo) : FP4 v lo W' u := by obtain ⟨b, t, x, e, ht, hx, hl, hb⟩ := h; exact ⟨b, t, x, e, ht, hx, hl, hb.onb ho (by omega)⟩
theorem FL7.onb {lo g : Nat} {W W' : World} {u : Value} (h : FL7 lo W u) (ho : Onb g W W') (hg : g < lo) : FL7 lo W' u := by obtain ⟨b, e, hl, hb⟩ := h; exact ⟨b, e, hl, hb.onb ho (by omega)⟩
theorem FP7.onb {lo g : Nat} {W W' : World} {u : Value} (h : FP7 lo W u) (ho : Onb g W W') (hg : g < lo) : FP7 lo W' u := by obtain ⟨b, t, e, ht, hl, hb⟩ := h; exact ⟨b, t, e, ht, hl, hb.onb ho (by omega)⟩
theorem blk7_at {W : World} {b t : Nat} (h : Blk W b #[.int .i64 0, .int .i64 0, .int .i64 0, .int .i64 0, .int .i64 1, .int .i64 2, .int .i64 3] 3) (h1 : t < 7) : ∃ x : Int, W.cell? ⟨b, t, none⟩ = some (.int .i64 x) ∧ 0 ≤ x ∧ x < 4 := by
  rw [Blk.cell h]
  rcases (show t = 0 ∨ t = 1 ∨ t = 2 ∨ t = 3 ∨ t = 4 ∨ t = 5 ∨ t = 6 from by omega) with rfl | rfl | rfl | rfl | rfl | rfl | rfl <;> exact ⟨_, rfl, by omega, by omega⟩
theorem blk4_at {W : World} {b t : Nat} {v x : Int} (h : Blk W b #[.int .i64 x, .int .i64 (v - 1), .int .i64 v, .int .i64 (-1)] 3) (h1 : t < 4) (hx : 0 ≤ x ∧ x < 256) : ∃ y : Int, W.cell? ⟨b, t, none⟩ = some (.int .i64 y) ∧ (0 ≤ y ∧ y < 256 ∨ y = v - 1 ∨ y = v ∨ y = -1) := by
  rw [Blk.cell h]
  rcases (show t = 0 ∨ t = 1 ∨ t = 2 ∨ t = 3 from by omega) with rfl | rfl | rfl | rfl
  · exact ⟨_, rfl, .inl hx⟩
  · exact ⟨_, rfl, .inr (.inl rfl)⟩
  · exact ⟨_, rfl, .inr (.inr (.inl rfl))⟩
  · exact ⟨_, rfl, .inr (.inr (.inr rfl))⟩
def DrLn (w : World) (e : Ending) (w' : World) : Prop := ∃ (f : Int) (A : Option Addr) (cap : Nat) (l : List Pi) (lo hi num : Int), e = .returned (.tuple #[.int .i64 f, .slice A l.length cap, .int .i64 lo, .int .i64 hi, .int .i64 num]) ∧ l.length ≤ cap ∧ cap ≤ maxLen ∧ l.length ≤ 6 ∧ (46 ≤ lo ∧ lo ≤ 51) ∧ (40 ≤ hi ∧ hi ≤ 110) ∧ (-2 ≤ num ∧ num ≤ 984930291881790849) ∧ RowPi w' w'.heap.size A l ∧ Below w.heap.size w w'
theorem clI_bd (f : Int) (c : List Pi) (lo hi : Int) : -1 ≤ clI f c lo hi ∧ clI f c lo hi ≤ 984930291881790849 := by
  cases h : opB f c lo hi with
  | false => rw [clI_no h]; omega
  | true => rw [clI_yes h]; have := totI_bd (f := f) (c := c) (tns_len f lo hi) (op_len h).2; omega
theorem own_rowT9 {w : World} {base : Nat} {e : TypeId} {AT : Option Addr} {cT : Nat} {T : List Pi} (h : w.ownsRow base e 3 (.slice AT T.length cT) T.length (flat csPi T)) : RowPi w w.heap.size AT T := by
  obtain ⟨A, c, e, _, _, h, _⟩ := own_rowPi h
  cases e
  exact h
set_option maxHeartbeats 8000000 in
theorem DrawLineNumber_any (w : World) (A : Option Addr) (len cap : Nat) (h : Cod w A len cap) : Calls Try.prog 38 #[.slice A len cap] w (DrLn w) := by
  go_enter Try.func38, Try.ntmps38
  have r1 := open_ok w A len cap w.heap.size (Nat.le_refl _) h.bt
  have k1 : Onb w.heap.size w (w.alloc (.cells #[.slice A (min len 2000) cap, .int .i64 0] 97)) := Onb.of_bel (bel_al (bel_refl _) _)
  go_wp2_with fail
  refine (open_eq _ A len cap h.lc h.cm).mono ?_
  rintro e w1 ⟨rfl, rfl⟩
  have hs1 : w.heap.size < (w.alloc (.cells #[.slice A (min len 2000) cap, .int .i64 0] 97)).heap.size := by simp
  go_wp2_with fail
  generalize (w.alloc (.cells #[.slice A (min len 2000) cap, .int .i64 0] 97)) = w1 at *
  generalize min len 2000 = len' at *
  refine (srch_any _ _ _ _ _ _ _ r1 (by omega)).mono ?_
  rintro e w2 ⟨f, vv, l, lo, hi, rfl, l1, l6, own2, hlo, hhi, o2, p2, hp2, r2⟩
  obtain ⟨A2, c2, rfl, lc, cm, hr, _⟩ := own_rowPi own2
  have k2 := k1.trans o2
  obtain ⟨v, hv⟩ : ∃ v, clI f l lo hi = v := ⟨_, rfl⟩
  have hvb : -1 ≤ v ∧ v ≤ 984930291881790849 := by rw [← hv]; exact clI_bd _ _ _ _
  obtain ⟨v0, v1⟩ := hvb
  have HV := Lib.hid hv
  clear hv
  have hs2 : w1.heap.size ≤ w2.heap.size := o2.size
  go_wp2_with fail
  refine (scl_val HV.out A2 l.length c2 _ rfl (by omega) hr).mono ?_
  rintro e w3 ⟨rfl, b3⟩
  have r3 := r2.below b3
  have k3 := k2.trans (Onb.of_bel b3)
  have OWN3 := Lib.hid (own_below own2 b3)
  have hs3 := b3.size
  have hBg := r3.Bg
  clear own2 k1 k2 o2 r1 r2 hr b3
  have hg3 : w.heap.size < w3.heap.size := by omega
  have hg : w.heap.size < w1.heap.size := by omega
  go_upto_region 4 with fail
  rcases (show v ≤ 1 ∨ (1 < v ∧ v < 256) ∨ 256 ≤ v from by omega) with hc | ⟨hc, hc2⟩ | hc
  · have hm1 : v < 256 := by omega
    have hm3 : ¬ 1 < v := by omega
    refine region_slots (by kernel_rfl) (by kernel_rfl) [27, 28, 29, 30, 31, 32, 33, 34, 35, 36, 37, 38, 39, 40, 41, 42, 43, 44, 45, 46, 2, 3, 4, 5, 6] (fun D us W => ∃ u27 u28 u29 u30 u31 u32 u33 u34 u35 u36 u37 u38 u39 u40 u41 u42 u43 u44 u45 u46 u2 u3 u4 u5 u6 : Value, us = [u27, u28, u29, u30, u31, u32, u33, u34, u35, u36, u37, u38, u39, u40, u41, u42, u43, u44, u45, u46, u2, u3, u4, u5, u6] ∧ (Onb w.heap.size w3 W ∧ ∃ p : Nat, p ≤ p2 + 2 * ((D 8).toNat + (D 15).toNat) ∧ Rd W w.heap.size w.heap.size A len' cap p) ∧ (D 0 = true → u27 = .int .i64 f) ∧ (D 1 = true → u28 = .slice A2 l.length c2) ∧ (D 2 = true → u29 = .int .i64 lo) ∧ (D 3 = true → u30 = .int .i64 hi) ∧ (D 4 = true → u31 = .pointer (some ⟨w.heap.size, 0, none⟩)) ∧ (D 5 = true → u32 = .int .i64 v) ∧ (D 6 = true → u33 = .int .i64 v) ∧ (D 7 = true → u34 = .int .i64 1) ∧ (D 8 = true → FInt 0 256 u35) ∧ (D 9 = true → u36 = .int .i64 v) ∧ (D 10 = true → u37 = .int .i64 (v - 1)) ∧ (D 11 = true → u38 = .int .i64 v) ∧ (D 12 = true → FL4 v w3.heap.size W u39) ∧ (D 13 = true → FL7 w3.heap.size W u40) ∧ (D 14 = true → u41 = .pointer (some ⟨w.heap.size, 0, none⟩)) ∧ (D 15 = true → FInt 0 7 u42) ∧ (D 16 = true → FP7 w3.heap.size W u43) ∧ (D 17 = true → FInt 0 4 u44) ∧ (D 18 = true → FP4 v w3.heap.size W u45) ∧ (D 19 = true → FAny v u46) ∧ (D 20 = true → u2 = .int .i64 f) ∧ (D 21 = true → u3 = .slice A2 l.length c2) ∧ (D 22 = true → u4 = .int .i64 lo) ∧ (D 23 = true → u5 = .int .i64 hi) ∧ (D 24 = true → FAny v u6)) ?_ ?_ ?_
    · intro us hu
      obtain ⟨u27, u28, u29, u30, u31, u32, u33, u34, u35, u36, u37, u38, u39, u40, u41, u42, u43, u44, u45, u46, u2, u3, u4, u5, u6, rfl⟩ : ∃ u27 u28 u29 u30 u31 u32 u33 u34 u35 u36 u37 u38 u39 u40 u41 u42 u43 u44 u45 u46 u2 u3 u4 u5 u6, us = [u27, u28, u29, u30, u31, u32, u33, u34, u35, u36, u37, u38, u39, u40, u41, u42, u43, u44, u45, u46, u2, u3, u4, u5, u6] := by
        match us, hu with
        | [u27, u28, u29, u30, u31, u32, u33, u34, u35, u36, u37, u38, u39, u40, u41, u42, u43, u44, u45, u46, u2, u3, u4, u5, u6], _ => exact ⟨_, _, _, _, _, _, _, _, _, _, _, _, _, _, _, _, _, _, _, _, _, _, _, _, _, rfl⟩
      exact ⟨_, _, _, _, _, _, _, _, _, _, _, _, _, _, _, _, _, _, _, _, _, _, _, _, _, rfl, ⟨(Onb.refl w.heap.size w3).drew, p2, by omega, r3.drew⟩, fun h => absurd h (by simp), fun h => absurd h (by simp), fun h => absurd h (by simp), fun h => absurd h (by simp), fun h => absurd h (by simp), fun h => absurd h (by simp), fun h => absurd h (by simp), fun h => absurd h (by simp), fun h => absurd h (by simp), fun h => absurd h (by simp), fun h => absurd h (by simp), fun h => absurd h (by simp), fun h => absurd h (by simp), fun h => absurd h (by simp), fun h => absurd h (by simp), fun h => absurd h (by simp), fun h => absurd h (by simp), fun h => absurd h (by simp), fun h => absurd h (by simp), fun h => absurd h (by simp), fun h => absurd h (by simp), fun h => absurd h (by simp), fun h => absurd h (by simp), fun h => absurd h (by simp), fun h => absurd h (by simp)⟩
    · rintro i o hi ho D us W hu hd hdep ⟨u27, u28, u29, u30, u31, u32, u33, u34, u35, u36, u37, u38, u39, u40, u41, u42, u43, u44, u45, u46, u2, u3, u4, u5, u6, rfl, hJ, f0, f1, f2, f3, f4, f5, f6, f7, f8, f9, f10, f11, f12, f13, f14, f15, f16, f17, f18, f19, f20, f21, f22, f23, f24⟩
      have hi' : i < 25 := by simpa using hi
      clear hi hu
      rcases (show i = 0 ∨ i = 1 ∨ i = 2 ∨ i = 3 ∨ i = 4 ∨ i = 5 ∨ i = 6 ∨ i = 7 ∨ i = 8 ∨ i = 9 ∨ i = 10 ∨ i = 11 ∨ i = 12 ∨ i = 13 ∨ i = 14 ∨ i = 15 ∨ i = 16 ∨ i = 17 ∨ i = 18 ∨ i = 19 ∨ i = 20 ∨ i = 21 ∨ i = 22 ∨ i = 23 ∨ i = 24 from by omega) with rfl | rfl | rfl | rfl | rfl | rfl | rfl | rfl | rfl | rfl | rfl | rfl | rfl | rfl | rfl | rfl | rfl | rfl | rfl | rfl | rfl | rfl | rfl | rfl | rfl
      · simp only [List.getElem?_cons_zero, List.getElem?_cons_succ, Option.some.injEq] at ho
        subst ho
        clear hi'
        clear hdep
        have hI := hJ
        refine wpOp_step rfl (fun K hK => ?_)
        simp only [List.zip_cons_cons, List.zip_nil_right, puts]
        have Hf0 := Lib.hid f0
        have Hf1 := Lib.hid f1
        have Hf2 := Lib.hid f2
        have Hf3 := Lib.hid f3
        have Hf4 := Lib.hid f4
        have Hf5 := Lib.hid f5
        have Hf6 := Lib.hid f6
        have Hf7 := Lib.hid f7
        have Hf8 := Lib.hid f8
        have Hf9 := Lib.hid f9
        have Hf10 := Lib.hid f10
        have Hf11 := Lib.hid f11
        have Hf12 := Lib.hid f12
        have Hf13 := Lib.hid f13
        have Hf14 := Lib.hid f14
        have Hf15 := Lib.hid f15
        have Hf16 := Lib.hid f16
        have Hf17 := Lib.hid f17
        have Hf18 := Lib.hid f18
        have Hf19 := Lib.hid f19
        have Hf20 := Lib.hid f20
        have Hf21 := Lib.hid f21
        have Hf22 := Lib.hid f22
        have Hf23 := Lib.hid f23
        have Hf24 := Lib.hid f24
        have HhK := Lib.hid hK
        have Hhd := Lib.hid hd
        have HhJ := Lib.hid hJ
        clear hd hK hJ f0 f1 f2 f3 f4 f5 f6 f7 f8 f9 f10 f11 f12 f13 f14 f15 f16 f17 f18 f19 f20 f21 f22 f23 f24
        go_simp
        have f0 := Hf0.out
        have f1 := Hf1.out
        have f2 := Hf2.out
        have f3 := Hf3.out
        have f4 := Hf4.out
        have f5 := Hf5.out
        have f6 := Hf6.out
        have f7 := Hf7.out
        have f8 := Hf8.out
        have f9 := Hf9.out
        have f10 := Hf10.out
        have f11 := Hf11.out
        have f12 := Hf12.out
        have f13 := Hf13.out
        have f14 := Hf14.out
        have f15 := Hf15.out
        have f16 := Hf16.out
        have f17 := Hf17.out
        have f18 := Hf18.out
        have f19 := Hf19.out
        have f20 := Hf20.out
        have f21 := Hf21.out
        have f22 := Hf22.out
        have f23 := Hf23.out
        have f24 := Hf24.out
        have hK := HhK.out
        have hd := Hhd.out
        have hJ := HhJ.out
        exact hK _ _ ⟨[(.int .i64 f), u28, u29, u30, u31, u32, u33, u34, u35, u36, u37, u38, u39, u40, u41, u42, u43, u44, u45, u46, u2, u3, u4, u5, u6], rfl, by kernel_rfl, _, _, _, _, _, _, _, _, _, _, _, _, _, _, _, _, _, _, _, _, _, _, _, _, _, rfl, hI, (fun _ => rfl), f1, f2, f3, f4, f5, f6, f7, f8, f9, f10, f11, f12, f13, f14, f15, f16, f17, f18, f19, f20, f21, f22, f23, f24⟩
      · simp only [List.getElem?_cons_zero, List.getElem?_cons_succ, Option.some.injEq] at ho
        subst ho
        clear hi'
        clear hdep
        have hI := hJ
        refine wpOp_step rfl (fun K hK => ?_)
        simp only [List.zip_cons_cons, List.zip_nil_right, puts]
        have Hf0 := Lib.hid f0
        have Hf1 := Lib.hid f1
        have Hf2 := Lib.hid f2
        have Hf3 := Lib.hid f3
        have Hf4 := Lib.hid f4
        have Hf5 := Lib.hid f5
        have Hf6 := Lib.hid f6
        have Hf7 := Lib.hid f7
        have Hf8 := Lib.hid f8
        have Hf9 := Lib.hid f9
        have Hf10 := Lib.hid f10
        have Hf11 := Lib.hid f11
        have Hf12 := Lib.hid f12
        have Hf13 := Lib.hid f13
        have Hf14 := Lib.hid f14
        have Hf15 := Lib.hid f15
        have Hf16 := Lib.hid f16
        have Hf17 := Lib.hid f17
        have Hf18 := Lib.hid f18
        have Hf19 := Lib.hid f19
        have Hf20 := Lib.hid f20
        have Hf21 := Lib.hid f21
        have Hf22 := Lib.hid f22
        have Hf23 := Lib.hid f23
        have Hf24 := Lib.hid f24
        have HhK := Lib.hid hK
        have Hhd := Lib.hid hd
        have HhJ := Lib.hid hJ
        clear hd hK hJ f0 f1 f2 f3 f4 f5 f6 f7 f8 f9 f10 f11 f12 f13 f14 f15 f16 f17 f18 f19 f20 f21 f22 f23 f24
        go_simp
        have f0 := Hf0.out
        have f1 := Hf1.out
        have f2 := Hf2.out
        have f3 := Hf3.out
        have f4 := Hf4.out
        have f5 := Hf5.out
        have f6 := Hf6.out
        have f7 := Hf7.out
        have f8 := Hf8.out
        have f9 := Hf9.out
        have f10 := Hf10.out
        have f11 := Hf11.out
        have f12 := Hf12.out
        have f13 := Hf13.out
        have f14 := Hf14.out
        have f15 := Hf15.out
        have f16 := Hf16.out
        have f17 := Hf17.out
        have f18 := Hf18.out
        have f19 := Hf19.out
        have f20 := Hf20.out
        have f21 := Hf21.out
        have f22 := Hf22.out
        have f23 := Hf23.out
        have f24 := Hf24.out
        have hK := HhK.out
        have hd := Hhd.out
        have hJ := HhJ.out
        exact hK _ _ ⟨[u27, (.slice A2 l.length c2), u29, u30, u31, u32, u33, u34, u35, u36, u37, u38, u39, u40, u41, u42, u43, u44, u45, u46, u2, u3, u4, u5, u6], rfl, by kernel_rfl, _, _, _, _, _, _, _, _, _, _, _, _, _, _, _, _, _, _, _, _, _, _, _, _, _, rfl, hI, f0, (fun _ => rfl), f2, f3, f4, f5, f6, f7, f8, f9, f10, f11, f12, f13, f14, f15, f16, f17, f18, f19, f20, f21, f22, f23, f24⟩
      · simp only [List.getElem?_cons_zero, List.getElem?_cons_succ, Option.some.injEq] at ho
        subst ho
        clear hi'
        clear hdep
        have hI := hJ
        refine wpOp_step rfl (fun K hK => ?_)
        simp only [List.zip_cons_cons, List.zip_nil_right, puts]
        have Hf0 := Lib.hid f0
        have Hf1 := Lib.hid f1
        have Hf2 := Lib.hid f2
        have Hf3 := Lib.hid f3
        have Hf4 := Lib.hid f4
        have Hf5 := Lib.hid f5
        have Hf6 := Lib.hid f6
        have Hf7 := Lib.hid f7
        have Hf8 := Lib.hid f8
        have Hf9 := Lib.hid f9
        have Hf10 := Lib.hid f10
        have Hf11 := Lib.hid f11
        have Hf12 := Lib.hid f12
        have Hf13 := Lib.hid f13
        have Hf14 := Lib.hid f14
        have Hf15 := Lib.hid f15
        have Hf16 := Lib.hid f16
        have Hf17 := Lib.hid f17
        have Hf18 := Lib.hid f18
        have Hf19 := Lib.hid f19
        have Hf20 := Lib.hid f20
        have Hf21 := Lib.hid f21
        have Hf22 := Lib.hid f22
        have Hf23 := Lib.hid f23
        have Hf24 := Lib.hid f24
        have HhK := Lib.hid hK
        have Hhd := Lib.hid hd
        have HhJ := Lib.hid hJ
        clear hd hK hJ f0 f1 f2 f3 f4 f5 f6 f7 f8 f9 f10 f11 f12 f13 f14 f15 f16 f17 f18 f19 f20 f21 f22 f23 f24
        go_simp
        have f0 := Hf0.out
        have f1 := Hf1.out
        have f2 := Hf2.out
        have f3 := Hf3.out
        have f4 := Hf4.out
        have f5 := Hf5.out
        have f6 := Hf6.out
        have f7 := Hf7.out
        have f8 := Hf8.out
        have f9 := Hf9.out
        have f10 := Hf10.out
        have f11 := Hf11.out
        have f12 := Hf12.out
        have f13 := Hf13.out
        have f14 := Hf14.out
        have f15 := Hf15.out
        have f16 := Hf16.out
        have f17 := Hf17.out
        have f18 := Hf18.out
        have f19 := Hf19.out
        have f20 := Hf20.out
        have f21 := Hf21.out
        have f22 := Hf22.out
        have f23 := Hf23.out
        have f24 := Hf24.out
        have hK := HhK.out
        have hd := Hhd.out
        have hJ := HhJ.out
        exact hK _ _ ⟨[u27, u28, (.int .i64 lo), u30, u31, u32, u33, u34, u35, u36, u37, u38, u39, u40, u41, u42, u43, u44, u45, u46, u2, u3, u4, u5, u6], rfl, by kernel_rfl, _, _, _, _, _, _, _, _, _, _, _, _, _, _, _, _, _, _, _, _, _, _, _, _, _, rfl, hI, f0, f1, (fun _ => rfl), f3, f4, f5, f6, f7, f8, f9, f10, f11, f12, f13, f14, f15, f16, f17, f18, f19, f20, f21, f22, f23, f24⟩
      · simp only [List.getElem?_cons_zero, List.getElem?_cons_succ, Option.some.injEq] at ho
        subst ho
        clear hi'
        clear hdep
        have hI := hJ
        refine wpOp_step rfl (fun K hK => ?_)
        simp only [List.zip_cons_cons, List.zip_nil_right, puts]
        have Hf0 := Lib.hid f0
        have Hf1 := Lib.hid f1
        have Hf2 := Lib.hid f2
        have Hf3 := Lib.hid f3
        have Hf4 := Lib.hid f4
        have Hf5 := Lib.hid f5
        have Hf6 := Lib.hid f6
        have Hf7 := Lib.hid f7
        have Hf8 := Lib.hid f8
        have Hf9 := Lib.hid f9
        have Hf10 := Lib.hid f10
        have Hf11 := Lib.hid f11
        have Hf12 := Lib.hid f12
        have Hf13 := Lib.hid f13
        have Hf14 := Lib.hid f14
        have Hf15 := Lib.hid f15
        have Hf16 := Lib.hid f16
        have Hf17 := Lib.hid f17
        have Hf18 := Lib.hid f18
        have Hf19 := Lib.hid f19
        have Hf20 := Lib.hid f20
        have Hf21 := Lib.hid f21
        have Hf22 := Lib.hid f22
        have Hf23 := Lib.hid f23
        have Hf24 := Lib.hid f24
        have HhK := Lib.hid hK
        have Hhd := Lib.hid hd
        have HhJ := Lib.hid hJ
        clear hd hK hJ f0 f1 f2 f3 f4 f5 f6 f7 f8 f9 f10 f11 f12 f13 f14 f15 f16 f17 f18 f19 f20 f21 f22 f23 f24
        go_simp
        have f0 := Hf0.out
        have f1 := Hf1.out
        have f2 := Hf2.out
        have f3 := Hf3.out
        have f4 := Hf4.out
        have f5 := Hf5.out
        have f6 := Hf6.out
        have f7 := Hf7.out
        have f8 := Hf8.out
        have f9 := Hf9.out
        have f10 := Hf10.out
        have f11 := Hf11.out
        have f12 := Hf12.out
        have f13 := Hf13.out
        have f14 := Hf14.out
        have f15 := Hf15.out
        have f16 := Hf16.out
        have f17 := Hf17.out
        have f18 := Hf18.out
        have f19 := Hf19.out
        have f20 := Hf20.out
        have f21 := Hf21.out
        have f22 := Hf22.out
        have f23 := Hf23.out
        have f24 := Hf24.out
        have hK := HhK.out
        have hd := Hhd.out
        have hJ := HhJ.out
        exact hK _ _ ⟨[u27, u28, u29, (.int .i64 hi), u31, u32, u33, u34, u35, u36, u37, u38, u39, u40, u41, u42, u43, u44, u45, u46, u2, u3, u4, u5, u6], rfl, by kernel_rfl, _, _, _, _, _, _, _, _, _, _, _, _, _, _, _, _, _, _, _, _, _, _, _, _, _, rfl, hI, f0, f1, f2, (fun _ => rfl), f4, f5, f6, f7, f8, f9, f10, f11, f12, f13, f14, f15, f16, f17, f18, f19, f20, f21, f22, f23, f24⟩
      · simp only [List.getElem?_cons_zero, List.getElem?_cons_succ, Option.some.injEq] at ho
        subst ho
        clear hi'
        clear hdep
        have hI := hJ
        refine wpOp_step rfl (fun K hK => ?_)
        simp only [List.zip_cons_cons, List.zip_nil_right, puts]
        have Hf0 := Lib.hid f0
        have Hf1 := Lib.hid f1
        have Hf2 := Lib.hid f2
        have Hf3 := Lib.hid f3
        have Hf4 := Lib.hid f4
        have Hf5 := Lib.hid f5
        have Hf6 := Lib.hid f6
        have Hf7 := Lib.hid f7
        have Hf8 := Lib.hid f8
        have Hf9 := Lib.hid f9
        have Hf10 := Lib.hid f10
        have Hf11 := Lib.hid f11
        have Hf12 := Lib.hid f12
        have Hf13 := Lib.hid f13
        have Hf14 := Lib.hid f14
        have Hf15 := Lib.hid f15
        have Hf16 := Lib.hid f16
        have Hf17 := Lib.hid f17
        have Hf18 := Lib.hid f18
        have Hf19 := Lib.hid f19
        have Hf20 := Lib.hid f20
        have Hf21 := Lib.hid f21
        have Hf22 := Lib.hid f22
        have Hf23 := Lib.hid f23
        have Hf24 := Lib.hid f24
        have HhK := Lib.hid hK
        have Hhd := Lib.hid hd
        have HhJ := Lib.hid hJ
        clear hd hK hJ f0 f1 f2 f3 f4 f5 f6 f7 f8 f9 f10 f11 f12 f13 f14 f15 f16 f17 f18 f19 f20 f21 f22 f23 f24
        go_simp
        have f0 := Hf0.out
        have f1 := Hf1.out
        have f2 := Hf2.out
        have f3 := Hf3.out
        have f4 := Hf4.out
        have f5 := Hf5.out
        have f6 := Hf6.out
        have f7 := Hf7.out
        have f8 := Hf8.out
        have f9 := Hf9.out
        have f10 := Hf10.out
        have f11 := Hf11.out
        have f12 := Hf12.out
        have f13 := Hf13.out
        have f14 := Hf14.out
        have f15 := Hf15.out
        have f16 := Hf16.out
        have f17 := Hf17.out
        have f18 := Hf18.out
        have f19 := Hf19.out
        have f20 := Hf20.out
        have f21 := Hf21.out
        have f22 := Hf22.out
        have f23 := Hf23.out
        have f24 := Hf24.out
        have hK := HhK.out
        have hd := Hhd.out
        have hJ := HhJ.out
        exact hK _ _ ⟨[u27, u28, u29, u30, (.pointer (some ⟨w.heap.size, 0, none⟩)), u32, u33, u34, u35, u36, u37, u38, u39, u40, u41, u42, u43, u44, u45, u46, u2, u3, u4, u5, u6], rfl, by kernel_rfl, _, _, _, _, _, _, _, _, _, _, _, _, _, _, _, _, _, _, _, _, _, _, _, _, _, rfl, hI, f0, f1, f2, f3, (fun _ => rfl), f5, f6, f7, f8, f9, f10, f11, f12, f13, f14, f15, f16, f17, f18, f19, f20, f21, f22, f23, f24⟩
      · simp only [List.getElem?_cons_zero, List.getElem?_cons_succ, Option.some.injEq] at ho
        subst ho
        clear hi'
        clear hdep
        have hI := hJ
        refine wpOp_step rfl (fun K hK => ?_)
        simp only [List.zip_cons_cons, List.zip_nil_right, puts]
        have Hf0 := Lib.hid f0
        have Hf1 := Lib.hid f1
        have Hf2 := Lib.hid f2
        have Hf3 := Lib.hid f3
        have Hf4 := Lib.hid f4
        have Hf5 := Lib.hid f5
        have Hf6 := Lib.hid f6
        have Hf7 := Lib.hid f7
        have Hf8 := Lib.hid f8
        have Hf9 := Lib.hid f9
        have Hf10 := Lib.hid f10
        have Hf11 := Lib.hid f11
        have Hf12 := Lib.hid f12
        have Hf13 := Lib.hid f13
        have Hf14 := Lib.hid f14
        have Hf15 := Lib.hid f15
        have Hf16 := Lib.hid f16
        have Hf17 := Lib.hid f17
        have Hf18 := Lib.hid f18
        have Hf19 := Lib.hid f19
        have Hf20 := Lib.hid f20
        have Hf21 := Lib.hid f21
        have Hf22 := Lib.hid f22
        have Hf23 := Lib.hid f23
        have Hf24 := Lib.hid f24
        have HhK := Lib.hid hK
        have Hhd := Lib.hid hd
        have HhJ := Lib.hid hJ
        clear hd hK hJ f0 f1 f2 f3 f4 f5 f6 f7 f8 f9 f10 f11 f12 f13 f14 f15 f16 f17 f18 f19 f20 f21 f22 f23 f24
        go_simp
        have f0 := Hf0.out
        have f1 := Hf1.out
        have f2 := Hf2.out
        have f3 := Hf3.out
        have f4 := Hf4.out
        have f5 := Hf5.out
        have f6 := Hf6.out
        have f7 := Hf7.out
        have f8 := Hf8.out
        have f9 := Hf9.out
        have f10 := Hf10.out
        have f11 := Hf11.out
        have f12 := Hf12.out
        have f13 := Hf13.out
        have f14 := Hf14.out
        have f15 := Hf15.out
        have f16 := Hf16.out
        have f17 := Hf17.out
        have f18 := Hf18.out
        have f19 := Hf19.out
        have f20 := Hf20.out
        have f21 := Hf21.out
        have f22 := Hf22.out
        have f23 := Hf23.out
        have f24 := Hf24.out
        have hK := HhK.out
        have hd := Hhd.out
        have hJ := HhJ.out
        exact hK _ _ ⟨[u27, u28, u29, u30, u31, (.int .i64 v), u33, u34, u35, u36, u37, u38, u39, u40, u41, u42, u43, u44, u45, u46, u2, u3, u4, u5, u6], rfl, by kernel_rfl, _, _, _, _, _, _, _, _, _, _, _, _, _, _, _, _, _, _, _, _, _, _, _, _, _, rfl, hI, f0, f1, f2, f3, f4, (fun _ => rfl), f6, f7, f8, f9, f10, f11, f12, f13, f14, f15, f16, f17, f18, f19, f20, f21, f22, f23, f24⟩
      · simp only [List.getElem?_cons_zero, List.getElem?_cons_succ, Option.some.injEq] at ho
        subst ho
        clear hi'
        have d5 : D 5 = true := hdep ⟨5, Ground.data⟩ (by simp) rfl
        clear hdep
        have hI := hJ
        obtain rfl := f5 d5
        refine wpOp_step rfl (fun K hK => ?_)
        simp only [List.zip_cons_cons, List.zip_nil_right, puts]
        have Hf0 := Lib.hid f0
        have Hf1 := Lib.hid f1
        have Hf2 := Lib.hid f2
        have Hf3 := Lib.hid f3
        have Hf4 := Lib.hid f4
        have Hf5 := Lib.hid f5
        have Hf6 := Lib.hid f6
        have Hf7 := Lib.hid f7
        have Hf8 := Lib.hid f8
        have Hf9 := Lib.hid f9
        have Hf10 := Lib.hid f10
        have Hf11 := Lib.hid f11
        have Hf12 := Lib.hid f12
        have Hf13 := Lib.hid f13
        have Hf14 := Lib.hid f14
        have Hf15 := Lib.hid f15
        have Hf16 := Lib.hid f16
        have Hf17 := Lib.hid f17
        have Hf18 := Lib.hid f18
        have Hf19 := Lib.hid f19
        have Hf20 := Lib.hid f20
        have Hf21 := Lib.hid f21
        have Hf22 := Lib.hid f22
        have Hf23 := Lib.hid f23
        have Hf24 := Lib.hid f24
        have HhK := Lib.hid hK
        have Hhd := Lib.hid hd
        have HhJ := Lib.hid hJ
        clear hd hK hJ f0 f1 f2 f3 f4 f5 f6 f7 f8 f9 f10 f11 f12 f13 f14 f15 f16 f17 f18 f19 f20 f21 f22 f23 f24
        go_simp
        have f0 := Hf0.out
        have f1 := Hf1.out
        have f2 := Hf2.out
        have f3 := Hf3.out
        have f4 := Hf4.out
        have f5 := Hf5.out
        have f6 := Hf6.out
        have f7 := Hf7.out
        have f8 := Hf8.out
        have f9 := Hf9.out
        have f10 := Hf10.out
        have f11 := Hf11.out
        have f12 := Hf12.out
        have f13 := Hf13.out
        have f14 := Hf14.out
        have f15 := Hf15.out
        have f16 := Hf16.out
        have f17 := Hf17.out
        have f18 := Hf18.out
        have f19 := Hf19.out
        have f20 := Hf20.out
        have f21 := Hf21.out
        have f22 := Hf22.out
        have f23 := Hf23.out
        have f24 := Hf24.out
        have hK := HhK.out
        have hd := Hhd.out
        have hJ := HhJ.out
        exact hK _ _ ⟨[u27, u28, u29, u30, u31, (.int .i64 v), (.int .i64 v), u34, u35, u36, u37, u38, u39, u40, u41, u42, u43, u44, u45, u46, u2, u3, u4, u5, u6], rfl, by kernel_rfl, _, _, _, _, _, _, _, _, _, _, _, _, _, _, _, _, _, _, _, _, _, _, _, _, _, rfl, hI, f0, f1, f2, f3, f4, (fun _ => rfl), (fun _ => rfl), f7, f8, f9, f10, f11, f12, f13, f14, f15, f16, f17, f18, f19, f20, f21, f22, f23, f24⟩
      · simp only [List.getElem?_cons_zero, List.getElem?_cons_succ, Option.some.injEq] at ho
        subst ho
        clear hi'
        have d6 : D 6 = true := hdep ⟨6, Ground.data⟩ (by simp) rfl
        clear hdep
        have hI := hJ
        obtain rfl := f6 d6
        refine wpOp_step rfl (fun K hK => ?_)
        simp only [List.zip_cons_cons, List.zip_nil_right, puts]
        have Hf0 := Lib.hid f0
        have Hf1 := Lib.hid f1
        have Hf2 := Lib.hid f2
        have Hf3 := Lib.hid f3
        have Hf4 := Lib.hid f4
        have Hf5 := Lib.hid f5
        have Hf6 := Lib.hid f6
        have Hf7 := Lib.hid f7
        have Hf8 := Lib.hid f8
        have Hf9 := Lib.hid f9
        have Hf10 := Lib.hid f10
        have Hf11 := Lib.hid f11
        have Hf12 := Lib.hid f12
        have Hf13 := Lib.hid f13
        have Hf14 := Lib.hid f14
        have Hf15 := Lib.hid f15
        have Hf16 := Lib.hid f16
        have Hf17 := Lib.hid f17
        have Hf18 := Lib.hid f18
        have Hf19 := Lib.hid f19
        have Hf20 := Lib.hid f20
        have Hf21 := Lib.hid f21
        have Hf22 := Lib.hid f22
        have Hf23 := Lib.hid f23
        have Hf24 := Lib.hid f24
        have HhK := Lib.hid hK
        have Hhd := Lib.hid hd
        have HhJ := Lib.hid hJ
        clear hd hK hJ f0 f1 f2 f3 f4 f5 f6 f7 f8 f9 f10 f11 f12 f13 f14 f15 f16 f17 f18 f19 f20 f21 f22 f23 f24
        go_simp
        have f0 := Hf0.out
        have f1 := Hf1.out
        have f2 := Hf2.out
        have f3 := Hf3.out
        have f4 := Hf4.out
        have f5 := Hf5.out
        have f6 := Hf6.out
        have f7 := Hf7.out
        have f8 := Hf8.out
        have f9 := Hf9.out
        have f10 := Hf10.out
        have f11 := Hf11.out
        have f12 := Hf12.out
        have f13 := Hf13.out
        have f14 := Hf14.out
        have f15 := Hf15.out
        have f16 := Hf16.out
        have f17 := Hf17.out
        have f18 := Hf18.out
        have f19 := Hf19.out
        have f20 := Hf20.out
        have f21 := Hf21.out
        have f22 := Hf22.out
        have f23 := Hf23.out
        have f24 := Hf24.out
        have hK := HhK.out
        have hd := Hhd.out
        have hJ := HhJ.out
        exact hK _ _ ⟨[u27, u28, u29, u30, u31, u32, (.int .i64 v), (.int .i64 1), u35, u36, u37, u38, u39, u40, u41, u42, u43, u44, u45, u46, u2, u3, u4, u5, u6], rfl, by kernel_rfl, _, _, _, _, _, _, _, _, _, _, _, _, _, _, _, _, _, _, _, _, _, _, _, _, _, rfl, hI, f0, f1, f2, f3, f4, f5, (fun _ => rfl), (fun _ => rfl), f8, f9, f10, f11, f12, f13, f14, f15, f16, f17, f18, f19, f20, f21, f22, f23, f24⟩
      · simp only [List.getElem?_cons_zero, List.getElem?_cons_succ, Option.some.injEq] at ho
        subst ho
        clear hi'
        have d4 : D 4 = true := hdep ⟨4, Ground.data⟩ (by simp) rfl
        have d7 : D 7 = true := hdep ⟨7, Ground.data⟩ (by simp) rfl
        clear hdep
        have hI := hJ
        obtain rfl := f4 d4
        obtain rfl := f7 d7
        obtain ⟨kO, p, hp, rd⟩ := hI
        have a2 := Bool.toNat_le (D 8)
        have a8 := Bool.toNat_le (D 15)
        refine wpOp_step rfl (fun K hK => ?_)
        simp only [List.zip_cons_cons, List.zip_nil_right, puts]
        have Hf0 := Lib.hid f0
        have Hf1 := Lib.hid f1
        have Hf2 := Lib.hid f2
        have Hf3 := Lib.hid f3
        have Hf4 := Lib.hid f4
        have Hf5 := Lib.hid f5
        have Hf6 := Lib.hid f6
        have Hf7 := Lib.hid f7
        have Hf8 := Lib.hid f8
        have Hf9 := Lib.hid f9
        have Hf10 := Lib.hid f10
        have Hf11 := Lib.hid f11
        have Hf12 := Lib.hid f12
        have Hf13 := Lib.hid f13
        have Hf14 := Lib.hid f14
        have Hf15 := Lib.hid f15
        have Hf16 := Lib.hid f16
        have Hf17 := Lib.hid f17
        have Hf18 := Lib.hid f18
        have Hf19 := Lib.hid f19
        have Hf20 := Lib.hid f20
        have Hf21 := Lib.hid f21
        have Hf22 := Lib.hid f22
        have Hf23 := Lib.hid f23
        have Hf24 := Lib.hid f24
        have HhK := Lib.hid hK
        have Hhd := Lib.hid hd
        have HhJ := Lib.hid hJ
        clear hd hK hJ f0 f1 f2 f3 f4 f5 f6 f7 f8 f9 f10 f11 f12 f13 f14 f15 f16 f17 f18 f19 f20 f21 f22 f23 f24
        go_simp
        go_wp2_with (go_at_call 65; refine (pick_fr _ _ _ _ _ _ _ _ rd (by omega)).mono ?_; rintro e w9 ⟨x, rfl, ⟨x0, x1, _⟩, o9, r9⟩)
        have x1 := x1 (by omega)
        have f0 := Hf0.out
        have f1 := Hf1.out
        have f2 := Hf2.out
        have f3 := Hf3.out
        have f4 := Hf4.out
        have f5 := Hf5.out
        have f6 := Hf6.out
        have f7 := Hf7.out
        have f8 := Hf8.out
        have f9 := Hf9.out
        have f10 := Hf10.out
        have f11 := Hf11.out
        have f12 := Hf12.out
        have f13 := Hf13.out
        have f14 := Hf14.out
        have f15 := Hf15.out
        have f16 := Hf16.out
        have f17 := Hf17.out
        have f18 := Hf18.out
        have f19 := Hf19.out
        have f20 := Hf20.out
        have f21 := Hf21.out
        have f22 := Hf22.out
        have f23 := Hf23.out
        have f24 := Hf24.out
        have hK := HhK.out
        have hd := Hhd.out
        have hJ := HhJ.out
        exact hK _ _ ⟨[u27, u28, u29, u30, (.pointer (some ⟨w.heap.size, 0, none⟩)), u32, u33, (.int .i64 1), (.int .i64 x), u36, u37, u38, u39, u40, u41, u42, u43, u44, u45, u46, u2, u3, u4, u5, u6], rfl, by kernel_rfl, _, _, _, _, _, _, _, _, _, _, _, _, _, _, _, _, _, _, _, _, _, _, _, _, _, rfl, ⟨kO.trans (Onb.of_onl o9), p + 1, (by have e := hp; rw [hd] at e; show p + 1 ≤ p2 + 2 * (true.toNat + (D 15).toNat); simp only [Bool.toNat_true, Bool.toNat_false] at e ⊢; omega), r9⟩, f0, f1, f2, f3, (fun _ => rfl), f5, f6, (fun _ => rfl), (fun _ => ⟨x, rfl, x0, by omega⟩), f9, f10, f11, (fun h => ((f12 h)).onb (Onb.of_onl o9) hg3), (fun h => ((f13 h)).onb (Onb.of_onl o9) hg3), f14, f15, (fun h => ((f16 h)).onb (Onb.of_onl o9) hg3), f17, (fun h => ((f18 h)).onb (Onb.of_onl o9) hg3), f19, f20, f21, f22, f23, f24⟩
      · simp only [List.getElem?_cons_zero, List.getElem?_cons_succ, Option.some.injEq] at ho
        subst ho
        clear hi'
        clear hdep
        have hI := hJ
        refine wpOp_step rfl (fun K hK => ?_)
        simp only [List.zip_cons_cons, List.zip_nil_right, puts]
        have Hf0 := Lib.hid f0
        have Hf1 := Lib.hid f1
        have Hf2 := Lib.hid f2
        have Hf3 := Lib.hid f3
        have Hf4 := Lib.hid f4
        have Hf5 := Lib.hid f5
        have Hf6 := Lib.hid f6
        have Hf7 := Lib.hid f7
        have Hf8 := Lib.hid f8
        have Hf9 := Lib.hid f9
        have Hf10 := Lib.hid f10
        have Hf11 := Lib.hid f11
        have Hf12 := Lib.hid f12
        have Hf13 := Lib.hid f13
        have Hf14 := Lib.hid f14
        have Hf15 := Lib.hid f15
        have Hf16 := Lib.hid f16
        have Hf17 := Lib.hid f17
        have Hf18 := Lib.hid f18
        have Hf19 := Lib.hid f19
        have Hf20 := Lib.hid f20
        have Hf21 := Lib.hid f21
        have Hf22 := Lib.hid f22
        have Hf23 := Lib.hid f23
        have Hf24 := Lib.hid f24
        have HhK := Lib.hid hK
        have Hhd := Lib.hid hd
        have HhJ := Lib.hid hJ
        clear hd hK hJ f0 f1 f2 f3 f4 f5 f6 f7 f8 f9 f10 f11 f12 f13 f14 f15 f16 f17 f18 f19 f20 f21 f22 f23 f24
        go_simp
        have f0 := Hf0.out
        have f1 := Hf1.out
        have f2 := Hf2.out
        have f3 := Hf3.out
        have f4 := Hf4.out
        have f5 := Hf5.out
        have f6 := Hf6.out
        have f7 := Hf7.out
        have f8 := Hf8.out
        have f9 := Hf9.out
        have f10 := Hf10.out
        have f11 := Hf11.out
        have f12 := Hf12.out
        have f13 := Hf13.out
        have f14 := Hf14.out
        have f15 := Hf15.out
        have f16 := Hf16.out
        have f17 := Hf17.out
        have f18 := Hf18.out
        have f19 := Hf19.out
        have f20 := Hf20.out
        have f21 := Hf21.out
        have f22 := Hf22.out
        have f23 := Hf23.out
        have f24 := Hf24.out
        have hK := HhK.out
        have hd := Hhd.out
        have hJ := HhJ.out
        exact hK _ _ ⟨[u27, u28, u29, u30, u31, u32, u33, u34, u35, (.int .i64 v), u37, u38, u39, u40, u41, u42, u43, u44, u45, u46, u2, u3, u4, u5, u6], rfl, by kernel_rfl, _, _, _, _, _, _, _, _, _, _, _, _, _, _, _, _, _, _, _, _, _, _, _, _, _, rfl, hI, f0, f1, f2, f3, f4, f5, f6, f7, f8, (fun _ => rfl), f10, f11, f12, f13, f14, f15, f16, f17, f18, f19, f20, f21, f22, f23, f24⟩
      · simp only [List.getElem?_cons_zero, List.getElem?_cons_succ, Option.some.injEq] at ho
        subst ho
        clear hi'
        have d9 : D 9 = true := hdep ⟨9, Ground.data⟩ (by simp) rfl
        clear hdep
        have hI := hJ
        obtain rfl := f9 d9
        have i1 := IntWalk.i64_in (v - 1) (by omega)
        refine wpOp_step rfl (fun K hK => ?_)
        simp only [List.zip_cons_cons, List.zip_nil_right, puts]
        have Hf0 := Lib.hid f0
        have Hf1 := Lib.hid f1
        have Hf2 := Lib.hid f2
        have Hf3 := Lib.hid f3
        have Hf4 := Lib.hid f4
        have Hf5 := Lib.hid f5
        have Hf6 := Lib.hid f6
        have Hf7 := Lib.hid f7
        have Hf8 := Lib.hid f8
        have Hf9 := Lib.hid f9
        have Hf10 := Lib.hid f10
        have Hf11 := Lib.hid f11
        have Hf12 := Lib.hid f12
        have Hf13 := Lib.hid f13
        have Hf14 := Lib.hid f14
        have Hf15 := Lib.hid f15
        have Hf16 := Lib.hid f16
        have Hf17 := Lib.hid f17
        have Hf18 := Lib.hid f18
        have Hf19 := Lib.hid f19
        have Hf20 := Lib.hid f20
        have Hf21 := Lib.hid f21
        have Hf22 := Lib.hid f22
        have Hf23 := Lib.hid f23
        have Hf24 := Lib.hid f24
        have HhK := Lib.hid hK
        have Hhd := Lib.hid hd
        have HhJ := Lib.hid hJ
        clear hd hK hJ f0 f1 f2 f3 f4 f5 f6 f7 f8 f9 f10 f11 f12 f13 f14 f15 f16 f17 f18 f19 f20 f21 f22 f23 f24
        go_simp
        have f0 := Hf0.out
        have f1 := Hf1.out
        have f2 := Hf2.out
        have f3 := Hf3.out
        have f4 := Hf4.out
        have f5 := Hf5.out
        have f6 := Hf6.out
        have f7 := Hf7.out
        have f8 := Hf8.out
        have f9 := Hf9.out
        have f10 := Hf10.out
        have f11 := Hf11.out
        have f12 := Hf12.out
        have f13 := Hf13.out
        have f14 := Hf14.out
        have f15 := Hf15.out
        have f16 := Hf16.out
        have f17 := Hf17.out
        have f18 := Hf18.out
        have f19 := Hf19.out
        have f20 := Hf20.out
        have f21 := Hf21.out
        have f22 := Hf22.out
        have f23 := Hf23.out
        have f24 := Hf24.out
        have hK := HhK.out
        have hd := Hhd.out
        have hJ := HhJ.out
        exact hK _ _ ⟨[u27, u28, u29, u30, u31, u32, u33, u34, u35, (.int .i64 v), (.int .i64 (v - 1)), u38, u39, u40, u41, u42, u43, u44, u45, u46, u2, u3, u4, u5, u6], rfl, by kernel_rfl, _, _, _, _, _, _, _, _, _, _, _, _, _, _, _, _, _, _, _, _, _, _, _, _, _, rfl, hI, f0, f1, f2, f3, f4, f5, f6, f7, f8, (fun _ => rfl), (fun _ => rfl), f11, f12, f13, f14, f15, f16, f17, f18, f19, f20, f21, f22, f23, f24⟩
      · simp only [List.getElem?_cons_zero, List.getElem?_cons_succ, Option.some.injEq] at ho
        subst ho
        clear hi'
        clear hdep
        have hI := hJ
        refine wpOp_step rfl (fun K hK => ?_)
        simp only [List.zip_cons_cons, List.zip_nil_right, puts]
        have Hf0 := Lib.hid f0
        have Hf1 := Lib.hid f1
        have Hf2 := Lib.hid f2
        have Hf3 := Lib.hid f3
        have Hf4 := Lib.hid f4
        have Hf5 := Lib.hid f5
        have Hf6 := Lib.hid f6
        have Hf7 := Lib.hid f7
        have Hf8 := Lib.hid f8
        have Hf9 := Lib.hid f9
        have Hf10 := Lib.hid f10
        have Hf11 := Lib.hid f11
        have Hf12 := Lib.hid f12
        have Hf13 := Lib.hid f13
        have Hf14 := Lib.hid f14
        have Hf15 := Lib.hid f15
        have Hf16 := Lib.hid f16
        have Hf17 := Lib.hid f17
        have Hf18 := Lib.hid f18
        have Hf19 := Lib.hid f19
        have Hf20 := Lib.hid f20
        have Hf21 := Lib.hid f21
        have Hf22 := Lib.hid f22
        have Hf23 := Lib.hid f23
        have Hf24 := Lib.hid f24
        have HhK := Lib.hid hK
        have Hhd := Lib.hid hd
        have HhJ := Lib.hid hJ
        clear hd hK hJ f0 f1 f2 f3 f4 f5 f6 f7 f8 f9 f10 f11 f12 f13 f14 f15 f16 f17 f18 f19 f20 f21 f22 f23 f24
        go_simp
        have f0 := Hf0.out
        have f1 := Hf1.out
        have f2 := Hf2.out
        have f3 := Hf3.out
        have f4 := Hf4.out
        have f5 := Hf5.out
        have f6 := Hf6.out
        have f7 := Hf7.out
        have f8 := Hf8.out
        have f9 := Hf9.out
        have f10 := Hf10.out
        have f11 := Hf11.out
        have f12 := Hf12.out
        have f13 := Hf13.out
        have f14 := Hf14.out
        have f15 := Hf15.out
        have f16 := Hf16.out
        have f17 := Hf17.out
        have f18 := Hf18.out
        have f19 := Hf19.out
        have f20 := Hf20.out
        have f21 := Hf21.out
        have f22 := Hf22.out
        have f23 := Hf23.out
        have f24 := Hf24.out
        have hK := HhK.out
        have hd := Hhd.out
        have hJ := HhJ.out
        exact hK _ _ ⟨[u27, u28, u29, u30, u31, u32, u33, u34, u35, u36, u37, (.int .i64 v), u39, u40, u41, u42, u43, u44, u45, u46, u2, u3, u4, u5, u6], rfl, by kernel_rfl, _, _, _, _, _, _, _, _, _, _, _, _, _, _, _, _, _, _, _, _, _, _, _, _, _, rfl, hI, f0, f1, f2, f3, f4, f5, f6, f7, f8, f9, f10, (fun _ => rfl), f12, f13, f14, f15, f16, f17, f18, f19, f20, f21, f22, f23, f24⟩
      · simp only [List.getElem?_cons_zero, List.getElem?_cons_succ, Option.some.injEq] at ho
        subst ho
        clear hi'
        have d8 : D 8 = true := hdep ⟨8, Ground.data⟩ (by simp) rfl
        have d10 : D 10 = true := hdep ⟨10, Ground.data⟩ (by simp) rfl
        have d11 : D 11 = true := hdep ⟨11, Ground.data⟩ (by simp) rfl
        clear hdep
        have hI := hJ
        obtain ⟨x, rfl, x0, x1⟩ := f8 d8
        obtain rfl := f10 d10
        obtain rfl := f11 d11
        obtain ⟨kO, p, hp, rd⟩ := hI
        refine wpOp_step rfl (fun K hK => ?_)
        simp only [List.zip_cons_cons, List.zip_nil_right, puts]
        have Hf0 := Lib.hid f0
        have Hf1 := Lib.hid f1
        have Hf2 := Lib.hid f2
        have Hf3 := Lib.hid f3
        have Hf4 := Lib.hid f4
        have Hf5 := Lib.hid f5
        have Hf6 := Lib.hid f6
        have Hf7 := Lib.hid f7
        have Hf8 := Lib.hid f8
        have Hf9 := Lib.hid f9
        have Hf10 := Lib.hid f10
        have Hf11 := Lib.hid f11
        have Hf12 := Lib.hid f12
        have Hf13 := Lib.hid f13
        have Hf14 := Lib.hid f14
        have Hf15 := Lib.hid f15
        have Hf16 := Lib.hid f16
        have Hf17 := Lib.hid f17
        have Hf18 := Lib.hid f18
        have Hf19 := Lib.hid f19
        have Hf20 := Lib.hid f20
        have Hf21 := Lib.hid f21
        have Hf22 := Lib.hid f22
        have Hf23 := Lib.hid f23
        have Hf24 := Lib.hid f24
        have HhK := Lib.hid hK
        have Hhd := Lib.hid hd
        have HhJ := Lib.hid hJ
        clear hd hK hJ f0 f1 f2 f3 f4 f5 f6 f7 f8 f9 f10 f11 f12 f13 f14 f15 f16 f17 f18 f19 f20 f21 f22 f23 f24
        go_simp
        have f0 := Hf0.out
        have f1 := Hf1.out
        have f2 := Hf2.out
        have f3 := Hf3.out
        have f4 := Hf4.out
        have f5 := Hf5.out
        have f6 := Hf6.out
        have f7 := Hf7.out
        have f8 := Hf8.out
        have f9 := Hf9.out
        have f10 := Hf10.out
        have f11 := Hf11.out
        have f12 := Hf12.out
        have f13 := Hf13.out
        have f14 := Hf14.out
        have f15 := Hf15.out
        have f16 := Hf16.out
        have f17 := Hf17.out
        have f18 := Hf18.out
        have f19 := Hf19.out
        have f20 := Hf20.out
        have f21 := Hf21.out
        have f22 := Hf22.out
        have f23 := Hf23.out
        have f24 := Hf24.out
        have hK := HhK.out
        have hd := Hhd.out
        have hJ := HhJ.out
        exact hK _ _ ⟨[u27, u28, u29, u30, u31, u32, u33, u34, (.int .i64 x), u36, (.int .i64 (v - 1)), (.int .i64 v), (.slice (some ⟨W.heap.size, 0, none⟩) 4 4), u40, u41, u42, u43, u44, u45, u46, u2, u3, u4, u5, u6], rfl, by kernel_rfl, _, _, _, _, _, _, _, _, _, _, _, _, _, _, _, _, _, _, _, _, _, _, _, _, _, rfl, ⟨kO.trans (Onb.of_bel (bel_al (bel_refl W) (.cells #[.int .i64 x, .int .i64 (v - 1), .int .i64 v, .int .i64 (-1)] 3))), p, hp, rd.alloc _⟩, f0, f1, f2, f3, f4, f5, f6, f7, f8, f9, (fun _ => rfl), (fun _ => rfl), (fun _ => ⟨_, x, rfl, ⟨x0, x1⟩, kO.size, Blk.new W _ _⟩), (fun h => ((f13 h)).onb (Onb.of_bel (bel_al (bel_refl W) (.cells #[.int .i64 x, .int .i64 (v - 1), .int .i64 v, .int .i64 (-1)] 3))) hg3), f14, f15, (fun h => ((f16 h)).onb (Onb.of_bel (bel_al (bel_refl W) (.cells #[.int .i64 x, .int .i64 (v - 1), .int .i64 v, .int .i64 (-1)] 3))) hg3), f17, (fun h => ((f18 h)).onb (Onb.of_bel (bel_al (bel_refl W) (.cells #[.int .i64 x, .int .i64 (v - 1), .int .i64 v, .int .i64 (-1)] 3))) hg3), f19, f20, f21, f22, f23, f24⟩
      · simp only [List.getElem?_cons_zero, List.getElem?_cons_succ, Option.some.injEq] at ho
        subst ho
        clear hi'
        clear hdep
        have hI := hJ
        obtain ⟨kO, p, hp, rd⟩ := hI
        refine wpOp_step rfl (fun K hK => ?_)
        simp only [List.zip_cons_cons, List.zip_nil_right, puts]
        have Hf0 := Lib.hid f0
        have Hf1 := Lib.hid f1
        have Hf2 := Lib.hid f2
        have Hf3 := Lib.hid f3
        have Hf4 := Lib.hid f4
        have Hf5 := Lib.hid f5
        have Hf6 := Lib.hid f6
        have Hf7 := Lib.hid f7
        have Hf8 := Lib.hid f8
        have Hf9 := Lib.hid f9
        have Hf10 := Lib.hid f10
        have Hf11 := Lib.hid f11
        have Hf12 := Lib.hid f12
        have Hf13 := Lib.hid f13
        have Hf14 := Lib.hid f14
        have Hf15 := Lib.hid f15
        have Hf16 := Lib.hid f16
        have Hf17 := Lib.hid f17
        have Hf18 := Lib.hid f18
        have Hf19 := Lib.hid f19
        have Hf20 := Lib.hid f20
        have Hf21 := Lib.hid f21
        have Hf22 := Lib.hid f22
        have Hf23 := Lib.hid f23
        have Hf24 := Lib.hid f24
        have HhK := Lib.hid hK
        have Hhd := Lib.hid hd
        have HhJ := Lib.hid hJ
        clear hd hK hJ f0 f1 f2 f3 f4 f5 f6 f7 f8 f9 f10 f11 f12 f13 f14 f15 f16 f17 f18 f19 f20 f21 f22 f23 f24
        go_simp
        have f0 := Hf0.out
        have f1 := Hf1.out
        have f2 := Hf2.out
        have f3 := Hf3.out
        have f4 := Hf4.out
        have f5 := Hf5.out
        have f6 := Hf6.out
        have f7 := Hf7.out
        have f8 := Hf8.out
        have f9 := Hf9.out
        have f10 := Hf10.out
        have f11 := Hf11.out
        have f12 := Hf12.out
        have f13 := Hf13.out
        have f14 := Hf14.out
        have f15 := Hf15.out
        have f16 := Hf16.out
        have f17 := Hf17.out
        have f18 := Hf18.out
        have f19 := Hf19.out
        have f20 := Hf20.out
        have f21 := Hf21.out
        have f22 := Hf22.out
        have f23 := Hf23.out
        have f24 := Hf24.out
        have hK := HhK.out
        have hd := Hhd.out
        have hJ := HhJ.out
        exact hK _ _ ⟨[u27, u28, u29, u30, u31, u32, u33, u34, u35, u36, u37, u38, u39, (.slice (some ⟨W.heap.size, 0, none⟩) 7 7), u41, u42, u43, u44, u45, u46, u2, u3, u4, u5, u6], rfl, by kernel_rfl, _, _, _, _, _, _, _, _, _, _, _, _, _, _, _, _, _, _, _, _, _, _, _, _, _, rfl, ⟨kO.trans (Onb.of_bel (bel_al (bel_refl W) (.cells #[.int .i64 0, .int .i64 0, .int .i64 0, .int .i64 0, .int .i64 1, .int .i64 2, .int .i64 3] 3))), p, hp, rd.alloc _⟩, f0, f1, f2, f3, f4, f5, f6, f7, f8, f9, f10, f11, (fun h => ((f12 h)).onb (Onb.of_bel (bel_al (bel_refl W) (.cells #[.int .i64 0, .int .i64 0, .int .i64 0, .int .i64 0, .int .i64 1, .int .i64 2, .int .i64 3] 3))) hg3), (fun _ => ⟨_, rfl, kO.size, Blk.new W _ _⟩), f14, f15, (fun h => ((f16 h)).onb (Onb.of_bel (bel_al (bel_refl W) (.cells #[.int .i64 0, .int .i64 0, .int .i64 0, .int .i64 0, .int .i64 1, .int .i64 2, .int .i64 3] 3))) hg3), f17, (fun h => ((f18 h)).onb (Onb.of_bel (bel_al (bel_refl W) (.cells #[.int .i64 0, .int .i64 0, .int .i64 0, .int .i64 0, .int .i64 1, .int .i64 2, .int .i64 3] 3))) hg3), f19, f20, f21, f22, f23, f24⟩
      · simp only [List.getElem?_cons_zero, List.getElem?_cons_succ, Option.some.injEq] at ho
        subst ho
        clear hi'
        clear hdep
        have hI := hJ
        refine wpOp_step rfl (fun K hK => ?_)
        simp only [List.zip_cons_cons, List.zip_nil_right, puts]
        have Hf0 := Lib.hid f0
        have Hf1 := Lib.hid f1
        have Hf2 := Lib.hid f2
        have Hf3 := Lib.hid f3
        have Hf4 := Lib.hid f4
        have Hf5 := Lib.hid f5
        have Hf6 := Lib.hid f6
        have Hf7 := Lib.hid f7
        have Hf8 := Lib.hid f8
        have Hf9 := Lib.hid f9
        have Hf10 := Lib.hid f10
        have Hf11 := Lib.hid f11
        have Hf12 := Lib.hid f12
        have Hf13 := Lib.hid f13
        have Hf14 := Lib.hid f14
        have Hf15 := Lib.hid f15
        have Hf16 := Lib.hid f16
        have Hf17 := Lib.hid f17
        have Hf18 := Lib.hid f18
        have Hf19 := Lib.hid f19
        have Hf20 := Lib.hid f20
        have Hf21 := Lib.hid f21
        have Hf22 := Lib.hid f22
        have Hf23 := Lib.hid f23
        have Hf24 := Lib.hid f24
        have HhK := Lib.hid hK
        have Hhd := Lib.hid hd
        have HhJ := Lib.hid hJ
        clear hd hK hJ f0 f1 f2 f3 f4 f5 f6 f7 f8 f9 f10 f11 f12 f13 f14 f15 f16 f17 f18 f19 f20 f21 f22 f23 f24
        go_simp
        have f0 := Hf0.out
        have f1 := Hf1.out
        have f2 := Hf2.out
        have f3 := Hf3.out
        have f4 := Hf4.out
        have f5 := Hf5.out
        have f6 := Hf6.out
        have f7 := Hf7.out
        have f8 := Hf8.out
        have f9 := Hf9.out
        have f10 := Hf10.out
        have f11 := Hf11.out
        have f12 := Hf12.out
        have f13 := Hf13.out
        have f14 := Hf14.out
        have f15 := Hf15.out
        have f16 := Hf16.out
        have f17 := Hf17.out
        have f18 := Hf18.out
        have f19 := Hf19.out
        have f20 := Hf20.out
        have f21 := Hf21.out
        have f22 := Hf22.out
        have f23 := Hf23.out
        have f24 := Hf24.out
        have hK := HhK.out
        have hd := Hhd.out
        have hJ := HhJ.out
        exact hK _ _ ⟨[u27, u28, u29, u30, u31, u32, u33, u34, u35, u36, u37, u38, u39, u40, (.pointer (some ⟨w.heap.size, 0, none⟩)), u42, u43, u44, u45, u46, u2, u3, u4, u5, u6], rfl, by kernel_rfl, _, _, _, _, _, _, _, _, _, _, _, _, _, _, _, _, _, _, _, _, _, _, _, _, _, rfl, hI, f0, f1, f2, f3, f4, f5, f6, f7, f8, f9, f10, f11, f12, f13, (fun _ => rfl), f15, f16, f17, f18, f19, f20, f21, f22, f23, f24⟩
      · simp only [List.getElem?_cons_zero, List.getElem?_cons_succ, Option.some.injEq] at ho
        subst ho
        clear hi'
        have d14 : D 14 = true := hdep ⟨14, Ground.data⟩ (by simp) rfl
        clear hdep
        have hI := hJ
        obtain rfl := f14 d14
        obtain ⟨kO, p, hp, rd⟩ := hI
        have a2 := Bool.toNat_le (D 8)
        have a8 := Bool.toNat_le (D 15)
        refine wpOp_step rfl (fun K hK => ?_)
        simp only [List.zip_cons_cons, List.zip_nil_right, puts]
        have Hf0 := Lib.hid f0
        have Hf1 := Lib.hid f1
        have Hf2 := Lib.hid f2
        have Hf3 := Lib.hid f3
        have Hf4 := Lib.hid f4
        have Hf5 := Lib.hid f5
        have Hf6 := Lib.hid f6
        have Hf7 := Lib.hid f7
        have Hf8 := Lib.hid f8
        have Hf9 := Lib.hid f9
        have Hf10 := Lib.hid f10
        have Hf11 := Lib.hid f11
        have Hf12 := Lib.hid f12
        have Hf13 := Lib.hid f13
        have Hf14 := Lib.hid f14
        have Hf15 := Lib.hid f15
        have Hf16 := Lib.hid f16
        have Hf17 := Lib.hid f17
        have Hf18 := Lib.hid f18
        have Hf19 := Lib.hid f19
        have Hf20 := Lib.hid f20
        have Hf21 := Lib.hid f21
        have Hf22 := Lib.hid f22
        have Hf23 := Lib.hid f23
        have Hf24 := Lib.hid f24
        have HhK := Lib.hid hK
        have Hhd := Lib.hid hd
        have HhJ := Lib.hid hJ
        clear hd hK hJ f0 f1 f2 f3 f4 f5 f6 f7 f8 f9 f10 f11 f12 f13 f14 f15 f16 f17 f18 f19 f20 f21 f22 f23 f24
        go_simp
        go_wp2_with (go_at_call 65; refine (pick_fr _ _ _ _ _ _ _ _ rd (by omega)).mono ?_; rintro e w9 ⟨x, rfl, ⟨x0, x1, _⟩, o9, r9⟩)
        have x1 := x1 (by omega)
        have f0 := Hf0.out
        have f1 := Hf1.out
        have f2 := Hf2.out
        have f3 := Hf3.out
        have f4 := Hf4.out
        have f5 := Hf5.out
        have f6 := Hf6.out
        have f7 := Hf7.out
        have f8 := Hf8.out
        have f9 := Hf9.out
        have f10 := Hf10.out
        have f11 := Hf11.out
        have f12 := Hf12.out
        have f13 := Hf13.out
        have f14 := Hf14.out
        have f15 := Hf15.out
        have f16 := Hf16.out
        have f17 := Hf17.out
        have f18 := Hf18.out
        have f19 := Hf19.out
        have f20 := Hf20.out
        have f21 := Hf21.out
        have f22 := Hf22.out
        have f23 := Hf23.out
        have f24 := Hf24.out
        have hK := HhK.out
        have hd := Hhd.out
        have hJ := HhJ.out
        exact hK _ _ ⟨[u27, u28, u29, u30, u31, u32, u33, u34, u35, u36, u37, u38, u39, u40, (.pointer (some ⟨w.heap.size, 0, none⟩)), (.int .i64 x), u43, u44, u45, u46, u2, u3, u4, u5, u6], rfl, by kernel_rfl, _, _, _, _, _, _, _, _, _, _, _, _, _, _, _, _, _, _, _, _, _, _, _, _, _, rfl, ⟨kO.trans (Onb.of_onl o9), p + 1, (by have e := hp; rw [hd] at e; show p + 1 ≤ p2 + 2 * ((D 8).toNat + true.toNat); simp only [Bool.toNat_true, Bool.toNat_false] at e ⊢; omega), r9⟩, f0, f1, f2, f3, f4, f5, f6, f7, f8, f9, f10, f11, (fun h => ((f12 h)).onb (Onb.of_onl o9) hg3), (fun h => ((f13 h)).onb (Onb.of_onl o9) hg3), (fun _ => rfl), (fun _ => ⟨x, rfl, x0, by omega⟩), (fun h => ((f16 h)).onb (Onb.of_onl o9) hg3), f17, (fun h => ((f18 h)).onb (Onb.of_onl o9) hg3), f19, f20, f21, f22, f23, f24⟩
      · simp only [List.getElem?_cons_zero, List.getElem?_cons_succ, Option.some.injEq] at ho
        subst ho
        clear hi'
        have d13 : D 13 = true := hdep ⟨13, Ground.data⟩ (by simp) rfl
        have d15 : D 15 = true := hdep ⟨15, Ground.data⟩ (by simp) rfl
        clear hdep
        have hI := hJ
        obtain ⟨b, rfl, hl, hb⟩ := f13 d13
        obtain ⟨x, rfl, x0, x1⟩ := f15 d15
        refine wpOp_step rfl (fun K hK => ?_)
        simp only [List.zip_cons_cons, List.zip_nil_right, puts]
        have Hf0 := Lib.hid f0
        have Hf1 := Lib.hid f1
        have Hf2 := Lib.hid f2
        have Hf3 := Lib.hid f3
        have Hf4 := Lib.hid f4
        have Hf5 := Lib.hid f5
        have Hf6 := Lib.hid f6
        have Hf7 := Lib.hid f7
        have Hf8 := Lib.hid f8
        have Hf9 := Lib.hid f9
        have Hf10 := Lib.hid f10
        have Hf11 := Lib.hid f11
        have Hf12 := Lib.hid f12
        have Hf13 := Lib.hid f13
        have Hf14 := Lib.hid f14
        have Hf15 := Lib.hid f15
        have Hf16 := Lib.hid f16
        have Hf17 := Lib.hid f17
        have Hf18 := Lib.hid f18
        have Hf19 := Lib.hid f19
        have Hf20 := Lib.hid f20
        have Hf21 := Lib.hid f21
        have Hf22 := Lib.hid f22
        have Hf23 := Lib.hid f23
        have Hf24 := Lib.hid f24
        have HhK := Lib.hid hK
        have Hhd := Lib.hid hd
        have HhJ := Lib.hid hJ
        clear hd hK hJ f0 f1 f2 f3 f4 f5 f6 f7 f8 f9 f10 f11 f12 f13 f14 f15 f16 f17 f18 f19 f20 f21 f22 f23 f24
        go_simp
        have f0 := Hf0.out
        have f1 := Hf1.out
        have f2 := Hf2.out
        have f3 := Hf3.out
        have f4 := Hf4.out
        have f5 := Hf5.out
        have f6 := Hf6.out
        have f7 := Hf7.out
        have f8 := Hf8.out
        have f9 := Hf9.out
        have f10 := Hf10.out
        have f11 := Hf11.out
        have f12 := Hf12.out
        have f13 := Hf13.out
        have f14 := Hf14.out
        have f15 := Hf15.out
        have f16 := Hf16.out
        have f17 := Hf17.out
        have f18 := Hf18.out
        have f19 := Hf19.out
        have f20 := Hf20.out
        have f21 := Hf21.out
        have f22 := Hf22.out
        have f23 := Hf23.out
        have f24 := Hf24.out
        have hK := HhK.out
        have hd := Hhd.out
        have hJ := HhJ.out
        exact hK _ _ ⟨[u27, u28, u29, u30, u31, u32, u33, u34, u35, u36, u37, u38, u39, (.slice (some ⟨b, 0, none⟩) 7 7), u41, (.int .i64 x), (.pointer (some ⟨b, x.toNat, none⟩)), u44, u45, u46, u2, u3, u4, u5, u6], rfl, by kernel_rfl, _, _, _, _, _, _, _, _, _, _, _, _, _, _, _, _, _, _, _, _, _, _, _, _, _, rfl, hI, f0, f1, f2, f3, f4, f5, f6, f7, f8, f9, f10, f11, f12, f13, f14, f15, (fun _ => ⟨_, x.toNat, rfl, by omega, hl, hb⟩), f17, f18, f19, f20, f21, f22, f23, f24⟩
      · simp only [List.getElem?_cons_zero, List.getElem?_cons_succ, Option.some.injEq] at ho
        subst ho
        clear hi'
        have d16 : D 16 = true := hdep ⟨16, Ground.data⟩ (by simp) rfl
        clear hdep
        have hI := hJ
        obtain ⟨b, t, rfl, t1, hl, hb⟩ := f16 d16
        obtain ⟨x, hx, x0, x1⟩ := blk7_at hb t1
        refine wpOp_step rfl (fun K hK => ?_)
        simp only [List.zip_cons_cons, List.zip_nil_right, puts]
        have Hf0 := Lib.hid f0
        have Hf1 := Lib.hid f1
        have Hf2 := Lib.hid f2
        have Hf3 := Lib.hid f3
        have Hf4 := Lib.hid f4
        have Hf5 := Lib.hid f5
        have Hf6 := Lib.hid f6
        have Hf7 := Lib.hid f7
        have Hf8 := Lib.hid f8
        have Hf9 := Lib.hid f9
        have Hf10 := Lib.hid f10
        have Hf11 := Lib.hid f11
        have Hf12 := Lib.hid f12
        have Hf13 := Lib.hid f13
        have Hf14 := Lib.hid f14
        have Hf15 := Lib.hid f15
        have Hf16 := Lib.hid f16
        have Hf17 := Lib.hid f17
        have Hf18 := Lib.hid f18
        have Hf19 := Lib.hid f19
        have Hf20 := Lib.hid f20
        have Hf21 := Lib.hid f21
        have Hf22 := Lib.hid f22
        have Hf23 := Lib.hid f23
        have Hf24 := Lib.hid f24
        have HhK := Lib.hid hK
        have Hhd := Lib.hid hd
        have HhJ := Lib.hid hJ
        clear hd hK hJ f0 f1 f2 f3 f4 f5 f6 f7 f8 f9 f10 f11 f12 f13 f14 f15 f16 f17 f18 f19 f20 f21 f22 f23 f24
        go_simp
        have f0 := Hf0.out
        have f1 := Hf1.out
        have f2 := Hf2.out
        have f3 := Hf3.out
        have f4 := Hf4.out
        have f5 := Hf5.out
        have f6 := Hf6.out
        have f7 := Hf7.out
        have f8 := Hf8.out
        have f9 := Hf9.out
        have f10 := Hf10.out
        have f11 := Hf11.out
        have f12 := Hf12.out
        have f13 := Hf13.out
        have f14 := Hf14.out
        have f15 := Hf15.out
        have f16 := Hf16.out
        have f17 := Hf17.out
        have f18 := Hf18.out
        have f19 := Hf19.out
        have f20 := Hf20.out
        have f21 := Hf21.out
        have f22 := Hf22.out
        have f23 := Hf23.out
        have f24 := Hf24.out
        have hK := HhK.out
        have hd := Hhd.out
        have hJ := HhJ.out
        exact hK _ _ ⟨[u27, u28, u29, u30, u31, u32, u33, u34, u35, u36, u37, u38, u39, u40, u41, u42, (.pointer (some ⟨b, t, none⟩)), (.int .i64 x), u45, u46, u2, u3, u4, u5, u6], rfl, by kernel_rfl, _, _, _, _, _, _, _, _, _, _, _, _, _, _, _, _, _, _, _, _, _, _, _, _, _, rfl, hI, f0, f1, f2, f3, f4, f5, f6, f7, f8, f9, f10, f11, f12, f13, f14, f15, f16, (fun _ => ⟨_, rfl, x0, x1⟩), f18, f19, f20, f21, f22, f23, f24⟩
      · simp only [List.getElem?_cons_zero, List.getElem?_cons_succ, Option.some.injEq] at ho
        subst ho
        clear hi'
        have d12 : D 12 = true := hdep ⟨12, Ground.data⟩ (by simp) rfl
        have d17 : D 17 = true := hdep ⟨17, Ground.data⟩ (by simp) rfl
        clear hdep
        have hI := hJ
        obtain ⟨b, y, rfl, hy, hl, hb⟩ := f12 d12
        obtain ⟨t, rfl, t0, t1⟩ := f17 d17
        refine wpOp_step rfl (fun K hK => ?_)
        simp only [List.zip_cons_cons, List.zip_nil_right, puts]
        have Hf0 := Lib.hid f0
        have Hf1 := Lib.hid f1
        have Hf2 := Lib.hid f2
        have Hf3 := Lib.hid f3
        have Hf4 := Lib.hid f4
        have Hf5 := Lib.hid f5
        have Hf6 := Lib.hid f6
        have Hf7 := Lib.hid f7
        have Hf8 := Lib.hid f8
        have Hf9 := Lib.hid f9
        have Hf10 := Lib.hid f10
        have Hf11 := Lib.hid f11
        have Hf12 := Lib.hid f12
        have Hf13 := Lib.hid f13
        have Hf14 := Lib.hid f14
        have Hf15 := Lib.hid f15
        have Hf16 := Lib.hid f16
        have Hf17 := Lib.hid f17
        have Hf18 := Lib.hid f18
        have Hf19 := Lib.hid f19
        have Hf20 := Lib.hid f20
        have Hf21 := Lib.hid f21
        have Hf22 := Lib.hid f22
        have Hf23 := Lib.hid f23
        have Hf24 := Lib.hid f24
        have HhK := Lib.hid hK
        have Hhd := Lib.hid hd
        have HhJ := Lib.hid hJ
        clear hd hK hJ f0 f1 f2 f3 f4 f5 f6 f7 f8 f9 f10 f11 f12 f13 f14 f15 f16 f17 f18 f19 f20 f21 f22 f23 f24
        go_simp
        have f0 := Hf0.out
        have f1 := Hf1.out
        have f2 := Hf2.out
        have f3 := Hf3.out
        have f4 := Hf4.out
        have f5 := Hf5.out
        have f6 := Hf6.out
        have f7 := Hf7.out
        have f8 := Hf8.out
        have f9 := Hf9.out
        have f10 := Hf10.out
        have f11 := Hf11.out
        have f12 := Hf12.out
        have f13 := Hf13.out
        have f14 := Hf14.out
        have f15 := Hf15.out
        have f16 := Hf16.out
        have f17 := Hf17.out
        have f18 := Hf18.out
        have f19 := Hf19.out
        have f20 := Hf20.out
        have f21 := Hf21.out
        have f22 := Hf22.out
        have f23 := Hf23.out
        have f24 := Hf24.out
        have hK := HhK.out
        have hd := Hhd.out
        have hJ := HhJ.out
        exact hK _ _ ⟨[u27, u28, u29, u30, u31, u32, u33, u34, u35, u36, u37, u38, (.slice (some ⟨b, 0, none⟩) 4 4), u40, u41, u42, u43, (.int .i64 t), (.pointer (some ⟨b, t.toNat, none⟩)), u46, u2, u3, u4, u5, u6], rfl, by kernel_rfl, _, _, _, _, _, _, _, _, _, _, _, _, _, _, _, _, _, _, _, _, _, _, _, _, _, rfl, hI, f0, f1, f2, f3, f4, f5, f6, f7, f8, f9, f10, f11, f12, f13, f14, f15, f16, f17, (fun _ => ⟨_, t.toNat, y, rfl, by omega, hy, hl, hb⟩), f19, f20, f21, f22, f23, f24⟩
      · simp only [List.getElem?_cons_zero, List.getElem?_cons_succ, Option.some.injEq] at ho
        subst ho
        clear hi'
        have d18 : D 18 = true := hdep ⟨18, Ground.data⟩ (by simp) rfl
        clear hdep
        have hI := hJ
        obtain ⟨b, t, y, rfl, t1, hy, hl, hb⟩ := f18 d18
        obtain ⟨x, hx, x0⟩ := blk4_at hb t1 hy
        refine wpOp_step rfl (fun K hK => ?_)
        simp only [List.zip_cons_cons, List.zip_nil_right, puts]
        have Hf0 := Lib.hid f0
        have Hf1 := Lib.hid f1
        have Hf2 := Lib.hid f2
        have Hf3 := Lib.hid f3
        have Hf4 := Lib.hid f4
        have Hf5 := Lib.hid f5
        have Hf6 := Lib.hid f6
        have Hf7 := Lib.hid f7
        have Hf8 := Lib.hid f8
        have Hf9 := Lib.hid f9
        have Hf10 := Lib.hid f10
        have Hf11 := Lib.hid f11
        have Hf12 := Lib.hid f12
        have Hf13 := Lib.hid f13
        have Hf14 := Lib.hid f14
        have Hf15 := Lib.hid f15
        have Hf16 := Lib.hid f16
        have Hf17 := Lib.hid f17
        have Hf18 := Lib.hid f18
        have Hf19 := Lib.hid f19
        have Hf20 := Lib.hid f20
        have Hf21 := Lib.hid f21
        have Hf22 := Lib.hid f22
        have Hf23 := Lib.hid f23
        have Hf24 := Lib.hid f24
        have HhK := Lib.hid hK
        have Hhd := Lib.hid hd
        have HhJ := Lib.hid hJ
        clear hd hK hJ f0 f1 f2 f3 f4 f5 f6 f7 f8 f9 f10 f11 f12 f13 f14 f15 f16 f17 f18 f19 f20 f21 f22 f23 f24
        go_simp
        have f0 := Hf0.out
        have f1 := Hf1.out
        have f2 := Hf2.out
        have f3 := Hf3.out
        have f4 := Hf4.out
        have f5 := Hf5.out
        have f6 := Hf6.out
        have f7 := Hf7.out
        have f8 := Hf8.out
        have f9 := Hf9.out
        have f10 := Hf10.out
        have f11 := Hf11.out
        have f12 := Hf12.out
        have f13 := Hf13.out
        have f14 := Hf14.out
        have f15 := Hf15.out
        have f16 := Hf16.out
        have f17 := Hf17.out
        have f18 := Hf18.out
        have f19 := Hf19.out
        have f20 := Hf20.out
        have f21 := Hf21.out
        have f22 := Hf22.out
        have f23 := Hf23.out
        have f24 := Hf24.out
        have hK := HhK.out
        have hd := Hhd.out
        have hJ := HhJ.out
        exact hK _ _ ⟨[u27, u28, u29, u30, u31, u32, u33, u34, u35, u36, u37, u38, u39, u40, u41, u42, u43, u44, (.pointer (some ⟨b, t, none⟩)), (.int .i64 x), u2, u3, u4, u5, u6], rfl, by kernel_rfl, _, _, _, _, _, _, _, _, _, _, _, _, _, _, _, _, _, _, _, _, _, _, _, _, _, rfl, hI, f0, f1, f2, f3, f4, f5, f6, f7, f8, f9, f10, f11, f12, f13, f14, f15, f16, f17, f18, (fun _ => ⟨_, rfl, x0⟩), f20, f21, f22, f23, f24⟩
      · simp only [List.getElem?_cons_zero, List.getElem?_cons_succ, Option.some.injEq] at ho
        subst ho
        clear hi'
        have d0 : D 0 = true := hdep ⟨0, Ground.data⟩ (by simp) rfl
        clear hdep
        have hI := hJ
        obtain rfl := f0 d0
        refine wpOp_step rfl (fun K hK => ?_)
        simp only [List.zip_cons_cons, List.zip_nil_right, puts]
        have Hf0 := Lib.hid f0
        have Hf1 := Lib.hid f1
        have Hf2 := Lib.hid f2
        have Hf3 := Lib.hid f3
        have Hf4 := Lib.hid f4
        have Hf5 := Lib.hid f5
        have Hf6 := Lib.hid f6
        have Hf7 := Lib.hid f7
        have Hf8 := Lib.hid f8
        have Hf9 := Lib.hid f9
        have Hf10 := Lib.hid f10
        have Hf11 := Lib.hid f11
        have Hf12 := Lib.hid f12
        have Hf13 := Lib.hid f13
        have Hf14 := Lib.hid f14
        have Hf15 := Lib.hid f15
        have Hf16 := Lib.hid f16
        have Hf17 := Lib.hid f17
        have Hf18 := Lib.hid f18
        have Hf19 := Lib.hid f19
        have Hf20 := Lib.hid f20
        have Hf21 := Lib.hid f21
        have Hf22 := Lib.hid f22
        have Hf23 := Lib.hid f23
        have Hf24 := Lib.hid f24
        have HhK := Lib.hid hK
        have Hhd := Lib.hid hd
        have HhJ := Lib.hid hJ
        clear hd hK hJ f0 f1 f2 f3 f4 f5 f6 f7 f8 f9 f10 f11 f12 f13 f14 f15 f16 f17 f18 f19 f20 f21 f22 f23 f24
        go_simp
        have f0 := Hf0.out
        have f1 := Hf1.out
        have f2 := Hf2.out
        have f3 := Hf3.out
        have f4 := Hf4.out
        have f5 := Hf5.out
        have f6 := Hf6.out
        have f7 := Hf7.out
        have f8 := Hf8.out
        have f9 := Hf9.out
        have f10 := Hf10.out
        have f11 := Hf11.out
        have f12 := Hf12.out
        have f13 := Hf13.out
        have f14 := Hf14.out
        have f15 := Hf15.out
        have f16 := Hf16.out
        have f17 := Hf17.out
        have f18 := Hf18.out
        have f19 := Hf19.out
        have f20 := Hf20.out
        have f21 := Hf21.out
        have f22 := Hf22.out
        have f23 := Hf23.out
        have f24 := Hf24.out
        have hK := HhK.out
        have hd := Hhd.out
        have hJ := HhJ.out
        exact hK _ _ ⟨[(.int .i64 f), u28, u29, u30, u31, u32, u33, u34, u35, u36, u37, u38, u39, u40, u41, u42, u43, u44, u45, u46, (.int .i64 f), u3, u4, u5, u6], rfl, by kernel_rfl, _, _, _, _, _, _, _, _, _, _, _, _, _, _, _, _, _, _, _, _, _, _, _, _, _, rfl, hI, (fun _ => rfl), f1, f2, f3, f4, f5, f6, f7, f8, f9, f10, f11, f12, f13, f14, f15, f16, f17, f18, f19, (fun _ => rfl), f21, f22, f23, f24⟩
      · simp only [List.getElem?_cons_zero, List.getElem?_cons_succ, Option.some.injEq] at ho
        subst ho
        clear hi'
        have d1 : D 1 = true := hdep ⟨1, Ground.data⟩ (by simp) rfl
        clear hdep
        have hI := hJ
        obtain rfl := f1 d1
        refine wpOp_step rfl (fun K hK => ?_)
        simp only [List.zip_cons_cons, List.zip_nil_right, puts]
        have Hf0 := Lib.hid f0
        have Hf1 := Lib.hid f1
        have Hf2 := Lib.hid f2
        have Hf3 := Lib.hid f3
        have Hf4 := Lib.hid f4
        have Hf5 := Lib.hid f5
        have Hf6 := Lib.hid f6
        have Hf7 := Lib.hid f7
        have Hf8 := Lib.hid f8
        have Hf9 := Lib.hid f9
        have Hf10 := Lib.hid f10
        have Hf11 := Lib.hid f11
        have Hf12 := Lib.hid f12
        have Hf13 := Lib.hid f13
        have Hf14 := Lib.hid f14
        have Hf15 := Lib.hid f15
        have Hf16 := Lib.hid f16
        have Hf17 := Lib.hid f17
        have Hf18 := Lib.hid f18
        have Hf19 := Lib.hid f19
        have Hf20 := Lib.hid f20
        have Hf21 := Lib.hid f21
        have Hf22 := Lib.hid f22
        have Hf23 := Lib.hid f23
        have Hf24 := Lib.hid f24
        have HhK := Lib.hid hK
        have Hhd := Lib.hid hd
        have HhJ := Lib.hid hJ
        clear hd hK hJ f0 f1 f2 f3 f4 f5 f6 f7 f8 f9 f10 f11 f12 f13 f14 f15 f16 f17 f18 f19 f20 f21 f22 f23 f24
        go_simp
        have f0 := Hf0.out
        have f1 := Hf1.out
        have f2 := Hf2.out
        have f3 := Hf3.out
        have f4 := Hf4.out
        have f5 := Hf5.out
        have f6 := Hf6.out
        have f7 := Hf7.out
        have f8 := Hf8.out
        have f9 := Hf9.out
        have f10 := Hf10.out
        have f11 := Hf11.out
        have f12 := Hf12.out
        have f13 := Hf13.out
        have f14 := Hf14.out
        have f15 := Hf15.out
        have f16 := Hf16.out
        have f17 := Hf17.out
        have f18 := Hf18.out
        have f19 := Hf19.out
        have f20 := Hf20.out
        have f21 := Hf21.out
        have f22 := Hf22.out
        have f23 := Hf23.out
        have f24 := Hf24.out
        have hK := HhK.out
        have hd := Hhd.out
        have hJ := HhJ.out
        exact hK _ _ ⟨[u27, (.slice A2 l.length c2), u29, u30, u31, u32, u33, u34, u35, u36, u37, u38, u39, u40, u41, u42, u43, u44, u45, u46, u2, (.slice A2 l.length c2), u4, u5, u6], rfl, by kernel_rfl, _, _, _, _, _, _, _, _, _, _, _, _, _, _, _, _, _, _, _, _, _, _, _, _, _, rfl, hI, f0, (fun _ => rfl), f2, f3, f4, f5, f6, f7, f8, f9, f10, f11, f12, f13, f14, f15, f16, f17, f18, f19, f20, (fun _ => rfl), f22, f23, f24⟩
      · simp only [List.getElem?_cons_zero, List.getElem?_cons_succ, Option.some.injEq] at ho
        subst ho
        clear hi'
        have d2 : D 2 = true := hdep ⟨2, Ground.data⟩ (by simp) rfl
        clear hdep
        have hI := hJ
        obtain rfl := f2 d2
        refine wpOp_step rfl (fun K hK => ?_)
        simp only [List.zip_cons_cons, List.zip_nil_right, puts]
        have Hf0 := Lib.hid f0
        have Hf1 := Lib.hid f1
        have Hf2 := Lib.hid f2
        have Hf3 := Lib.hid f3
        have Hf4 := Lib.hid f4
        have Hf5 := Lib.hid f5
        have Hf6 := Lib.hid f6
        have Hf7 := Lib.hid f7
        have Hf8 := Lib.hid f8
        have Hf9 := Lib.hid f9
        have Hf10 := Lib.hid f10
        have Hf11 := Lib.hid f11
        have Hf12 := Lib.hid f12
        have Hf13 := Lib.hid f13
        have Hf14 := Lib.hid f14
        have Hf15 := Lib.hid f15
        have Hf16 := Lib.hid f16
        have Hf17 := Lib.hid f17
        have Hf18 := Lib.hid f18
        have Hf19 := Lib.hid f19
        have Hf20 := Lib.hid f20
        have Hf21 := Lib.hid f21
        have Hf22 := Lib.hid f22
        have Hf23 := Lib.hid f23
        have Hf24 := Lib.hid f24
        have HhK := Lib.hid hK
        have Hhd := Lib.hid hd
        have HhJ := Lib.hid hJ
        clear hd hK hJ f0 f1 f2 f3 f4 f5 f6 f7 f8 f9 f10 f11 f12 f13 f14 f15 f16 f17 f18 f19 f20 f21 f22 f23 f24
        go_simp
        have f0 := Hf0.out
        have f1 := Hf1.out
        have f2 := Hf2.out
        have f3 := Hf3.out
        have f4 := Hf4.out
        have f5 := Hf5.out
        have f6 := Hf6.out
        have f7 := Hf7.out
        have f8 := Hf8.out
        have f9 := Hf9.out
        have f10 := Hf10.out
        have f11 := Hf11.out
        have f12 := Hf12.out
        have f13 := Hf13.out
        have f14 := Hf14.out
        have f15 := Hf15.out
        have f16 := Hf16.out
        have f17 := Hf17.out
        have f18 := Hf18.out
        have f19 := Hf19.out
        have f20 := Hf20.out
        have f21 := Hf21.out
        have f22 := Hf22.out
        have f23 := Hf23.out
        have f24 := Hf24.out
        have hK := HhK.out
        have hd := Hhd.out
        have hJ := HhJ.out
        exact hK _ _ ⟨[u27, u28, (.int .i64 lo), u30, u31, u32, u33, u34, u35, u36, u37, u38, u39, u40, u41, u42, u43, u44, u45, u46, u2, u3, (.int .i64 lo), u5, u6], rfl, by kernel_rfl, _, _, _, _, _, _, _, _, _, _, _, _, _, _, _, _, _, _, _, _, _, _, _, _, _, rfl, hI, f0, f1, (fun _ => rfl), f3, f4, f5, f6, f7, f8, f9, f10, f11, f12, f13, f14, f15, f16, f17, f18, f19, f20, f21, (fun _ => rfl), f23, f24⟩
      · simp only [List.getElem?_cons_zero, List.getElem?_cons_succ, Option.some.injEq] at ho
        subst ho
        clear hi'
        have d3 : D 3 = true := hdep ⟨3, Ground.data⟩ (by simp) rfl
        clear hdep
        have hI := hJ
        obtain rfl := f3 d3
        refine wpOp_step rfl (fun K hK => ?_)
        simp only [List.zip_cons_cons, List.zip_nil_right, puts]
        have Hf0 := Lib.hid f0
        have Hf1 := Lib.hid f1
        have Hf2 := Lib.hid f2
        have Hf3 := Lib.hid f3
        have Hf4 := Lib.hid f4
        have Hf5 := Lib.hid f5
        have Hf6 := Lib.hid f6
        have Hf7 := Lib.hid f7
        have Hf8 := Lib.hid f8
        have Hf9 := Lib.hid f9
        have Hf10 := Lib.hid f10
        have Hf11 := Lib.hid f11
        have Hf12 := Lib.hid f12
        have Hf13 := Lib.hid f13
        have Hf14 := Lib.hid f14
        have Hf15 := Lib.hid f15
        have Hf16 := Lib.hid f16
        have Hf17 := Lib.hid f17
        have Hf18 := Lib.hid f18
        have Hf19 := Lib.hid f19
        have Hf20 := Lib.hid f20
        have Hf21 := Lib.hid f21
        have Hf22 := Lib.hid f22
        have Hf23 := Lib.hid f23
        have Hf24 := Lib.hid f24
        have HhK := Lib.hid hK
        have Hhd := Lib.hid hd
        have HhJ := Lib.hid hJ
        clear hd hK hJ f0 f1 f2 f3 f4 f5 f6 f7 f8 f9 f10 f11 f12 f13 f14 f15 f16 f17 f18 f19 f20 f21 f22 f23 f24
        go_simp
        have f0 := Hf0.out
        have f1 := Hf1.out
        have f2 := Hf2.out
        have f3 := Hf3.out
        have f4 := Hf4.out
        have f5 := Hf5.out
        have f6 := Hf6.out
        have f7 := Hf7.out
        have f8 := Hf8.out
        have f9 := Hf9.out
        have f10 := Hf10.out
        have f11 := Hf11.out
        have f12 := Hf12.out
        have f13 := Hf13.out
        have f14 := Hf14.out
        have f15 := Hf15.out
        have f16 := Hf16.out
        have f17 := Hf17.out
        have f18 := Hf18.out
        have f19 := Hf19.out
        have f20 := Hf20.out
        have f21 := Hf21.out
        have f22 := Hf22.out
        have f23 := Hf23.out
        have f24 := Hf24.out
        have hK := HhK.out
        have hd := Hhd.out
        have hJ := HhJ.out
        exact hK _ _ ⟨[u27, u28, u29, (.int .i64 hi), u31, u32, u33, u34, u35, u36, u37, u38, u39, u40, u41, u42, u43, u44, u45, u46, u2, u3, u4, (.int .i64 hi), u6], rfl, by kernel_rfl, _, _, _, _, _, _, _, _, _, _, _, _, _, _, _, _, _, _, _, _, _, _, _, _, _, rfl, hI, f0, f1, f2, (fun _ => rfl), f4, f5, f6, f7, f8, f9, f10, f11, f12, f13, f14, f15, f16, f17, f18, f19, f20, f21, f22, (fun _ => rfl), f24⟩
      · simp only [List.getElem?_cons_zero, List.getElem?_cons_succ, Option.some.injEq] at ho
        subst ho
        clear hi'
        have d19 : D 19 = true := hdep ⟨19, Ground.data⟩ (by simp) rfl
        clear hdep
        have hI := hJ
        obtain ⟨x, rfl, x0⟩ := f19 d19
        refine wpOp_step rfl (fun K hK => ?_)
        simp only [List.zip_cons_cons, List.zip_nil_right, puts]
        have Hf0 := Lib.hid f0
        have Hf1 := Lib.hid f1
        have Hf2 := Lib.hid f2
        have Hf3 := Lib.hid f3
        have Hf4 := Lib.hid f4
        have Hf5 := Lib.hid f5
        have Hf6 := Lib.hid f6
        have Hf7 := Lib.hid f7
        have Hf8 := Lib.hid f8
        have Hf9 := Lib.hid f9
        have Hf10 := Lib.hid f10
        have Hf11 := Lib.hid f11
        have Hf12 := Lib.hid f12
        have Hf13 := Lib.hid f13
        have Hf14 := Lib.hid f14
        have Hf15 := Lib.hid f15
        have Hf16 := Lib.hid f16
        have Hf17 := Lib.hid f17
        have Hf18 := Lib.hid f18
        have Hf19 := Lib.hid f19
        have Hf20 := Lib.hid f20
        have Hf21 := Lib.hid f21
        have Hf22 := Lib.hid f22
        have Hf23 := Lib.hid f23
        have Hf24 := Lib.hid f24
        have HhK := Lib.hid hK
        have Hhd := Lib.hid hd
        have HhJ := Lib.hid hJ
        clear hd hK hJ f0 f1 f2 f3 f4 f5 f6 f7 f8 f9 f10 f11 f12 f13 f14 f15 f16 f17 f18 f19 f20 f21 f22 f23 f24
        go_simp
        have f0 := Hf0.out
        have f1 := Hf1.out
        have f2 := Hf2.out
        have f3 := Hf3.out
        have f4 := Hf4.out
        have f5 := Hf5.out
        have f6 := Hf6.out
        have f7 := Hf7.out
        have f8 := Hf8.out
        have f9 := Hf9.out
        have f10 := Hf10.out
        have f11 := Hf11.out
        have f12 := Hf12.out
        have f13 := Hf13.out
        have f14 := Hf14.out
        have f15 := Hf15.out
        have f16 := Hf16.out
        have f17 := Hf17.out
        have f18 := Hf18.out
        have f19 := Hf19.out
        have f20 := Hf20.out
        have f21 := Hf21.out
        have f22 := Hf22.out
        have f23 := Hf23.out
        have f24 := Hf24.out
        have hK := HhK.out
        have hd := Hhd.out
        have hJ := HhJ.out
        exact hK _ _ ⟨[u27, u28, u29, u30, u31, u32, u33, u34, u35, u36, u37, u38, u39, u40, u41, u42, u43, u44, u45, (.int .i64 x), u2, u3, u4, u5, (.int .i64 x)], rfl, by kernel_rfl, _, _, _, _, _, _, _, _, _, _, _, _, _, _, _, _, _, _, _, _, _, _, _, _, _, rfl, hI, f0, f1, f2, f3, f4, f5, f6, f7, f8, f9, f10, f11, f12, f13, f14, f15, f16, f17, f18, f19, f20, f21, f22, f23, (fun _ => ⟨_, rfl, x0⟩)⟩
    · rintro D us W hu hall ⟨u27, u28, u29, u30, u31, u32, u33, u34, u35, u36, u37, u38, u39, u40, u41, u42, u43, u44, u45, u46, u2, u3, u4, u5, u6, rfl, hJ, f0, f1, f2, f3, f4, f5, f6, f7, f8, f9, f10, f11, f12, f13, f14, f15, f16, f17, f18, f19, f20, f21, f22, f23, f24⟩
      have d0 : D 0 = true := hall 0 (by simp)
      have d1 : D 1 = true := hall 1 (by simp)
      have d2 : D 2 = true := hall 2 (by simp)
      have d3 : D 3 = true := hall 3 (by simp)
      have d4 : D 4 = true := hall 4 (by simp)
      have d5 : D 5 = true := hall 5 (by simp)
      have d6 : D 6 = true := hall 6 (by simp)
      have d7 : D 7 = true := hall 7 (by simp)
      have d8 : D 8 = true := hall 8 (by simp)
      have d9 : D 9 = true := hall 9 (by simp)
      have d10 : D 10 = true := hall 10 (by simp)
      have d11 : D 11 = true := hall 11 (by simp)
      have d12 : D 12 = true := hall 12 (by simp)
      have d13 : D 13 = true := hall 13 (by simp)
      have d14 : D 14 = true := hall 14 (by simp)
      have d15 : D 15 = true := hall 15 (by simp)
      have d16 : D 16 = true := hall 16 (by simp)
      have d17 : D 17 = true := hall 17 (by simp)
      have d18 : D 18 = true := hall 18 (by simp)
      have d19 : D 19 = true := hall 19 (by simp)
      have d20 : D 20 = true := hall 20 (by simp)
      have d21 : D 21 = true := hall 21 (by simp)
      have d22 : D 22 = true := hall 22 (by simp)
      have d23 : D 23 = true := hall 23 (by simp)
      have d24 : D 24 = true := hall 24 (by simp)
      have hI := hJ
      clear hJ
      have v20 := f20 d20
      have v21 := f21 d21
      have v22 := f22 d22
      have v23 := f23 d23
      obtain ⟨num, v24, hnum⟩ := f24 d24
      obtain ⟨kz, p9, hp9, rd9⟩ := hI
      clear f0 f1 f2 f3 f4 f5 f6 f7 f8 f9 f10 f11 f12 f13 f14 f15 f16 f17 f18 f19 f20 f21 f22 f23 f24 d0 d1 d2 d3 d4 d5 d6 d7 d8 d9 d10 d11 d12 d13 d14 d15 d16 d17 d18 d19 d20 d21 d22 d23 d24 hall hu rd9 hp9
      subst v20 v21 v22 v23 v24
      simp only [List.zip_cons_cons, List.zip_nil_right, puts]
      have hrz := own_rowT9 (own_onb OWN3.out kz hg)
      have hbz : Below w.heap.size w W := (k3.trans kz).below (by omega) (by omega)
      go_wp2
      exact bodyPost_ret (v := .tuple #[.int .i64 f, .slice A2 l.length c2, .int .i64 lo, .int .i64 hi, .int .i64 num]) (by simp [results, Try.results38, go_sem]) rfl ⟨f, A2, c2, l, lo, hi, num, rfl, lc, cm, l6, hlo, hhi, by omega, hrz, hbz⟩
  · refine region_slots (by kernel_rfl) (by kernel_rfl) [27, 28, 29, 30, 31, 32, 33, 34, 35, 36, 37, 38, 39, 40, 41, 42, 43, 44, 45, 46, 2, 3, 4, 5, 6] (fun D us W => ∃ u27 u28 u29 u30 u31 u32 u33 u34 u35 u36 u37 u38 u39 u40 u41 u42 u43 u44 u45 u46 u2 u3 u4 u5 u6 : Value, us = [u27, u28, u29, u30, u31, u32, u33, u34, u35, u36, u37, u38, u39, u40, u41, u42, u43, u44, u45, u46, u2, u3, u4, u5, u6] ∧ (Onb w.heap.size w3 W ∧ ∃ p : Nat, p ≤ p2 + 2 * ((D 8).toNat + (D 15).toNat) ∧ Rd W w.heap.size w.heap.size A len' cap p) ∧ (D 0 = true → u27 = .int .i64 f) ∧ (D 1 = true → u28 = .slice A2 l.length c2) ∧ (D 2 = true → u29 = .int .i64 lo) ∧ (D 3 = true → u30 = .int .i64 hi) ∧ (D 4 = true → u31 = .pointer (some ⟨w.heap.size, 0, none⟩)) ∧ (D 5 = true → u32 = .int .i64 v) ∧ (D 6 = true → u33 = .int .i64 v) ∧ (D 7 = true → u34 = .int .i64 v) ∧ (D 8 = true → FInt 0 256 u35) ∧ (D 9 = true → u36 = .int .i64 v) ∧ (D 10 = true → u37 = .int .i64 (v - 1)) ∧ (D 11 = true → u38 = .int .i64 v) ∧ (D 12 = true → FL4 v w3.heap.size W u39) ∧ (D 13 = true → FL7 w3.heap.size W u40) ∧ (D 14 = true → u41 = .pointer (some ⟨w.heap.size, 0, none⟩)) ∧ (D 15 = true → FInt 0 7 u42) ∧ (D 16 = true → FP7 w3.heap.size W u43) ∧ (D 17 = true → FInt 0 4 u44) ∧ (D 18 = true → FP4 v w3.heap.size W u45) ∧ (D 19 = true → FAny v u46) ∧ (D 20 = true → u2 = .int .i64 f) ∧ (D 21 = true → u3 = .slice A2 l.length c2) ∧ (D 22 = true → u4 = .int .i64 lo) ∧ (D 23 = true → u5 = .int .i64 hi) ∧ (D 24 = true → FAny v u6)) ?_ ?_ ?_
    · intro us hu
      obtain ⟨u27, u28, u29, u30, u31, u32, u33, u34, u35, u36, u37, u38, u39, u40, u41, u42, u43, u44, u45, u46, u2, u3, u4, u5, u6, rfl⟩ : ∃ u27 u28 u29 u30 u31 u32 u33 u34 u35 u36 u37 u38 u39 u40 u41 u42 u43 u44 u45 u46 u2 u3 u4 u5 u6, us = [u27, u28, u29, u30, u31, u32, u33, u34, u35, u36, u37, u38, u39, u40, u41, u42, u43, u44, u45, u46, u2, u3, u4, u5, u6] := by
        match us, hu with
        | [u27, u28, u29, u30, u31, u32, u33, u34, u35, u36, u37, u38, u39, u40, u41, u42, u43, u44, u45, u46, u2, u3, u4, u5, u6], _ => exact ⟨_, _, _, _, _, _, _, _, _, _, _, _, _, _, _, _, _, _, _, _, _, _, _, _, _, rfl⟩
      exact ⟨_, _, _, _, _, _, _, _, _, _, _, _, _, _, _, _, _, _, _, _, _, _, _, _, _, rfl, ⟨(Onb.refl w.heap.size w3).drew, p2, by omega, r3.drew⟩, fun h => absurd h (by simp), fun h => absurd h (by simp), fun h => absurd h (by simp), fun h => absurd h (by simp), fun h => absurd h (by simp), fun h => absurd h (by simp), fun h => absurd h (by simp), fun h => absurd h (by simp), fun h => absurd h (by simp), fun h => absurd h (by simp), fun h => absurd h (by simp), fun h => absurd h (by simp), fun h => absurd h (by simp), fun h => absurd h (by simp), fun h => absurd h (by simp), fun h => absurd h (by simp), fun h => absurd h (by simp), fun h => absurd h (by simp), fun h => absurd h (by simp), fun h => absurd h (by simp), fun h => absurd h (by simp), fun h => absurd h (by simp), fun h => absurd h (by simp), fun h => absurd h (by simp), fun h => absurd h (by simp)⟩
    · rintro i o hi ho D us W hu hd hdep ⟨u27, u28, u29, u30, u31, u32, u33, u34, u35, u36, u37, u38, u39, u40, u41, u42, u43, u44, u45, u46, u2, u3, u4, u5, u6, rfl, hJ, f0, f1, f2, f3, f4, f5, f6, f7, f8, f9, f10, f11, f12, f13, f14, f15, f16, f17, f18, f19, f20, f21, f22, f23, f24⟩
      have hi' : i < 25 := by simpa using hi
      clear hi hu
      rcases (show i = 0 ∨ i = 1 ∨ i = 2 ∨ i = 3 ∨ i = 4 ∨ i = 5 ∨ i = 6 ∨ i = 7 ∨ i = 8 ∨ i = 9 ∨ i = 10 ∨ i = 11 ∨ i = 12 ∨ i = 13 ∨ i = 14 ∨ i = 15 ∨ i = 16 ∨ i = 17 ∨ i = 18 ∨ i = 19 ∨ i = 20 ∨ i = 21 ∨ i = 22 ∨ i = 23 ∨ i = 24 from by omega) with rfl | rfl | rfl | rfl | rfl | rfl | rfl | rfl | rfl | rfl | rfl | rfl | rfl | rfl | rfl | rfl | rfl | rfl | rfl | rfl | rfl | rfl | rfl | rfl | rfl
      · simp only [List.getElem?_cons_zero, List.getElem?_cons_succ, Option.some.injEq] at ho
        subst ho
        clear hi'
        clear hdep
        have hI := hJ
        refine wpOp_step rfl (fun K hK => ?_)
        simp only [List.zip_cons_cons, List.zip_nil_right, puts]
        have Hf0 := Lib.hid f0
        have Hf1 := Lib.hid f1
        have Hf2 := Lib.hid f2
        have Hf3 := Lib.hid f3
        have Hf4 := Lib.hid f4
        have Hf5 := Lib.hid f5
        have Hf6 := Lib.hid f6
        have Hf7 := Lib.hid f7
        have Hf8 := Lib.hid f8
        have Hf9 := Lib.hid f9
        have Hf10 := Lib.hid f10
        have Hf11 := Lib.hid f11
        have Hf12 := Lib.hid f12
        have Hf13 := Lib.hid f13
        have Hf14 := Lib.hid f14
        have Hf15 := Lib.hid f15
        have Hf16 := Lib.hid f16
        have Hf17 := Lib.hid f17
        have Hf18 := Lib.hid f18
        have Hf19 := Lib.hid f19
        have Hf20 := Lib.hid f20
        have Hf21 := Lib.hid f21
        have Hf22 := Lib.hid f22
        have Hf23 := Lib.hid f23
        have Hf24 := Lib.hid f24
        have HhK := Lib.hid hK
        have Hhd := Lib.hid hd
        have HhJ := Lib.hid hJ
        clear hd hK hJ f0 f1 f2 f3 f4 f5 f6 f7 f8 f9 f10 f11 f12 f13 f14 f15 f16 f17 f18 f19 f20 f21 f22 f23 f24
        go_simp
        have f0 := Hf0.out
        have f1 := Hf1.out
        have f2 := Hf2.out
        have f3 := Hf3.out
        have f4 := Hf4.out
        have f5 := Hf5.out
        have f6 := Hf6.out
        have f7 := Hf7.out
        have f8 := Hf8.out
        have f9 := Hf9.out
        have f10 := Hf10.out
        have f11 := Hf11.out
        have f12 := Hf12.out
        have f13 := Hf13.out
        have f14 := Hf14.out
        have f15 := Hf15.out
        have f16 := Hf16.out
        have f17 := Hf17.out
        have f18 := Hf18.out
        have f19 := Hf19.out
        have f20 := Hf20.out
        have f21 := Hf21.out
        have f22 := Hf22.out
        have f23 := Hf23.out
        have f24 := Hf24.out
        have hK := HhK.out
        have hd := Hhd.out
        have hJ := HhJ.out
        exact hK _ _ ⟨[(.int .i64 f), u28, u29, u30, u31, u32, u33, u34, u35, u36, u37, u38, u39, u40, u41, u42, u43, u44, u45, u46, u2, u3, u4, u5, u6], rfl, by kernel_rfl, _, _, _, _, _, _, _, _, _, _, _, _, _, _, _, _, _, _, _, _, _, _, _, _, _, rfl, hI, (fun _ => rfl), f1, f2, f3, f4, f5, f6, f7, f8, f9, f10, f11, f12, f13, f14, f15, f16, f17, f18, f19, f20, f21, f22, f23, f24⟩
      · simp only [List.getElem?_cons_zero, List.getElem?_cons_succ, Option.some.injEq] at ho
        subst ho
        clear hi'
        clear hdep
        have hI := hJ
        refine wpOp_step rfl (fun K hK => ?_)
        simp only [List.zip_cons_cons, List.zip_nil_right, puts]
        have Hf0 := Lib.hid f0
        have Hf1 := Lib.hid f1
        have Hf2 := Lib.hid f2
        have Hf3 := Lib.hid f3
        have Hf4 := Lib.hid f4
        have Hf5 := Lib.hid f5
        have Hf6 := Lib.hid f6
        have Hf7 := Lib.hid f7
        have Hf8 := Lib.hid f8
        have Hf9 := Lib.hid f9
        have Hf10 := Lib.hid f10
        have Hf11 := Lib.hid f11
        have Hf12 := Lib.hid f12
        have Hf13 := Lib.hid f13
        have Hf14 := Lib.hid f14
        have Hf15 := Lib.hid f15
        have Hf16 := Lib.hid f16
        have Hf17 := Lib.hid f17
        have Hf18 := Lib.hid f18
        have Hf19 := Lib.hid f19
        have Hf20 := Lib.hid f20
        have Hf21 := Lib.hid f21
        have Hf22 := Lib.hid f22
        have Hf23 := Lib.hid f23
        have Hf24 := Lib.hid f24
        have HhK := Lib.hid hK
        have Hhd := Lib.hid hd
        have HhJ := Lib.hid hJ
        clear hd hK hJ f0 f1 f2 f3 f4 f5 f6 f7 f8 f9 f10 f11 f12 f13 f14 f15 f16 f17 f18 f19 f20 f21 f22 f23 f24
        go_simp
        have f0 := Hf0.out
        have f1 := Hf1.out
        have f2 := Hf2.out
        have f3 := Hf3.out
        have f4 := Hf4.out
        have f5 := Hf5.out
        have f6 := Hf6.out
        have f7 := Hf7.out
        have f8 := Hf8.out
        have f9 := Hf9.out
        have f10 := Hf10.out
        have f11 := Hf11.out
        have f12 := Hf12.out
        have f13 := Hf13.out
        have f14 := Hf14.out
        have f15 := Hf15.out
        have f16 := Hf16.out
        have f17 := Hf17.out
        have f18 := Hf18.out
        have f19 := Hf19.out
        have f20 := Hf20.out
        have f21 := Hf21.out
        have f22 := Hf22.out
        have f23 := Hf23.out
        have f24 := Hf24.out
        have hK := HhK.out
        have hd := Hhd.out
        have hJ := HhJ.out
        exact hK _ _ ⟨[u27, (.slice A2 l.length c2), u29, u30, u31, u32, u33, u34, u35, u36, u37, u38, u39, u40, u41, u42, u43, u44, u45, u46, u2, u3, u4, u5, u6], rfl, by kernel_rfl, _, _, _, _, _, _, _, _, _, _, _, _, _, _, _, _, _, _, _, _, _, _, _, _, _, rfl, hI, f0, (fun _ => rfl), f2, f3, f4, f5, f6, f7, f8, f9, f10, f11, f12, f13, f14, f15, f16, f17, f18, f19, f20, f21, f22, f23, f24⟩
      · simp only [List.getElem?_cons_zero, List.getElem?_cons_succ, Option.some.injEq] at ho
        subst ho
        clear hi'
        clear hdep
        have hI := hJ
        refine wpOp_step rfl (fun K hK => ?_)
        simp only [List.zip_cons_cons, List.zip_nil_right, puts]
        have Hf0 := Lib.hid f0
        have Hf1 := Lib.hid f1
        have Hf2 := Lib.hid f2
        have Hf3 := Lib.hid f3
        have Hf4 := Lib.hid f4
        have Hf5 := Lib.hid f5
        have Hf6 := Lib.hid f6
        have Hf7 := Lib.hid f7
        have Hf8 := Lib.hid f8
        have Hf9 := Lib.hid f9
        have Hf10 := Lib.hid f10
        have Hf11 := Lib.hid f11
        have Hf12 := Lib.hid f12
        have Hf13 := Lib.hid f13
        have Hf14 := Lib.hid f14
        have Hf15 := Lib.hid f15
        have Hf16 := Lib.hid f16
        have Hf17 := Lib.hid f17
        have Hf18 := Lib.hid f18
        have Hf19 := Lib.hid f19
        have Hf20 := Lib.hid f20
        have Hf21 := Lib.hid f21
        have Hf22 := Lib.hid f22
        have Hf23 := Lib.hid f23
        have Hf24 := Lib.hid f24
        have HhK := Lib.hid hK
        have Hhd := Lib.hid hd
        have HhJ := Lib.hid hJ
        clear hd hK hJ f0 f1 f2 f3 f4 f5 f6 f7 f8 f9 f10 f11 f12 f13 f14 f15 f16 f17 f18 f19 f20 f21 f22 f23 f24
        go_simp
        have f0 := Hf0.out
        have f1 := Hf1.out
        have f2 := Hf2.out
        have f3 := Hf3.out
        have f4 := Hf4.out
        have f5 := Hf5.out
        have f6 := Hf6.out
        have f7 := Hf7.out
        have f8 := Hf8.out
        have f9 := Hf9.out
        have f10 := Hf10.out
        have f11 := Hf11.out
        have f12 := Hf12.out
        have f13 := Hf13.out
        have f14 := Hf14.out
        have f15 := Hf15.out
        have f16 := Hf16.out
        have f17 := Hf17.out
        have f18 := Hf18.out
        have f19 := Hf19.out
        have f20 := Hf20.out
        have f21 := Hf21.out
        have f22 := Hf22.out
        have f23 := Hf23.out
        have f24 := Hf24.out
        have hK := HhK.out
        have hd := Hhd.out
        have hJ := HhJ.out
        exact hK _ _ ⟨[u27, u28, (.int .i64 lo), u30, u31, u32, u33, u34, u35, u36, u37, u38, u39, u40, u41, u42, u43, u44, u45, u46, u2, u3, u4, u5, u6], rfl, by kernel_rfl, _, _, _, _, _, _, _, _, _, _, _, _, _, _, _, _, _, _, _, _, _, _, _, _, _, rfl, hI, f0, f1, (fun _ => rfl), f3, f4, f5, f6, f7, f8, f9, f10, f11, f12, f13, f14, f15, f16, f17, f18, f19, f20, f21, f22, f23, f24⟩
      · simp only [List.getElem?_cons_zero, List.getElem?_cons_succ, Option.some.injEq] at ho
        subst ho
        clear hi'
        clear hdep
        have hI := hJ
        refine wpOp_step rfl (fun K hK => ?_)
        simp only [List.zip_cons_cons, List.zip_nil_right, puts]
        have Hf0 := Lib.hid f0
        have Hf1 := Lib.hid f1
        have Hf2 := Lib.hid f2
        have Hf3 := Lib.hid f3
        have Hf4 := Lib.hid f4
        have Hf5 := Lib.hid f5
        have Hf6 := Lib.hid f6
        have Hf7 := Lib.hid f7
        have Hf8 := Lib.hid f8
        have Hf9 := Lib.hid f9
        have Hf10 := Lib.hid f10
        have Hf11 := Lib.hid f11
        have Hf12 := Lib.hid f12
        have Hf13 := Lib.hid f13
        have Hf14 := Lib.hid f14
        have Hf15 := Lib.hid f15
        have Hf16 := Lib.hid f16
        have Hf17 := Lib.hid f17
        have Hf18 := Lib.hid f18
        have Hf19 := Lib.hid f19
        have Hf20 := Lib.hid f20
        have Hf21 := Lib.hid f21
        have Hf22 := Lib.hid f22
        have Hf23 := Lib.hid f23
        have Hf24 := Lib.hid f24
        have HhK := Lib.hid hK
        have Hhd := Lib.hid hd
        have HhJ := Lib.hid hJ
        clear hd hK hJ f0 f1 f2 f3 f4 f5 f6 f7 f8 f9 f10 f11 f12 f13 f14 f15 f16 f17 f18 f19 f20 f21 f22 f23 f24
        go_simp
        have f0 := Hf0.out
        have f1 := Hf1.out
        have f2 := Hf2.out
        have f3 := Hf3.out
        have f4 := Hf4.out
        have f5 := Hf5.out
        have f6 := Hf6.out
        have f7 := Hf7.out
        have f8 := Hf8.out
        have f9 := Hf9.out
        have f10 := Hf10.out
        have f11 := Hf11.out
        have f12 := Hf12.out
        have f13 := Hf13.out
        have f14 := Hf14.out
        have f15 := Hf15.out
        have f16 := Hf16.out
        have f17 := Hf17.out
        have f18 := Hf18.out
        have f19 := Hf19.out
        have f20 := Hf20.out
        have f21 := Hf21.out
        have f22 := Hf22.out
        have f23 := Hf23.out
        have f24 := Hf24.out
        have hK := HhK.out
        have hd := Hhd.out
        have hJ := HhJ.out
        exact hK _ _ ⟨[u27, u28, u29, (.int .i64 hi), u31, u32, u33, u34, u35, u36, u37, u38, u39, u40, u41, u42, u43, u44, u45, u46, u2, u3, u4, u5, u6], rfl, by kernel_rfl, _, _, _, _, _, _, _, _, _, _, _, _, _, _, _, _, _, _, _, _, _, _, _, _, _, rfl, hI, f0, f1, f2, (fun _ => rfl), f4, f5, f6, f7, f8, f9, f10, f11, f12, f13, f14, f15, f16, f17, f18, f19, f20, f21, f22, f23, f24⟩
      · simp only [List.getElem?_cons_zero, List.getElem?_cons_succ, Option.some.injEq] at ho
        subst ho
        clear hi'
        clear hdep
        have hI := hJ
        refine wpOp_step rfl (fun K hK => ?_)
        simp only [List.zip_cons_cons, List.zip_nil_right, puts]
        have Hf0 := Lib.hid f0
        have Hf1 := Lib.hid f1
        have Hf2 := Lib.hid f2
        have Hf3 := Lib.hid f3
        have Hf4 := Lib.hid f4
        have Hf5 := Lib.hid f5
        have Hf6 := Lib.hid f6
        have Hf7 := Lib.hid f7
        have Hf8 := Lib.hid f8
        have Hf9 := Lib.hid f9
        have Hf10 := Lib.hid f10
        have Hf11 := Lib.hid f11
        have Hf12 := Lib.hid f12
        have Hf13 := Lib.hid f13
        have Hf14 := Lib.hid f14
        have Hf15 := Lib.hid f15
        have Hf16 := Lib.hid f16
        have Hf17 := Lib.hid f17
        have Hf18 := Lib.hid f18
        have Hf19 := Lib.hid f19
        have Hf20 := Lib.hid f20
        have Hf21 := Lib.hid f21
        have Hf22 := Lib.hid f22
        have Hf23 := Lib.hid f23
        have Hf24 := Lib.hid f24
        have HhK := Lib.hid hK
        have Hhd := Lib.hid hd
        have HhJ := Lib.hid hJ
        clear hd hK hJ f0 f1 f2 f3 f4 f5 f6 f7 f8 f9 f10 f11 f12 f13 f14 f15 f16 f17 f18 f19 f20 f21 f22 f23 f24
        go_simp
        have f0 := Hf0.out
        have f1 := Hf1.out
        have f2 := Hf2.out
        have f3 := Hf3.out
        have f4 := Hf4.out
        have f5 := Hf5.out
        have f6 := Hf6.out
        have f7 := Hf7.out
        have f8 := Hf8.out
        have f9 := Hf9.out
        have f10 := Hf10.out
        have f11 := Hf11.out
        have f12 := Hf12.out
        have f13 := Hf13.out
        have f14 := Hf14.out
        have f15 := Hf15.out
        have f16 := Hf16.out
        have f17 := Hf17.out
        have f18 := Hf18.out
        have f19 := Hf19.out
        have f20 := Hf20.out
        have f21 := Hf21.out
        have f22 := Hf22.out
        have f23 := Hf23.out
        have f24 := Hf24.out
        have hK := HhK.out
        have hd := Hhd.out
        have hJ := HhJ.out
        exact hK _ _ ⟨[u27, u28, u29, u30, (.pointer (some ⟨w.heap.size, 0, none⟩)), u32, u33, u34, u35, u36, u37, u38, u39, u40, u41, u42, u43, u44, u45, u46, u2, u3, u4, u5, u6], rfl, by kernel_rfl, _, _, _, _, _, _, _, _, _, _, _, _, _, _, _, _, _, _, _, _, _, _, _, _, _, rfl, hI, f0, f1, f2, f3, (fun _ => rfl), f5, f6, f7, f8, f9, f10, f11, f12, f13, f14, f15, f16, f17, f18, f19, f20, f21, f22, f23, f24⟩
      · simp only [List.getElem?_cons_zero, List.getElem?_cons_succ, Option.some.injEq] at ho
        subst ho
        clear hi'
        clear hdep
        have hI := hJ
        refine wpOp_step rfl (fun K hK => ?_)
        simp only [List.zip_cons_cons, List.zip_nil_right, puts]
        have Hf0 := Lib.hid f0
        have Hf1 := Lib.hid f1
        have Hf2 := Lib.hid f2
        have Hf3 := Lib.hid f3
        have Hf4 := Lib.hid f4
        have Hf5 := Lib.hid f5
        have Hf6 := Lib.hid f6
        have Hf7 := Lib.hid f7
        have Hf8 := Lib.hid f8
        have Hf9 := Lib.hid f9
        have Hf10 := Lib.hid f10
        have Hf11 := Lib.hid f11
        have Hf12 := Lib.hid f12
        have Hf13 := Lib.hid f13
        have Hf14 := Lib.hid f14
        have Hf15 := Lib.hid f15
        have Hf16 := Lib.hid f16
        have Hf17 := Lib.hid f17
        have Hf18 := Lib.hid f18
        have Hf19 := Lib.hid f19
        have Hf20 := Lib.hid f20
        have Hf21 := Lib.hid f21
        have Hf22 := Lib.hid f22
        have Hf23 := Lib.hid f23
        have Hf24 := Lib.hid f24
        have HhK := Lib.hid hK
        have Hhd := Lib.hid hd
        have HhJ := Lib.hid hJ
        clear hd hK hJ f0 f1 f2 f3 f4 f5 f6 f7 f8 f9 f10 f11 f12 f13 f14 f15 f16 f17 f18 f19 f20 f21 f22 f23 f24
        go_simp
        have f0 := Hf0.out
        have f1 := Hf1.out
        have f2 := Hf2.out
        have f3 := Hf3.out
        have f4 := Hf4.out
        have f5 := Hf5.out
        have f6 := Hf6.out
        have f7 := Hf7.out
        have f8 := Hf8.out
        have f9 := Hf9.out
        have f10 := Hf10.out
        have f11 := Hf11.out
        have f12 := Hf12.out
        have f13 := Hf13.out
        have f14 := Hf14.out
        have f15 := Hf15.out
        have f16 := Hf16.out
        have f17 := Hf17.out
        have f18 := Hf18.out
        have f19 := Hf19.out
        have f20 := Hf20.out
        have f21 := Hf21.out
        have f22 := Hf22.out
        have f23 := Hf23.out
        have f24 := Hf24.out
        have hK := HhK.out
        have hd := Hhd.out
        have hJ := HhJ.out
        exact hK _ _ ⟨[u27, u28, u29, u30, u31, (.int .i64 v), u33, u34, u35, u36, u37, u38, u39, u40, u41, u42, u43, u44, u45, u46, u2, u3, u4, u5, u6], rfl, by kernel_rfl, _, _, _, _, _, _, _, _, _, _, _, _, _, _, _, _, _, _, _, _, _, _, _, _, _, rfl, hI, f0, f1, f2, f3, f4, (fun _ => rfl), f6, f7, f8, f9, f10, f11, f12, f13, f14, f15, f16, f17, f18, f19, f20, f21, f22, f23, f24⟩
      · simp only [List.getElem?_cons_zero, List.getElem?_cons_succ, Option.some.injEq] at ho
        subst ho
        clear hi'
        have d5 : D 5 = true := hdep ⟨5, Ground.data⟩ (by simp) rfl
        clear hdep
        have hI := hJ
        obtain rfl := f5 d5
        refine wpOp_step rfl (fun K hK => ?_)
        simp only [List.zip_cons_cons, List.zip_nil_right, puts]
        have Hf0 := Lib.hid f0
        have Hf1 := Lib.hid f1
        have Hf2 := Lib.hid f2
        have Hf3 := Lib.hid f3
        have Hf4 := Lib.hid f4
        have Hf5 := Lib.hid f5
        have Hf6 := Lib.hid f6
        have Hf7 := Lib.hid f7
        have Hf8 := Lib.hid f8
        have Hf9 := Lib.hid f9
        have Hf10 := Lib.hid f10
        have Hf11 := Lib.hid f11
        have Hf12 := Lib.hid f12
        have Hf13 := Lib.hid f13
        have Hf14 := Lib.hid f14
        have Hf15 := Lib.hid f15
        have Hf16 := Lib.hid f16
        have Hf17 := Lib.hid f17
        have Hf18 := Lib.hid f18
        have Hf19 := Lib.hid f19
        have Hf20 := Lib.hid f20
        have Hf21 := Lib.hid f21
        have Hf22 := Lib.hid f22
        have Hf23 := Lib.hid f23
        have Hf24 := Lib.hid f24
        have HhK := Lib.hid hK
        have Hhd := Lib.hid hd
        have HhJ := Lib.hid hJ
        clear hd hK hJ f0 f1 f2 f3 f4 f5 f6 f7 f8 f9 f10 f11 f12 f13 f14 f15 f16 f17 f18 f19 f20 f21 f22 f23 f24
        go_simp
        have f0 := Hf0.out
        have f1 := Hf1.out
        have f2 := Hf2.out
        have f3 := Hf3.out
        have f4 := Hf4.out
        have f5 := Hf5.out
        have f6 := Hf6.out
        have f7 := Hf7.out
        have f8 := Hf8.out
        have f9 := Hf9.out
        have f10 := Hf10.out
        have f11 := Hf11.out
        have f12 := Hf12.out
        have f13 := Hf13.out
        have f14 := Hf14.out
        have f15 := Hf15.out
        have f16 := Hf16.out
        have f17 := Hf17.out
        have f18 := Hf18.out
        have f19 := Hf19.out
        have f20 := Hf20.out
        have f21 := Hf21.out
        have f22 := Hf22.out
        have f23 := Hf23.out
        have f24 := Hf24.out
        have hK := HhK.out
        have hd := Hhd.out
        have hJ := HhJ.out
        exact hK _ _ ⟨[u27, u28, u29, u30, u31, (.int .i64 v), (.int .i64 v), u34, u35, u36, u37, u38, u39, u40, u41, u42, u43, u44, u45, u46, u2, u3, u4, u5, u6], rfl, by kernel_rfl, _, _, _, _, _, _, _, _, _, _, _, _, _, _, _, _, _, _, _, _, _, _, _, _, _, rfl, hI, f0, f1, f2, f3, f4, (fun _ => rfl), (fun _ => rfl), f7, f8, f9, f10, f11, f12, f13, f14, f15, f16, f17, f18, f19, f20, f21, f22, f23, f24⟩
      · simp only [List.getElem?_cons_zero, List.getElem?_cons_succ, Option.some.injEq] at ho
        subst ho
        clear hi'
        have d6 : D 6 = true := hdep ⟨6, Ground.data⟩ (by simp) rfl
        clear hdep
        have hI := hJ
        obtain rfl := f6 d6
        refine wpOp_step rfl (fun K hK => ?_)
        simp only [List.zip_cons_cons, List.zip_nil_right, puts]
        have Hf0 := Lib.hid f0
        have Hf1 := Lib.hid f1
        have Hf2 := Lib.hid f2
        have Hf3 := Lib.hid f3
        have Hf4 := Lib.hid f4
        have Hf5 := Lib.hid f5
        have Hf6 := Lib.hid f6
        have Hf7 := Lib.hid f7
        have Hf8 := Lib.hid f8
        have Hf9 := Lib.hid f9
        have Hf10 := Lib.hid f10
        have Hf11 := Lib.hid f11
        have Hf12 := Lib.hid f12
        have Hf13 := Lib.hid f13
        have Hf14 := Lib.hid f14
        have Hf15 := Lib.hid f15
        have Hf16 := Lib.hid f16
        have Hf17 := Lib.hid f17
        have Hf18 := Lib.hid f18
        have Hf19 := Lib.hid f19
        have Hf20 := Lib.hid f20
        have Hf21 := Lib.hid f21
        have Hf22 := Lib.hid f22
        have Hf23 := Lib.hid f23
        have Hf24 := Lib.hid f24
        have HhK := Lib.hid hK
        have Hhd := Lib.hid hd
        have HhJ := Lib.hid hJ
        clear hd hK hJ f0 f1 f2 f3 f4 f5 f6 f7 f8 f9 f10 f11 f12 f13 f14 f15 f16 f17 f18 f19 f20 f21 f22 f23 f24
        go_simp
        have f0 := Hf0.out
        have f1 := Hf1.out
        have f2 := Hf2.out
        have f3 := Hf3.out
        have f4 := Hf4.out
        have f5 := Hf5.out
        have f6 := Hf6.out
        have f7 := Hf7.out
        have f8 := Hf8.out
        have f9 := Hf9.out
        have f10 := Hf10.out
        have f11 := Hf11.out
        have f12 := Hf12.out
        have f13 := Hf13.out
        have f14 := Hf14.out
        have f15 := Hf15.out
        have f16 := Hf16.out
        have f17 := Hf17.out
        have f18 := Hf18.out
        have f19 := Hf19.out
        have f20 := Hf20.out
        have f21 := Hf21.out
        have f22 := Hf22.out
        have f23 := Hf23.out
        have f24 := Hf24.out
        have hK := HhK.out
        have hd := Hhd.out
        have hJ := HhJ.out
        exact hK _ _ ⟨[u27, u28, u29, u30, u31, u32, (.int .i64 v), (.int .i64 v), u35, u36, u37, u38, u39, u40, u41, u42, u43, u44, u45, u46, u2, u3, u4, u5, u6], rfl, by kernel_rfl, _, _, _, _, _, _, _, _, _, _, _, _, _, _, _, _, _, _, _, _, _, _, _, _, _, rfl, hI, f0, f1, f2, f3, f4, f5, (fun _ => rfl), (fun _ => rfl), f8, f9, f10, f11, f12, f13, f14, f15, f16, f17, f18, f19, f20, f21, f22, f23, f24⟩
      · simp only [List.getElem?_cons_zero, List.getElem?_cons_succ, Option.some.injEq] at ho
        subst ho
        clear hi'
        have d4 : D 4 = true := hdep ⟨4, Ground.data⟩ (by simp) rfl
        have d7 : D 7 = true := hdep ⟨7, Ground.data⟩ (by simp) rfl
        clear hdep
        have hI := hJ
        obtain rfl := f4 d4
        obtain rfl := f7 d7
        obtain ⟨kO, p, hp, rd⟩ := hI
        have a2 := Bool.toNat_le (D 8)
        have a8 := Bool.toNat_le (D 15)
        refine wpOp_step rfl (fun K hK => ?_)
        simp only [List.zip_cons_cons, List.zip_nil_right, puts]
        have Hf0 := Lib.hid f0
        have Hf1 := Lib.hid f1
        have Hf2 := Lib.hid f2
        have Hf3 := Lib.hid f3
        have Hf4 := Lib.hid f4
        have Hf5 := Lib.hid f5
        have Hf6 := Lib.hid f6
        have Hf7 := Lib.hid f7
        have Hf8 := Lib.hid f8
        have Hf9 := Lib.hid f9
        have Hf10 := Lib.hid f10
        have Hf11 := Lib.hid f11
        have Hf12 := Lib.hid f12
        have Hf13 := Lib.hid f13
        have Hf14 := Lib.hid f14
        have Hf15 := Lib.hid f15
        have Hf16 := Lib.hid f16
        have Hf17 := Lib.hid f17
        have Hf18 := Lib.hid f18
        have Hf19 := Lib.hid f19
        have Hf20 := Lib.hid f20
        have Hf21 := Lib.hid f21
        have Hf22 := Lib.hid f22
        have Hf23 := Lib.hid f23
        have Hf24 := Lib.hid f24
        have HhK := Lib.hid hK
        have Hhd := Lib.hid hd
        have HhJ := Lib.hid hJ
        clear hd hK hJ f0 f1 f2 f3 f4 f5 f6 f7 f8 f9 f10 f11 f12 f13 f14 f15 f16 f17 f18 f19 f20 f21 f22 f23 f24
        go_simp
        go_wp2_with (go_at_call 65; refine (pick_fr _ _ _ _ _ _ _ _ rd (by omega)).mono ?_; rintro e w9 ⟨x, rfl, ⟨x0, x1, _⟩, o9, r9⟩)
        have x1 := x1 (by omega)
        have f0 := Hf0.out
        have f1 := Hf1.out
        have f2 := Hf2.out
        have f3 := Hf3.out
        have f4 := Hf4.out
        have f5 := Hf5.out
        have f6 := Hf6.out
        have f7 := Hf7.out
        have f8 := Hf8.out
        have f9 := Hf9.out
        have f10 := Hf10.out
        have f11 := Hf11.out
        have f12 := Hf12.out
        have f13 := Hf13.out
        have f14 := Hf14.out
        have f15 := Hf15.out
        have f16 := Hf16.out
        have f17 := Hf17.out
        have f18 := Hf18.out
        have f19 := Hf19.out
        have f20 := Hf20.out
        have f21 := Hf21.out
        have f22 := Hf22.out
        have f23 := Hf23.out
        have f24 := Hf24.out
        have hK := HhK.out
        have hd := Hhd.out
        have hJ := HhJ.out
        exact hK _ _ ⟨[u27, u28, u29, u30, (.pointer (some ⟨w.heap.size, 0, none⟩)), u32, u33, (.int .i64 v), (.int .i64 x), u36, u37, u38, u39, u40, u41, u42, u43, u44, u45, u46, u2, u3, u4, u5, u6], rfl, by kernel_rfl, _, _, _, _, _, _, _, _, _, _, _, _, _, _, _, _, _, _, _, _, _, _, _, _, _, rfl, ⟨kO.trans (Onb.of_onl o9), p + 1, (by have e := hp; rw [hd] at e; show p + 1 ≤ p2 + 2 * (true.toNat + (D 15).toNat); simp only [Bool.toNat_true, Bool.toNat_false] at e ⊢; omega), r9⟩, f0, f1, f2, f3, (fun _ => rfl), f5, f6, (fun _ => rfl), (fun _ => ⟨x, rfl, x0, by omega⟩), f9, f10, f11, (fun h => ((f12 h)).onb (Onb.of_onl o9) hg3), (fun h => ((f13 h)).onb (Onb.of_onl o9) hg3), f14, f15, (fun h => ((f16 h)).onb (Onb.of_onl o9) hg3), f17, (fun h => ((f18 h)).onb (Onb.of_onl o9) hg3), f19, f20, f21, f22, f23, f24⟩
      · simp only [List.getElem?_cons_zero, List.getElem?_cons_succ, Option.some.injEq] at ho
        subst ho
        clear hi'
        clear hdep
        have hI := hJ
        refine wpOp_step rfl (fun K hK => ?_)
        simp only [List.zip_cons_cons, List.zip_nil_right, puts]
        have Hf0 := Lib.hid f0
        have Hf1 := Lib.hid f1
        have Hf2 := Lib.hid f2
        have Hf3 := Lib.hid f3
        have Hf4 := Lib.hid f4
        have Hf5 := Lib.hid f5
        have Hf6 := Lib.hid f6
        have Hf7 := Lib.hid f7
        have Hf8 := Lib.hid f8
        have Hf9 := Lib.hid f9
        have Hf10 := Lib.hid f10
        have Hf11 := Lib.hid f11
        have Hf12 := Lib.hid f12
        have Hf13 := Lib.hid f13
        have Hf14 := Lib.hid f14
        have Hf15 := Lib.hid f15
        have Hf16 := Lib.hid f16
        have Hf17 := Lib.hid f17
        have Hf18 := Lib.hid f18
        have Hf19 := Lib.hid f19
        have Hf20 := Lib.hid f20
        have Hf21 := Lib.hid f21
        have Hf22 := Lib.hid f22
        have Hf23 := Lib.hid f23
        have Hf24 := Lib.hid f24
        have HhK := Lib.hid hK
        have Hhd := Lib.hid hd
        have HhJ := Lib.hid hJ
        clear hd hK hJ f0 f1 f2 f3 f4 f5 f6 f7 f8 f9 f10 f11 f12 f13 f14 f15 f16 f17 f18 f19 f20 f21 f22 f23 f24
        go_simp
        have f0 := Hf0.out
        have f1 := Hf1.out
        have f2 := Hf2.out
        have f3 := Hf3.out
        have f4 := Hf4.out
        have f5 := Hf5.out
        have f6 := Hf6.out
        have f7 := Hf7.out
        have f8 := Hf8.out
        have f9 := Hf9.out
        have f10 := Hf10.out
        have f11 := Hf11.out
        have f12 := Hf12.out
        have f13 := Hf13.out
        have f14 := Hf14.out
        have f15 := Hf15.out
        have f16 := Hf16.out
        have f17 := Hf17.out
        have f18 := Hf18.out
        have f19 := Hf19.out
        have f20 := Hf20.out
        have f21 := Hf21.out
        have f22 := Hf22.out
        have f23 := Hf23.out
        have f24 := Hf24.out
        have hK := HhK.out
        have hd := Hhd.out
        have hJ := HhJ.out
        exact hK _ _ ⟨[u27, u28, u29, u30, u31, u32, u33, u34, u35, (.int .i64 v), u37, u38, u39, u40, u41, u42, u43, u44, u45, u46, u2, u3, u4, u5, u6], rfl, by kernel_rfl, _, _, _, _, _, _, _, _, _, _, _, _, _, _, _, _, _, _, _, _, _, _, _, _, _, rfl, hI, f0, f1, f2, f3, f4, f5, f6, f7, f8, (fun _ => rfl), f10, f11, f12, f13, f14, f15, f16, f17, f18, f19, f20, f21, f22, f23, f24⟩
      · simp only [List.getElem?_cons_zero, List.getElem?_cons_succ, Option.some.injEq] at ho
        subst ho
        clear hi'
        have d9 : D 9 = true := hdep ⟨9, Ground.data⟩ (by simp) rfl
        clear hdep
        have hI := hJ
        obtain rfl := f9 d9
        have i1 := IntWalk.i64_in (v - 1) (by omega)
        refine wpOp_step rfl (fun K hK => ?_)
        simp only [List.zip_cons_cons, List.zip_nil_right, puts]
        have Hf0 := Lib.hid f0
        have Hf1 := Lib.hid f1
        have Hf2 := Lib.hid f2
        have Hf3 := Lib.hid f3
        have Hf4 := Lib.hid f4
        have Hf5 := Lib.hid f5
        have Hf6 := Lib.hid f6
        have Hf7 := Lib.hid f7
        have Hf8 := Lib.hid f8
        have Hf9 := Lib.hid f9
        have Hf10 := Lib.hid f10
        have Hf11 := Lib.hid f11
        have Hf12 := Lib.hid f12
        have Hf13 := Lib.hid f13
        have Hf14 := Lib.hid f14
        have Hf15 := Lib.hid f15
        have Hf16 := Lib.hid f16
        have Hf17 := Lib.hid f17
        have Hf18 := Lib.hid f18
        have Hf19 := Lib.hid f19
        have Hf20 := Lib.hid f20
        have Hf21 := Lib.hid f21
        have Hf22 := Lib.hid f22
        have Hf23 := Lib.hid f23
        have Hf24 := Lib.hid f24
        have HhK := Lib.hid hK
        have Hhd := Lib.hid hd
        have HhJ := Lib.hid hJ
        clear hd hK hJ f0 f1 f2 f3 f4 f5 f6 f7 f8 f9 f10 f11 f12 f13 f14 f15 f16 f17 f18 f19 f20 f21 f22 f23 f24
        go_simp
        have f0 := Hf0.out
        have f1 := Hf1.out
        have f2 := Hf2.out
        have f3 := Hf3.out
        have f4 := Hf4.out
        have f5 := Hf5.out
        have f6 := Hf6.out
        have f7 := Hf7.out
        have f8 := Hf8.out
        have f9 := Hf9.out
        have f10 := Hf10.out
        have f11 := Hf11.out
        have f12 := Hf12.out
        have f13 := Hf13.out
        have f14 := Hf14.out
        have f15 := Hf15.out
        have f16 := Hf16.out
        have f17 := Hf17.out
        have f18 := Hf18.out
        have f19 := Hf19.out
        have f20 := Hf20.out
        have f21 := Hf21.out
        have f22 := Hf22.out
        have f23 := Hf23.out
        have f24 := Hf24.out
        have hK := HhK.out
        have hd := Hhd.out
        have hJ := HhJ.out
        exact hK _ _ ⟨[u27, u28, u29, u30, u31, u32, u33, u34, u35, (.int .i64 v), (.int .i64 (v - 1)), u38, u39, u40, u41, u42, u43, u44, u45, u46, u2, u3, u4, u5, u6], rfl, by kernel_rfl, _, _, _, _, _, _, _, _, _, _, _, _, _, _, _, _, _, _, _, _, _, _, _, _, _, rfl, hI, f0, f1, f2, f3, f4, f5, f6, f7, f8, (fun _ => rfl), (fun _ => rfl), f11, f12, f13, f14, f15, f16, f17, f18, f19, f20, f21, f22, f23, f24⟩
      · simp only [List.getElem?_cons_zero, List.getElem?_cons_succ, Option.some.injEq] at ho
        subst ho
        clear hi'
        clear hdep
        have hI := hJ
        refine wpOp_step rfl (fun K hK => ?_)
        simp only [List.zip_cons_cons, List.zip_nil_right, puts]
        have Hf0 := Lib.hid f0
        have Hf1 := Lib.hid f1
        have Hf2 := Lib.hid f2
        have Hf3 := Lib.hid f3
        have Hf4 := Lib.hid f4
        have Hf5 := Lib.hid f5
        have Hf6 := Lib.hid f6
        have Hf7 := Lib.hid f7
        have Hf8 := Lib.hid f8
        have Hf9 := Lib.hid f9
        have Hf10 := Lib.hid f10
        have Hf11 := Lib.hid f11
        have Hf12 := Lib.hid f12
        have Hf13 := Lib.hid f13
        have Hf14 := Lib.hid f14
        have Hf15 := Lib.hid f15
        have Hf16 := Lib.hid f16
        have Hf17 := Lib.hid f17
        have Hf18 := Lib.hid f18
        have Hf19 := Lib.hid f19
        have Hf20 := Lib.hid f20
        have Hf21 := Lib.hid f21
        have Hf22 := Lib.hid f22
        have Hf23 := Lib.hid f23
        have Hf24 := Lib.hid f24
        have HhK := Lib.hid hK
        have Hhd := Lib.hid hd
        have HhJ := Lib.hid hJ
        clear hd hK hJ f0 f1 f2 f3 f4 f5 f6 f7 f8 f9 f10 f11 f12 f13 f14 f15 f16 f17 f18 f19 f20 f21 f22 f23 f24
        go_simp
        have f0 := Hf0.out
        have f1 := Hf1.out
        have f2 := Hf2.out
        have f3 := Hf3.out
        have f4 := Hf4.out
        have f5 := Hf5.out
        have f6 := Hf6.out
        have f7 := Hf7.out
        have f8 := Hf8.out
        have f9 := Hf9.out
        have f10 := Hf10.out
        have f11 := Hf11.out
        have f12 := Hf12.out
        have f13 := Hf13.out
        have f14 := Hf14.out
        have f15 := Hf15.out
        have f16 := Hf16.out
        have f17 := Hf17.out
        have f18 := Hf18.out
        have f19 := Hf19.out
        have f20 := Hf20.out
        have f21 := Hf21.out
        have f22 := Hf22.out
        have f23 := Hf23.out
        have f24 := Hf24.out
        have hK := HhK.out
        have hd := Hhd.out
        have hJ := HhJ.out
        exact hK _ _ ⟨[u27, u28, u29, u30, u31, u32, u33, u34, u35, u36, u37, (.int .i64 v), u39, u40, u41, u42, u43, u44, u45, u46, u2, u3, u4, u5, u6], rfl, by kernel_rfl, _, _, _, _, _, _, _, _, _, _, _, _, _, _, _, _, _, _, _, _, _, _, _, _, _, rfl, hI, f0, f1, f2, f3, f4, f5, f6, f7, f8, f9, f10, (fun _ => rfl), f12, f13, f14, f15, f16, f17, f18, f19, f20, f21, f22, f23, f24⟩
      · simp only [List.getElem?_cons_zero, List.getElem?_cons_succ, Option.some.injEq] at ho
        subst ho
        clear hi'
        have d8 : D 8 = true := hdep ⟨8, Ground.data⟩ (by simp) rfl
        have d10 : D 10 = true := hdep ⟨10, Ground.data⟩ (by simp) rfl
        have d11 : D 11 = true := hdep ⟨11, Ground.data⟩ (by simp) rfl
        clear hdep
        have hI := hJ
        obtain ⟨x, rfl, x0, x1⟩ := f8 d8
        obtain rfl := f10 d10
        obtain rfl := f11 d11
        obtain ⟨kO, p, hp, rd⟩ := hI
        refine wpOp_step rfl (fun K hK => ?_)
        simp only [List.zip_cons_cons, List.zip_nil_right, puts]
        have Hf0 := Lib.hid f0
        have Hf1 := Lib.hid f1
        have Hf2 := Lib.hid f2
        have Hf3 := Lib.hid f3
        have Hf4 := Lib.hid f4
        have Hf5 := Lib.hid f5
        have Hf6 := Lib.hid f6
        have Hf7 := Lib.hid f7
        have Hf8 := Lib.hid f8
        have Hf9 := Lib.hid f9
        have Hf10 := Lib.hid f10
        have Hf11 := Lib.hid f11
        have Hf12 := Lib.hid f12
        have Hf13 := Lib.hid f13
        have Hf14 := Lib.hid f14
        have Hf15 := Lib.hid f15
        have Hf16 := Lib.hid f16
        have Hf17 := Lib.hid f17
        have Hf18 := Lib.hid f18
        have Hf19 := Lib.hid f19
        have Hf20 := Lib.hid f20
        have Hf21 := Lib.hid f21
        have Hf22 := Lib.hid f22
        have Hf23 := Lib.hid f23
        have Hf24 := Lib.hid f24
        have HhK := Lib.hid hK
        have Hhd := Lib.hid hd
        have HhJ := Lib.hid hJ
        clear hd hK hJ f0 f1 f2 f3 f4 f5 f6 f7 f8 f9 f10 f11 f12 f13 f14 f15 f16 f17 f18 f19 f20 f21 f22 f23 f24
        go_simp
        have f0 := Hf0.out
        have f1 := Hf1.out
        have f2 := Hf2.out
        have f3 := Hf3.out
        have f4 := Hf4.out
        have f5 := Hf5.out
        have f6 := Hf6.out
        have f7 := Hf7.out
        have f8 := Hf8.out
        have f9 := Hf9.out
        have f10 := Hf10.out
        have f11 := Hf11.out
        have f12 := Hf12.out
        have f13 := Hf13.out
        have f14 := Hf14.out
        have f15 := Hf15.out
        have f16 := Hf16.out
        have f17 := Hf17.out
        have f18 := Hf18.out
        have f19 := Hf19.out
        have f20 := Hf20.out
        have f21 := Hf21.out
        have f22 := Hf22.out
        have f23 := Hf23.out
        have f24 := Hf24.out
        have hK := HhK.out
        have hd := Hhd.out
        have hJ := HhJ.out
        exact hK _ _ ⟨[u27, u28, u29, u30, u31, u32, u33, u34, (.int .i64 x), u36, (.int .i64 (v - 1)), (.int .i64 v), (.slice (some ⟨W.heap.size, 0, none⟩) 4 4), u40, u41, u42, u43, u44, u45, u46, u2, u3, u4, u5, u6], rfl, by kernel_rfl, _, _, _, _, _, _, _, _, _, _, _, _, _, _, _, _, _, _, _, _, _, _, _, _, _, rfl, ⟨kO.trans (Onb.of_bel (bel_al (bel_refl W) (.cells #[.int .i64 x, .int .i64 (v - 1), .int .i64 v, .int .i64 (-1)] 3))), p, hp, rd.alloc _⟩, f0, f1, f2, f3, f4, f5, f6, f7, f8, f9, (fun _ => rfl), (fun _ => rfl), (fun _ => ⟨_, x, rfl, ⟨x0, x1⟩, kO.size, Blk.new W _ _⟩), (fun h => ((f13 h)).onb (Onb.of_bel (bel_al (bel_refl W) (.cells #[.int .i64 x, .int .i64 (v - 1), .int .i64 v, .int .i64 (-1)] 3))) hg3), f14, f15, (fun h => ((f16 h)).onb (Onb.of_bel (bel_al (bel_refl W) (.cells #[.int .i64 x, .int .i64 (v - 1), .int .i64 v, .int .i64 (-1)] 3))) hg3), f17, (fun h => ((f18 h)).onb (Onb.of_bel (bel_al (bel_refl W) (.cells #[.int .i64 x, .int .i64 (v - 1), .int .i64 v, .int .i64 (-1)] 3))) hg3), f19, f20, f21, f22, f23, f24⟩
      · simp only [List.getElem?_cons_zero, List.getElem?_cons_succ, Option.some.injEq] at ho
        subst ho
        clear hi'
        clear hdep
        have hI := hJ
        obtain ⟨kO, p, hp, rd⟩ := hI
        refine wpOp_step rfl (fun K hK => ?_)
        simp only [List.zip_cons_cons, List.zip_nil_right, puts]
        have Hf0 := Lib.hid f0
        have Hf1 := Lib.hid f1
        have Hf2 := Lib.hid f2
        have Hf3 := Lib.hid f3
        have Hf4 := Lib.hid f4
        have Hf5 := Lib.hid f5
        have Hf6 := Lib.hid f6
        have Hf7 := Lib.hid f7
        have Hf8 := Lib.hid f8
        have Hf9 := Lib.hid f9
        have Hf10 := Lib.hid f10
        have Hf11 := Lib.hid f11
        have Hf12 := Lib.hid f12
        have Hf13 := Lib.hid f13
        have Hf14 := Lib.hid f14
        have Hf15 := Lib.hid f15
        have Hf16 := Lib.hid f16
        have Hf17 := Lib.hid f17
        have Hf18 := Lib.hid f18
        have Hf19 := Lib.hid f19
        have Hf20 := Lib.hid f20
        have Hf21 := Lib.hid f21
        have Hf22 := Lib.hid f22
        have Hf23 := Lib.hid f23
        have Hf24 := Lib.hid f24
        have HhK := Lib.hid hK
        have Hhd := Lib.hid hd
        have HhJ := Lib.hid hJ
        clear hd hK hJ f0 f1 f2 f3 f4 f5 f6 f7 f8 f9 f10 f11 f12 f13 f14 f15 f16 f17 f18 f19 f20 f21 f22 f23 f24
        go_simp
        have f0 := Hf0.out
        have f1 := Hf1.out
        have f2 := Hf2.out
        have f3 := Hf3.out
        have f4 := Hf4.out
        have f5 := Hf5.out
        have f6 := Hf6.out
        have f7 := Hf7.out
        have f8 := Hf8.out
        have f9 := Hf9.out
        have f10 := Hf10.out
        have f11 := Hf11.out
        have f12 := Hf12.out
        have f13 := Hf13.out
        have f14 := Hf14.out
        have f15 := Hf15.out
        have f16 := Hf16.out
        have f17 := Hf17.out
        have f18 := Hf18.out
        have f19 := Hf19.out
        have f20 := Hf20.out
        have f21 := Hf21.out
        have f22 := Hf22.out
        have f23 := Hf23.out
        have f24 := Hf24.out
        have hK := HhK.out
        have hd := Hhd.out
        have hJ := HhJ.out
        exact hK _ _ ⟨[u27, u28, u29, u30, u31, u32, u33, u34, u35, u36, u37, u38, u39, (.slice (some ⟨W.heap.size, 0, none⟩) 7 7), u41, u42, u43, u44, u45, u46, u2, u3, u4, u5, u6], rfl, by kernel_rfl, _, _, _, _, _, _, _, _, _, _, _, _, _, _, _, _, _, _, _, _, _, _, _, _, _, rfl, ⟨kO.trans (Onb.of_bel (bel_al (bel_refl W) (.cells #[.int .i64 0, .int .i64 0, .int .i64 0, .int .i64 0, .int .i64 1, .int .i64 2, .int .i64 3] 3))), p, hp, rd.alloc _⟩, f0, f1, f2, f3, f4, f5, f6, f7, f8, f9, f10, f11, (fun h => ((f12 h)).onb (Onb.of_bel (bel_al (bel_refl W) (.cells #[.int .i64 0, .int .i64 0, .int .i64 0, .int .i64 0, .int .i64 1, .int .i64 2, .int .i64 3] 3))) hg3), (fun _ => ⟨_, rfl, kO.size, Blk.new W _ _⟩), f14, f15, (fun h => ((f16 h)).onb (Onb.of_bel (bel_al (bel_refl W) (.cells #[.int .i64 0, .int .i64 0, .int .i64 0, .int .i64 0, .int .i64 1, .int .i64 2, .int .i64 3] 3))) hg3), f17, (fun h => ((f18 h)).onb (Onb.of_bel (bel_al (bel_refl W) (.cells #[.int .i64 0, .int .i64 0, .int .i64 0, .int .i64 0, .int .i64 1, .int .i64 2, .int .i64 3] 3))) hg3), f19, f20, f21, f22, f23, f24⟩
      · simp only [List.getElem?_cons_zero, List.getElem?_cons_succ, Option.some.injEq] at ho
        subst ho
        clear hi'
        clear hdep
        have hI := hJ
        refine wpOp_step rfl (fun K hK => ?_)
        simp only [List.zip_cons_cons, List.zip_nil_right, puts]
        have Hf0 := Lib.hid f0
        have Hf1 := Lib.hid f1
        have Hf2 := Lib.hid f2
        have Hf3 := Lib.hid f3
        have Hf4 := Lib.hid f4
        have Hf5 := Lib.hid f5
        have Hf6 := Lib.hid f6
        have Hf7 := Lib.hid f7
        have Hf8 := Lib.hid f8
        have Hf9 := Lib.hid f9
        have Hf10 := Lib.hid f10
        have Hf11 := Lib.hid f11
        have Hf12 := Lib.hid f12
        have Hf13 := Lib.hid f13
        have Hf14 := Lib.hid f14
        have Hf15 := Lib.hid f15
        have Hf16 := Lib.hid f16
        have Hf17 := Lib.hid f17
        have Hf18 := Lib.hid f18
        have Hf19 := Lib.hid f19
        have Hf20 := Lib.hid f20
        have Hf21 := Lib.hid f21
        have Hf22 := Lib.hid f22
        have Hf23 := Lib.hid f23
        have Hf24 := Lib.hid f24
        have HhK := Lib.hid hK
        have Hhd := Lib.hid hd
        have HhJ := Lib.hid hJ
        clear hd hK hJ f0 f1 f2 f3 f4 f5 f6 f7 f8 f9 f10 f11 f12 f13 f14 f15 f16 f17 f18 f19 f20 f21 f22 f23 f24
        go_simp
        have f0 := Hf0.out
        have f1 := Hf1.out
        have f2 := Hf2.out
        have f3 := Hf3.out
        have f4 := Hf4.out
        have f5 := Hf5.out
        have f6 := Hf6.out
        have f7 := Hf7.out
        have f8 := Hf8.out
        have f9 := Hf9.out
        have f10 := Hf10.out
        have f11 := Hf11.out
        have f12 := Hf12.out
        have f13 := Hf13.out
        have f14 := Hf14.out
        have f15 := Hf15.out
        have f16 := Hf16.out
        have f17 := Hf17.out
        have f18 := Hf18.out
        have f19 := Hf19.out
        have f20 := Hf20.out
        have f21 := Hf21.out
        have f22 := Hf22.out
        have f23 := Hf23.out
        have f24 := Hf24.out
        have hK := HhK.out
        have hd := Hhd.out
        have hJ := HhJ.out
        exact hK _ _ ⟨[u27, u28, u29, u30, u31, u32, u33, u34, u35, u36, u37, u38, u39, u40, (.pointer (some ⟨w.heap.size, 0, none⟩)), u42, u43, u44, u45, u46, u2, u3, u4, u5, u6], rfl, by kernel_rfl, _, _, _, _, _, _, _, _, _, _, _, _, _, _, _, _, _, _, _, _, _, _, _, _, _, rfl, hI, f0, f1, f2, f3, f4, f5, f6, f7, f8, f9, f10, f11, f12, f13, (fun _ => rfl), f15, f16, f17, f18, f19, f20, f21, f22, f23, f24⟩
      · simp only [List.getElem?_cons_zero, List.getElem?_cons_succ, Option.some.injEq] at ho
        subst ho
        clear hi'
        have d14 : D 14 = true := hdep ⟨14, Ground.data⟩ (by simp) rfl
        clear hdep
        have hI := hJ
        obtain rfl := f14 d14
        obtain ⟨kO, p, hp, rd⟩ := hI
        have a2 := Bool.toNat_le (D 8)
        have a8 := Bool.toNat_le (D 15)
        refine wpOp_step rfl (fun K hK => ?_)
        simp only [List.zip_cons_cons, List.zip_nil_right, puts]
        have Hf0 := Lib.hid f0
        have Hf1 := Lib.hid f1
        have Hf2 := Lib.hid f2
        have Hf3 := Lib.hid f3
        have Hf4 := Lib.hid f4
        have Hf5 := Lib.hid f5
        have Hf6 := Lib.hid f6
        have Hf7 := Lib.hid f7
        have Hf8 := Lib.hid f8
        have Hf9 := Lib.hid f9
        have Hf10 := Lib.hid f10
        have Hf11 := Lib.hid f11
        have Hf12 := Lib.hid f12
        have Hf13 := Lib.hid f13
        have Hf14 := Lib.hid f14
        have Hf15 := Lib.hid f15
        have Hf16 := Lib.hid f16
        have Hf17 := Lib.hid f17
        have Hf18 := Lib.hid f18
        have Hf19 := Lib.hid f19
        have Hf20 := Lib.hid f20
        have Hf21 := Lib.hid f21
        have Hf22 := Lib.hid f22
        have Hf23 := Lib.hid f23
        have Hf24 := Lib.hid f24
        have HhK := Lib.hid hK
        have Hhd := Lib.hid hd
        have HhJ := Lib.hid hJ
        clear hd hK hJ f0 f1 f2 f3 f4 f5 f6 f7 f8 f9 f10 f11 f12 f13 f14 f15 f16 f17 f18 f19 f20 f21 f22 f23 f24
        go_simp
        go_wp2_with (go_at_call 65; refine (pick_fr _ _ _ _ _ _ _ _ rd (by omega)).mono ?_; rintro e w9 ⟨x, rfl, ⟨x0, x1, _⟩, o9, r9⟩)
        have x1 := x1 (by omega)
        have f0 := Hf0.out
        have f1 := Hf1.out
        have f2 := Hf2.out
        have f3 := Hf3.out
        have f4 := Hf4.out
        have f5 := Hf5.out
        have f6 := Hf6.out
        have f7 := Hf7.out
        have f8 := Hf8.out
        have f9 := Hf9.out
        have f10 := Hf10.out
        have f11 := Hf11.out
        have f12 := Hf12.out
        have f13 := Hf13.out
        have f14 := Hf14.out
        have f15 := Hf15.out
        have f16 := Hf16.out
        have f17 := Hf17.out
        have f18 := Hf18.out
        have f19 := Hf19.out
        have f20 := Hf20.out
        have f21 := Hf21.out
        have f22 := Hf22.out
        have f23 := Hf23.out
        have f24 := Hf24.out
        have hK := HhK.out
        have hd := Hhd.out
        have hJ := HhJ.out
        exact hK _ _ ⟨[u27, u28, u29, u30, u31, u32, u33, u34, u35, u36, u37, u38, u39, u40, (.pointer (some ⟨w.heap.size, 0, none⟩)), (.int .i64 x), u43, u44, u45, u46, u2, u3, u4, u5, u6], rfl, by kernel_rfl, _, _, _, _, _, _, _, _, _, _, _, _, _, _, _, _, _, _, _, _, _, _, _, _, _, rfl, ⟨kO.trans (Onb.of_onl o9), p + 1, (by have e := hp; rw [hd] at e; show p + 1 ≤ p2 + 2 * ((D 8).toNat + true.toNat); simp only [Bool.toNat_true, Bool.toNat_false] at e ⊢; omega), r9⟩, f0, f1, f2, f3, f4, f5, f6, f7, f8, f9, f10, f11, (fun h => ((f12 h)).onb (Onb.of_onl o9) hg3), (fun h => ((f13 h)).onb (Onb.of_onl o9) hg3), (fun _ => rfl), (fun _ => ⟨x, rfl, x0, by omega⟩), (fun h => ((f16 h)).onb (Onb.of_onl o9) hg3), f17, (fun h => ((f18 h)).onb (Onb.of_onl o9) hg3), f19, f20, f21, f22, f23, f24⟩
      · simp only [List.getElem?_cons_zero, List.getElem?_cons_succ, Option.some.injEq] at ho
        subst ho
        clear hi'
        have d13 : D 13 = true := hdep ⟨13, Ground.data⟩ (by simp) rfl
        have d15 : D 15 = true := hdep ⟨15, Ground.data⟩ (by simp) rfl
        clear hdep
        have hI := hJ
        obtain ⟨b, rfl, hl, hb⟩ := f13 d13
        obtain ⟨x, rfl, x0, x1⟩ := f15 d15
        refine wpOp_step rfl (fun K hK => ?_)
        simp only [List.zip_cons_cons, List.zip_nil_right, puts]
        have Hf0 := Lib.hid f0
        have Hf1 := Lib.hid f1
        have Hf2 := Lib.hid f2
        have Hf3 := Lib.hid f3
        have Hf4 := Lib.hid f4
        have Hf5 := Lib.hid f5
        have Hf6 := Lib.hid f6
        have Hf7 := Lib.hid f7
        have Hf8 := Lib.hid f8
        have Hf9 := Lib.hid f9
        have Hf10 := Lib.hid f10
        have Hf11 := Lib.hid f11
        have Hf12 := Lib.hid f12
        have Hf13 := Lib.hid f13
        have Hf14 := Lib.hid f14
        have Hf15 := Lib.hid f15
        have Hf16 := Lib.hid f16
        have Hf17 := Lib.hid f17
        have Hf18 := Lib.hid f18
        have Hf19 := Lib.hid f19
        have Hf20 := Lib.hid f20
        have Hf21 := Lib.hid f21
        have Hf22 := Lib.hid f22
        have Hf23 := Lib.hid f23
        have Hf24 := Lib.hid f24
        have HhK := Lib.hid hK
        have Hhd := Lib.hid hd
        have HhJ := Lib.hid hJ
        clear hd hK hJ f0 f1 f2 f3 f4 f5 f6 f7 f8 f9 f10 f11 f12 f13 f14 f15 f16 f17 f18 f19 f20 f21 f22 f23 f24
        go_simp
        have f0 := Hf0.out
        have f1 := Hf1.out
        have f2 := Hf2.out
        have f3 := Hf3.out
        have f4 := Hf4.out
        have f5 := Hf5.out
        have f6 := Hf6.out
        have f7 := Hf7.out
        have f8 := Hf8.out
        have f9 := Hf9.out
        have f10 := Hf10.out
        have f11 := Hf11.out
        have f12 := Hf12.out
        have f13 := Hf13.out
        have f14 := Hf14.out
        have f15 := Hf15.out
        have f16 := Hf16.out
        have f17 := Hf17.out
        have f18 := Hf18.out
        have f19 := Hf19.out
        have f20 := Hf20.out
        have f21 := Hf21.out
        have f22 := Hf22.out
        have f23 := Hf23.out
        have f24 := Hf24.out
        have hK := HhK.out
        have hd := Hhd.out
        have hJ := HhJ.out
        exact hK _ _ ⟨[u27, u28, u29, u30, u31, u32, u33, u34, u35, u36, u37, u38, u39, (.slice (some ⟨b, 0, none⟩) 7 7), u41, (.int .i64 x), (.pointer (some ⟨b, x.toNat, none⟩)), u44, u45, u46, u2, u3, u4, u5, u6], rfl, by kernel_rfl, _, _, _, _, _, _, _, _, _, _, _, _, _, _, _, _, _, _, _, _, _, _, _, _, _, rfl, hI, f0, f1, f2, f3, f4, f5, f6, f7, f8, f9, f10, f11, f12, f13, f14, f15, (fun _ => ⟨_, x.toNat, rfl, by omega, hl, hb⟩), f17, f18, f19, f20, f21, f22, f23, f24⟩
      · simp only [List.getElem?_cons_zero, List.getElem?_cons_succ, Option.some.injEq] at ho
        subst ho
        clear hi'
        have d16 : D 16 = true := hdep ⟨16, Ground.data⟩ (by simp) rfl
        clear hdep
        have hI := hJ
        obtain ⟨b, t, rfl, t1, hl, hb⟩ := f16 d16
        obtain ⟨x, hx, x0, x1⟩ := blk7_at hb t1
        refine wpOp_step rfl (fun K hK => ?_)
        simp only [List.zip_cons_cons, List.zip_nil_right, puts]
        have Hf0 := Lib.hid f0
        have Hf1 := Lib.hid f1
        have Hf2 := Lib.hid f2
        have Hf3 := Lib.hid f3
        have Hf4 := Lib.hid f4
        have Hf5 := Lib.hid f5
        have Hf6 := Lib.hid f6
        have Hf7 := Lib.hid f7
        have Hf8 := Lib.hid f8
        have Hf9 := Lib.hid f9
        have Hf10 := Lib.hid f10
        have Hf11 := Lib.hid f11
        have Hf12 := Lib.hid f12
        have Hf13 := Lib.hid f13
        have Hf14 := Lib.hid f14
        have Hf15 := Lib.hid f15
        have Hf16 := Lib.hid f16
        have Hf17 := Lib.hid f17
        have Hf18 := Lib.hid f18
        have Hf19 := Lib.hid f19
        have Hf20 := Lib.hid f20
        have Hf21 := Lib.hid f21
        have Hf22 := Lib.hid f22
        have Hf23 := Lib.hid f23
        have Hf24 := Lib.hid f24
        have HhK := Lib.hid hK
        have Hhd := Lib.hid hd
        have HhJ := Lib.hid hJ
        clear hd hK hJ f0 f1 f2 f3 f4 f5 f6 f7 f8 f9 f10 f11 f12 f13 f14 f15 f16 f17 f18 f19 f20 f21 f22 f23 f24
        go_simp
        have f0 := Hf0.out
        have f1 := Hf1.out
        have f2 := Hf2.out
        have f3 := Hf3.out
        have f4 := Hf4.out
        have f5 := Hf5.out
        have f6 := Hf6.out
        have f7 := Hf7.out
        have f8 := Hf8.out
        have f9 := Hf9.out
        have f10 := Hf10.out
        have f11 := Hf11.out
        have f12 := Hf12.out
        have f13 := Hf13.out
        have f14 := Hf14.out
        have f15 := Hf15.out
        have f16 := Hf16.out
        have f17 := Hf17.out
        have f18 := Hf18.out
        have f19 := Hf19.out
        have f20 := Hf20.out
        have f21 := Hf21.out
        have f22 := Hf22.out
        have f23 := Hf23.out
        have f24 := Hf24.out
        have hK := HhK.out
        have hd := Hhd.out
        have hJ := HhJ.out
        exact hK _ _ ⟨[u27, u28, u29, u30, u31, u32, u33, u34, u35, u36, u37, u38, u39, u40, u41, u42, (.pointer (some ⟨b, t, none⟩)), (.int .i64 x), u45, u46, u2, u3, u4, u5, u6], rfl, by kernel_rfl, _, _, _, _, _, _, _, _, _, _, _, _, _, _, _, _, _, _, _, _, _, _, _, _, _, rfl, hI, f0, f1, f2, f3, f4, f5, f6, f7, f8, f9, f10, f11, f12, f13, f14, f15, f16, (fun _ => ⟨_, rfl, x0, x1⟩), f18, f19, f20, f21, f22, f23, f24⟩
      · simp only [List.getElem?_cons_zero, List.getElem?_cons_succ, Option.some.injEq] at ho
        subst ho
        clear hi'
        have d12 : D 12 = true := hdep ⟨12, Ground.data⟩ (by simp) rfl
        have d17 : D 17 = true := hdep ⟨17, Ground.data⟩ (by simp) rfl
        clear hdep
        have hI := hJ
        obtain ⟨b, y, rfl, hy, hl, hb⟩ := f12 d12
        obtain ⟨t, rfl, t0, t1⟩ := f17 d17
        refine wpOp_step rfl (fun K hK => ?_)
        simp only [List.zip_cons_cons, List.zip_nil_right, puts]
        have Hf0 := Lib.hid f0
        have Hf1 := Lib.hid f1
        have Hf2 := Lib.hid f2
        have Hf3 := Lib.hid f3
        have Hf4 := Lib.hid f4
        have Hf5 := Lib.hid f5
        have Hf6 := Lib.hid f6
        have Hf7 := Lib.hid f7
        have Hf8 := Lib.hid f8
        have Hf9 := Lib.hid f9
        have Hf10 := Lib.hid f10
        have Hf11 := Lib.hid f11
        have Hf12 := Lib.hid f12
        have Hf13 := Lib.hid f13
        have Hf14 := Lib.hid f14
        have Hf15 := Lib.hid f15
        have Hf16 := Lib.hid f16
        have Hf17 := Lib.hid f17
        have Hf18 := Lib.hid f18
        have Hf19 := Lib.hid f19
        have Hf20 := Lib.hid f20
        have Hf21 := Lib.hid f21
        have Hf22 := Lib.hid f22
        have Hf23 := Lib.hid f23
        have Hf24 := Lib.hid f24
        have HhK := Lib.hid hK
        have Hhd := Lib.hid hd
        have HhJ := Lib.hid hJ
        clear hd hK hJ f0 f1 f2 f3 f4 f5 f6 f7 f8 f9 f10 f11 f12 f13 f14 f15 f16 f17 f18 f19 f20 f21 f22 f23 f24
        go_simp
        have f0 := Hf0.out
        have f1 := Hf1.out
        have f2 := Hf2.out
        have f3 := Hf3.out
        have f4 := Hf4.out
        have f5 := Hf5.out
        have f6 := Hf6.out
        have f7 := Hf7.out
        have f8 := Hf8.out
        have f9 := Hf9.out
        have f10 := Hf10.out
        have f11 := Hf11.out
        have f12 := Hf12.out
        have f13 := Hf13.out
        have f14 := Hf14.out
        have f15 := Hf15.out
        have f16 := Hf16.out
        have f17 := Hf17.out
        have f18 := Hf18.out
        have f19 := Hf19.out
        have f20 := Hf20.out
        have f21 := Hf21.out
        have f22 := Hf22.out
        have f23 := Hf23.out
        have f24 := Hf24.out
        have hK := HhK.out
        have hd := Hhd.out
        have hJ := HhJ.out
        exact hK _ _ ⟨[u27, u28, u29, u30, u31, u32, u33, u34, u35, u36, u37, u38, (.slice (some ⟨b, 0, none⟩) 4 4), u40, u41, u42, u43, (.int .i64 t), (.pointer (some ⟨b, t.toNat, none⟩)), u46, u2, u3, u4, u5, u6], rfl, by kernel_rfl, _, _, _, _, _, _, _, _, _, _, _, _, _, _, _, _, _, _, _, _, _, _, _, _, _, rfl, hI, f0, f1, f2, f3, f4, f5, f6, f7, f8, f9, f10, f11, f12, f13, f14, f15, f16, f17, (fun _ => ⟨_, t.toNat, y, rfl, by omega, hy, hl, hb⟩), f19, f20, f21, f22, f23, f24⟩
      · simp only [List.getElem?_cons_zero, List.getElem?_cons_succ, Option.some.injEq] at ho
        subst ho
        clear hi'
        have d18 : D 18 = true := hdep ⟨18, Ground.data⟩ (by simp) rfl
        clear hdep
        have hI := hJ
        obtain ⟨b, t, y, rfl, t1, hy, hl, hb⟩ := f18 d18
        obtain ⟨x, hx, x0⟩ := blk4_at hb t1 hy
        refine wpOp_step rfl (fun K hK => ?_)
        simp only [List.zip_cons_cons, List.zip_nil_right, puts]
        have Hf0 := Lib.hid f0
        have Hf1 := Lib.hid f1
        have Hf2 := Lib.hid f2
        have Hf3 := Lib.hid f3
        have Hf4 := Lib.hid f4
        have Hf5 := Lib.hid f5
        have Hf6 := Lib.hid f6
        have Hf7 := Lib.hid f7
        have Hf8 := Lib.hid f8
        have Hf9 := Lib.hid f9
        have Hf10 := Lib.hid f10
        have Hf11 := Lib.hid f11
        have Hf12 := Lib.hid f12
        have Hf13 := Lib.hid f13
        have Hf14 := Lib.hid f14
        have Hf15 := Lib.hid f15
        have Hf16 := Lib.hid f16
        have Hf17 := Lib.hid f17
        have Hf18 := Lib.hid f18
        have Hf19 := Lib.hid f19
        have Hf20 := Lib.hid f20
        have Hf21 := Lib.hid f21
        have Hf22 := Lib.hid f22
        have Hf23 := Lib.hid f23
        have Hf24 := Lib.hid f24
        have HhK := Lib.hid hK
        have Hhd := Lib.hid hd
        have HhJ := Lib.hid hJ
        clear hd hK hJ f0 f1 f2 f3 f4 f5 f6 f7 f8 f9 f10 f11 f12 f13 f14 f15 f16 f17 f18 f19 f20 f21 f22 f23 f24
        go_simp
        have f0 := Hf0.out
        have f1 := Hf1.out
        have f2 := Hf2.out
        have f3 := Hf3.out
        have f4 := Hf4.out
        have f5 := Hf5.out
        have f6 := Hf6.out
        have f7 := Hf7.out
        have f8 := Hf8.out
        have f9 := Hf9.out
        have f10 := Hf10.out
        have f11 := Hf11.out
        have f12 := Hf12.out
        have f13 := Hf13.out
        have f14 := Hf14.out
        have f15 := Hf15.out
        have f16 := Hf16.out
        have f17 := Hf17.out
        have f18 := Hf18.out
        have f19 := Hf19.out
        have f20 := Hf20.out
        have f21 := Hf21.out
        have f22 := Hf22.out
        have f23 := Hf23.out
        have f24 := Hf24.out
        have hK := HhK.out
        have hd := Hhd.out
        have hJ := HhJ.out
        exact hK _ _ ⟨[u27, u28, u29, u30, u31, u32, u33, u34, u35, u36, u37, u38, u39, u40, u41, u42, u43, u44, (.pointer (some ⟨b, t, none⟩)), (.int .i64 x), u2, u3, u4, u5, u6], rfl, by kernel_rfl, _, _, _, _, _, _, _, _, _, _, _, _, _, _, _, _, _, _, _, _, _, _, _, _, _, rfl, hI, f0, f1, f2, f3, f4, f5, f6, f7, f8, f9, f10, f11, f12, f13, f14, f15, f16, f17, f18, (fun _ => ⟨_, rfl, x0⟩), f20, f21, f22, f23, f24⟩
      · simp only [List.getElem?_cons_zero, List.getElem?_cons_succ, Option.some.injEq] at ho
        subst ho
        clear hi'
        have d0 : D 0 = true := hdep ⟨0, Ground.data⟩ (by simp) rfl
        clear hdep
        have hI := hJ
        obtain rfl := f0 d0
        refine wpOp_step rfl (fun K hK => ?_)
        simp only [List.zip_cons_cons, List.zip_nil_right, puts]
        have Hf0 := Lib.hid f0
        have Hf1 := Lib.hid f1
        have Hf2 := Lib.hid f2
        have Hf3 := Lib.hid f3
        have Hf4 := Lib.hid f4
        have Hf5 := Lib.hid f5
        have Hf6 := Lib.hid f6
        have Hf7 := Lib.hid f7
        have Hf8 := Lib.hid f8
        have Hf9 := Lib.hid f9
        have Hf10 := Lib.hid f10
        have Hf11 := Lib.hid f11
        have Hf12 := Lib.hid f12
        have Hf13 := Lib.hid f13
        have Hf14 := Lib.hid f14
        have Hf15 := Lib.hid f15
        have Hf16 := Lib.hid f16
        have Hf17 := Lib.hid f17
        have Hf18 := Lib.hid f18
        have Hf19 := Lib.hid f19
        have Hf20 := Lib.hid f20
        have Hf21 := Lib.hid f21
        have Hf22 := Lib.hid f22
        have Hf23 := Lib.hid f23
        have Hf24 := Lib.hid f24
        have HhK := Lib.hid hK
        have Hhd := Lib.hid hd
        have HhJ := Lib.hid hJ
        clear hd hK hJ f0 f1 f2 f3 f4 f5 f6 f7 f8 f9 f10 f11 f12 f13 f14 f15 f16 f17 f18 f19 f20 f21 f22 f23 f24
        go_simp
        have f0 := Hf0.out
        have f1 := Hf1.out
        have f2 := Hf2.out
        have f3 := Hf3.out
        have f4 := Hf4.out
        have f5 := Hf5.out
        have f6 := Hf6.out
        have f7 := Hf7.out
        have f8 := Hf8.out
        have f9 := Hf9.out
        have f10 := Hf10.out
        have f11 := Hf11.out
        have f12 := Hf12.out
        have f13 := Hf13.out
        have f14 := Hf14.out
        have f15 := Hf15.out
        have f16 := Hf16.out
        have f17 := Hf17.out
        have f18 := Hf18.out
        have f19 := Hf19.out
        have f20 := Hf20.out
        have f21 := Hf21.out
        have f22 := Hf22.out
        have f23 := Hf23.out
        have f24 := Hf24.out
        have hK := HhK.out
        have hd := Hhd.out
        have hJ := HhJ.out
        exact hK _ _ ⟨[(.int .i64 f), u28, u29, u30, u31, u32, u33, u34, u35, u36, u37, u38, u39, u40, u41, u42, u43, u44, u45, u46, (.int .i64 f), u3, u4, u5, u6], rfl, by kernel_rfl, _, _, _, _, _, _, _, _, _, _, _, _, _, _, _, _, _, _, _, _, _, _, _, _, _, rfl, hI, (fun _ => rfl), f1, f2, f3, f4, f5, f6, f7, f8, f9, f10, f11, f12, f13, f14, f15, f16, f17, f18, f19, (fun _ => rfl), f21, f22, f23, f24⟩
      · simp only [List.getElem?_cons_zero, List.getElem?_cons_succ, Option.some.injEq] at ho
        subst ho
        clear hi'
        have d1 : D 1 = true := hdep ⟨1, Ground.data⟩ (by simp) rfl
        clear hdep
        have hI := hJ
        obtain rfl := f1 d1
        refine wpOp_step rfl (fun K hK => ?_)
        simp only [List.zip_cons_cons, List.zip_nil_right, puts]
        have Hf0 := Lib.hid f0
        have Hf1 := Lib.hid f1
        have Hf2 := Lib.hid f2
        have Hf3 := Lib.hid f3
        have Hf4 := Lib.hid f4
        have Hf5 := Lib.hid f5
        have Hf6 := Lib.hid f6
        have Hf7 := Lib.hid f7
        have Hf8 := Lib.hid f8
        have Hf9 := Lib.hid f9
        have Hf10 := Lib.hid f10
        have Hf11 := Lib.hid f11
        have Hf12 := Lib.hid f12
        have Hf13 := Lib.hid f13
        have Hf14 := Lib.hid f14
        have Hf15 := Lib.hid f15
        have Hf16 := Lib.hid f16
        have Hf17 := Lib.hid f17
        have Hf18 := Lib.hid f18
        have Hf19 := Lib.hid f19
        have Hf20 := Lib.hid f20
        have Hf21 := Lib.hid f21
        have Hf22 := Lib.hid f22
        have Hf23 := Lib.hid f23
        have Hf24 := Lib.hid f24
        have HhK := Lib.hid hK
        have Hhd := Lib.hid hd
        have HhJ := Lib.hid hJ
        clear hd hK hJ f0 f1 f2 f3 f4 f5 f6 f7 f8 f9 f10 f11 f12 f13 f14 f15 f16 f17 f18 f19 f20 f21 f22 f23 f24
        go_simp
        have f0 := Hf0.out
        have f1 := Hf1.out
        have f2 := Hf2.out
        have f3 := Hf3.out
        have f4 := Hf4.out
        have f5 := Hf5.out
        have f6 := Hf6.out
        have f7 := Hf7.out
        have f8 := Hf8.out
        have f9 := Hf9.out
        have f10 := Hf10.out
        have f11 := Hf11.out
        have f12 := Hf12.out
        have f13 := Hf13.out
        have f14 := Hf14.out
        have f15 := Hf15.out
        have f16 := Hf16.out
        have f17 := Hf17.out
        have f18 := Hf18.out
        have f19 := Hf19.out
        have f20 := Hf20.out
        have f21 := Hf21.out
        have f22 := Hf22.out
        have f23 := Hf23.out
        have f24 := Hf24.out
        have hK := HhK.out
        have hd := Hhd.out
        have hJ := HhJ.out
        exact hK _ _ ⟨[u27, (.slice A2 l.length c2), u29, u30, u31, u32, u33, u34, u35, u36, u37, u38, u39, u40, u41, u42, u43, u44, u45, u46, u2, (.slice A2 l.length c2), u4, u5, u6], rfl, by kernel_rfl, _, _, _, _, _, _, _, _, _, _, _, _, _, _, _, _, _, _, _, _, _, _, _, _, _, rfl, hI, f0, (fun _ => rfl), f2, f3, f4, f5, f6, f7, f8, f9, f10, f11, f12, f13, f14, f15, f16, f17, f18, f19, f20, (fun _ => rfl), f22, f23, f24⟩
      · simp only [List.getElem?_cons_zero, List.getElem?_cons_succ, Option.some.injEq] at ho
        subst ho
        clear hi'
        have d2 : D 2 = true := hdep ⟨2, Ground.data⟩ (by simp) rfl
        clear hdep
        have hI := hJ
        obtain rfl := f2 d2
        refine wpOp_step rfl (fun K hK => ?_)
        simp only [List.zip_cons_cons, List.zip_nil_right, puts]
        have Hf0 := Lib.hid f0
        have Hf1 := Lib.hid f1
        have Hf2 := Lib.hid f2
        have Hf3 := Lib.hid f3
        have Hf4 := Lib.hid f4
        have Hf5 := Lib.hid f5
        have Hf6 := Lib.hid f6
        have Hf7 := Lib.hid f7
        have Hf8 := Lib.hid f8
        have Hf9 := Lib.hid f9
        have Hf10 := Lib.hid f10
        have Hf11 := Lib.hid f11
        have Hf12 := Lib.hid f12
        have Hf13 := Lib.hid f13
        have Hf14 := Lib.hid f14
        have Hf15 := Lib.hid f15
        have Hf16 := Lib.hid f16
        have Hf17 := Lib.hid f17
        have Hf18 := Lib.hid f18
        have Hf19 := Lib.hid f19
        have Hf20 := Lib.hid f20
        have Hf21 := Lib.hid f21
        have Hf22 := Lib.hid f22
        have Hf23 := Lib.hid f23
        have Hf24 := Lib.hid f24
        have HhK := Lib.hid hK
        have Hhd := Lib.hid hd
        have HhJ := Lib.hid hJ
        clear hd hK hJ f0 f1 f2 f3 f4 f5 f6 f7 f8 f9 f10 f11 f12 f13 f14 f15 f16 f17 f18 f19 f20 f21 f22 f23 f24
        go_simp
        have f0 := Hf0.out
        have f1 := Hf1.out
        have f2 := Hf2.out
        have f3 := Hf3.out
        have f4 := Hf4.out
        have f5 := Hf5.out
        have f6 := Hf6.out
        have f7 := Hf7.out
        have f8 := Hf8.out
        have f9 := Hf9.out
        have f10 := Hf10.out
        have f11 := Hf11.out
        have f12 := Hf12.out
        have f13 := Hf13.out
        have f14 := Hf14.out
        have f15 := Hf15.out
        have f16 := Hf16.out
        have f17 := Hf17.out
        have f18 := Hf18.out
        have f19 := Hf19.out
        have f20 := Hf20.out
        have f21 := Hf21.out
        have f22 := Hf22.out
        have f23 := Hf23.out
        have f24 := Hf24.out
        have hK := HhK.out
        have hd := Hhd.out
        have hJ := HhJ.out
        exact hK _ _ ⟨[u27, u28, (.int .i64 lo), u30, u31, u32, u33, u34, u35, u36, u37, u38, u39, u40, u41, u42, u43, u44, u45, u46, u2, u3, (.int .i64 lo), u5, u6], rfl, by kernel_rfl, _, _, _, _, _, _, _, _, _, _, _, _, _, _, _, _, _, _, _, _, _, _, _, _, _, rfl, hI, f0, f1, (fun _ => rfl), f3, f4, f5, f6, f7, f8, f9, f10, f11, f12, f13, f14, f15, f16, f17, f18, f19, f20, f21, (fun _ => rfl), f23, f24⟩
      · simp only [List.getElem?_cons_zero, List.getElem?_cons_succ, Option.some.injEq] at ho
        subst ho
        clear hi'
        have d3 : D 3 = true := hdep ⟨3, Ground.data⟩ (by simp) rfl
        clear hdep
        have hI := hJ
        obtain rfl := f3 d3
        refine wpOp_step rfl (fun K hK => ?_)
        simp only [List.zip_cons_cons, List.zip_nil_right, puts]
        have Hf0 := Lib.hid f0
        have Hf1 := Lib.hid f1
        have Hf2 := Lib.hid f2
        have Hf3 := Lib.hid f3
        have Hf4 := Lib.hid f4
        have Hf5 := Lib.hid f5
        have Hf6 := Lib.hid f6
        have Hf7 := Lib.hid f7
        have Hf8 := Lib.hid f8
        have Hf9 := Lib.hid f9
        have Hf10 := Lib.hid f10
        have Hf11 := Lib.hid f11
        have Hf12 := Lib.hid f12
        have Hf13 := Lib.hid f13
        have Hf14 := Lib.hid f14
        have Hf15 := Lib.hid f15
        have Hf16 := Lib.hid f16
        have Hf17 := Lib.hid f17
        have Hf18 := Lib.hid f18
        have Hf19 := Lib.hid f19
        have Hf20 := Lib.hid f20
        have Hf21 := Lib.hid f21
        have Hf22 := Lib.hid f22
        have Hf23 := Lib.hid f23
        have Hf24 := Lib.hid f24
        have HhK := Lib.hid hK
        have Hhd := Lib.hid hd
        have HhJ := Lib.hid hJ
        clear hd hK hJ f0 f1 f2 f3 f4 f5 f6 f7 f8 f9 f10 f11 f12 f13 f14 f15 f16 f17 f18 f19 f20 f21 f22 f23 f24
        go_simp
        have f0 := Hf0.out
        have f1 := Hf1.out
        have f2 := Hf2.out
        have f3 := Hf3.out
        have f4 := Hf4.out
        have f5 := Hf5.out
        have f6 := Hf6.out
        have f7 := Hf7.out
        have f8 := Hf8.out
        have f9 := Hf9.out
        have f10 := Hf10.out
        have f11 := Hf11.out
        have f12 := Hf12.out
        have f13 := Hf13.out
        have f14 := Hf14.out
        have f15 := Hf15.out
        have f16 := Hf16.out
        have f17 := Hf17.out
        have f18 := Hf18.out
        have f19 := Hf19.out
        have f20 := Hf20.out
        have f21 := Hf21.out
        have f22 := Hf22.out
        have f23 := Hf23.out
        have f24 := Hf24.out
        have hK := HhK.out
        have hd := Hhd.out
        have hJ := HhJ.out
        exact hK _ _ ⟨[u27, u28, u29, (.int .i64 hi), u31, u32, u33, u34, u35, u36, u37, u38, u39, u40, u41, u42, u43, u44, u45, u46, u2, u3, u4, (.int .i64 hi), u6], rfl, by kernel_rfl, _, _, _, _, _, _, _, _, _, _, _, _, _, _, _, _, _, _, _, _, _, _, _, _, _, rfl, hI, f0, f1, f2, (fun _ => rfl), f4, f5, f6, f7, f8, f9, f10, f11, f12, f13, f14, f15, f16, f17, f18, f19, f20, f21, f22, (fun _ => rfl), f24⟩
      · simp only [List.getElem?_cons_zero, List.getElem?_cons_succ, Option.some.injEq] at ho
        subst ho
        clear hi'
        have d19 : D 19 = true := hdep ⟨19, Ground.data⟩ (by simp) rfl
        clear hdep
        have hI := hJ
        obtain ⟨x, rfl, x0⟩ := f19 d19
        refine wpOp_step rfl (fun K hK => ?_)
        simp only [List.zip_cons_cons, List.zip_nil_right, puts]
        have Hf0 := Lib.hid f0
        have Hf1 := Lib.hid f1
        have Hf2 := Lib.hid f2
        have Hf3 := Lib.hid f3
        have Hf4 := Lib.hid f4
        have Hf5 := Lib.hid f5
        have Hf6 := Lib.hid f6
        have Hf7 := Lib.hid f7
        have Hf8 := Lib.hid f8
        have Hf9 := Lib.hid f9
        have Hf10 := Lib.hid f10
        have Hf11 := Lib.hid f11
        have Hf12 := Lib.hid f12
        have Hf13 := Lib.hid f13
        have Hf14 := Lib.hid f14
        have Hf15 := Lib.hid f15
        have Hf16 := Lib.hid f16
        have Hf17 := Lib.hid f17
        have Hf18 := Lib.hid f18
        have Hf19 := Lib.hid f19
        have Hf20 := Lib.hid f20
        have Hf21 := Lib.hid f21
        have Hf22 := Lib.hid f22
        have Hf23 := Lib.hid f23
        have Hf24 := Lib.hid f24
        have HhK := Lib.hid hK
        have Hhd := Lib.hid hd
        have HhJ := Lib.hid hJ
        clear hd hK hJ f0 f1 f2 f3 f4 f5 f6 f7 f8 f9 f10 f11 f12 f13 f14 f15 f16 f17 f18 f19 f20 f21 f22 f23 f24
        go_simp
        have f0 := Hf0.out
        have f1 := Hf1.out
        have f2 := Hf2.out
        have f3 := Hf3.out
        have f4 := Hf4.out
        have f5 := Hf5.out
        have f6 := Hf6.out
        have f7 := Hf7.out
        have f8 := Hf8.out
        have f9 := Hf9.out
        have f10 := Hf10.out
        have f11 := Hf11.out
        have f12 := Hf12.out
        have f13 := Hf13.out
        have f14 := Hf14.out
        have f15 := Hf15.out
        have f16 := Hf16.out
        have f17 := Hf17.out
        have f18 := Hf18.out
        have f19 := Hf19.out
        have f20 := Hf20.out
        have f21 := Hf21.out
        have f22 := Hf22.out
        have f23 := Hf23.out
        have f24 := Hf24.out
        have hK := HhK.out
        have hd := Hhd.out
        have hJ := HhJ.out
        exact hK _ _ ⟨[u27, u28, u29, u30, u31, u32, u33, u34, u35, u36, u37, u38, u39, u40, u41, u42, u43, u44, u45, (.int .i64 x), u2, u3, u4, u5, (.int .i64 x)], rfl, by kernel_rfl, _, _, _, _, _, _, _, _, _, _, _, _, _, _, _, _, _, _, _, _, _, _, _, _, _, rfl, hI, f0, f1, f2, f3, f4, f5, f6, f7, f8, f9, f10, f11, f12, f13, f14, f15, f16, f17, f18, f19, f20, f21, f22, f23, (fun _ => ⟨_, rfl, x0⟩)⟩
    · rintro D us W hu hall ⟨u27, u28, u29, u30, u31, u32, u33, u34, u35, u36, u37, u38, u39, u40, u41, u42, u43, u44, u45, u46, u2, u3, u4, u5, u6, rfl, hJ, f0, f1, f2, f3, f4, f5, f6, f7, f8, f9, f10, f11, f12, f13, f14, f15, f16, f17, f18, f19, f20, f21, f22, f23, f24⟩
      have d0 : D 0 = true := hall 0 (by simp)
      have d1 : D 1 = true := hall 1 (by simp)
      have d2 : D 2 = true := hall 2 (by simp)
      have d3 : D 3 = true := hall 3 (by simp)
      have d4 : D 4 = true := hall 4 (by simp)
      have d5 : D 5 = true := hall 5 (by simp)
      have d6 : D 6 = true := hall 6 (by simp)
      have d7 : D 7 = true := hall 7 (by simp)
      have d8 : D 8 = true := hall 8 (by simp)
      have d9 : D 9 = true := hall 9 (by simp)
      have d10 : D 10 = true := hall 10 (by simp)
      have d11 : D 11 = true := hall 11 (by simp)
      have d12 : D 12 = true := hall 12 (by simp)
      have d13 : D 13 = true := hall 13 (by simp)
      have d14 : D 14 = true := hall 14 (by simp)
      have d15 : D 15 = true := hall 15 (by simp)
      have d16 : D 16 = true := hall 16 (by simp)
      have d17 : D 17 = true := hall 17 (by simp)
      have d18 : D 18 = true := hall 18 (by simp)
      have d19 : D 19 = true := hall 19 (by simp)
      have d20 : D 20 = true := hall 20 (by simp)
      have d21 : D 21 = true := hall 21 (by simp)
      have d22 : D 22 = true := hall 22 (by simp)
      have d23 : D 23 = true := hall 23 (by simp)
      have d24 : D 24 = true := hall 24 (by simp)
      have hI := hJ
      clear hJ
      have v20 := f20 d20
      have v21 := f21 d21
      have v22 := f22 d22
      have v23 := f23 d23
      obtain ⟨num, v24, hnum⟩ := f24 d24
      obtain ⟨kz, p9, hp9, rd9⟩ := hI
      clear f0 f1 f2 f3 f4 f5 f6 f7 f8 f9 f10 f11 f12 f13 f14 f15 f16 f17 f18 f19 f20 f21 f22 f23 f24 d0 d1 d2 d3 d4 d5 d6 d7 d8 d9 d10 d11 d12 d13 d14 d15 d16 d17 d18 d19 d20 d21 d22 d23 d24 hall hu rd9 hp9
      subst v20 v21 v22 v23 v24
      simp only [List.zip_cons_cons, List.zip_nil_right, puts]
      have hrz := own_rowT9 (own_onb OWN3.out kz hg)
      have hbz : Below w.heap.size w W := (k3.trans kz).below (by omega) (by omega)
      go_wp2
      exact bodyPost_ret (v := .tuple #[.int .i64 f, .slice A2 l.length c2, .int .i64 lo, .int .i64 hi, .int .i64 num]) (by simp [results, Try.results38, go_sem]) rfl ⟨f, A2, c2, l, lo, hi, num, rfl, lc, cm, l6, hlo, hhi, by omega, hrz, hbz⟩
  · have hm1 : ¬ v < 256 := by omega
    refine region_slots (by kernel_rfl) (by kernel_rfl) [27, 28, 29, 30, 31, 32, 33, 34, 35, 36, 37, 38, 39, 40, 41, 42, 43, 44, 45, 46, 2, 3, 4, 5, 6] (fun D us W => ∃ u27 u28 u29 u30 u31 u32 u33 u34 u35 u36 u37 u38 u39 u40 u41 u42 u43 u44 u45 u46 u2 u3 u4 u5 u6 : Value, us = [u27, u28, u29, u30, u31, u32, u33, u34, u35, u36, u37, u38, u39, u40, u41, u42, u43, u44, u45, u46, u2, u3, u4, u5, u6] ∧ (Onb w.heap.size w3 W ∧ ∃ p : Nat, p ≤ p2 + 2 * ((D 8).toNat + (D 15).toNat) ∧ Rd W w.heap.size w.heap.size A len' cap p) ∧ (D 0 = true → u27 = .int .i64 f) ∧ (D 1 = true → u28 = .slice A2 l.length c2) ∧ (D 2 = true → u29 = .int .i64 lo) ∧ (D 3 = true → u30 = .int .i64 hi) ∧ (D 4 = true → u31 = .pointer (some ⟨w.heap.size, 0, none⟩)) ∧ (D 5 = true → u32 = .int .i64 v) ∧ (D 6 = true → u33 = .int .i64 256) ∧ (D 7 = true → u34 = .int .i64 256) ∧ (D 8 = true → FInt 0 256 u35) ∧ (D 9 = true → u36 = .int .i64 v) ∧ (D 10 = true → u37 = .int .i64 (v - 1)) ∧ (D 11 = true → u38 = .int .i64 v) ∧ (D 12 = true → FL4 v w3.heap.size W u39) ∧ (D 13 = true → FL7 w3.heap.size W u40) ∧ (D 14 = true → u41 = .pointer (some ⟨w.heap.size, 0, none⟩)) ∧ (D 15 = true → FInt 0 7 u42) ∧ (D 16 = true → FP7 w3.heap.size W u43) ∧ (D 17 = true → FInt 0 4 u44) ∧ (D 18 = true → FP4 v w3.heap.size W u45) ∧ (D 19 = true → FAny v u46) ∧ (D 20 = true → u2 = .int .i64 f) ∧ (D 21 = true → u3 = .slice A2 l.length c2) ∧ (D 22 = true → u4 = .int .i64 lo) ∧ (D 23 = true → u5 = .int .i64 hi) ∧ (D 24 = true → FAny v u6)) ?_ ?_ ?_
    · intro us hu
      obtain ⟨u27, u28, u29, u30, u31, u32, u33, u34, u35, u36, u37, u38, u39, u40, u41, u42, u43, u44, u45, u46, u2, u3, u4, u5, u6, rfl⟩ : ∃ u27 u28 u29 u30 u31 u32 u33 u34 u35 u36 u37 u38 u39 u40 u41 u42 u43 u44 u45 u46 u2 u3 u4 u5 u6, us = [u27, u28, u29, u30, u31, u32, u33, u34, u35, u36, u37, u38, u39, u40, u41, u42, u43, u44, u45, u46, u2, u3, u4, u5, u6] := by
        match us, hu with
        | [u27, u28, u29, u30, u31, u32, u33, u34, u35, u36, u37, u38, u39, u40, u41, u42, u43, u44, u45, u46, u2, u3, u4, u5, u6], _ => exact ⟨_, _, _, _, _, _, _, _, _, _, _, _, _, _, _, _, _, _, _, _, _, _, _, _, _, rfl⟩
      exact ⟨_, _, _, _, _, _, _, _, _, _, _, _, _, _, _, _, _, _, _, _, _, _, _, _, _, rfl, ⟨(Onb.refl w.heap.size w3).drew, p2, by omega, r3.drew⟩, fun h => absurd h (by simp), fun h => absurd h (by simp), fun h => absurd h (by simp), fun h => absurd h (by simp), fun h => absurd h (by simp), fun h => absurd h (by simp), fun h => absurd h (by simp), fun h => absurd h (by simp), fun h => absurd h (by simp), fun h => absurd h (by simp), fun h => absurd h (by simp), fun h => absurd h (by simp), fun h => absurd h (by simp), fun h => absurd h (by simp), fun h => absurd h (by simp), fun h => absurd h (by simp), fun h => absurd h (by simp), fun h => absurd h (by simp), fun h => absurd h (by simp), fun h => absurd h (by simp), fun h => absurd h (by simp), fun h => absurd h (by simp), fun h => absurd h (by simp), fun h => absurd h (by simp), fun h => absurd h (by simp)⟩
    · rintro i o hi ho D us W hu hd hdep ⟨u27, u28, u29, u30, u31, u32, u33, u34, u35, u36, u37, u38, u39, u40, u41, u42, u43, u44, u45, u46, u2, u3, u4, u5, u6, rfl, hJ, f0, f1, f2, f3, f4, f5, f6, f7, f8, f9, f10, f11, f12, f13, f14, f15, f16, f17, f18, f19, f20, f21, f22, f23, f24⟩
      have hi' : i < 25 := by simpa using hi
      clear hi hu
      rcases (show i = 0 ∨ i = 1 ∨ i = 2 ∨ i = 3 ∨ i = 4 ∨ i = 5 ∨ i = 6 ∨ i = 7 ∨ i = 8 ∨ i = 9 ∨ i = 10 ∨ i = 11 ∨ i = 12 ∨ i = 13 ∨ i = 14 ∨ i = 15 ∨ i = 16 ∨ i = 17 ∨ i = 18 ∨ i = 19 ∨ i = 20 ∨ i = 21 ∨ i = 22 ∨ i = 23 ∨ i = 24 from by omega) with rfl | rfl | rfl | rfl | rfl | rfl | rfl | rfl | rfl | rfl | rfl | rfl | rfl | rfl | rfl | rfl | rfl | rfl | rfl | rfl | rfl | rfl | rfl | rfl | rfl
      · simp only [List.getElem?_cons_zero, List.getElem?_cons_succ, Option.some.injEq] at ho
        subst ho
        clear hi'
        clear hdep
        have hI := hJ
        refine wpOp_step rfl (fun K hK => ?_)
        simp only [List.zip_cons_cons, List.zip_nil_right, puts]
        have Hf0 := Lib.hid f0
        have Hf1 := Lib.hid f1
        have Hf2 := Lib.hid f2
        have Hf3 := Lib.hid f3
        have Hf4 := Lib.hid f4
        have Hf5 := Lib.hid f5
        have Hf6 := Lib.hid f6
        have Hf7 := Lib.hid f7
        have Hf8 := Lib.hid f8
        have Hf9 := Lib.hid f9
        have Hf10 := Lib.hid f10
        have Hf11 := Lib.hid f11
        have Hf12 := Lib.hid f12
        have Hf13 := Lib.hid f13
        have Hf14 := Lib.hid f14
        have Hf15 := Lib.hid f15
        have Hf16 := Lib.hid f16
        have Hf17 := Lib.hid f17
        have Hf18 := Lib.hid f18
        have Hf19 := Lib.hid f19
        have Hf20 := Lib.hid f20
        have Hf21 := Lib.hid f21
        have Hf22 := Lib.hid f22
        have Hf23 := Lib.hid f23
        have Hf24 := Lib.hid f24
        have HhK := Lib.hid hK
        have Hhd := Lib.hid hd
        have HhJ := Lib.hid hJ
        clear hd hK hJ f0 f1 f2 f3 f4 f5 f6 f7 f8 f9 f10 f11 f12 f13 f14 f15 f16 f17 f18 f19 f20 f21 f22 f23 f24
        go_simp
        have f0 := Hf0.out
        have f1 := Hf1.out
        have f2 := Hf2.out
        have f3 := Hf3.out
        have f4 := Hf4.out
        have f5 := Hf5.out
        have f6 := Hf6.out
        have f7 := Hf7.out
        have f8 := Hf8.out
        have f9 := Hf9.out
        have f10 := Hf10.out
        have f11 := Hf11.out
        have f12 := Hf12.out
        have f13 := Hf13.out
        have f14 := Hf14.out
        have f15 := Hf15.out
        have f16 := Hf16.out
        have f17 := Hf17.out
        have f18 := Hf18.out
        have f19 := Hf19.out
        have f20 := Hf20.out
        have f21 := Hf21.out
        have f22 := Hf22.out
        have f23 := Hf23.out
        have f24 := Hf24.out
        have hK := HhK.out
        have hd := Hhd.out
        have hJ := HhJ.out
        exact hK _ _ ⟨[(.int .i64 f), u28, u29, u30, u31, u32, u33, u34, u35, u36, u37, u38, u39, u40, u41, u42, u43, u44, u45, u46, u2, u3, u4, u5, u6], rfl, by kernel_rfl, _, _, _, _, _, _, _, _, _, _, _, _, _, _, _, _, _, _, _, _, _, _, _, _, _, rfl, hI, (fun _ => rfl), f1, f2, f3, f4, f5, f6, f7, f8, f9, f10, f11, f12, f13, f14, f15, f16, f17, f18, f19, f20, f21, f22, f23, f24⟩
      · simp only [List.getElem?_cons_zero, List.getElem?_cons_succ, Option.some.injEq] at ho
        subst ho
        clear hi'
        clear hdep
        have hI := hJ
        refine wpOp_step rfl (fun K hK => ?_)
        simp only [List.zip_cons_cons, List.zip_nil_right, puts]
        have Hf0 := Lib.hid f0
        have Hf1 := Lib.hid f1
        have Hf2 := Lib.hid f2
        have Hf3 := Lib.hid f3
        have Hf4 := Lib.hid f4
        have Hf5 := Lib.hid f5
        have Hf6 := Lib.hid f6
        have Hf7 := Lib.hid f7
        have Hf8 := Lib.hid f8
        have Hf9 := Lib.hid f9
        have Hf10 := Lib.hid f10
        have Hf11 := Lib.hid f11
        have Hf12 := Lib.hid f12
        have Hf13 := Lib.hid f13
        have Hf14 := Lib.hid f14
        have Hf15 := Lib.hid f15
        have Hf16 := Lib.hid f16
        have Hf17 := Lib.hid f17
        have Hf18 := Lib.hid f18
        have Hf19 := Lib.hid f19
        have Hf20 := Lib.hid f20
        have Hf21 := Lib.hid f21
        have Hf22 := Lib.hid f22
        have Hf23 := Lib.hid f23
        have Hf24 := Lib.hid f24
        have HhK := Lib.hid hK
        have Hhd := Lib.hid hd
        have HhJ := Lib.hid hJ
        clear hd hK hJ f0 f1 f2 f3 f4 f5 f6 f7 f8 f9 f10 f11 f12 f13 f14 f15 f16 f17 f18 f19 f20 f21 f22 f23 f24
        go_simp
        have f0 := Hf0.out
        have f1 := Hf1.out
        have f2 := Hf2.out
        have f3 := Hf3.out
        have f4 := Hf4.out
        have f5 := Hf5.out
        have f6 := Hf6.out
        have f7 := Hf7.out
        have f8 := Hf8.out
        have f9 := Hf9.out
        have f10 := Hf10.out
        have f11 := Hf11.out
        have f12 := Hf12.out
        have f13 := Hf13.out
        have f14 := Hf14.out
        have f15 := Hf15.out
        have f16 := Hf16.out
        have f17 := Hf17.out
        have f18 := Hf18.out
        have f19 := Hf19.out
        have f20 := Hf20.out
        have f21 := Hf21.out
        have f22 := Hf22.out
        have f23 := Hf23.out
        have f24 := Hf24.out
        have hK := HhK.out
        have hd := Hhd.out
        have hJ := HhJ.out
        exact hK _ _ ⟨[u27, (.slice A2 l.length c2), u29, u30, u31, u32, u33, u34, u35, u36, u37, u38, u39, u40, u41, u42, u43, u44, u45, u46, u2, u3, u4, u5, u6], rfl, by kernel_rfl, _, _, _, _, _, _, _, _, _, _, _, _, _, _, _, _, _, _, _, _, _, _, _, _, _, rfl, hI, f0, (fun _ => rfl), f2, f3, f4, f5, f6, f7, f8, f9, f10, f11, f12, f13, f14, f15, f16, f17, f18, f19, f20, f21, f22, f23, f24⟩
      · simp only [List.getElem?_cons_zero, List.getElem?_cons_succ, Option.some.injEq] at ho
        subst ho
        clear hi'
        clear hdep
        have hI := hJ
        refine wpOp_step rfl (fun K hK => ?_)
        simp only [List.zip_cons_cons, List.zip_nil_right, puts]
        have Hf0 := Lib.hid f0
        have Hf1 := Lib.hid f1
        have Hf2 := Lib.hid f2
        have Hf3 := Lib.hid f3
        have Hf4 := Lib.hid f4
        have Hf5 := Lib.hid f5
        have Hf6 := Lib.hid f6
        have Hf7 := Lib.hid f7
        have Hf8 := Lib.hid f8
        have Hf9 := Lib.hid f9
        have Hf10 := Lib.hid f10
        have Hf11 := Lib.hid f11
        have Hf12 := Lib.hid f12
        have Hf13 := Lib.hid f13
        have Hf14 := Lib.hid f14
        have Hf15 := Lib.hid f15
        have Hf16 := Lib.hid f16
        have Hf17 := Lib.hid f17
        have Hf18 := Lib.hid f18
        have Hf19 := Lib.hid f19
        have Hf20 := Lib.hid f20
        have Hf21 := Lib.hid f21
        have Hf22 := Lib.hid f22
        have Hf23 := Lib.hid f23
        have Hf24 := Lib.hid f24
        have HhK := Lib.hid hK
        have Hhd := Lib.hid hd
        have HhJ := Lib.hid hJ
        clear hd hK hJ f0 f1 f2 f3 f4 f5 f6 f7 f8 f9 f10 f11 f12 f13 f14 f15 f16 f17 f18 f19 f20 f21 f22 f23 f24
        go_simp
        have f0 := Hf0.out
        have f1 := Hf1.out
        have f2 := Hf2.out
        have f3 := Hf3.out
        have f4 := Hf4.out
        have f5 := Hf5.out
        have f6 := Hf6.out
        have f7 := Hf7.out
        have f8 := Hf8.out
        have f9 := Hf9.out
        have f10 := Hf10.out
        have f11 := Hf11.out
        have f12 := Hf12.out
        have f13 := Hf13.out
        have f14 := Hf14.out
        have f15 := Hf15.out
        have f16 := Hf16.out
        have f17 := Hf17.out
        have f18 := Hf18.out
        have f19 := Hf19.out
        have f20 := Hf20.out
        have f21 := Hf21.out
        have f22 := Hf22.out
        have f23 := Hf23.out
        have f24 := Hf24.out
        have hK := HhK.out
        have hd := Hhd.out
        have hJ := HhJ.out
        exact hK _ _ ⟨[u27, u28, (.int .i64 lo), u30, u31, u32, u33, u34, u35, u36, u37, u38, u39, u40, u41, u42, u43, u44, u45, u46, u2, u3, u4, u5, u6], rfl, by kernel_rfl, _, _, _, _, _, _, _, _, _, _, _, _, _, _, _, _, _, _, _, _, _, _, _, _, _, rfl, hI, f0, f1, (fun _ => rfl), f3, f4, f5, f6, f7, f8, f9, f10, f11, f12, f13, f14, f15, f16, f17, f18, f19, f20, f21, f22, f23, f24⟩
      · simp only [List.getElem?_cons_zero, List.getElem?_cons_succ, Option.some.injEq] at ho
        subst ho
        clear hi'
        clear hdep
        have hI := hJ
        refine wpOp_step rfl (fun K hK => ?_)
        simp only [List.zip_cons_cons, List.zip_nil_right, puts]
        have Hf0 := Lib.hid f0
        have Hf1 := Lib.hid f1
        have Hf2 := Lib.hid f2
        have Hf3 := Lib.hid f3
        have Hf4 := Lib.hid f4
        have Hf5 := Lib.hid f5
        have Hf6 := Lib.hid f6
        have Hf7 := Lib.hid f7
        have Hf8 := Lib.hid f8
        have Hf9 := Lib.hid f9
        have Hf10 := Lib.hid f10
        have Hf11 := Lib.hid f11
        have Hf12 := Lib.hid f12
        have Hf13 := Lib.hid f13
        have Hf14 := Lib.hid f14
        have Hf15 := Lib.hid f15
        have Hf16 := Lib.hid f16
        have Hf17 := Lib.hid f17
        have Hf18 := Lib.hid f18
        have Hf19 := Lib.hid f19
        have Hf20 := Lib.hid f20
        have Hf21 := Lib.hid f21
        have Hf22 := Lib.hid f22
        have Hf23 := Lib.hid f23
        have Hf24 := Lib.hid f24
        have HhK := Lib.hid hK
        have Hhd := Lib.hid hd
        have HhJ := Lib.hid hJ
        clear hd hK hJ f0 f1 f2 f3 f4 f5 f6 f7 f8 f9 f10 f11 f12 f13 f14 f15 f16 f17 f18 f19 f20 f21 f22 f23 f24
        go_simp
        have f0 := Hf0.out
        have f1 := Hf1.out
        have f2 := Hf2.out
        have f3 := Hf3.out
        have f4 := Hf4.out
        have f5 := Hf5.out
        have f6 := Hf6.out
        have f7 := Hf7.out
        have f8 := Hf8.out
        have f9 := Hf9.out
        have f10 := Hf10.out
        have f11 := Hf11.out
        have f12 := Hf12.out
        have f13 := Hf13.out
        have f14 := Hf14.out
        have f15 := Hf15.out
        have f16 := Hf16.out
        have f17 := Hf17.out
        have f18 := Hf18.out
        have f19 := Hf19.out
        have f20 := Hf20.out
        have f21 := Hf21.out
        have f22 := Hf22.out
        have f23 := Hf23.out
        have f24 := Hf24.out
        have hK := HhK.out
        have hd := Hhd.out
        have hJ := HhJ.out
        exact hK _ _ ⟨[u27, u28, u29, (.int .i64 hi), u31, u32, u33, u34, u35, u36, u37, u38, u39, u40, u41, u42, u43, u44, u45, u46, u2, u3, u4, u5, u6], rfl, by kernel_rfl, _, _, _, _, _, _, _, _, _, _, _, _, _, _, _, _, _, _, _, _, _, _, _, _, _, rfl, hI, f0, f1, f2, (fun _ => rfl), f4, f5, f6, f7, f8, f9, f10, f11, f12, f13, f14, f15, f16, f17, f18, f19, f20, f21, f22, f23, f24⟩
      · simp only [List.getElem?_cons_zero, List.getElem?_cons_succ, Option.some.injEq] at ho
        subst ho
        clear hi'
        clear hdep
        have hI := hJ
        refine wpOp_step rfl (fun K hK => ?_)
        simp only [List.zip_cons_cons, List.zip_nil_right, puts]
        have Hf0 := Lib.hid f0
        have Hf1 := Lib.hid f1
        have Hf2 := Lib.hid f2
        have Hf3 := Lib.hid f3
        have Hf4 := Lib.hid f4
        have Hf5 := Lib.hid f5
        have Hf6 := Lib.hid f6
        have Hf7 := Lib.hid f7
        have Hf8 := Lib.hid f8
        have Hf9 := Lib.hid f9
        have Hf10 := Lib.hid f10
        have Hf11 := Lib.hid f11
        have Hf12 := Lib.hid f12
        have Hf13 := Lib.hid f13
        have Hf14 := Lib.hid f14
        have Hf15 := Lib.hid f15
        have Hf16 := Lib.hid f16
        have Hf17 := Lib.hid f17
        have Hf18 := Lib.hid f18
        have Hf19 := Lib.hid f19
        have Hf20 := Lib.hid f20
        have Hf21 := Lib.hid f21
        have Hf22 := Lib.hid f22
        have Hf23 := Lib.hid f23
        have Hf24 := Lib.hid f24
        have HhK := Lib.hid hK
        have Hhd := Lib.hid hd
        have HhJ := Lib.hid hJ
        clear hd hK hJ f0 f1 f2 f3 f4 f5 f6 f7 f8 f9 f10 f11 f12 f13 f14 f15 f16 f17 f18 f19 f20 f21 f22 f23 f24
        go_simp
        have f0 := Hf0.out
        have f1 := Hf1.out
        have f2 := Hf2.out
        have f3 := Hf3.out
        have f4 := Hf4.out
        have f5 := Hf5.out
        have f6 := Hf6.out
        have f7 := Hf7.out
        have f8 := Hf8.out
        have f9 := Hf9.out
        have f10 := Hf10.out
        have f11 := Hf11.out
        have f12 := Hf12.out
        have f13 := Hf13.out
        have f14 := Hf14.out
        have f15 := Hf15.out
        have f16 := Hf16.out
        have f17 := Hf17.out
        have f18 := Hf18.out
        have f19 := Hf19.out
        have f20 := Hf20.out
        have f21 := Hf21.out
        have f22 := Hf22.out
        have f23 := Hf23.out
        have f24 := Hf24.out
        have hK := HhK.out
        have hd := Hhd.out
        have hJ := HhJ.out
        exact hK _ _ ⟨[u27, u28, u29, u30, (.pointer (some ⟨w.heap.size, 0, none⟩)), u32, u33, u34, u35, u36, u37, u38, u39, u40, u41, u42, u43, u44, u45, u46, u2, u3, u4, u5, u6], rfl, by kernel_rfl, _, _, _, _, _, _, _, _, _, _, _, _, _, _, _, _, _, _, _, _, _, _, _, _, _, rfl, hI, f0, f1, f2, f3, (fun _ => rfl), f5, f6, f7, f8, f9, f10, f11, f12, f13, f14, f15, f16, f17, f18, f19, f20, f21, f22, f23, f24⟩
      · simp only [List.getElem?_cons_zero, List.getElem?_cons_succ, Option.some.injEq] at ho
        subst ho
        clear hi'
        clear hdep
        have hI := hJ
        refine wpOp_step rfl (fun K hK => ?_)
        simp only [List.zip_cons_cons, List.zip_nil_right, puts]
        have Hf0 := Lib.hid f0
        have Hf1 := Lib.hid f1
        have Hf2 := Lib.hid f2
        have Hf3 := Lib.hid f3
        have Hf4 := Lib.hid f4
        have Hf5 := Lib.hid f5
        have Hf6 := Lib.hid f6
        have Hf7 := Lib.hid f7
        have Hf8 := Lib.hid f8
        have Hf9 := Lib.hid f9
        have Hf10 := Lib.hid f10
        have Hf11 := Lib.hid f11
        have Hf12 := Lib.hid f12
        have Hf13 := Lib.hid f13
        have Hf14 := Lib.hid f14
        have Hf15 := Lib.hid f15
        have Hf16 := Lib.hid f16
        have Hf17 := Lib.hid f17
        have Hf18 := Lib.hid f18
        have Hf19 := Lib.hid f19
        have Hf20 := Lib.hid f20
        have Hf21 := Lib.hid f21
        have Hf22 := Lib.hid f22
        have Hf23 := Lib.hid f23
        have Hf24 := Lib.hid f24
        have HhK := Lib.hid hK
        have Hhd := Lib.hid hd
        have HhJ := Lib.hid hJ
        clear hd hK hJ f0 f1 f2 f3 f4 f5 f6 f7 f8 f9 f10 f11 f12 f13 f14 f15 f16 f17 f18 f19 f20 f21 f22 f23 f24
        go_simp
        have f0 := Hf0.out
        have f1 := Hf1.out
        have f2 := Hf2.out
        have f3 := Hf3.out
        have f4 := Hf4.out
        have f5 := Hf5.out
        have f6 := Hf6.out
        have f7 := Hf7.out
        have f8 := Hf8.out
        have f9 := Hf9.out
        have f10 := Hf10.out
        have f11 := Hf11.out
        have f12 := Hf12.out
        have f13 := Hf13.out
        have f14 := Hf14.out
        have f15 := Hf15.out
        have f16 := Hf16.out
        have f17 := Hf17.out
        have f18 := Hf18.out
        have f19 := Hf19.out
        have f20 := Hf20.out
        have f21 := Hf21.out
        have f22 := Hf22.out
        have f23 := Hf23.out
        have f24 := Hf24.out
        have hK := HhK.out
        have hd := Hhd.out
        have hJ := HhJ.out
        exact hK _ _ ⟨[u27, u28, u29, u30, u31, (.int .i64 v), u33, u34, u35, u36, u37, u38, u39, u40, u41, u42, u43, u44, u45, u46, u2, u3, u4, u5, u6], rfl, by kernel_rfl, _, _, _, _, _, _, _, _, _, _, _, _, _, _, _, _, _, _, _, _, _, _, _, _, _, rfl, hI, f0, f1, f2, f3, f4, (fun _ => rfl), f6, f7, f8, f9, f10, f11, f12, f13, f14, f15, f16, f17, f18, f19, f20, f21, f22, f23, f24⟩
      · simp only [List.getElem?_cons_zero, List.getElem?_cons_succ, Option.some.injEq] at ho
        subst ho
        clear hi'
        have d5 : D 5 = true := hdep ⟨5, Ground.data⟩ (by simp) rfl
        clear hdep
        have hI := hJ
        obtain rfl := f5 d5
        refine wpOp_step rfl (fun K hK => ?_)
        simp only [List.zip_cons_cons, List.zip_nil_right, puts]
        have Hf0 := Lib.hid f0
        have Hf1 := Lib.hid f1
        have Hf2 := Lib.hid f2
        have Hf3 := Lib.hid f3
        have Hf4 := Lib.hid f4
        have Hf5 := Lib.hid f5
        have Hf6 := Lib.hid f6
        have Hf7 := Lib.hid f7
        have Hf8 := Lib.hid f8
        have Hf9 := Lib.hid f9
        have Hf10 := Lib.hid f10
        have Hf11 := Lib.hid f11
        have Hf12 := Lib.hid f12
        have Hf13 := Lib.hid f13
        have Hf14 := Lib.hid f14
        have Hf15 := Lib.hid f15
        have Hf16 := Lib.hid f16
        have Hf17 := Lib.hid f17
        have Hf18 := Lib.hid f18
        have Hf19 := Lib.hid f19
        have Hf20 := Lib.hid f20
        have Hf21 := Lib.hid f21
        have Hf22 := Lib.hid f22
        have Hf23 := Lib.hid f23
        have Hf24 := Lib.hid f24
        have HhK := Lib.hid hK
        have Hhd := Lib.hid hd
        have HhJ := Lib.hid hJ
        clear hd hK hJ f0 f1 f2 f3 f4 f5 f6 f7 f8 f9 f10 f11 f12 f13 f14 f15 f16 f17 f18 f19 f20 f21 f22 f23 f24
        go_simp
        have f0 := Hf0.out
        have f1 := Hf1.out
        have f2 := Hf2.out
        have f3 := Hf3.out
        have f4 := Hf4.out
        have f5 := Hf5.out
        have f6 := Hf6.out
        have f7 := Hf7.out
        have f8 := Hf8.out
        have f9 := Hf9.out
        have f10 := Hf10.out
        have f11 := Hf11.out
        have f12 := Hf12.out
        have f13 := Hf13.out
        have f14 := Hf14.out
        have f15 := Hf15.out
        have f16 := Hf16.out
        have f17 := Hf17.out
        have f18 := Hf18.out
        have f19 := Hf19.out
        have f20 := Hf20.out
        have f21 := Hf21.out
        have f22 := Hf22.out
        have f23 := Hf23.out
        have f24 := Hf24.out
        have hK := HhK.out
        have hd := Hhd.out
        have hJ := HhJ.out
        exact hK _ _ ⟨[u27, u28, u29, u30, u31, (.int .i64 v), (.int .i64 256), u34, u35, u36, u37, u38, u39, u40, u41, u42, u43, u44, u45, u46, u2, u3, u4, u5, u6], rfl, by kernel_rfl, _, _, _, _, _, _, _, _, _, _, _, _, _, _, _, _, _, _, _, _, _, _, _, _, _, rfl, hI, f0, f1, f2, f3, f4, (fun _ => rfl), (fun _ => rfl), f7, f8, f9, f10, f11, f12, f13, f14, f15, f16, f17, f18, f19, f20, f21, f22, f23, f24⟩
      · simp only [List.getElem?_cons_zero, List.getElem?_cons_succ, Option.some.injEq] at ho
        subst ho
        clear hi'
        have d6 : D 6 = true := hdep ⟨6, Ground.data⟩ (by simp) rfl
        clear hdep
        have hI := hJ
        obtain rfl := f6 d6
        refine wpOp_step rfl (fun K hK => ?_)
        simp only [List.zip_cons_cons, List.zip_nil_right, puts]
        have Hf0 := Lib.hid f0
        have Hf1 := Lib.hid f1
        have Hf2 := Lib.hid f2
        have Hf3 := Lib.hid f3
        have Hf4 := Lib.hid f4
        have Hf5 := Lib.hid f5
        have Hf6 := Lib.hid f6
        have Hf7 := Lib.hid f7
        have Hf8 := Lib.hid f8
        have Hf9 := Lib.hid f9
        have Hf10 := Lib.hid f10
        have Hf11 := Lib.hid f11
        have Hf12 := Lib.hid f12
        have Hf13 := Lib.hid f13
        have Hf14 := Lib.hid f14
        have Hf15 := Lib.hid f15
        have Hf16 := Lib.hid f16
        have Hf17 := Lib.hid f17
        have Hf18 := Lib.hid f18
        have Hf19 := Lib.hid f19
        have Hf20 := Lib.hid f20
        have Hf21 := Lib.hid f21
        have Hf22 := Lib.hid f22
        have Hf23 := Lib.hid f23
        have Hf24 := Lib.hid f24
        have HhK := Lib.hid hK
        have Hhd := Lib.hid hd
        have HhJ := Lib.hid hJ
        clear hd hK hJ f0 f1 f2 f3 f4 f5 f6 f7 f8 f9 f10 f11 f12 f13 f14 f15 f16 f17 f18 f19 f20 f21 f22 f23 f24
        go_simp
        have f0 := Hf0.out
        have f1 := Hf1.out
        have f2 := Hf2.out
        have f3 := Hf3.out
        have f4 := Hf4.out
        have f5 := Hf5.out
        have f6 := Hf6.out
        have f7 := Hf7.out
        have f8 := Hf8.out
        have f9 := Hf9.out
        have f10 := Hf10.out
        have f11 := Hf11.out
        have f12 := Hf12.out
        have f13 := Hf13.out
        have f14 := Hf14.out
        have f15 := Hf15.out
        have f16 := Hf16.out
        have f17 := Hf17.out
        have f18 := Hf18.out
        have f19 := Hf19.out
        have f20 := Hf20.out
        have f21 := Hf21.out
        have f22 := Hf22.out
        have f23 := Hf23.out
        have f24 := Hf24.out
        have hK := HhK.out
        have hd := Hhd.out
        have hJ := HhJ.out
        exact hK _ _ ⟨[u27, u28, u29, u30, u31, u32, (.int .i64 256), (.int .i64 256), u35, u36, u37, u38, u39, u40, u41, u42, u43, u44, u45, u46, u2, u3, u4, u5, u6], rfl, by kernel_rfl, _, _, _, _, _, _, _, _, _, _, _, _, _, _, _, _, _, _, _, _, _, _, _, _, _, rfl, hI, f0, f1, f2, f3, f4, f5, (fun _ => rfl), (fun _ => rfl), f8, f9, f10, f11, f12, f13, f14, f15, f16, f17, f18, f19, f20, f21, f22, f23, f24⟩
      · simp only [List.getElem?_cons_zero, List.getElem?_cons_succ, Option.some.injEq] at ho
        subst ho
        clear hi'
        have d4 : D 4 = true := hdep ⟨4, Ground.data⟩ (by simp) rfl
        have d7 : D 7 = true := hdep ⟨7, Ground.data⟩ (by simp) rfl
        clear hdep
        have hI := hJ
        obtain rfl := f4 d4
        obtain rfl := f7 d7
        obtain ⟨kO, p, hp, rd⟩ := hI
        have a2 := Bool.toNat_le (D 8)
        have a8 := Bool.toNat_le (D 15)
        refine wpOp_step rfl (fun K hK => ?_)
        simp only [List.zip_cons_cons, List.zip_nil_right, puts]
        have Hf0 := Lib.hid f0
        have Hf1 := Lib.hid f1
        have Hf2 := Lib.hid f2
        have Hf3 := Lib.hid f3
        have Hf4 := Lib.hid f4
        have Hf5 := Lib.hid f5
        have Hf6 := Lib.hid f6
        have Hf7 := Lib.hid f7
        have Hf8 := Lib.hid f8
        have Hf9 := Lib.hid f9
        have Hf10 := Lib.hid f10
        have Hf11 := Lib.hid f11
        have Hf12 := Lib.hid f12
        have Hf13 := Lib.hid f13
        have Hf14 := Lib.hid f14
        have Hf15 := Lib.hid f15
        have Hf16 := Lib.hid f16
        have Hf17 := Lib.hid f17
        have Hf18 := Lib.hid f18
        have Hf19 := Lib.hid f19
        have Hf20 := Lib.hid f20
        have Hf21 := Lib.hid f21
        have Hf22 := Lib.hid f22
        have Hf23 := Lib.hid f23
        have Hf24 := Lib.hid f24
        have HhK := Lib.hid hK
        have Hhd := Lib.hid hd
        have HhJ := Lib.hid hJ
        clear hd hK hJ f0 f1 f2 f3 f4 f5 f6 f7 f8 f9 f10 f11 f12 f13 f14 f15 f16 f17 f18 f19 f20 f21 f22 f23 f24
        go_simp
        go_wp2_with (go_at_call 65; refine (pick_fr _ _ _ _ _ _ _ _ rd (by omega)).mono ?_; rintro e w9 ⟨x, rfl, ⟨x0, x1, _⟩, o9, r9⟩)
        have x1 := x1 (by omega)
        have f0 := Hf0.out
        have f1 := Hf1.out
        have f2 := Hf2.out
        have f3 := Hf3.out
        have f4 := Hf4.out
        have f5 := Hf5.out
        have f6 := Hf6.out
        have f7 := Hf7.out
        have f8 := Hf8.out
        have f9 := Hf9.out
        have f10 := Hf10.out
        have f11 := Hf11.out
        have f12 := Hf12.out
        have f13 := Hf13.out
        have f14 := Hf14.out
        have f15 := Hf15.out
        have f16 := Hf16.out
        have f17 := Hf17.out
        have f18 := Hf18.out
        have f19 := Hf19.out
        have f20 := Hf20.out
        have f21 := Hf21.out
        have f22 := Hf22.out
        have f23 := Hf23.out
        have f24 := Hf24.out
        have hK := HhK.out
        have hd := Hhd.out
        have hJ := HhJ.out
        exact hK _ _ ⟨[u27, u28, u29, u30, (.pointer (some ⟨w.heap.size, 0, none⟩)), u32, u33, (.int .i64 256), (.int .i64 x), u36, u37, u38, u39, u40, u41, u42, u43, u44, u45, u46, u2, u3, u4, u5, u6], rfl, by kernel_rfl, _, _, _, _, _, _, _, _, _, _, _, _, _, _, _, _, _, _, _, _, _, _, _, _, _, rfl, ⟨kO.trans (Onb.of_onl o9), p + 1, (by have e := hp; rw [hd] at e; show p + 1 ≤ p2 + 2 * (true.toNat + (D 15).toNat); simp only [Bool.toNat_true, Bool.toNat_false] at e ⊢; omega), r9⟩, f0, f1, f2, f3, (fun _ => rfl), f5, f6, (fun _ => rfl), (fun _ => ⟨x, rfl, x0, by omega⟩), f9, f10, f11, (fun h => ((f12 h)).onb (Onb.of_onl o9) hg3), (fun h => ((f13 h)).onb (Onb.of_onl o9) hg3), f14, f15, (fun h => ((f16 h)).onb (Onb.of_onl o9) hg3), f17, (fun h => ((f18 h)).onb (Onb.of_onl o9) hg3), f19, f20, f21, f22, f23, f24⟩
      · simp only [List.getElem?_cons_zero, List.getElem?_cons_succ, Option.some.injEq] at ho
        subst ho
        clear hi'
        clear hdep
        have hI := hJ
        refine wpOp_step rfl (fun K hK => ?_)
        simp only [List.zip_cons_cons, List.zip_nil_right, puts]
        have Hf0 := Lib.hid f0
        have Hf1 := Lib.hid f1
        have Hf2 := Lib.hid f2
        have Hf3 := Lib.hid f3
        have Hf4 := Lib.hid f4
        have Hf5 := Lib.hid f5
        have Hf6 := Lib.hid f6
        have Hf7 := Lib.hid f7
        have Hf8 := Lib.hid f8
        have Hf9 := Lib.hid f9
        have Hf10 := Lib.hid f10
        have Hf11 := Lib.hid f11
        have Hf12 := Lib.hid f12
        have Hf13 := Lib.hid f13
        have Hf14 := Lib.hid f14
        have Hf15 := Lib.hid f15
        have Hf16 := Lib.hid f16
        have Hf17 := Lib.hid f17
        have Hf18 := Lib.hid f18
        have Hf19 := Lib.hid f19
        have Hf20 := Lib.hid f20
        have Hf21 := Lib.hid f21
        have Hf22 := Lib.hid f22
        have Hf23 := Lib.hid f23
        have Hf24 := Lib.hid f24
        have HhK := Lib.hid hK
        have Hhd := Lib.hid hd
        have HhJ := Lib.hid hJ
        clear hd hK hJ f0 f1 f2 f3 f4 f5 f6 f7 f8 f9 f10 f11 f12 f13 f14 f15 f16 f17 f18 f19 f20 f21 f22 f23 f24
        go_simp
        have f0 := Hf0.out
        have f1 := Hf1.out
        have f2 := Hf2.out
        have f3 := Hf3.out
        have f4 := Hf4.out
        have f5 := Hf5.out
        have f6 := Hf6.out
        have f7 := Hf7.out
        have f8 := Hf8.out
        have f9 := Hf9.out
        have f10 := Hf10.out
        have f11 := Hf11.out
        have f12 := Hf12.out
        have f13 := Hf13.out
        have f14 := Hf14.out
        have f15 := Hf15.out
        have f16 := Hf16.out
        have f17 := Hf17.out
        have f18 := Hf18.out
        have f19 := Hf19.out
        have f20 := Hf20.out
        have f21 := Hf21.out
        have f22 := Hf22.out
        have f23 := Hf23.out
        have f24 := Hf24.out
        have hK := HhK.out
        have hd := Hhd.out
        have hJ := HhJ.out
        exact hK _ _ ⟨[u27, u28, u29, u30, u31, u32, u33, u34, u35, (.int .i64 v), u37, u38, u39, u40, u41, u42, u43, u44, u45, u46, u2, u3, u4, u5, u6], rfl, by kernel_rfl, _, _, _, _, _, _, _, _, _, _, _, _, _, _, _, _, _, _, _, _, _, _, _, _, _, rfl, hI, f0, f1, f2, f3, f4, f5, f6, f7, f8, (fun _ => rfl), f10, f11, f12, f13, f14, f15, f16, f17, f18, f19, f20, f21, f22, f23, f24⟩
      · simp only [List.getElem?_cons_zero, List.getElem?_cons_succ, Option.some.injEq] at ho
        subst ho
        clear hi'
        have d9 : D 9 = true := hdep ⟨9, Ground.data⟩ (by simp) rfl
        clear hdep
        have hI := hJ
        obtain rfl := f9 d9
        have i1 := IntWalk.i64_in (v - 1) (by omega)
        refine wpOp_step rfl (fun K hK => ?_)
        simp only [List.zip_cons_cons, List.zip_nil_right, puts]
        have Hf0 := Lib.hid f0
        have Hf1 := Lib.hid f1
        have Hf2 := Lib.hid f2
        have Hf3 := Lib.hid f3
        have Hf4 := Lib.hid f4
        have Hf5 := Lib.hid f5
        have Hf6 := Lib.hid f6
        have Hf7 := Lib.hid f7
        have Hf8 := Lib.hid f8
        have Hf9 := Lib.hid f9
        have Hf10 := Lib.hid f10
        have Hf11 := Lib.hid f11
        have Hf12 := Lib.hid f12
        have Hf13 := Lib.hid f13
        have Hf14 := Lib.hid f14
        have Hf15 := Lib.hid f15
        have Hf16 := Lib.hid f16
        have Hf17 := Lib.hid f17
        have Hf18 := Lib.hid f18
        have Hf19 := Lib.hid f19
        have Hf20 := Lib.hid f20
        have Hf21 := Lib.hid f21
        have Hf22 := Lib.hid f22
        have Hf23 := Lib.hid f23
        have Hf24 := Lib.hid f24
        have HhK := Lib.hid hK
        have Hhd := Lib.hid hd
        have HhJ := Lib.hid hJ
        clear hd hK hJ f0 f1 f2 f3 f4 f5 f6 f7 f8 f9 f10 f11 f12 f13 f14 f15 f16 f17 f18 f19 f20 f21 f22 f23 f24
        go_simp
        have f0 := Hf0.out
        have f1 := Hf1.out
        have f2 := Hf2.out
        have f3 := Hf3.out
        have f4 := Hf4.out
        have f5 := Hf5.out
        have f6 := Hf6.out
        have f7 := Hf7.out
        have f8 := Hf8.out
        have f9 := Hf9.out
        have f10 := Hf10.out
        have f11 := Hf11.out
        have f12 := Hf12.out
        have f13 := Hf13.out
        have f14 := Hf14.out
        have f15 := Hf15.out
        have f16 := Hf16.out
        have f17 := Hf17.out
        have f18 := Hf18.out
        have f19 := Hf19.out
        have f20 := Hf20.out
        have f21 := Hf21.out
        have f22 := Hf22.out
        have f23 := Hf23.out
        have f24 := Hf24.out
        have hK := HhK.out
        have hd := Hhd.out
        have hJ := HhJ.out
        exact hK _ _ ⟨[u27, u28, u29, u30, u31, u32, u33, u34, u35, (.int .i64 v), (.int .i64 (v - 1)), u38, u39, u40, u41, u42, u43, u44, u45, u46, u2, u3, u4, u5, u6], rfl, by kernel_rfl, _, _, _, _, _, _, _, _, _, _, _, _, _, _, _, _, _, _, _, _, _, _, _, _, _, rfl, hI, f0, f1, f2, f3, f4, f5, f6, f7, f8, (fun _ => rfl), (fun _ => rfl), f11, f12, f13, f14, f15, f16, f17, f18, f19, f20, f21, f22, f23, f24⟩
      · simp only [List.getElem?_cons_zero, List.getElem?_cons_succ, Option.some.injEq] at ho
        subst ho
        clear hi'
        clear hdep
        have hI := hJ
        refine wpOp_step rfl (fun K hK => ?_)
        simp only [List.zip_cons_cons, List.zip_nil_right, puts]
        have Hf0 := Lib.hid f0
        have Hf1 := Lib.hid f1
        have Hf2 := Lib.hid f2
        have Hf3 := Lib.hid f3
        have Hf4 := Lib.hid f4
        have Hf5 := Lib.hid f5
        have Hf6 := Lib.hid f6
        have Hf7 := Lib.hid f7
        have Hf8 := Lib.hid f8
        have Hf9 := Lib.hid f9
        have Hf10 := Lib.hid f10
        have Hf11 := Lib.hid f11
        have Hf12 := Lib.hid f12
        have Hf13 := Lib.hid f13
        have Hf14 := Lib.hid f14
        have Hf15 := Lib.hid f15
        have Hf16 := Lib.hid f16
        have Hf17 := Lib.hid f17
        have Hf18 := Lib.hid f18
        have Hf19 := Lib.hid f19
        have Hf20 := Lib.hid f20
        have Hf21 := Lib.hid f21
        have Hf22 := Lib.hid f22
        have Hf23 := Lib.hid f23
        have Hf24 := Lib.hid f24
        have HhK := Lib.hid hK
        have Hhd := Lib.hid hd
        have HhJ := Lib.hid hJ
        clear hd hK hJ f0 f1 f2 f3 f4 f5 f6 f7 f8 f9 f10 f11 f12 f13 f14 f15 f16 f17 f18 f19 f20 f21 f22 f23 f24
        go_simp
        have f0 := Hf0.out
        have f1 := Hf1.out
        have f2 := Hf2.out
        have f3 := Hf3.out
        have f4 := Hf4.out
        have f5 := Hf5.out
        have f6 := Hf6.out
        have f7 := Hf7.out
        have f8 := Hf8.out
        have f9 := Hf9.out
        have f10 := Hf10.out
        have f11 := Hf11.out
        have f12 := Hf12.out
        have f13 := Hf13.out
        have f14 := Hf14.out
        have f15 := Hf15.out
        have f16 := Hf16.out
        have f17 := Hf17.out
        have f18 := Hf18.out
        have f19 := Hf19.out
        have f20 := Hf20.out
        have f21 := Hf21.out
        have f22 := Hf22.out
        have f23 := Hf23.out
        have f24 := Hf24.out
        have hK := HhK.out
        have hd := Hhd.out
        have hJ := HhJ.out
        exact hK _ _ ⟨[u27, u28, u29, u30, u31, u32, u33, u34, u35, u36, u37, (.int .i64 v), u39, u40, u41, u42, u43, u44, u45, u46, u2, u3, u4, u5, u6], rfl, by kernel_rfl, _, _, _, _, _, _, _, _, _, _, _, _, _, _, _, _, _, _, _, _, _, _, _, _, _, rfl, hI, f0, f1, f2, f3, f4, f5, f6, f7, f8, f9, f10, (fun _ => rfl), f12, f13, f14, f15, f16, f17, f18, f19, f20, f21, f22, f23, f24⟩
      · simp only [List.getElem?_cons_zero, List.getElem?_cons_succ, Option.some.injEq] at ho
        subst ho
        clear hi'
        have d8 : D 8 = true := hdep ⟨8, Ground.data⟩ (by simp) rfl
        have d10 : D 10 = true := hdep ⟨10, Ground.data⟩ (by simp) rfl
        have d11 : D 11 = true := hdep ⟨11, Ground.data⟩ (by simp) rfl
        clear hdep
        have hI := hJ
        obtain ⟨x, rfl, x0, x1⟩ := f8 d8
        obtain rfl := f10 d10
        obtain rfl := f11 d11
        obtain ⟨kO, p, hp, rd⟩ := hI
        refine wpOp_step rfl (fun K hK => ?_)
        simp only [List.zip_cons_cons, List.zip_nil_right, puts]
        have Hf0 := Lib.hid f0
        have Hf1 := Lib.hid f1
        have Hf2 := Lib.hid f2
        have Hf3 := Lib.hid f3
        have Hf4 := Lib.hid f4
        have Hf5 := Lib.hid f5
        have Hf6 := Lib.hid f6
        have Hf7 := Lib.hid f7
        have Hf8 := Lib.hid f8
        have Hf9 := Lib.hid f9
        have Hf10 := Lib.hid f10
        have Hf11 := Lib.hid f11
        have Hf12 := Lib.hid f12
        have Hf13 := Lib.hid f13
        have Hf14 := Lib.hid f14
        have Hf15 := Lib.hid f15
        have Hf16 := Lib.hid f16
        have Hf17 := Lib.hid f17
        have Hf18 := Lib.hid f18
        have Hf19 := Lib.hid f19
        have Hf20 := Lib.hid f20
        have Hf21 := Lib.hid f21
        have Hf22 := Lib.hid f22
        have Hf23 := Lib.hid f23
        have Hf24 := Lib.hid f24
        have HhK := Lib.hid hK
        have Hhd := Lib.hid hd
        have HhJ := Lib.hid hJ
        clear hd hK hJ f0 f1 f2 f3 f4 f5 f6 f7 f8 f9 f10 f11 f12 f13 f14 f15 f16 f17 f18 f19 f20 f21 f22 f23 f24
        go_simp
        have f0 := Hf0.out
        have f1 := Hf1.out
        have f2 := Hf2.out
        have f3 := Hf3.out
        have f4 := Hf4.out
        have f5 := Hf5.out
        have f6 := Hf6.out
        have f7 := Hf7.out
        have f8 := Hf8.out
        have f9 := Hf9.out
        have f10 := Hf10.out
        have f11 := Hf11.out
        have f12 := Hf12.out
        have f13 := Hf13.out
        have f14 := Hf14.out
        have f15 := Hf15.out
        have f16 := Hf16.out
        have f17 := Hf17.out
        have f18 := Hf18.out
        have f19 := Hf19.out
        have f20 := Hf20.out
        have f21 := Hf21.out
        have f22 := Hf22.out
        have f23 := Hf23.out
        have f24 := Hf24.out
        have hK := HhK.out
        have hd := Hhd.out
        have hJ := HhJ.out
        exact hK _ _ ⟨[u27, u28, u29, u30, u31, u32, u33, u34, (.int .i64 x), u36, (.int .i64 (v - 1)), (.int .i64 v), (.slice (some ⟨W.heap.size, 0, none⟩) 4 4), u40, u41, u42, u43, u44, u45, u46, u2, u3, u4, u5, u6], rfl, by kernel_rfl, _, _, _, _, _, _, _, _, _, _, _, _, _, _, _, _, _, _, _, _, _, _, _, _, _, rfl, ⟨kO.trans (Onb.of_bel (bel_al (bel_refl W) (.cells #[.int .i64 x, .int .i64 (v - 1), .int .i64 v, .int .i64 (-1)] 3))), p, hp, rd.alloc _⟩, f0, f1, f2, f3, f4, f5, f6, f7, f8, f9, (fun _ => rfl), (fun _ => rfl), (fun _ => ⟨_, x, rfl, ⟨x0, x1⟩, kO.size, Blk.new W _ _⟩), (fun h => ((f13 h)).onb (Onb.of_bel (bel_al (bel_refl W) (.cells #[.int .i64 x, .int .i64 (v - 1), .int .i64 v, .int .i64 (-1)] 3))) hg3), f14, f15, (fun h => ((f16 h)).onb (Onb.of_bel (bel_al (bel_refl W) (.cells #[.int .i64 x, .int .i64 (v - 1), .int .i64 v, .int .i64 (-1)] 3))) hg3), f17, (fun h => ((f18 h)).onb (Onb.of_bel (bel_al (bel_refl W) (.cells #[.int .i64 x, .int .i64 (v - 1), .int .i64 v, .int .i64 (-1)] 3))) hg3), f19, f20, f21, f22, f23, f24⟩
      · simp only [List.getElem?_cons_zero, List.getElem?_cons_succ, Option.some.injEq] at ho
        subst ho
        clear hi'
        clear hdep
        have hI := hJ
        obtain ⟨kO, p, hp, rd⟩ := hI
        refine wpOp_step rfl (fun K hK => ?_)
        simp only [List.zip_cons_cons, List.zip_nil_right, puts]
        have Hf0 := Lib.hid f0
        have Hf1 := Lib.hid f1
        have Hf2 := Lib.hid f2
        have Hf3 := Lib.hid f3
        have Hf4 := Lib.hid f4
        have Hf5 := Lib.hid f5
        have Hf6 := Lib.hid f6
        have Hf7 := Lib.hid f7
        have Hf8 := Lib.hid f8
        have Hf9 := Lib.hid f9
        have Hf10 := Lib.hid f10
        have Hf11 := Lib.hid f11
        have Hf12 := Lib.hid f12
        have Hf13 := Lib.hid f13
        have Hf14 := Lib.hid f14
        have Hf15 := Lib.hid f15
        have Hf16 := Lib.hid f16
        have Hf17 := Lib.hid f17
        have Hf18 := Lib.hid f18
        have Hf19 := Lib.hid f19
        have Hf20 := Lib.hid f20
        have Hf21 := Lib.hid f21
        have Hf22 := Lib.hid f22
        have Hf23 := Lib.hid f23
        have Hf24 := Lib.hid f24
        have HhK := Lib.hid hK
        have Hhd := Lib.hid hd
        have HhJ := Lib.hid hJ
        clear hd hK hJ f0 f1 f2 f3 f4 f5 f6 f7 f8 f9 f10 f11 f12 f13 f14 f15 f16 f17 f18 f19 f20 f21 f22 f23 f24
        go_simp
        have f0 := Hf0.out
        have f1 := Hf1.out
        have f2 := Hf2.out
        have f3 := Hf3.out
        have f4 := Hf4.out
        have f5 := Hf5.out
        have f6 := Hf6.out
        have f7 := Hf7.out
        have f8 := Hf8.out
        have f9 := Hf9.out
        have f10 := Hf10.out
        have f11 := Hf11.out
        have f12 := Hf12.out
        have f13 := Hf13.out
        have f14 := Hf14.out
        have f15 := Hf15.out
        have f16 := Hf16.out
        have f17 := Hf17.out
        have f18 := Hf18.out
        have f19 := Hf19.out
        have f20 := Hf20.out
        have f21 := Hf21.out
        have f22 := Hf22.out
        have f23 := Hf23.out
        have f24 := Hf24.out
        have hK := HhK.out
        have hd := Hhd.out
        have hJ := HhJ.out
        exact hK _ _ ⟨[u27, u28, u29, u30, u31, u32, u33, u34, u35, u36, u37, u38, u39, (.slice (some ⟨W.heap.size, 0, none⟩) 7 7), u41, u42, u43, u44, u45, u46, u2, u3, u4, u5, u6], rfl, by kernel_rfl, _, _, _, _, _, _, _, _, _, _, _, _, _, _, _, _, _, _, _, _, _, _, _, _, _, rfl, ⟨kO.trans (Onb.of_bel (bel_al (bel_refl W) (.cells #[.int .i64 0, .int .i64 0, .int .i64 0, .int .i64 0, .int .i64 1, .int .i64 2, .int .i64 3] 3))), p, hp, rd.alloc _⟩, f0, f1, f2, f3, f4, f5, f6, f7, f8, f9, f10, f11, (fun h => ((f12 h)).onb (Onb.of_bel (bel_al (bel_refl W) (.cells #[.int .i64 0, .int .i64 0, .int .i64 0, .int .i64 0, .int .i64 1, .int .i64 2, .int .i64 3] 3))) hg3), (fun _ => ⟨_, rfl, kO.size, Blk.new W _ _⟩), f14, f15, (fun h => ((f16 h)).onb (Onb.of_bel (bel_al (bel_refl W) (.cells #[.int .i64 0, .int .i64 0, .int .i64 0, .int .i64 0, .int .i64 1, .int .i64 2, .int .i64 3] 3))) hg3), f17, (fun h => ((f18 h)).onb (Onb.of_bel (bel_al (bel_refl W) (.cells #[.int .i64 0, .int .i64 0, .int .i64 0, .int .i64 0, .int .i64 1, .int .i64 2, .int .i64 3] 3))) hg3), f19, f20, f21, f22, f23, f24⟩
      · simp only [List.getElem?_cons_zero, List.getElem?_cons_succ, Option.some.injEq] at ho
        subst ho
        clear hi'
        clear hdep
        have hI := hJ
        refine wpOp_step rfl (fun K hK => ?_)
        simp only [List.zip_cons_cons, List.zip_nil_right, puts]
        have Hf0 := Lib.hid f0
        have Hf1 := Lib.hid f1
        have Hf2 := Lib.hid f2
        have Hf3 := Lib.hid f3
        have Hf4 := Lib.hid f4
        have Hf5 := Lib.hid f5
        have Hf6 := Lib.hid f6
        have Hf7 := Lib.hid f7
        have Hf8 := Lib.hid f8
        have Hf9 := Lib.hid f9
        have Hf10 := Lib.hid f10
        have Hf11 := Lib.hid f11
        have Hf12 := Lib.hid f12
        have Hf13 := Lib.hid f13
        have Hf14 := Lib.hid f14
        have Hf15 := Lib.hid f15
        have Hf16 := Lib.hid f16
        have Hf17 := Lib.hid f17
        have Hf18 := Lib.hid f18
        have Hf19 := Lib.hid f19
        have Hf20 := Lib.hid f20
        have Hf21 := Lib.hid f21
        have Hf22 := Lib.hid f22
        have Hf23 := Lib.hid f23
        have Hf24 := Lib.hid f24
        have HhK := Lib.hid hK
        have Hhd := Lib.hid hd
        have HhJ := Lib.hid hJ
        clear hd hK hJ f0 f1 f2 f3 f4 f5 f6 f7 f8 f9 f10 f11 f12 f13 f14 f15 f16 f17 f18 f19 f20 f21 f22 f23 f24
        go_simp
        have f0 := Hf0.out
        have f1 := Hf1.out
        have f2 := Hf2.out
        have f3 := Hf3.out
        have f4 := Hf4.out
        have f5 := Hf5.out
        have f6 := Hf6.out
        have f7 := Hf7.out
        have f8 := Hf8.out
        have f9 := Hf9.out
        have f10 := Hf10.out
        have f11 := Hf11.out
        have f12 := Hf12.out
        have f13 := Hf13.out
        have f14 := Hf14.out
        have f15 := Hf15.out
        have f16 := Hf16.out
        have f17 := Hf17.out
        have f18 := Hf18.out
        have f19 := Hf19.out
        have f20 := Hf20.out
        have f21 := Hf21.out
        have f22 := Hf22.out
        have f23 := Hf23.out
        have f24 := Hf24.out
        have hK := HhK.out
        have hd := Hhd.out
        have hJ := HhJ.out
        exact hK _ _ ⟨[u27, u28, u29, u30, u31, u32, u33, u34, u35, u36, u37, u38, u39, u40, (.pointer (some ⟨w.heap.size, 0, none⟩)), u42, u43, u44, u45, u46, u2, u3, u4, u5, u6], rfl, by kernel_rfl, _, _, _, _, _, _, _, _, _, _, _, _, _, _, _, _, _, _, _, _, _, _, _, _, _, rfl, hI, f0, f1, f2, f3, f4, f5, f6, f7, f8, f9, f10, f11, f12, f13, (fun _ => rfl), f15, f16, f17, f18, f19, f20, f21, f22, f23, f24⟩
      · simp only [List.getElem?_cons_zero, List.getElem?_cons_succ, Option.some.injEq] at ho
        subst ho
        clear hi'
        have d14 : D 14 = true := hdep ⟨14, Ground.data⟩ (by simp) rfl
        clear hdep
        have hI := hJ
        obtain rfl := f14 d14
        obtain ⟨kO, p, hp, rd⟩ := hI
        have a2 := Bool.toNat_le (D 8)
        have a8 := Bool.toNat_le (D 15)
        refine wpOp_step rfl (fun K hK => ?_)
        simp only [List.zip_cons_cons, List.zip_nil_right, puts]
        have Hf0 := Lib.hid f0
        have Hf1 := Lib.hid f1
        have Hf2 := Lib.hid f2
        have Hf3 := Lib.hid f3
        have Hf4 := Lib.hid f4
        have Hf5 := Lib.hid f5
        have Hf6 := Lib.hid f6
        have Hf7 := Lib.hid f7
        have Hf8 := Lib.hid f8
        have Hf9 := Lib.hid f9
        have Hf10 := Lib.hid f10
        have Hf11 := Lib.hid f11
        have Hf12 := Lib.hid f12
        have Hf13 := Lib.hid f13
        have Hf14 := Lib.hid f14
        have Hf15 := Lib.hid f15
        have Hf16 := Lib.hid f16
        have Hf17 := Lib.hid f17
        have Hf18 := Lib.hid f18
        have Hf19 := Lib.hid f19
        have Hf20 := Lib.hid f20
        have Hf21 := Lib.hid f21
        have Hf22 := Lib.hid f22
        have Hf23 := Lib.hid f23
        have Hf24 := Lib.hid f24
        have HhK := Lib.hid hK
        have Hhd := Lib.hid hd
        have HhJ := Lib.hid hJ
        clear hd hK hJ f0 f1 f2 f3 f4 f5 f6 f7 f8 f9 f10 f11 f12 f13 f14 f15 f16 f17 f18 f19 f20 f21 f22 f23 f24
        go_simp
        go_wp2_with (go_at_call 65; refine (pick_fr _ _ _ _ _ _ _ _ rd (by omega)).mono ?_; rintro e w9 ⟨x, rfl, ⟨x0, x1, _⟩, o9, r9⟩)
        have x1 := x1 (by omega)
        have f0 := Hf0.out
        have f1 := Hf1.out
        have f2 := Hf2.out
        have f3 := Hf3.out
        have f4 := Hf4.out
        have f5 := Hf5.out
        have f6 := Hf6.out
        have f7 := Hf7.out
        have f8 := Hf8.out
        have f9 := Hf9.out
        have f10 := Hf10.out
        have f11 := Hf11.out
        have f12 := Hf12.out
        have f13 := Hf13.out
        have f14 := Hf14.out
        have f15 := Hf15.out
        have f16 := Hf16.out
        have f17 := Hf17.out
        have f18 := Hf18.out
        have f19 := Hf19.out
        have f20 := Hf20.out
        have f21 := Hf21.out
        have f22 := Hf22.out
        have f23 := Hf23.out
        have f24 := Hf24.out
        have hK := HhK.out
        have hd := Hhd.out
        have hJ := HhJ.out
        exact hK _ _ ⟨[u27, u28, u29, u30, u31, u32, u33, u34, u35, u36, u37, u38, u39, u40, (.pointer (some ⟨w.heap.size, 0, none⟩)), (.int .i64 x), u43, u44, u45, u46, u2, u3, u4, u5, u6], rfl, by kernel_rfl, _, _, _, _, _, _, _, _, _, _, _, _, _, _, _, _, _, _, _, _, _, _, _, _, _, rfl, ⟨kO.trans (Onb.of_onl o9), p + 1, (by have e := hp; rw [hd] at e; show p + 1 ≤ p2 + 2 * ((D 8).toNat + true.toNat); simp only [Bool.toNat_true, Bool.toNat_false] at e ⊢; omega), r9⟩, f0, f1, f2, f3, f4, f5, f6, f7, f8, f9, f10, f11, (fun h => ((f12 h)).onb (Onb.of_onl o9) hg3), (fun h => ((f13 h)).onb (Onb.of_onl o9) hg3), (fun _ => rfl), (fun _ => ⟨x, rfl, x0, by omega⟩), (fun h => ((f16 h)).onb (Onb.of_onl o9) hg3), f17, (fun h => ((f18 h)).onb (Onb.of_onl o9) hg3), f19, f20, f21, f22, f23, f24⟩
      · simp only [List.getElem?_cons_zero, List.getElem?_cons_succ, Option.some.injEq] at ho
        subst ho
        clear hi'
        have d13 : D 13 = true := hdep ⟨13, Ground.data⟩ (by simp) rfl
        have d15 : D 15 = true := hdep ⟨15, Ground.data⟩ (by simp) rfl
        clear hdep
        have hI := hJ
        obtain ⟨b, rfl, hl, hb⟩ := f13 d13
        obtain ⟨x, rfl, x0, x1⟩ := f15 d15
        refine wpOp_step rfl (fun K hK => ?_)
        simp only [List.zip_cons_cons, List.zip_nil_right, puts]
        have Hf0 := Lib.hid f0
        have Hf1 := Lib.hid f1
        have Hf2 := Lib.hid f2
        have Hf3 := Lib.hid f3
        have Hf4 := Lib.hid f4
        have Hf5 := Lib.hid f5
        have Hf6 := Lib.hid f6
        have Hf7 := Lib.hid f7
        have Hf8 := Lib.hid f8
        have Hf9 := Lib.hid f9
        have Hf10 := Lib.hid f10
        have Hf11 := Lib.hid f11
        have Hf12 := Lib.hid f12
        have Hf13 := Lib.hid f13
        have Hf14 := Lib.hid f14
        have Hf15 := Lib.hid f15
        have Hf16 := Lib.hid f16
        have Hf17 := Lib.hid f17
        have Hf18 := Lib.hid f18
        have Hf19 := Lib.hid f19
        have Hf20 := Lib.hid f20
        have Hf21 := Lib.hid f21
        have Hf22 := Lib.hid f22
        have Hf23 := Lib.hid f23
        have Hf24 := Lib.hid f24
        have HhK := Lib.hid hK
        have Hhd := Lib.hid hd
        have HhJ := Lib.hid hJ
        clear hd hK hJ f0 f1 f2 f3 f4 f5 f6 f7 f8 f9 f10 f11 f12 f13 f14 f15 f16 f17 f18 f19 f20 f21 f22 f23 f24
        go_simp
        have f0 := Hf0.out
        have f1 := Hf1.out
        have f2 := Hf2.out
        have f3 := Hf3.out
        have f4 := Hf4.out
        have f5 := Hf5.out
        have f6 := Hf6.out
        have f7 := Hf7.out
        have f8 := Hf8.out
        have f9 := Hf9.out
        have f10 := Hf10.out
        have f11 := Hf11.out
        have f12 := Hf12.out
        have f13 := Hf13.out
        have f14 := Hf14.out
        have f15 := Hf15.out
        have f16 := Hf16.out
        have f17 := Hf17.out
        have f18 := Hf18.out
        have f19 := Hf19.out
        have f20 := Hf20.out
        have f21 := Hf21.out
        have f22 := Hf22.out
        have f23 := Hf23.out
        have f24 := Hf24.out
        have hK := HhK.out
        have hd := Hhd.out
        have hJ := HhJ.out
        exact hK _ _ ⟨[u27, u28, u29, u30, u31, u32, u33, u34, u35, u36, u37, u38, u39, (.slice (some ⟨b, 0, none⟩) 7 7), u41, (.int .i64 x), (.pointer (some ⟨b, x.toNat, none⟩)), u44, u45, u46, u2, u3, u4, u5, u6], rfl, by kernel_rfl, _, _, _, _, _, _, _, _, _, _, _, _, _, _, _, _, _, _, _, _, _, _, _, _, _, rfl, hI, f0, f1, f2, f3, f4, f5, f6, f7, f8, f9, f10, f11, f12, f13, f14, f15, (fun _ => ⟨_, x.toNat, rfl, by omega, hl, hb⟩), f17, f18, f19, f20, f21, f22, f23, f24⟩
      · simp only [List.getElem?_cons_zero, List.getElem?_cons_succ, Option.some.injEq] at ho
        subst ho
        clear hi'
        have d16 : D 16 = true := hdep ⟨16, Ground.data⟩ (by simp) rfl
        clear hdep
        have hI := hJ
        obtain ⟨b, t, rfl, t1, hl, hb⟩ := f16 d16
        obtain ⟨x, hx, x0, x1⟩ := blk7_at hb t1
        refine wpOp_step rfl (fun K hK => ?_)
        simp only [List.zip_cons_cons, List.zip_nil_right, puts]
        have Hf0 := Lib.hid f0
        have Hf1 := Lib.hid f1
        have Hf2 := Lib.hid f2
        have Hf3 := Lib.hid f3
        have Hf4 := Lib.hid f4
        have Hf5 := Lib.hid f5
        have Hf6 := Lib.hid f6
        have Hf7 := Lib.hid f7
        have Hf8 := Lib.hid f8
        have Hf9 := Lib.hid f9
        have Hf10 := Lib.hid f10
        have Hf11 := Lib.hid f11
        have Hf12 := Lib.hid f12
        have Hf13 := Lib.hid f13
        have Hf14 := Lib.hid f14
        have Hf15 := Lib.hid f15
        have Hf16 := Lib.hid f16
        have Hf17 := Lib.hid f17
        have Hf18 := Lib.hid f18
        have Hf19 := Lib.hid f19
        have Hf20 := Lib.hid f20
        have Hf21 := Lib.hid f21
        have Hf22 := Lib.hid f22
        have Hf23 := Lib.hid f23
        have Hf24 := Lib.hid f24
        have HhK := Lib.hid hK
        have Hhd := Lib.hid hd
        have HhJ := Lib.hid hJ
        clear hd hK hJ f0 f1 f2 f3 f4 f5 f6 f7 f8 f9 f10 f11 f12 f13 f14 f15 f16 f17 f18 f19 f20 f21 f22 f23 f24
        go_simp
        have f0 := Hf0.out
        have f1 := Hf1.out
        have f2 := Hf2.out
        have f3 := Hf3.out
        have f4 := Hf4.out
        have f5 := Hf5.out
        have f6 := Hf6.out
        have f7 := Hf7.out
        have f8 := Hf8.out
        have f9 := Hf9.out
        have f10 := Hf10.out
        have f11 := Hf11.out
        have f12 := Hf12.out
        have f13 := Hf13.out
        have f14 := Hf14.out
        have f15 := Hf15.out
        have f16 := Hf16.out
        have f17 := Hf17.out
        have f18 := Hf18.out
        have f19 := Hf19.out
        have f20 := Hf20.out
        have f21 := Hf21.out
        have f22 := Hf22.out
        have f23 := Hf23.out
        have f24 := Hf24.out
        have hK := HhK.out
        have hd := Hhd.out
        have hJ := HhJ.out
        exact hK _ _ ⟨[u27, u28, u29, u30, u31, u32, u33, u34, u35, u36, u37, u38, u39, u40, u41, u42, (.pointer (some ⟨b, t, none⟩)), (.int .i64 x), u45, u46, u2, u3, u4, u5, u6], rfl, by kernel_rfl, _, _, _, _, _, _, _, _, _, _, _, _, _, _, _, _, _, _, _, _, _, _, _, _, _, rfl, hI, f0, f1, f2, f3, f4, f5, f6, f7, f8, f9, f10, f11, f12, f13, f14, f15, f16, (fun _ => ⟨_, rfl, x0, x1⟩), f18, f19, f20, f21, f22, f23, f24⟩
      · simp only [List.getElem?_cons_zero, List.getElem?_cons_succ, Option.some.injEq] at ho
        subst ho
        clear hi'
        have d12 : D 12 = true := hdep ⟨12, Ground.data⟩ (by simp) rfl
        have d17 : D 17 = true := hdep ⟨17, Ground.data⟩ (by simp) rfl
        clear hdep
        have hI := hJ
        obtain ⟨b, y, rfl, hy, hl, hb⟩ := f12 d12
        obtain ⟨t, rfl, t0, t1⟩ := f17 d17
        refine wpOp_step rfl (fun K hK => ?_)
        simp only [List.zip_cons_cons, List.zip_nil_right, puts]
        have Hf0 := Lib.hid f0
        have Hf1 := Lib.hid f1
        have Hf2 := Lib.hid f2
        have Hf3 := Lib.hid f3
        have Hf4 := Lib.hid f4
        have Hf5 := Lib.hid f5
        have Hf6 := Lib.hid f6
        have Hf7 := Lib.hid f7
        have Hf8 := Lib.hid f8
        have Hf9 := Lib.hid f9
        have Hf10 := Lib.hid f10
        have Hf11 := Lib.hid f11
        have Hf12 := Lib.hid f12
        have Hf13 := Lib.hid f13
        have Hf14 := Lib.hid f14
        have Hf15 := Lib.hid f15
        have Hf16 := Lib.hid f16
        have Hf17 := Lib.hid f17
        have Hf18 := Lib.hid f18
        have Hf19 := Lib.hid f19
        have Hf20 := Lib.hid f20
        have Hf21 := Lib.hid f21
        have Hf22 := Lib.hid f22
        have Hf23 := Lib.hid f23
        have Hf24 := Lib.hid f24
        have HhK := Lib.hid hK
        have Hhd := Lib.hid hd
        have HhJ := Lib.hid hJ
        clear hd hK hJ f0 f1 f2 f3 f4 f5 f6 f7 f8 f9 f10 f11 f12 f13 f14 f15 f16 f17 f18 f19 f20 f21 f22 f23 f24
        go_simp
        have f0 := Hf0.out
        have f1 := Hf1.out
        have f2 := Hf2.out
        have f3 := Hf3.out
        have f4 := Hf4.out
        have f5 := Hf5.out
        have f6 := Hf6.out
        have f7 := Hf7.out
        have f8 := Hf8.out
        have f9 := Hf9.out
        have f10 := Hf10.out
        have f11 := Hf11.out
        have f12 := Hf12.out
        have f13 := Hf13.out
        have f14 := Hf14.out
        have f15 := Hf15.out
        have f16 := Hf16.out
        have f17 := Hf17.out
        have f18 := Hf18.out
        have f19 := Hf19.out
        have f20 := Hf20.out
        have f21 := Hf21.out
        have f22 := Hf22.out
        have f23 := Hf23.out
        have f24 := Hf24.out
        have hK := HhK.out
        have hd := Hhd.out
        have hJ := HhJ.out
        exact hK _ _ ⟨[u27, u28, u29, u30, u31, u32, u33, u34, u35, u36, u37, u38, (.slice (some ⟨b, 0, none⟩) 4 4), u40, u41, u42, u43, (.int .i64 t), (.pointer (some ⟨b, t.toNat, none⟩)), u46, u2, u3, u4, u5, u6], rfl, by kernel_rfl, _, _, _, _, _, _, _, _, _, _, _, _, _, _, _, _, _, _, _, _, _, _, _, _, _, rfl, hI, f0, f1, f2, f3, f4, f5, f6, f7, f8, f9, f10, f11, f12, f13, f14, f15, f16, f17, (fun _ => ⟨_, t.toNat, y, rfl, by omega, hy, hl, hb⟩), f19, f20, f21, f22, f23, f24⟩
      · simp only [List.getElem?_cons_zero, List.getElem?_cons_succ, Option.some.injEq] at ho
        subst ho
        clear hi'
        have d18 : D 18 = true := hdep ⟨18, Ground.data⟩ (by simp) rfl
        clear hdep
        have hI := hJ
        obtain ⟨b, t, y, rfl, t1, hy, hl, hb⟩ := f18 d18
        obtain ⟨x, hx, x0⟩ := blk4_at hb t1 hy
        refine wpOp_step rfl (fun K hK => ?_)
        simp only [List.zip_cons_cons, List.zip_nil_right, puts]
        have Hf0 := Lib.hid f0
        have Hf1 := Lib.hid f1
        have Hf2 := Lib.hid f2
        have Hf3 := Lib.hid f3
        have Hf4 := Lib.hid f4
        have Hf5 := Lib.hid f5
        have Hf6 := Lib.hid f6
        have Hf7 := Lib.hid f7
        have Hf8 := Lib.hid f8
        have Hf9 := Lib.hid f9
        have Hf10 := Lib.hid f10
        have Hf11 := Lib.hid f11
        have Hf12 := Lib.hid f12
        have Hf13 := Lib.hid f13
        have Hf14 := Lib.hid f14
        have Hf15 := Lib.hid f15
        have Hf16 := Lib.hid f16
        have Hf17 := Lib.hid f17
        have Hf18 := Lib.hid f18
        have Hf19 := Lib.hid f19
        have Hf20 := Lib.hid f20
        have Hf21 := Lib.hid f21
        have Hf22 := Lib.hid f22
        have Hf23 := Lib.hid f23
        have Hf24 := Lib.hid f24
        have HhK := Lib.hid hK
        have Hhd := Lib.hid hd
        have HhJ := Lib.hid hJ
        clear hd hK hJ f0 f1 f2 f3 f4 f5 f6 f7 f8 f9 f10 f11 f12 f13 f14 f15 f16 f17 f18 f19 f20 f21 f22 f23 f24
        go_simp
        have f0 := Hf0.out
        have f1 := Hf1.out
        have f2 := Hf2.out
        have f3 := Hf3.out
        have f4 := Hf4.out
        have f5 := Hf5.out
        have f6 := Hf6.out
        have f7 := Hf7.out
        have f8 := Hf8.out
        have f9 := Hf9.out
        have f10 := Hf10.out
        have f11 := Hf11.out
        have f12 := Hf12.out
        have f13 := Hf13.out
        have f14 := Hf14.out
        have f15 := Hf15.out
        have f16 := Hf16.out
        have f17 := Hf17.out
        have f18 := Hf18.out
        have f19 := Hf19.out
        have f20 := Hf20.out
        have f21 := Hf21.out
        have f22 := Hf22.out
        have f23 := Hf23.out
        have f24 := Hf24.out
        have hK := HhK.out
        have hd := Hhd.out
        have hJ := HhJ.out
        exact hK _ _ ⟨[u27, u28, u29, u30, u31, u32, u33, u34, u35, u36, u37, u38, u39, u40, u41, u42, u43, u44, (.pointer (some ⟨b, t, none⟩)), (.int .i64 x), u2, u3, u4, u5, u6], rfl, by kernel_rfl, _, _, _, _, _, _, _, _, _, _, _, _, _, _, _, _, _, _, _, _, _, _, _, _, _, rfl, hI, f0, f1, f2, f3, f4, f5, f6, f7, f8, f9, f10, f11, f12, f13, f14, f15, f16, f17, f18, (fun _ => ⟨_, rfl, x0⟩), f20, f21, f22, f23, f24⟩
      · simp only [List.getElem?_cons_zero, List.getElem?_cons_succ, Option.some.injEq] at ho
        subst ho
        clear hi'
        have d0 : D 0 = true := hdep ⟨0, Ground.data⟩ (by simp) rfl
        clear hdep
        have hI := hJ
        obtain rfl := f0 d0
        refine wpOp_step rfl (fun K hK => ?_)
        simp only [List.zip_cons_cons, List.zip_nil_right, puts]
        have Hf0 := Lib.hid f0
        have Hf1 := Lib.hid f1
        have Hf2 := Lib.hid f2
        have Hf3 := Lib.hid f3
        have Hf4 := Lib.hid f4
        have Hf5 := Lib.hid f5
        have Hf6 := Lib.hid f6
        have Hf7 := Lib.hid f7
        have Hf8 := Lib.hid f8
        have Hf9 := Lib.hid f9
        have Hf10 := Lib.hid f10
        have Hf11 := Lib.hid f11
        have Hf12 := Lib.hid f12
        have Hf13 := Lib.hid f13
        have Hf14 := Lib.hid f14
        have Hf15 := Lib.hid f15
        have Hf16 := Lib.hid f16
        have Hf17 := Lib.hid f17
        have Hf18 := Lib.hid f18
        have Hf19 := Lib.hid f19
        have Hf20 := Lib.hid f20
        have Hf21 := Lib.hid f21
        have Hf22 := Lib.hid f22
        have Hf23 := Lib.hid f23
        have Hf24 := Lib.hid f24
        have HhK := Lib.hid hK
        have Hhd := Lib.hid hd
        have HhJ := Lib.hid hJ
        clear hd hK hJ f0 f1 f2 f3 f4 f5 f6 f7 f8 f9 f10 f11 f12 f13 f14 f15 f16 f17 f18 f19 f20 f21 f22 f23 f24
        go_simp
        have f0 := Hf0.out
        have f1 := Hf1.out
        have f2 := Hf2.out
        have f3 := Hf3.out
        have f4 := Hf4.out
        have f5 := Hf5.out
        have f6 := Hf6.out
        have f7 := Hf7.out
        have f8 := Hf8.out
        have f9 := Hf9.out
        have f10 := Hf10.out
        have f11 := Hf11.out
        have f12 := Hf12.out
        have f13 := Hf13.out
        have f14 := Hf14.out
        have f15 := Hf15.out
        have f16 := Hf16.out
        have f17 := Hf17.out
        have f18 := Hf18.out
        have f19 := Hf19.out
        have f20 := Hf20.out
        have f21 := Hf21.out
        have f22 := Hf22.out
        have f23 := Hf23.out
        have f24 := Hf24.out
        have hK := HhK.out
        have hd := Hhd.out
        have hJ := HhJ.out
        exact hK _ _ ⟨[(.int .i64 f), u28, u29, u30, u31, u32, u33, u34, u35, u36, u37, u38, u39, u40, u41, u42, u43, u44, u45, u46, (.int .i64 f), u3, u4, u5, u6], rfl, by kernel_rfl, _, _, _, _, _, _, _, _, _, _, _, _, _, _, _, _, _, _, _, _, _, _, _, _, _, rfl, hI, (fun _ => rfl), f1, f2, f3, f4, f5, f6, f7, f8, f9, f10, f11, f12, f13, f14, f15, f16, f17, f18, f19, (fun _ => rfl), f21, f22, f23, f24⟩
      · simp only [List.getElem?_cons_zero, List.getElem?_cons_succ, Option.some.injEq] at ho
        subst ho
        clear hi'
        have d1 : D 1 = true := hdep ⟨1, Ground.data⟩ (by simp) rfl
        clear hdep
        have hI := hJ
        obtain rfl := f1 d1
        refine wpOp_step rfl (fun K hK => ?_)
        simp only [List.zip_cons_cons, List.zip_nil_right, puts]
        have Hf0 := Lib.hid f0
        have Hf1 := Lib.hid f1
        have Hf2 := Lib.hid f2
        have Hf3 := Lib.hid f3
        have Hf4 := Lib.hid f4
        have Hf5 := Lib.hid f5
        have Hf6 := Lib.hid f6
        have Hf7 := Lib.hid f7
        have Hf8 := Lib.hid f8
        have Hf9 := Lib.hid f9
        have Hf10 := Lib.hid f10
        have Hf11 := Lib.hid f11
        have Hf12 := Lib.hid f12
        have Hf13 := Lib.hid f13
        have Hf14 := Lib.hid f14
        have Hf15 := Lib.hid f15
        have Hf16 := Lib.hid f16
        have Hf17 := Lib.hid f17
        have Hf18 := Lib.hid f18
        have Hf19 := Lib.hid f19
        have Hf20 := Lib.hid f20
        have Hf21 := Lib.hid f21
        have Hf22 := Lib.hid f22
        have Hf23 := Lib.hid f23
        have Hf24 := Lib.hid f24
        have HhK := Lib.hid hK
        have Hhd := Lib.hid hd
        have HhJ := Lib.hid hJ
        clear hd hK hJ f0 f1 f2 f3 f4 f5 f6 f7 f8 f9 f10 f11 f12 f13 f14 f15 f16 f17 f18 f19 f20 f21 f22 f23 f24
        go_simp
        have f0 := Hf0.out
        have f1 := Hf1.out
        have f2 := Hf2.out
        have f3 := Hf3.out
        have f4 := Hf4.out
        have f5 := Hf5.out
        have f6 := Hf6.out
        have f7 := Hf7.out
        have f8 := Hf8.out
        have f9 := Hf9.out
        have f10 := Hf10.out
        have f11 := Hf11.out
        have f12 := Hf12.out
        have f13 := Hf13.out
        have f14 := Hf14.out
        have f15 := Hf15.out
        have f16 := Hf16.out
        have f17 := Hf17.out
        have f18 := Hf18.out
        have f19 := Hf19.out
        have f20 := Hf20.out
        have f21 := Hf21.out
        have f22 := Hf22.out
        have f23 := Hf23.out
        have f24 := Hf24.out
        have hK := HhK.out
        have hd := Hhd.out
        have hJ := HhJ.out
        exact hK _ _ ⟨[u27, (.slice A2 l.length c2), u29, u30, u31, u32, u33, u34, u35, u36, u37, u38, u39, u40, u41, u42, u43, u44, u45, u46, u2, (.slice A2 l.length c2), u4, u5, u6], rfl, by kernel_rfl, _, _, _, _, _, _, _, _, _, _, _, _, _, _, _, _, _, _, _, _, _, _, _, _, _, rfl, hI, f0, (fun _ => rfl), f2, f3, f4, f5, f6, f7, f8, f9, f10, f11, f12, f13, f14, f15, f16, f17, f18, f19, f20, (fun _ => rfl), f22, f23, f24⟩
      · simp only [List.getElem?_cons_zero, List.getElem?_cons_succ, Option.some.injEq] at ho
        subst ho
        clear hi'
        have d2 : D 2 = true := hdep ⟨2, Ground.data⟩ (by simp) rfl
        clear hdep
        have hI := hJ
        obtain rfl := f2 d2
        refine wpOp_step rfl (fun K hK => ?_)
        simp only [List.zip_cons_cons, List.zip_nil_right, puts]
        have Hf0 := Lib.hid f0
        have Hf1 := Lib.hid f1
        have Hf2 := Lib.hid f2
        have Hf3 := Lib.hid f3
        have Hf4 := Lib.hid f4
        have Hf5 := Lib.hid f5
        have Hf6 := Lib.hid f6
        have Hf7 := Lib.hid f7
        have Hf8 := Lib.hid f8
        have Hf9 := Lib.hid f9
        have Hf10 := Lib.hid f10
        have Hf11 := Lib.hid f11
        have Hf12 := Lib.hid f12
        have Hf13 := Lib.hid f13
        have Hf14 := Lib.hid f14
        have Hf15 := Lib.hid f15
        have Hf16 := Lib.hid f16
        have Hf17 := Lib.hid f17
        have Hf18 := Lib.hid f18
        have Hf19 := Lib.hid f19
        have Hf20 := Lib.hid f20
        have Hf21 := Lib.hid f21
        have Hf22 := Lib.hid f22
        have Hf23 := Lib.hid f23
        have Hf24 := Lib.hid f24
        have HhK := Lib.hid hK
        have Hhd := Lib.hid hd
        have HhJ := Lib.hid hJ
        clear hd hK hJ f0 f1 f2 f3 f4 f5 f6 f7 f8 f9 f10 f11 f12 f13 f14 f15 f16 f17 f18 f19 f20 f21 f22 f23 f24
        go_simp
        have f0 := Hf0.out
        have f1 := Hf1.out
        have f2 := Hf2.out
        have f3 := Hf3.out
        have f4 := Hf4.out
        have f5 := Hf5.out
        have f6 := Hf6.out
        have f7 := Hf7.out
        have f8 := Hf8.out
        have f9 := Hf9.out
        have f10 := Hf10.out
        have f11 := Hf11.out
        have f12 := Hf12.out
        have f13 := Hf13.out
        have f14 := Hf14.out
        have f15 := Hf15.out
        have f16 := Hf16.out
        have f17 := Hf17.out
        have f18 := Hf18.out
        have f19 := Hf19.out
        have f20 := Hf20.out
        have f21 := Hf21.out
        have f22 := Hf22.out
        have f23 := Hf23.out
        have f24 := Hf24.out
        have hK := HhK.out
        have hd := Hhd.out
        have hJ := HhJ.out
        exact hK _ _ ⟨[u27, u28, (.int .i64 lo), u30, u31, u32, u33, u34, u35, u36, u37, u38, u39, u40, u41, u42, u43, u44, u45, u46, u2, u3, (.int .i64 lo), u5, u6], rfl, by kernel_rfl, _, _, _, _, _, _, _, _, _, _, _, _, _, _, _, _, _, _, _, _, _, _, _, _, _, rfl, hI, f0, f1, (fun _ => rfl), f3, f4, f5, f6, f7, f8, f9, f10, f11, f12, f13, f14, f15, f16, f17, f18, f19, f20, f21, (fun _ => rfl), f23, f24⟩
      · simp only [List.getElem?_cons_zero, List.getElem?_cons_succ, Option.some.injEq] at ho
        subst ho
        clear hi'
        have d3 : D 3 = true := hdep ⟨3, Ground.data⟩ (by simp) rfl
        clear hdep
        have hI := hJ
        obtain rfl := f3 d3
        refine wpOp_step rfl (fun K hK => ?_)
        simp only [List.zip_cons_cons, List.zip_nil_right, puts]
        have Hf0 := Lib.hid f0
        have Hf1 := Lib.hid f1
        have Hf2 := Lib.hid f2
        have Hf3 := Lib.hid f3
        have Hf4 := Lib.hid f4
        have Hf5 := Lib.hid f5
        have Hf6 := Lib.hid f6
        have Hf7 := Lib.hid f7
        have Hf8 := Lib.hid f8
        have Hf9 := Lib.hid f9
        have Hf10 := Lib.hid f10
        have Hf11 := Lib.hid f11
        have Hf12 := Lib.hid f12
        have Hf13 := Lib.hid f13
        have Hf14 := Lib.hid f14
        have Hf15 := Lib.hid f15
        have Hf16 := Lib.hid f16
        have Hf17 := Lib.hid f17
        have Hf18 := Lib.hid f18
        have Hf19 := Lib.hid f19
        have Hf20 := Lib.hid f20
        have Hf21 := Lib.hid f21
        have Hf22 := Lib.hid f22
        have Hf23 := Lib.hid f23
        have Hf24 := Lib.hid f24
        have HhK := Lib.hid hK
        have Hhd := Lib.hid hd
        have HhJ := Lib.hid hJ
        clear hd hK hJ f0 f1 f2 f3 f4 f5 f6 f7 f8 f9 f10 f11 f12 f13 f14 f15 f16 f17 f18 f19 f20 f21 f22 f23 f24
        go_simp
        have f0 := Hf0.out
        have f1 := Hf1.out
        have f2 := Hf2.out
        have f3 := Hf3.out
        have f4 := Hf4.out
        have f5 := Hf5.out
        have f6 := Hf6.out
        have f7 := Hf7.out
        have f8 := Hf8.out
        have f9 := Hf9.out
        have f10 := Hf10.out
        have f11 := Hf11.out
        have f12 := Hf12.out
        have f13 := Hf13.out
        have f14 := Hf14.out
        have f15 := Hf15.out
        have f16 := Hf16.out
        have f17 := Hf17.out
        have f18 := Hf18.out
        have f19 := Hf19.out
        have f20 := Hf20.out
        have f21 := Hf21.out
        have f22 := Hf22.out
        have f23 := Hf23.out
        have f24 := Hf24.out
        have hK := HhK.out
        have hd := Hhd.out
        have hJ := HhJ.out
        exact hK _ _ ⟨[u27, u28, u29, (.int .i64 hi), u31, u32, u33, u34, u35, u36, u37, u38, u39, u40, u41, u42, u43, u44, u45, u46, u2, u3, u4, (.int .i64 hi), u6], rfl, by kernel_rfl, _, _, _, _, _, _, _, _, _, _, _, _, _, _, _, _, _, _, _, _, _, _, _, _, _, rfl, hI, f0, f1, f2, (fun _ => rfl), f4, f5, f6, f7, f8, f9, f10, f11, f12, f13, f14, f15, f16, f17, f18, f19, f20, f21, f22, (fun _ => rfl), f24⟩
      · simp only [List.getElem?_cons_zero, List.getElem?_cons_succ, Option.some.injEq] at ho
        subst ho
        clear hi'
        have d19 : D 19 = true := hdep ⟨19, Ground.data⟩ (by simp) rfl
        clear hdep
        have hI := hJ
        obtain ⟨x, rfl, x0⟩ := f19 d19
        refine wpOp_step rfl (fun K hK => ?_)
        simp only [List.zip_cons_cons, List.zip_nil_right, puts]
        have Hf0 := Lib.hid f0
        have Hf1 := Lib.hid f1
        have Hf2 := Lib.hid f2
        have Hf3 := Lib.hid f3
        have Hf4 := Lib.hid f4
        have Hf5 := Lib.hid f5
        have Hf6 := Lib.hid f6
        have Hf7 := Lib.hid f7
        have Hf8 := Lib.hid f8
        have Hf9 := Lib.hid f9
        have Hf10 := Lib.hid f10
        have Hf11 := Lib.hid f11
        have Hf12 := Lib.hid f12
        have Hf13 := Lib.hid f13
        have Hf14 := Lib.hid f14
        have Hf15 := Lib.hid f15
        have Hf16 := Lib.hid f16
        have Hf17 := Lib.hid f17
        have Hf18 := Lib.hid f18
        have Hf19 := Lib.hid f19
        have Hf20 := Lib.hid f20
        have Hf21 := Lib.hid f21
        have Hf22 := Lib.hid f22
        have Hf23 := Lib.hid f23
        have Hf24 := Lib.hid f24
        have HhK := Lib.hid hK
        have Hhd := Lib.hid hd
        have HhJ := Lib.hid hJ
        clear hd hK hJ f0 f1 f2 f3 f4 f5 f6 f7 f8 f9 f10 f11 f12 f13 f14 f15 f16 f17 f18 f19 f20 f21 f22 f23 f24
        go_simp
        have f0 := Hf0.out
        have f1 := Hf1.out
        have f2 := Hf2.out
        have f3 := Hf3.out
        have f4 := Hf4.out
        have f5 := Hf5.out
        have f6 := Hf6.out
        have f7 := Hf7.out
        have f8 := Hf8.out
        have f9 := Hf9.out
        have f10 := Hf10.out
        have f11 := Hf11.out
        have f12 := Hf12.out
        have f13 := Hf13.out
        have f14 := Hf14.out
        have f15 := Hf15.out
        have f16 := Hf16.out
        have f17 := Hf17.out
        have f18 := Hf18.out
        have f19 := Hf19.out
        have f20 := Hf20.out
        have f21 := Hf21.out
        have f22 := Hf22.out
        have f23 := Hf23.out
        have f24 := Hf24.out
        have hK := HhK.out
        have hd := Hhd.out
        have hJ := HhJ.out
        exact hK _ _ ⟨[u27, u28, u29, u30, u31, u32, u33, u34, u35, u36, u37, u38, u39, u40, u41, u42, u43, u44, u45, (.int .i64 x), u2, u3, u4, u5, (.int .i64 x)], rfl, by kernel_rfl, _, _, _, _, _, _, _, _, _, _, _, _, _, _, _, _, _, _, _, _, _, _, _, _, _, rfl, hI, f0, f1, f2, f3, f4, f5, f6, f7, f8, f9, f10, f11, f12, f13, f14, f15, f16, f17, f18, f19, f20, f21, f22, f23, (fun _ => ⟨_, rfl, x0⟩)⟩
    · rintro D us W hu hall ⟨u27, u28, u29, u30, u31, u32, u33, u34, u35, u36, u37, u38, u39, u40, u41, u42, u43, u44, u45, u46, u2, u3, u4, u5, u6, rfl, hJ, f0, f1, f2, f3, f4, f5, f6, f7, f8, f9, f10, f11, f12, f13, f14, f15, f16, f17, f18, f19, f20, f21, f22, f23, f24⟩
      have d0 : D 0 = true := hall 0 (by simp)
      have d1 : D 1 = true := hall 1 (by simp)
      have d2 : D 2 = true := hall 2 (by simp)
      have d3 : D 3 = true := hall 3 (by simp)
      have d4 : D 4 = true := hall 4 (by simp)
      have d5 : D 5 = true := hall 5 (by simp)
      have d6 : D 6 = true := hall 6 (by simp)
      have d7 : D 7 = true := hall 7 (by simp)
      have d8 : D 8 = true := hall 8 (by simp)
      have d9 : D 9 = true := hall 9 (by simp)
      have d10 : D 10 = true := hall 10 (by simp)
      have d11 : D 11 = true := hall 11 (by simp)
      have d12 : D 12 = true := hall 12 (by simp)
      have d13 : D 13 = true := hall 13 (by simp)
      have d14 : D 14 = true := hall 14 (by simp)
      have d15 : D 15 = true := hall 15 (by simp)
      have d16 : D 16 = true := hall 16 (by simp)
      have d17 : D 17 = true := hall 17 (by simp)
      have d18 : D 18 = true := hall 18 (by simp)
      have d19 : D 19 = true := hall 19 (by simp)
      have d20 : D 20 = true := hall 20 (by simp)
      have d21 : D 21 = true := hall 21 (by simp)
      have d22 : D 22 = true := hall 22 (by simp)
      have d23 : D 23 = true := hall 23 (by simp)
      have d24 : D 24 = true := hall 24 (by simp)
      have hI := hJ
      clear hJ
      have v20 := f20 d20
      have v21 := f21 d21
      have v22 := f22 d22
      have v23 := f23 d23
      obtain ⟨num, v24, hnum⟩ := f24 d24
      obtain ⟨kz, p9, hp9, rd9⟩ := hI
      clear f0 f1 f2 f3 f4 f5 f6 f7 f8 f9 f10 f11 f12 f13 f14 f15 f16 f17 f18 f19 f20 f21 f22 f23 f24 d0 d1 d2 d3 d4 d5 d6 d7 d8 d9 d10 d11 d12 d13 d14 d15 d16 d17 d18 d19 d20 d21 d22 d23 d24 hall hu rd9 hp9
      subst v20 v21 v22 v23 v24
      simp only [List.zip_cons_cons, List.zip_nil_right, puts]
      have hrz := own_rowT9 (own_onb OWN3.out kz hg)
      have hbz : Below w.heap.size w W := (k3.trans kz).below (by omega) (by omega)
      go_wp2
      exact bodyPost_ret (v := .tuple #[.int .i64 f, .slice A2 l.length c2, .int .i64 lo, .int .i64 hi, .int .i64 num]) (by simp [results, Try.results38, go_sem]) rfl ⟨f, A2, c2, l, lo, hi, num, rfl, lc, cm, l6, hlo, hhi, by omega, hrz, hbz⟩
end Go.Proofs.Ytkchlgmlfihkdaa
