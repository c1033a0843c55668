/- A chord near another one, drawn. -/
import Derived.Test.YtpjakgnghpapmaaDrS
import Derived.Test.YtpjakgnghpapmaaAdd2
import Derived.Test.YtpjakgnghpapmaaWay
import Derived.Test.YtpjakgnghpapmaaLfP
namespace Go.Proofs.Ytpjakgnghpapmaa
set_option linter.unusedSimpArgs false
set_option linter.unusedVariables false
open Go.RowKit

def DrX (n : Nat) (w : World) (g B p : Nat) (A : Option Addr) (len cap : Nat) (e : Ending) (w' : World) : Prop :=
  ∃ (v : Option Addr) (c : Nat) (l : List Pi), e = .returned (.slice v n c) ∧ l.length = n ∧ l.length ≤ c ∧ c ≤ maxLen ∧ StP w' w.heap.size v l ∧ Onb g w w' ∧ ∃ p', p' ≤ p + 60 ∧ Rd w' g B A len cap p'
set_option maxRecDepth 20000 in
set_option maxHeartbeats 8000000 in
theorem next_any (w : World) (g B p : Nat) (A : Option Addr) (len cap : Nat) (Aa : Option Addr) (ca : Nat) (l : List Pi) (h : Rd w g B A len cap p) (hp : p < 100000) (hl : l.length ≤ 8) (hr : RowPi w w.heap.size Aa l) (hne : ∀ ad, Aa = some ad → 0 < l.length → ad.block ≠ g) :
    Calls Try.prog 44 #[.pointer (some ⟨g, 0, none⟩), .slice Aa l.length ca] w (DrX l.length w g B p A len cap) := by
  have hbq : 0 < l.length → ∃ bb bo, Aa = some ⟨bb, bo, none⟩ ∧ bb ≠ g ∧ ∀ i, i < l.length → w.cell? ⟨bb, bo + i * 3, none⟩ = some (.int .i64 (atPi l i).step) ∧ w.cell? ⟨bb, bo + i * 3 + 1, none⟩ = some (.int .i64 (atPi l i).alter) ∧ w.cell? ⟨bb, bo + i * 3 + 2, none⟩ = some (.int .i64 (atPi l i).octave) := fun h0 => by
    obtain ⟨b, o, e, _, hc⟩ := hr h0
    exact ⟨b, o, e, hne _ e h0, hc⟩
  have hbr : ∃ bb bo, (0 < l.length → Aa = some ⟨bb, bo, none⟩) ∧ bb ≠ g ∧ ∀ i, i < l.length → w.cell? ⟨bb, bo + i * 3, none⟩ = some (.int .i64 (atPi l i).step) ∧ w.cell? ⟨bb, bo + i * 3 + 1, none⟩ = some (.int .i64 (atPi l i).alter) ∧ w.cell? ⟨bb, bo + i * 3 + 2, none⟩ = some (.int .i64 (atPi l i).octave) := by
    by_cases h0 : 0 < l.length
    · obtain ⟨b, o, e, h1, h2⟩ := hbq h0
      exact ⟨b, o, fun _ => e, h1, h2⟩
    · exact ⟨g + 1, 0, fun z => absurd z h0, by omega, fun i hi => absurd hi (by omega)⟩
  obtain ⟨bb, bo, hA, hbg, hbc⟩ := hbr
  clear hbq hr hne
  have hg := h.gl
  obtain ⟨i0, hi0, hz0, hz1, hz2⟩ := info_parts infoPi
  have own0 : (w.alloc (.cells #[] 62)).ownsRow w.heap.size 62 3 (.slice (some ⟨w.heap.size, 0, none⟩) 0 0) ([] : List Pi).length (flat csPi []) := World.ownsRow_lit w #[] 0 (Nat.le_refl _) (by simp [maxLen]) rfl
  have k0 : Onb g w (w.alloc (.cells #[] 62)) := Onb.of_bel (bel_al (bel_refl w) _)
  have r0 := h.alloc (.cells #[] 62)
  have hBg := h.Bg
  go_enter Try.func44, Try.ntmps44
  go_wp2_with fail
  generalize (w.alloc (.cells #[] 62)) = w1 at *
  refine (way_any _ _ _ _ _ _ _ _ r0 (by omega)).mono ?_
  rintro e w2 ⟨st, ha, rfl, o2, p2, hp2, r2⟩
  replace own0 := own_onb own0 o2 hg
  replace k0 := k0.trans o2
  replace own0 := own0.alloc (.cells #[.int .i64 st, .int .i64 ha] 95)
  replace k0 := k0.alloc (.cells #[.int .i64 st, .int .i64 ha] 95)
  replace r0 := r2.alloc (.cells #[.int .i64 st, .int .i64 ha] 95)
  have bI0 : Blk (w2.alloc (.cells #[.int .i64 st, .int .i64 ha] 95)) w2.heap.size #[.int .i64 st, .int .i64 ha] 95 := Blk.new w2 _ _
  have hIg : w2.heap.size ≠ g := by have := r2.gl; omega
  clear o2
  go_upto_region 3 with fail
  have hIs : w2.heap.size < (w2.alloc (.cells #[.int .i64 st, .int .i64 ha] 95)).heap.size := bI0.lt
  generalize (w2.alloc (.cells #[.int .i64 st, .int .i64 ha] 95)) = w3 at *
  have hsI : w.heap.size ≤ w3.heap.size := k0.size
  generalize w2.heap.size = IV at *
  go_wp2_with fail
  go_loopw [5, 7, 8, 9] (fun o i _ _ wr => ∃ (k : Nat) (acc : List Pi) (pk : Nat), k ≤ l.length ∧ acc.length = k ∧ i = .int .i64 k ∧ wr.ownsRow w.heap.size 62 3 o acc.length (flat csPi acc) ∧ Onb g w wr ∧ Blk wr IV #[.int .i64 st, .int .i64 ha] 95 ∧ pk ≤ p + 6 + 6 * k ∧ Rd wr g B A len cap pk) (fun _ i _ _ _ => l.length - (intOf i).toNat)
  case atStart => exact ⟨0, [], p2, by omega, rfl, rfl, own0, k0, bI0, by omega, r0⟩
  case round =>
    obtain ⟨k, acc, pk, hk, hacc, rfl, hown, hkO, bI, hpk, rk⟩ := hrel
    clear own0 k0 r0 bI0
    by_cases hlt : k < l.length
    · have hA1 := hA (by omega)
      subst hA1
      obtain ⟨d0, d1, d2⟩ := hbc k hlt
      have hkl : (k : Int) < (l.length : Int) := by omega
      have hk0 : (0 : Int) ≤ (k : Int) := by omega
      obtain ⟨p, hp⟩ : ∃ p, atPi l k = p := ⟨_, rfl⟩
      rw [hp] at d0 d1 d2
      obtain ⟨p0, p1, p2⟩ := p
      simp only at d0 d1 d2
      clear hp
      have hgr : g < wr.heap.size := rk.gl
      have d0 := hkO.at d0 hbg
      have d1 := hkO.at d1 hbg
      have d2 := hkO.at d2 hbg
      have v0 : wr.cell? ⟨IV, 0, none⟩ = some (.int .i64 st) := by rw [Blk.cell bI]; rfl
      have v1 : wr.cell? ⟨IV, 1, none⟩ = some (.int .i64 ha) := by rw [Blk.cell bI]; rfl
      obtain ⟨x0, hx0⟩ : ∃ z, adS p0 p1 p2 st ha = z := ⟨_, rfl⟩
      obtain ⟨x1, hx1⟩ : ∃ z, adA p0 p1 p2 st ha = z := ⟨_, rfl⟩
      obtain ⟨x2, hx2⟩ : ∃ z, adO p0 p1 p2 st ha = z := ⟨_, rfl⟩
      obtain ⟨xv, hxv⟩ : ∃ z, adB p0 p1 p2 st ha = z := ⟨_, rfl⟩
      have HA0 := Lib.hid hx0
      have HA1 := Lib.hid hx1
      have HA2 := Lib.hid hx2
      have HA3 := Lib.hid hxv
      obtain ⟨ky, hky⟩ : ∃ z, pkI p0 p1 p2 = z := ⟨_, rfl⟩
      have hkb := pkI_bd p0 p1 p2
      rw [hky] at hkb
      obtain ⟨kb0, kb1⟩ := hkb
      have HKY := Lib.hid hky
      have HACC := Lib.hid hacc
      clear hx0 hx1 hx2 hxv hky hacc
      have hIlt := bI.lt
      have d0w := d0
      have d1w := d1
      have d2w := d2
      go_upto_region 6 with fail
      go_cut [8, 9] (fun u8 u9 wx => ∃ (X : Nat) (s0 a0 o0 : Int), u8 = .pointer (some ⟨X, 0, none⟩) ∧ u9 = .bool xv ∧ Onb g wr wx ∧ wr.heap.size ≤ X ∧ Blk wx X #[.int .i64 s0, .int .i64 a0, .int .i64 o0] 62 ∧ Blk wx IV #[.int .i64 st, .int .i64 ha] 95 ∧ Rd wx g B A len cap pk)
      case first =>
        refine region_slots (by kernel_rfl) (by kernel_rfl) [20, 21, 22, 23, 24, 25, 19, 26, 27, 8, 9] (fun D us W => ∃ u20 u21 u22 u23 u24 u25 u19 u26 u27 u8 u9 : Value, us = [u20, u21, u22, u23, u24, u25, u19, u26, u27, u8, u9] ∧ (Onb g wr W ∧ Rd W g B A len cap pk ∧ Blk W IV #[.int .i64 st, .int .i64 ha] 95 ∧ (D 9 = true → ∃ (b : Nat) (s a o : Int), u8 = .pointer (some ⟨b, 0, none⟩) ∧ wr.heap.size ≤ b ∧ Blk W b #[.int .i64 s, .int .i64 a, .int .i64 o] 62)) ∧ (D 0 = true → u20 = .slice (some ⟨bb, bo, none⟩) l.length ca) ∧ (D 1 = true → u21 = .int .i64 k) ∧ (D 2 = true → u22 = .pointer (some ⟨bb, bo + k * 3, none⟩)) ∧ (D 3 = true → u23 = .agg #[.int .i64 p0, .int .i64 p1, .int .i64 p2]) ∧ (D 4 = true → u24 = .agg #[.int .i64 st, .int .i64 ha]) ∧ (D 5 = true → u25 = .tuple #[.agg #[.int .i64 x0, .int .i64 x1, .int .i64 x2], .bool xv]) ∧ (D 6 = true → u19 = .tuple #[.agg #[.int .i64 x0, .int .i64 x1, .int .i64 x2], .bool xv]) ∧ (D 7 = true → u26 = .agg #[.int .i64 x0, .int .i64 x1, .int .i64 x2]) ∧ (D 8 = true → u27 = .bool xv) ∧ (D 9 = true → True) ∧ (D 11 = true → u9 = .bool xv)) ?_ ?_ ?_
        · intro us hu
          obtain ⟨u20, u21, u22, u23, u24, u25, u19, u26, u27, u8, u9, rfl⟩ : ∃ u20 u21 u22 u23 u24 u25 u19 u26 u27 u8 u9, us = [u20, u21, u22, u23, u24, u25, u19, u26, u27, u8, u9] := by
            match us, hu with
            | [u20, u21, u22, u23, u24, u25, u19, u26, u27, u8, u9], _ => exact ⟨_, _, _, _, _, _, _, _, _, _, _, rfl⟩
          exact ⟨_, _, _, _, _, _, _, _, _, _, _, rfl, ⟨(Onb.refl g wr).drew, rk.drew, bI.drew, fun h => absurd h (by simp)⟩, fun h => absurd h (by simp), fun h => absurd h (by simp), fun h => absurd h (by simp), fun h => absurd h (by simp), fun h => absurd h (by simp), fun h => absurd h (by simp), fun h => absurd h (by simp), fun h => absurd h (by simp), fun h => absurd h (by simp), fun h => absurd h (by simp), fun h => absurd h (by simp)⟩
        · rintro i o hi ho D us W hu hd hdep ⟨u20, u21, u22, u23, u24, u25, u19, u26, u27, u8, u9, rfl, hJ, f0, f1, f2, f3, f4, f5, f6, f7, f8, f9, f11⟩
          have hi' : i < 12 := by simpa using hi
          clear hi hu
          rcases (show i = 0 ∨ i = 1 ∨ i = 2 ∨ i = 3 ∨ i = 4 ∨ i = 5 ∨ i = 6 ∨ i = 7 ∨ i = 8 ∨ i = 9 ∨ i = 10 ∨ i = 11 from by omega) with rfl | rfl | rfl | rfl | rfl | rfl | rfl | rfl | rfl | rfl | rfl | rfl
          · simp only [List.getElem?_cons_zero, List.getElem?_cons_succ, Option.some.injEq] at ho
            subst ho
            clear hi'
            clear hdep
            have hI := hJ
            refine wpOp_step rfl (fun K hK => ?_)
            simp only [List.zip_cons_cons, List.zip_nil_right, puts]
            have Hf0 := Lib.hid f0
            have Hf1 := Lib.hid f1
            have Hf2 := Lib.hid f2
            have Hf3 := Lib.hid f3
            have Hf4 := Lib.hid f4
            have Hf5 := Lib.hid f5
            have Hf6 := Lib.hid f6
            have Hf7 := Lib.hid f7
            have Hf8 := Lib.hid f8
            have Hf9 := Lib.hid f9
            have Hf11 := Lib.hid f11
            have HhK := Lib.hid hK
            have Hhd := Lib.hid hd
            have HhJ := Lib.hid hJ
            clear hd hK hJ f0 f1 f2 f3 f4 f5 f6 f7 f8 f9 f11
            go_simp
            have f0 := Hf0.out
            have f1 := Hf1.out
            have f2 := Hf2.out
            have f3 := Hf3.out
            have f4 := Hf4.out
            have f5 := Hf5.out
            have f6 := Hf6.out
            have f7 := Hf7.out
            have f8 := Hf8.out
            have f9 := Hf9.out
            have f11 := Hf11.out
            have hK := HhK.out
            have hd := Hhd.out
            have hJ := HhJ.out
            exact hK _ _ ⟨[(.slice (some ⟨bb, bo, none⟩) l.length ca), u21, u22, u23, u24, u25, u19, u26, u27, u8, u9], rfl, by kernel_rfl, _, _, _, _, _, _, _, _, _, _, _, rfl, hI, (fun _ => rfl), f1, f2, f3, f4, f5, f6, f7, f8, f9, f11⟩
          · simp only [List.getElem?_cons_zero, List.getElem?_cons_succ, Option.some.injEq] at ho
            subst ho
            clear hi'
            clear hdep
            have hI := hJ
            refine wpOp_step rfl (fun K hK => ?_)
            simp only [List.zip_cons_cons, List.zip_nil_right, puts]
            have Hf0 := Lib.hid f0
            have Hf1 := Lib.hid f1
            have Hf2 := Lib.hid f2
            have Hf3 := Lib.hid f3
            have Hf4 := Lib.hid f4
            have Hf5 := Lib.hid f5
            have Hf6 := Lib.hid f6
            have Hf7 := Lib.hid f7
            have Hf8 := Lib.hid f8
            have Hf9 := Lib.hid f9
            have Hf11 := Lib.hid f11
            have HhK := Lib.hid hK
            have Hhd := Lib.hid hd
            have HhJ := Lib.hid hJ
            clear hd hK hJ f0 f1 f2 f3 f4 f5 f6 f7 f8 f9 f11
            go_simp
            have f0 := Hf0.out
            have f1 := Hf1.out
            have f2 := Hf2.out
            have f3 := Hf3.out
            have f4 := Hf4.out
            have f5 := Hf5.out
            have f6 := Hf6.out
            have f7 := Hf7.out
            have f8 := Hf8.out
            have f9 := Hf9.out
            have f11 := Hf11.out
            have hK := HhK.out
            have hd := Hhd.out
            have hJ := HhJ.out
            exact hK _ _ ⟨[u20, (.int .i64 k), u22, u23, u24, u25, u19, u26, u27, u8, u9], rfl, by kernel_rfl, _, _, _, _, _, _, _, _, _, _, _, rfl, hI, f0, (fun _ => rfl), f2, f3, f4, f5, f6, f7, f8, f9, f11⟩
          · simp only [List.getElem?_cons_zero, List.getElem?_cons_succ, Option.some.injEq] at ho
            subst ho
            clear hi'
            have d0 : D 0 = true := hdep ⟨0, Ground.data⟩ (by simp) rfl
            have d1 : D 1 = true := hdep ⟨1, Ground.data⟩ (by simp) rfl
            clear hdep
            have hI := hJ
            obtain rfl := f0 d0
            obtain rfl := f1 d1
            refine wpOp_step rfl (fun K hK => ?_)
            simp only [List.zip_cons_cons, List.zip_nil_right, puts]
            have Hf0 := Lib.hid f0
            have Hf1 := Lib.hid f1
            have Hf2 := Lib.hid f2
            have Hf3 := Lib.hid f3
            have Hf4 := Lib.hid f4
            have Hf5 := Lib.hid f5
            have Hf6 := Lib.hid f6
            have Hf7 := Lib.hid f7
            have Hf8 := Lib.hid f8
            have Hf9 := Lib.hid f9
            have Hf11 := Lib.hid f11
            have HhK := Lib.hid hK
            have Hhd := Lib.hid hd
            have HhJ := Lib.hid hJ
            clear hd hK hJ f0 f1 f2 f3 f4 f5 f6 f7 f8 f9 f11
            go_simp
            have f0 := Hf0.out
            have f1 := Hf1.out
            have f2 := Hf2.out
            have f3 := Hf3.out
            have f4 := Hf4.out
            have f5 := Hf5.out
            have f6 := Hf6.out
            have f7 := Hf7.out
            have f8 := Hf8.out
            have f9 := Hf9.out
            have f11 := Hf11.out
            have hK := HhK.out
            have hd := Hhd.out
            have hJ := HhJ.out
            exact hK _ _ ⟨[(.slice (some ⟨bb, bo, none⟩) l.length ca), (.int .i64 k), (.pointer (some ⟨bb, bo + k * 3, none⟩)), u23, u24, u25, u19, u26, u27, u8, u9], rfl, by kernel_rfl, _, _, _, _, _, _, _, _, _, _, _, rfl, hI, (fun _ => rfl), (fun _ => rfl), (fun _ => rfl), f3, f4, f5, f6, f7, f8, f9, f11⟩
          · simp only [List.getElem?_cons_zero, List.getElem?_cons_succ, Option.some.injEq] at ho
            subst ho
            clear hi'
            have d2 : D 2 = true := hdep ⟨2, Ground.data⟩ (by simp) rfl
            clear hdep
            have hI := hJ
            obtain rfl := f2 d2
            have e0 := hI.1.at d0w hbg
            have e1 := hI.1.at d1w hbg
            have e2 := hI.1.at d2w hbg
            refine wpOp_step rfl (fun K hK => ?_)
            simp only [List.zip_cons_cons, List.zip_nil_right, puts]
            have Hf0 := Lib.hid f0
            have Hf1 := Lib.hid f1
            have Hf2 := Lib.hid f2
            have Hf3 := Lib.hid f3
            have Hf4 := Lib.hid f4
            have Hf5 := Lib.hid f5
            have Hf6 := Lib.hid f6
            have Hf7 := Lib.hid f7
            have Hf8 := Lib.hid f8
            have Hf9 := Lib.hid f9
            have Hf11 := Lib.hid f11
            have HhK := Lib.hid hK
            have Hhd := Lib.hid hd
            have HhJ := Lib.hid hJ
            clear hd hK hJ f0 f1 f2 f3 f4 f5 f6 f7 f8 f9 f11
            go_simp
            have f0 := Hf0.out
            have f1 := Hf1.out
            have f2 := Hf2.out
            have f3 := Hf3.out
            have f4 := Hf4.out
            have f5 := Hf5.out
            have f6 := Hf6.out
            have f7 := Hf7.out
            have f8 := Hf8.out
            have f9 := Hf9.out
            have f11 := Hf11.out
            have hK := HhK.out
            have hd := Hhd.out
            have hJ := HhJ.out
            exact hK _ _ ⟨[u20, u21, (.pointer (some ⟨bb, bo + k * 3, none⟩)), (.agg #[.int .i64 p0, .int .i64 p1, .int .i64 p2]), u24, u25, u19, u26, u27, u8, u9], rfl, by kernel_rfl, _, _, _, _, _, _, _, _, _, _, _, rfl, hI, f0, f1, (fun _ => rfl), (fun _ => rfl), f4, f5, f6, f7, f8, f9, f11⟩
          · simp only [List.getElem?_cons_zero, List.getElem?_cons_succ, Option.some.injEq] at ho
            subst ho
            clear hi'
            clear hdep
            have hI := hJ
            have e0 : W.cell? ⟨IV, 0, none⟩ = some (.int .i64 st) := by rw [Blk.cell hI.2.2.1]; rfl
            have e1 : W.cell? ⟨IV, 1, none⟩ = some (.int .i64 ha) := by rw [Blk.cell hI.2.2.1]; rfl
            refine wpOp_step rfl (fun K hK => ?_)
            simp only [List.zip_cons_cons, List.zip_nil_right, puts]
            have Hf0 := Lib.hid f0
            have Hf1 := Lib.hid f1
            have Hf2 := Lib.hid f2
            have Hf3 := Lib.hid f3
            have Hf4 := Lib.hid f4
            have Hf5 := Lib.hid f5
            have Hf6 := Lib.hid f6
            have Hf7 := Lib.hid f7
            have Hf8 := Lib.hid f8
            have Hf9 := Lib.hid f9
            have Hf11 := Lib.hid f11
            have HhK := Lib.hid hK
            have Hhd := Lib.hid hd
            have HhJ := Lib.hid hJ
            clear hd hK hJ f0 f1 f2 f3 f4 f5 f6 f7 f8 f9 f11
            go_simp
            have f0 := Hf0.out
            have f1 := Hf1.out
            have f2 := Hf2.out
            have f3 := Hf3.out
            have f4 := Hf4.out
            have f5 := Hf5.out
            have f6 := Hf6.out
            have f7 := Hf7.out
            have f8 := Hf8.out
            have f9 := Hf9.out
            have f11 := Hf11.out
            have hK := HhK.out
            have hd := Hhd.out
            have hJ := HhJ.out
            exact hK _ _ ⟨[u20, u21, u22, u23, (.agg #[.int .i64 st, .int .i64 ha]), u25, u19, u26, u27, u8, u9], rfl, by kernel_rfl, _, _, _, _, _, _, _, _, _, _, _, rfl, hI, f0, f1, f2, f3, (fun _ => rfl), f5, f6, f7, f8, f9, f11⟩
          · simp only [List.getElem?_cons_zero, List.getElem?_cons_succ, Option.some.injEq] at ho
            subst ho
            clear hi'
            have d3 : D 3 = true := hdep ⟨3, Ground.data⟩ (by simp) rfl
            have d4 : D 4 = true := hdep ⟨4, Ground.data⟩ (by simp) rfl
            clear hdep
            have hI := hJ
            obtain rfl := f3 d3
            obtain rfl := f4 d4
            obtain ⟨kO, rd, bIW, h3⟩ := hI
            refine wpOp_step rfl (fun K hK => ?_)
            simp only [List.zip_cons_cons, List.zip_nil_right, puts]
            have Hf0 := Lib.hid f0
            have Hf1 := Lib.hid f1
            have Hf2 := Lib.hid f2
            have Hf3 := Lib.hid f3
            have Hf4 := Lib.hid f4
            have Hf5 := Lib.hid f5
            have Hf6 := Lib.hid f6
            have Hf7 := Lib.hid f7
            have Hf8 := Lib.hid f8
            have Hf9 := Lib.hid f9
            have Hf11 := Lib.hid f11
            have HhK := Lib.hid hK
            have Hhd := Lib.hid hd
            have HhJ := Lib.hid hJ
            clear hd hK hJ f0 f1 f2 f3 f4 f5 f6 f7 f8 f9 f11
            go_simp
            go_wp2_with (go_at_call 72; refine (sad_val HA0.out HA1.out HA2.out HA3.out _).mono ?_; rintro e w9 ⟨rfl, b9⟩)
            have f0 := Hf0.out
            have f1 := Hf1.out
            have f2 := Hf2.out
            have f3 := Hf3.out
            have f4 := Hf4.out
            have f5 := Hf5.out
            have f6 := Hf6.out
            have f7 := Hf7.out
            have f8 := Hf8.out
            have f9 := Hf9.out
            have f11 := Hf11.out
            have hK := HhK.out
            have hd := Hhd.out
            have hJ := HhJ.out
            exact hK _ _ ⟨[u20, u21, u22, (.agg #[.int .i64 p0, .int .i64 p1, .int .i64 p2]), (.agg #[.int .i64 st, .int .i64 ha]), (.tuple #[.agg #[.int .i64 x0, .int .i64 x1, .int .i64 x2], .bool xv]), u19, u26, u27, u8, u9], rfl, by kernel_rfl, _, _, _, _, _, _, _, _, _, _, _, rfl, ⟨kO.trans (Onb.of_bel (g := g) b9), rd.below b9, bIW.below b9, (fun h => by obtain ⟨b, s, a, o, e, hl, hb⟩ := h3 h; exact ⟨b, s, a, o, e, hl, hb.onb (Onb.of_bel (g := g) b9) (by omega)⟩)⟩, f0, f1, f2, (fun _ => rfl), (fun _ => rfl), (fun _ => rfl), f6, f7, f8, f9, f11⟩
          · simp only [List.getElem?_cons_zero, List.getElem?_cons_succ, Option.some.injEq] at ho
            subst ho
            clear hi'
            have d5 : D 5 = true := hdep ⟨5, Ground.data⟩ (by simp) rfl
            clear hdep
            have hI := hJ
            obtain rfl := f5 d5
            refine wpOp_step rfl (fun K hK => ?_)
            simp only [List.zip_cons_cons, List.zip_nil_right, puts]
            have Hf0 := Lib.hid f0
            have Hf1 := Lib.hid f1
            have Hf2 := Lib.hid f2
            have Hf3 := Lib.hid f3
            have Hf4 := Lib.hid f4
            have Hf5 := Lib.hid f5
            have Hf6 := Lib.hid f6
            have Hf7 := Lib.hid f7
            have Hf8 := Lib.hid f8
            have Hf9 := Lib.hid f9
            have Hf11 := Lib.hid f11
            have HhK := Lib.hid hK
            have Hhd := Lib.hid hd
            have HhJ := Lib.hid hJ
            clear hd hK hJ f0 f1 f2 f3 f4 f5 f6 f7 f8 f9 f11
            go_simp
            have f0 := Hf0.out
            have f1 := Hf1.out
            have f2 := Hf2.out
            have f3 := Hf3.out
            have f4 := Hf4.out
            have f5 := Hf5.out
            have f6 := Hf6.out
            have f7 := Hf7.out
            have f8 := Hf8.out
            have f9 := Hf9.out
            have f11 := Hf11.out
            have hK := HhK.out
            have hd := Hhd.out
            have hJ := HhJ.out
            exact hK _ _ ⟨[u20, u21, u22, u23, u24, (.tuple #[.agg #[.int .i64 x0, .int .i64 x1, .int .i64 x2], .bool xv]), (.tuple #[.agg #[.int .i64 x0, .int .i64 x1, .int .i64 x2], .bool xv]), u26, u27, u8, u9], rfl, by kernel_rfl, _, _, _, _, _, _, _, _, _, _, _, rfl, hI, f0, f1, f2, f3, f4, (fun _ => rfl), (fun _ => rfl), f7, f8, f9, f11⟩
          · simp only [List.getElem?_cons_zero, List.getElem?_cons_succ, Option.some.injEq] at ho
            subst ho
            clear hi'
            have d6 : D 6 = true := hdep ⟨6, Ground.data⟩ (by simp) rfl
            clear hdep
            have hI := hJ
            obtain rfl := f6 d6
            refine wpOp_step rfl (fun K hK => ?_)
            simp only [List.zip_cons_cons, List.zip_nil_right, puts]
            have Hf0 := Lib.hid f0
            have Hf1 := Lib.hid f1
            have Hf2 := Lib.hid f2
            have Hf3 := Lib.hid f3
            have Hf4 := Lib.hid f4
            have Hf5 := Lib.hid f5
            have Hf6 := Lib.hid f6
            have Hf7 := Lib.hid f7
            have Hf8 := Lib.hid f8
            have Hf9 := Lib.hid f9
            have Hf11 := Lib.hid f11
            have HhK := Lib.hid hK
            have Hhd := Lib.hid hd
            have HhJ := Lib.hid hJ
            clear hd hK hJ f0 f1 f2 f3 f4 f5 f6 f7 f8 f9 f11
            go_simp
            have f0 := Hf0.out
            have f1 := Hf1.out
            have f2 := Hf2.out
            have f3 := Hf3.out
            have f4 := Hf4.out
            have f5 := Hf5.out
            have f6 := Hf6.out
            have f7 := Hf7.out
            have f8 := Hf8.out
            have f9 := Hf9.out
            have f11 := Hf11.out
            have hK := HhK.out
            have hd := Hhd.out
            have hJ := HhJ.out
            exact hK _ _ ⟨[u20, u21, u22, u23, u24, u25, (.tuple #[.agg #[.int .i64 x0, .int .i64 x1, .int .i64 x2], .bool xv]), (.agg #[.int .i64 x0, .int .i64 x1, .int .i64 x2]), u27, u8, u9], rfl, by kernel_rfl, _, _, _, _, _, _, _, _, _, _, _, rfl, hI, f0, f1, f2, f3, f4, f5, (fun _ => rfl), (fun _ => rfl), f8, f9, f11⟩
          · simp only [List.getElem?_cons_zero, List.getElem?_cons_succ, Option.some.injEq] at ho
            subst ho
            clear hi'
            have d6 : D 6 = true := hdep ⟨6, Ground.data⟩ (by simp) rfl
            clear hdep
            have hI := hJ
            obtain rfl := f6 d6
            refine wpOp_step rfl (fun K hK => ?_)
            simp only [List.zip_cons_cons, List.zip_nil_right, puts]
            have Hf0 := Lib.hid f0
            have Hf1 := Lib.hid f1
            have Hf2 := Lib.hid f2
            have Hf3 := Lib.hid f3
            have Hf4 := Lib.hid f4
            have Hf5 := Lib.hid f5
            have Hf6 := Lib.hid f6
            have Hf7 := Lib.hid f7
            have Hf8 := Lib.hid f8
            have Hf9 := Lib.hid f9
            have Hf11 := Lib.hid f11
            have HhK := Lib.hid hK
            have Hhd := Lib.hid hd
            have HhJ := Lib.hid hJ
            clear hd hK hJ f0 f1 f2 f3 f4 f5 f6 f7 f8 f9 f11
            go_simp
            have f0 := Hf0.out
            have f1 := Hf1.out
            have f2 := Hf2.out
            have f3 := Hf3.out
            have f4 := Hf4.out
            have f5 := Hf5.out
            have f6 := Hf6.out
            have f7 := Hf7.out
            have f8 := Hf8.out
            have f9 := Hf9.out
            have f11 := Hf11.out
            have hK := HhK.out
            have hd := Hhd.out
            have hJ := HhJ.out
            exact hK _ _ ⟨[u20, u21, u22, u23, u24, u25, (.tuple #[.agg #[.int .i64 x0, .int .i64 x1, .int .i64 x2], .bool xv]), u26, (.bool xv), u8, u9], rfl, by kernel_rfl, _, _, _, _, _, _, _, _, _, _, _, rfl, hI, f0, f1, f2, f3, f4, f5, (fun _ => rfl), f7, (fun _ => rfl), f9, f11⟩
          · simp only [List.getElem?_cons_zero, List.getElem?_cons_succ, Option.some.injEq] at ho
            subst ho
            clear hi'
            clear hdep
            have hI := hJ
            obtain ⟨kO, rd, bIW, h3⟩ := hI
            refine wpOp_step rfl (fun K hK => ?_)
            simp only [List.zip_cons_cons, List.zip_nil_right, puts]
            have Hf0 := Lib.hid f0
            have Hf1 := Lib.hid f1
            have Hf2 := Lib.hid f2
            have Hf3 := Lib.hid f3
            have Hf4 := Lib.hid f4
            have Hf5 := Lib.hid f5
            have Hf6 := Lib.hid f6
            have Hf7 := Lib.hid f7
            have Hf8 := Lib.hid f8
            have Hf9 := Lib.hid f9
            have Hf11 := Lib.hid f11
            have HhK := Lib.hid hK
            have Hhd := Lib.hid hd
            have HhJ := Lib.hid hJ
            clear hd hK hJ f0 f1 f2 f3 f4 f5 f6 f7 f8 f9 f11
            go_simp
            have f0 := Hf0.out
            have f1 := Hf1.out
            have f2 := Hf2.out
            have f3 := Hf3.out
            have f4 := Hf4.out
            have f5 := Hf5.out
            have f6 := Hf6.out
            have f7 := Hf7.out
            have f8 := Hf8.out
            have f9 := Hf9.out
            have f11 := Hf11.out
            have hK := HhK.out
            have hd := Hhd.out
            have hJ := HhJ.out
            exact hK _ _ ⟨[u20, u21, u22, u23, u24, u25, u19, u26, u27, (.pointer (some ⟨W.heap.size, 0, none⟩)), u9], rfl, by kernel_rfl, _, _, _, _, _, _, _, _, _, _, _, rfl, ⟨kO.trans (Onb.of_bel (g := g) (bel_al (bel_refl W) (.cells #[.int .i64 0, .int .i64 0, .int .i64 0] 62))), rd.alloc _, bIW.alloc _, fun _ => ⟨W.heap.size, 0, 0, 0, rfl, kO.size, Blk.new W _ _⟩⟩, f0, f1, f2, f3, f4, f5, f6, f7, f8, (fun _ => trivial), f11⟩
          · simp only [List.getElem?_cons_zero, List.getElem?_cons_succ, Option.some.injEq] at ho
            subst ho
            clear hi'
            have d9 : D 9 = true := hdep ⟨9, Ground.data⟩ (by simp) rfl
            have d7 : D 7 = true := hdep ⟨7, Ground.data⟩ (by simp) rfl
            clear hdep
            have hI := hJ
            obtain _ := f9 d9
            obtain rfl := f7 d7
            obtain ⟨kO, rd, bIW, h3⟩ := hI
            have hBg9 := rd.Bg
            have hIl9 := hIlt
            obtain ⟨bx, s0, a0, o0, rfl, hlb, hb⟩ := h3 d9
            have c0 : W.cell? ⟨bx, 0, none⟩ = some (.int .i64 s0) := by rw [Blk.cell hb]; rfl
            have c1 : W.cell? ⟨bx, 1, none⟩ = some (.int .i64 a0) := by rw [Blk.cell hb]; rfl
            have c2 : W.cell? ⟨bx, 2, none⟩ = some (.int .i64 o0) := by rw [Blk.cell hb]; rfl
            have f0' := Blk.free hb 0
            have f1' := Blk.free hb 1
            have f2' := Blk.free hb 2
            have lb' := hb.lt
            refine wpOp_step rfl (fun K hK => ?_)
            simp only [List.zip_cons_cons, List.zip_nil_right, puts]
            have Hf0 := Lib.hid f0
            have Hf1 := Lib.hid f1
            have Hf2 := Lib.hid f2
            have Hf3 := Lib.hid f3
            have Hf4 := Lib.hid f4
            have Hf5 := Lib.hid f5
            have Hf6 := Lib.hid f6
            have Hf7 := Lib.hid f7
            have Hf8 := Lib.hid f8
            have Hf9 := Lib.hid f9
            have Hf11 := Lib.hid f11
            have HhK := Lib.hid hK
            have Hhd := Lib.hid hd
            have HhJ := Lib.hid hJ
            clear hd hK hJ f0 f1 f2 f3 f4 f5 f6 f7 f8 f9 f11
            go_simp
            have f0 := Hf0.out
            have f1 := Hf1.out
            have f2 := Hf2.out
            have f3 := Hf3.out
            have f4 := Hf4.out
            have f5 := Hf5.out
            have f6 := Hf6.out
            have f7 := Hf7.out
            have f8 := Hf8.out
            have f9 := Hf9.out
            have f11 := Hf11.out
            have hK := HhK.out
            have hd := Hhd.out
            have hJ := HhJ.out
            exact hK _ _ ⟨[u20, u21, u22, u23, u24, u25, u19, (.agg #[.int .i64 x0, .int .i64 x1, .int .i64 x2]), u27, (.pointer (some ⟨bx, 0, none⟩)), u9], rfl, by kernel_rfl, _, _, _, _, _, _, _, _, _, _, _, rfl, ⟨((kO.set hlb _).set hlb _).set hlb _, ((rd.set (by first | omega | (simp only; omega)) (by first | omega | (simp only; omega)) _).set (by first | omega | (simp only; omega)) (by first | omega | (simp only; omega)) _).set (by first | omega | (simp only; omega)) (by first | omega | (simp only; omega)) _, ((bIW.off (by first | omega | (simp only; omega)) _).off (by first | omega | (simp only; omega)) _).off (by first | omega | (simp only; omega)) _, fun _ => ⟨bx, x0, x1, x2, rfl, hlb, hb.set3⟩⟩, f0, f1, f2, f3, f4, f5, f6, (fun _ => rfl), f8, f9, f11⟩
          · simp only [List.getElem?_cons_zero, List.getElem?_cons_succ, Option.some.injEq] at ho
            subst ho
            clear hi'
            have d8 : D 8 = true := hdep ⟨8, Ground.data⟩ (by simp) rfl
            clear hdep
            have hI := hJ
            obtain rfl := f8 d8
            refine wpOp_step rfl (fun K hK => ?_)
            simp only [List.zip_cons_cons, List.zip_nil_right, puts]
            have Hf0 := Lib.hid f0
            have Hf1 := Lib.hid f1
            have Hf2 := Lib.hid f2
            have Hf3 := Lib.hid f3
            have Hf4 := Lib.hid f4
            have Hf5 := Lib.hid f5
            have Hf6 := Lib.hid f6
            have Hf7 := Lib.hid f7
            have Hf8 := Lib.hid f8
            have Hf9 := Lib.hid f9
            have Hf11 := Lib.hid f11
            have HhK := Lib.hid hK
            have Hhd := Lib.hid hd
            have HhJ := Lib.hid hJ
            clear hd hK hJ f0 f1 f2 f3 f4 f5 f6 f7 f8 f9 f11
            go_simp
            have f0 := Hf0.out
            have f1 := Hf1.out
            have f2 := Hf2.out
            have f3 := Hf3.out
            have f4 := Hf4.out
            have f5 := Hf5.out
            have f6 := Hf6.out
            have f7 := Hf7.out
            have f8 := Hf8.out
            have f9 := Hf9.out
            have f11 := Hf11.out
            have hK := HhK.out
            have hd := Hhd.out
            have hJ := HhJ.out
            exact hK _ _ ⟨[u20, u21, u22, u23, u24, u25, u19, u26, (.bool xv), u8, (.bool xv)], rfl, by kernel_rfl, _, _, _, _, _, _, _, _, _, _, _, rfl, hI, f0, f1, f2, f3, f4, f5, f6, f7, (fun _ => rfl), f9, (fun _ => rfl)⟩
        · rintro D us W hu hall ⟨u20, u21, u22, u23, u24, u25, u19, u26, u27, u8, u9, rfl, hJ, f0, f1, f2, f3, f4, f5, f6, f7, f8, f9, f11⟩
          have d0 : D 0 = true := hall 0 (by simp)
          have d1 : D 1 = true := hall 1 (by simp)
          have d2 : D 2 = true := hall 2 (by simp)
          have d3 : D 3 = true := hall 3 (by simp)
          have d4 : D 4 = true := hall 4 (by simp)
          have d5 : D 5 = true := hall 5 (by simp)
          have d6 : D 6 = true := hall 6 (by simp)
          have d7 : D 7 = true := hall 7 (by simp)
          have d8 : D 8 = true := hall 8 (by simp)
          have d9 : D 9 = true := hall 9 (by simp)
          have d10 : D 10 = true := hall 10 (by simp)
          have d11 : D 11 = true := hall 11 (by simp)
          have hI := hJ
          clear hJ
          obtain ⟨kW, r6, bIW, h3⟩ := hI
          obtain ⟨bx, s0, a0, o0, rfl, hlb, hb⟩ := h3 d9
          have e9 := f11 d11
          clear h3 f0 f1 f2 f3 f4 f5 f6 f7 f8 f9 d0 d1 d2 d3 d4 d5 d6 d7 d8 d9 d10 hall hu
          subst e9
          simp only [List.zip_cons_cons, List.zip_nil_right, puts]
          go_simp
          apply_assumption
          go_meet
          exact ⟨bx, s0, a0, o0, rfl, rfl, kW, hlb, hb, bIW, r6⟩
      case rest =>
      obtain ⟨X, x0, x1, x2, rfl, rfl, kY, hXw, hXY, bIY, rY⟩ := hcut
      obtain ⟨wv, hwv⟩ : ∃ z : World, z = wc := ⟨_, rfl⟩
      rw [← hwv] at kY hXY bIY rY ⊢
      clear hwv d0w d1w d2w HA0 HA1 HA2 HA3
      have hIX : IV ≠ X := by omega
      have hBg := rk.Bg
      go_upto_region 7 with fail
      replace d0 := kY.at d0 hbg
      replace d1 := kY.at d1 hbg
      replace d2 := kY.at d2 hbg
      clear v0 v1 bI rk
      go_cut [34] (fun u wx => ∃ tb : Bool, u = .bool tb ∧ Onl g wv wx ∧ ∃ q, q ≤ pk + 1 ∧ Rd wx g B A len cap q)
      case first =>
        cases xv
        · go_wp2
          go_meet
          exact ⟨_, rfl, Onl.refl g wv, pk, by omega, rY⟩
        · go_wp2_with fail
          refine (pick_fr _ _ _ _ _ _ _ _ rY (by omega)).mono ?_
          rintro e wx ⟨x, rfl, _, ox, rx⟩
          go_wp2
          go_meet
          exact ⟨_, rfl, ox, pk + 1, by omega, rx⟩
      case rest =>
        obtain ⟨tb, rfl, o9, q9, hq9, r9⟩ := hcut
        obtain ⟨wy, hwy⟩ : ∃ z : World, z = wc := ⟨_, rfl⟩
        rw [← hwy] at o9 r9 ⊢
        clear hwy
        replace d0 := o9.at d0 hbg
        replace d1 := o9.at d1 hbg
        replace d2 := o9.at d2 hbg
        have hXg : X ≠ g := by omega
        have bXY := hXY.onl o9 hXg
        have bIZ := bIY.onl o9 hIg
        have kZ := kY.trans (Onb.of_onl o9)
        have hsz := kZ.size
        clear hXY bIY kY rY o9
        go_upto_if 34 with fail
        go_cut [] (fun wx => ∃ s a o : Int, Blk wx X #[.int .i64 s, .int .i64 a, .int .i64 o] 62 ∧ Blk wx IV #[.int .i64 st, .int .i64 ha] 95 ∧ Onb g wr wx ∧ ∃ q, q ≤ q9 + 1 ∧ Rd wx g B A len cap q)
        case first =>
          cases tb
          · go_wp2
            go_meet
            exact ⟨x0, x1, x2, bXY, bIZ, kZ, q9, by omega, r9⟩
          · go_wp2_with fail
            refine (spk_val HKY.out _).mono ?_
            rintro e wa ⟨rfl, ba⟩
            replace bXY := bXY.below ba
            replace bIZ := bIZ.below ba
            replace kZ := kZ.trans (Onb.of_bel ba)
            have ra := r9.below ba
            clear ba r9 d0 d1 d2
            go_wp2_with fail
            refine (pick_fr _ _ _ _ _ _ _ _ ra (by omega)).mono ?_
            rintro e wb ⟨x, rfl, ⟨y0, y1, _⟩, ob, rb⟩
            have y1 := y1 (by omega)
            replace bXY := bXY.onl ob hXg
            replace bIZ := bIZ.onl ob hIg
            replace kZ := kZ.trans (Onb.of_onl ob)
            clear ob ra
            have i1 := IntWalk.i64_in (ky + x) (by omega)
            have i2 := IntWalk.i64_in (ky + x - 2) (by omega)
            by_cases hm : 3 ≤ ky + x
            · have hmx : max (0 : Int) (ky + x - 2) = ky + x - 2 := by omega
              go_wp2_with fail
              refine (spel_any _ _ _ (by omega) (by omega)).mono ?_
              rintro e we ⟨s7, a7, o7, bq, rfl, be⟩
              replace bXY := bXY.below be
              replace bIZ := bIZ.below be
              replace kZ := kZ.trans (Onb.of_bel be)
              have re := rb.below be
              have hwe := be.size
              clear be rb
              have hlX2 := bXY.lt
              have hBg2 := re.Bg
              have c0 : we.cell? ⟨X, 0, none⟩ = some (.int .i64 x0) := by rw [Blk.cell bXY]; rfl
              have c1 : we.cell? ⟨X, 1, none⟩ = some (.int .i64 x1) := by rw [Blk.cell bXY]; rfl
              have c2 : we.cell? ⟨X, 2, none⟩ = some (.int .i64 x2) := by rw [Blk.cell bXY]; rfl
              have f0 := Blk.free bXY 0
              have f1 := Blk.free bXY 1
              have f2 := Blk.free bXY 2
              have HB := Lib.hid (bXY.set3 (u := .int .i64 s7) (v := .int .i64 a7) (x := .int .i64 o7))
              have HI := Lib.hid (((bIZ.off (q := ⟨X, 0, none⟩) (by simp only; omega) (.int .i64 s7)).off (q := ⟨X, 1, none⟩) (by simp only; omega) (.int .i64 a7)).off (q := ⟨X, 2, none⟩) (by simp only; omega) (.int .i64 o7))
              have HK := Lib.hid (((kZ.set (p := ⟨X, 0, none⟩) (by simp only; omega) (.int .i64 s7)).set (p := ⟨X, 1, none⟩) (by simp only; omega) (.int .i64 a7)).set (p := ⟨X, 2, none⟩) (by simp only; omega) (.int .i64 o7))
              have HR := Lib.hid (((re.set (q := ⟨X, 0, none⟩) (by simp only; omega) (by simp only; omega) (.int .i64 s7)).set (q := ⟨X, 1, none⟩) (by simp only; omega) (by simp only; omega) (.int .i64 a7)).set (q := ⟨X, 2, none⟩) (by simp only; omega) (by simp only; omega) (.int .i64 o7))
              clear bXY bIZ kZ re
              go_wp2
              go_meet
              exact ⟨s7, a7, o7, HB.out, HI.out, HK.out, q9 + 1, by omega, HR.out⟩
            · have hmx : max (0 : Int) (ky + x - 2) = 0 := by omega
              go_wp2_with fail
              refine (spel_any _ _ _ (by omega) (by omega)).mono ?_
              rintro e we ⟨s7, a7, o7, bq, rfl, be⟩
              replace bXY := bXY.below be
              replace bIZ := bIZ.below be
              replace kZ := kZ.trans (Onb.of_bel be)
              have re := rb.below be
              have hwe := be.size
              clear be rb
              have hlX2 := bXY.lt
              have hBg2 := re.Bg
              have c0 : we.cell? ⟨X, 0, none⟩ = some (.int .i64 x0) := by rw [Blk.cell bXY]; rfl
              have c1 : we.cell? ⟨X, 1, none⟩ = some (.int .i64 x1) := by rw [Blk.cell bXY]; rfl
              have c2 : we.cell? ⟨X, 2, none⟩ = some (.int .i64 x2) := by rw [Blk.cell bXY]; rfl
              have f0 := Blk.free bXY 0
              have f1 := Blk.free bXY 1
              have f2 := Blk.free bXY 2
              have HB := Lib.hid (bXY.set3 (u := .int .i64 s7) (v := .int .i64 a7) (x := .int .i64 o7))
              have HI := Lib.hid (((bIZ.off (q := ⟨X, 0, none⟩) (by simp only; omega) (.int .i64 s7)).off (q := ⟨X, 1, none⟩) (by simp only; omega) (.int .i64 a7)).off (q := ⟨X, 2, none⟩) (by simp only; omega) (.int .i64 o7))
              have HK := Lib.hid (((kZ.set (p := ⟨X, 0, none⟩) (by simp only; omega) (.int .i64 s7)).set (p := ⟨X, 1, none⟩) (by simp only; omega) (.int .i64 a7)).set (p := ⟨X, 2, none⟩) (by simp only; omega) (.int .i64 o7))
              have HR := Lib.hid (((re.set (q := ⟨X, 0, none⟩) (by simp only; omega) (by simp only; omega) (.int .i64 s7)).set (q := ⟨X, 1, none⟩) (by simp only; omega) (by simp only; omega) (.int .i64 a7)).set (q := ⟨X, 2, none⟩) (by simp only; omega) (by simp only; omega) (.int .i64 o7))
              clear bXY bIZ kZ re
              go_wp2
              go_meet
              exact ⟨s7, a7, o7, HB.out, HI.out, HK.out, q9 + 1, by omega, HR.out⟩
        case rest =>
          obtain ⟨s7, a7, o7, bX, bI, kZ, q8, hq8, r8⟩ := hcut
          obtain ⟨wd, hwd⟩ : ∃ z : World, z = wc := ⟨_, rfl⟩
          rw [← hwd] at bX bI kZ r8 ⊢
          clear hwd bXY bIZ r9
          replace hown := own_onb hown kZ (by omega)
          replace hkO := hkO.trans kZ
          have m0 : wd.cell? ⟨X, 0, none⟩ = some (.int .i64 s7) := by rw [Blk.cell bX]; rfl
          have m1 : wd.cell? ⟨X, 1, none⟩ = some (.int .i64 a7) := by rw [Blk.cell bX]; rfl
          have m2 : wd.cell? ⟨X, 2, none⟩ = some (.int .i64 o7) := by rw [Blk.cell bX]; rfl
          have hs8 := hkO.size
          have hal : acc.length ≤ 8 := by have := HACC.out; omega
          have hIl := bI.lt
          clear d0 d1 d2
          go_wp2_with (at_builtin; go_must (refine wpList_append_lies _ rfl _ _ 37 rfl w.heap.size 62 i0 _ 3 24 Try.underlying37 hi0 hz0 hz1 hz2 rfl (by omega) _ acc.length (flat csPi acc) rfl (hown.alloc _) ⟨wd.heap.size, 0, none⟩ 1 1 [.int .i64 s7, .int .i64 a7, .int .i64 o7] rfl rfl (World.news_of_block (cs := #[.int .i64 s7, .int .i64 a7, .int .i64 o7]) (t := 62) (fr := (0, 0)) (heap_alloc_new wd _)) (by simp [Value.oneCell']) (by omega) (by unfold maxLen; omega) (by omega) (by simp; omega) _ rfl ?_; intro gg9 cp9 w9 hown9 hgrow9 hat9 hlt9))
          have hkA := (hkO.alloc (.cells #[.int .i64 s7, .int .i64 a7, .int .i64 o7] 62)).grown hgrow9 (fun k hk => own_ge hown k hk)
          have hrA := (r8.alloc (.cells #[.int .i64 s7, .int .i64 a7, .int .i64 o7] 62)).grown hgrow9 (fun k hk => by have := own_ge hown k hk; omega)
          have bIA := (bI.alloc (.cells #[.int .i64 s7, .int .i64 a7, .int .i64 o7] 62)).grown hgrow9 (own_ne hown bI (by decide))
          have hqq := own_push (t := (⟨s7, a7, o7⟩ : Pi)) hown9 rfl
          have HAL := Lib.hid (show (acc ++ [(⟨s7, a7, o7⟩ : Pi)]).length = k + 1 from by rw [List.length_append, List.length_singleton, HACC.out])
          go_wp2
          go_roundw
          case rel => exact ⟨k + 1, acc ++ [⟨s7, a7, o7⟩], _, by omega, HAL.out, by go_num, hqq, hkA, bIA, by omega, hrA⟩
          case measure => simp [intOf]; omega
    · obtain rfl : k = l.length := by omega
      obtain ⟨A9, c9, rfl, lc9, cm9, hS⟩ := StP.of hown
      have hS := hS
      rw [hacc] at lc9 ⊢
      go_wp2
      exact bodyPost_ret (v := .slice A9 l.length c9) (by simp [results, Try.results44, go_sem]) rfl ⟨A9, c9, acc, rfl, hacc, by rw [hacc]; exact lc9, cm9, hS, hkO, pk, by omega, rk⟩
end Go.Proofs.Ytpjakgnghpapmaa
