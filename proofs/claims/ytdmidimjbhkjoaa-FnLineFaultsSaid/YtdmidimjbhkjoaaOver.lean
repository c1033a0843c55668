/- A key, a cantus and a line, drawn for the laws of lines: the loop that draws a line over a cantus. -/
import Derived.Test.YtdmidimjbhkjoaaSrch
import Derived.Test.YtdmidimjbhkjoaaDrP
import Derived.Test.YtdmidimjbhkjoaaLnL
import Derived.Test.YtdmidimjbhkjoaaInv
import Derived.Deep.AppendLies
namespace Go.Proofs.Ytdmidimjbhkjoaa
set_option linter.unusedSimpArgs false
set_option linter.unusedVariables false
open Go.RowKit

def FIn (lo hi : Int) (u : Value) : Prop := ∃ v : Int, u = .int .i64 v ∧ lo ≤ v ∧ v < hi
def FL5 (lo : Nat) (W : World) (u : Value) : Prop := ∃ (b : Nat) (x : Int), u = .slice (some ⟨b, 0, none⟩) 5 5 ∧ (0 ≤ x ∧ x < 7) ∧ lo ≤ b ∧ Blk W b #[.int .i64 0, .int .i64 2, .int .i64 4, .int .i64 5, .int .i64 x] 3
def FP5 (lo : Nat) (W : World) (u : Value) : Prop := ∃ (b t : Nat) (x : Int), u = .pointer (some ⟨b, t, none⟩) ∧ t < 5 ∧ (0 ≤ x ∧ x < 7) ∧ lo ≤ b ∧ Blk W b #[.int .i64 0, .int .i64 2, .int .i64 4, .int .i64 5, .int .i64 x] 3
theorem FL5.onb {lo g : Nat} {W W' : World} {u : Value} (h : FL5 lo W u) (ho : Onb g W W') (hg : g < lo) : FL5 lo W' u := by obtain ⟨b, x, e, hx, hl, hb⟩ := h; exact ⟨b, x, e, hx, hl, hb.onb ho (by omega)⟩
theorem FP5.onb {lo g : Nat} {W W' : World} {u : Value} (h : FP5 lo W u) (ho : Onb g W W') (hg : g < lo) : FP5 lo W' u := by obtain ⟨b, t, x, e, ht, hx, hl, hb⟩ := h; exact ⟨b, t, x, e, ht, hx, hl, hb.onb ho (by omega)⟩
theorem blk5_at {W : World} {b t : Nat} {x : Int} (h : Blk W b #[.int .i64 0, .int .i64 2, .int .i64 4, .int .i64 5, .int .i64 x] 3) (h1 : t < 5) (hx : 0 ≤ x ∧ x < 7) : ∃ y : Int, W.cell? ⟨b, t, none⟩ = some (.int .i64 y) ∧ 0 ≤ y ∧ y < 7 := by
  rw [Blk.cell h]
  rcases (show t = 0 ∨ t = 1 ∨ t = 2 ∨ t = 3 ∨ t = 4 from by omega) with rfl | rfl | rfl | rfl | rfl
  · exact ⟨_, rfl, by omega, by omega⟩
  · exact ⟨_, rfl, by omega, by omega⟩
  · exact ⟨_, rfl, by omega, by omega⟩
  · exact ⟨_, rfl, by omega, by omega⟩
  · exact ⟨_, rfl, hx.1, hx.2⟩
theorem tmod7 (y : Int) : -7 < y.tmod 7 ∧ y.tmod 7 < 7 := by
  constructor
  · by_cases h0 : 0 ≤ y
    · have e := Int.tmod_eq_emod_of_nonneg (b := 7) h0
      omega
    · have e := Int.neg_tmod y 7
      have e2 := Int.tmod_eq_emod_of_nonneg (a := -y) (b := 7) (by omega)
      omega
  · exact Int.tmod_lt_of_pos y (by decide)
theorem own_rowT9 {w : World} {base : Nat} {e : TypeId} {AT : Option Addr} {cT : Nat} {T : List Pi} (h : w.ownsRow base e 3 (.slice AT T.length cT) T.length (flat csPi T)) : RowPi w w.heap.size AT T := by
  obtain ⟨A, c, e, _, _, h, _⟩ := own_rowPi h
  cases e
  exact h
theorem own_storedN {α : Type} {cs : α → List Value} {k : Nat} (hk : ∀ t, (cs t).length = k) (d : α) {w : World} {base : Nat} {e : TypeId} {g cap n : Nat} {l : List α} (h : w.ownsRow base e k (.slice (some ⟨g, 0, none⟩) n cap) n (flat cs l)) (hn : l.length = n) (i j : Nat) (hi : i < n) (hj : j < k) (t : α) (u : Value) (ht : cs t = (cs (l.getD i d)).set j u) :
    (w.setCell ⟨g, i * k + j, none⟩ u).ownsRow base e k (.slice (some ⟨g, 0, none⟩) n cap) n (flat cs (l.set i t)) := by
  subst hn
  have := own_stored hk d h i j hi hj t u ht
  rwa [List.length_set] at this
theorem own_set3 {w : World} {base : Nat} {e : TypeId} {g cap : Nat} {l : List Pi} (h : w.ownsRow base e 3 (.slice (some ⟨g, 0, none⟩) l.length cap) l.length (flat csPi l)) (i : Nat) (hi : i < l.length) (t : Pi) :
    (((w.setCell ⟨g, i * 3, none⟩ (.int .i64 t.step)).setCell ⟨g, i * 3 + 1, none⟩ (.int .i64 t.alter)).setCell ⟨g, i * 3 + 2, none⟩ (.int .i64 t.octave)).ownsRow base e 3 (.slice (some ⟨g, 0, none⟩) l.length cap) (l.set i t).length (flat csPi (l.set i t)) := by
  have e0 : ∀ (x : Pi) (m : List Pi), i < m.length → (m.set i x).getD i dPi = x := fun x m hm => by rw [List.getD_eq_getElem?_getD, List.getElem?_set_self hm]; rfl
  have h1 := own_storedN csPi_len dPi h rfl i 0 hi (by decide) ⟨t.step, (l.getD i dPi).alter, (l.getD i dPi).octave⟩ (.int .i64 t.step) rfl
  have h2 := own_storedN csPi_len dPi h1 (by rw [List.length_set]) i 1 hi (by decide) ⟨t.step, t.alter, (l.getD i dPi).octave⟩ (.int .i64 t.alter) (by rw [e0 _ _ hi]; rfl)
  have h3 := own_storedN csPi_len dPi h2 (by simp only [List.length_set]) i 2 hi (by decide) t (.int .i64 t.octave) (by rw [e0 _ _ (by rw [List.length_set]; exact hi)]; rfl)
  simp only [List.set_set] at h3
  rw [List.length_set]
  exact h3
def OvR (w : World) (g B p : Nat) (A : Option Addr) (len cap : Nat) (e : Ending) (w' : World) : Prop :=
  ∃ (f : Int) (v v' : Value) (l l' : List Pi), e = .returned (.tuple #[.int .i64 f, v, v']) ∧ 1 ≤ l.length ∧ l.length ≤ 6 ∧ l'.length ≤ 11 ∧ w'.ownsRow w.heap.size 30 3 v l.length (flat csPi l) ∧ w'.ownsRow w.heap.size 30 3 v' l'.length (flat csPi l') ∧ Onb g w w' ∧ ∃ p', p' ≤ p + 100 ∧ Rd w' g B A len cap p'
set_option maxRecDepth 20000 in
set_option maxHeartbeats 8000000 in
theorem over_any (w : World) (g B p : Nat) (A : Option Addr) (len cap : Nat) (h : Rd w g B A len cap p) (hp : p < 900000) :
    Calls Try.prog 14 #[.pointer (some ⟨g, 0, none⟩)] w (OvR w g B p A len cap) := by
  go_enter Try.func14, Try.ntmps14
  have hg := h.gl
  obtain ⟨i0, hi0, hz0, hz1, hz2⟩ := info_parts infoPi
  go_wp2_with fail
  refine (cantus_any w g B p A len cap _ h (by omega)).mono ?_
  rintro e w1 ⟨f, vv, l, rfl, l1, l6, own, k1, p1, hp1, r1⟩
  have hs1 : w.heap.size ≤ w1.heap.size := k1.size
  obtain ⟨A2, c2, rfl, lc, cm, hrl, _⟩ := own_rowPi own
  obtain ⟨cb, coff, rfl, hcb, hcc⟩ := hrl (by omega)
  have hvo : w.heap.size ≤ cb := by have := own_ge own cb rfl; exact this
  have hcg : cb ≠ g := by omega
  have own0 : (w1.alloc (.cells #[] 30)).ownsRow w1.heap.size 30 3 (.slice (some ⟨w1.heap.size, 0, none⟩) 0 0) ([] : List Pi).length (flat csPi []) := World.ownsRow_lit w1 #[] 0 (Nat.le_refl _) (by simp [maxLen]) rfl
  have k0 : Onb g w1 (w1.alloc (.cells #[] 30)) := Onb.of_bel (bel_al (bel_refl w1) _)
  have r0 := r1.alloc (.cells #[] 30)
  have hBg := r1.Bg
  have hg1 : g < w1.heap.size := r1.gl
  unfold maxLen at cm
  go_wp2
  go_loopw [7, 8, 9, 10] (fun o i _ _ wr => ∃ (k : Nat) (acc : List Pi) (pk : Nat), k ≤ l.length ∧ acc.length = k ∧ i = .int .i64 k ∧ wr.ownsRow w1.heap.size 30 3 o acc.length (flat csPi acc) ∧ Onb g w1 wr ∧ (∀ j, j < l.length → wr.cell? ⟨cb, coff + j * 3, none⟩ = some (.int .i64 (atPi l j).step)) ∧ pk ≤ p + 20 + 6 * k ∧ Rd wr g B A len cap pk) (fun _ i _ _ _ => l.length - (intOf i).toNat)
  case atStart => exact ⟨0, [], p1, by omega, rfl, rfl, own0, k0, fun j hj => keep_al (hcc j hj).1 _, by omega, r0⟩
  case round =>
    obtain ⟨k, acc, pk, hk, hacc, rfl, hown, hkO, hcs, hpk, rk⟩ := hrel
    clear own0 k0 r0
    by_cases hlt : k < l.length
    · have hkl : (k : Int) < (l.length : Int) := by omega
      have hk0 : (0 : Int) ≤ (k : Int) := by omega
      have hgr : g < wr.heap.size := rk.gl
      have HACC := Lib.hid hacc
      have HCS := Lib.hid hcs
      have cs0 := hcs k hlt
      clear hacc hcs
      obtain ⟨s, hs⟩ : ∃ s, (atPi l k).step = s := ⟨_, rfl⟩
      rw [hs] at cs0
      clear hs
      go_upto_region 6 with fail
      go_cut [9] (fun u wx => ∃ z : Int, u = .int .i64 z ∧ Onb g wr wx ∧ ∃ q : Nat, q ≤ pk + 4 ∧ Rd wx g B A len cap q)
      case first =>
        refine region_slots (by kernel_rfl) (by kernel_rfl) [24, 25, 26, 27, 28, 29, 30, 31, 32, 33, 34, 35, 36, 37, 9] (fun D us W => ∃ u24 u25 u26 u27 u28 u29 u30 u31 u32 u33 u34 u35 u36 u37 u9 : Value, us = [u24, u25, u26, u27, u28, u29, u30, u31, u32, u33, u34, u35, u36, u37, u9] ∧ (Onb g wr W ∧ ∃ q : Nat, q ≤ pk + 2 * ((D 6).toNat + (D 9).toNat) ∧ Rd W g B A len cap q) ∧ (D 0 = true → u24 = .slice (some ⟨cb, coff, none⟩) l.length c2) ∧ (D 1 = true → u25 = .int .i64 k) ∧ (D 2 = true → u26 = .pointer (some ⟨cb, coff + k * 3, none⟩)) ∧ (D 3 = true → u27 = .pointer (some ⟨cb, coff + k * 3, none⟩)) ∧ (D 4 = true → u28 = .int .i64 s) ∧ (D 5 = true → u29 = .pointer (some ⟨g, 0, none⟩)) ∧ (D 6 = true → FIn 0 7 u30) ∧ (D 7 = true → FL5 wr.heap.size W u31) ∧ (D 8 = true → u32 = .pointer (some ⟨g, 0, none⟩)) ∧ (D 9 = true → FIn 0 5 u33) ∧ (D 10 = true → FP5 wr.heap.size W u34) ∧ (D 11 = true → FIn 0 7 u35) ∧ (D 12 = true → (∃ y : Int, u36 = .int .i64 y)) ∧ (D 13 = true → FIn (-6) 7 u37) ∧ (D 14 = true → FIn (-6) 7 u9)) ?_ ?_ ?_
        · intro us hu
          obtain ⟨u24, u25, u26, u27, u28, u29, u30, u31, u32, u33, u34, u35, u36, u37, u9, rfl⟩ : ∃ u24 u25 u26 u27 u28 u29 u30 u31 u32 u33 u34 u35 u36 u37 u9, us = [u24, u25, u26, u27, u28, u29, u30, u31, u32, u33, u34, u35, u36, u37, u9] := by
            match us, hu with
            | [u24, u25, u26, u27, u28, u29, u30, u31, u32, u33, u34, u35, u36, u37, u9], _ => exact ⟨_, _, _, _, _, _, _, _, _, _, _, _, _, _, _, rfl⟩
          exact ⟨_, _, _, _, _, _, _, _, _, _, _, _, _, _, _, rfl, ⟨(Onb.refl g wr).drew, pk, by omega, rk.drew⟩, fun h => absurd h (by simp), fun h => absurd h (by simp), fun h => absurd h (by simp), fun h => absurd h (by simp), fun h => absurd h (by simp), fun h => absurd h (by simp), fun h => absurd h (by simp), fun h => absurd h (by simp), fun h => absurd h (by simp), fun h => absurd h (by simp), fun h => absurd h (by simp), fun h => absurd h (by simp), fun h => absurd h (by simp), fun h => absurd h (by simp), fun h => absurd h (by simp)⟩
        · rintro i o hi ho D us W hu hd hdep ⟨u24, u25, u26, u27, u28, u29, u30, u31, u32, u33, u34, u35, u36, u37, u9, rfl, hJ, f0, f1, f2, f3, f4, f5, f6, f7, f8, f9, f10, f11, f12, f13, f14⟩
          have hi' : i < 15 := by simpa using hi
          clear hi hu
          rcases (show i = 0 ∨ i = 1 ∨ i = 2 ∨ i = 3 ∨ i = 4 ∨ i = 5 ∨ i = 6 ∨ i = 7 ∨ i = 8 ∨ i = 9 ∨ i = 10 ∨ i = 11 ∨ i = 12 ∨ i = 13 ∨ i = 14 from by omega) with rfl | rfl | rfl | rfl | rfl | rfl | rfl | rfl | rfl | rfl | rfl | rfl | rfl | rfl | rfl
          · simp only [List.getElem?_cons_zero, List.getElem?_cons_succ, Option.some.injEq] at ho
            subst ho
            clear hi'
            clear hdep
            have hI := hJ
            refine wpOp_step rfl (fun K hK => ?_)
            simp only [List.zip_cons_cons, List.zip_nil_right, puts]
            have Hf0 := Lib.hid f0
            have Hf1 := Lib.hid f1
            have Hf2 := Lib.hid f2
            have Hf3 := Lib.hid f3
            have Hf4 := Lib.hid f4
            have Hf5 := Lib.hid f5
            have Hf6 := Lib.hid f6
            have Hf7 := Lib.hid f7
            have Hf8 := Lib.hid f8
            have Hf9 := Lib.hid f9
            have Hf10 := Lib.hid f10
            have Hf11 := Lib.hid f11
            have Hf12 := Lib.hid f12
            have Hf13 := Lib.hid f13
            have Hf14 := Lib.hid f14
            have HhK := Lib.hid hK
            have Hhd := Lib.hid hd
            have HhJ := Lib.hid hJ
            clear hd hK hJ f0 f1 f2 f3 f4 f5 f6 f7 f8 f9 f10 f11 f12 f13 f14
            go_simp
            have f0 := Hf0.out
            have f1 := Hf1.out
            have f2 := Hf2.out
            have f3 := Hf3.out
            have f4 := Hf4.out
            have f5 := Hf5.out
            have f6 := Hf6.out
            have f7 := Hf7.out
            have f8 := Hf8.out
            have f9 := Hf9.out
            have f10 := Hf10.out
            have f11 := Hf11.out
            have f12 := Hf12.out
            have f13 := Hf13.out
            have f14 := Hf14.out
            have hK := HhK.out
            have hd := Hhd.out
            have hJ := HhJ.out
            exact hK _ _ ⟨[(.slice (some ⟨cb, coff, none⟩) l.length c2), u25, u26, u27, u28, u29, u30, u31, u32, u33, u34, u35, u36, u37, u9], rfl, by kernel_rfl, _, _, _, _, _, _, _, _, _, _, _, _, _, _, _, rfl, hI, (fun _ => rfl), f1, f2, f3, f4, f5, f6, f7, f8, f9, f10, f11, f12, f13, f14⟩
          · simp only [List.getElem?_cons_zero, List.getElem?_cons_succ, Option.some.injEq] at ho
            subst ho
            clear hi'
            clear hdep
            have hI := hJ
            refine wpOp_step rfl (fun K hK => ?_)
            simp only [List.zip_cons_cons, List.zip_nil_right, puts]
            have Hf0 := Lib.hid f0
            have Hf1 := Lib.hid f1
            have Hf2 := Lib.hid f2
            have Hf3 := Lib.hid f3
            have Hf4 := Lib.hid f4
            have Hf5 := Lib.hid f5
            have Hf6 := Lib.hid f6
            have Hf7 := Lib.hid f7
            have Hf8 := Lib.hid f8
            have Hf9 := Lib.hid f9
            have Hf10 := Lib.hid f10
            have Hf11 := Lib.hid f11
            have Hf12 := Lib.hid f12
            have Hf13 := Lib.hid f13
            have Hf14 := Lib.hid f14
            have HhK := Lib.hid hK
            have Hhd := Lib.hid hd
            have HhJ := Lib.hid hJ
            clear hd hK hJ f0 f1 f2 f3 f4 f5 f6 f7 f8 f9 f10 f11 f12 f13 f14
            go_simp
            have f0 := Hf0.out
            have f1 := Hf1.out
            have f2 := Hf2.out
            have f3 := Hf3.out
            have f4 := Hf4.out
            have f5 := Hf5.out
            have f6 := Hf6.out
            have f7 := Hf7.out
            have f8 := Hf8.out
            have f9 := Hf9.out
            have f10 := Hf10.out
            have f11 := Hf11.out
            have f12 := Hf12.out
            have f13 := Hf13.out
            have f14 := Hf14.out
            have hK := HhK.out
            have hd := Hhd.out
            have hJ := HhJ.out
            exact hK _ _ ⟨[u24, (.int .i64 k), u26, u27, u28, u29, u30, u31, u32, u33, u34, u35, u36, u37, u9], rfl, by kernel_rfl, _, _, _, _, _, _, _, _, _, _, _, _, _, _, _, rfl, hI, f0, (fun _ => rfl), f2, f3, f4, f5, f6, f7, f8, f9, f10, f11, f12, f13, f14⟩
          · simp only [List.getElem?_cons_zero, List.getElem?_cons_succ, Option.some.injEq] at ho
            subst ho
            clear hi'
            have d0 : D 0 = true := hdep ⟨0, Ground.data⟩ (by simp) rfl
            have d1 : D 1 = true := hdep ⟨1, Ground.data⟩ (by simp) rfl
            clear hdep
            have hI := hJ
            obtain rfl := f0 d0
            obtain rfl := f1 d1
            refine wpOp_step rfl (fun K hK => ?_)
            simp only [List.zip_cons_cons, List.zip_nil_right, puts]
            have Hf0 := Lib.hid f0
            have Hf1 := Lib.hid f1
            have Hf2 := Lib.hid f2
            have Hf3 := Lib.hid f3
            have Hf4 := Lib.hid f4
            have Hf5 := Lib.hid f5
            have Hf6 := Lib.hid f6
            have Hf7 := Lib.hid f7
            have Hf8 := Lib.hid f8
            have Hf9 := Lib.hid f9
            have Hf10 := Lib.hid f10
            have Hf11 := Lib.hid f11
            have Hf12 := Lib.hid f12
            have Hf13 := Lib.hid f13
            have Hf14 := Lib.hid f14
            have HhK := Lib.hid hK
            have Hhd := Lib.hid hd
            have HhJ := Lib.hid hJ
            clear hd hK hJ f0 f1 f2 f3 f4 f5 f6 f7 f8 f9 f10 f11 f12 f13 f14
            go_simp
            have f0 := Hf0.out
            have f1 := Hf1.out
            have f2 := Hf2.out
            have f3 := Hf3.out
            have f4 := Hf4.out
            have f5 := Hf5.out
            have f6 := Hf6.out
            have f7 := Hf7.out
            have f8 := Hf8.out
            have f9 := Hf9.out
            have f10 := Hf10.out
            have f11 := Hf11.out
            have f12 := Hf12.out
            have f13 := Hf13.out
            have f14 := Hf14.out
            have hK := HhK.out
            have hd := Hhd.out
            have hJ := HhJ.out
            exact hK _ _ ⟨[(.slice (some ⟨cb, coff, none⟩) l.length c2), (.int .i64 k), (.pointer (some ⟨cb, coff + k * 3, none⟩)), u27, u28, u29, u30, u31, u32, u33, u34, u35, u36, u37, u9], rfl, by kernel_rfl, _, _, _, _, _, _, _, _, _, _, _, _, _, _, _, rfl, hI, (fun _ => rfl), (fun _ => rfl), (fun _ => rfl), f3, f4, f5, f6, f7, f8, f9, f10, f11, f12, f13, f14⟩
          · simp only [List.getElem?_cons_zero, List.getElem?_cons_succ, Option.some.injEq] at ho
            subst ho
            clear hi'
            have d2 : D 2 = true := hdep ⟨2, Ground.data⟩ (by simp) rfl
            clear hdep
            have hI := hJ
            obtain rfl := f2 d2
            refine wpOp_step rfl (fun K hK => ?_)
            simp only [List.zip_cons_cons, List.zip_nil_right, puts]
            have Hf0 := Lib.hid f0
            have Hf1 := Lib.hid f1
            have Hf2 := Lib.hid f2
            have Hf3 := Lib.hid f3
            have Hf4 := Lib.hid f4
            have Hf5 := Lib.hid f5
            have Hf6 := Lib.hid f6
            have Hf7 := Lib.hid f7
            have Hf8 := Lib.hid f8
            have Hf9 := Lib.hid f9
            have Hf10 := Lib.hid f10
            have Hf11 := Lib.hid f11
            have Hf12 := Lib.hid f12
            have Hf13 := Lib.hid f13
            have Hf14 := Lib.hid f14
            have HhK := Lib.hid hK
            have Hhd := Lib.hid hd
            have HhJ := Lib.hid hJ
            clear hd hK hJ f0 f1 f2 f3 f4 f5 f6 f7 f8 f9 f10 f11 f12 f13 f14
            go_simp
            have f0 := Hf0.out
            have f1 := Hf1.out
            have f2 := Hf2.out
            have f3 := Hf3.out
            have f4 := Hf4.out
            have f5 := Hf5.out
            have f6 := Hf6.out
            have f7 := Hf7.out
            have f8 := Hf8.out
            have f9 := Hf9.out
            have f10 := Hf10.out
            have f11 := Hf11.out
            have f12 := Hf12.out
            have f13 := Hf13.out
            have f14 := Hf14.out
            have hK := HhK.out
            have hd := Hhd.out
            have hJ := HhJ.out
            exact hK _ _ ⟨[u24, u25, (.pointer (some ⟨cb, coff + k * 3, none⟩)), (.pointer (some ⟨cb, coff + k * 3, none⟩)), u28, u29, u30, u31, u32, u33, u34, u35, u36, u37, u9], rfl, by kernel_rfl, _, _, _, _, _, _, _, _, _, _, _, _, _, _, _, rfl, hI, f0, f1, (fun _ => rfl), (fun _ => rfl), f4, f5, f6, f7, f8, f9, f10, f11, f12, f13, f14⟩
          · simp only [List.getElem?_cons_zero, List.getElem?_cons_succ, Option.some.injEq] at ho
            subst ho
            clear hi'
            have d3 : D 3 = true := hdep ⟨3, Ground.data⟩ (by simp) rfl
            clear hdep
            have hI := hJ
            obtain rfl := f3 d3
            have cs := hI.1.at cs0 hcg
            refine wpOp_step rfl (fun K hK => ?_)
            simp only [List.zip_cons_cons, List.zip_nil_right, puts]
            have Hf0 := Lib.hid f0
            have Hf1 := Lib.hid f1
            have Hf2 := Lib.hid f2
            have Hf3 := Lib.hid f3
            have Hf4 := Lib.hid f4
            have Hf5 := Lib.hid f5
            have Hf6 := Lib.hid f6
            have Hf7 := Lib.hid f7
            have Hf8 := Lib.hid f8
            have Hf9 := Lib.hid f9
            have Hf10 := Lib.hid f10
            have Hf11 := Lib.hid f11
            have Hf12 := Lib.hid f12
            have Hf13 := Lib.hid f13
            have Hf14 := Lib.hid f14
            have HhK := Lib.hid hK
            have Hhd := Lib.hid hd
            have HhJ := Lib.hid hJ
            clear hd hK hJ f0 f1 f2 f3 f4 f5 f6 f7 f8 f9 f10 f11 f12 f13 f14
            go_simp
            have f0 := Hf0.out
            have f1 := Hf1.out
            have f2 := Hf2.out
            have f3 := Hf3.out
            have f4 := Hf4.out
            have f5 := Hf5.out
            have f6 := Hf6.out
            have f7 := Hf7.out
            have f8 := Hf8.out
            have f9 := Hf9.out
            have f10 := Hf10.out
            have f11 := Hf11.out
            have f12 := Hf12.out
            have f13 := Hf13.out
            have f14 := Hf14.out
            have hK := HhK.out
            have hd := Hhd.out
            have hJ := HhJ.out
            exact hK _ _ ⟨[u24, u25, u26, (.pointer (some ⟨cb, coff + k * 3, none⟩)), (.int .i64 s), u29, u30, u31, u32, u33, u34, u35, u36, u37, u9], rfl, by kernel_rfl, _, _, _, _, _, _, _, _, _, _, _, _, _, _, _, rfl, hI, f0, f1, f2, (fun _ => rfl), (fun _ => rfl), f5, f6, f7, f8, f9, f10, f11, f12, f13, f14⟩
          · simp only [List.getElem?_cons_zero, List.getElem?_cons_succ, Option.some.injEq] at ho
            subst ho
            clear hi'
            clear hdep
            have hI := hJ
            refine wpOp_step rfl (fun K hK => ?_)
            simp only [List.zip_cons_cons, List.zip_nil_right, puts]
            have Hf0 := Lib.hid f0
            have Hf1 := Lib.hid f1
            have Hf2 := Lib.hid f2
            have Hf3 := Lib.hid f3
            have Hf4 := Lib.hid f4
            have Hf5 := Lib.hid f5
            have Hf6 := Lib.hid f6
            have Hf7 := Lib.hid f7
            have Hf8 := Lib.hid f8
            have Hf9 := Lib.hid f9
            have Hf10 := Lib.hid f10
            have Hf11 := Lib.hid f11
            have Hf12 := Lib.hid f12
            have Hf13 := Lib.hid f13
            have Hf14 := Lib.hid f14
            have HhK := Lib.hid hK
            have Hhd := Lib.hid hd
            have HhJ := Lib.hid hJ
            clear hd hK hJ f0 f1 f2 f3 f4 f5 f6 f7 f8 f9 f10 f11 f12 f13 f14
            go_simp
            have f0 := Hf0.out
            have f1 := Hf1.out
            have f2 := Hf2.out
            have f3 := Hf3.out
            have f4 := Hf4.out
            have f5 := Hf5.out
            have f6 := Hf6.out
            have f7 := Hf7.out
            have f8 := Hf8.out
            have f9 := Hf9.out
            have f10 := Hf10.out
            have f11 := Hf11.out
            have f12 := Hf12.out
            have f13 := Hf13.out
            have f14 := Hf14.out
            have hK := HhK.out
            have hd := Hhd.out
            have hJ := HhJ.out
            exact hK _ _ ⟨[u24, u25, u26, u27, u28, (.pointer (some ⟨g, 0, none⟩)), u30, u31, u32, u33, u34, u35, u36, u37, u9], rfl, by kernel_rfl, _, _, _, _, _, _, _, _, _, _, _, _, _, _, _, rfl, hI, f0, f1, f2, f3, f4, (fun _ => rfl), f6, f7, f8, f9, f10, f11, f12, f13, f14⟩
          · simp only [List.getElem?_cons_zero, List.getElem?_cons_succ, Option.some.injEq] at ho
            subst ho
            clear hi'
            have d5 : D 5 = true := hdep ⟨5, Ground.data⟩ (by simp) rfl
            clear hdep
            have hI := hJ
            obtain rfl := f5 d5
            obtain ⟨kO, q, hp, rd⟩ := hI
            have a2 := Bool.toNat_le (D 6)
            have a8 := Bool.toNat_le (D 9)
            refine wpOp_step rfl (fun K hK => ?_)
            simp only [List.zip_cons_cons, List.zip_nil_right, puts]
            have Hf0 := Lib.hid f0
            have Hf1 := Lib.hid f1
            have Hf2 := Lib.hid f2
            have Hf3 := Lib.hid f3
            have Hf4 := Lib.hid f4
            have Hf5 := Lib.hid f5
            have Hf6 := Lib.hid f6
            have Hf7 := Lib.hid f7
            have Hf8 := Lib.hid f8
            have Hf9 := Lib.hid f9
            have Hf10 := Lib.hid f10
            have Hf11 := Lib.hid f11
            have Hf12 := Lib.hid f12
            have Hf13 := Lib.hid f13
            have Hf14 := Lib.hid f14
            have HhK := Lib.hid hK
            have Hhd := Lib.hid hd
            have HhJ := Lib.hid hJ
            clear hd hK hJ f0 f1 f2 f3 f4 f5 f6 f7 f8 f9 f10 f11 f12 f13 f14
            go_simp
            go_wp2_with (go_at_call 30; refine (pick_fr _ _ _ _ _ _ _ _ rd (by omega)).mono ?_; rintro e w9 ⟨x, rfl, ⟨x0, x1, _⟩, o9, r9⟩)
            have x1 := x1 (by omega)
            have f0 := Hf0.out
            have f1 := Hf1.out
            have f2 := Hf2.out
            have f3 := Hf3.out
            have f4 := Hf4.out
            have f5 := Hf5.out
            have f6 := Hf6.out
            have f7 := Hf7.out
            have f8 := Hf8.out
            have f9 := Hf9.out
            have f10 := Hf10.out
            have f11 := Hf11.out
            have f12 := Hf12.out
            have f13 := Hf13.out
            have f14 := Hf14.out
            have hK := HhK.out
            have hd := Hhd.out
            have hJ := HhJ.out
            exact hK _ _ ⟨[u24, u25, u26, u27, u28, (.pointer (some ⟨g, 0, none⟩)), (.int .i64 x), u31, u32, u33, u34, u35, u36, u37, u9], rfl, by kernel_rfl, _, _, _, _, _, _, _, _, _, _, _, _, _, _, _, rfl, ⟨kO.trans (Onb.of_onl o9), q + 1, (by have e := hp; rw [hd] at e; show q + 1 ≤ pk + 2 * (true.toNat + (D 9).toNat); simp only [Bool.toNat_true, Bool.toNat_false] at e ⊢; omega), r9⟩, f0, f1, f2, f3, f4, (fun _ => rfl), (fun _ => ⟨x, rfl, x0, by omega⟩), (fun h => ((f7 h)).onb (Onb.of_onl o9) hgr), f8, f9, (fun h => ((f10 h)).onb (Onb.of_onl o9) hgr), f11, f12, f13, f14⟩
          · simp only [List.getElem?_cons_zero, List.getElem?_cons_succ, Option.some.injEq] at ho
            subst ho
            clear hi'
            have d6 : D 6 = true := hdep ⟨6, Ground.data⟩ (by simp) rfl
            clear hdep
            have hI := hJ
            obtain ⟨x, rfl, x0, x1⟩ := f6 d6
            obtain ⟨kO, q, hp, rd⟩ := hI
            refine wpOp_step rfl (fun K hK => ?_)
            simp only [List.zip_cons_cons, List.zip_nil_right, puts]
            have Hf0 := Lib.hid f0
            have Hf1 := Lib.hid f1
            have Hf2 := Lib.hid f2
            have Hf3 := Lib.hid f3
            have Hf4 := Lib.hid f4
            have Hf5 := Lib.hid f5
            have Hf6 := Lib.hid f6
            have Hf7 := Lib.hid f7
            have Hf8 := Lib.hid f8
            have Hf9 := Lib.hid f9
            have Hf10 := Lib.hid f10
            have Hf11 := Lib.hid f11
            have Hf12 := Lib.hid f12
            have Hf13 := Lib.hid f13
            have Hf14 := Lib.hid f14
            have HhK := Lib.hid hK
            have Hhd := Lib.hid hd
            have HhJ := Lib.hid hJ
            clear hd hK hJ f0 f1 f2 f3 f4 f5 f6 f7 f8 f9 f10 f11 f12 f13 f14
            go_simp
            have f0 := Hf0.out
            have f1 := Hf1.out
            have f2 := Hf2.out
            have f3 := Hf3.out
            have f4 := Hf4.out
            have f5 := Hf5.out
            have f6 := Hf6.out
            have f7 := Hf7.out
            have f8 := Hf8.out
            have f9 := Hf9.out
            have f10 := Hf10.out
            have f11 := Hf11.out
            have f12 := Hf12.out
            have f13 := Hf13.out
            have f14 := Hf14.out
            have hK := HhK.out
            have hd := Hhd.out
            have hJ := HhJ.out
            exact hK _ _ ⟨[u24, u25, u26, u27, u28, u29, (.int .i64 x), (.slice (some ⟨W.heap.size, 0, none⟩) 5 5), u32, u33, u34, u35, u36, u37, u9], rfl, by kernel_rfl, _, _, _, _, _, _, _, _, _, _, _, _, _, _, _, rfl, ⟨kO.trans (Onb.of_bel (bel_al (bel_refl W) (.cells #[.int .i64 0, .int .i64 2, .int .i64 4, .int .i64 5, .int .i64 x] 3))), q, hp, rd.alloc _⟩, f0, f1, f2, f3, f4, f5, f6, (fun _ => ⟨_, x, rfl, ⟨x0, x1⟩, kO.size, Blk.new W _ _⟩), f8, f9, (fun h => ((f10 h)).onb (Onb.of_bel (bel_al (bel_refl W) (.cells #[.int .i64 0, .int .i64 2, .int .i64 4, .int .i64 5, .int .i64 x] 3))) hgr), f11, f12, f13, f14⟩
          · simp only [List.getElem?_cons_zero, List.getElem?_cons_succ, Option.some.injEq] at ho
            subst ho
            clear hi'
            clear hdep
            have hI := hJ
            refine wpOp_step rfl (fun K hK => ?_)
            simp only [List.zip_cons_cons, List.zip_nil_right, puts]
            have Hf0 := Lib.hid f0
            have Hf1 := Lib.hid f1
            have Hf2 := Lib.hid f2
            have Hf3 := Lib.hid f3
            have Hf4 := Lib.hid f4
            have Hf5 := Lib.hid f5
            have Hf6 := Lib.hid f6
            have Hf7 := Lib.hid f7
            have Hf8 := Lib.hid f8
            have Hf9 := Lib.hid f9
            have Hf10 := Lib.hid f10
            have Hf11 := Lib.hid f11
            have Hf12 := Lib.hid f12
            have Hf13 := Lib.hid f13
            have Hf14 := Lib.hid f14
            have HhK := Lib.hid hK
            have Hhd := Lib.hid hd
            have HhJ := Lib.hid hJ
            clear hd hK hJ f0 f1 f2 f3 f4 f5 f6 f7 f8 f9 f10 f11 f12 f13 f14
            go_simp
            have f0 := Hf0.out
            have f1 := Hf1.out
            have f2 := Hf2.out
            have f3 := Hf3.out
            have f4 := Hf4.out
            have f5 := Hf5.out
            have f6 := Hf6.out
            have f7 := Hf7.out
            have f8 := Hf8.out
            have f9 := Hf9.out
            have f10 := Hf10.out
            have f11 := Hf11.out
            have f12 := Hf12.out
            have f13 := Hf13.out
            have f14 := Hf14.out
            have hK := HhK.out
            have hd := Hhd.out
            have hJ := HhJ.out
            exact hK _ _ ⟨[u24, u25, u26, u27, u28, u29, u30, u31, (.pointer (some ⟨g, 0, none⟩)), u33, u34, u35, u36, u37, u9], rfl, by kernel_rfl, _, _, _, _, _, _, _, _, _, _, _, _, _, _, _, rfl, hI, f0, f1, f2, f3, f4, f5, f6, f7, (fun _ => rfl), f9, f10, f11, f12, f13, f14⟩
          · simp only [List.getElem?_cons_zero, List.getElem?_cons_succ, Option.some.injEq] at ho
            subst ho
            clear hi'
            have d8 : D 8 = true := hdep ⟨8, Ground.data⟩ (by simp) rfl
            clear hdep
            have hI := hJ
            obtain rfl := f8 d8
            obtain ⟨kO, q, hp, rd⟩ := hI
            have a2 := Bool.toNat_le (D 6)
            have a8 := Bool.toNat_le (D 9)
            refine wpOp_step rfl (fun K hK => ?_)
            simp only [List.zip_cons_cons, List.zip_nil_right, puts]
            have Hf0 := Lib.hid f0
            have Hf1 := Lib.hid f1
            have Hf2 := Lib.hid f2
            have Hf3 := Lib.hid f3
            have Hf4 := Lib.hid f4
            have Hf5 := Lib.hid f5
            have Hf6 := Lib.hid f6
            have Hf7 := Lib.hid f7
            have Hf8 := Lib.hid f8
            have Hf9 := Lib.hid f9
            have Hf10 := Lib.hid f10
            have Hf11 := Lib.hid f11
            have Hf12 := Lib.hid f12
            have Hf13 := Lib.hid f13
            have Hf14 := Lib.hid f14
            have HhK := Lib.hid hK
            have Hhd := Lib.hid hd
            have HhJ := Lib.hid hJ
            clear hd hK hJ f0 f1 f2 f3 f4 f5 f6 f7 f8 f9 f10 f11 f12 f13 f14
            go_simp
            go_wp2_with (go_at_call 30; refine (pick_fr _ _ _ _ _ _ _ _ rd (by omega)).mono ?_; rintro e w9 ⟨x, rfl, ⟨x0, x1, _⟩, o9, r9⟩)
            have x1 := x1 (by omega)
            have f0 := Hf0.out
            have f1 := Hf1.out
            have f2 := Hf2.out
            have f3 := Hf3.out
            have f4 := Hf4.out
            have f5 := Hf5.out
            have f6 := Hf6.out
            have f7 := Hf7.out
            have f8 := Hf8.out
            have f9 := Hf9.out
            have f10 := Hf10.out
            have f11 := Hf11.out
            have f12 := Hf12.out
            have f13 := Hf13.out
            have f14 := Hf14.out
            have hK := HhK.out
            have hd := Hhd.out
            have hJ := HhJ.out
            exact hK _ _ ⟨[u24, u25, u26, u27, u28, u29, u30, u31, (.pointer (some ⟨g, 0, none⟩)), (.int .i64 x), u34, u35, u36, u37, u9], rfl, by kernel_rfl, _, _, _, _, _, _, _, _, _, _, _, _, _, _, _, rfl, ⟨kO.trans (Onb.of_onl o9), q + 1, (by have e := hp; rw [hd] at e; show q + 1 ≤ pk + 2 * ((D 6).toNat + true.toNat); simp only [Bool.toNat_true, Bool.toNat_false] at e ⊢; omega), r9⟩, f0, f1, f2, f3, f4, f5, f6, (fun h => ((f7 h)).onb (Onb.of_onl o9) hgr), (fun _ => rfl), (fun _ => ⟨x, rfl, x0, by omega⟩), (fun h => ((f10 h)).onb (Onb.of_onl o9) hgr), f11, f12, f13, f14⟩
          · simp only [List.getElem?_cons_zero, List.getElem?_cons_succ, Option.some.injEq] at ho
            subst ho
            clear hi'
            have d7 : D 7 = true := hdep ⟨7, Ground.data⟩ (by simp) rfl
            have d9 : D 9 = true := hdep ⟨9, Ground.data⟩ (by simp) rfl
            clear hdep
            have hI := hJ
            obtain ⟨b, y, rfl, hy, hl, hb⟩ := f7 d7
            obtain ⟨x, rfl, x0, x1⟩ := f9 d9
            refine wpOp_step rfl (fun K hK => ?_)
            simp only [List.zip_cons_cons, List.zip_nil_right, puts]
            have Hf0 := Lib.hid f0
            have Hf1 := Lib.hid f1
            have Hf2 := Lib.hid f2
            have Hf3 := Lib.hid f3
            have Hf4 := Lib.hid f4
            have Hf5 := Lib.hid f5
            have Hf6 := Lib.hid f6
            have Hf7 := Lib.hid f7
            have Hf8 := Lib.hid f8
            have Hf9 := Lib.hid f9
            have Hf10 := Lib.hid f10
            have Hf11 := Lib.hid f11
            have Hf12 := Lib.hid f12
            have Hf13 := Lib.hid f13
            have Hf14 := Lib.hid f14
            have HhK := Lib.hid hK
            have Hhd := Lib.hid hd
            have HhJ := Lib.hid hJ
            clear hd hK hJ f0 f1 f2 f3 f4 f5 f6 f7 f8 f9 f10 f11 f12 f13 f14
            go_simp
            have f0 := Hf0.out
            have f1 := Hf1.out
            have f2 := Hf2.out
            have f3 := Hf3.out
            have f4 := Hf4.out
            have f5 := Hf5.out
            have f6 := Hf6.out
            have f7 := Hf7.out
            have f8 := Hf8.out
            have f9 := Hf9.out
            have f10 := Hf10.out
            have f11 := Hf11.out
            have f12 := Hf12.out
            have f13 := Hf13.out
            have f14 := Hf14.out
            have hK := HhK.out
            have hd := Hhd.out
            have hJ := HhJ.out
            exact hK _ _ ⟨[u24, u25, u26, u27, u28, u29, u30, (.slice (some ⟨b, 0, none⟩) 5 5), u32, (.int .i64 x), (.pointer (some ⟨b, x.toNat, none⟩)), u35, u36, u37, u9], rfl, by kernel_rfl, _, _, _, _, _, _, _, _, _, _, _, _, _, _, _, rfl, hI, f0, f1, f2, f3, f4, f5, f6, f7, f8, f9, (fun _ => ⟨_, x.toNat, y, rfl, by omega, hy, hl, hb⟩), f11, f12, f13, f14⟩
          · simp only [List.getElem?_cons_zero, List.getElem?_cons_succ, Option.some.injEq] at ho
            subst ho
            clear hi'
            have d10 : D 10 = true := hdep ⟨10, Ground.data⟩ (by simp) rfl
            clear hdep
            have hI := hJ
            obtain ⟨b, t, y, rfl, t1, hy, hl, hb⟩ := f10 d10
            obtain ⟨x, hx, x0, x1⟩ := blk5_at hb t1 hy
            refine wpOp_step rfl (fun K hK => ?_)
            simp only [List.zip_cons_cons, List.zip_nil_right, puts]
            have Hf0 := Lib.hid f0
            have Hf1 := Lib.hid f1
            have Hf2 := Lib.hid f2
            have Hf3 := Lib.hid f3
            have Hf4 := Lib.hid f4
            have Hf5 := Lib.hid f5
            have Hf6 := Lib.hid f6
            have Hf7 := Lib.hid f7
            have Hf8 := Lib.hid f8
            have Hf9 := Lib.hid f9
            have Hf10 := Lib.hid f10
            have Hf11 := Lib.hid f11
            have Hf12 := Lib.hid f12
            have Hf13 := Lib.hid f13
            have Hf14 := Lib.hid f14
            have HhK := Lib.hid hK
            have Hhd := Lib.hid hd
            have HhJ := Lib.hid hJ
            clear hd hK hJ f0 f1 f2 f3 f4 f5 f6 f7 f8 f9 f10 f11 f12 f13 f14
            go_simp
            have f0 := Hf0.out
            have f1 := Hf1.out
            have f2 := Hf2.out
            have f3 := Hf3.out
            have f4 := Hf4.out
            have f5 := Hf5.out
            have f6 := Hf6.out
            have f7 := Hf7.out
            have f8 := Hf8.out
            have f9 := Hf9.out
            have f10 := Hf10.out
            have f11 := Hf11.out
            have f12 := Hf12.out
            have f13 := Hf13.out
            have f14 := Hf14.out
            have hK := HhK.out
            have hd := Hhd.out
            have hJ := HhJ.out
            exact hK _ _ ⟨[u24, u25, u26, u27, u28, u29, u30, u31, u32, u33, (.pointer (some ⟨b, t, none⟩)), (.int .i64 x), u36, u37, u9], rfl, by kernel_rfl, _, _, _, _, _, _, _, _, _, _, _, _, _, _, _, rfl, hI, f0, f1, f2, f3, f4, f5, f6, f7, f8, f9, f10, (fun _ => ⟨_, rfl, x0, x1⟩), f12, f13, f14⟩
          · simp only [List.getElem?_cons_zero, List.getElem?_cons_succ, Option.some.injEq] at ho
            subst ho
            clear hi'
            have d4 : D 4 = true := hdep ⟨4, Ground.data⟩ (by simp) rfl
            have d11 : D 11 = true := hdep ⟨11, Ground.data⟩ (by simp) rfl
            clear hdep
            have hI := hJ
            obtain rfl := f4 d4
            obtain ⟨x, rfl, x0, x1⟩ := f11 d11
            obtain ⟨y, hy⟩ : ∃ y, IntKind.i64.wrap (s + x) = y := ⟨_, rfl⟩
            refine wpOp_step rfl (fun K hK => ?_)
            simp only [List.zip_cons_cons, List.zip_nil_right, puts]
            have Hf0 := Lib.hid f0
            have Hf1 := Lib.hid f1
            have Hf2 := Lib.hid f2
            have Hf3 := Lib.hid f3
            have Hf4 := Lib.hid f4
            have Hf5 := Lib.hid f5
            have Hf6 := Lib.hid f6
            have Hf7 := Lib.hid f7
            have Hf8 := Lib.hid f8
            have Hf9 := Lib.hid f9
            have Hf10 := Lib.hid f10
            have Hf11 := Lib.hid f11
            have Hf12 := Lib.hid f12
            have Hf13 := Lib.hid f13
            have Hf14 := Lib.hid f14
            have HhK := Lib.hid hK
            have Hhd := Lib.hid hd
            have HhJ := Lib.hid hJ
            clear hd hK hJ f0 f1 f2 f3 f4 f5 f6 f7 f8 f9 f10 f11 f12 f13 f14
            go_simp
            have f0 := Hf0.out
            have f1 := Hf1.out
            have f2 := Hf2.out
            have f3 := Hf3.out
            have f4 := Hf4.out
            have f5 := Hf5.out
            have f6 := Hf6.out
            have f7 := Hf7.out
            have f8 := Hf8.out
            have f9 := Hf9.out
            have f10 := Hf10.out
            have f11 := Hf11.out
            have f12 := Hf12.out
            have f13 := Hf13.out
            have f14 := Hf14.out
            have hK := HhK.out
            have hd := Hhd.out
            have hJ := HhJ.out
            exact hK _ _ ⟨[u24, u25, u26, u27, (.int .i64 s), u29, u30, u31, u32, u33, u34, (.int .i64 x), (.int .i64 y), u37, u9], rfl, by kernel_rfl, _, _, _, _, _, _, _, _, _, _, _, _, _, _, _, rfl, hI, f0, f1, f2, f3, (fun _ => rfl), f5, f6, f7, f8, f9, f10, f11, (fun _ => ⟨_, rfl⟩), f13, f14⟩
          · simp only [List.getElem?_cons_zero, List.getElem?_cons_succ, Option.some.injEq] at ho
            subst ho
            clear hi'
            have d12 : D 12 = true := hdep ⟨12, Ground.data⟩ (by simp) rfl
            clear hdep
            have hI := hJ
            obtain ⟨y, rfl⟩ := f12 d12
            obtain ⟨z, hz⟩ : ∃ z, y.tmod 7 = z := ⟨_, rfl⟩
            have htm := tmod7 y
            rw [hz] at htm
            obtain ⟨z0, z1⟩ := htm
            have iz := IntWalk.i64_in z (by omega)
            refine wpOp_step rfl (fun K hK => ?_)
            simp only [List.zip_cons_cons, List.zip_nil_right, puts]
            have Hf0 := Lib.hid f0
            have Hf1 := Lib.hid f1
            have Hf2 := Lib.hid f2
            have Hf3 := Lib.hid f3
            have Hf4 := Lib.hid f4
            have Hf5 := Lib.hid f5
            have Hf6 := Lib.hid f6
            have Hf7 := Lib.hid f7
            have Hf8 := Lib.hid f8
            have Hf9 := Lib.hid f9
            have Hf10 := Lib.hid f10
            have Hf11 := Lib.hid f11
            have Hf12 := Lib.hid f12
            have Hf13 := Lib.hid f13
            have Hf14 := Lib.hid f14
            have HhK := Lib.hid hK
            have Hhd := Lib.hid hd
            have HhJ := Lib.hid hJ
            clear hd hK hJ f0 f1 f2 f3 f4 f5 f6 f7 f8 f9 f10 f11 f12 f13 f14
            go_simp
            have f0 := Hf0.out
            have f1 := Hf1.out
            have f2 := Hf2.out
            have f3 := Hf3.out
            have f4 := Hf4.out
            have f5 := Hf5.out
            have f6 := Hf6.out
            have f7 := Hf7.out
            have f8 := Hf8.out
            have f9 := Hf9.out
            have f10 := Hf10.out
            have f11 := Hf11.out
            have f12 := Hf12.out
            have f13 := Hf13.out
            have f14 := Hf14.out
            have hK := HhK.out
            have hd := Hhd.out
            have hJ := HhJ.out
            exact hK _ _ ⟨[u24, u25, u26, u27, u28, u29, u30, u31, u32, u33, u34, u35, (.int .i64 y), (.int .i64 z), u9], rfl, by kernel_rfl, _, _, _, _, _, _, _, _, _, _, _, _, _, _, _, rfl, hI, f0, f1, f2, f3, f4, f5, f6, f7, f8, f9, f10, f11, f12, (fun _ => ⟨_, rfl, by omega, by omega⟩), f14⟩
          · simp only [List.getElem?_cons_zero, List.getElem?_cons_succ, Option.some.injEq] at ho
            subst ho
            clear hi'
            have d13 : D 13 = true := hdep ⟨13, Ground.data⟩ (by simp) rfl
            clear hdep
            have hI := hJ
            obtain ⟨z, rfl, z0, z1⟩ := f13 d13
            refine wpOp_step rfl (fun K hK => ?_)
            simp only [List.zip_cons_cons, List.zip_nil_right, puts]
            have Hf0 := Lib.hid f0
            have Hf1 := Lib.hid f1
            have Hf2 := Lib.hid f2
            have Hf3 := Lib.hid f3
            have Hf4 := Lib.hid f4
            have Hf5 := Lib.hid f5
            have Hf6 := Lib.hid f6
            have Hf7 := Lib.hid f7
            have Hf8 := Lib.hid f8
            have Hf9 := Lib.hid f9
            have Hf10 := Lib.hid f10
            have Hf11 := Lib.hid f11
            have Hf12 := Lib.hid f12
            have Hf13 := Lib.hid f13
            have Hf14 := Lib.hid f14
            have HhK := Lib.hid hK
            have Hhd := Lib.hid hd
            have HhJ := Lib.hid hJ
            clear hd hK hJ f0 f1 f2 f3 f4 f5 f6 f7 f8 f9 f10 f11 f12 f13 f14
            go_simp
            have f0 := Hf0.out
            have f1 := Hf1.out
            have f2 := Hf2.out
            have f3 := Hf3.out
            have f4 := Hf4.out
            have f5 := Hf5.out
            have f6 := Hf6.out
            have f7 := Hf7.out
            have f8 := Hf8.out
            have f9 := Hf9.out
            have f10 := Hf10.out
            have f11 := Hf11.out
            have f12 := Hf12.out
            have f13 := Hf13.out
            have f14 := Hf14.out
            have hK := HhK.out
            have hd := Hhd.out
            have hJ := HhJ.out
            exact hK _ _ ⟨[u24, u25, u26, u27, u28, u29, u30, u31, u32, u33, u34, u35, u36, (.int .i64 z), (.int .i64 z)], rfl, by kernel_rfl, _, _, _, _, _, _, _, _, _, _, _, _, _, _, _, rfl, hI, f0, f1, f2, f3, f4, f5, f6, f7, f8, f9, f10, f11, f12, f13, (fun _ => ⟨_, rfl, z0, z1⟩)⟩
        · rintro D us W hu hall ⟨u24, u25, u26, u27, u28, u29, u30, u31, u32, u33, u34, u35, u36, u37, u9, rfl, hJ, f0, f1, f2, f3, f4, f5, f6, f7, f8, f9, f10, f11, f12, f13, f14⟩
          have d0 : D 0 = true := hall 0 (by simp)
          have d1 : D 1 = true := hall 1 (by simp)
          have d2 : D 2 = true := hall 2 (by simp)
          have d3 : D 3 = true := hall 3 (by simp)
          have d4 : D 4 = true := hall 4 (by simp)
          have d5 : D 5 = true := hall 5 (by simp)
          have d6 : D 6 = true := hall 6 (by simp)
          have d7 : D 7 = true := hall 7 (by simp)
          have d8 : D 8 = true := hall 8 (by simp)
          have d9 : D 9 = true := hall 9 (by simp)
          have d10 : D 10 = true := hall 10 (by simp)
          have d11 : D 11 = true := hall 11 (by simp)
          have d12 : D 12 = true := hall 12 (by simp)
          have d13 : D 13 = true := hall 13 (by simp)
          have d14 : D 14 = true := hall 14 (by simp)
          have hI := hJ
          clear hJ
          obtain ⟨z, v14, z0, z1⟩ := f14 d14
          obtain ⟨kW, q6, hq6, r6⟩ := hI
          have a2 := Bool.toNat_le (D 6)
          have a8 := Bool.toNat_le (D 9)
          clear f0 f1 f2 f3 f4 f5 f6 f7 f8 f9 f10 f11 f12 f13 f14 d0 d1 d2 d3 d4 d5 d6 d7 d8 d9 d10 d11 d12 d13 d14 hall hu
          subst v14
          simp only [List.zip_cons_cons, List.zip_nil_right, puts]
          go_simp
          apply_assumption
          go_meet
          exact ⟨z, rfl, kW, q6, by omega, r6⟩
      case rest =>
        obtain ⟨z, rfl, kW, q6, hq6, r6⟩ := hcut
        have hownX := own_onb hown kW hg1
        have hkX := hkO.trans kW
        have HCX := Lib.hid (fun j (hj : j < l.length) => kW.at (HCS.out j hj) hcg)
        clear hown hkO HCS cs0 kW rk hgr
        go_wp2_with fail
        refine (ska_any _ _ _).mono ?_
        rintro e w7 ⟨rfl, b7⟩
        generalize kaI f z = ka
        have r7 := r6.below b7
        replace hownX := own_below hownX b7
        replace hkX := hkX.trans (Onb.of_bel b7)
        replace HCX := Lib.hid (fun j (hj : j < l.length) => keep_tr (HCX.out j hj) b7)
        clear r6 b7
        go_wp2_with fail
        refine (pick_fr _ _ _ _ _ _ _ _ r7 (by omega)).mono ?_
        rintro e w8 ⟨x, rfl, ⟨x0, x1, _⟩, o8, r8⟩
        have x1 := x1 (by omega)
        have ix := IntWalk.i64_in (4 + x) (by omega)
        replace hownX := own_onl hownX o8 hg1
        replace hkX := hkX.trans (Onb.of_onl o8)
        replace HCX := Lib.hid (fun j (hj : j < l.length) => o8.at (HCX.out j hj) hcg)
        clear r7 o8
        obtain ⟨o4, ho4⟩ : ∃ o4, 4 + x = o4 := ⟨_, rfl⟩
        rw [ho4] at ix
        go_upto_region 8 with fail
        clear ho4 ix x0 x1
        have bX : Blk (w8.alloc (.cells #[.int .i64 z, .int .i64 ka, .int .i64 o4] 30)) w8.heap.size #[.int .i64 z, .int .i64 ka, .int .i64 o4] 30 := Blk.new w8 _ _
        have hbl := bel_al (bel_refl w8) (.cells #[.int .i64 z, .int .i64 ka, .int .i64 o4] 30)
        replace hownX := own_below hownX hbl
        replace hkX := hkX.trans (Onb.of_bel hbl)
        replace HCX := Lib.hid (fun j (hj : j < l.length) => keep_tr (HCX.out j hj) hbl)
        have r9 := r8.below hbl
        clear r8 hbl
        generalize (w8.alloc (.cells #[.int .i64 z, .int .i64 ka, .int .i64 o4] 30)) = v8 at *
        generalize w8.heap.size = X at *
        have m0 : v8.cell? ⟨X, 0, none⟩ = some (.int .i64 z) := by rw [Blk.cell bX]; rfl
        have m1 : v8.cell? ⟨X, 1, none⟩ = some (.int .i64 ka) := by rw [Blk.cell bX]; rfl
        have m2 : v8.cell? ⟨X, 2, none⟩ = some (.int .i64 o4) := by rw [Blk.cell bX]; rfl
        have hs8 := hkX.size
        have hal : acc.length ≤ 6 := by have := HACC.out; omega
        go_wp2_with (at_builtin; go_must (refine wpList_append_lies _ rfl _ _ 23 rfl w1.heap.size 30 i0 _ 3 24 Try.underlying23 hi0 hz0 hz1 hz2 rfl (by omega) _ acc.length (flat csPi acc) rfl (hownX.alloc _) ⟨v8.heap.size, 0, none⟩ 1 1 [.int .i64 z, .int .i64 ka, .int .i64 o4] rfl rfl (World.news_of_block (cs := #[.int .i64 z, .int .i64 ka, .int .i64 o4]) (t := 30) (fr := (0, 0)) (heap_alloc_new v8 _)) (by simp [Value.oneCell']) (by omega) (by unfold maxLen; omega) (by omega) (by simp; omega) _ rfl ?_; intro gg9 cp9 w9 hown9 hgrow9 hat9 hlt9))
        have hkA := (hkX.alloc (.cells #[.int .i64 z, .int .i64 ka, .int .i64 o4] 30)).grown hgrow9 (fun k hk => own_ge hownX k hk)
        have hrA := (r9.alloc (.cells #[.int .i64 z, .int .i64 ka, .int .i64 o4] 30)).grown hgrow9 (fun k hk => by have := own_ge hownX k hk; omega)
        have hcA := fun j (hj : j < l.length) => grown_cell hgrow9 (keep_al (HCX.out j hj) (.cells #[.int .i64 z, .int .i64 ka, .int .i64 o4] 30)) (fun e => by have := own_ge hownX cb e; omega)
        have hqq := own_push (t := (⟨z, ka, o4⟩ : Pi)) hown9 rfl
        have HAL := Lib.hid (show (acc ++ [(⟨z, ka, o4⟩ : Pi)]).length = k + 1 from by rw [List.length_append, List.length_singleton, HACC.out])
        go_wp2
        go_roundw
        case rel => exact ⟨k + 1, acc ++ [⟨z, ka, o4⟩], _, by omega, HAL.out, by go_num, hqq, hkA, hcA, by omega, hrA⟩
        case measure => simp [intOf]; omega
    · have hkl : k = l.length := by omega
      have hnl : ¬ (k : Int) < (l.length : Int) := by omega
      have hal : acc.length ≤ 10 := by omega
      have ownL := own_onb own hkO hg
      have kL := k1.trans hkO
      obtain ⟨A3, c3, e3, _, _, hrw, _⟩ := own_rowPi ownL
      cases e3
      have hsz3 := hkO.size
      clear hcs hacc hcc hrl hkO hnl
      subst hkl
      obtain ⟨v, hv⟩ : ∃ v, clI f l 48 72 = v := ⟨_, rfl⟩
      have HV := Lib.hid hv
      have HLR : Hid (∀ num : Int, 0 ≤ num → num < v → (lnR f l 48 72 num).isSome = true) := fun num h0 h1 => by rw [lnR_iff h0, hv]; exact decide_eq_true h1
      clear hv
      go_wp2_with fail
      refine (scl_val HV.out _ l.length c2 _ rfl (by omega) hrw).mono ?_
      rintro e w9 ⟨rfl, b9⟩
      replace hrw := hrw.below b9
      replace ownL := own_below ownL b9
      replace hown := own_below hown b9
      replace kL := kL.trans (Onb.of_bel b9)
      have r9 := rk.below b9
      have hs9 := b9.size
      clear rk b9
      go_upto_region 10 with fail
      go_cut [59] (fun u wx => ∃ bb : Bool, u = .bool bb ∧ (bb = true → 0 < v) ∧ Onl g w9 wx ∧ ∃ q : Nat, q ≤ pk + 1 ∧ Rd wx g B A len cap q)
      case first =>
        by_cases hv0 : 0 < v
        · go_wp2_with fail
          refine (pick_fr _ _ _ _ _ _ _ _ r9 (by omega)).mono ?_
          rintro e wa ⟨x, rfl, ⟨x0, x1, _⟩, oa, ra⟩
          go_wp2
          go_meet
          exact ⟨_, rfl, fun _ => hv0, oa, pk + 1, by omega, ra⟩
        · go_wp2
          go_meet
          exact ⟨false, rfl, fun h => (by cases h), Onl.refl g w9, pk, by omega, r9⟩
      case rest =>
        obtain ⟨bb, rfl, hb0, oc, q9, hq9, rc⟩ := hcut
        obtain ⟨wy, rfl⟩ : ∃ z : World, z = wc := ⟨_, rfl⟩
        have hs9c : w9.heap.size ≤ wy.heap.size := by rw [oc.size]; exact Nat.le_refl _
        replace ownL := own_onl ownL oc hg
        replace hown := own_onl hown oc hg1
        replace kL := kL.trans (Onb.of_onl oc)
        clear oc hrw r9
        have hw1c : w1.heap.size ≤ wy.heap.size := by omega
        go_upto_if 59 with fail
        go_cut [7] (fun u wx => ∃ M : List Pi, M.length ≤ 10 ∧ wx.ownsRow w1.heap.size 30 3 u M.length (flat csPi M) ∧ Onb g wy wx ∧ ∃ q, q ≤ q9 + 20 ∧ Rd wx g B A len cap q)
        case first =>
          cases bb
          · clear hb0
            go_wp2
            go_meet
            exact ⟨acc, hal, hown, Onb.refl g wy, q9, by omega, rc⟩
          · have hv0 := hb0 rfl
            clear hb0
            by_cases hm1 : v < 256
            · go_wp2_with fail
              refine (pick_fr _ _ _ _ _ _ _ _ rc (by omega)).mono ?_
              rintro e wd ⟨x, rfl, ⟨x0, x1, _⟩, od, rd⟩
              have x1 := x1 (by omega)
              have hxv : x < v := by omega
              have hrd := own_rowT9 (own_onl ownL od hg)
              have hsd : wy.heap.size ≤ wd.heap.size := by rw [od.size]; exact Nat.le_refl _
              go_wp2_with fail
              refine (sln_any f l _ l.length c2 48 72 x _ (by omega) rfl (by omega) hrd).mono ?_
              rintro e we ⟨v7, rfl, oM, be⟩
              have hse := be.size
              obtain ⟨M, hM⟩ : ∃ M, (lnR f l 48 72 x).getD [] = M := ⟨_, rfl⟩
              have hM1 : M.length = l.length := by
                obtain ⟨_, L, e1, _, e2, _⟩ := lnR_small (f := f) (c := l) (lo := 48) (hi := 72) (num := x) x0 (by rw [HV.out]; exact hxv)
                rw [← hM, e1]; exact e2
              obtain ⟨bS, hbS⟩ : ∃ b, (lnR f l 48 72 x).isSome = b := ⟨_, rfl⟩
              rw [hM] at oM
              rw [hbS]
              clear hM hbS
              have hM2 : M.length ≤ 10 := by omega
              have hM0 : 1 ≤ M.length := by omega
              clear hM1
              have re := rd.below be
              have ke := (Onb.of_onl od).trans (Onb.of_bel be)
              clear od be rd hrd
              obtain ⟨A7, c7, rfl, lc7, cm7, hop⟩ := own_open csPi_len dPi oM
              obtain ⟨g7, rfl, hg7b, hg7l, hg7f, hg7c⟩ := hop (by omega)
              clear hop
              unfold maxLen at cm7
              have hg7g : g < g7 := by omega
              go_wp2_with fail
              refine (odd_any _ _ _ _ _ _ _ _ re (by omega)).mono ?_
              rintro e wf ⟨bq, rfl, _, of, pf, hpf, rf⟩
              replace oM := own_onl oM of (by omega : g < wd.heap.size)
              replace ke := ke.trans (Onb.of_onl of)
              clear of re
              cases bq
              · go_wp2
                go_meet
                exact ⟨M, by omega, own_lo oM (by omega), ke, pf, by omega, rf⟩
              · go_wp2_with fail
                refine (pick_fr _ _ _ _ _ _ _ _ rf (by omega)).mono ?_
                rintro e wg ⟨y, rfl, ⟨y0, y1, _⟩, og, rg⟩
                have y1 := y1 (by omega)
                replace oM := own_onl oM og (by omega : g < wd.heap.size)
                replace ke := ke.trans (Onb.of_onl og)
                clear og rf
                go_wp2_with fail
                refine (pitch_any _ _ _ _ _ _ _ _ rg (by omega)).mono ?_
                rintro e wh ⟨s7, a7, o7, rfl, oh, ph, hph, rh⟩
                replace oM := own_onb oM oh (by omega : g < wd.heap.size)
                replace ke := ke.trans oh
                clear oh rg
                obtain ⟨j, rfl⟩ := Int.eq_ofNat_of_zero_le y0
                have hj : j < M.length := by omega
                obtain ⟨A8, c8, e8, _, _, hop⟩ := own_open csPi_len dPi oM
                cases e8
                obtain ⟨g8, e8, _, hg8l, hg8f, hg8c⟩ := hop (by omega)
                cases e8
                have d0 := hg8c j 0 hj (by decide)
                have d1 := hg8c j 1 hj (by decide)
                have d2 := hg8c j 2 hj (by decide)
                have f0 := hg8f (j * 3 + 0)
                have f1 := hg8f (j * 3 + 1)
                have f2 := hg8f (j * 3 + 2)
                simp only [csPi, List.getElem?_cons_zero, List.getElem?_cons_succ, Nat.add_zero] at d0 d1 d2 f0
                have oN := own_set3 oM j hj (⟨s7, a7, o7⟩ : Pi)
                have kN : Onb g wy (((wh.setCell ⟨g7, j * 3, none⟩ (.int .i64 s7)).setCell ⟨g7, j * 3 + 1, none⟩ (.int .i64 a7)).setCell ⟨g7, j * 3 + 2, none⟩ (.int .i64 o7)) := ((ke.set (by simp only; omega) _).set (by simp only; omega) _).set (by simp only; omega) _
                have rN : Rd (((wh.setCell ⟨g7, j * 3, none⟩ (.int .i64 s7)).setCell ⟨g7, j * 3 + 1, none⟩ (.int .i64 a7)).setCell ⟨g7, j * 3 + 2, none⟩ (.int .i64 o7)) g B A len cap ph := ((rh.set (by have := rh.Bg; simp only; omega) (by simp only; omega) _).set (by have := rh.Bg; simp only; omega) (by simp only; omega) _).set (by have := rh.Bg; simp only; omega) (by simp only; omega) _
                have HON := Lib.hid oN
                have HKN := Lib.hid kN
                have HRN := Lib.hid rN
                clear oN kN rN hg8c hg8f hg7c hg7f hop
                have hjm : (j : Int) < (M.length : Int) := by omega
                go_wp2
                go_meet
                exact ⟨_, by rw [List.length_set]; omega, own_lo HON.out (by omega), HKN.out, ph, by omega, HRN.out⟩
            · go_wp2_with fail
              refine (pick_fr _ _ _ _ _ _ _ _ rc (by omega)).mono ?_
              rintro e wd ⟨x, rfl, ⟨x0, x1, _⟩, od, rd⟩
              have x1 := x1 (by omega)
              have hxv : x < v := by omega
              have hrd := own_rowT9 (own_onl ownL od hg)
              have hsd : wy.heap.size ≤ wd.heap.size := by rw [od.size]; exact Nat.le_refl _
              go_wp2_with fail
              refine (sln_any f l _ l.length c2 48 72 x _ (by omega) rfl (by omega) hrd).mono ?_
              rintro e we ⟨v7, rfl, oM, be⟩
              have hse := be.size
              obtain ⟨M, hM⟩ : ∃ M, (lnR f l 48 72 x).getD [] = M := ⟨_, rfl⟩
              have hM1 : M.length = l.length := by
                obtain ⟨_, L, e1, _, e2, _⟩ := lnR_small (f := f) (c := l) (lo := 48) (hi := 72) (num := x) x0 (by rw [HV.out]; exact hxv)
                rw [← hM, e1]; exact e2
              obtain ⟨bS, hbS⟩ : ∃ b, (lnR f l 48 72 x).isSome = b := ⟨_, rfl⟩
              rw [hM] at oM
              rw [hbS]
              clear hM hbS
              have hM2 : M.length ≤ 10 := by omega
              have hM0 : 1 ≤ M.length := by omega
              clear hM1
              have re := rd.below be
              have ke := (Onb.of_onl od).trans (Onb.of_bel be)
              clear od be rd hrd
              obtain ⟨A7, c7, rfl, lc7, cm7, hop⟩ := own_open csPi_len dPi oM
              obtain ⟨g7, rfl, hg7b, hg7l, hg7f, hg7c⟩ := hop (by omega)
              clear hop
              unfold maxLen at cm7
              have hg7g : g < g7 := by omega
              go_wp2_with fail
              refine (odd_any _ _ _ _ _ _ _ _ re (by omega)).mono ?_
              rintro e wf ⟨bq, rfl, _, of, pf, hpf, rf⟩
              replace oM := own_onl oM of (by omega : g < wd.heap.size)
              replace ke := ke.trans (Onb.of_onl of)
              clear of re
              cases bq
              · go_wp2
                go_meet
                exact ⟨M, by omega, own_lo oM (by omega), ke, pf, by omega, rf⟩
              · go_wp2_with fail
                refine (pick_fr _ _ _ _ _ _ _ _ rf (by omega)).mono ?_
                rintro e wg ⟨y, rfl, ⟨y0, y1, _⟩, og, rg⟩
                have y1 := y1 (by omega)
                replace oM := own_onl oM og (by omega : g < wd.heap.size)
                replace ke := ke.trans (Onb.of_onl og)
                clear og rf
                go_wp2_with fail
                refine (pitch_any _ _ _ _ _ _ _ _ rg (by omega)).mono ?_
                rintro e wh ⟨s7, a7, o7, rfl, oh, ph, hph, rh⟩
                replace oM := own_onb oM oh (by omega : g < wd.heap.size)
                replace ke := ke.trans oh
                clear oh rg
                obtain ⟨j, rfl⟩ := Int.eq_ofNat_of_zero_le y0
                have hj : j < M.length := by omega
                obtain ⟨A8, c8, e8, _, _, hop⟩ := own_open csPi_len dPi oM
                cases e8
                obtain ⟨g8, e8, _, hg8l, hg8f, hg8c⟩ := hop (by omega)
                cases e8
                have d0 := hg8c j 0 hj (by decide)
                have d1 := hg8c j 1 hj (by decide)
                have d2 := hg8c j 2 hj (by decide)
                have f0 := hg8f (j * 3 + 0)
                have f1 := hg8f (j * 3 + 1)
                have f2 := hg8f (j * 3 + 2)
                simp only [csPi, List.getElem?_cons_zero, List.getElem?_cons_succ, Nat.add_zero] at d0 d1 d2 f0
                have oN := own_set3 oM j hj (⟨s7, a7, o7⟩ : Pi)
                have kN : Onb g wy (((wh.setCell ⟨g7, j * 3, none⟩ (.int .i64 s7)).setCell ⟨g7, j * 3 + 1, none⟩ (.int .i64 a7)).setCell ⟨g7, j * 3 + 2, none⟩ (.int .i64 o7)) := ((ke.set (by simp only; omega) _).set (by simp only; omega) _).set (by simp only; omega) _
                have rN : Rd (((wh.setCell ⟨g7, j * 3, none⟩ (.int .i64 s7)).setCell ⟨g7, j * 3 + 1, none⟩ (.int .i64 a7)).setCell ⟨g7, j * 3 + 2, none⟩ (.int .i64 o7)) g B A len cap ph := ((rh.set (by have := rh.Bg; simp only; omega) (by simp only; omega) _).set (by have := rh.Bg; simp only; omega) (by simp only; omega) _).set (by have := rh.Bg; simp only; omega) (by simp only; omega) _
                have HON := Lib.hid oN
                have HKN := Lib.hid kN
                have HRN := Lib.hid rN
                clear oN kN rN hg8c hg8f hg7c hg7f hop
                have hjm : (j : Int) < (M.length : Int) := by omega
                go_wp2
                go_meet
                exact ⟨_, by rw [List.length_set]; omega, own_lo HON.out (by omega), HKN.out, ph, by omega, HRN.out⟩
        case rest =>
          obtain ⟨M, hM10, oM, kM, q, hq, rM⟩ := hcut
          replace ownL := own_onb ownL kM hg
          have kT := kL.trans kM
          have hsy := kM.size
          clear kL hown
          go_wp2_with fail
          refine (odd_any _ _ _ _ _ _ _ _ rM (by omega)).mono ?_
          rintro e wf ⟨bq, rfl, _, of, pf, hpf, rf⟩
          replace oM := own_onl oM of hg1
          replace ownL := own_onl ownL of hg
          replace kT := kT.trans (Onb.of_onl of)
          have hsf : wc.heap.size ≤ wf.heap.size := by rw [of.size]; exact Nat.le_refl _
          clear of rM kM
          have hML : M.length ≤ 11 := by omega
          cases bq
          · obtain ⟨A8, c8, rfl, _, _, _, _⟩ := own_rowPi oM
            go_wp2
            exact bodyPost_ret (v := .tuple #[.int .i64 f, .slice (some ⟨cb, coff, none⟩) l.length c2, .slice A8 M.length c8]) (by simp [results, Try.results14, go_sem]) rfl ⟨f, _, _, l, M, rfl, l1, l6, hML, ownL, own_lo oM (by omega), kT, pf, by omega, rf⟩
          · have hw1f : w1.heap.size ≤ wf.heap.size := by omega
            go_wp2_with (at_builtin; go_must (refine wpList_append_lies _ rfl _ _ 23 rfl w1.heap.size 30 i0 _ 3 24 Try.underlying23 hi0 hz0 hz1 hz2 rfl (by omega) _ M.length (flat csPi M) rfl (oM.alloc _) ⟨wf.heap.size, 0, none⟩ 1 1 [.int .i64 0, .int .i64 0, .int .i64 0] rfl rfl (World.news_of_block (cs := #[.int .i64 0, .int .i64 0, .int .i64 0]) (t := 30) (fr := (0, 0)) (heap_alloc_new wf _)) (by simp [Value.oneCell']) (by omega) (by unfold maxLen; omega) (by omega) (by simp; omega) _ rfl ?_; intro gg9 cp9 w9 hown9 hgrow9 hat9 hlt9))
            have kA := (kT.alloc (.cells #[.int .i64 0, .int .i64 0, .int .i64 0] 30)).grown hgrow9 (fun k hk => by have := own_ge oM k hk; omega)
            have rA := (rf.alloc (.cells #[.int .i64 0, .int .i64 0, .int .i64 0] 30)).grown hgrow9 (fun k hk => by have := own_ge oM k hk; omega)
            have oA := own_push (t := (⟨0, 0, 0⟩ : Pi)) hown9 rfl
            have oL := grown_row hgrow9 (ownL.alloc (.cells #[.int .i64 0, .int .i64 0, .int .i64 0] 30)) (.inr (fun e => by have := own_ge oM cb e.symm; omega))
            have HA := Lib.hid (show (M ++ [(⟨0, 0, 0⟩ : Pi)]).length ≤ 11 from by rw [List.length_append, List.length_singleton]; omega)
            go_wp2
            exact bodyPost_ret (v := .tuple #[.int .i64 f, .slice (some ⟨cb, coff, none⟩) l.length c2, .slice (some ⟨gg9, 0, none⟩) (M.length + 1) cp9]) (by simp [results, Try.results14, go_sem]) rfl ⟨f, _, _, l, M ++ [⟨0, 0, 0⟩], rfl, l1, l6, HA.out, oL, own_lo oA (by omega), kA, pf, by omega, rA⟩
def DrOv (w : World) (e : Ending) (w' : World) : Prop := ∃ (f : Int) (A1 A2 : Option Addr) (c1 c2 : Nat) (l l' : List Pi), e = .returned (.tuple #[.int .i64 f, .slice A1 l.length c1, .slice A2 l'.length c2]) ∧ l.length ≤ c1 ∧ c1 ≤ maxLen ∧ l'.length ≤ c2 ∧ c2 ≤ maxLen ∧ l.length ≤ 6 ∧ l'.length ≤ 11 ∧ RowPi w' w'.heap.size A1 l ∧ RowPi w' w'.heap.size A2 l' ∧ Below w.heap.size w w'
set_option maxHeartbeats 1000000 in
theorem DrawLineGood_any (w : World) (A : Option Addr) (len cap : Nat) (h : Cod w A len cap) : Calls Try.prog 5 #[.slice A len cap] w (DrOv w) := by
  go_enter Try.func5, Try.ntmps5
  have r1 := open_ok w A len cap w.heap.size (Nat.le_refl _) h.bt
  have k1 : Onb w.heap.size w (w.alloc (.cells #[.slice A (min len 2000) cap, .int .i64 0] 61)) := Onb.of_bel (bel_al (bel_refl _) _)
  go_wp2_with fail
  refine (open_eq _ A len cap h.lc h.cm).mono ?_
  rintro e w1 ⟨rfl, rfl⟩
  go_wp2_with fail
  generalize (w.alloc (.cells #[.slice A (min len 2000) cap, .int .i64 0] 61)) = w1 at *
  generalize min len 2000 = len' at *
  refine (over_any _ _ _ _ _ _ _ r1 (by omega)).mono ?_
  rintro e w2 ⟨f, v, v', l, l', rfl, l1, l6, l11, o1, o2, k2, p2, hp2, r2⟩
  have k3 := k1.trans k2
  obtain ⟨A1, c1, rfl, lc1, cm1, h1, _⟩ := own_rowPi o1
  obtain ⟨A2, c2, rfl, lc2, cm2, h2, _⟩ := own_rowPi o2
  clear o1 o2
  go_wp2
  exact bodyPost_ret (v := .tuple #[.int .i64 f, .slice A1 l.length c1, .slice A2 l'.length c2]) (by simp [results, Try.results5, go_sem]) rfl ⟨f, A1, A2, c1, c2, l, l', rfl, lc1, cm1, lc2, cm2, l6, l11, h1, h2, k3.below (Nat.le_refl _) (Nat.le_refl _)⟩
set_option maxHeartbeats 1000000 in
theorem DrawLineFaults_any (w : World) (A : Option Addr) (len cap : Nat) (h : Cod w A len cap) : Calls Try.prog 12 #[.slice A len cap] w (DrOv w) := by
  go_enter Try.func12, Try.ntmps12
  have r1 := open_ok w A len cap w.heap.size (Nat.le_refl _) h.bt
  have k1 : Onb w.heap.size w (w.alloc (.cells #[.slice A (min len 2000) cap, .int .i64 0] 61)) := Onb.of_bel (bel_al (bel_refl _) _)
  go_wp2_with fail
  refine (open_eq _ A len cap h.lc h.cm).mono ?_
  rintro e w1 ⟨rfl, rfl⟩
  go_wp2_with fail
  generalize (w.alloc (.cells #[.slice A (min len 2000) cap, .int .i64 0] 61)) = w1 at *
  generalize min len 2000 = len' at *
  refine (over_any _ _ _ _ _ _ _ r1 (by omega)).mono ?_
  rintro e w2 ⟨f, v, v', l, l', rfl, l1, l6, l11, o1, o2, k2, p2, hp2, r2⟩
  have k3 := k1.trans k2
  obtain ⟨A1, c1, rfl, lc1, cm1, h1, _⟩ := own_rowPi o1
  obtain ⟨A2, c2, rfl, lc2, cm2, h2, _⟩ := own_rowPi o2
  clear o1 o2
  go_wp2
  exact bodyPost_ret (v := .tuple #[.int .i64 f, .slice A1 l.length c1, .slice A2 l'.length c2]) (by simp [results, Try.results12, go_sem]) rfl ⟨f, A1, A2, c1, c2, l, l', rfl, lc1, cm1, lc2, cm2, l6, l11, h1, h2, k3.below (Nat.le_refl _) (Nat.le_refl _)⟩
end Go.Proofs.Ytdmidimjbhkjoaa
