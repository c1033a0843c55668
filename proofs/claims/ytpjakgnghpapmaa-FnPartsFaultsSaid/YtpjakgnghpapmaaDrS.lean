/- A chord of four voices, drawn. -/
import Derived.Test.YtpjakgnghpapmaaSpl
import Derived.Test.YtpjakgnghpapmaaDrP
import Derived.Test.YtpjakgnghpapmaaBt
import Derived.Test.YtpjakgnghpapmaaBp
import Derived.Deep.AppendLies
import Derived.Deep.DeepCutAuto
namespace Go.Proofs.Ytpjakgnghpapmaa
set_option linter.unusedSimpArgs false
set_option linter.unusedVariables false
open Go.RowKit

def FIs (lo hi : Int) (u : Value) : Prop := ∃ v : Int, u = .int .i64 v ∧ lo ≤ v ∧ v < hi
/-- a slice of pitches in a block of pitches, from lo on -/
def StP (w : World) (lo : Nat) (A : Option Addr) (l : List Pi) : Prop := 0 < l.length → ∃ (b off : Nat) (cs : Array Value), A = some ⟨b, off, none⟩ ∧ lo ≤ b ∧ Blk w b cs 62 ∧ ∀ i, i < l.length → cs[off + i * 3]? = some (.int .i64 (atPi l i).step) ∧ cs[off + i * 3 + 1]? = some (.int .i64 (atPi l i).alter) ∧ cs[off + i * 3 + 2]? = some (.int .i64 (atPi l i).octave)
theorem StP.onb {g : Nat} {w w' : World} {lo : Nat} {A : Option Addr} {l : List Pi} (h : StP w lo A l) (ho : Onb g w w') (hg : g < lo) : StP w' lo A l := fun hl => by
  obtain ⟨b, off, cs, e, h1, h2, h3⟩ := h hl
  exact ⟨b, off, cs, e, h1, h2.onb ho (by omega), h3⟩
theorem StP.lo {w : World} {lo lo' : Nat} {A : Option Addr} {l : List Pi} (h : StP w lo A l) (hl : lo' ≤ lo) : StP w lo' A l := fun hp => by
  obtain ⟨b, off, cs, e, h1, h2, h3⟩ := h hp
  exact ⟨b, off, cs, e, by omega, h2, h3⟩
theorem StP.row {w : World} {lo : Nat} {A : Option Addr} {l : List Pi} (h : StP w lo A l) : RowPi w w.heap.size A l := fun hp => by
  obtain ⟨b, off, cs, e, h1, h2, h3⟩ := h hp
  exact ⟨b, off, e, h2.lt, fun i hi => by rw [Blk.cell h2, Blk.cell h2, Blk.cell h2]; exact h3 i hi⟩
theorem StP.of {w : World} {lo : Nat} {v : Value} {l : List Pi} (h : w.ownsRow lo 62 3 v l.length (flat csPi l)) : ∃ A c, v = .slice A l.length c ∧ l.length ≤ c ∧ c ≤ maxLen ∧ StP w lo A l := by
  obtain ⟨A, c, rfl, h1, h2, hr, _⟩ := own_rowPi h
  refine ⟨A, c, rfl, h1, h2, fun hl => ?_⟩
  obtain ⟨b, off, rfl, hb, hc⟩ := hr hl
  rcases h.2 with ⟨e, h0⟩ | ⟨g, cap, cur, e, hg, hh, _⟩
  · omega
  · cases e
    have hB : Blk w b cur 62 := hh
    refine ⟨b, 0, cur, rfl, hg, hB, fun i hi => ?_⟩
    have := hc i hi
    rw [Blk.cell hB, Blk.cell hB, Blk.cell hB] at this
    exact this
theorem StP.drop1 {w : World} {lo b off : Nat} {l : List Pi} (h : StP w lo (some ⟨b, off, none⟩) l) (hl : 0 < l.length) : StP w lo (some ⟨b, off + 3, none⟩) (l.drop 1) := fun _ => by
  obtain ⟨b', off', cs, e, h1, h2, h3⟩ := h hl
  cases e
  refine ⟨b, off + 3, cs, rfl, h1, h2, fun i hi => ?_⟩
  rw [List.length_drop] at hi
  rw [at_drop1, show off + 3 + i * 3 = off + (i + 1) * 3 from by omega]
  exact h3 (i + 1) (by omega)
theorem own_storedS {w : World} {base : Nat} {e : TypeId} {g cap n : Nat} {l : List Pi} (h : w.ownsRow base e 3 (.slice (some ⟨g, 0, none⟩) n cap) n (flat csPi l)) (hn : n = l.length) (i j : Nat) (hi : i < l.length) (hj : j < 3) (t : Pi) (u : Value) (ht : csPi t = (csPi (l.getD i dPi)).set j u) :
    (w.setCell ⟨g, i * 3 + j, none⟩ u).ownsRow base e 3 (.slice (some ⟨g, 0, none⟩) n cap) n (flat csPi (l.set i t)) := by
  subst hn
  have := own_stored csPi_len dPi h i j hi hj t u ht
  rw [List.length_set] at this
  exact this
theorem own_set3s {w : World} {base : Nat} {e : TypeId} {g cap : Nat} {l : List Pi} (h : w.ownsRow base e 3 (.slice (some ⟨g, 0, none⟩) l.length cap) l.length (flat csPi l)) (i : Nat) (hi : i < l.length) (t : Pi) :
    (((w.setCell ⟨g, i * 3, none⟩ (.int .i64 t.step)).setCell ⟨g, i * 3 + 1, none⟩ (.int .i64 t.alter)).setCell ⟨g, i * 3 + 2, none⟩ (.int .i64 t.octave)).ownsRow base e 3 (.slice (some ⟨g, 0, none⟩) l.length cap) (l.set i t).length (flat csPi (l.set i t)) := by
  have e0 : ∀ (x : Pi) (m : List Pi), i < m.length → (m.set i x).getD i dPi = x := fun x m hm => by rw [List.getD_eq_getElem?_getD, List.getElem?_set_self hm]; rfl
  have h1 := own_storedS h rfl i 0 hi (by decide) ⟨t.step, (l.getD i dPi).alter, (l.getD i dPi).octave⟩ (.int .i64 t.step) rfl
  have h2 := own_storedS h1 (by rw [List.length_set]) i 1 (by rw [List.length_set]; exact hi) (by decide) ⟨t.step, t.alter, (l.getD i dPi).octave⟩ (.int .i64 t.alter) (by rw [e0 _ _ hi]; rfl)
  have h3 := own_storedS h2 (by simp only [List.length_set]) i 2 (by simp only [List.length_set]; exact hi) (by decide) t (.int .i64 t.octave) (by rw [e0 _ _ (by rw [List.length_set]; exact hi)]; rfl)
  simp only [List.set_set] at h3
  rw [List.length_set]
  exact h3
def DrS (w : World) (g B p : Nat) (A : Option Addr) (len cap : Nat) (e : Ending) (w' : World) : Prop :=
  ∃ (v : Option Addr) (c : Nat) (l : List Pi), e = .returned (.slice v l.length c) ∧ l.length ≤ c ∧ c ≤ maxLen ∧ l.length ≤ 4 ∧ StP w' w.heap.size v l ∧ Onb g w w' ∧ ∃ p', p' ≤ p + 60 ∧ Rd w' g B A len cap p'
set_option maxRecDepth 20000 in
set_option maxHeartbeats 4000000 in
theorem stack_any (w : World) (g B p : Nat) (A : Option Addr) (len cap : Nat) (m : Int) (h : Rd w g B A len cap p) (hp : p < 100000) :
    Calls Try.prog 45 #[.pointer (some ⟨g, 0, none⟩), .int .i64 m] w (DrS w g B p A len cap) := by
  go_enter Try.func45, Try.ntmps45
  have hg := h.gl
  obtain ⟨i0, hi0, hz0, hz1, hz2⟩ := info_parts infoPi
  have hz9 : (w.alloc (.cells #[.int .i64 28, .int .i64 36, .int .i64 43, .int .i64 48] 3)).heap.size = w.heap.size + 1 := by simp
  have bL : Blk ((w.alloc (.cells #[.int .i64 28, .int .i64 36, .int .i64 43, .int .i64 48] 3)).alloc (.cells #[] 62)) w.heap.size #[.int .i64 28, .int .i64 36, .int .i64 43, .int .i64 48] 3 := (Blk.new w _ _).alloc _
  have own0 : ((w.alloc (.cells #[.int .i64 28, .int .i64 36, .int .i64 43, .int .i64 48] 3)).alloc (.cells #[] 62)).ownsRow (w.heap.size + 1) 62 3 (.slice (some ⟨w.heap.size + 1, 0, none⟩) 0 0) ([] : List Pi).length (flat csPi []) := by rw [← hz9]; exact World.ownsRow_lit (w.alloc (.cells #[.int .i64 28, .int .i64 36, .int .i64 43, .int .i64 48] 3)) #[] 0 (Nat.le_refl _) (by simp [maxLen]) rfl
  have k0 : Onb g w ((w.alloc (.cells #[.int .i64 28, .int .i64 36, .int .i64 43, .int .i64 48] 3)).alloc (.cells #[] 62)) := Onb.of_bel (bel_al (bel_al (bel_refl w) _) _)
  have r0 := (h.alloc (.cells #[.int .i64 28, .int .i64 36, .int .i64 43, .int .i64 48] 3)).alloc (.cells #[] 62)
  have hBg := h.Bg
  go_upto_region 4 with fail
  go_loopw [6, 7, 8, 9] (fun o i _ _ wr => ∃ (k : Nat) (acc : List Pi) (pk : Nat), k ≤ 4 ∧ acc.length = k ∧ i = .int .i64 k ∧ wr.ownsRow (w.heap.size + 1) 62 3 o acc.length (flat csPi acc) ∧ Onb g w wr ∧ Blk wr w.heap.size #[.int .i64 28, .int .i64 36, .int .i64 43, .int .i64 48] 3 ∧ pk ≤ p + 6 * k ∧ Rd wr g B A len cap pk) (fun _ i _ _ _ => 4 - (intOf i).toNat)
  case atStart => exact ⟨0, [], p, by omega, rfl, rfl, own0, k0, bL, by omega, r0⟩
  case round =>
    obtain ⟨k, acc, pk, hk, hacc, rfl, hown, hkO, bL, hpk, rk⟩ := hrel
    clear own0 k0 r0
    by_cases hlt : k < 4
    · have hkl : (k : Int) < 4 := by omega
      have hk0 : (0 : Int) ≤ (k : Int) := by omega
      obtain ⟨lo, cs0, lo0, lo1⟩ : ∃ lo : Int, wr.cell? ⟨w.heap.size, k, none⟩ = some (.int .i64 lo) ∧ 0 ≤ lo ∧ lo ≤ 60 := by
        rw [Blk.cell bL]
        rcases (show k = 0 ∨ k = 1 ∨ k = 2 ∨ k = 3 from by omega) with rfl | rfl | rfl | rfl <;> exact ⟨_, rfl, by omega, by omega⟩
      have hgr : g < wr.heap.size := rk.gl
      have hcg : w.heap.size ≠ g := by omega
      go_upto_region 6 with fail
      go_cut [8, 9] (fun u8 u9 wx => ∃ (bb : Nat) (s0 a0 o0 : Int), u8 = .pointer (some ⟨bb, 0, none⟩) ∧ Onb g wr wx ∧ wr.heap.size ≤ bb ∧ Blk wx bb #[.int .i64 s0, .int .i64 a0, .int .i64 o0] 62 ∧ ∃ q : Nat, q ≤ pk + 4 ∧ Rd wx g B A len cap q)
      case first =>
        refine region_slots (by kernel_rfl) (by kernel_rfl) [17, 18, 19, 20, 21, 22, 23, 24, 25, 26, 27, 16, 28, 29, 8, 9] (fun D us W => ∃ u17 u18 u19 u20 u21 u22 u23 u24 u25 u26 u27 u16 u28 u29 u8 u9 : Value, us = [u17, u18, u19, u20, u21, u22, u23, u24, u25, u26, u27, u16, u28, u29, u8, u9] ∧ (Onb g wr W ∧ (∃ q : Nat, q ≤ pk + 2 * ((D 5).toNat + (D 8).toNat) ∧ Rd W g B A len cap q) ∧ (D 14 = true → ∃ (b : Nat) (s a o : Int), u8 = .pointer (some ⟨b, 0, none⟩) ∧ wr.heap.size ≤ b ∧ Blk W b #[.int .i64 s, .int .i64 a, .int .i64 o] 62)) ∧ (D 0 = true → u17 = .slice (some ⟨w.heap.size, 0, none⟩) 4 4) ∧ (D 1 = true → u18 = .int .i64 k) ∧ (D 2 = true → u19 = .pointer (some ⟨w.heap.size, k, none⟩)) ∧ (D 3 = true → u20 = .int .i64 lo) ∧ (D 4 = true → u21 = .pointer (some ⟨g, 0, none⟩)) ∧ (D 5 = true → FIs 0 19 u22) ∧ (D 6 = true → FIs 0 100 u23) ∧ (D 7 = true → u24 = .pointer (some ⟨g, 0, none⟩)) ∧ (D 8 = true → FIs 0 2 u25) ∧ (D 9 = true → (∃ b : Bool, u26 = .bool b)) ∧ (D 10 = true → (∃ (s a o : Int) (b : Bool), u27 = .tuple #[.agg #[.int .i64 s, .int .i64 a, .int .i64 o], .bool b])) ∧ (D 11 = true → (∃ (s a o : Int) (b : Bool), u16 = .tuple #[.agg #[.int .i64 s, .int .i64 a, .int .i64 o], .bool b])) ∧ (D 12 = true → (∃ s a o : Int, u28 = .agg #[.int .i64 s, .int .i64 a, .int .i64 o])) ∧ (D 13 = true → (∃ b : Bool, u29 = .bool b)) ∧ (D 14 = true → True) ∧ (D 16 = true → (∃ b : Bool, u9 = .bool b))) ?_ ?_ ?_
        · intro us hu
          obtain ⟨u17, u18, u19, u20, u21, u22, u23, u24, u25, u26, u27, u16, u28, u29, u8, u9, rfl⟩ : ∃ u17 u18 u19 u20 u21 u22 u23 u24 u25 u26 u27 u16 u28 u29 u8 u9, us = [u17, u18, u19, u20, u21, u22, u23, u24, u25, u26, u27, u16, u28, u29, u8, u9] := by
            match us, hu with
            | [u17, u18, u19, u20, u21, u22, u23, u24, u25, u26, u27, u16, u28, u29, u8, u9], _ => exact ⟨_, _, _, _, _, _, _, _, _, _, _, _, _, _, _, _, rfl⟩
          exact ⟨_, _, _, _, _, _, _, _, _, _, _, _, _, _, _, _, rfl, ⟨(Onb.refl g wr).drew, ⟨pk, by omega, rk.drew⟩, fun h => absurd h (by simp)⟩, fun h => absurd h (by simp), fun h => absurd h (by simp), fun h => absurd h (by simp), fun h => absurd h (by simp), fun h => absurd h (by simp), fun h => absurd h (by simp), fun h => absurd h (by simp), fun h => absurd h (by simp), fun h => absurd h (by simp), fun h => absurd h (by simp), fun h => absurd h (by simp), fun h => absurd h (by simp), fun h => absurd h (by simp), fun h => absurd h (by simp), fun h => absurd h (by simp), fun h => absurd h (by simp)⟩
        · rintro i o hi ho D us W hu hd hdep ⟨u17, u18, u19, u20, u21, u22, u23, u24, u25, u26, u27, u16, u28, u29, u8, u9, rfl, hJ, f0, f1, f2, f3, f4, f5, f6, f7, f8, f9, f10, f11, f12, f13, f14, f16⟩
          have hi' : i < 17 := by simpa using hi
          clear hi hu
          rcases (show i = 0 ∨ i = 1 ∨ i = 2 ∨ i = 3 ∨ i = 4 ∨ i = 5 ∨ i = 6 ∨ i = 7 ∨ i = 8 ∨ i = 9 ∨ i = 10 ∨ i = 11 ∨ i = 12 ∨ i = 13 ∨ i = 14 ∨ i = 15 ∨ i = 16 from by omega) with rfl | rfl | rfl | rfl | rfl | rfl | rfl | rfl | rfl | rfl | rfl | rfl | rfl | rfl | rfl | rfl | rfl
          · simp only [List.getElem?_cons_zero, List.getElem?_cons_succ, Option.some.injEq] at ho
            subst ho
            clear hi'
            clear hdep
            have hI := hJ
            refine wpOp_step rfl (fun K hK => ?_)
            simp only [List.zip_cons_cons, List.zip_nil_right, puts]
            have Hf0 := Lib.hid f0
            have Hf1 := Lib.hid f1
            have Hf2 := Lib.hid f2
            have Hf3 := Lib.hid f3
            have Hf4 := Lib.hid f4
            have Hf5 := Lib.hid f5
            have Hf6 := Lib.hid f6
            have Hf7 := Lib.hid f7
            have Hf8 := Lib.hid f8
            have Hf9 := Lib.hid f9
            have Hf10 := Lib.hid f10
            have Hf11 := Lib.hid f11
            have Hf12 := Lib.hid f12
            have Hf13 := Lib.hid f13
            have Hf14 := Lib.hid f14
            have Hf16 := Lib.hid f16
            have HhK := Lib.hid hK
            have Hhd := Lib.hid hd
            have HhJ := Lib.hid hJ
            clear hd hK hJ f0 f1 f2 f3 f4 f5 f6 f7 f8 f9 f10 f11 f12 f13 f14 f16
            go_simp
            have f0 := Hf0.out
            have f1 := Hf1.out
            have f2 := Hf2.out
            have f3 := Hf3.out
            have f4 := Hf4.out
            have f5 := Hf5.out
            have f6 := Hf6.out
            have f7 := Hf7.out
            have f8 := Hf8.out
            have f9 := Hf9.out
            have f10 := Hf10.out
            have f11 := Hf11.out
            have f12 := Hf12.out
            have f13 := Hf13.out
            have f14 := Hf14.out
            have f16 := Hf16.out
            have hK := HhK.out
            have hd := Hhd.out
            have hJ := HhJ.out
            exact hK _ _ ⟨[(.slice (some ⟨w.heap.size, 0, none⟩) 4 4), u18, u19, u20, u21, u22, u23, u24, u25, u26, u27, u16, u28, u29, u8, u9], rfl, by kernel_rfl, _, _, _, _, _, _, _, _, _, _, _, _, _, _, _, _, rfl, hI, (fun _ => rfl), f1, f2, f3, f4, f5, f6, f7, f8, f9, f10, f11, f12, f13, f14, f16⟩
          · simp only [List.getElem?_cons_zero, List.getElem?_cons_succ, Option.some.injEq] at ho
            subst ho
            clear hi'
            clear hdep
            have hI := hJ
            refine wpOp_step rfl (fun K hK => ?_)
            simp only [List.zip_cons_cons, List.zip_nil_right, puts]
            have Hf0 := Lib.hid f0
            have Hf1 := Lib.hid f1
            have Hf2 := Lib.hid f2
            have Hf3 := Lib.hid f3
            have Hf4 := Lib.hid f4
            have Hf5 := Lib.hid f5
            have Hf6 := Lib.hid f6
            have Hf7 := Lib.hid f7
            have Hf8 := Lib.hid f8
            have Hf9 := Lib.hid f9
            have Hf10 := Lib.hid f10
            have Hf11 := Lib.hid f11
            have Hf12 := Lib.hid f12
            have Hf13 := Lib.hid f13
            have Hf14 := Lib.hid f14
            have Hf16 := Lib.hid f16
            have HhK := Lib.hid hK
            have Hhd := Lib.hid hd
            have HhJ := Lib.hid hJ
            clear hd hK hJ f0 f1 f2 f3 f4 f5 f6 f7 f8 f9 f10 f11 f12 f13 f14 f16
            go_simp
            have f0 := Hf0.out
            have f1 := Hf1.out
            have f2 := Hf2.out
            have f3 := Hf3.out
            have f4 := Hf4.out
            have f5 := Hf5.out
            have f6 := Hf6.out
            have f7 := Hf7.out
            have f8 := Hf8.out
            have f9 := Hf9.out
            have f10 := Hf10.out
            have f11 := Hf11.out
            have f12 := Hf12.out
            have f13 := Hf13.out
            have f14 := Hf14.out
            have f16 := Hf16.out
            have hK := HhK.out
            have hd := Hhd.out
            have hJ := HhJ.out
            exact hK _ _ ⟨[u17, (.int .i64 k), u19, u20, u21, u22, u23, u24, u25, u26, u27, u16, u28, u29, u8, u9], rfl, by kernel_rfl, _, _, _, _, _, _, _, _, _, _, _, _, _, _, _, _, rfl, hI, f0, (fun _ => rfl), f2, f3, f4, f5, f6, f7, f8, f9, f10, f11, f12, f13, f14, f16⟩
          · simp only [List.getElem?_cons_zero, List.getElem?_cons_succ, Option.some.injEq] at ho
            subst ho
            clear hi'
            have d0 : D 0 = true := hdep ⟨0, Ground.data⟩ (by simp) rfl
            have d1 : D 1 = true := hdep ⟨1, Ground.data⟩ (by simp) rfl
            clear hdep
            have hI := hJ
            obtain rfl := f0 d0
            obtain rfl := f1 d1
            refine wpOp_step rfl (fun K hK => ?_)
            simp only [List.zip_cons_cons, List.zip_nil_right, puts]
            have Hf0 := Lib.hid f0
            have Hf1 := Lib.hid f1
            have Hf2 := Lib.hid f2
            have Hf3 := Lib.hid f3
            have Hf4 := Lib.hid f4
            have Hf5 := Lib.hid f5
            have Hf6 := Lib.hid f6
            have Hf7 := Lib.hid f7
            have Hf8 := Lib.hid f8
            have Hf9 := Lib.hid f9
            have Hf10 := Lib.hid f10
            have Hf11 := Lib.hid f11
            have Hf12 := Lib.hid f12
            have Hf13 := Lib.hid f13
            have Hf14 := Lib.hid f14
            have Hf16 := Lib.hid f16
            have HhK := Lib.hid hK
            have Hhd := Lib.hid hd
            have HhJ := Lib.hid hJ
            clear hd hK hJ f0 f1 f2 f3 f4 f5 f6 f7 f8 f9 f10 f11 f12 f13 f14 f16
            go_simp
            have f0 := Hf0.out
            have f1 := Hf1.out
            have f2 := Hf2.out
            have f3 := Hf3.out
            have f4 := Hf4.out
            have f5 := Hf5.out
            have f6 := Hf6.out
            have f7 := Hf7.out
            have f8 := Hf8.out
            have f9 := Hf9.out
            have f10 := Hf10.out
            have f11 := Hf11.out
            have f12 := Hf12.out
            have f13 := Hf13.out
            have f14 := Hf14.out
            have f16 := Hf16.out
            have hK := HhK.out
            have hd := Hhd.out
            have hJ := HhJ.out
            exact hK _ _ ⟨[(.slice (some ⟨w.heap.size, 0, none⟩) 4 4), (.int .i64 k), (.pointer (some ⟨w.heap.size, k, none⟩)), u20, u21, u22, u23, u24, u25, u26, u27, u16, u28, u29, u8, u9], rfl, by kernel_rfl, _, _, _, _, _, _, _, _, _, _, _, _, _, _, _, _, rfl, hI, (fun _ => rfl), (fun _ => rfl), (fun _ => rfl), f3, f4, f5, f6, f7, f8, f9, f10, f11, f12, f13, f14, f16⟩
          · simp only [List.getElem?_cons_zero, List.getElem?_cons_succ, Option.some.injEq] at ho
            subst ho
            clear hi'
            have d2 : D 2 = true := hdep ⟨2, Ground.data⟩ (by simp) rfl
            clear hdep
            have hI := hJ
            obtain rfl := f2 d2
            have cs := hI.1.at cs0 hcg
            refine wpOp_step rfl (fun K hK => ?_)
            simp only [List.zip_cons_cons, List.zip_nil_right, puts]
            have Hf0 := Lib.hid f0
            have Hf1 := Lib.hid f1
            have Hf2 := Lib.hid f2
            have Hf3 := Lib.hid f3
            have Hf4 := Lib.hid f4
            have Hf5 := Lib.hid f5
            have Hf6 := Lib.hid f6
            have Hf7 := Lib.hid f7
            have Hf8 := Lib.hid f8
            have Hf9 := Lib.hid f9
            have Hf10 := Lib.hid f10
            have Hf11 := Lib.hid f11
            have Hf12 := Lib.hid f12
            have Hf13 := Lib.hid f13
            have Hf14 := Lib.hid f14
            have Hf16 := Lib.hid f16
            have HhK := Lib.hid hK
            have Hhd := Lib.hid hd
            have HhJ := Lib.hid hJ
            clear hd hK hJ f0 f1 f2 f3 f4 f5 f6 f7 f8 f9 f10 f11 f12 f13 f14 f16
            go_simp
            have f0 := Hf0.out
            have f1 := Hf1.out
            have f2 := Hf2.out
            have f3 := Hf3.out
            have f4 := Hf4.out
            have f5 := Hf5.out
            have f6 := Hf6.out
            have f7 := Hf7.out
            have f8 := Hf8.out
            have f9 := Hf9.out
            have f10 := Hf10.out
            have f11 := Hf11.out
            have f12 := Hf12.out
            have f13 := Hf13.out
            have f14 := Hf14.out
            have f16 := Hf16.out
            have hK := HhK.out
            have hd := Hhd.out
            have hJ := HhJ.out
            exact hK _ _ ⟨[u17, u18, (.pointer (some ⟨w.heap.size, k, none⟩)), (.int .i64 lo), u21, u22, u23, u24, u25, u26, u27, u16, u28, u29, u8, u9], rfl, by kernel_rfl, _, _, _, _, _, _, _, _, _, _, _, _, _, _, _, _, rfl, hI, f0, f1, (fun _ => rfl), (fun _ => rfl), f4, f5, f6, f7, f8, f9, f10, f11, f12, f13, f14, f16⟩
          · simp only [List.getElem?_cons_zero, List.getElem?_cons_succ, Option.some.injEq] at ho
            subst ho
            clear hi'
            clear hdep
            have hI := hJ
            refine wpOp_step rfl (fun K hK => ?_)
            simp only [List.zip_cons_cons, List.zip_nil_right, puts]
            have Hf0 := Lib.hid f0
            have Hf1 := Lib.hid f1
            have Hf2 := Lib.hid f2
            have Hf3 := Lib.hid f3
            have Hf4 := Lib.hid f4
            have Hf5 := Lib.hid f5
            have Hf6 := Lib.hid f6
            have Hf7 := Lib.hid f7
            have Hf8 := Lib.hid f8
            have Hf9 := Lib.hid f9
            have Hf10 := Lib.hid f10
            have Hf11 := Lib.hid f11
            have Hf12 := Lib.hid f12
            have Hf13 := Lib.hid f13
            have Hf14 := Lib.hid f14
            have Hf16 := Lib.hid f16
            have HhK := Lib.hid hK
            have Hhd := Lib.hid hd
            have HhJ := Lib.hid hJ
            clear hd hK hJ f0 f1 f2 f3 f4 f5 f6 f7 f8 f9 f10 f11 f12 f13 f14 f16
            go_simp
            have f0 := Hf0.out
            have f1 := Hf1.out
            have f2 := Hf2.out
            have f3 := Hf3.out
            have f4 := Hf4.out
            have f5 := Hf5.out
            have f6 := Hf6.out
            have f7 := Hf7.out
            have f8 := Hf8.out
            have f9 := Hf9.out
            have f10 := Hf10.out
            have f11 := Hf11.out
            have f12 := Hf12.out
            have f13 := Hf13.out
            have f14 := Hf14.out
            have f16 := Hf16.out
            have hK := HhK.out
            have hd := Hhd.out
            have hJ := HhJ.out
            exact hK _ _ ⟨[u17, u18, u19, u20, (.pointer (some ⟨g, 0, none⟩)), u22, u23, u24, u25, u26, u27, u16, u28, u29, u8, u9], rfl, by kernel_rfl, _, _, _, _, _, _, _, _, _, _, _, _, _, _, _, _, rfl, hI, f0, f1, f2, f3, (fun _ => rfl), f5, f6, f7, f8, f9, f10, f11, f12, f13, f14, f16⟩
          · simp only [List.getElem?_cons_zero, List.getElem?_cons_succ, Option.some.injEq] at ho
            subst ho
            clear hi'
            have d4 : D 4 = true := hdep ⟨4, Ground.data⟩ (by simp) rfl
            clear hdep
            have hI := hJ
            obtain rfl := f4 d4
            obtain ⟨kO, ⟨q, hp, rd⟩, h3⟩ := hI
            have a5 := Bool.toNat_le (D 5)
            have a8 := Bool.toNat_le (D 8)
            refine wpOp_step rfl (fun K hK => ?_)
            simp only [List.zip_cons_cons, List.zip_nil_right, puts]
            have Hf0 := Lib.hid f0
            have Hf1 := Lib.hid f1
            have Hf2 := Lib.hid f2
            have Hf3 := Lib.hid f3
            have Hf4 := Lib.hid f4
            have Hf5 := Lib.hid f5
            have Hf6 := Lib.hid f6
            have Hf7 := Lib.hid f7
            have Hf8 := Lib.hid f8
            have Hf9 := Lib.hid f9
            have Hf10 := Lib.hid f10
            have Hf11 := Lib.hid f11
            have Hf12 := Lib.hid f12
            have Hf13 := Lib.hid f13
            have Hf14 := Lib.hid f14
            have Hf16 := Lib.hid f16
            have HhK := Lib.hid hK
            have Hhd := Lib.hid hd
            have HhJ := Lib.hid hJ
            clear hd hK hJ f0 f1 f2 f3 f4 f5 f6 f7 f8 f9 f10 f11 f12 f13 f14 f16
            go_simp
            go_wp2_with (go_at_call 43; refine (pick_fr _ _ _ _ _ _ _ _ rd (by omega)).mono ?_; rintro e w9 ⟨x, rfl, ⟨x0, x1, _⟩, o9, r9⟩)
            have x1 := x1 (by omega)
            have f0 := Hf0.out
            have f1 := Hf1.out
            have f2 := Hf2.out
            have f3 := Hf3.out
            have f4 := Hf4.out
            have f5 := Hf5.out
            have f6 := Hf6.out
            have f7 := Hf7.out
            have f8 := Hf8.out
            have f9 := Hf9.out
            have f10 := Hf10.out
            have f11 := Hf11.out
            have f12 := Hf12.out
            have f13 := Hf13.out
            have f14 := Hf14.out
            have f16 := Hf16.out
            have hK := HhK.out
            have hd := Hhd.out
            have hJ := HhJ.out
            exact hK _ _ ⟨[u17, u18, u19, u20, (.pointer (some ⟨g, 0, none⟩)), (.int .i64 x), u23, u24, u25, u26, u27, u16, u28, u29, u8, u9], rfl, by kernel_rfl, _, _, _, _, _, _, _, _, _, _, _, _, _, _, _, _, rfl, ⟨kO.trans (Onb.of_onl o9), ⟨q + 1, (by have e := hp; rw [hd] at e; show q + 1 ≤ pk + 2 * (true.toNat + (D 8).toNat); simp only [Bool.toNat_true, Bool.toNat_false] at e ⊢; omega), r9⟩, (fun h => by obtain ⟨b, s, a, o, e, hl, hb⟩ := h3 h; exact ⟨b, s, a, o, e, hl, hb.onb (Onb.of_onl o9) (by omega)⟩)⟩, f0, f1, f2, f3, (fun _ => rfl), (fun _ => ⟨x, rfl, x0, by omega⟩), f6, f7, f8, f9, f10, f11, f12, f13, f14, f16⟩
          · simp only [List.getElem?_cons_zero, List.getElem?_cons_succ, Option.some.injEq] at ho
            subst ho
            clear hi'
            have d3 : D 3 = true := hdep ⟨3, Ground.data⟩ (by simp) rfl
            have d5 : D 5 = true := hdep ⟨5, Ground.data⟩ (by simp) rfl
            clear hdep
            have hI := hJ
            obtain rfl := f3 d3
            obtain ⟨x, rfl, x0, x1⟩ := f5 d5
            have ia := IntWalk.i64_in (lo + x) (by omega)
            refine wpOp_step rfl (fun K hK => ?_)
            simp only [List.zip_cons_cons, List.zip_nil_right, puts]
            have Hf0 := Lib.hid f0
            have Hf1 := Lib.hid f1
            have Hf2 := Lib.hid f2
            have Hf3 := Lib.hid f3
            have Hf4 := Lib.hid f4
            have Hf5 := Lib.hid f5
            have Hf6 := Lib.hid f6
            have Hf7 := Lib.hid f7
            have Hf8 := Lib.hid f8
            have Hf9 := Lib.hid f9
            have Hf10 := Lib.hid f10
            have Hf11 := Lib.hid f11
            have Hf12 := Lib.hid f12
            have Hf13 := Lib.hid f13
            have Hf14 := Lib.hid f14
            have Hf16 := Lib.hid f16
            have HhK := Lib.hid hK
            have Hhd := Lib.hid hd
            have HhJ := Lib.hid hJ
            clear hd hK hJ f0 f1 f2 f3 f4 f5 f6 f7 f8 f9 f10 f11 f12 f13 f14 f16
            go_simp
            have f0 := Hf0.out
            have f1 := Hf1.out
            have f2 := Hf2.out
            have f3 := Hf3.out
            have f4 := Hf4.out
            have f5 := Hf5.out
            have f6 := Hf6.out
            have f7 := Hf7.out
            have f8 := Hf8.out
            have f9 := Hf9.out
            have f10 := Hf10.out
            have f11 := Hf11.out
            have f12 := Hf12.out
            have f13 := Hf13.out
            have f14 := Hf14.out
            have f16 := Hf16.out
            have hK := HhK.out
            have hd := Hhd.out
            have hJ := HhJ.out
            exact hK _ _ ⟨[u17, u18, u19, (.int .i64 lo), u21, (.int .i64 x), (.int .i64 (lo + x)), u24, u25, u26, u27, u16, u28, u29, u8, u9], rfl, by kernel_rfl, _, _, _, _, _, _, _, _, _, _, _, _, _, _, _, _, rfl, hI, f0, f1, f2, (fun _ => rfl), f4, f5, (fun _ => ⟨_, rfl, by omega, by omega⟩), f7, f8, f9, f10, f11, f12, f13, f14, f16⟩
          · simp only [List.getElem?_cons_zero, List.getElem?_cons_succ, Option.some.injEq] at ho
            subst ho
            clear hi'
            clear hdep
            have hI := hJ
            refine wpOp_step rfl (fun K hK => ?_)
            simp only [List.zip_cons_cons, List.zip_nil_right, puts]
            have Hf0 := Lib.hid f0
            have Hf1 := Lib.hid f1
            have Hf2 := Lib.hid f2
            have Hf3 := Lib.hid f3
            have Hf4 := Lib.hid f4
            have Hf5 := Lib.hid f5
            have Hf6 := Lib.hid f6
            have Hf7 := Lib.hid f7
            have Hf8 := Lib.hid f8
            have Hf9 := Lib.hid f9
            have Hf10 := Lib.hid f10
            have Hf11 := Lib.hid f11
            have Hf12 := Lib.hid f12
            have Hf13 := Lib.hid f13
            have Hf14 := Lib.hid f14
            have Hf16 := Lib.hid f16
            have HhK := Lib.hid hK
            have Hhd := Lib.hid hd
            have HhJ := Lib.hid hJ
            clear hd hK hJ f0 f1 f2 f3 f4 f5 f6 f7 f8 f9 f10 f11 f12 f13 f14 f16
            go_simp
            have f0 := Hf0.out
            have f1 := Hf1.out
            have f2 := Hf2.out
            have f3 := Hf3.out
            have f4 := Hf4.out
            have f5 := Hf5.out
            have f6 := Hf6.out
            have f7 := Hf7.out
            have f8 := Hf8.out
            have f9 := Hf9.out
            have f10 := Hf10.out
            have f11 := Hf11.out
            have f12 := Hf12.out
            have f13 := Hf13.out
            have f14 := Hf14.out
            have f16 := Hf16.out
            have hK := HhK.out
            have hd := Hhd.out
            have hJ := HhJ.out
            exact hK _ _ ⟨[u17, u18, u19, u20, u21, u22, u23, (.pointer (some ⟨g, 0, none⟩)), u25, u26, u27, u16, u28, u29, u8, u9], rfl, by kernel_rfl, _, _, _, _, _, _, _, _, _, _, _, _, _, _, _, _, rfl, hI, f0, f1, f2, f3, f4, f5, f6, (fun _ => rfl), f8, f9, f10, f11, f12, f13, f14, f16⟩
          · simp only [List.getElem?_cons_zero, List.getElem?_cons_succ, Option.some.injEq] at ho
            subst ho
            clear hi'
            have d7 : D 7 = true := hdep ⟨7, Ground.data⟩ (by simp) rfl
            clear hdep
            have hI := hJ
            obtain rfl := f7 d7
            obtain ⟨kO, ⟨q, hp, rd⟩, h3⟩ := hI
            have a5 := Bool.toNat_le (D 5)
            have a8 := Bool.toNat_le (D 8)
            refine wpOp_step rfl (fun K hK => ?_)
            simp only [List.zip_cons_cons, List.zip_nil_right, puts]
            have Hf0 := Lib.hid f0
            have Hf1 := Lib.hid f1
            have Hf2 := Lib.hid f2
            have Hf3 := Lib.hid f3
            have Hf4 := Lib.hid f4
            have Hf5 := Lib.hid f5
            have Hf6 := Lib.hid f6
            have Hf7 := Lib.hid f7
            have Hf8 := Lib.hid f8
            have Hf9 := Lib.hid f9
            have Hf10 := Lib.hid f10
            have Hf11 := Lib.hid f11
            have Hf12 := Lib.hid f12
            have Hf13 := Lib.hid f13
            have Hf14 := Lib.hid f14
            have Hf16 := Lib.hid f16
            have HhK := Lib.hid hK
            have Hhd := Lib.hid hd
            have HhJ := Lib.hid hJ
            clear hd hK hJ f0 f1 f2 f3 f4 f5 f6 f7 f8 f9 f10 f11 f12 f13 f14 f16
            go_simp
            go_wp2_with (go_at_call 43; refine (pick_fr _ _ _ _ _ _ _ _ rd (by omega)).mono ?_; rintro e w9 ⟨x, rfl, ⟨x0, x1, _⟩, o9, r9⟩)
            have x1 := x1 (by omega)
            have f0 := Hf0.out
            have f1 := Hf1.out
            have f2 := Hf2.out
            have f3 := Hf3.out
            have f4 := Hf4.out
            have f5 := Hf5.out
            have f6 := Hf6.out
            have f7 := Hf7.out
            have f8 := Hf8.out
            have f9 := Hf9.out
            have f10 := Hf10.out
            have f11 := Hf11.out
            have f12 := Hf12.out
            have f13 := Hf13.out
            have f14 := Hf14.out
            have f16 := Hf16.out
            have hK := HhK.out
            have hd := Hhd.out
            have hJ := HhJ.out
            exact hK _ _ ⟨[u17, u18, u19, u20, u21, u22, u23, (.pointer (some ⟨g, 0, none⟩)), (.int .i64 x), u26, u27, u16, u28, u29, u8, u9], rfl, by kernel_rfl, _, _, _, _, _, _, _, _, _, _, _, _, _, _, _, _, rfl, ⟨kO.trans (Onb.of_onl o9), ⟨q + 1, (by have e := hp; rw [hd] at e; show q + 1 ≤ pk + 2 * ((D 5).toNat + true.toNat); simp only [Bool.toNat_true, Bool.toNat_false] at e ⊢; omega), r9⟩, (fun h => by obtain ⟨b, s, a, o, e, hl, hb⟩ := h3 h; exact ⟨b, s, a, o, e, hl, hb.onb (Onb.of_onl o9) (by omega)⟩)⟩, f0, f1, f2, f3, f4, f5, f6, (fun _ => rfl), (fun _ => ⟨x, rfl, x0, by omega⟩), f9, f10, f11, f12, f13, f14, f16⟩
          · simp only [List.getElem?_cons_zero, List.getElem?_cons_succ, Option.some.injEq] at ho
            subst ho
            clear hi'
            have d8 : D 8 = true := hdep ⟨8, Ground.data⟩ (by simp) rfl
            clear hdep
            have hI := hJ
            obtain ⟨x, rfl, x0, x1⟩ := f8 d8
            refine wpOp_step rfl (fun K hK => ?_)
            simp only [List.zip_cons_cons, List.zip_nil_right, puts]
            have Hf0 := Lib.hid f0
            have Hf1 := Lib.hid f1
            have Hf2 := Lib.hid f2
            have Hf3 := Lib.hid f3
            have Hf4 := Lib.hid f4
            have Hf5 := Lib.hid f5
            have Hf6 := Lib.hid f6
            have Hf7 := Lib.hid f7
            have Hf8 := Lib.hid f8
            have Hf9 := Lib.hid f9
            have Hf10 := Lib.hid f10
            have Hf11 := Lib.hid f11
            have Hf12 := Lib.hid f12
            have Hf13 := Lib.hid f13
            have Hf14 := Lib.hid f14
            have Hf16 := Lib.hid f16
            have HhK := Lib.hid hK
            have Hhd := Lib.hid hd
            have HhJ := Lib.hid hJ
            clear hd hK hJ f0 f1 f2 f3 f4 f5 f6 f7 f8 f9 f10 f11 f12 f13 f14 f16
            go_simp
            have f0 := Hf0.out
            have f1 := Hf1.out
            have f2 := Hf2.out
            have f3 := Hf3.out
            have f4 := Hf4.out
            have f5 := Hf5.out
            have f6 := Hf6.out
            have f7 := Hf7.out
            have f8 := Hf8.out
            have f9 := Hf9.out
            have f10 := Hf10.out
            have f11 := Hf11.out
            have f12 := Hf12.out
            have f13 := Hf13.out
            have f14 := Hf14.out
            have f16 := Hf16.out
            have hK := HhK.out
            have hd := Hhd.out
            have hJ := HhJ.out
            exact hK _ _ ⟨[u17, u18, u19, u20, u21, u22, u23, u24, (.int .i64 x), (.bool (x == 0)), u27, u16, u28, u29, u8, u9], rfl, by kernel_rfl, _, _, _, _, _, _, _, _, _, _, _, _, _, _, _, _, rfl, hI, f0, f1, f2, f3, f4, f5, f6, f7, f8, (fun _ => ⟨_, rfl⟩), f10, f11, f12, f13, f14, f16⟩
          · simp only [List.getElem?_cons_zero, List.getElem?_cons_succ, Option.some.injEq] at ho
            subst ho
            clear hi'
            have d6 : D 6 = true := hdep ⟨6, Ground.data⟩ (by simp) rfl
            have d9 : D 9 = true := hdep ⟨9, Ground.data⟩ (by simp) rfl
            clear hdep
            have hI := hJ
            obtain ⟨x, rfl, x0, x1⟩ := f6 d6
            obtain ⟨y, rfl⟩ := f9 d9
            obtain ⟨kO, ⟨q, hp, rd⟩, h3⟩ := hI
            refine wpOp_step rfl (fun K hK => ?_)
            simp only [List.zip_cons_cons, List.zip_nil_right, puts]
            have Hf0 := Lib.hid f0
            have Hf1 := Lib.hid f1
            have Hf2 := Lib.hid f2
            have Hf3 := Lib.hid f3
            have Hf4 := Lib.hid f4
            have Hf5 := Lib.hid f5
            have Hf6 := Lib.hid f6
            have Hf7 := Lib.hid f7
            have Hf8 := Lib.hid f8
            have Hf9 := Lib.hid f9
            have Hf10 := Lib.hid f10
            have Hf11 := Lib.hid f11
            have Hf12 := Lib.hid f12
            have Hf13 := Lib.hid f13
            have Hf14 := Lib.hid f14
            have Hf16 := Lib.hid f16
            have HhK := Lib.hid hK
            have Hhd := Lib.hid hd
            have HhJ := Lib.hid hJ
            clear hd hK hJ f0 f1 f2 f3 f4 f5 f6 f7 f8 f9 f10 f11 f12 f13 f14 f16
            go_simp
            go_wp2_with (go_at_call 73; refine (spel_any _ _ _ (by omega) (by omega)).mono ?_; rintro e w9 ⟨s, a, o, b, rfl, b9⟩)
            have f0 := Hf0.out
            have f1 := Hf1.out
            have f2 := Hf2.out
            have f3 := Hf3.out
            have f4 := Hf4.out
            have f5 := Hf5.out
            have f6 := Hf6.out
            have f7 := Hf7.out
            have f8 := Hf8.out
            have f9 := Hf9.out
            have f10 := Hf10.out
            have f11 := Hf11.out
            have f12 := Hf12.out
            have f13 := Hf13.out
            have f14 := Hf14.out
            have f16 := Hf16.out
            have hK := HhK.out
            have hd := Hhd.out
            have hJ := HhJ.out
            exact hK _ _ ⟨[u17, u18, u19, u20, u21, u22, (.int .i64 x), u24, u25, (.bool y), (.tuple #[.agg #[.int .i64 s, .int .i64 a, .int .i64 o], .bool b]), u16, u28, u29, u8, u9], rfl, by kernel_rfl, _, _, _, _, _, _, _, _, _, _, _, _, _, _, _, _, rfl, ⟨kO.trans (Onb.of_bel (g := g) b9), ⟨q, hp, rd.below b9⟩, (fun h => by obtain ⟨b, s, a, o, e, hl, hb⟩ := h3 h; exact ⟨b, s, a, o, e, hl, hb.onb (Onb.of_bel (g := g) b9) (by omega)⟩)⟩, f0, f1, f2, f3, f4, f5, f6, f7, f8, f9, (fun _ => ⟨_, _, _, _, rfl⟩), f11, f12, f13, f14, f16⟩
          · simp only [List.getElem?_cons_zero, List.getElem?_cons_succ, Option.some.injEq] at ho
            subst ho
            clear hi'
            have d10 : D 10 = true := hdep ⟨10, Ground.data⟩ (by simp) rfl
            clear hdep
            have hI := hJ
            obtain ⟨s, a, o, b, rfl⟩ := f10 d10
            refine wpOp_step rfl (fun K hK => ?_)
            simp only [List.zip_cons_cons, List.zip_nil_right, puts]
            have Hf0 := Lib.hid f0
            have Hf1 := Lib.hid f1
            have Hf2 := Lib.hid f2
            have Hf3 := Lib.hid f3
            have Hf4 := Lib.hid f4
            have Hf5 := Lib.hid f5
            have Hf6 := Lib.hid f6
            have Hf7 := Lib.hid f7
            have Hf8 := Lib.hid f8
            have Hf9 := Lib.hid f9
            have Hf10 := Lib.hid f10
            have Hf11 := Lib.hid f11
            have Hf12 := Lib.hid f12
            have Hf13 := Lib.hid f13
            have Hf14 := Lib.hid f14
            have Hf16 := Lib.hid f16
            have HhK := Lib.hid hK
            have Hhd := Lib.hid hd
            have HhJ := Lib.hid hJ
            clear hd hK hJ f0 f1 f2 f3 f4 f5 f6 f7 f8 f9 f10 f11 f12 f13 f14 f16
            go_simp
            have f0 := Hf0.out
            have f1 := Hf1.out
            have f2 := Hf2.out
            have f3 := Hf3.out
            have f4 := Hf4.out
            have f5 := Hf5.out
            have f6 := Hf6.out
            have f7 := Hf7.out
            have f8 := Hf8.out
            have f9 := Hf9.out
            have f10 := Hf10.out
            have f11 := Hf11.out
            have f12 := Hf12.out
            have f13 := Hf13.out
            have f14 := Hf14.out
            have f16 := Hf16.out
            have hK := HhK.out
            have hd := Hhd.out
            have hJ := HhJ.out
            exact hK _ _ ⟨[u17, u18, u19, u20, u21, u22, u23, u24, u25, u26, (.tuple #[.agg #[.int .i64 s, .int .i64 a, .int .i64 o], .bool b]), (.tuple #[.agg #[.int .i64 s, .int .i64 a, .int .i64 o], .bool b]), u28, u29, u8, u9], rfl, by kernel_rfl, _, _, _, _, _, _, _, _, _, _, _, _, _, _, _, _, rfl, hI, f0, f1, f2, f3, f4, f5, f6, f7, f8, f9, f10, (fun _ => ⟨_, _, _, _, rfl⟩), f12, f13, f14, f16⟩
          · simp only [List.getElem?_cons_zero, List.getElem?_cons_succ, Option.some.injEq] at ho
            subst ho
            clear hi'
            have d11 : D 11 = true := hdep ⟨11, Ground.data⟩ (by simp) rfl
            clear hdep
            have hI := hJ
            obtain ⟨s, a, o, b, rfl⟩ := f11 d11
            refine wpOp_step rfl (fun K hK => ?_)
            simp only [List.zip_cons_cons, List.zip_nil_right, puts]
            have Hf0 := Lib.hid f0
            have Hf1 := Lib.hid f1
            have Hf2 := Lib.hid f2
            have Hf3 := Lib.hid f3
            have Hf4 := Lib.hid f4
            have Hf5 := Lib.hid f5
            have Hf6 := Lib.hid f6
            have Hf7 := Lib.hid f7
            have Hf8 := Lib.hid f8
            have Hf9 := Lib.hid f9
            have Hf10 := Lib.hid f10
            have Hf11 := Lib.hid f11
            have Hf12 := Lib.hid f12
            have Hf13 := Lib.hid f13
            have Hf14 := Lib.hid f14
            have Hf16 := Lib.hid f16
            have HhK := Lib.hid hK
            have Hhd := Lib.hid hd
            have HhJ := Lib.hid hJ
            clear hd hK hJ f0 f1 f2 f3 f4 f5 f6 f7 f8 f9 f10 f11 f12 f13 f14 f16
            go_simp
            have f0 := Hf0.out
            have f1 := Hf1.out
            have f2 := Hf2.out
            have f3 := Hf3.out
            have f4 := Hf4.out
            have f5 := Hf5.out
            have f6 := Hf6.out
            have f7 := Hf7.out
            have f8 := Hf8.out
            have f9 := Hf9.out
            have f10 := Hf10.out
            have f11 := Hf11.out
            have f12 := Hf12.out
            have f13 := Hf13.out
            have f14 := Hf14.out
            have f16 := Hf16.out
            have hK := HhK.out
            have hd := Hhd.out
            have hJ := HhJ.out
            exact hK _ _ ⟨[u17, u18, u19, u20, u21, u22, u23, u24, u25, u26, u27, (.tuple #[.agg #[.int .i64 s, .int .i64 a, .int .i64 o], .bool b]), (.agg #[.int .i64 s, .int .i64 a, .int .i64 o]), u29, u8, u9], rfl, by kernel_rfl, _, _, _, _, _, _, _, _, _, _, _, _, _, _, _, _, rfl, hI, f0, f1, f2, f3, f4, f5, f6, f7, f8, f9, f10, f11, (fun _ => ⟨_, _, _, rfl⟩), f13, f14, f16⟩
          · simp only [List.getElem?_cons_zero, List.getElem?_cons_succ, Option.some.injEq] at ho
            subst ho
            clear hi'
            have d11 : D 11 = true := hdep ⟨11, Ground.data⟩ (by simp) rfl
            clear hdep
            have hI := hJ
            obtain ⟨s, a, o, b, rfl⟩ := f11 d11
            refine wpOp_step rfl (fun K hK => ?_)
            simp only [List.zip_cons_cons, List.zip_nil_right, puts]
            have Hf0 := Lib.hid f0
            have Hf1 := Lib.hid f1
            have Hf2 := Lib.hid f2
            have Hf3 := Lib.hid f3
            have Hf4 := Lib.hid f4
            have Hf5 := Lib.hid f5
            have Hf6 := Lib.hid f6
            have Hf7 := Lib.hid f7
            have Hf8 := Lib.hid f8
            have Hf9 := Lib.hid f9
            have Hf10 := Lib.hid f10
            have Hf11 := Lib.hid f11
            have Hf12 := Lib.hid f12
            have Hf13 := Lib.hid f13
            have Hf14 := Lib.hid f14
            have Hf16 := Lib.hid f16
            have HhK := Lib.hid hK
            have Hhd := Lib.hid hd
            have HhJ := Lib.hid hJ
            clear hd hK hJ f0 f1 f2 f3 f4 f5 f6 f7 f8 f9 f10 f11 f12 f13 f14 f16
            go_simp
            have f0 := Hf0.out
            have f1 := Hf1.out
            have f2 := Hf2.out
            have f3 := Hf3.out
            have f4 := Hf4.out
            have f5 := Hf5.out
            have f6 := Hf6.out
            have f7 := Hf7.out
            have f8 := Hf8.out
            have f9 := Hf9.out
            have f10 := Hf10.out
            have f11 := Hf11.out
            have f12 := Hf12.out
            have f13 := Hf13.out
            have f14 := Hf14.out
            have f16 := Hf16.out
            have hK := HhK.out
            have hd := Hhd.out
            have hJ := HhJ.out
            exact hK _ _ ⟨[u17, u18, u19, u20, u21, u22, u23, u24, u25, u26, u27, (.tuple #[.agg #[.int .i64 s, .int .i64 a, .int .i64 o], .bool b]), u28, (.bool b), u8, u9], rfl, by kernel_rfl, _, _, _, _, _, _, _, _, _, _, _, _, _, _, _, _, rfl, hI, f0, f1, f2, f3, f4, f5, f6, f7, f8, f9, f10, f11, f12, (fun _ => ⟨_, rfl⟩), f14, f16⟩
          · simp only [List.getElem?_cons_zero, List.getElem?_cons_succ, Option.some.injEq] at ho
            subst ho
            clear hi'
            clear hdep
            have hI := hJ
            obtain ⟨kO, ⟨q, hp, rd⟩, h3⟩ := hI
            refine wpOp_step rfl (fun K hK => ?_)
            simp only [List.zip_cons_cons, List.zip_nil_right, puts]
            have Hf0 := Lib.hid f0
            have Hf1 := Lib.hid f1
            have Hf2 := Lib.hid f2
            have Hf3 := Lib.hid f3
            have Hf4 := Lib.hid f4
            have Hf5 := Lib.hid f5
            have Hf6 := Lib.hid f6
            have Hf7 := Lib.hid f7
            have Hf8 := Lib.hid f8
            have Hf9 := Lib.hid f9
            have Hf10 := Lib.hid f10
            have Hf11 := Lib.hid f11
            have Hf12 := Lib.hid f12
            have Hf13 := Lib.hid f13
            have Hf14 := Lib.hid f14
            have Hf16 := Lib.hid f16
            have HhK := Lib.hid hK
            have Hhd := Lib.hid hd
            have HhJ := Lib.hid hJ
            clear hd hK hJ f0 f1 f2 f3 f4 f5 f6 f7 f8 f9 f10 f11 f12 f13 f14 f16
            go_simp
            have f0 := Hf0.out
            have f1 := Hf1.out
            have f2 := Hf2.out
            have f3 := Hf3.out
            have f4 := Hf4.out
            have f5 := Hf5.out
            have f6 := Hf6.out
            have f7 := Hf7.out
            have f8 := Hf8.out
            have f9 := Hf9.out
            have f10 := Hf10.out
            have f11 := Hf11.out
            have f12 := Hf12.out
            have f13 := Hf13.out
            have f14 := Hf14.out
            have f16 := Hf16.out
            have hK := HhK.out
            have hd := Hhd.out
            have hJ := HhJ.out
            exact hK _ _ ⟨[u17, u18, u19, u20, u21, u22, u23, u24, u25, u26, u27, u16, u28, u29, (.pointer (some ⟨W.heap.size, 0, none⟩)), u9], rfl, by kernel_rfl, _, _, _, _, _, _, _, _, _, _, _, _, _, _, _, _, rfl, ⟨kO.trans (Onb.of_bel (g := g) (bel_al (bel_refl W) (.cells #[.int .i64 0, .int .i64 0, .int .i64 0] 62))), ⟨q, hp, rd.alloc _⟩, fun _ => ⟨W.heap.size, 0, 0, 0, rfl, kO.size, Blk.new W _ _⟩⟩, f0, f1, f2, f3, f4, f5, f6, f7, f8, f9, f10, f11, f12, f13, (fun _ => trivial), f16⟩
          · simp only [List.getElem?_cons_zero, List.getElem?_cons_succ, Option.some.injEq] at ho
            subst ho
            clear hi'
            have d14 : D 14 = true := hdep ⟨14, Ground.data⟩ (by simp) rfl
            have d12 : D 12 = true := hdep ⟨12, Ground.data⟩ (by simp) rfl
            clear hdep
            have hI := hJ
            obtain _ := f14 d14
            obtain ⟨s, a, o, rfl⟩ := f12 d12
            obtain ⟨kO, ⟨q, hp, rd⟩, h3⟩ := hI
            have hBg9 := rd.Bg
            obtain ⟨bb, s0, a0, o0, rfl, hlb, hb⟩ := h3 d14
            have c0 : W.cell? ⟨bb, 0, none⟩ = some (.int .i64 s0) := by rw [Blk.cell hb]; rfl
            have c1 : W.cell? ⟨bb, 1, none⟩ = some (.int .i64 a0) := by rw [Blk.cell hb]; rfl
            have c2 : W.cell? ⟨bb, 2, none⟩ = some (.int .i64 o0) := by rw [Blk.cell hb]; rfl
            have f0' := Blk.free hb 0
            have f1' := Blk.free hb 1
            have f2' := Blk.free hb 2
            have lb' := hb.lt
            refine wpOp_step rfl (fun K hK => ?_)
            simp only [List.zip_cons_cons, List.zip_nil_right, puts]
            have Hf0 := Lib.hid f0
            have Hf1 := Lib.hid f1
            have Hf2 := Lib.hid f2
            have Hf3 := Lib.hid f3
            have Hf4 := Lib.hid f4
            have Hf5 := Lib.hid f5
            have Hf6 := Lib.hid f6
            have Hf7 := Lib.hid f7
            have Hf8 := Lib.hid f8
            have Hf9 := Lib.hid f9
            have Hf10 := Lib.hid f10
            have Hf11 := Lib.hid f11
            have Hf12 := Lib.hid f12
            have Hf13 := Lib.hid f13
            have Hf14 := Lib.hid f14
            have Hf16 := Lib.hid f16
            have HhK := Lib.hid hK
            have Hhd := Lib.hid hd
            have HhJ := Lib.hid hJ
            clear hd hK hJ f0 f1 f2 f3 f4 f5 f6 f7 f8 f9 f10 f11 f12 f13 f14 f16
            go_simp
            have f0 := Hf0.out
            have f1 := Hf1.out
            have f2 := Hf2.out
            have f3 := Hf3.out
            have f4 := Hf4.out
            have f5 := Hf5.out
            have f6 := Hf6.out
            have f7 := Hf7.out
            have f8 := Hf8.out
            have f9 := Hf9.out
            have f10 := Hf10.out
            have f11 := Hf11.out
            have f12 := Hf12.out
            have f13 := Hf13.out
            have f14 := Hf14.out
            have f16 := Hf16.out
            have hK := HhK.out
            have hd := Hhd.out
            have hJ := HhJ.out
            exact hK _ _ ⟨[u17, u18, u19, u20, u21, u22, u23, u24, u25, u26, u27, u16, (.agg #[.int .i64 s, .int .i64 a, .int .i64 o]), u29, (.pointer (some ⟨bb, 0, none⟩)), u9], rfl, by kernel_rfl, _, _, _, _, _, _, _, _, _, _, _, _, _, _, _, _, rfl, ⟨((kO.set hlb _).set hlb _).set hlb _, ⟨q, hp, ((rd.set (by first | omega | (simp only; omega)) (by first | omega | (simp only; omega)) _).set (by first | omega | (simp only; omega)) (by first | omega | (simp only; omega)) _).set (by first | omega | (simp only; omega)) (by first | omega | (simp only; omega)) _⟩, fun _ => ⟨bb, s, a, o, rfl, hlb, hb.set3⟩⟩, f0, f1, f2, f3, f4, f5, f6, f7, f8, f9, f10, f11, f12, f13, f14, f16⟩
          · simp only [List.getElem?_cons_zero, List.getElem?_cons_succ, Option.some.injEq] at ho
            subst ho
            clear hi'
            have d13 : D 13 = true := hdep ⟨13, Ground.data⟩ (by simp) rfl
            clear hdep
            have hI := hJ
            obtain ⟨b, rfl⟩ := f13 d13
            refine wpOp_step rfl (fun K hK => ?_)
            simp only [List.zip_cons_cons, List.zip_nil_right, puts]
            have Hf0 := Lib.hid f0
            have Hf1 := Lib.hid f1
            have Hf2 := Lib.hid f2
            have Hf3 := Lib.hid f3
            have Hf4 := Lib.hid f4
            have Hf5 := Lib.hid f5
            have Hf6 := Lib.hid f6
            have Hf7 := Lib.hid f7
            have Hf8 := Lib.hid f8
            have Hf9 := Lib.hid f9
            have Hf10 := Lib.hid f10
            have Hf11 := Lib.hid f11
            have Hf12 := Lib.hid f12
            have Hf13 := Lib.hid f13
            have Hf14 := Lib.hid f14
            have Hf16 := Lib.hid f16
            have HhK := Lib.hid hK
            have Hhd := Lib.hid hd
            have HhJ := Lib.hid hJ
            clear hd hK hJ f0 f1 f2 f3 f4 f5 f6 f7 f8 f9 f10 f11 f12 f13 f14 f16
            go_simp
            have f0 := Hf0.out
            have f1 := Hf1.out
            have f2 := Hf2.out
            have f3 := Hf3.out
            have f4 := Hf4.out
            have f5 := Hf5.out
            have f6 := Hf6.out
            have f7 := Hf7.out
            have f8 := Hf8.out
            have f9 := Hf9.out
            have f10 := Hf10.out
            have f11 := Hf11.out
            have f12 := Hf12.out
            have f13 := Hf13.out
            have f14 := Hf14.out
            have f16 := Hf16.out
            have hK := HhK.out
            have hd := Hhd.out
            have hJ := HhJ.out
            exact hK _ _ ⟨[u17, u18, u19, u20, u21, u22, u23, u24, u25, u26, u27, u16, u28, (.bool b), u8, (.bool b)], rfl, by kernel_rfl, _, _, _, _, _, _, _, _, _, _, _, _, _, _, _, _, rfl, hI, f0, f1, f2, f3, f4, f5, f6, f7, f8, f9, f10, f11, f12, f13, f14, (fun _ => ⟨_, rfl⟩)⟩
        · rintro D us W hu hall ⟨u17, u18, u19, u20, u21, u22, u23, u24, u25, u26, u27, u16, u28, u29, u8, u9, rfl, hJ, f0, f1, f2, f3, f4, f5, f6, f7, f8, f9, f10, f11, f12, f13, f14, f16⟩
          have d0 : D 0 = true := hall 0 (by simp)
          have d1 : D 1 = true := hall 1 (by simp)
          have d2 : D 2 = true := hall 2 (by simp)
          have d3 : D 3 = true := hall 3 (by simp)
          have d4 : D 4 = true := hall 4 (by simp)
          have d5 : D 5 = true := hall 5 (by simp)
          have d6 : D 6 = true := hall 6 (by simp)
          have d7 : D 7 = true := hall 7 (by simp)
          have d8 : D 8 = true := hall 8 (by simp)
          have d9 : D 9 = true := hall 9 (by simp)
          have d10 : D 10 = true := hall 10 (by simp)
          have d11 : D 11 = true := hall 11 (by simp)
          have d12 : D 12 = true := hall 12 (by simp)
          have d13 : D 13 = true := hall 13 (by simp)
          have d14 : D 14 = true := hall 14 (by simp)
          have d15 : D 15 = true := hall 15 (by simp)
          have d16 : D 16 = true := hall 16 (by simp)
          have hI := hJ
          clear hJ
          obtain ⟨kW, ⟨q6, hq6, r6⟩, h3⟩ := hI
          obtain ⟨bb, s0, a0, o0, rfl, hlb, hb⟩ := h3 d14
          have a5 := Bool.toNat_le (D 5)
          have a8 := Bool.toNat_le (D 8)
          clear h3 f0 f1 f2 f3 f4 f5 f6 f7 f8 f9 f10 f11 f12 f13 f14 f16 d0 d1 d2 d3 d4 d5 d6 d7 d8 d9 d10 d11 d12 d13 d14 d15 d16 hall hu
          simp only [List.zip_cons_cons, List.zip_nil_right, puts]
          go_simp
          apply_assumption
          go_meet
          exact ⟨bb, s0, a0, o0, rfl, kW, hlb, hb, q6, by omega, r6⟩
      case rest =>
        obtain ⟨bb, s0, a0, o0, rfl, kW, hlb, hb, q6, hq6, r6⟩ := hcut
        have hownX := own_onb hown kW (by omega)
        have hkX := hkO.trans kW
        have bLX := bL.onb kW hcg
        have m0 : wc.cell? ⟨bb, 0, none⟩ = some (.int .i64 s0) := by rw [Blk.cell hb]; rfl
        have m1 : wc.cell? ⟨bb, 1, none⟩ = some (.int .i64 a0) := by rw [Blk.cell hb]; rfl
        have m2 : wc.cell? ⟨bb, 2, none⟩ = some (.int .i64 o0) := by rw [Blk.cell hb]; rfl
        have hs8 := hkX.size
        have hwc : w.heap.size < wc.heap.size := bLX.lt
        have hal : acc.length ≤ 4 := by omega
        have HACC := Lib.hid hacc
        clear hown bL rk kW hacc
        go_wp2_with (at_builtin; go_must (refine wpList_append_lies _ rfl _ _ 37 rfl (w.heap.size + 1) 62 i0 _ 3 24 Try.underlying37 hi0 hz0 hz1 hz2 rfl (by omega) _ acc.length (flat csPi acc) rfl (hownX.alloc _) ⟨wc.heap.size, 0, none⟩ 1 1 [.int .i64 s0, .int .i64 a0, .int .i64 o0] rfl rfl (World.news_of_block (cs := #[.int .i64 s0, .int .i64 a0, .int .i64 o0]) (t := 62) (fr := (0, 0)) (heap_alloc_new wc _)) (by simp [Value.oneCell']) (by omega) (by unfold maxLen; omega) (by omega) (by simp; omega) _ rfl ?_; intro gg9 cp9 w9 hown9 hgrow9 hat9 hlt9))
        have hkA := (hkX.alloc (.cells #[.int .i64 s0, .int .i64 a0, .int .i64 o0] 62)).grown hgrow9 (fun k hk => by have := own_ge hownX k hk; omega)
        have hrA := (r6.alloc (.cells #[.int .i64 s0, .int .i64 a0, .int .i64 o0] 62)).grown hgrow9 (fun k hk => by have := own_ge hownX k hk; omega)
        have bLA := (bLX.alloc (.cells #[.int .i64 s0, .int .i64 a0, .int .i64 o0] 62)).grown hgrow9 (fun e => by have := own_ge hownX _ e; omega)
        have hqq := own_push (t := (⟨s0, a0, o0⟩ : Pi)) hown9 rfl
        have HAL := Lib.hid (show (acc ++ [(⟨s0, a0, o0⟩ : Pi)]).length = k + 1 from by rw [List.length_append, List.length_singleton, HACC.out])
        go_wp2
        go_roundw
        case rel => exact ⟨k + 1, acc ++ [⟨s0, a0, o0⟩], _, by omega, HAL.out, by go_num, hqq, hkA, bLA, by omega, hrA⟩
        case measure => simp [intOf]; omega
    · obtain rfl : k = 4 := by omega
      rw [show ((4 : Nat) : Int) = 4 from rfl]
      obtain ⟨A9, c9, rfl, lc9, cm9, op9⟩ := own_open csPi_len dPi hown
      obtain ⟨g9, rfl, hg9, hl9, _, _⟩ := op9 (by omega)
      rw [hacc] at hown lc9
      rw [hacc]
      unfold maxLen at cm9
      clear bL op9
      go_wp2_with fail
      refine (odd_any _ _ _ _ _ _ _ _ rk (by omega)).mono ?_
      rintro e wf ⟨bq, rfl, _, of, pf, hpf, rf⟩
      have ownF := own_onl hown of (by omega)
      have kF := hkO.trans (Onb.of_onl of)
      clear hown hkO rk of
      have FIN : ∀ (W : World) (l : List Pi), l.length = 4 → W.ownsRow (w.heap.size + 1) 62 3 (.slice (some ⟨g9, 0, none⟩) 4 c9) 4 (flat csPi l) → StP W w.heap.size (some ⟨g9, 0, none⟩) l := fun W l hl ho => by
        rw [← hl] at ho
        obtain ⟨A, c, e, _, _, hS⟩ := StP.of ho
        cases e
        exact hS.lo (by omega)
      cases bq
      · go_wp2
        exact bodyPost_ret (v := .slice (some ⟨g9, 0, none⟩) 4 c9) (by simp [results, Try.results45, go_sem]) rfl ⟨some ⟨g9, 0, none⟩, c9, acc, by rw [hacc], by omega, by unfold maxLen; omega, by omega, FIN _ _ hacc ownF, kF, pf, by omega, rf⟩
      · go_wp2_with fail
        refine (pick_fr _ _ _ _ _ _ _ _ rf (by omega)).mono ?_
        rintro e wg ⟨x, rfl, ⟨x0, x1, _⟩, og, rg⟩
        have x1 := x1 (by omega)
        have ownG := own_onl ownF og (by omega)
        have kG := kF.trans (Onb.of_onl og)
        clear ownF kF rf og
        rcases (show x = 0 ∨ x = 1 ∨ x = 2 from by omega) with rfl | rfl | rfl
        · have hS := FIN _ _ hacc ownG
          have HD := Lib.hid (hS.drop1 (by omega))
          have HL3 := Lib.hid (show (acc.drop 1).length = 3 from by rw [List.length_drop]; omega)
          have q1 : ¬ (1 : Int) = (c9 : Int) := by omega
          have q2 : ¬ 1 = c9 := by omega
          have q3 : (1 : Int) ≤ (c9 : Int) := by omega
          clear hS FIN
          go_wp2
          exact bodyPost_ret (v := .slice (some ⟨g9, 3, none⟩) 3 (c9 - 1)) (by simp [results, Try.results45, go_sem]) rfl ⟨some ⟨g9, 3, none⟩, c9 - 1, acc.drop 1, by rw [HL3.out], by rw [HL3.out]; omega, by unfold maxLen; omega, by rw [HL3.out]; omega, HD.out, kG, pf + 1, by omega, rg⟩
        · go_wp2_with fail
          refine (pick_fr _ _ _ _ _ _ _ _ rg (by omega)).mono ?_
          rintro e wh ⟨y, rfl, ⟨y0, y1, _⟩, oh, rh⟩
          have y1 := y1 (by omega)
          replace ownG := own_onl ownG oh (by omega)
          replace kG := kG.trans (Onb.of_onl oh)
          clear rg oh
          go_wp2_with fail
          refine (pitch_any _ _ _ _ _ _ _ _ rh (by omega)).mono ?_
          rintro e wi ⟨s7, a7, o7, rfl, oi, pi, hpi, ri⟩
          replace ownG := own_onb ownG oi (by omega)
          replace kG := kG.trans oi
          clear rh oi
          obtain ⟨j, rfl⟩ := Int.eq_ofNat_of_zero_le y0
          have hj : j < 4 := by omega
          rw [← hacc] at ownG
          obtain ⟨A8, c8, e8, _, _, hop⟩ := own_open csPi_len dPi ownG
          cases e8
          obtain ⟨g8, e8, _, hg8l, hg8f, hg8c⟩ := hop (by omega)
          cases e8
          have d0 := hg8c j 0 (by omega) (by decide)
          have d1 := hg8c j 1 (by omega) (by decide)
          have d2 := hg8c j 2 (by omega) (by decide)
          have f0 := hg8f (j * 3 + 0)
          have f1 := hg8f (j * 3 + 1)
          have f2 := hg8f (j * 3 + 2)
          simp only [csPi, List.getElem?_cons_zero, List.getElem?_cons_succ, Nat.add_zero] at d0 d1 d2 f0
          have oN := own_set3s ownG j (by omega) (⟨s7, a7, o7⟩ : Pi)
          have hl4 : (acc.set j ⟨s7, a7, o7⟩).length = 4 := by rw [List.length_set, hacc]
          rw [hl4, hacc] at oN
          have HON := Lib.hid (FIN _ _ hl4 oN)
          have HKN := Lib.hid (((kG.set (p := ⟨g9, j * 3, none⟩) (by simp only; omega) (.int .i64 s7)).set (p := ⟨g9, j * 3 + 1, none⟩) (by simp only; omega) (.int .i64 a7)).set (p := ⟨g9, j * 3 + 2, none⟩) (by simp only; omega) (.int .i64 o7))
          have hBi := ri.Bg
          have HRN := Lib.hid (((ri.set (q := ⟨g9, j * 3, none⟩) (by simp only; omega) (by simp only; omega) (.int .i64 s7)).set (q := ⟨g9, j * 3 + 1, none⟩) (by simp only; omega) (by simp only; omega) (.int .i64 a7)).set (q := ⟨g9, j * 3 + 2, none⟩) (by simp only; omega) (by simp only; omega) (.int .i64 o7))
          have HL4 := Lib.hid hl4
          clear oN kG ri hg8c hg8f hop hl4 ownG hacc FIN
          have hjm : (j : Int) < 4 := by omega
          have hj0 : (0 : Int) ≤ (j : Int) := by omega
          go_wp2
          exact bodyPost_ret (v := .slice (some ⟨g9, 0, none⟩) 4 c9) (by simp [results, Try.results45, go_sem]) rfl ⟨some ⟨g9, 0, none⟩, c9, _, by rw [HL4.out], by rw [HL4.out]; omega, by unfold maxLen; omega, by rw [HL4.out]; omega, HON.out, HKN.out, pi, by omega, HRN.out⟩
        · rw [← hacc] at ownG
          obtain ⟨A8, c8, e8, _, _, hop⟩ := own_open csPi_len dPi ownG
          cases e8
          obtain ⟨g8, e8, _, hg8l, hg8f, hg8c⟩ := hop (by omega)
          cases e8
          have d2 := hg8c 0 2 (by omega) (by decide)
          have f2 := hg8f 2
          simp only [csPi, List.getElem?_cons_zero, List.getElem?_cons_succ, Nat.zero_mul, Nat.zero_add] at d2 f2
          have oN := own_storedS ownG rfl 0 2 (by omega) (by decide) ⟨(acc.getD 0 dPi).step, (acc.getD 0 dPi).alter, 1⟩ (.int .i64 1) rfl
          simp only [Nat.zero_mul, Nat.zero_add] at oN
          have hl4 : (acc.set 0 ⟨(acc.getD 0 dPi).step, (acc.getD 0 dPi).alter, 1⟩).length = 4 := by rw [List.length_set, hacc]
          have oN2 : (wg.setCell ⟨g9, 2, none⟩ (.int .i64 1)).ownsRow (w.heap.size + 1) 62 3 (.slice (some ⟨g9, 0, none⟩) 4 c9) 4 (flat csPi (acc.set 0 ⟨(acc.getD 0 dPi).step, (acc.getD 0 dPi).alter, 1⟩)) := by rw [← hacc]; exact oN
          have HON := Lib.hid (FIN _ _ hl4 oN2)
          have HKN := Lib.hid (kG.set (p := ⟨g9, 2, none⟩) (by simp only; omega) (.int .i64 1))
          have hBi := rg.Bg
          have HRN := Lib.hid (rg.set (q := ⟨g9, 2, none⟩) (by simp only; omega) (by simp only; omega) (.int .i64 1))
          have HL4 := Lib.hid hl4
          clear oN oN2 kG rg hg8c hg8f hop hl4 ownG hacc FIN
          go_wp2
          exact bodyPost_ret (v := .slice (some ⟨g9, 0, none⟩) 4 c9) (by simp [results, Try.results45, go_sem]) rfl ⟨some ⟨g9, 0, none⟩, c9, _, by rw [HL4.out], by rw [HL4.out]; omega, by unfold maxLen; omega, by rw [HL4.out]; omega, HON.out, HKN.out, pf + 1, by omega, HRN.out⟩
end Go.Proofs.Ytpjakgnghpapmaa
