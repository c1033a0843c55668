/- A key, a bass pitch and a figure, drawn. -/
import Derived.Test.YtacbkmahofmbcaaCtu
import Derived.Test.YtacbkmahofmbcaaDrP
import Derived.Deep.RegionWith
namespace Go.Proofs.Ytacbkmahofmbcaa
set_option linter.unusedSimpArgs false
set_option linter.unusedVariables false
open Go.RowKit

theorem lit_fig {v : Int} (v0 : 0 ≤ v) (v1 : v < 6) : ∃ t : Int, ∀ h, (#[Value.int .i64 5, Value.int .i64 6, Value.int .i64 4, Value.int .i64 7, Value.int .i64 5, Value.int .i64 3] : Array Value)[v.toNat]'h = .int .i64 t := by
  rcases (show v = 0 ∨ v = 1 ∨ v = 2 ∨ v = 3 ∨ v = 4 ∨ v = 5 from by omega) with rfl | rfl | rfl | rfl | rfl | rfl <;> exact ⟨_, fun _ => rfl⟩
def DrN1 (w : World) (g B p : Nat) (A : Option Addr) (len cap : Nat) (e : Ending) (w' : World) : Prop :=
  ∃ f : Int, e = .returned (.int .i64 f) ∧ Onb g w w' ∧ ∃ p', p' ≤ p + 4 ∧ Rd w' g B A len cap p'
def DrB (w : World) (g B p : Nat) (A : Option Addr) (len cap : Nat) (e : Ending) (w' : World) : Prop :=
  ∃ s a o : Int, e = .returned (.agg #[.int .i64 s, .int .i64 a, .int .i64 o]) ∧ Onb g w w' ∧ ∃ p', p' ≤ p + 2 ∧ Rd w' g B A len cap p'
set_option maxHeartbeats 4000000 in
theorem fifths_any (w : World) (g B p : Nat) (A : Option Addr) (len cap : Nat) (m : Int) (h : Rd w g B A len cap p) (hp : p < 1000000) :
    Calls Try.prog 22 #[.pointer (some ⟨g, 0, none⟩), .int .i64 m] w (DrN1 w g B p A len cap) := by
  have hg := h.gl
  have r0 := h
  have k0 := Onb.refl g w
  go_enter Try.func22, Try.ntmps22
  go_wp2_with fail
  refine (odd_any _ _ _ _ _ _ _ _ r0 (by omega)).mono ?_
  rintro e w1 ⟨b, rfl, _, o1, p1, hp1, r1⟩
  have k1 := (k0).trans (Onb.of_onl o1)
  have hg1 := r1.gl
  clear r0 k0 o1
  cases b
  · go_wp2_with fail
    refine (pick_fr _ _ _ _ _ _ _ _ r1 (by omega)).mono ?_
    rintro e w2 ⟨x, rfl, ⟨x0, x1, _⟩, o2, r2⟩
    have k2 := (k1).trans (Onb.of_onl o2)
    have hg2 := r2.gl
    have x1 := x1 (by omega)
    clear r1 k1 o2
    go_wp2_with fail
    refine (pick_fr _ _ _ _ _ _ _ _ r2 (by omega)).mono ?_
    rintro e w3 ⟨y, rfl, ⟨y0, y1, _⟩, o3, r3⟩
    have k3 := (k2).trans (Onb.of_onl o3)
    have hg3 := r3.gl
    have y1 := y1 (by omega)
    clear r2 k2 o3
    go_wp2_with fail
    refine (pick_fr _ _ _ _ _ _ _ _ (r3.alloc _) (by omega)).mono ?_
    rintro e w4 ⟨z, rfl, ⟨z0, z1, _⟩, o4, r4⟩
    have k4 := ((k3.alloc _)).trans (Onb.of_onl o4)
    have hg4 := r4.gl
    have z1 := z1 (by omega)
    obtain ⟨uz, _, huz⟩ := lit_at (w := w4) (b := w3.heap.size) (xs := [x - 7, 0, y - 2]) ((o4.block _ (by omega)).trans (heap_alloc_new w3 _)) z0 z1
    clear r3 k3 o4
    go_wp2
    exact bodyPost_ret (v := .int .i64 uz) (by simp [results, Try.results22, go_sem]) rfl ⟨_, rfl, k4, _, by omega, r4⟩
  · go_wp2_with fail
    refine (pick_fr _ _ _ _ _ _ _ _ (r1.alloc _) (by omega)).mono ?_
    rintro e w2 ⟨v, rfl, ⟨v0, v1, _⟩, o2, r2⟩
    have k2 := ((k1.alloc _)).trans (Onb.of_onl o2)
    have hg2 := r2.gl
    have v1 := v1 (by omega)
    obtain ⟨uv, _, huv⟩ := lit_at (w := w2) (b := w1.heap.size) (xs := [-8, 8]) ((o2.block _ (by omega)).trans (heap_alloc_new w1 _)) v0 v1
    clear r1 k1 o2
    go_wp2
    exact bodyPost_ret (v := .int .i64 uv) (by simp [results, Try.results22, go_sem]) rfl ⟨_, rfl, k2, _, by omega, r2⟩
def DrFg (w : World) (e : Ending) (w' : World) : Prop := ∃ f s a o g : Int, e = .returned (.tuple #[.int .i64 f, .agg #[.int .i64 s, .int .i64 a, .int .i64 o], .int .i64 g]) ∧ Below w.heap.size w w'
end Go.Proofs.Ytacbkmahofmbcaa
