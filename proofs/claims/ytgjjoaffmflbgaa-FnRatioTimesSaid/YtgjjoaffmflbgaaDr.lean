/- The generators of ratios: each returns, with some numbers in bounds, and turns nothing that was there. -/
import Derived.Test.YtgjjoaffmflbgaaRd
import Derived.Test.YtgjjoaffmflbgaaAny
import Derived.Deep.DeepCutAuto
namespace Go.Proofs.Ytgjjoaffmflbgaa
set_option linter.unusedSimpArgs false
set_option linter.unusedVariables false
open Go.RowKit

/-- of what was there only block g has turned -/
structure Onb (g : Nat) (w w' : World) : Prop where
  os : w'.os = w.os
  tape : w'.tape = w.tape
  output : w'.output = w.output
  size : w.heap.size ≤ w'.heap.size
  block : ∀ k, k < w.heap.size → k ≠ g → w'.heap[k]? = w.heap[k]?
theorem Onb.refl (g : Nat) (w : World) : Onb g w w := ⟨rfl, rfl, rfl, Nat.le_refl _, fun _ _ _ => rfl⟩
theorem Onb.trans {g : Nat} {a b c : World} (h : Onb g a b) (k : Onb g b c) : Onb g a c := ⟨k.os.trans h.os, k.tape.trans h.tape, k.output.trans h.output, Nat.le_trans h.size k.size, fun i hi hn => (k.block i (Nat.lt_of_lt_of_le hi h.size) hn).trans (h.block i hi hn)⟩
theorem Onb.of_onl {g : Nat} {w w' : World} (h : Onl g w w') : Onb g w w' := ⟨h.os, h.tape, h.output, by rw [h.size]; exact Nat.le_refl _, fun i _ hn => h.block i hn⟩
theorem Onb.of_bel {g : Nat} {w w' : World} (h : Below w.heap.size w w') : Onb g w w' := ⟨h.os, h.tape, h.output, h.size, fun i hi _ => h.block i hi⟩
theorem Onb.cell {g : Nat} {w w' : World} (h : Onb g w w') (b o : Nat) (hb : b < w.heap.size) (hn : b ≠ g) : w'.cell? ⟨b, o, none⟩ = w.cell? ⟨b, o, none⟩ := World.cell?_of_block (w := w) (h.block b hb hn)
theorem Onb.frozen {g : Nat} {w w' : World} (h : Onb g w w') (b o : Nat) (hb : b < w.heap.size) (hn : b ≠ g) : w'.frozen? ⟨b, o, none⟩ = w.frozen? ⟨b, o, none⟩ := World.frozen?_of_block (w := w) (h.block b hb hn)
theorem Onb.below {g : Nat} {B : Nat} {w w' : World} (h : Onb g w w') (hB : B ≤ g) (hB' : B ≤ w.heap.size) : Below B w w' := ⟨h.os, h.tape, h.output, h.size, fun k hk => h.block k (by omega) (by omega)⟩
theorem Onb.set {g : Nat} {w w' : World} (h : Onb g w w') {p : Addr} (hp : w.heap.size ≤ p.block) (u : Value) : Onb g w (w'.setCell p u) :=
  ⟨h.os, h.tape, h.output, by simpa [World.setCell] using h.size, fun i hi hn => (Below.heap_setCell w' p u i (by omega)).trans (h.block i hi hn)⟩

theorem piND (x : Int) : -2000001 ≤ piN x ∧ piN x ≤ 2000001 ∧ -2000001 ≤ piD x ∧ piD x ≤ 2000001 := by
  by_cases h : -24 ≤ x ∧ x ≤ 24
  · have k : ∀ u : Fin 25, -2000001 ≤ puN u.1 ∧ puN u.1 ≤ 2000001 ∧ -2000001 ≤ puD u.1 ∧ puD u.1 ≤ 2000001 := by decide +kernel
    unfold piN piD
    rw [if_pos h, if_pos h]
    by_cases h0 : 0 ≤ x
    · rw [if_pos h0, if_pos h0]; exact k ⟨x.toNat, by omega⟩
    · rw [if_neg h0, if_neg h0]
      obtain ⟨a, b, c, d⟩ := k ⟨(-x).toNat, by omega⟩
      exact ⟨c, d, a, b⟩
  · unfold piN piD
    rw [if_neg h, if_neg h]; omega
theorem fiND (x : Int) : -2000001 ≤ fiN x ∧ fiN x ≤ 2000001 ∧ -2000001 ≤ fiD x ∧ fiD x ≤ 2000001 := by
  by_cases h : -12 ≤ x ∧ x ≤ 12
  · have k : ∀ u : Fin 13, -2000001 ≤ p3 u.1 ∧ p3 u.1 ≤ 2000001 ∧ -2000001 ≤ p2 (u.1 + fJ u.1) ∧ p2 (u.1 + fJ u.1) ≤ 2000001 ∧ -2000001 ≤ p2 (u.1 + fK u.1) ∧ p2 (u.1 + fK u.1) ≤ 2000001 := by decide +kernel
    unfold fiN fiD
    rw [if_pos h, if_pos h]
    by_cases h0 : 0 ≤ x
    · rw [if_pos h0, if_pos h0]
      obtain ⟨a, b, c, d, _⟩ := k ⟨x.toNat, by omega⟩
      exact ⟨a, b, c, d⟩
    · rw [if_neg h0, if_neg h0]
      obtain ⟨a, b, _, _, c, d⟩ := k ⟨(-x).toNat, by omega⟩
      exact ⟨c, d, a, b⟩
  · unfold fiN fiD
    rw [if_neg h, if_neg h]; omega

def Drawn (w : World) (g B p : Nat) (A : Option Addr) (len cap : Nat) (e : Ending) (w' : World) : Prop :=
  ∃ n d : Int, e = .returned (.agg #[.int .i64 n, .int .i64 d]) ∧ (-2000001 ≤ n ∧ n ≤ 2000001 ∧ -2000001 ≤ d ∧ d ≤ 2000001) ∧ Onb g w w' ∧ ∃ p', p' ≤ p + 5 ∧ Rd w' g B A len cap p'
set_option maxHeartbeats 2000000 in
theorem ratio_any (w : World) (g B p : Nat) (A : Option Addr) (len cap : Nat) (m : Int) (h : Rd w g B A len cap p) (hp : p < 1000) :
    Calls Try.prog 43 #[.pointer (some ⟨g, 0, none⟩), .int .i64 m] w (Drawn w g B p A len cap) := by
  have hg := h.gl
  go_enter Try.func43, Try.ntmps43
  go_wp2_with fail
  refine (pick_fr _ _ _ _ _ _ _ _ (h.alloc _) (by omega)).mono ?_
  rintro e w1 ⟨v, rfl, ⟨v0, v1, _⟩, o1, r1⟩
  have v1 := v1 (by omega)
  have s1 := o1.size
  simp at s1
  have c1 := fun o => o1.cell w.heap.size o (by omega)
  have f1 := fun o => o1.frozen w.heap.size o (by omega)
  have k1 : Onb g w w1 := (Onb.of_bel (bel_al (bel_refl w) _)).trans (Onb.of_onl o1)
  clear o1
  go_wp2_with fail
  refine (spr_any _ _).mono ?_
  rintro e w2 ⟨rfl, b2⟩
  have r2 := r1.below b2
  have s2 := b2.size
  have c2 := fun o => b2.cell (p := ⟨w.heap.size, o, none⟩) (by simp only; omega)
  have f2 := fun o => b2.frozen (p := ⟨w.heap.size, o, none⟩) (by simp only; omega)
  have k2 := k1.trans (Onb.of_bel (g := g) b2)
  have nd := piND (v - 24)
  generalize piN (v - 24) = n0 at nd
  generalize piD (v - 24) = d0 at nd
  clear k1 r1 b2
  go_wp2_with fail
  refine (pick_fr _ _ _ _ _ _ _ _ (r2.alloc _) (by omega)).mono ?_
  rintro e w3 ⟨u, rfl, ⟨u0, u1, _⟩, o3, r3⟩
  have s3 := o3.size
  simp at s3
  have hgw := o3
  have ne1 : w2.heap.size ≠ g := by omega
  have ne2 : w.heap.size ≠ g := by omega
  have x0 : w3.cell? ⟨w2.heap.size, 0, none⟩ = some (.int .i64 n0) := by rw [o3.cell _ _ ne1]; simp
  have x1 : w3.cell? ⟨w2.heap.size, 1, none⟩ = some (.int .i64 d0) := by rw [o3.cell _ _ ne1]; simp
  have y0 : w3.frozen? ⟨w2.heap.size, 0, none⟩ = false := by rw [o3.frozen _ _ ne1]; simp
  have y1 : w3.frozen? ⟨w2.heap.size, 1, none⟩ = false := by rw [o3.frozen _ _ ne1]; simp
  have q0 : w3.cell? ⟨w.heap.size, 0, none⟩ = some (.int .i64 0) := by rw [o3.cell _ _ ne2, World.cell?_alloc_lt _ _ _ (by simp only; omega), c2, c1]; simp
  have q1 : w3.cell? ⟨w.heap.size, 1, none⟩ = some (.int .i64 0) := by rw [o3.cell _ _ ne2, World.cell?_alloc_lt _ _ _ (by simp only; omega), c2, c1]; simp
  have z0 : w3.frozen? ⟨w.heap.size, 0, none⟩ = false := by rw [o3.frozen _ _ ne2]; exact fz_al (by rw [f2, f1]; simp) (by simp only; omega) _
  have z1 : w3.frozen? ⟨w.heap.size, 1, none⟩ = false := by rw [o3.frozen _ _ ne2]; exact fz_al (by rw [f2, f1]; simp) (by simp only; omega) _
  have k3 := (k2.trans (Onb.of_bel (g := g) (bel_al (bel_refl w2) (.cells #[.int .i64 n0, .int .i64 d0] 39)))).trans (Onb.of_onl o3)
  have XG : Hid (w2.heap.size = w3.heap.size - 1) := by show _ = _; omega
  have hX : w.heap.size < w2.heap.size := by omega
  have hX2 : w2.heap.size < w3.heap.size := by omega
  clear c1 f1 c2 f2 o3 r2 k2
  generalize w2.heap.size = X at *
  go_upto_if 16 with fail
  go_cut [] (fun wx => ∃ n d : Int, (-2000001 ≤ n ∧ n ≤ 2000001 ∧ -2000001 ≤ d ∧ d ≤ 2000001) ∧ wx.cell? ⟨X, 0, none⟩ = some (.int .i64 n) ∧ wx.cell? ⟨X, 1, none⟩ = some (.int .i64 d) ∧ wx.cell? ⟨w.heap.size, 0, none⟩ = some (.int .i64 0) ∧ wx.cell? ⟨w.heap.size, 1, none⟩ = some (.int .i64 0) ∧ wx.frozen? ⟨w.heap.size, 0, none⟩ = false ∧ wx.frozen? ⟨w.heap.size, 1, none⟩ = false ∧ Onb g w wx ∧ X < wx.heap.size ∧ ∃ p', p' ≤ p + 3 ∧ Rd wx g B A len cap p')
  case first =>
    by_cases hu : u = 0
    · subst hu
      go_wp2_with fail
      refine (pick_fr _ _ _ _ _ _ _ _ r3 (by omega)).mono ?_
      rintro e w4 ⟨t, rfl, ⟨t0, t1, _⟩, o4, r4⟩
      have t1 := t1 (by omega)
      have s4 := o4.size
      go_wp2_with fail
      refine (sfi_any _ _).mono ?_
      rintro e w5 ⟨rfl, b5⟩
      have s5 := b5.size
      have e5 : ∀ b o, b < w3.heap.size → b ≠ g → w5.cell? ⟨b, o, none⟩ = w3.cell? ⟨b, o, none⟩ := fun b o h1 h2 => (b5.cell (p := ⟨b, o, none⟩) (by simp only; omega)).trans (o4.cell b o h2)
      have h5 : ∀ b o, b < w3.heap.size → b ≠ g → w5.frozen? ⟨b, o, none⟩ = w3.frozen? ⟨b, o, none⟩ := fun b o h1 h2 => (b5.frozen (p := ⟨b, o, none⟩) (by simp only; omega)).trans (o4.frozen b o h2)
      have x0' := (e5 X 0 hX2 ne1).trans x0
      have x1' := (e5 X 1 hX2 ne1).trans x1
      have y0' := (h5 X 0 hX2 ne1).trans y0
      have y1' := (h5 X 1 hX2 ne1).trans y1
      have q0' := (e5 _ 0 (by omega) ne2).trans q0
      have q1' := (e5 _ 1 (by omega) ne2).trans q1
      have z0' := (h5 _ 0 (by omega) ne2).trans z0
      have z1' := (h5 _ 1 (by omega) ne2).trans z1
      have nd5 := fiND (t - 12)
      have r5 := r4.below b5
      have k5 := (k3.trans (Onb.of_onl o4)).trans (Onb.of_bel (g := g) b5)
      have hBg := r5.Bg
      generalize fiN (t - 12) = n1 at nd5
      generalize fiD (t - 12) = d1 at nd5
      clear e5 h5 x0 x1 y0 y1 q0 q1 z0 z1 r4 k3 o4 b5
      go_wp2_with fail
      go_meet
      have hne : w.heap.size ≠ X := by omega
      have nn : ∀ a b : Nat, (⟨w.heap.size, a, none⟩ : Addr).block ≠ (⟨X, b, none⟩ : Addr).block := fun _ _ => hne
      refine ⟨n1, d1, nd5, keep_off (set_same (by rw [x0']; rfl)) (by simp), set_same (some_set (by rw [x1']; rfl) (by simp)), keep_set (keep_set q0' (nn _ _)) (nn _ _), keep_set (keep_set q1' (nn _ _)) (nn _ _), fz_set (fz_set z0'), fz_set (fz_set z1'), (k5.set (by simp only; omega) _).set (by simp only; omega) _, by simp [World.setCell]; omega, _, by omega, (r5.set (by simp only; omega) ne1 _).set (by simp only; omega) ne1 _⟩
    · have hu1 : (u == 0) = false := by simpa using hu
      clear hu
      go_wp2_with fail
      go_meet
      exact ⟨n0, d0, nd, x0, x1, q0, q1, z0, z1, k3, hX2, _, by omega, r3⟩
  case rest =>
    obtain ⟨n, d, nd, x0, x1, q0, q1, z0, z1, k3, hX2, p', hp', r3⟩ := hcut
    go_wp2_with fail
    refine (odd_any _ _ _ _ _ _ _ _ r3 (by omega)).mono ?_
    rintro e w4 ⟨b, rfl, _, o4, p4, hp4, r4⟩
    have s4 : wc.heap.size ≤ w4.heap.size := Nat.le_of_eq o4.size.symm
    rw [← o4.cell _ _ ne1] at x0 x1
    rw [← o4.cell _ _ ne2] at q0 q1
    rw [← o4.frozen _ _ ne2] at z0 z1
    have k4 := k3.trans (Onb.of_onl o4)
    have hBg := r4.Bg
    clear k3 o4 r3
    cases b
    · go_wp2
      exact bodyPost_ret (v := .agg #[.int .i64 n, .int .i64 d]) (by simp [results, Try.results43, go_sem, x0, x1, q0, q1, z0, z1]) rfl ⟨n, d, rfl, nd, (k4.set (by simp only; omega) _).set (by simp only; omega) _, p4, by omega, (r4.set (by simp only; omega) ne2 _).set (by simp only; omega) ne2 _⟩
    · have r4' := r4.alloc (.cells #[.int .i64 0, .int .i64 0, .int .i64 2, .int .i64 4, .int .i64 2000001, .int .i64 1, .int .i64 (-1), .int .i64 (-1)] 39)
      go_wp2_with fail
      refine (pick_fr _ _ _ _ _ _ _ _ r4' (by omega)).mono ?_
      rintro e w5 ⟨t, rfl, ⟨t0, t1, _⟩, o5, r5⟩
      have t1 := t1 (by omega)
      have s5 : w4.heap.size + 1 ≤ w5.heap.size := by have := o5.size; simp at this; omega
      have ne3 : w4.heap.size ≠ g := by omega
      have q0' := (o5.cell _ 0 ne2).trans (keep_al q0 _)
      have q1' := (o5.cell _ 1 ne2).trans (keep_al q1 _)
      have z0' := (o5.frozen _ 0 ne2).trans (fz_al z0 (by simp only; omega) _)
      have z1' := (o5.frozen _ 1 ne2).trans (fz_al z1 (by simp only; omega) _)
      have k5 := (k4.trans (Onb.of_bel (g := g) (bel_al (bel_refl w4) _))).trans (Onb.of_onl o5)
      have cs := fun o => o5.cell w4.heap.size o ne3
      simp only [World.cell?_alloc_new] at cs
      have hBg := r5.Bg
      clear r4 r4' k4 o5 q0 q1 z0 z1
      have ht : t = 0 ∨ t = 1 ∨ t = 2 ∨ t = 3 := by omega
      clear t0 t1
      rcases ht with rfl | rfl | rfl | rfl
      · have e0 := cs 0
        have e1 := cs 1
        simp at e0 e1
        clear cs
        go_wp2
        exact bodyPost_ret (v := .agg #[.int .i64 0, .int .i64 0]) (by simp [results, Try.results43, go_sem, q0', q1', z0', z1']) rfl ⟨0, 0, rfl, by omega, (k5.set (by simp only; omega) _).set (by simp only; omega) _, _, by omega, (r5.set (by simp only; omega) ne2 _).set (by simp only; omega) ne2 _⟩
      · have e0 := cs 2
        have e1 := cs 3
        simp at e0 e1
        clear cs
        go_wp2
        exact bodyPost_ret (v := .agg #[.int .i64 2, .int .i64 4]) (by simp [results, Try.results43, go_sem, q0', q1', z0', z1']) rfl ⟨2, 4, rfl, by omega, (k5.set (by simp only; omega) _).set (by simp only; omega) _, _, by omega, (r5.set (by simp only; omega) ne2 _).set (by simp only; omega) ne2 _⟩
      · have e0 := cs 4
        have e1 := cs 5
        simp at e0 e1
        clear cs
        go_wp2
        exact bodyPost_ret (v := .agg #[.int .i64 2000001, .int .i64 1]) (by simp [results, Try.results43, go_sem, q0', q1', z0', z1']) rfl ⟨2000001, 1, rfl, by omega, (k5.set (by simp only; omega) _).set (by simp only; omega) _, _, by omega, (r5.set (by simp only; omega) ne2 _).set (by simp only; omega) ne2 _⟩
      · have e0 := cs 6
        have e1 := cs 7
        simp at e0 e1
        clear cs
        go_wp2
        exact bodyPost_ret (v := .agg #[.int .i64 (-1), .int .i64 (-1)]) (by simp [results, Try.results43, go_sem, q0', q1', z0', z1']) rfl ⟨-1, -1, rfl, by omega, (k5.set (by simp only; omega) _).set (by simp only; omega) _, _, by omega, (r5.set (by simp only; omega) ne2 _).set (by simp only; omega) ne2 _⟩
end Go.Proofs.Ytgjjoaffmflbgaa
