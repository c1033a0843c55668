/- The walk of the law FnExactFigureTones: for every input it returns true and turns nothing that was there. -/
import Derived.Test.YtgjjoaffmflbgaaSFg
import Derived.Test.YtgjjoaffmflbgaaMkPi
import Derived.Test.YtgjjoaffmflbgaaTrn
namespace Go.Proofs.Ytgjjoaffmflbgaa
set_option linter.unusedSimpArgs false
set_option linter.unusedVariables false
open Go.RowKit
theorem Blk.trn {w w' : World} {P n : Nat} {A : Option Addr} {cs : Array Value} {T : TypeId} (h : Blk w P cs T) (t : Trn A n w w') (hne : ∀ a : Addr, 0 < n → A = some a → a.block ≠ P) : Blk w' P cs T :=
  (t.block P h.lt fun hn a ha => hne a hn ha).trans h
set_option maxHeartbeats 1000000 in
theorem toPB_any (s a o : Int) (w : World) :
    Calls Try.prog 8 #[.agg #[.int .i64 s, .int .i64 a, .int .i64 o]] w fun e w' => e = .returned (.agg #[.int .i64 s, .int .i64 a, .int .i64 o]) ∧ Below w.heap.size w w' := by
  go_enter Try.func8, Try.ntmps8
  go_wp2
  exact bodyPost_ret (v := .agg #[.int .i64 s, .int .i64 a, .int .i64 o]) (by simp [results, Try.results8, go_sem]) rfl ⟨rfl, by repeat (first | (with_reducible assumption) | (exact bel_undr (by with_reducible assumption)) | (with_reducible exact bel_refl _) | (with_reducible refine bel_dr ?_) | (with_reducible refine bel_drN ?_ _) | (with_reducible refine bel_al ?_ _) | (refine bel_set ?_ (by first | (simp; done) | (simp; exact Below.size (by assumption)) | (simp; omega)) _) | (with_reducible refine bel_tr ?_ (by assumption)))⟩
end Go.Proofs.Ytgjjoaffmflbgaa
namespace Go.Proofs.Ytgjjoaffmflbgaa.FnExactFigureTones
open Go.RowKit

set_option maxRecDepth 20000 in
set_option maxHeartbeats 4000000 in
theorem walk (f s a o g : Int) (w : World) (_wf : (Lit.int .i64 f).wf = true) (_ws : (Lit.int .i64 s).wf = true) (_wa : (Lit.int .i64 a).wf = true) (_wo : (Lit.int .i64 o).wf = true) (_wg : (Lit.int .i64 g).wf = true) :
    Calls Try.prog 3 #[.int .i64 f, .agg #[.int .i64 s, .int .i64 a, .int .i64 o], .int .i64 g] w fun e w' => e = .returned (.bool true) ∧ Below w.heap.size w w' := by
  obtain ⟨L, hL⟩ : ∃ L, fgL f ⟨s, a, o⟩ g = L := ⟨_, rfl⟩
  have hLn : L.length ≤ 4 := by rw [← hL]; exact fgL_len _ _ _
  have HL := Lib.hid hL
  clear hL
  have bI : Blk (w.alloc (.cells #[.int .i64 s, .int .i64 a, .int .i64 o] 23)) w.heap.size #[.int .i64 s, .int .i64 a, .int .i64 o] 23 := Blk.new w _ _
  have bw : Below w.heap.size w (w.alloc (.cells #[.int .i64 s, .int .i64 a, .int .i64 o] 23)) := bel_al (bel_refl w) _
  have hw0 : w.heap.size < (w.alloc (.cells #[.int .i64 s, .int .i64 a, .int .i64 o] 23)).heap.size := bI.lt
  have zw : w.heap.size ≤ (w.alloc (.cells #[.int .i64 s, .int .i64 a, .int .i64 o] 23)).heap.size := bw.size
  go_enter Try.func3, Try.ntmps3
  go_upto_region 1 with fail
  generalize (w.alloc (.cells #[.int .i64 s, .int .i64 a, .int .i64 o] 23)) = w0 at *
  have cI0 : w0.cell? ⟨w.heap.size, 0, none⟩ = some (.int .i64 s) := (by rw [Blk.cell bI]; rfl)
  have cI1 : w0.cell? ⟨w.heap.size, 1, none⟩ = some (.int .i64 a) := (by rw [Blk.cell bI]; rfl)
  have cI2 : w0.cell? ⟨w.heap.size, 2, none⟩ = some (.int .i64 o) := (by rw [Blk.cell bI]; rfl)
  go_wp2_with fail
  refine (toPB_any _ _ _ _).mono ?_
  rintro e1 w1 ⟨rfl, b1⟩
  have z1 : w0.heap.size ≤ w1.heap.size := b1.size
  have bI := bI.below b1
  have bw : Below w.heap.size w w1 := bel_tr bw b1
  have zw : w.heap.size ≤ w1.heap.size := bw.size
  clear b1
  clear cI0 cI1 cI2
  go_wp2_with fail
  refine (sfg_val HL.out _).mono ?_
  rintro e2 w2 ⟨A_w, c_w, rfl, lc_w, cm_w, r_, o_, b2⟩
  have s_w := SLPi.of r_ o_
  clear r_ o_
  have z2 : w1.heap.size ≤ w2.heap.size := b2.size
  have bI := bI.below b2
  have bw : Below w.heap.size w w2 := bel_tr bw b2
  have zw : w.heap.size ≤ w2.heap.size := bw.size
  clear b2
  have cI0 : w2.cell? ⟨w.heap.size, 0, none⟩ = some (.int .i64 s) := (by rw [Blk.cell bI]; rfl)
  have cI1 : w2.cell? ⟨w.heap.size, 1, none⟩ = some (.int .i64 a) := (by rw [Blk.cell bI]; rfl)
  have cI2 : w2.cell? ⟨w.heap.size, 2, none⟩ = some (.int .i64 o) := (by rw [Blk.cell bI]; rfl)
  go_wp2_with fail
  refine (toPB_any _ _ _ _).mono ?_
  rintro e3 w3 ⟨rfl, b3⟩
  have z3 : w2.heap.size ≤ w3.heap.size := b3.size
  have s_w := s_w.below b3
  have bI := bI.below b3
  have bw : Below w.heap.size w w3 := bel_tr bw b3
  have zw : w.heap.size ≤ w3.heap.size := bw.size
  clear b3
  clear cI0 cI1 cI2
  go_wp2_with fail
  refine (fg_val HL.out _).mono ?_
  rintro e4 w4 ⟨A_g, c_g, rfl, lc_g, cm_g, r_, o_, b4⟩
  have s_g := SLPi.of r_ o_
  clear r_ o_
  have z4 : w3.heap.size ≤ w4.heap.size := b4.size
  have s_w := s_w.below b4
  have bI := bI.below b4
  have bw : Below w.heap.size w w4 := bel_tr bw b4
  have zw : w.heap.size ≤ w4.heap.size := bw.size
  clear b4
  go_wp2_with fail
  refine (eqSPi_same _ _ _ _ _ L _ rfl (by omega) s_g.row s_w.row).mono ?_
  rintro e5 w5 ⟨rfl, b5⟩
  have z5 : w4.heap.size ≤ w5.heap.size := b5.size
  have s_w := s_w.below b5
  have s_g := s_g.below b5
  have bI := bI.below b5
  have bw : Below w.heap.size w w5 := bel_tr bw b5
  have zw : w.heap.size ≤ w5.heap.size := bw.size
  clear b5
  go_wp2_with fail
  refine (markSPi_any _ _ _ _ L 1 _ rfl (by omega) (by omega) (by omega) s_g.row s_g.own).mono ?_
  rintro e6 w6 ⟨rfl, t6, m_g⟩
  have P6 : ∀ a : Addr, 0 < L.length → _ = some a → _ ≤ a.block ∧ a.block < _ := fun a h0 ha => s_g.place (by omega) ha
  have z6 : w5.heap.size ≤ w6.heap.size := by rw [t6.size]; exact Nat.le_refl _
  have s_w := s_w.trn t6 (fun a h0 ha => by have := P6 a h0 ha; omega)
  have bI := bI.trn t6 (fun a h0 ha => by have := P6 a h0 ha; omega)
  have bw : Below w.heap.size w w6 := bel_trn bw t6 (fun a h0 ha => by have := P6 a h0 ha; omega)
  have zw : w.heap.size ≤ w6.heap.size := bw.size
  clear t6 P6 s_g
  obtain ⟨m, hm⟩ : ∃ x : Int, 1 + 3 * (L.length : Int) = x := ⟨_, rfl⟩
  have m0 : ¬ m < 0 := by omega
  have m1 : decide (m < 0) = false := decide_eq_false m0
  have m2 : 0 ≤ m := by omega
  have m3 : m ≤ 50000000 := by omega
  rw [hm]
  have Hm := Lib.hid hm
  clear hm
  go_wp2_with fail
  refine (heldSPi_any _ L.length _ 1 _ (by omega) (by omega) (by omega) m_g).mono ?_
  rintro e7 w7 ⟨rfl, b7⟩
  have z7 : w6.heap.size ≤ w7.heap.size := b7.size
  have s_w := s_w.below b7
  have m_g := m_g.below b7
  have bI := bI.below b7
  have bw : Below w.heap.size w w7 := bel_tr bw b7
  have zw : w.heap.size ≤ w7.heap.size := bw.size
  clear b7
  rw [Hm.out]
  have cI0 : w7.cell? ⟨w.heap.size, 0, none⟩ = some (.int .i64 s) := (by rw [Blk.cell bI]; rfl)
  have cI1 : w7.cell? ⟨w.heap.size, 1, none⟩ = some (.int .i64 a) := (by rw [Blk.cell bI]; rfl)
  have cI2 : w7.cell? ⟨w.heap.size, 2, none⟩ = some (.int .i64 o) := (by rw [Blk.cell bI]; rfl)
  go_wp2_with fail
  refine (toPB_any _ _ _ _).mono ?_
  rintro e8 w8 ⟨rfl, b8⟩
  have z8 : w7.heap.size ≤ w8.heap.size := b8.size
  have s_w := s_w.below b8
  have m_g := m_g.below b8
  have bI := bI.below b8
  have bw : Below w.heap.size w w8 := bel_tr bw b8
  have zw : w.heap.size ≤ w8.heap.size := bw.size
  clear b8
  clear cI0 cI1 cI2
  go_wp2_with fail
  refine (fg_val HL.out _).mono ?_
  rintro e9 w9 ⟨A_h, c_h, rfl, lc_h, cm_h, r_, o_, b9⟩
  have s_h := SLPi.of r_ o_
  clear r_ o_
  have z9 : w8.heap.size ≤ w9.heap.size := b9.size
  have s_w := s_w.below b9
  have m_g := m_g.below b9
  have bI := bI.below b9
  have bw : Below w.heap.size w w9 := bel_tr bw b9
  have zw : w.heap.size ≤ w9.heap.size := bw.size
  clear b9
  go_wp2_with fail
  refine (eqSPi_same _ _ _ _ _ L _ rfl (by omega) s_h.row s_w.row).mono ?_
  rintro e10 w10 ⟨rfl, b10⟩
  have z10 : w9.heap.size ≤ w10.heap.size := b10.size
  have s_w := s_w.below b10
  have s_h := s_h.below b10
  have m_g := m_g.below b10
  have bI := bI.below b10
  have bw : Below w.heap.size w w10 := bel_tr bw b10
  have zw : w.heap.size ≤ w10.heap.size := bw.size
  clear b10
  go_wp2_with fail
  refine (heldSPi_any _ L.length _ 1 _ (by omega) (by omega) (by omega) m_g).mono ?_
  rintro e11 w11 ⟨rfl, b11⟩
  have z11 : w10.heap.size ≤ w11.heap.size := b11.size
  have s_w := s_w.below b11
  have s_h := s_h.below b11
  have m_g := m_g.below b11
  have bI := bI.below b11
  have bw : Below w.heap.size w w11 := bel_tr bw b11
  have zw : w.heap.size ≤ w11.heap.size := bw.size
  clear b11
  rw [Hm.out]
  go_wp2
  go_ret
  exact ⟨rfl, bw⟩


end Go.Proofs.Ytgjjoaffmflbgaa.FnExactFigureTones
