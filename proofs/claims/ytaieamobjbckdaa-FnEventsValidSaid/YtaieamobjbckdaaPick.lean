/- The reader of the generators: one step, one question, and how it is opened. -/
import Derived.Test.YtaieamobjbckdaaWin
import Derived.LoopTactic
import Derived.RegionTactic
import Derived.BigQuiet
import Derived.Deep.QuietTactic
import Derived.Deep.Draws
import Derived.IntWalk
import Derived.Lib.Hide
import Derived.Laws.BitsAllLaws
import Derived.Laws.BitsLemmas
namespace Go.Proofs.Ytaieamobjbckdaa
set_option linter.unusedSimpArgs false
set_option linter.unusedVariables false
open Go.RowKit

/-- the bytes that the reader reads -/
def Bts (w : World) (b off len : Nat) (zs : List Int) : Prop :=
  zs.length = len ∧ (∀ i, 0 ≤ zs.getD i 0 ∧ zs.getD i 0 ≤ 255) ∧ ∀ i, i < len → w.cell? ⟨b, off + i, none⟩ = some (.int .u8 (zs.getD i 0))
structure Rd (w : World) (g B : Nat) (A : Option Addr) (len cap : Nat) (p : Nat) : Prop where
  c0 : w.cell? ⟨g, 0, none⟩ = some (.slice A len cap)
  c1 : w.cell? ⟨g, 1, none⟩ = some (.int .i64 (p : Int))
  f1 : w.frozen? ⟨g, 1, none⟩ = false
  pb : p ≤ 1000000000
  ln : len ≤ 2000
  Bg : B ≤ g
  bt : 0 < len → ∃ b off zs, A = some ⟨b, off, none⟩ ∧ b < B ∧ Bts w b off len zs
def Picked (w : World) (g p : Nat) (n : Int) (e : Ending) (w' : World) : Prop :=
  ∃ v : Int, e = .returned (.int .i64 v) ∧ 0 ≤ v ∧ (1 ≤ n → v < n) ∧ (n < 1 → v = 0) ∧ ∃ k, w' = (w.setCell ⟨g, 1, none⟩ (.int .i64 ((p : Int) + 1))).drewN k

theorem ofInt_i64 (a : Nat) (ha : a < 9223372036854775808) : (BitVec.ofInt 64 (a : Int)).toNat = a := by
  rw [BitVec.ofInt_natCast, BitVec.toNat_ofNat]; exact Nat.mod_eq_of_lt (by omega)
theorem i64_xor_nat (a b : Nat) (ha : a < 9223372036854775808) (hb : b < 9223372036854775808) : bits .xor .i64 (a : Int) (b : Int) = ((a ^^^ b : Nat) : Int) := by
  have hx : a ^^^ b < 2 ^ 63 := Nat.xor_lt_two_pow (by omega) (by omega)
  show IntKind.i64.wrap ((BitVec.ofInt 64 (a : Int) ^^^ BitVec.ofInt 64 (b : Int)).toNat : Int) = _
  rw [BitVec.toNat_xor, ofInt_i64 a ha, ofInt_i64 b hb, IntKind.wrap_i64]
  omega
theorem w64 (x : Int) (h0 : 0 ≤ x) (h1 : x ≤ 1000000000000) : wrap64 x = x := by unfold wrap64; omega
theorem pick_val (z y q p n : Int) (h2 : 0 ≤ z) (h3 : z ≤ 255) (g2 : 0 ≤ y) (g3 : y ≤ 255) (p0 : 0 ≤ p) (p1 : p ≤ 1000000000) (q0 : 0 ≤ q) (q1 : q ≤ 1000000000) (hn : 1 ≤ n) :
    0 ≤ (bits BinOp.xor IntKind.i64 (wrap64 (z * 131 + y * 1117 + p * 29 + wrap64 (wrap64 q * 53))) (wrap64 ((wrap64 (z * 131 + y * 1117 + p * 29 + wrap64 (wrap64 q * 53))).tdiv 64))).tmod n ∧
    (bits BinOp.xor IntKind.i64 (wrap64 (z * 131 + y * 1117 + p * 29 + wrap64 (wrap64 q * 53))) (wrap64 ((wrap64 (z * 131 + y * 1117 + p * 29 + wrap64 (wrap64 q * 53))).tdiv 64))).tmod n < n := by
  rw [w64 q q0 (by omega), w64 (q * 53) (by omega) (by omega), w64 (z * 131 + y * 1117 + p * 29 + q * 53) (by omega) (by omega)]
  have e0 : 0 ≤ z * 131 + y * 1117 + p * 29 + q * 53 := by omega
  have e1 : z * 131 + y * 1117 + p * 29 + q * 53 ≤ 1000000000000 := by omega
  generalize z * 131 + y * 1117 + p * 29 + q * 53 = E at e0 e1
  obtain ⟨a, rfl⟩ := Int.eq_ofNat_of_zero_le e0
  have e2 : ((a : Int)).tdiv 64 = ((a / 64 : Nat) : Int) := by rw [Int.tdiv_eq_ediv_of_nonneg e0]; omega
  rw [e2, w64 _ (by omega) (by omega), i64_xor_nat _ _ (by omega) (by omega)]
  exact ⟨Int.tmod_nonneg _ (by omega), Int.tmod_lt_of_pos _ (by omega)⟩

set_option maxHeartbeats 400000 in
theorem pick_zero (w : World) (g B p : Nat) (A : Option Addr) (len cap : Nat) (n : Int) (h : Rd w g B A len cap p) (hn : n < 1) :
    Calls Try.prog 16 #[.pointer (some ⟨g, 0, none⟩), .int .i64 n] w (Picked w g p n) := by
  obtain ⟨c0, c1, f1, pb, ln, Bg, bt⟩ := h
  go_enter Try.func16, Try.ntmps16
  go_wp2
  go_ret
  exact ⟨0, rfl, by omega, by omega, by omega, 0, rfl⟩
set_option maxHeartbeats 400000 in
theorem pick_none (w : World) (g B p : Nat) (A : Option Addr) (cap : Nat) (n : Int) (h : Rd w g B A 0 cap p) (hn : 1 ≤ n) :
    Calls Try.prog 16 #[.pointer (some ⟨g, 0, none⟩), .int .i64 n] w (Picked w g p n) := by
  obtain ⟨c0, c1, f1, pb, ln, Bg, bt⟩ := h
  go_enter Try.func16, Try.ntmps16
  go_wp2
  go_ret
  exact ⟨0, rfl, by omega, by omega, by omega, 0, rfl⟩
set_option maxHeartbeats 400000 in
theorem pick_in (w : World) (g B p : Nat) (A : Option Addr) (len cap : Nat) (n : Int) (h : Rd w g B A len cap p) (hn : 1 ≤ n) (hp : p < len) :
    Calls Try.prog 16 #[.pointer (some ⟨g, 0, none⟩), .int .i64 n] w (Picked w g p n) := by
  obtain ⟨c0, c1, f1, pb, ln, Bg, bt⟩ := h
  obtain ⟨b, off, zs, rfl, hlt, hz, hb, hc⟩ := bt (by omega)
  have hne : b ≠ g := by omega
  have h1 := hc p hp
  obtain ⟨h2, h3⟩ := hb p
  generalize zs.getD p 0 = z at h1 h2 h3
  have hl0 : ((len : Int) == 0) = false := by simp; omega
  have hpl : (p : Int) < (len : Int) := by omega
  have hp0 : (0 : Int) ≤ (p : Int) := by omega
  clear hc hb bt hz
  go_enter Try.func16, Try.ntmps16
  go_wp2
  go_ret
  exact ⟨z % n, rfl, Int.emod_nonneg _ (by omega), fun _ => Int.emod_lt_of_pos _ (by omega), by omega, 0, rfl⟩
set_option maxHeartbeats 1000000 in
theorem pick_out (w : World) (g B p : Nat) (A : Option Addr) (len cap : Nat) (n : Int) (h : Rd w g B A len cap p) (hn : 1 ≤ n) (hl : 0 < len) (hp : len ≤ p) :
    Calls Try.prog 16 #[.pointer (some ⟨g, 0, none⟩), .int .i64 n] w (Picked w g p n) := by
  obtain ⟨c0, c1, f1, pb, ln, Bg, bt⟩ := h
  obtain ⟨b, off, zs, rfl, hlt, hz, hb, hc⟩ := bt (by omega)
  have hne : b ≠ g := by omega
  have m1 : p % len < len := Nat.mod_lt _ hl
  have m2 : (p * 7 + 3) % len < len := Nat.mod_lt _ hl
  have h1 := hc _ m1
  obtain ⟨h2, h3⟩ := hb (p % len)
  have g1 := hc _ m2
  obtain ⟨g2, g3⟩ := hb ((p * 7 + 3) % len)
  generalize zs.getD (p % len) 0 = z at h1 h2 h3
  generalize zs.getD ((p * 7 + 3) % len) 0 = y at g1 g2 g3
  have hl0 : ((len : Int) == 0) = false := by simp; omega
  have hpl : ¬ (p : Int) < (len : Int) := by omega
  have hp0 : (0 : Int) ≤ (p : Int) := by omega
  have hl1 : (0 : Int) < (len : Int) := by omega
  clear hc hb bt hz
  go_enter Try.func16, Try.ntmps16
  go_wp2
  have k1 : (w.setCell ⟨g, 1, none⟩ (.int .i64 ((p : Int) + 1))).cell? ⟨b, off + p % len, none⟩ = some (.int .u8 z) := by rw [World.cell?_setCell_other _ _ _ _ (by simp <;> omega)]; exact h1
  have k2 : (w.setCell ⟨g, 1, none⟩ (.int .i64 ((p : Int) + 1))).cell? ⟨b, off + (p * 7 + 3) % len, none⟩ = some (.int .u8 y) := by rw [World.cell?_setCell_other _ _ _ _ (by simp <;> omega)]; exact g1
  have k3 : (w.setCell ⟨g, 1, none⟩ (.int .i64 ((p : Int) + 1))).cell? ⟨g, 0, none⟩ = some (.slice (some ⟨b, off, none⟩) len cap) := by rw [World.cell?_setCell_other _ _ _ _ (by simp)]; exact c0
  generalize hw2 : w.setCell ⟨g, 1, none⟩ (.int .i64 ((p : Int) + 1)) = w2 at k1 k2 k3 ⊢
  have HW := Lib.hid hw2
  clear hw2 h1 g1 c0 c1 f1
  have a1 : (p : Int) % (len : Int) = ((p % len : Nat) : Int) := by omega
  have a2 : ((p : Int) * 7 + 3) % (len : Int) = (((p * 7 + 3) % len : Nat) : Int) := by push_cast; rfl
  generalize p % len = i at *
  generalize (p * 7 + 3) % len = j at *
  go_quiet (fail)
  go_wp2
  go_ret
  obtain ⟨v0, v1⟩ := pick_val z y ((p : Int) / (len : Int)) p n h2 h3 g2 g3 (by omega) (by omega) (Int.ediv_nonneg hp0 (by omega)) (Int.le_trans (Int.ediv_le_self _ hp0) (by omega)) hn
  exact ⟨_, rfl, v0, fun _ => v1, by omega, nq, by rw [HW.out]⟩
theorem pick_any (w : World) (g B p : Nat) (A : Option Addr) (len cap : Nat) (n : Int) (h : Rd w g B A len cap p) :
    Calls Try.prog 16 #[.pointer (some ⟨g, 0, none⟩), .int .i64 n] w (Picked w g p n) := by
  by_cases hn : n < 1
  · exact pick_zero w g B p A len cap n h hn
  · by_cases hl : len = 0
    · subst hl; exact pick_none w g B p A cap n h (by omega)
    · by_cases hp : p < len
      · exact pick_in w g B p A len cap n h (by omega) hp
      · exact pick_out w g B p A len cap n h (by omega) (by omega) (by omega)
end Go.Proofs.Ytaieamobjbckdaa
