/- Small lemmas on worlds: what stays below, what a cell holds behind a new block, a draw, a store, a call. The contracts of the two tests of a range. The reader of the generators: one step, one question, and how it is opened. The reader of the generators, by its frame: what a step leaves; how the reader lives on while others write. Regions that draw their order and hold calls that only make memory: one walk in the order of the text, in whatever later world. A slice that the call itself makes and grows: what it owns, as a list of elements; how that lives on. What a generator leaves: of what was there only the reader's block has turned. A block that is known whole: how it lives on, what its cells hold. The law's own test that the program runs at all, and what the laws over bytes ask of their argument. The bytes that a law is given, opened. A slice of structs that came in, opened to the cells of its elements (after the guide's extra-structs, turned to this place); a list out of facts on each place. -/
import Derived.Test.YtdmidimjbhkjoaaProg
import Derived.WalkKit
import Derived.WalkSpells
import Derived.Laws.ResultCell
import Derived.LoopTactic
import Derived.RegionTactic
import Derived.BigQuiet
import Derived.Deep.QuietTactic
import Derived.Deep.Draws
import Derived.IntWalk
import Derived.Lib.Hide
import Derived.Laws.BitsAllLaws
import Derived.Laws.BitsLemmas
import Derived.Deep.AppendLies
import Derived.Laws.OwnMore
import Derived.OwnWalk
import Derived.ProofKit
import Derived.OpenShut
import Derived.Deep.Slices
import Derived.Deep.Fields
import Derived.ChangeSame
namespace Go.Proofs.Ytdmidimjbhkjoaa
set_option linter.unusedSimpArgs false
set_option linter.unusedVariables false
section
open Go.RowKit

theorem bcell {W w1 : World} (hb : Below W.heap.size W w1) : (∀ b o, b < W.heap.size → w1.cell? ⟨b, o, none⟩ = W.cell? ⟨b, o, none⟩) ∧ (∀ b o, b < W.heap.size → w1.frozen? ⟨b, o, none⟩ = W.frozen? ⟨b, o, none⟩) :=
  ⟨fun b o h => hb.cell (p := ⟨b, o, none⟩) h, fun b o h => hb.frozen (p := ⟨b, o, none⟩) h⟩
theorem ret_int {k : IntKind} {a b : Int} (h : a = b) : Ending.returned (.int k a) = .returned (.int k b) := by rw [h]
theorem ret_bool {a b : Bool} (h : a = b) : Ending.returned (.bool a) = .returned (.bool b) := by rw [h]
theorem bel_new (w : World) (o : Obj) : Below w.heap.size w (w.alloc o) := (Below.refl _ _).alloc (Nat.le_refl _) _
theorem bel_alloc {w w1 : World} {o : Obj} (h : Below (w.alloc o).heap.size (w.alloc o) w1) : Below w.heap.size w w1 := (bel_new w o).trans (h.mono (by simp))
theorem bel_refl (w : World) : Below w.heap.size w w := Below.refl _ _
theorem bel_al {W w : World} (h : Below W.heap.size W w) (o : Obj) : Below W.heap.size W (w.alloc o) := h.alloc h.size o
theorem bel_dr {W w : World} (h : Below W.heap.size W w) : Below W.heap.size W w.drew := h.drew
theorem bel_drN {W w : World} (h : Below W.heap.size W w) (n : Nat) : Below W.heap.size W (w.drewN n) := ⟨h.os, h.tape, h.output, h.size, h.block⟩
theorem bel_tr {W w w' : World} (h : Below W.heap.size W w) (k : Below w.heap.size w w') : Below W.heap.size W w' := h.trans (k.mono h.size)
theorem bel_set {W w : World} (h : Below W.heap.size W w) {p : Addr} (hp : W.heap.size ≤ p.block) (u : Value) : Below W.heap.size W (w.setCell p u) := h.setCell hp u

theorem keep_al {w : World} {a : Addr} {v : Value} (h : w.cell? a = some v) (o : Obj) : (w.alloc o).cell? a = some v := by rw [World.cell?_alloc_lt _ _ _ (World.block_lt_of_cell? w a h)]; exact h
theorem keep_dr {w : World} {a : Addr} {v : Value} (h : w.cell? a = some v) : w.drew.cell? a = some v := h
theorem keep_undr {w : World} {a : Addr} {v : Value} (h : w.drew.cell? a = some v) : w.cell? a = some v := h
theorem bel_undr {W w : World} (h : Below W.heap.size W w.drew) : Below W.heap.size W w := ⟨h.os, h.tape, h.output, h.size, h.block⟩
theorem keep_drN {w : World} {a : Addr} {v : Value} (h : w.cell? a = some v) (n : Nat) : (w.drewN n).cell? a = some v := h
theorem keep_tr {w w1 : World} {a : Addr} {v : Value} (h : w.cell? a = some v) (hb : Below w.heap.size w w1) : w1.cell? a = some v := cell_later hb h
theorem keep_set {w : World} {a p : Addr} {v u : Value} (h : w.cell? a = some v) (hne : a.block ≠ p.block) : (w.setCell p u).cell? a = some v := by
  rw [World.cell?_setCell_other]; exact h
  intro e; exact hne (by rw [e])
theorem set_same {w : World} {p : Addr} {u : Value} (h : (w.cell? p).isSome = true) : (w.setCell p u).cell? p = some u := by
  obtain ⟨v, hv⟩ := Option.isSome_iff_exists.1 h
  exact World.cell?_setCell_same _ _ _ hv
theorem some_tr {w w1 : World} {a : Addr} (h : (w.cell? a).isSome = true) (hb : Below w.heap.size w w1) : (w1.cell? a).isSome = true := by
  obtain ⟨v, hv⟩ := Option.isSome_iff_exists.1 h
  rw [keep_tr hv hb]; rfl
theorem some_al {w : World} {a : Addr} (h : (w.cell? a).isSome = true) (o : Obj) : ((w.alloc o).cell? a).isSome = true := by
  obtain ⟨v, hv⟩ := Option.isSome_iff_exists.1 h
  rw [keep_al hv]; rfl
theorem some_dr {w : World} {a : Addr} (h : (w.cell? a).isSome = true) : (w.drew.cell? a).isSome = true := h
theorem some_set {w : World} {a p : Addr} {u : Value} (h : (w.cell? a).isSome = true) (hne : a ≠ p) : ((w.setCell p u).cell? a).isSome = true := by
  rw [World.cell?_setCell_other _ _ _ _ (Ne.symm hne)]; exact h
theorem some_setx {w : World} {a p : Addr} {u : Value} (h : (w.cell? a).isSome = true) : ((w.setCell p u).cell? a).isSome = true := by
  by_cases e : a = p
  · subst e; rw [set_same h]; rfl
  · exact some_set h e
theorem keep_off {w : World} {a p : Addr} {v u : Value} (h : w.cell? a = some v) (hne : a ≠ p) : (w.setCell p u).cell? a = some v := by
  rw [World.cell?_setCell_other _ _ _ _ (Ne.symm hne)]; exact h
theorem cel {B : Nat} {w w1 : World} (hb : Below B w w1) (g : Nat) (h : g < B) : (∀ o, w1.cell? ⟨g, o, none⟩ = w.cell? ⟨g, o, none⟩) ∧ (∀ o, w1.frozen? ⟨g, o, none⟩ = w.frozen? ⟨g, o, none⟩) :=
  ⟨fun o => hb.cell (p := ⟨g, o, none⟩) h, fun o => hb.frozen (p := ⟨g, o, none⟩) h⟩
theorem bfacts {W w1 : World} (hb : Below W.heap.size W w1) : (∀ b o, b < W.heap.size → w1.cell? ⟨b, o, none⟩ = W.cell? ⟨b, o, none⟩) ∧ (∀ b o, b < W.heap.size → w1.frozen? ⟨b, o, none⟩ = W.frozen? ⟨b, o, none⟩) ∧
    (∀ x, x < W.heap.size → x < w1.heap.size) ∧ (∀ x, x < W.heap.size → x ≤ w1.heap.size) ∧ (∀ x k, x < W.heap.size → x < w1.heap.size + k) :=
  ⟨fun b o h => hb.cell (p := ⟨b, o, none⟩) h, fun b o h => hb.frozen (p := ⟨b, o, none⟩) h, fun x h => Nat.lt_of_lt_of_le h hb.size, fun x h => Nat.le_of_lt (Nat.lt_of_lt_of_le h hb.size), fun x k h => by have := hb.size; omega⟩

theorem fz_dr {w : World} {a : Addr} (h : w.frozen? a = false) : w.drew.frozen? a = false := h
theorem fz_set {w : World} {a p : Addr} {u : Value} (h : w.frozen? a = false) : (w.setCell p u).frozen? a = false := by simpa using h
theorem fz_al {w : World} {a : Addr} (h : w.frozen? a = false) (hlt : a.block < w.heap.size) (o : Obj) : (w.alloc o).frozen? a = false := by rw [World.frozen?_alloc_old w o a (Nat.ne_of_lt hlt)]; exact h
theorem fz_tr {w w1 : World} {a : Addr} (h : w.frozen? a = false) (hb : Below w.heap.size w w1) (hlt : a.block < w.heap.size) : w1.frozen? a = false := by rw [hb.frozen hlt]; exact h

end
section
open Go.RowKit

theorem ret_bool' {a b : Bool} (h : a = b) : Ending.returned (.bool a) = .returned (.bool b) := by rw [h]

set_option maxHeartbeats 400000 in
theorem win_any (x lo hi : Int) (w : World) :
    Calls Try.prog 36 #[.int .i64 x, .int .i64 lo, .int .i64 hi] w fun e w' => e = .returned (.bool (decide (lo ≤ x) && decide (x ≤ hi))) ∧ w = w' := by
  by_cases h : lo ≤ x
  · go_enter Try.func36, Try.ntmps36
    go_wp2
    go_ret
    exact ⟨ret_bool' (by simp [h]), rfl⟩
  · have hd : decide (lo ≤ x) = false := by simpa using h
    go_enter Try.func36, Try.ntmps36
    go_wp2
    go_ret
    exact ⟨ret_bool' (by simp [h]), rfl⟩
theorem win_yes (x lo hi : Int) (w : World) (h0 : lo ≤ x) (h1 : x ≤ hi) :
    Calls Try.prog 36 #[.int .i64 x, .int .i64 lo, .int .i64 hi] w fun e w' => e = .returned (.bool true) ∧ w = w' :=
  (win_any x lo hi w).mono fun _ _ ⟨he, hw⟩ => ⟨by rw [he]; simp [h0, h1], hw⟩
theorem win_no (x lo hi : Int) (w : World) (h : x < lo ∨ hi < x) :
    Calls Try.prog 36 #[.int .i64 x, .int .i64 lo, .int .i64 hi] w fun e w' => e = .returned (.bool false) ∧ w = w' :=
  (win_any x lo hi w).mono fun _ _ ⟨he, hw⟩ => ⟨by rw [he]; exact ret_bool' (by rcases h with h | h <;> simp <;> omega), hw⟩

set_option maxHeartbeats 400000 in
theorem swin_any (x lo hi : Int) (w : World) :
    Calls Try.prog 37 #[.int .i64 x, .int .i64 lo, .int .i64 hi] w fun e w' => e = .returned (.bool (decide (lo ≤ x) && decide (x ≤ hi))) ∧ w = w' := by
  by_cases h : lo ≤ x
  · go_enter Try.func37, Try.ntmps37
    go_wp2
    go_ret
    exact ⟨ret_bool' (by simp [h]), rfl⟩
  · have hd : decide (lo ≤ x) = false := by simpa using h
    go_enter Try.func37, Try.ntmps37
    go_wp2
    go_ret
    exact ⟨ret_bool' (by simp [h]), rfl⟩
theorem swin_yes (x lo hi : Int) (w : World) (h0 : lo ≤ x) (h1 : x ≤ hi) :
    Calls Try.prog 37 #[.int .i64 x, .int .i64 lo, .int .i64 hi] w fun e w' => e = .returned (.bool true) ∧ w = w' :=
  (swin_any x lo hi w).mono fun _ _ ⟨he, hw⟩ => ⟨by rw [he]; simp [h0, h1], hw⟩
theorem swin_no (x lo hi : Int) (w : World) (h : x < lo ∨ hi < x) :
    Calls Try.prog 37 #[.int .i64 x, .int .i64 lo, .int .i64 hi] w fun e w' => e = .returned (.bool false) ∧ w = w' :=
  (swin_any x lo hi w).mono fun _ _ ⟨he, hw⟩ => ⟨by rw [he]; exact ret_bool' (by rcases h with h | h <;> simp <;> omega), hw⟩

end
section
open Go.RowKit

/-- the bytes that the reader reads -/
def Bts (w : World) (b off len : Nat) (zs : List Int) : Prop :=
  zs.length = len ∧ (∀ i, 0 ≤ zs.getD i 0 ∧ zs.getD i 0 ≤ 255) ∧ ∀ i, i < len → w.cell? ⟨b, off + i, none⟩ = some (.int .u8 (zs.getD i 0))
structure Rd (w : World) (g B : Nat) (A : Option Addr) (len cap : Nat) (p : Nat) : Prop where
  c0 : w.cell? ⟨g, 0, none⟩ = some (.slice A len cap)
  c1 : w.cell? ⟨g, 1, none⟩ = some (.int .i64 (p : Int))
  f1 : w.frozen? ⟨g, 1, none⟩ = false
  pb : p ≤ 1000000000
  ln : len ≤ 2000
  Bg : B ≤ g
  bt : 0 < len → ∃ b off zs, A = some ⟨b, off, none⟩ ∧ b < B ∧ Bts w b off len zs
def Picked (w : World) (g p : Nat) (n : Int) (e : Ending) (w' : World) : Prop :=
  ∃ v : Int, e = .returned (.int .i64 v) ∧ 0 ≤ v ∧ (1 ≤ n → v < n) ∧ (n < 1 → v = 0) ∧ ∃ k, w' = (w.setCell ⟨g, 1, none⟩ (.int .i64 ((p : Int) + 1))).drewN k

theorem ofInt_i64 (a : Nat) (ha : a < 9223372036854775808) : (BitVec.ofInt 64 (a : Int)).toNat = a := by
  rw [BitVec.ofInt_natCast, BitVec.toNat_ofNat]; exact Nat.mod_eq_of_lt (by omega)
theorem i64_xor_nat (a b : Nat) (ha : a < 9223372036854775808) (hb : b < 9223372036854775808) : bits .xor .i64 (a : Int) (b : Int) = ((a ^^^ b : Nat) : Int) := by
  have hx : a ^^^ b < 2 ^ 63 := Nat.xor_lt_two_pow (by omega) (by omega)
  show IntKind.i64.wrap ((BitVec.ofInt 64 (a : Int) ^^^ BitVec.ofInt 64 (b : Int)).toNat : Int) = _
  rw [BitVec.toNat_xor, ofInt_i64 a ha, ofInt_i64 b hb, IntKind.wrap_i64]
  omega
theorem w64 (x : Int) (h0 : 0 ≤ x) (h1 : x ≤ 1000000000000) : wrap64 x = x := by unfold wrap64; omega
theorem pick_val (z y q p n : Int) (h2 : 0 ≤ z) (h3 : z ≤ 255) (g2 : 0 ≤ y) (g3 : y ≤ 255) (p0 : 0 ≤ p) (p1 : p ≤ 1000000000) (q0 : 0 ≤ q) (q1 : q ≤ 1000000000) (hn : 1 ≤ n) :
    0 ≤ (bits BinOp.xor IntKind.i64 (wrap64 (z * 131 + y * 1117 + p * 29 + wrap64 (wrap64 q * 53))) (wrap64 ((wrap64 (z * 131 + y * 1117 + p * 29 + wrap64 (wrap64 q * 53))).tdiv 64))).tmod n ∧
    (bits BinOp.xor IntKind.i64 (wrap64 (z * 131 + y * 1117 + p * 29 + wrap64 (wrap64 q * 53))) (wrap64 ((wrap64 (z * 131 + y * 1117 + p * 29 + wrap64 (wrap64 q * 53))).tdiv 64))).tmod n < n := by
  rw [w64 q q0 (by omega), w64 (q * 53) (by omega) (by omega), w64 (z * 131 + y * 1117 + p * 29 + q * 53) (by omega) (by omega)]
  have e0 : 0 ≤ z * 131 + y * 1117 + p * 29 + q * 53 := by omega
  have e1 : z * 131 + y * 1117 + p * 29 + q * 53 ≤ 1000000000000 := by omega
  generalize z * 131 + y * 1117 + p * 29 + q * 53 = E at e0 e1
  obtain ⟨a, rfl⟩ := Int.eq_ofNat_of_zero_le e0
  have e2 : ((a : Int)).tdiv 64 = ((a / 64 : Nat) : Int) := by rw [Int.tdiv_eq_ediv_of_nonneg e0]; omega
  rw [e2, w64 _ (by omega) (by omega), i64_xor_nat _ _ (by omega) (by omega)]
  exact ⟨Int.tmod_nonneg _ (by omega), Int.tmod_lt_of_pos _ (by omega)⟩

set_option maxHeartbeats 400000 in
theorem pick_zero (w : World) (g B p : Nat) (A : Option Addr) (len cap : Nat) (n : Int) (h : Rd w g B A len cap p) (hn : n < 1) :
    Calls Try.prog 30 #[.pointer (some ⟨g, 0, none⟩), .int .i64 n] w (Picked w g p n) := by
  obtain ⟨c0, c1, f1, pb, ln, Bg, bt⟩ := h
  go_enter Try.func30, Try.ntmps30
  go_wp2
  go_ret
  exact ⟨0, rfl, by omega, by omega, by omega, 0, rfl⟩
set_option maxHeartbeats 400000 in
theorem pick_none (w : World) (g B p : Nat) (A : Option Addr) (cap : Nat) (n : Int) (h : Rd w g B A 0 cap p) (hn : 1 ≤ n) :
    Calls Try.prog 30 #[.pointer (some ⟨g, 0, none⟩), .int .i64 n] w (Picked w g p n) := by
  obtain ⟨c0, c1, f1, pb, ln, Bg, bt⟩ := h
  go_enter Try.func30, Try.ntmps30
  go_wp2
  go_ret
  exact ⟨0, rfl, by omega, by omega, by omega, 0, rfl⟩
set_option maxHeartbeats 400000 in
theorem pick_in (w : World) (g B p : Nat) (A : Option Addr) (len cap : Nat) (n : Int) (h : Rd w g B A len cap p) (hn : 1 ≤ n) (hp : p < len) :
    Calls Try.prog 30 #[.pointer (some ⟨g, 0, none⟩), .int .i64 n] w (Picked w g p n) := by
  obtain ⟨c0, c1, f1, pb, ln, Bg, bt⟩ := h
  obtain ⟨b, off, zs, rfl, hlt, hz, hb, hc⟩ := bt (by omega)
  have hne : b ≠ g := by omega
  have h1 := hc p hp
  obtain ⟨h2, h3⟩ := hb p
  generalize zs.getD p 0 = z at h1 h2 h3
  have hl0 : ((len : Int) == 0) = false := by simp; omega
  have hpl : (p : Int) < (len : Int) := by omega
  have hp0 : (0 : Int) ≤ (p : Int) := by omega
  clear hc hb bt hz
  go_enter Try.func30, Try.ntmps30
  go_wp2
  go_ret
  exact ⟨z % n, rfl, Int.emod_nonneg _ (by omega), fun _ => Int.emod_lt_of_pos _ (by omega), by omega, 0, rfl⟩
set_option maxHeartbeats 1000000 in
theorem pick_out (w : World) (g B p : Nat) (A : Option Addr) (len cap : Nat) (n : Int) (h : Rd w g B A len cap p) (hn : 1 ≤ n) (hl : 0 < len) (hp : len ≤ p) :
    Calls Try.prog 30 #[.pointer (some ⟨g, 0, none⟩), .int .i64 n] w (Picked w g p n) := by
  obtain ⟨c0, c1, f1, pb, ln, Bg, bt⟩ := h
  obtain ⟨b, off, zs, rfl, hlt, hz, hb, hc⟩ := bt (by omega)
  have hne : b ≠ g := by omega
  have m1 : p % len < len := Nat.mod_lt _ hl
  have m2 : (p * 7 + 3) % len < len := Nat.mod_lt _ hl
  have h1 := hc _ m1
  obtain ⟨h2, h3⟩ := hb (p % len)
  have g1 := hc _ m2
  obtain ⟨g2, g3⟩ := hb ((p * 7 + 3) % len)
  generalize zs.getD (p % len) 0 = z at h1 h2 h3
  generalize zs.getD ((p * 7 + 3) % len) 0 = y at g1 g2 g3
  have hl0 : ((len : Int) == 0) = false := by simp; omega
  have hpl : ¬ (p : Int) < (len : Int) := by omega
  have hp0 : (0 : Int) ≤ (p : Int) := by omega
  have hl1 : (0 : Int) < (len : Int) := by omega
  clear hc hb bt hz
  go_enter Try.func30, Try.ntmps30
  go_wp2
  have k1 : (w.setCell ⟨g, 1, none⟩ (.int .i64 ((p : Int) + 1))).cell? ⟨b, off + p % len, none⟩ = some (.int .u8 z) := by rw [World.cell?_setCell_other _ _ _ _ (by simp <;> omega)]; exact h1
  have k2 : (w.setCell ⟨g, 1, none⟩ (.int .i64 ((p : Int) + 1))).cell? ⟨b, off + (p * 7 + 3) % len, none⟩ = some (.int .u8 y) := by rw [World.cell?_setCell_other _ _ _ _ (by simp <;> omega)]; exact g1
  have k3 : (w.setCell ⟨g, 1, none⟩ (.int .i64 ((p : Int) + 1))).cell? ⟨g, 0, none⟩ = some (.slice (some ⟨b, off, none⟩) len cap) := by rw [World.cell?_setCell_other _ _ _ _ (by simp)]; exact c0
  generalize hw2 : w.setCell ⟨g, 1, none⟩ (.int .i64 ((p : Int) + 1)) = w2 at k1 k2 k3 ⊢
  have HW := Lib.hid hw2
  clear hw2 h1 g1 c0 c1 f1
  have a1 : (p : Int) % (len : Int) = ((p % len : Nat) : Int) := by omega
  have a2 : ((p : Int) * 7 + 3) % (len : Int) = (((p * 7 + 3) % len : Nat) : Int) := by push_cast; rfl
  generalize p % len = i at *
  generalize (p * 7 + 3) % len = j at *
  go_quiet (fail)
  go_wp2
  go_ret
  obtain ⟨v0, v1⟩ := pick_val z y ((p : Int) / (len : Int)) p n h2 h3 g2 g3 (by omega) (by omega) (Int.ediv_nonneg hp0 (by omega)) (Int.le_trans (Int.ediv_le_self _ hp0) (by omega)) hn
  exact ⟨_, rfl, v0, fun _ => v1, by omega, nq, by rw [HW.out]⟩
theorem pick_any (w : World) (g B p : Nat) (A : Option Addr) (len cap : Nat) (n : Int) (h : Rd w g B A len cap p) :
    Calls Try.prog 30 #[.pointer (some ⟨g, 0, none⟩), .int .i64 n] w (Picked w g p n) := by
  by_cases hn : n < 1
  · exact pick_zero w g B p A len cap n h hn
  · by_cases hl : len = 0
    · subst hl; exact pick_none w g B p A cap n h (by omega)
    · by_cases hp : p < len
      · exact pick_in w g B p A len cap n h (by omega) hp
      · exact pick_out w g B p A len cap n h (by omega) (by omega) (by omega)
end
section
open Go.RowKit

/-- only block g has turned, and no block has come -/
structure Onl (g : Nat) (w w' : World) : Prop where
  os : w'.os = w.os
  tape : w'.tape = w.tape
  output : w'.output = w.output
  size : w'.heap.size = w.heap.size
  block : ∀ k, k ≠ g → w'.heap[k]? = w.heap[k]?
def InR (n v : Int) : Prop := 0 ≤ v ∧ (1 ≤ n → v < n) ∧ (n < 1 → v = 0)

theorem Onl.refl (g : Nat) (w : World) : Onl g w w := ⟨rfl, rfl, rfl, rfl, fun _ _ => rfl⟩
theorem Onl.cell {g : Nat} {w w' : World} (h : Onl g w w') (b o : Nat) (hb : b ≠ g) : w'.cell? ⟨b, o, none⟩ = w.cell? ⟨b, o, none⟩ := World.cell?_of_block (w := w) (h.block b hb)
theorem Onl.frozen {g : Nat} {w w' : World} (h : Onl g w w') (b o : Nat) (hb : b ≠ g) : w'.frozen? ⟨b, o, none⟩ = w.frozen? ⟨b, o, none⟩ := World.frozen?_of_block (w := w) (h.block b hb)
theorem Onl.below {g B : Nat} {w w' : World} (h : Onl g w w') (hB : B ≤ g) : Below B w w' := ⟨h.os, h.tape, h.output, by rw [h.size]; exact Nat.le_refl _, fun k hk => h.block k (by omega)⟩
theorem Onl.trans {g : Nat} {a b c : World} (h : Onl g a b) (k : Onl g b c) : Onl g a c := ⟨k.os.trans h.os, k.tape.trans h.tape, k.output.trans h.output, k.size.trans h.size, fun i hi => (k.block i hi).trans (h.block i hi)⟩

theorem Bts.keep {w w' : World} {b off len : Nat} {zs : List Int} (h : Bts w b off len zs) (hc : ∀ i, i < len → w'.cell? ⟨b, off + i, none⟩ = w.cell? ⟨b, off + i, none⟩) : Bts w' b off len zs :=
  ⟨h.1, h.2.1, fun i hi => (hc i hi).trans (h.2.2 i hi)⟩
theorem Rd.gl {w : World} {g B : Nat} {A : Option Addr} {len cap p : Nat} (h : Rd w g B A len cap p) : g < w.heap.size := World.block_lt_of_cell? w ⟨g, 0, none⟩ h.c0
theorem Rd.keep {w w' : World} {g B : Nat} {A : Option Addr} {len cap p : Nat} (h : Rd w g B A len cap p) (hc : ∀ b o, b < B ∨ b = g → w'.cell? ⟨b, o, none⟩ = w.cell? ⟨b, o, none⟩) (hf : w'.frozen? ⟨g, 1, none⟩ = w.frozen? ⟨g, 1, none⟩) : Rd w' g B A len cap p :=
  ⟨(hc g 0 (.inr rfl)).trans h.c0, (hc g 1 (.inr rfl)).trans h.c1, hf.trans h.f1, h.pb, h.ln, h.Bg, fun hl => by
    obtain ⟨b, off, zs, rfl, hb, hz⟩ := h.bt hl
    exact ⟨b, off, zs, rfl, hb, hz.keep fun i _ => hc b _ (.inl hb)⟩⟩
theorem Rd.below {w w' : World} {g B : Nat} {A : Option Addr} {len cap p : Nat} (h : Rd w g B A len cap p) (hb : Below w.heap.size w w') : Rd w' g B A len cap p :=
  h.keep (fun b o hh => hb.cell (p := ⟨b, o, none⟩) (by have := h.gl; have := h.Bg; simp only; omega)) (hb.frozen (p := ⟨g, 1, none⟩) h.gl)
theorem Rd.alloc {w : World} {g B : Nat} {A : Option Addr} {len cap p : Nat} (h : Rd w g B A len cap p) (o : Obj) : Rd (w.alloc o) g B A len cap p := h.below (bel_al (bel_refl w) o)
theorem Rd.drew {w : World} {g B : Nat} {A : Option Addr} {len cap p : Nat} (h : Rd w g B A len cap p) : Rd w.drew g B A len cap p := h.below (bel_dr (bel_refl w))
theorem Rd.drewN {w : World} {g B : Nat} {A : Option Addr} {len cap p : Nat} (h : Rd w g B A len cap p) (k : Nat) : Rd (w.drewN k) g B A len cap p := h.below (bel_drN (bel_refl w) k)
theorem Rd.set {w : World} {g B : Nat} {A : Option Addr} {len cap p : Nat} (h : Rd w g B A len cap p) {q : Addr} (h0 : B ≤ q.block) (h1 : q.block ≠ g) (u : Value) : Rd (w.setCell q u) g B A len cap p :=
  h.keep (fun b o hh => World.cell?_setCell_other _ _ _ _ (by rintro rfl; simp only at h0 h1; omega)) (by simp)

theorem pick_fr (w : World) (g B p : Nat) (A : Option Addr) (len cap : Nat) (n : Int) (h : Rd w g B A len cap p) (hp : p < 1000000000) :
    Calls Try.prog 30 #[.pointer (some ⟨g, 0, none⟩), .int .i64 n] w fun e w' => ∃ v : Int, e = .returned (.int .i64 v) ∧ InR n v ∧ Onl g w w' ∧ Rd w' g B A len cap (p + 1) := by
  refine (pick_any w g B p A len cap n h).mono ?_
  rintro e w' ⟨v, he, h0, h1, h2, k, rfl⟩
  have ho : Onl g w ((w.setCell ⟨g, 1, none⟩ (.int .i64 ((p : Int) + 1))).drewN k) :=
    ⟨rfl, rfl, rfl, by show (w.setCell _ _).heap.size = _; simp [World.setCell], fun i hi => Below.heap_setCell w ⟨g, 1, none⟩ _ i (by simpa using hi)⟩
  refine ⟨v, he, ⟨h0, h1, h2⟩, ho, ?_⟩
  have hc0 : ((w.setCell ⟨g, 1, none⟩ (.int .i64 ((p : Int) + 1))).drewN k).cell? ⟨g, 0, none⟩ = w.cell? ⟨g, 0, none⟩ := World.cell?_setCell_other w ⟨g, 1, none⟩ ⟨g, 0, none⟩ _ (by simp)
  have hc1 : ((w.setCell ⟨g, 1, none⟩ (.int .i64 ((p : Int) + 1))).drewN k).cell? ⟨g, 1, none⟩ = some (.int .i64 ((p : Int) + 1)) := World.cell?_setCell_same w ⟨g, 1, none⟩ _ h.c1
  refine ⟨hc0.trans h.c0, by rw [hc1]; rfl, ?_, by omega, h.ln, h.Bg, fun hl => ?_⟩
  · show (w.setCell _ _).frozen? _ = _
    simpa using h.f1
  · obtain ⟨b, off, zs, rfl, hb, hz⟩ := h.bt hl
    have := h.Bg
    exact ⟨b, off, zs, rfl, hb, hz.keep fun i _ => ho.cell b _ (by omega)⟩

def OddP (w : World) (g B p : Nat) (A : Option Addr) (len cap : Nat) (n : Int) (e : Ending) (w' : World) : Prop := ∃ b : Bool, e = .returned (.bool b) ∧ (n ≤ 0 → b = false) ∧ Onl g w w' ∧ ∃ p', p' ≤ p + 1 ∧ Rd w' g B A len cap p'
set_option maxHeartbeats 400000 in
theorem odd_any (w : World) (g B p : Nat) (A : Option Addr) (len cap : Nat) (n : Int) (h : Rd w g B A len cap p) (hp : p < 1000000000) :
    Calls Try.prog 34 #[.pointer (some ⟨g, 0, none⟩), .int .i64 n] w (OddP w g B p A len cap n) := by
  by_cases hn : 0 < n
  · go_enter Try.func34, Try.ntmps34
    go_wp2_with (go_at_call 30; refine (pick_fr _ _ _ _ _ _ _ _ h hp).mono ?_; rintro e w1 ⟨v, rfl, hv, ho, hr⟩)
    go_ret
    exact ⟨_, rfl, by omega, ho, p + 1, Nat.le_refl _, hr⟩
  · go_enter Try.func34, Try.ntmps34
    go_wp2
    go_ret
    exact ⟨_, rfl, fun _ => rfl, Onl.refl _ _, p, by omega, h⟩

theorem open_ok (w : World) (A : Option Addr) (len cap B : Nat) (hB : B ≤ w.heap.size) (hb : 0 < len → ∃ b off zs, A = some ⟨b, off, none⟩ ∧ b < B ∧ Bts w b off len zs) :
    Rd (w.alloc (.cells #[.slice A (min len 2000) cap, .int .i64 0] 61)) w.heap.size B A (min len 2000) cap 0 := by
  refine ⟨by simp, by simp, by simp, by omega, by omega, hB, fun hl => ?_⟩
  obtain ⟨b, off, zs, rfl, hlt, h1, h2, h3⟩ := hb (by omega)
  refine ⟨b, off, zs.take (min len 2000), rfl, hlt, by rw [List.length_take]; omega, fun i => ?_, fun i hi => ?_⟩
  · by_cases hi : i < min len 2000
    · rw [List.getD_eq_getElem?_getD, List.getElem?_take, if_pos hi, ← List.getD_eq_getElem?_getD]; exact h2 i
    · rw [List.getD_eq_getElem?_getD, List.getElem?_take, if_neg hi]; simp
  · rw [World.cell?_alloc_lt _ _ _ (by simp only; omega), h3 i (by omega), List.getD_eq_getElem?_getD, List.getD_eq_getElem?_getD, List.getElem?_take, if_pos hi]
set_option maxHeartbeats 400000 in
theorem open_eq (w : World) (A : Option Addr) (len cap : Nat) (hc : len ≤ cap) (hm : cap ≤ 9223372036854775807) :
    Calls Try.prog 15 #[.slice A len cap] w fun e w' => e = .returned (.pointer (some ⟨w.heap.size, 0, none⟩)) ∧ w.alloc (.cells #[.slice A (min len 2000) cap, .int .i64 0] 61) = w' := by
  by_cases h : 2000 < len
  · have e : min len 2000 = 2000 := by omega
    rw [e]; clear e
    have h1 : (2000 : Int) < (len : Int) := by omega
    have h2 : (2000 : Int) ≤ (cap : Int) := by omega
    go_enter Try.func15, Try.ntmps15
    go_wp2
    go_ret
    exact ⟨rfl, rfl⟩
  · have e : min len 2000 = len := by omega
    rw [e]; clear e
    have h1 : ¬ (2000 : Int) < (len : Int) := by omega
    go_enter Try.func15, Try.ntmps15
    go_wp2
    go_ret
    exact ⟨rfl, rfl⟩
end
section
open Go.RowKit

/-- a world in which all that lay in w is as it was -/
structure Later (w : World) where
  world : World
  bel : Below w.heap.size w world

instance (w : World) : Nonempty (Later w) := ⟨⟨w, bel_refl w⟩⟩
theorem region_later {P : Program} {id : Nat} {Q : Exit → Act → World → Prop} {a : Act} {w0 w : World} {l : List Oper} (hm : P.follows .mixedOrders = true) (hB : Region.lexB .any l.toArray = true)
    (hb : Below w0.heap.size w0 w)
    (h : wpQuiet P l.toArray (fun W => ∃ x : Later w0, W = x.world) (fun a' => ∀ w' : World, (∃ x : Later w0, w' = x.world) → Q .normal a' w') l a) : (Code.region id l.toArray true).wp P Q a w :=
  wp_region_quiet (C := fun W => ∃ x : Later w0, W = x.world) hm hB ⟨⟨_, bel_dr hb⟩, rfl⟩ (by simpa using h)
theorem later_call {P : Program} {f : FuncId} {args : Array Value} {w0 : World} {x : Later w0} {v : Value}
    (h : Calls P f args x.world fun e w' => e = .returned v ∧ Below x.world.heap.size x.world w') : Calls P f args x.world fun e w'' => e = .returned v ∧ ∃ y : Later w0, w'' = y.world :=
  h.mono fun _ w' ⟨he, hb⟩ => ⟨he, ⟨w', bel_tr x.bel hb⟩, rfl⟩
theorem later_same {P : Program} {f : FuncId} {args : Array Value} {w0 : World} {x : Later w0} {v : Value}
    (h : Calls P f args x.world fun e w' => e = .returned v ∧ x.world = w') : Calls P f args x.world fun e w'' => e = .returned v ∧ ∃ y : Later w0, w'' = y.world :=
  h.mono fun _ _ ⟨he, hb⟩ => ⟨he, x, hb.symm⟩
theorem later_drew {P : Program} {f : FuncId} {args : Array Value} {w0 : World} {x : Later w0} {v : Value}
    (h : Calls P f args x.world fun e w' => e = .returned v ∧ ∃ n, w' = x.world.drewN n) : Calls P f args x.world fun e w'' => e = .returned v ∧ ∃ y : Later w0, w'' = y.world :=
  h.mono fun _ w' ⟨he, n, hb⟩ => ⟨he, ⟨w', bel_tr x.bel (by rw [hb]; exact bel_drN (bel_refl _) n)⟩, rfl⟩
theorem Later.cel {w0 : World} (x : Later w0) {b : Nat} (h : b < w0.heap.size) (o : Nat) : x.world.cell? ⟨b, o, none⟩ = w0.cell? ⟨b, o, none⟩ := x.bel.cell (p := ⟨b, o, none⟩) h
theorem Later.at {w0 : World} (x : Later w0) {a : Addr} {v : Value} (h : w0.cell? a = some v) : x.world.cell? a = some v := keep_tr h x.bel
end
section
open Go.RowKit

def flat {α : Type} (cs : α → List Value) (l : List α) : List Value := l.flatMap cs
theorem flat_len {α : Type} {cs : α → List Value} {k : Nat} (hk : ∀ t, (cs t).length = k) (l : List α) : (flat cs l).length = l.length * k := by
  induction l with
  | nil => simp [flat]
  | cons a l ih => simp only [flat, List.flatMap_cons, List.length_append, List.length_cons] at ih ⊢; rw [ih, hk, Nat.add_mul]; omega
theorem flat_snoc {α : Type} (cs : α → List Value) (l : List α) (t : α) : flat cs (l ++ [t]) = flat cs l ++ cs t := by simp [flat]
theorem flat_append {α : Type} (cs : α → List Value) (l m : List α) : flat cs (l ++ m) = flat cs l ++ flat cs m := by simp [flat]
theorem flat_get {α : Type} {cs : α → List Value} {k : Nat} (hk : ∀ t, (cs t).length = k) (d : α) (l : List α) : ∀ i j, i < l.length → j < k → (flat cs l)[i * k + j]? = (cs (l.getD i d))[j]? := by
  induction l with
  | nil => intro i j hi; simp at hi
  | cons a l ih =>
    intro i j hi hj
    have e : flat cs (a :: l) = cs a ++ flat cs l := by simp [flat]
    rw [e]
    cases i with
    | zero => rw [List.getElem?_append_left (by rw [hk]; omega)]; simp
    | succ i =>
      rw [List.getElem?_append_right (by rw [hk, Nat.add_mul]; omega), hk]
      have e2 : (i + 1) * k + j - k = i * k + j := by rw [Nat.add_mul]; omega
      rw [e2, ih i j (by simpa using hi) hj]
      simp
theorem flat_set {α : Type} {cs : α → List Value} {k : Nat} (hk : ∀ t, (cs t).length = k) (d : α) (l : List α) (i j : Nat) (hi : i < l.length) (hj : j < k) (t : α) (u : Value) (ht : cs t = (cs (l.getD i d)).set j u) :
    (flat cs l).set (i * k + j) u = flat cs (l.set i t) := by
  apply List.ext_getElem?
  intro m
  have lk := flat_len hk l
  by_cases hm : m < l.length * k
  · have hk0 : 0 < k := by omega
    obtain ⟨i', j', hi', hj', rfl⟩ : ∃ i' j', i' < l.length ∧ j' < k ∧ m = i' * k + j' :=
      ⟨m / k, m % k, (Nat.div_lt_iff_lt_mul hk0).2 hm, Nat.mod_lt _ hk0, by rw [Nat.mul_comm]; exact (Nat.div_add_mod m k).symm⟩
    rw [flat_get hk d (l.set i t) i' j' (by simpa using hi') hj']
    by_cases e : i = i'
    · subst e
      have e3 : (l.set i t).getD i d = t := by simp [List.getD_eq_getElem?_getD, hi]
      rw [e3, ht]
      by_cases ej : j = j'
      · subst ej
        rw [List.getElem?_set_self (by rw [lk]; exact hm), List.getElem?_set_self (by rw [hk]; exact hj)]
      · rw [List.getElem?_set_ne (by omega), List.getElem?_set_ne ej, flat_get hk d l i j' hi hj']
    · have e3 : (l.set i t).getD i' d = l.getD i' d := by simp [List.getD_eq_getElem?_getD, e]
      have ne : i * k + j ≠ i' * k + j' := by
        intro h
        apply e
        have h1 : (i * k + j) / k = i := by rw [Nat.mul_comm, Nat.mul_add_div hk0, Nat.div_eq_of_lt hj]; rfl
        have h2 : (i' * k + j') / k = i' := by rw [Nat.mul_comm, Nat.mul_add_div hk0, Nat.div_eq_of_lt hj']; rfl
        rw [← h1, ← h2, h]
      rw [List.getElem?_set_ne ne, e3, flat_get hk d l i' j' hi' hj']
  · rw [List.getElem?_eq_none (by rw [List.length_set, lk]; omega), List.getElem?_eq_none (by rw [flat_len hk, List.length_set]; omega)]

theorem own_push {α : Type} {cs : α → List Value} {w : World} {base : Nat} {e : TypeId} {k : Nat} {v : Value} {l : List α} {t : α} {news : List Value} (h : w.ownsRow base e k v (l.length + 1) (flat cs l ++ news)) (ht : cs t = news) : w.ownsRow base e k v (l ++ [t]).length (flat cs (l ++ [t])) := by
  rw [flat_snoc, ht]; simpa using h
theorem own_stored {α : Type} {cs : α → List Value} {k : Nat} (hk : ∀ t, (cs t).length = k) (d : α) {w : World} {base : Nat} {e : TypeId} {g cap : Nat} {l : List α} (h : w.ownsRow base e k (.slice (some ⟨g, 0, none⟩) l.length cap) l.length (flat cs l)) (i j : Nat) (hi : i < l.length) (hj : j < k) (t : α) (u : Value) (ht : cs t = (cs (l.getD i d)).set j u) :
    (w.setCell ⟨g, i * k + j, none⟩ u).ownsRow base e k (.slice (some ⟨g, 0, none⟩) l.length cap) (l.set i t).length (flat cs (l.set i t)) := by
  rw [← flat_set hk d l i j hi hj t u ht, List.length_set]; exact (h.stored _ _).1
theorem ownBlock_nil : (Value.slice none 0 0).ownBlock = none := rfl
theorem own_below {w w' : World} {base : Nat} {e : TypeId} {size : Nat} {v : Value} {n : Nat} {xs : List Value} (h : w.ownsRow base e size v n xs) (hb : Below w.heap.size w w') : w'.ownsRow base e size v n xs :=
  h.kept (row := none) ⟨hb.os, hb.tape, hb.output, hb.size, fun k hk _ => hb.block k hk⟩ (by
    rcases h.2 with ⟨rfl, _⟩ | ⟨g, cap, cur, rfl, _⟩
    · exact .inl rfl
    · exact .inr (by simp [Value.ownBlock]))
theorem own_drN {w : World} {base : Nat} {e : TypeId} {size : Nat} {v : Value} {n : Nat} {xs : List Value} (h : w.ownsRow base e size v n xs) (k : Nat) : (w.drewN k).ownsRow base e size v n xs := own_below h (bel_drN (bel_refl w) k)
theorem own_lt {w : World} {base : Nat} {e : TypeId} {size : Nat} {v : Value} {n : Nat} {xs : List Value} {g : Nat} (h : w.ownsRow base e size v n xs) (hg : v.ownBlock = some g) : base ≤ g ∧ g < w.heap.size := h.lt g hg
/-- a value that owns a list of elements, laid open -/
theorem own_open {α : Type} {cs : α → List Value} {k : Nat} (hk : ∀ t, (cs t).length = k) (d : α) {w : World} {base : Nat} {e : TypeId} {v : Value} {l : List α} (h : w.ownsRow base e k v l.length (flat cs l)) :
    ∃ A cap, v = .slice A l.length cap ∧ l.length ≤ cap ∧ cap ≤ maxLen ∧ (0 < l.length → ∃ g, A = some ⟨g, 0, none⟩ ∧ base ≤ g ∧ g < w.heap.size ∧ (∀ o, w.frozen? ⟨g, o, none⟩ = false) ∧ ∀ i j, i < l.length → j < k → w.cell? ⟨g, i * k + j, none⟩ = (cs (l.getD i d))[j]?) := by
  rcases h.2 with ⟨rfl, h0⟩ | ⟨g, cap, cur, rfl, hb, hg, hnc, hcm, hcs, ht⟩
  · exact ⟨none, 0, by rw [h0], by omega, by simp [maxLen], fun hl => by omega⟩
  · refine ⟨_, cap, rfl, hnc, hcm, fun hl => ⟨g, rfl, hb, (own_lt h rfl).2, fun o => h.frozenAt o, fun i j hi hj => ?_⟩⟩
    rw [h.cellAt _ ?_, flat_get hk d l i j hi hj]
    have h1 : (i + 1) * k ≤ l.length * k := Nat.mul_le_mul_right k (by omega)
    rw [Nat.add_mul] at h1
    omega
theorem bel_grown {W w w1 : World} {row : Option Nat} (h : Below W.heap.size W w) (hg : w.grownBy w1 row) (hr : ∀ k, row = some k → W.heap.size ≤ k) : Below W.heap.size W w1 := h.grown hg h.size hr
theorem grown_cell {w w1 : World} {row : Option Nat} (hg : w.grownBy w1 row) {a : Addr} {v : Value} (h : w.cell? a = some v) (hne : row ≠ some a.block) : w1.cell? a = some v := hg.cell h (Ne.symm hne)
theorem grown_far {w w1 : World} {row : Option Nat} (hg : w.grownBy w1 row) (b o : Nat) (h : b < w.heap.size) (hne : row ≠ some b) : w1.cell? ⟨b, o, none⟩ = w.cell? ⟨b, o, none⟩ := World.cell?_of_block (w := w) (a := ⟨b, o, none⟩) (hg.block b h (Ne.symm hne))
theorem grown_row {w w1 : World} {row : Option Nat} (hg : w.grownBy w1 row) {base : Nat} {e : TypeId} {size : Nat} {v : Value} {n : Nat} {xs : List Value} (h : w.ownsRow base e size v n xs) (hne : v.ownBlock = none ∨ v.ownBlock ≠ row) : w1.ownsRow base e size v n xs := h.kept hg hne
end
section
open Go.RowKit

/-- of what was there only block g has turned -/
structure Onb (g : Nat) (w w' : World) : Prop where
  os : w'.os = w.os
  tape : w'.tape = w.tape
  output : w'.output = w.output
  size : w.heap.size ≤ w'.heap.size
  block : ∀ k, k < w.heap.size → k ≠ g → w'.heap[k]? = w.heap[k]?
theorem Onb.refl (g : Nat) (w : World) : Onb g w w := ⟨rfl, rfl, rfl, Nat.le_refl _, fun _ _ _ => rfl⟩
theorem Onb.trans {g : Nat} {a b c : World} (h : Onb g a b) (k : Onb g b c) : Onb g a c := ⟨k.os.trans h.os, k.tape.trans h.tape, k.output.trans h.output, Nat.le_trans h.size k.size, fun i hi hn => (k.block i (Nat.lt_of_lt_of_le hi h.size) hn).trans (h.block i hi hn)⟩
theorem Onb.of_onl {g : Nat} {w w' : World} (h : Onl g w w') : Onb g w w' := ⟨h.os, h.tape, h.output, by rw [h.size]; exact Nat.le_refl _, fun i _ hn => h.block i hn⟩
theorem Onb.of_bel {g : Nat} {w w' : World} (h : Below w.heap.size w w') : Onb g w w' := ⟨h.os, h.tape, h.output, h.size, fun i hi _ => h.block i hi⟩
theorem Onb.cell {g : Nat} {w w' : World} (h : Onb g w w') (b o : Nat) (hb : b < w.heap.size) (hn : b ≠ g) : w'.cell? ⟨b, o, none⟩ = w.cell? ⟨b, o, none⟩ := World.cell?_of_block (w := w) (h.block b hb hn)
theorem Onb.frozen {g : Nat} {w w' : World} (h : Onb g w w') (b o : Nat) (hb : b < w.heap.size) (hn : b ≠ g) : w'.frozen? ⟨b, o, none⟩ = w.frozen? ⟨b, o, none⟩ := World.frozen?_of_block (w := w) (h.block b hb hn)
theorem Onb.below {g : Nat} {B : Nat} {w w' : World} (h : Onb g w w') (hB : B ≤ g) (hB' : B ≤ w.heap.size) : Below B w w' := ⟨h.os, h.tape, h.output, h.size, fun k hk => h.block k (by omega) (by omega)⟩
theorem Onb.set {g : Nat} {w w' : World} (h : Onb g w w') {p : Addr} (hp : w.heap.size ≤ p.block) (u : Value) : Onb g w (w'.setCell p u) :=
  ⟨h.os, h.tape, h.output, by simpa [World.setCell] using h.size, fun i hi hn => (Below.heap_setCell w' p u i (by omega)).trans (h.block i hi hn)⟩

theorem lit_at {w : World} {b : Nat} {t : TypeId} {fr : Nat × Nat} {xs : List Int} (h : w.heap[b]? = some (.cells (xs.map (Value.int .i64)).toArray t fr)) {v : Int} (v0 : 0 ≤ v) (v1 : v < xs.length) :
    ∃ u : Int, u ∈ xs ∧ w.cell? ⟨b, v.toNat, none⟩ = some (.int .i64 u) := by
  have hv : v.toNat < xs.length := by omega
  refine ⟨xs[v.toNat], List.getElem_mem hv, ?_⟩
  rw [cell_of_row w b _ _ t fr h]
  simp [hv]
theorem own_gt {w : World} {base : Nat} {e : TypeId} {size : Nat} {v : Value} {n : Nat} {xs : List Value} {g : Nat} (h : w.ownsRow base e size v n xs) (hg : g < base) : ∀ k, v.ownBlock = some k → g < k := fun k hk => by have := (h.lt k hk).1; omega
theorem own_ge {w : World} {base : Nat} {e : TypeId} {size : Nat} {v : Value} {n : Nat} {xs : List Value} (h : w.ownsRow base e size v n xs) : ∀ k, v.ownBlock = some k → base ≤ k := fun k hk => (h.lt k hk).1
theorem Onb.alloc {g : Nat} {w w' : World} (h : Onb g w w') (o : Obj) : Onb g w (w'.alloc o) := h.trans (Onb.of_bel (bel_al (bel_refl w') o))
theorem Onb.drew {g : Nat} {w w' : World} (h : Onb g w w') : Onb g w w'.drew := h.trans (Onb.of_bel (bel_dr (bel_refl w')))
theorem Onb.drewN {g : Nat} {w w' : World} (h : Onb g w w') (k : Nat) : Onb g w (w'.drewN k) := h.trans (Onb.of_bel (bel_drN (bel_refl w') k))
theorem Onb.grown {g : Nat} {w a b : World} {row : Option Nat} (h : Onb g w a) (hg : a.grownBy b row) (hr : ∀ k, row = some k → w.heap.size ≤ k) : Onb g w b :=
  ⟨hg.os.trans h.os, hg.tape.trans h.tape, hg.output.trans h.output, Nat.le_trans h.size hg.size, fun i hi hn => (hg.block i (Nat.lt_of_lt_of_le hi h.size) (fun e => by have := hr i e.symm; omega)).trans (h.block i hi hn)⟩
theorem own_onl {g : Nat} {w w' : World} {base : Nat} {e : TypeId} {size : Nat} {v : Value} {n : Nat} {xs : List Value} (h : w.ownsRow base e size v n xs) (hb : Onl g w w') (hg : g < base) : w'.ownsRow base e size v n xs :=
  h.kept (row := some g) ⟨hb.os, hb.tape, hb.output, by rw [hb.size]; exact Nat.le_refl _, fun k _ hn => hb.block k (fun e => hn (by rw [e]))⟩ (.inr (fun e => by have := (h.lt g e).1; omega))
theorem own_onb {g : Nat} {w w' : World} {base : Nat} {e : TypeId} {size : Nat} {v : Value} {n : Nat} {xs : List Value} (h : w.ownsRow base e size v n xs) (hb : Onb g w w') (hg : g < base) : w'.ownsRow base e size v n xs :=
  h.kept (row := some g) ⟨hb.os, hb.tape, hb.output, hb.size, fun k hk hn => hb.block k hk (fun e => hn (by rw [e]))⟩ (.inr (fun e => by have := (h.lt g e).1; omega))
theorem own_off {w : World} {base : Nat} {e : TypeId} {size : Nat} {v : Value} {n : Nat} {xs : List Value} (h : w.ownsRow base e size v n xs) {q : Addr} (hq : v.ownBlock ≠ some q.block) (u : Value) : (w.setCell q u).ownsRow base e size v n xs :=
  h.kept (row := some q.block) ⟨rfl, rfl, rfl, by simp [World.setCell], fun k _ hn => Below.heap_setCell w q u k (fun e => hn (by rw [e]))⟩ (.inr hq)
theorem Rd.grown {w w' : World} {g B : Nat} {A : Option Addr} {len cap p : Nat} (h : Rd w g B A len cap p) {row : Option Nat} (hg : w.grownBy w' row) (hr : ∀ k, row = some k → g < k) : Rd w' g B A len cap p :=
  h.keep (fun b o hh => World.cell?_of_block (w := w) (a := ⟨b, o, none⟩) (hg.block b (by have := h.gl; have := h.Bg; omega) (fun e => by have := hr b e.symm; have := h.Bg; omega)))
    (World.frozen?_of_block (w := w) (a := ⟨g, 1, none⟩) (hg.block g h.gl (fun e => by have := hr g e.symm; omega)))
theorem Onl.at {g : Nat} {w w' : World} (h : Onl g w w') {a : Addr} {v : Value} (hv : w.cell? a = some v) (hn : a.block ≠ g) : w'.cell? a = some v := by
  rw [World.cell?_of_block (w := w) (h.block a.block hn)]; exact hv
theorem Onb.at {g : Nat} {w w' : World} (h : Onb g w w') {a : Addr} {v : Value} (hv : w.cell? a = some v) (hn : a.block ≠ g) : w'.cell? a = some v := by
  rw [World.cell?_of_block (w := w) (h.block a.block (World.block_lt_of_cell? w a hv) hn)]; exact hv
end
section
open Go.RowKit

def Blk (w : World) (P : Nat) (cs : Array Value) (T : TypeId) : Prop := w.heap[P]? = some (.cells cs T (0, 0))
theorem Blk.lt {w : World} {P : Nat} {cs : Array Value} {T : TypeId} (h : Blk w P cs T) : P < w.heap.size := by
  rcases Nat.lt_or_ge P w.heap.size with hl | hg
  · exact hl
  · unfold Blk at h; rw [Array.getElem?_eq_none hg] at h; cases h
theorem Blk.cell {w : World} {P : Nat} {cs : Array Value} {T : TypeId} (h : Blk w P cs T) (o : Nat) : w.cell? ⟨P, o, none⟩ = cs[o]? := cell_of_row w P o cs T (0, 0) h
theorem Blk.free {w : World} {P : Nat} {cs : Array Value} {T : TypeId} (h : Blk w P cs T) (o : Nat) : w.frozen? ⟨P, o, none⟩ = false := frozen_of_row w P o cs T h
theorem Blk.new (w : World) (cs : Array Value) (T : TypeId) : Blk (w.alloc (.cells cs T)) w.heap.size cs T := heap_alloc_new w _
theorem Blk.below {w w' : World} {P : Nat} {cs : Array Value} {T : TypeId} (h : Blk w P cs T) (hb : Below w.heap.size w w') : Blk w' P cs T := (hb.block P h.lt).trans h
theorem Blk.alloc {w : World} {P : Nat} {cs : Array Value} {T : TypeId} (h : Blk w P cs T) (o : Obj) : Blk (w.alloc o) P cs T := h.below (bel_al (bel_refl w) o)
theorem Blk.drew {w : World} {P : Nat} {cs : Array Value} {T : TypeId} (h : Blk w P cs T) : Blk w.drew P cs T := h
theorem Blk.onl {g : Nat} {w w' : World} {P : Nat} {cs : Array Value} {T : TypeId} (h : Blk w P cs T) (ho : Onl g w w') (hn : P ≠ g) : Blk w' P cs T := (ho.block P hn).trans h
theorem Blk.onb {g : Nat} {w w' : World} {P : Nat} {cs : Array Value} {T : TypeId} (h : Blk w P cs T) (ho : Onb g w w') (hn : P ≠ g) : Blk w' P cs T := (ho.block P h.lt hn).trans h
theorem Blk.grown {w w' : World} {P : Nat} {cs : Array Value} {T : TypeId} {row : Option Nat} (h : Blk w P cs T) (hg : w.grownBy w' row) (hn : row ≠ some P) : Blk w' P cs T := (hg.block P h.lt (Ne.symm hn)).trans h
theorem Blk.set {w : World} {P : Nat} {cs : Array Value} {T : TypeId} (h : Blk w P cs T) (o : Nat) (u : Value) : Blk (w.setCell ⟨P, o, none⟩ u) P (cs.setIfInBounds o u) T := heap_setCell_same w P o cs T u h
theorem Blk.off {w : World} {P : Nat} {cs : Array Value} {T : TypeId} (h : Blk w P cs T) {q : Addr} (hn : P ≠ q.block) (u : Value) : Blk (w.setCell q u) P cs T := (heap_setCell_other w q P u hn).trans h
theorem Blk.s30 {w : World} {P : Nat} {a b c u : Value} {T : TypeId} (h : Blk w P #[a, b, c] T) : Blk (w.setCell ⟨P, 0, none⟩ u) P #[u, b, c] T := h.set 0 u
theorem Blk.s31 {w : World} {P : Nat} {a b c u : Value} {T : TypeId} (h : Blk w P #[a, b, c] T) : Blk (w.setCell ⟨P, 1, none⟩ u) P #[a, u, c] T := h.set 1 u
theorem Blk.s32 {w : World} {P : Nat} {a b c u : Value} {T : TypeId} (h : Blk w P #[a, b, c] T) : Blk (w.setCell ⟨P, 2, none⟩ u) P #[a, b, u] T := h.set 2 u
theorem Blk.s60 {w : World} {P : Nat} {a b c d e f u : Value} {T : TypeId} (h : Blk w P #[a, b, c, d, e, f] T) : Blk (w.setCell ⟨P, 0, none⟩ u) P #[u, b, c, d, e, f] T := h.set 0 u
theorem Blk.s61 {w : World} {P : Nat} {a b c d e f u : Value} {T : TypeId} (h : Blk w P #[a, b, c, d, e, f] T) : Blk (w.setCell ⟨P, 1, none⟩ u) P #[a, u, c, d, e, f] T := h.set 1 u
theorem Blk.s62 {w : World} {P : Nat} {a b c d e f u : Value} {T : TypeId} (h : Blk w P #[a, b, c, d, e, f] T) : Blk (w.setCell ⟨P, 2, none⟩ u) P #[a, b, u, d, e, f] T := h.set 2 u
theorem Blk.s63 {w : World} {P : Nat} {a b c d e f u : Value} {T : TypeId} (h : Blk w P #[a, b, c, d, e, f] T) : Blk (w.setCell ⟨P, 3, none⟩ u) P #[a, b, c, u, e, f] T := h.set 3 u
theorem Blk.s64 {w : World} {P : Nat} {a b c d e f u : Value} {T : TypeId} (h : Blk w P #[a, b, c, d, e, f] T) : Blk (w.setCell ⟨P, 4, none⟩ u) P #[a, b, c, d, u, f] T := h.set 4 u
theorem Blk.s65 {w : World} {P : Nat} {a b c d e f u : Value} {T : TypeId} (h : Blk w P #[a, b, c, d, e, f] T) : Blk (w.setCell ⟨P, 5, none⟩ u) P #[a, b, c, d, e, u] T := h.set 5 u
theorem Blk.s20 {w : World} {P : Nat} {a b u : Value} {T : TypeId} (h : Blk w P #[a, b] T) : Blk (w.setCell ⟨P, 0, none⟩ u) P #[u, b] T := h.set 0 u
theorem Blk.s21 {w : World} {P : Nat} {a b u : Value} {T : TypeId} (h : Blk w P #[a, b] T) : Blk (w.setCell ⟨P, 1, none⟩ u) P #[a, u] T := h.set 1 u
/-- Blk.set3: the three cells at once -/
theorem Blk.set3 {w : World} {P : Nat} {a b c u v x : Value} {T : TypeId} (h : Blk w P #[a, b, c] T) : Blk (((w.setCell ⟨P, 0, none⟩ u).setCell ⟨P, 1, none⟩ v).setCell ⟨P, 2, none⟩ x) P #[u, v, x] T := (h.s30.s31).s32
end
section
open Go.RowKit

theorem ix5 : ∀ w : World, (Instr.index 63 (.agg #[.int .i64 0, .int .i64 2, .int .i64 4, .int .i64 5, .int .i64 7, .int .i64 9, .int .i64 11]) (.int .i64 5)).run Try.prog w = .ok (.int .i64 9) w := fun _ => by kernel_rfl
set_option maxHeartbeats 400000 in
theorem steps5 (w : World) : Calls Try.prog 21 #[.int .i64 5] w fun e w' => e = .returned (.int .i64 9) ∧ w = w' := by
  have h := ix5
  go_enter Try.func21, Try.ntmps21
  go_wp2
  go_ret
  exact ⟨rfl, rfl⟩
theorem quiet_lf {P : Program} {f : FuncId} {args : Array Value} {w : World} {n : Nat} {v : Value}
    (h : Calls P f args (w.drewN n) fun e w' => e = .returned v ∧ w.drewN n = w') : Calls P f args (w.drewN n) fun e w'' => e = .returned v ∧ ∃ m, w'' = w.drewN m :=
  h.mono fun _ _ ⟨he, hm⟩ => ⟨he, n, hm.symm⟩
set_option maxHeartbeats 400000 in
theorem key57 (w : World) : Calls Try.prog 9 #[.agg #[.int .i64 5, .int .i64 0, .int .i64 4]] w fun e w' => e = .returned (.int .i64 57) ∧ Below w.heap.size w w' := by
  go_enter Try.func9, Try.ntmps9
  go_wp2
  go_big_quiet ((go_at_call 21; exact quiet_lf (steps5 _)))
  go_wp2
  go_ret
  exact ⟨rfl, by repeat (first | (with_reducible assumption) | (exact bel_undr (by with_reducible assumption)) | (with_reducible exact bel_refl _) | (with_reducible refine bel_dr ?_) | (with_reducible refine bel_drN ?_ _) | (with_reducible refine bel_al ?_ _) | (refine bel_set ?_ (by first | (simp; done) | (simp; exact Below.size (by assumption)) | (simp; omega)) _) | (with_reducible refine bel_tr ?_ (by assumption)))⟩
set_option maxHeartbeats 400000 in
theorem alive_any (w : World) : Calls Try.prog 8 #[] w fun e w' => e = .returned (.bool true) ∧ Below w.heap.size w w' := by
  go_enter Try.func8, Try.ntmps8
  go_wp2_with (go_at_call 9; refine (key57 _).mono ?_; rintro e w1 ⟨rfl, hb1⟩)
  go_ret
  exact ⟨rfl, by repeat (first | (with_reducible assumption) | (exact bel_undr (by with_reducible assumption)) | (with_reducible exact bel_refl _) | (with_reducible refine bel_dr ?_) | (with_reducible refine bel_drN ?_ _) | (with_reducible refine bel_al ?_ _) | (refine bel_set ?_ (by first | (simp; done) | (simp; exact Below.size (by assumption)) | (simp; omega)) _) | (with_reducible refine bel_tr ?_ (by assumption)))⟩

/-- the bytes of a law's argument -/
structure Cod (w : World) (A : Option Addr) (len cap : Nat) : Prop where
  lc : len ≤ cap
  cm : cap ≤ 9223372036854775807
  bt : 0 < len → ∃ b off zs, A = some ⟨b, off, none⟩ ∧ b < w.heap.size ∧ Bts w b off len zs
theorem Cod.rd {w w' : World} {A : Option Addr} {len cap : Nat} (h : Cod w A len cap) (hb : Below w.heap.size w w') : Rd (w'.alloc (.cells #[.slice A (min len 2000) cap, .int .i64 0] 61)) w'.heap.size w.heap.size A (min len 2000) cap 0 :=
  open_ok w' A len cap w.heap.size hb.size fun hl => by
    obtain ⟨b, off, zs, e, h1, h2⟩ := h.bt hl
    exact ⟨b, off, zs, e, h1, h2.keep fun i _ => hb.cell (p := ⟨b, _, none⟩) h1⟩
end
section
open Go.ChangeShapes Go.WideShapes Go.ChangeAt Go.RowKit

theorem cod_of {H : Type} {enc : TypeId × Value → H} {W : World} {a : Option Addr} {len cap : Nat} {d : DataW H} {p : List MemPlace}
    (h : DataW.Trod enc Try.prog W 0 (fun _ => true) true 22 (.slice a len cap) d p) : Cod W a len cap := by
  obtain ⟨fuel, hf⟩ := h
  rcases open_ints Try.underlying22 Try.underlying5 (by kernel_rfl) hf with ⟨hcs, _⟩ | ⟨x, l, c, zs, hcs, _, hl, hm, hz, _, hcell, hwz⟩
  · simp [Value.cells] at hcs
    obtain ⟨rfl, rfl, rfl⟩ := hcs
    exact ⟨Nat.le_refl _, by omega, fun h => absurd h (by omega)⟩
  · simp [Value.cells] at hcs
    obtain ⟨rfl, rfl, rfl⟩ := hcs
    simp only [ite_true] at hz
    refine ⟨hl, by unfold maxLen at hm; exact hm, fun h0 => ?_⟩
    obtain ⟨b, off, spot⟩ := x
    have hs : spot = none := by
      have := hcell 0 (by omega)
      simpa [Addr.add] using World.cell?_spot this
    subst hs
    have ha : ∀ n : Nat, (⟨b, off, none⟩ : Addr).add n = ⟨b, off + n, none⟩ := fun n => by
      unfold Addr.add; by_cases e : n = 0 <;> simp [e]
    simp only [ha] at hcell
    have hbd : ∀ i, 0 ≤ zs.getD i 0 ∧ zs.getD i 0 ≤ 255 := fun i => by
      rw [List.getD_eq_getElem?_getD]; exact Go.range_u8 hwz i
    refine ⟨b, off, zs.take len, rfl, by simpa using World.block_lt_of_cell? _ _ (hcell 0 (by omega)), by rw [List.length_take]; omega, fun i => ?_, fun i hi => ?_⟩
    · by_cases hi : i < len
      · rw [List.getD_eq_getElem?_getD, List.getElem?_take, if_pos hi, ← List.getD_eq_getElem?_getD]; exact hbd i
      · rw [List.getD_eq_getElem?_getD, List.getElem?_take, if_neg hi]; simp
    · rw [hcell i (by omega), List.getD_eq_getElem?_getD, List.getD_eq_getElem?_getD, List.getElem?_take, if_pos hi]
end
section
open Go.ChangeShapes Go.WideShapes Go.Deep Go.RowKit
section
variable {H : Type} {enc : TypeId × Value → H} {P : Program} {w : World} {base : Nat} {spare : Nat → Bool} {held : Bool}
theorem open_slice_fields {t e : TypeId} {fs : Array Field} {fuel : Nat} {cs : List Value} {x : DataW H × List MemPlace} (ht : P.underlying t = some (.slice e)) (he : P.underlying e = some (.struct fs))
    (hone : oneCellFields P fs = true) (hC : P.cellsOf e = fs.size) (h : DataW.trod enc P w base spare held fuel t cs = some x) :
    (cs = [.slice none 0 0] ∧ x = (.nil, [])) ∨
    ∃ (a : Addr) (len cap m : Nat) (D : Nat → DataW H) (Pl : Nat → List MemPlace), cs = [.slice (some a) len cap] ∧ base ≤ a.block ∧ len ≤ cap ∧ cap ≤ maxLen ∧ m = (if spare a.block then cap else len) ∧
      x = (.slice ((List.range len).map D) ((List.range (m - len)).map fun j => D (len + j)), MemPlace.row a (m * fs.size) ++ (List.range m).flatMap Pl) ∧
      ∀ i, i < m → ∃ (ys : List (DataW H × List MemPlace)) (n : Nat), D i = .agg (ys.map (·.1)) ∧ Pl i = ys.flatMap (·.2) ∧ ys.length = fs.size ∧
        ∀ (j : Nat) (f : Field), fs[j]? = some f → ∃ (v : Value) (y : DataW H × List MemPlace), w.cell? (a.add (i * fs.size + j)) = some v ∧ ys[j]? = some y ∧ DataW.trod enc P w base spare held n f.type [v] = some y := by
  rcases open_slice ht h with h0 | ⟨a, len, cap, m, n, D, Pl, hcs, hb, hl, hm, hmm, hx, hi⟩
  · exact .inl h0
  · refine .inr ⟨a, len, cap, m, D, Pl, hcs, hb, hl, hm, hmm, by rw [hC] at hx; exact hx, fun i him => ?_⟩
    obtain ⟨cs', hc, ht'⟩ := hi i him
    rw [hC] at hc
    obtain ⟨ys, n', hn', hy, hlen, hyl, hf⟩ := DataW.trod_struct he ht'
    obtain ⟨_, hcl, hat⟩ := World.cells?_some hc
    simp only [Prod.mk.injEq] at hy
    refine ⟨ys, n', hy.1, hy.2, hyl, fun j f hj => ?_⟩
    obtain ⟨ho, hk⟩ := hone_of hone j f hj
    have hjl : j < fs.size := (Array.getElem?_eq_some_iff.1 hj).1
    have hcell := hat j hjl
    have hv : cs'[j]? = some (cs'[j]'(by omega)) := List.getElem?_eq_getElem (by omega)
    have h1 := hf j f hj
    rw [ho, hk] at h1
    have hone' : (cs'.drop j).take 1 = [cs'[j]'(by omega)] := by
      rw [List.drop_eq_getElem_cons (by omega)]
      rfl
    rw [hone'] at h1
    have hys : ys[j]? = some (ys[j]'(by omega)) := List.getElem?_eq_getElem (by omega)
    refine ⟨_, _, ?_, hys, h1.trans hys⟩
    rw [← Go.Deep.add_add, hcell, hv]
end
theorem list_of {α : Type} (d : α) (Q : Nat → α → Prop) : ∀ n, (∀ i, i < n → ∃ t, Q i t) → ∃ l : List α, l.length = n ∧ ∀ i, i < n → Q i (l.getD i d)
  | 0, _ => ⟨[], rfl, fun i hi => absurd hi (by omega)⟩
  | n + 1, h => by
    obtain ⟨l, hl, hq⟩ := list_of d Q n fun i hi => h i (by omega)
    obtain ⟨t, ht⟩ := h n (by omega)
    refine ⟨l ++ [t], by simp [hl], fun i hi => ?_⟩
    by_cases e : i < n
    · have := hq i e
      rwa [List.getD_eq_getElem?_getD, List.getElem?_append_left (by omega), ← List.getD_eq_getElem?_getD]
    · obtain rfl : i = n := by omega
      have hg : (l ++ [t]).getD i d = t := by rw [← hl]; simp
      rw [hg]; exact ht
end
end Go.Proofs.Ytdmidimjbhkjoaa
