/- The reader of the generators, by its frame: what a step leaves; how the reader lives on while others write. -/
import Derived.Test.YtaieamobjbckdaaPick
import Derived.Test.YtaieamobjbckdaaBel
namespace Go.Proofs.Ytaieamobjbckdaa
set_option linter.unusedSimpArgs false
set_option linter.unusedVariables false
open Go.RowKit

/-- only block g has turned, and no block has come -/
structure Onl (g : Nat) (w w' : World) : Prop where
  os : w'.os = w.os
  tape : w'.tape = w.tape
  output : w'.output = w.output
  size : w'.heap.size = w.heap.size
  block : ∀ k, k ≠ g → w'.heap[k]? = w.heap[k]?
def InR (n v : Int) : Prop := 0 ≤ v ∧ (1 ≤ n → v < n) ∧ (n < 1 → v = 0)

theorem Onl.refl (g : Nat) (w : World) : Onl g w w := ⟨rfl, rfl, rfl, rfl, fun _ _ => rfl⟩
theorem Onl.cell {g : Nat} {w w' : World} (h : Onl g w w') (b o : Nat) (hb : b ≠ g) : w'.cell? ⟨b, o, none⟩ = w.cell? ⟨b, o, none⟩ := World.cell?_of_block (w := w) (h.block b hb)
theorem Onl.frozen {g : Nat} {w w' : World} (h : Onl g w w') (b o : Nat) (hb : b ≠ g) : w'.frozen? ⟨b, o, none⟩ = w.frozen? ⟨b, o, none⟩ := World.frozen?_of_block (w := w) (h.block b hb)
theorem Onl.below {g B : Nat} {w w' : World} (h : Onl g w w') (hB : B ≤ g) : Below B w w' := ⟨h.os, h.tape, h.output, by rw [h.size]; exact Nat.le_refl _, fun k hk => h.block k (by omega)⟩
theorem Onl.trans {g : Nat} {a b c : World} (h : Onl g a b) (k : Onl g b c) : Onl g a c := ⟨k.os.trans h.os, k.tape.trans h.tape, k.output.trans h.output, k.size.trans h.size, fun i hi => (k.block i hi).trans (h.block i hi)⟩

theorem Bts.keep {w w' : World} {b off len : Nat} {zs : List Int} (h : Bts w b off len zs) (hc : ∀ i, i < len → w'.cell? ⟨b, off + i, none⟩ = w.cell? ⟨b, off + i, none⟩) : Bts w' b off len zs :=
  ⟨h.1, h.2.1, fun i hi => (hc i hi).trans (h.2.2 i hi)⟩
theorem Rd.gl {w : World} {g B : Nat} {A : Option Addr} {len cap p : Nat} (h : Rd w g B A len cap p) : g < w.heap.size := World.block_lt_of_cell? w ⟨g, 0, none⟩ h.c0
theorem Rd.keep {w w' : World} {g B : Nat} {A : Option Addr} {len cap p : Nat} (h : Rd w g B A len cap p) (hc : ∀ b o, b < B ∨ b = g → w'.cell? ⟨b, o, none⟩ = w.cell? ⟨b, o, none⟩) (hf : w'.frozen? ⟨g, 1, none⟩ = w.frozen? ⟨g, 1, none⟩) : Rd w' g B A len cap p :=
  ⟨(hc g 0 (.inr rfl)).trans h.c0, (hc g 1 (.inr rfl)).trans h.c1, hf.trans h.f1, h.pb, h.ln, h.Bg, fun hl => by
    obtain ⟨b, off, zs, rfl, hb, hz⟩ := h.bt hl
    exact ⟨b, off, zs, rfl, hb, hz.keep fun i _ => hc b _ (.inl hb)⟩⟩
theorem Rd.below {w w' : World} {g B : Nat} {A : Option Addr} {len cap p : Nat} (h : Rd w g B A len cap p) (hb : Below w.heap.size w w') : Rd w' g B A len cap p :=
  h.keep (fun b o hh => hb.cell (p := ⟨b, o, none⟩) (by have := h.gl; have := h.Bg; simp only; omega)) (hb.frozen (p := ⟨g, 1, none⟩) h.gl)
theorem Rd.alloc {w : World} {g B : Nat} {A : Option Addr} {len cap p : Nat} (h : Rd w g B A len cap p) (o : Obj) : Rd (w.alloc o) g B A len cap p := h.below (bel_al (bel_refl w) o)
theorem Rd.drew {w : World} {g B : Nat} {A : Option Addr} {len cap p : Nat} (h : Rd w g B A len cap p) : Rd w.drew g B A len cap p := h.below (bel_dr (bel_refl w))
theorem Rd.drewN {w : World} {g B : Nat} {A : Option Addr} {len cap p : Nat} (h : Rd w g B A len cap p) (k : Nat) : Rd (w.drewN k) g B A len cap p := h.below (bel_drN (bel_refl w) k)
theorem Rd.set {w : World} {g B : Nat} {A : Option Addr} {len cap p : Nat} (h : Rd w g B A len cap p) {q : Addr} (h0 : B ≤ q.block) (h1 : q.block ≠ g) (u : Value) : Rd (w.setCell q u) g B A len cap p :=
  h.keep (fun b o hh => World.cell?_setCell_other _ _ _ _ (by rintro rfl; simp only at h0 h1; omega)) (by simp)

theorem pick_fr (w : World) (g B p : Nat) (A : Option Addr) (len cap : Nat) (n : Int) (h : Rd w g B A len cap p) (hp : p < 1000000000) :
    Calls Try.prog 16 #[.pointer (some ⟨g, 0, none⟩), .int .i64 n] w fun e w' => ∃ v : Int, e = .returned (.int .i64 v) ∧ InR n v ∧ Onl g w w' ∧ Rd w' g B A len cap (p + 1) := by
  refine (pick_any w g B p A len cap n h).mono ?_
  rintro e w' ⟨v, he, h0, h1, h2, k, rfl⟩
  have ho : Onl g w ((w.setCell ⟨g, 1, none⟩ (.int .i64 ((p : Int) + 1))).drewN k) :=
    ⟨rfl, rfl, rfl, by show (w.setCell _ _).heap.size = _; simp [World.setCell], fun i hi => Below.heap_setCell w ⟨g, 1, none⟩ _ i (by simpa using hi)⟩
  refine ⟨v, he, ⟨h0, h1, h2⟩, ho, ?_⟩
  have hc0 : ((w.setCell ⟨g, 1, none⟩ (.int .i64 ((p : Int) + 1))).drewN k).cell? ⟨g, 0, none⟩ = w.cell? ⟨g, 0, none⟩ := World.cell?_setCell_other w ⟨g, 1, none⟩ ⟨g, 0, none⟩ _ (by simp)
  have hc1 : ((w.setCell ⟨g, 1, none⟩ (.int .i64 ((p : Int) + 1))).drewN k).cell? ⟨g, 1, none⟩ = some (.int .i64 ((p : Int) + 1)) := World.cell?_setCell_same w ⟨g, 1, none⟩ _ h.c1
  refine ⟨hc0.trans h.c0, by rw [hc1]; rfl, ?_, by omega, h.ln, h.Bg, fun hl => ?_⟩
  · show (w.setCell _ _).frozen? _ = _
    simpa using h.f1
  · obtain ⟨b, off, zs, rfl, hb, hz⟩ := h.bt hl
    have := h.Bg
    exact ⟨b, off, zs, rfl, hb, hz.keep fun i _ => ho.cell b _ (by omega)⟩

def OddP (w : World) (g B p : Nat) (A : Option Addr) (len cap : Nat) (n : Int) (e : Ending) (w' : World) : Prop := ∃ b : Bool, e = .returned (.bool b) ∧ (n ≤ 0 → b = false) ∧ Onl g w w' ∧ ∃ p', p' ≤ p + 1 ∧ Rd w' g B A len cap p'
set_option maxHeartbeats 400000 in
theorem odd_any (w : World) (g B p : Nat) (A : Option Addr) (len cap : Nat) (n : Int) (h : Rd w g B A len cap p) (hp : p < 1000000000) :
    Calls Try.prog 17 #[.pointer (some ⟨g, 0, none⟩), .int .i64 n] w (OddP w g B p A len cap n) := by
  by_cases hn : 0 < n
  · go_enter Try.func17, Try.ntmps17
    go_wp2_with (go_at_call 16; refine (pick_fr _ _ _ _ _ _ _ _ h hp).mono ?_; rintro e w1 ⟨v, rfl, hv, ho, hr⟩)
    go_ret
    exact ⟨_, rfl, by omega, ho, p + 1, Nat.le_refl _, hr⟩
  · go_enter Try.func17, Try.ntmps17
    go_wp2
    go_ret
    exact ⟨_, rfl, fun _ => rfl, Onl.refl _ _, p, by omega, h⟩

theorem open_ok (w : World) (A : Option Addr) (len cap B : Nat) (hB : B ≤ w.heap.size) (hb : 0 < len → ∃ b off zs, A = some ⟨b, off, none⟩ ∧ b < B ∧ Bts w b off len zs) :
    Rd (w.alloc (.cells #[.slice A (min len 2000) cap, .int .i64 0] 46)) w.heap.size B A (min len 2000) cap 0 := by
  refine ⟨by simp, by simp, by simp, by omega, by omega, hB, fun hl => ?_⟩
  obtain ⟨b, off, zs, rfl, hlt, h1, h2, h3⟩ := hb (by omega)
  refine ⟨b, off, zs.take (min len 2000), rfl, hlt, by rw [List.length_take]; omega, fun i => ?_, fun i hi => ?_⟩
  · by_cases hi : i < min len 2000
    · rw [List.getD_eq_getElem?_getD, List.getElem?_take, if_pos hi, ← List.getD_eq_getElem?_getD]; exact h2 i
    · rw [List.getD_eq_getElem?_getD, List.getElem?_take, if_neg hi]; simp
  · rw [World.cell?_alloc_lt _ _ _ (by simp only; omega), h3 i (by omega), List.getD_eq_getElem?_getD, List.getD_eq_getElem?_getD, List.getElem?_take, if_pos hi]
set_option maxHeartbeats 400000 in
theorem open_eq (w : World) (A : Option Addr) (len cap : Nat) (hc : len ≤ cap) (hm : cap ≤ 9223372036854775807) :
    Calls Try.prog 9 #[.slice A len cap] w fun e w' => e = .returned (.pointer (some ⟨w.heap.size, 0, none⟩)) ∧ w.alloc (.cells #[.slice A (min len 2000) cap, .int .i64 0] 46) = w' := by
  by_cases h : 2000 < len
  · have e : min len 2000 = 2000 := by omega
    rw [e]; clear e
    have h1 : (2000 : Int) < (len : Int) := by omega
    have h2 : (2000 : Int) ≤ (cap : Int) := by omega
    go_enter Try.func9, Try.ntmps9
    go_wp2
    go_ret
    exact ⟨rfl, rfl⟩
  · have e : min len 2000 = len := by omega
    rw [e]; clear e
    have h1 : ¬ (2000 : Int) < (len : Int) := by omega
    go_enter Try.func9, Try.ntmps9
    go_wp2
    go_ret
    exact ⟨rfl, rfl⟩
end Go.Proofs.Ytaieamobjbckdaa
