/- What a function leaves that only stores into one slice. The marks that a law lays into a slice of Note, and finds again; slices that the call itself made. Intervals: when one is valid; of the program and of the reference. A region that draws its order, whose first operations only read or call what only makes memory, and whose last ones come up one by one behind them (an append, a store): the first walked once in whatever later world, the last in the order of the text. A region that draws its order, walked operation by operation, once each, under an invariant that speaks of what is done. -/
import Derived.Test.YtiapfpjggginoaaBa
import Derived.Test.YtiapfpjggginoaaRowNt
import Derived.Test.YtiapfpjggginoaaPitch
import Derived.StillTail
import Derived.RegionTactic
namespace Go.Proofs.Ytiapfpjggginoaa
set_option linter.unusedSimpArgs false
set_option linter.unusedVariables false
section
open Go.RowKit

theorem Onl.set {b : Nat} (w : World) (o : Nat) (u : Value) : Onl b w (w.setCell ⟨b, o, none⟩ u) :=
  ⟨rfl, rfl, rfl, by simp [World.setCell], fun k hk => Below.heap_setCell w ⟨b, o, none⟩ u k hk⟩
structure Trn (A : Option Addr) (n : Nat) (w w' : World) : Prop where
  os : w'.os = w.os
  tape : w'.tape = w.tape
  output : w'.output = w.output
  size : w'.heap.size = w.heap.size
  block : ∀ i, i < w.heap.size → (0 < n → ∀ a : Addr, A = some a → a.block ≠ i) → w'.heap[i]? = w.heap[i]?
theorem Trn.of {A : Option Addr} {b off n : Nat} {w w' : World} (h : Onl b w w') (hz : n = 0 → w = w') (hA : 0 < n → A = some ⟨b, off, none⟩) : Trn A n w w' :=
  ⟨h.os, h.tape, h.output, h.size, fun i hi hne => by
    by_cases h0 : n = 0
    · rw [← hz h0]
    · exact h.block i (fun e => hne (by omega) ⟨b, off, none⟩ (hA (by omega)) e.symm)⟩
theorem Trn.below {A : Option Addr} {n B : Nat} {w w' : World} (h : Trn A n w w') (hB : B ≤ w.heap.size) (hne : ∀ a : Addr, 0 < n → A = some a → B ≤ a.block) : Below B w w' :=
  ⟨h.os, h.tape, h.output, by rw [h.size]; exact Nat.le_refl _, fun i hi => h.block i (by omega) fun hn a ha => by have := hne a hn ha; omega⟩
theorem bel_trn {A : Option Addr} {n : Nat} {W w w' : World} (h : Below W.heap.size W w) (t : Trn A n w w') (hne : ∀ a : Addr, 0 < n → A = some a → W.heap.size ≤ a.block) : Below W.heap.size W w' := h.trans (t.below h.size hne)
end
section
open Go.RowKit

def CMNt (w : World) (b off : Nat) (t : Nt) (i : Nat) : Prop := w.cell? ⟨b, off + i * 6, none⟩ = some (.bool t.rest) ∧ w.cell? ⟨b, off + i * 6 + 1, none⟩ = some (.int .i64 t.step) ∧ w.cell? ⟨b, off + i * 6 + 2, none⟩ = some (.int .i64 t.alter) ∧ w.cell? ⟨b, off + i * 6 + 3, none⟩ = some (.int .i64 t.octave) ∧ w.cell? ⟨b, off + i * 6 + 4, none⟩ = some (.int .i64 t.ticks) ∧ w.cell? ⟨b, off + i * 6 + 5, none⟩ = some (.bool t.tied)
def mkNt (V : Int) : Nt := ⟨(((V) % 3) == 0), V + 1, V + 1 + 1, V + 1 + 1 + 1, V + 1 + 1 + 1 + 1, (((V + 1 + 1 + 1 + 1 + 1) % 3) == 0)⟩
def mkLNt (n : Nat) (K : Int) : List Nt := (List.range n).map fun (i : Nat) => mkNt (K + 6 * (i : Int))
theorem mkLNt_len (n : Nat) (K : Int) : (mkLNt n K).length = n := by simp [mkLNt]
theorem at_mkLNt (n : Nat) (K : Int) (i : Nat) (h : i < n) : atNt (mkLNt n K) i = mkNt (K + 6 * (i : Int)) := by
  unfold atNt mkLNt; rw [List.getD_eq_getElem?_getD, List.getElem?_map, List.getElem?_range h]; rfl
theorem mstepNt (wr : World) (b off i n : Nat) (f : Nat → Nt) (t : Nt) (ht : f i = t) (hlt : i < n) (hd : ∀ j, j < i → CMNt wr b off (f j) j) (hs : ∀ o, o < n * 6 → (wr.cell? ⟨b, off + o, none⟩).isSome = true) (hf : ∀ o, wr.frozen? ⟨b, o, none⟩ = false) :
    (∀ j, j < i + 1 → CMNt ((((((wr.setCell ⟨b, off + i * 6, none⟩ (.bool t.rest)).setCell ⟨b, off + i * 6 + 1, none⟩ (.int .i64 t.step)).setCell ⟨b, off + i * 6 + 2, none⟩ (.int .i64 t.alter)).setCell ⟨b, off + i * 6 + 3, none⟩ (.int .i64 t.octave)).setCell ⟨b, off + i * 6 + 4, none⟩ (.int .i64 t.ticks)).setCell ⟨b, off + i * 6 + 5, none⟩ (.bool t.tied)) b off (f j) j) ∧ (∀ o, o < n * 6 → (((((((wr.setCell ⟨b, off + i * 6, none⟩ (.bool t.rest)).setCell ⟨b, off + i * 6 + 1, none⟩ (.int .i64 t.step)).setCell ⟨b, off + i * 6 + 2, none⟩ (.int .i64 t.alter)).setCell ⟨b, off + i * 6 + 3, none⟩ (.int .i64 t.octave)).setCell ⟨b, off + i * 6 + 4, none⟩ (.int .i64 t.ticks)).setCell ⟨b, off + i * 6 + 5, none⟩ (.bool t.tied)).cell? ⟨b, off + o, none⟩).isSome = true) ∧ (∀ o, ((((((wr.setCell ⟨b, off + i * 6, none⟩ (.bool t.rest)).setCell ⟨b, off + i * 6 + 1, none⟩ (.int .i64 t.step)).setCell ⟨b, off + i * 6 + 2, none⟩ (.int .i64 t.alter)).setCell ⟨b, off + i * 6 + 3, none⟩ (.int .i64 t.octave)).setCell ⟨b, off + i * 6 + 4, none⟩ (.int .i64 t.ticks)).setCell ⟨b, off + i * 6 + 5, none⟩ (.bool t.tied)).frozen? ⟨b, o, none⟩ = false) ∧ (∀ w, Onl b w wr → Onl b w ((((((wr.setCell ⟨b, off + i * 6, none⟩ (.bool t.rest)).setCell ⟨b, off + i * 6 + 1, none⟩ (.int .i64 t.step)).setCell ⟨b, off + i * 6 + 2, none⟩ (.int .i64 t.alter)).setCell ⟨b, off + i * 6 + 3, none⟩ (.int .i64 t.octave)).setCell ⟨b, off + i * 6 + 4, none⟩ (.int .i64 t.ticks)).setCell ⟨b, off + i * 6 + 5, none⟩ (.bool t.tied))) := by
  have ne : ∀ x y : Nat, x ≠ y → (⟨b, x, none⟩ : Addr) ≠ ⟨b, y, none⟩ := fun x y h e => h (congrArg Addr.off e)
  refine ⟨fun j hj => ?_, fun o ho => ?_, fun o => ?_, fun w h => ?_⟩
  · by_cases hjk : j < i
    · obtain ⟨d0, d1, d2, d3, d4, d5⟩ := hd j hjk
      exact ⟨keep_off (keep_off (keep_off (keep_off (keep_off (keep_off (d0) (ne _ _ (by omega))) (ne _ _ (by omega))) (ne _ _ (by omega))) (ne _ _ (by omega))) (ne _ _ (by omega))) (ne _ _ (by omega)), keep_off (keep_off (keep_off (keep_off (keep_off (keep_off (d1) (ne _ _ (by omega))) (ne _ _ (by omega))) (ne _ _ (by omega))) (ne _ _ (by omega))) (ne _ _ (by omega))) (ne _ _ (by omega)), keep_off (keep_off (keep_off (keep_off (keep_off (keep_off (d2) (ne _ _ (by omega))) (ne _ _ (by omega))) (ne _ _ (by omega))) (ne _ _ (by omega))) (ne _ _ (by omega))) (ne _ _ (by omega)), keep_off (keep_off (keep_off (keep_off (keep_off (keep_off (d3) (ne _ _ (by omega))) (ne _ _ (by omega))) (ne _ _ (by omega))) (ne _ _ (by omega))) (ne _ _ (by omega))) (ne _ _ (by omega)), keep_off (keep_off (keep_off (keep_off (keep_off (keep_off (d4) (ne _ _ (by omega))) (ne _ _ (by omega))) (ne _ _ (by omega))) (ne _ _ (by omega))) (ne _ _ (by omega))) (ne _ _ (by omega)), keep_off (keep_off (keep_off (keep_off (keep_off (keep_off (d5) (ne _ _ (by omega))) (ne _ _ (by omega))) (ne _ _ (by omega))) (ne _ _ (by omega))) (ne _ _ (by omega))) (ne _ _ (by omega))⟩
    · obtain rfl : j = i := by omega
      rw [ht]
      have hs' : ∀ r, r < 6 → (wr.cell? ⟨b, off + j * 6 + r, none⟩).isSome = true := fun r hr => by rw [Nat.add_assoc]; exact hs _ (by omega)
      exact ⟨keep_off (keep_off (keep_off (keep_off (keep_off (set_same ((by simpa using hs' 0 (by omega)))) (ne _ _ (by omega))) (ne _ _ (by omega))) (ne _ _ (by omega))) (ne _ _ (by omega))) (ne _ _ (by omega)), keep_off (keep_off (keep_off (keep_off (set_same (some_set ((by simpa using hs' 1 (by omega))) (ne _ _ (by omega)))) (ne _ _ (by omega))) (ne _ _ (by omega))) (ne _ _ (by omega))) (ne _ _ (by omega)), keep_off (keep_off (keep_off (set_same (some_set (some_set ((by simpa using hs' 2 (by omega))) (ne _ _ (by omega))) (ne _ _ (by omega)))) (ne _ _ (by omega))) (ne _ _ (by omega))) (ne _ _ (by omega)), keep_off (keep_off (set_same (some_set (some_set (some_set ((by simpa using hs' 3 (by omega))) (ne _ _ (by omega))) (ne _ _ (by omega))) (ne _ _ (by omega)))) (ne _ _ (by omega))) (ne _ _ (by omega)), keep_off (set_same (some_set (some_set (some_set (some_set ((by simpa using hs' 4 (by omega))) (ne _ _ (by omega))) (ne _ _ (by omega))) (ne _ _ (by omega))) (ne _ _ (by omega)))) (ne _ _ (by omega)), set_same (some_set (some_set (some_set (some_set (some_set ((by simpa using hs' 5 (by omega))) (ne _ _ (by omega))) (ne _ _ (by omega))) (ne _ _ (by omega))) (ne _ _ (by omega))) (ne _ _ (by omega)))⟩
  · exact some_setx (some_setx (some_setx (some_setx (some_setx (some_setx (hs o ho))))))
  · exact fz_set (fz_set (fz_set (fz_set (fz_set (fz_set (hf o))))))
  · exact (((((h.trans (Onl.set _ _ _)).trans (Onl.set _ _ _)).trans (Onl.set _ _ _)).trans (Onl.set _ _ _)).trans (Onl.set _ _ _)).trans (Onl.set _ _ _)
set_option maxHeartbeats 2000000 in
theorem markSNt_any (A : Option Addr) (n c lo : Nat) (l : List Nt) (K : Int) (w : World) (hn : l.length = n) (hm : n ≤ 2000000) (h0 : 0 ≤ K) (h1 : K ≤ 100000000) (h : RowNt w w.heap.size A l) (ho : OwnNt w lo A l.length) :
    Calls Try.prog 16 #[.slice A n c, .int .i64 K] w fun e w' => e = .returned (.int .i64 (K + 6 * (n : Int))) ∧ Trn A n w w' ∧ RowNt w' w'.heap.size A (mkLNt n K) := by
  subst hn
  obtain ⟨b, off, hA, hb, hf0, hs0⟩ : ∃ b off, (0 < l.length → A = some ⟨b, off, none⟩) ∧ (0 < l.length → b < w.heap.size) ∧ (0 < l.length → ∀ o, w.frozen? ⟨b, o, none⟩ = false) ∧ (∀ o, o < l.length * 6 → (w.cell? ⟨b, off + o, none⟩).isSome = true) := by
    by_cases hp : 0 < l.length
    · obtain ⟨b, off, e, hb, hc⟩ := h hp
      obtain ⟨b', off', e', _, hf⟩ := ho hp
      rw [e] at e'
      simp only [Option.some.injEq, Addr.mk.injEq, and_true] at e'
      refine ⟨b, off, fun _ => e, fun _ => hb, fun _ o => by rw [e'.1]; exact hf o, fun o ho => ?_⟩
      have hc := hc (o / 6) (by omega)
      obtain ⟨p0, p1, p2, p3, p4, p5⟩ := hc
      rcases (show o % 6 = 0 ∨ o % 6 = 1 ∨ o % 6 = 2 ∨ o % 6 = 3 ∨ o % 6 = 4 ∨ o % 6 = 5 from by omega) with e | e | e | e | e | e
      · rw [show off + o = off + (o / 6) * 6 from by omega, p0]; rfl
      · rw [show off + o = off + (o / 6) * 6 + 1 from by omega, p1]; rfl
      · rw [show off + o = off + (o / 6) * 6 + 2 from by omega, p2]; rfl
      · rw [show off + o = off + (o / 6) * 6 + 3 from by omega, p3]; rfl
      · rw [show off + o = off + (o / 6) * 6 + 4 from by omega, p4]; rfl
      · rw [show off + o = off + (o / 6) * 6 + 5 from by omega, p5]; rfl
    · exact ⟨0, 0, fun c => absurd c hp, fun c => absurd c hp, fun c => absurd c hp, fun o ho => absurd ho (by omega)⟩
  go_enter Try.func16, Try.ntmps16
  go_wp2
  go_loopw [1, 5] (fun kk i wr => ∃ j : Nat, j ≤ l.length ∧ i = .int .i64 j ∧ kk = .int .i64 (K + 6 * (j : Int)) ∧ Onl b w wr ∧ (l.length = 0 → w = wr) ∧ (∀ r, r < j → CMNt wr b off (mkNt (K + 6 * (r : Int))) r) ∧ (∀ o, o < l.length * 6 → (wr.cell? ⟨b, off + o, none⟩).isSome = true) ∧ (0 < l.length → ∀ o, wr.frozen? ⟨b, o, none⟩ = false)) (fun _ i _ => l.length - (intOf i).toNat)
  case atStart => exact ⟨0, Nat.zero_le _, rfl, by simp, Onl.refl b w, fun _ => rfl, fun r hr => absurd hr (by omega), hs0, hf0⟩
  case round =>
    obtain ⟨j, hj, rfl, rfl, hon, hz, hd, hs, hf⟩ := hrel
    clear hs0 hf0
    by_cases hlt : j < l.length
    · obtain rfl := hA (by omega)
      have hf := hf (by omega)
      obtain ⟨V, hV⟩ : ∃ V, K + 6 * (j : Int) = V := ⟨_, rfl⟩
      rw [hV]
      have HV := Lib.hid hV
      have v0 : 0 ≤ V := by omega
      have v1 : V ≤ 200000000 := by omega
      have hjl : (j : Int) < (l.length : Int) := by omega
      have hj0 : (0 : Int) ≤ (j : Int) := by omega
      have hs' : ∀ r, r < 6 → (wr.cell? ⟨b, off + j * 6 + r, none⟩).isSome = true := fun r hr => by rw [Nat.add_assoc]; exact hs _ (by omega)
      obtain ⟨o0, so0⟩ := Option.isSome_iff_exists.1 (hs' 0 (by omega))
      simp only [Nat.add_zero] at so0
      obtain ⟨o1, so1⟩ := Option.isSome_iff_exists.1 (hs' 1 (by omega))
      obtain ⟨o2, so2⟩ := Option.isSome_iff_exists.1 (hs' 2 (by omega))
      obtain ⟨o3, so3⟩ := Option.isSome_iff_exists.1 (hs' 3 (by omega))
      obtain ⟨o4, so4⟩ := Option.isSome_iff_exists.1 (hs' 4 (by omega))
      obtain ⟨o5, so5⟩ := Option.isSome_iff_exists.1 (hs' 5 (by omega))
      have HD := Lib.hid hd
      have HS := Lib.hid hs
      have HF := Lib.hid hf
      obtain ⟨V1, e1⟩ : ∃ x, V + 1 = x := ⟨_, rfl⟩
      have n1 : 0 ≤ V1 := by omega
      have m1 : V1 ≤ 200000000 + 1 := by omega
      obtain ⟨V2, e2⟩ : ∃ x, V1 + 1 = x := ⟨_, rfl⟩
      have n2 : 0 ≤ V2 := by omega
      have m2 : V2 ≤ 200000000 + 2 := by omega
      obtain ⟨V3, e3⟩ : ∃ x, V2 + 1 = x := ⟨_, rfl⟩
      have n3 : 0 ≤ V3 := by omega
      have m3 : V3 ≤ 200000000 + 3 := by omega
      obtain ⟨V4, e4⟩ : ∃ x, V3 + 1 = x := ⟨_, rfl⟩
      have n4 : 0 ≤ V4 := by omega
      have m4 : V4 ≤ 200000000 + 4 := by omega
      obtain ⟨V5, e5⟩ : ∃ x, V4 + 1 = x := ⟨_, rfl⟩
      have n5 : 0 ≤ V5 := by omega
      have m5 : V5 ≤ 200000000 + 5 := by omega
      obtain ⟨V6, e6⟩ : ∃ x, V5 + 1 = x := ⟨_, rfl⟩
      have n6 : 0 ≤ V6 := by omega
      have m6 : V6 ≤ 200000000 + 6 := by omega
      obtain ⟨β0, y0⟩ : ∃ x : Bool, (V % 3 == 0) = x := ⟨_, rfl⟩
      have t0 : ((V).tmod 3 == 0) = β0 := by rw [Int.tmod_eq_emod_of_nonneg (by omega)]; exact y0
      obtain ⟨β5, y5⟩ : ∃ x : Bool, (V5 % 3 == 0) = x := ⟨_, rfl⟩
      have t5 : ((V5).tmod 3 == 0) = β5 := by rw [Int.tmod_eq_emod_of_nonneg (by omega)]; exact y5
      have HT : Hid (mkNt V = (⟨β0, V1, V2, V3, V4, β5⟩ : Nt)) := by show _ = _; simp only [mkNt, e1, e2, e3, e4, e5, e6, y0, y5]
      clear hV hd hs hs' hz h ho hA
      go_wp2
      go_roundw
      case rel =>
        obtain ⟨s1, s2, s3, s4⟩ := mstepNt wr b off j l.length (fun r => mkNt (K + 6 * (r : Int))) ⟨β0, V1, V2, V3, V4, β5⟩ (by show mkNt (K + 6 * (j : Int)) = _; rw [HV.out]; exact HT.out) hlt HD.out HS.out HF.out
        have hV := HV.out
        exact ⟨j + 1, by omega, by go_num, congrArg (Value.int .i64) (by omega), s4 _ hon, fun h => absurd h (by omega), s1, s2, fun _ => s3⟩
      case measure => simp [intOf]; omega
    · obtain rfl : j = l.length := by omega
      have HD := Lib.hid hd
      have HN := Lib.hid hon
      have HZ := Lib.hid hz
      clear hs hf hd hon hz
      go_wp2
      go_ret
      refine ⟨rfl, Trn.of HN.out HZ.out hA, fun hl => ?_⟩
      rw [mkLNt_len] at hl
      refine ⟨b, off, hA hl, by rw [HN.out.size]; exact hb hl, fun i hi => ?_⟩
      rw [mkLNt_len] at hi
      rw [at_mkLNt _ _ i hi]
      exact HD.out i hi
/-- a slice that lies in one block of its own, from lo on and below hi -/
structure SLNt (w : World) (lo hi : Nat) (A : Option Addr) (l : List Nt) : Prop where
  top : hi ≤ w.heap.size
  at' : 0 < l.length → ∃ b off, A = some ⟨b, off, none⟩ ∧ lo ≤ b ∧ b < hi ∧ (∀ o, w.frozen? ⟨b, o, none⟩ = false) ∧ ∀ i, i < l.length → CMNt w b off (atNt l i) i
theorem SLNt.of {w : World} {lo : Nat} {A : Option Addr} {l : List Nt} (r : RowNt w w.heap.size A l) (o : OwnNt w lo A l.length) : SLNt w lo w.heap.size A l :=
  ⟨Nat.le_refl _, fun hl => by
    obtain ⟨b, off, e, hb, hc⟩ := r hl
    obtain ⟨b', off', e', hb', hf⟩ := o hl
    rw [e] at e'
    simp only [Option.some.injEq, Addr.mk.injEq, and_true] at e'
    exact ⟨b, off, e, by omega, hb, fun o => by rw [e'.1]; exact hf o, hc⟩⟩
theorem SLNt.row {w : World} {lo hi : Nat} {A : Option Addr} {l : List Nt} (h : SLNt w lo hi A l) : RowNt w w.heap.size A l := fun hl => by
  obtain ⟨b, off, e, _, hb, _, hc⟩ := h.at' hl
  exact ⟨b, off, e, Nat.lt_of_lt_of_le hb h.top, hc⟩
theorem SLNt.own {w : World} {lo hi : Nat} {A : Option Addr} {l : List Nt} (h : SLNt w lo hi A l) : OwnNt w lo A l.length := fun hl => by
  obtain ⟨b, off, e, hb, _, hf, _⟩ := h.at' hl
  exact ⟨b, off, e, hb, hf⟩
theorem SLNt.place {w : World} {lo hi : Nat} {A : Option Addr} {l : List Nt} (h : SLNt w lo hi A l) {a : Addr} (hl : 0 < l.length) (ha : A = some a) : lo ≤ a.block ∧ a.block < hi := by
  obtain ⟨b, off, e, h1, h2, _⟩ := h.at' hl
  rw [e] at ha; cases ha; exact ⟨h1, h2⟩
theorem SLNt.keep {w w' : World} {lo hi : Nat} {A : Option Addr} {l : List Nt} (h : SLNt w lo hi A l) (hs : w.heap.size ≤ w'.heap.size) (hb : ∀ i, i < w.heap.size → lo ≤ i → i < hi → w'.heap[i]? = w.heap[i]?) : SLNt w' lo hi A l :=
  ⟨Nat.le_trans h.top hs, fun hl => by
    obtain ⟨b, off, e, h1, h2, hf, hc⟩ := h.at' hl
    have hbb := hb b (Nat.lt_of_lt_of_le h2 h.top) h1 h2
    refine ⟨b, off, e, h1, h2, fun o => by rw [World.frozen?_of_block (w := w) (a := ⟨b, o, none⟩) hbb]; exact hf o, fun i hi => ?_⟩
    have hk : ∀ o, w'.cell? ⟨b, o, none⟩ = w.cell? ⟨b, o, none⟩ := fun o => World.cell?_of_block (w := w) (a := ⟨b, o, none⟩) hbb
    unfold CMNt
    simp only [hk]
    exact hc i hi⟩
theorem SLNt.below {w w' : World} {lo hi : Nat} {A : Option Addr} {l : List Nt} (h : SLNt w lo hi A l) (hb : Below w.heap.size w w') : SLNt w' lo hi A l := h.keep hb.size fun i hi _ _ => hb.block i hi
theorem SLNt.trn {w w' : World} {lo hi n : Nat} {A B : Option Addr} {l : List Nt} (h : SLNt w lo hi A l) (t : Trn B n w w') (hne : ∀ a : Addr, 0 < n → B = some a → a.block < lo ∨ hi ≤ a.block) : SLNt w' lo hi A l :=
  h.keep (by rw [t.size]; exact Nat.le_refl _) fun i hi h1 h2 => t.block i hi fun hn a ha => by have := hne a hn ha; omega
theorem RowNt.trn {w w' : World} {B n : Nat} {A A' : Option Addr} {l : List Nt} (h : RowNt w B A l) (t : Trn A' n w w') (hne : ∀ a : Addr, 0 < n → A' = some a → B ≤ a.block) (hB : B ≤ w.heap.size) : RowNt w' B A l :=
  h.keep (Nat.le_refl _) fun b o hb => World.cell?_of_block (w := w) (a := ⟨b, o, none⟩) (t.block b (by omega) fun hn a ha => by have := hne a hn ha; omega)
theorem RowNt.bel {w w' : World} {B : Nat} {A : Option Addr} {l : List Nt} (h : RowNt w B A l) (hb : Below w.heap.size w w') (hB : B ≤ w.heap.size) : RowNt w' B A l :=
  h.keep (Nat.le_refl _) fun b o hh => hb.cell (p := ⟨b, o, none⟩) (by simp only; omega)
theorem RowNt.up {w : World} {B B' : Nat} {A : Option Addr} {l : List Nt} (h : RowNt w B A l) (hB : B ≤ B') : RowNt w B' A l := h.keep hB fun _ _ _ => rfl
end
section
open Go.RowKit

def upS (st ha : Int) : Int := if st < 0 ∨ (st = 0 ∧ ha < 0) then -st else st
def upH (st ha : Int) : Int := if st < 0 ∨ (st = 0 ∧ ha < 0) then -ha else ha
def quI (st ha : Int) : Int := upH st ha - natI (upS st ha)
def ivB (st ha : Int) : Bool := decide ((-21 ≤ st ∧ st ≤ 21) ∧ (-99 ≤ ha ∧ ha ≤ 99) ∧ -3 ≤ quI st ha ∧ quI st ha ≤ 3)
theorem nat21 {s : Int} (h0 : 0 ≤ s) (h1 : s ≤ 21) : 0 ≤ natI s ∧ natI s ≤ 36 := by
  have k : ∀ u : Fin 22, 0 ≤ natI (u.1 : Int) ∧ natI (u.1 : Int) ≤ 36 := by decide +kernel
  have := k ⟨s.toNat, by omega⟩
  rwa [show ((s.toNat : Nat) : Int) = s from by omega] at this
theorem up_bd {st ha : Int} (h : -21 ≤ st ∧ st ≤ 21) : 0 ≤ upS st ha ∧ upS st ha ≤ 21 := by unfold upS; split <;> omega
theorem ivB_iff (st ha : Int) : ivB st ha = decide ((-21 ≤ st ∧ st ≤ 21) ∧ (-60 ≤ ha ∧ ha ≤ 60) ∧ -3 ≤ quI st ha ∧ quI st ha ≤ 3) := by
  unfold ivB
  apply decide_eq_decide.2
  constructor
  · rintro ⟨h1, h2, h3⟩
    have := nat21 (up_bd h1 (ha := ha)).1 (up_bd h1 (ha := ha)).2
    refine ⟨h1, ?_, h3⟩
    unfold quI upH at h3
    split at h3 <;> omega
  · rintro ⟨h1, h2, h3⟩
    exact ⟨h1, by omega, h3⟩
theorem ivB_bd {st ha : Int} (h : ivB st ha = true) : (-21 ≤ st ∧ st ≤ 21) ∧ (-60 ≤ ha ∧ ha ≤ 60) := by
  rw [ivB_iff] at h
  have := of_decide_eq_true h
  exact ⟨this.1, this.2.1⟩
set_option maxHeartbeats 1000000 in
theorem pl_any (p : Int) (w : World) (h0 : 0 ≤ p) (h1 : p ≤ 1000000) : Calls Try.prog 94 #[.int .i64 p] w fun e w' => e = .returned (.int .i64 (natI p)) ∧ Below w.heap.size w w' := by
  have hb := shI_bd (p % 7)
  have hm0 : 0 ≤ p % 7 := by omega
  have hm1 : p % 7 ≤ 6 := by omega
  have hd0 : 0 ≤ p / 7 := by omega
  have hd1 : p / 7 ≤ 1000000 := by omega
  go_enter Try.func94, Try.ntmps94
  go_wp2_with (go_at_call 69; refine (sh_any _ _ hm0 hm1).mono ?_; rintro e w' ⟨rfl, rfl⟩)
  go_ret
  exact ⟨ret_int (by unfold natI; omega), by repeat (first | (with_reducible assumption) | (exact bel_undr (by with_reducible assumption)) | (with_reducible exact bel_refl _) | (with_reducible refine bel_dr ?_) | (with_reducible refine bel_drN ?_ _) | (with_reducible refine bel_al ?_ _) | (refine bel_set ?_ (by first | (simp; done) | (simp; exact Below.size (by assumption)) | (simp; omega)) _) | (with_reducible refine bel_tr ?_ (by assumption)))⟩
theorem pl_val {p v : Int} (h : natI p = v) (w : World) (h0 : 0 ≤ p) (h1 : p ≤ 1000000) : Calls Try.prog 94 #[.int .i64 p] w fun e w' => e = .returned (.int .i64 v) ∧ Below w.heap.size w w' := by
  subst h; exact pl_any p w h0 h1
set_option maxHeartbeats 1000000 in
theorem up_any (st ha : Int) (w : World) (s0 : -1000 ≤ st) (s1 : st ≤ 1000) (t0 : -1000 ≤ ha) (t1 : ha ≤ 1000) : Calls Try.prog 93 #[.agg #[.int .i64 st, .int .i64 ha]] w fun e w' => e = .returned (.agg #[.int .i64 (upS st ha), .int .i64 (upH st ha)]) ∧ Below w.heap.size w w' := by
  have ns := IntWalk.i64_in (-st) (by omega)
  have nh := IntWalk.i64_in (-ha) (by omega)
  by_cases h1 : st < 0
  · have e1 : upS st ha = -st := by unfold upS; rw [if_pos (.inl h1)]
    have e2 : upH st ha = -ha := by unfold upH; rw [if_pos (.inl h1)]
    rw [e1, e2]; clear e1 e2
    go_enter Try.func93, Try.ntmps93
    go_wp2
    exact bodyPost_ret (v := .agg #[.int .i64 (-st), .int .i64 (-ha)]) (by simp [results, Try.results93, go_sem]) rfl ⟨rfl, by repeat (first | (with_reducible assumption) | (exact bel_undr (by with_reducible assumption)) | (with_reducible exact bel_refl _) | (with_reducible refine bel_dr ?_) | (with_reducible refine bel_drN ?_ _) | (with_reducible refine bel_al ?_ _) | (refine bel_set ?_ (by first | (simp; done) | (simp; exact Below.size (by assumption)) | (simp; omega)) _) | (with_reducible refine bel_tr ?_ (by assumption)))⟩
  · by_cases h2 : st = 0
    · subst h2
      by_cases h3 : ha < 0
      · have e1 : upS 0 ha = 0 := by unfold upS; split <;> omega
        have e2 : upH 0 ha = -ha := by unfold upH; rw [if_pos (.inr ⟨rfl, h3⟩)]
        rw [e1, e2]; clear e1 e2 h1
        go_enter Try.func93, Try.ntmps93
        go_wp2
        exact bodyPost_ret (v := .agg #[.int .i64 0, .int .i64 (-ha)]) (by simp [results, Try.results93, go_sem]) rfl ⟨rfl, by repeat (first | (with_reducible assumption) | (exact bel_undr (by with_reducible assumption)) | (with_reducible exact bel_refl _) | (with_reducible refine bel_dr ?_) | (with_reducible refine bel_drN ?_ _) | (with_reducible refine bel_al ?_ _) | (refine bel_set ?_ (by first | (simp; done) | (simp; exact Below.size (by assumption)) | (simp; omega)) _) | (with_reducible refine bel_tr ?_ (by assumption)))⟩
      · have e1 : upS 0 ha = 0 := by unfold upS; split <;> omega
        have e2 : upH 0 ha = ha := by unfold upH; rw [if_neg (by omega)]
        have d3 : decide (ha < 0) = false := decide_eq_false h3
        rw [e1, e2]; clear e1 e2 h1
        go_enter Try.func93, Try.ntmps93
        go_wp2
        exact bodyPost_ret (v := .agg #[.int .i64 0, .int .i64 ha]) (by simp [results, Try.results93, go_sem]) rfl ⟨rfl, by repeat (first | (with_reducible assumption) | (exact bel_undr (by with_reducible assumption)) | (with_reducible exact bel_refl _) | (with_reducible refine bel_dr ?_) | (with_reducible refine bel_drN ?_ _) | (with_reducible refine bel_al ?_ _) | (refine bel_set ?_ (by first | (simp; done) | (simp; exact Below.size (by assumption)) | (simp; omega)) _) | (with_reducible refine bel_tr ?_ (by assumption)))⟩
    · have e1 : upS st ha = st := by unfold upS; rw [if_neg (by omega)]
      have e2 : upH st ha = ha := by unfold upH; rw [if_neg (by omega)]
      have d1 : decide (st < 0) = false := decide_eq_false h1
      have d2 : (st == 0) = false := by rw [beq_eq_false_iff_ne]; exact h2
      rw [e1, e2]; clear e1 e2 h2
      go_enter Try.func93, Try.ntmps93
      go_wp2
      exact bodyPost_ret (v := .agg #[.int .i64 st, .int .i64 ha]) (by simp [results, Try.results93, go_sem]) rfl ⟨rfl, by repeat (first | (with_reducible assumption) | (exact bel_undr (by with_reducible assumption)) | (with_reducible exact bel_refl _) | (with_reducible refine bel_dr ?_) | (with_reducible refine bel_drN ?_ _) | (with_reducible refine bel_al ?_ _) | (refine bel_set ?_ (by first | (simp; done) | (simp; exact Below.size (by assumption)) | (simp; omega)) _) | (with_reducible refine bel_tr ?_ (by assumption)))⟩
theorem up_val {st ha x y : Int} (h1 : upS st ha = x) (h2 : upH st ha = y) (w : World) (s0 : -1000 ≤ st) (s1 : st ≤ 1000) (t0 : -1000 ≤ ha) (t1 : ha ≤ 1000) : Calls Try.prog 93 #[.agg #[.int .i64 st, .int .i64 ha]] w fun e w' => e = .returned (.agg #[.int .i64 x, .int .i64 y]) ∧ Below w.heap.size w w' := by
  subst h1 h2; exact up_any st ha w s0 s1 t0 t1
theorem fld0 (x y : Int) : ∀ w : World, (Instr.field 44 (.agg #[.int .i64 x, .int .i64 y]) 0).run Try.prog w = .ok (.int .i64 x) w := fun _ => by kernel_rfl
theorem fld1 (x y : Int) : ∀ w : World, (Instr.field 44 (.agg #[.int .i64 x, .int .i64 y]) 1).run Try.prog w = .ok (.int .i64 y) w := fun _ => by kernel_rfl
set_option maxHeartbeats 1000000 in
theorem qu_any (st ha : Int) (w : World) (h0 : -21 ≤ st ∧ st ≤ 21) (t0 : -99 ≤ ha) (t1 : ha ≤ 99) : Calls Try.prog 75 #[.agg #[.int .i64 st, .int .i64 ha]] w fun e w' => e = .returned (.int .i64 (quI st ha)) ∧ Below w.heap.size w w' := by
  have hb := up_bd h0 (ha := ha)
  have hn := nat21 hb.1 hb.2
  have hu : -99 ≤ upH st ha ∧ upH st ha ≤ 99 := by unfold upH; split <;> omega
  unfold quI
  obtain ⟨x, hx⟩ : ∃ x, upS st ha = x := ⟨_, rfl⟩
  obtain ⟨y, hy⟩ : ∃ y, upH st ha = y := ⟨_, rfl⟩
  rw [hx] at hb hn ⊢
  rw [hy] at hu ⊢
  obtain ⟨z, hz⟩ : ∃ z, natI x = z := ⟨_, rfl⟩
  rw [hz] at hn ⊢
  have HX := Lib.hid hx
  have HY := Lib.hid hy
  have HZ := Lib.hid hz
  obtain ⟨s0, s1⟩ := h0
  have i1 := IntWalk.i64_in (y - z) (by omega)
  clear hx hy hz
  go_enter Try.func75, Try.ntmps75
  go_wp2_with fail
  generalize hv : (w.alloc (.cells #[.int .i64 st, .int .i64 ha] 44)) = v at *
  have HV := Lib.hid hv.symm
  have q0 : v.cell? ⟨w.heap.size, 0, none⟩ = some (.int .i64 st) := by rw [← hv]; simp
  have q1 : v.cell? ⟨w.heap.size, 1, none⟩ = some (.int .i64 ha) := by rw [← hv]; simp
  have bv : Below w.heap.size w v := by rw [← hv]; exact bel_al (bel_refl _) _
  clear hv
  have fd0 := fld0 x y
  have fd1 := fld1 x y
  have LA : ∀ xL : Later v, Calls Try.prog 93 #[.agg #[.int .i64 st, .int .i64 ha]] xL.world fun e w'' => e = .returned (.agg #[.int .i64 x, .int .i64 y]) ∧ ∃ z : Later v, w'' = z.world := fun xL => later_call (up_val HX.out HY.out _ (by omega) (by omega) (by omega) (by omega))
  have LB : ∀ xL : Later v, Calls Try.prog 94 #[.int .i64 x] xL.world fun e w'' => e = .returned (.int .i64 z) ∧ ∃ z : Later v, w'' = z.world := fun xL => later_call (pl_val HZ.out _ (by omega) (by omega))
  have lf0 : ∀ xL : Later v, xL.world.cell? ⟨w.heap.size, 0, none⟩ = some (.int .i64 st) := fun xL => xL.at (q0)
  have lf1 : ∀ xL : Later v, xL.world.cell? ⟨w.heap.size, 1, none⟩ = some (.int .i64 ha) := fun xL => xL.at (q1)
  refine region_later (w0 := v) (by kernel_rfl) (by kernel_rfl) (bel_refl _) ?_
  repeat (go_big_quiet_step ((first | (go_at_call 93; exact LA _) | (go_at_call 94; exact LB _))))
  refine wpQuiet_nil ?_
  rintro w' ⟨x, rfl⟩
  obtain ⟨w2, b2⟩ := x
  clear lf0 lf1
  go_wp2
  go_ret
  exact ⟨rfl, by repeat (first | (with_reducible assumption) | (exact bel_undr (by with_reducible assumption)) | (with_reducible exact bel_refl _) | (with_reducible refine bel_dr ?_) | (with_reducible refine bel_drN ?_ _) | (with_reducible refine bel_al ?_ _) | (refine bel_set ?_ (by first | (simp; done) | (simp; exact Below.size (by assumption)) | (simp; omega)) _) | (with_reducible refine bel_tr ?_ (by assumption)))⟩
theorem qu_val {st ha v : Int} (h : quI st ha = v) (w : World) (h0 : -21 ≤ st ∧ st ≤ 21) (t0 : -99 ≤ ha) (t1 : ha ≤ 99) : Calls Try.prog 75 #[.agg #[.int .i64 st, .int .i64 ha]] w fun e w' => e = .returned (.int .i64 v) ∧ Below w.heap.size w w' := by
  subst h; exact qu_any st ha w h0 t0 t1
theorem bool_at {P : Program} {f : FuncId} {args : Array Value} {w : World} {b v : Bool} (h : b = v) (H : Calls P f args w fun e w' => e = .returned (.bool v) ∧ Below w.heap.size w w') :
    Calls P f args w fun e w' => e = .returned (.bool b) ∧ Below w.heap.size w w' := by subst h; exact H

set_option maxHeartbeats 1000000 in
theorem iv_any (st ha : Int) (w : World) : Calls Try.prog 54 #[.agg #[.int .i64 st, .int .i64 ha]] w fun e w' => e = .returned (.bool (ivB st ha)) ∧ Below w.heap.size w w' := by
  unfold ivB
  by_cases h1 : -21 ≤ st ∧ st ≤ 21
  · by_cases h2 : -99 ≤ ha ∧ ha ≤ 99
    · obtain ⟨q, hq⟩ : ∃ q, quI st ha = q := ⟨_, rfl⟩
      have HQ := Lib.hid hq
      have H1 := h1
      have H2 := h2
      obtain ⟨s0, s1⟩ := h1
      obtain ⟨t0, t1⟩ := h2
      by_cases h3 : -3 ≤ q ∧ q ≤ 3
      · refine bool_at (v := true) (decide_eq_true ⟨H1, H2, by rw [hq]; exact h3⟩) ?_
        obtain ⟨q0, q1⟩ := h3
        clear hq
        go_enter Try.func54, Try.ntmps54
        go_wp2_with (first | (go_at_call 58; refine (win_yes _ _ _ _ (by omega) (by omega)).mono ?_; rintro e w' ⟨rfl, rfl⟩) | (go_at_call 58; refine (win_no _ _ _ _ (by omega)).mono ?_; rintro e w' ⟨rfl, rfl⟩) | (go_at_call 75; refine (qu_val HQ.out _ H1 (by omega) (by omega)).mono ?_; rintro e1 w1 ⟨rfl, b1⟩))
        go_ret
        exact ⟨rfl, by repeat (first | (with_reducible assumption) | (exact bel_undr (by with_reducible assumption)) | (with_reducible exact bel_refl _) | (with_reducible refine bel_dr ?_) | (with_reducible refine bel_drN ?_ _) | (with_reducible refine bel_al ?_ _) | (refine bel_set ?_ (by first | (simp; done) | (simp; exact Below.size (by assumption)) | (simp; omega)) _) | (with_reducible refine bel_tr ?_ (by assumption)))⟩
      · refine bool_at (v := false) (decide_eq_false (by rw [hq]; exact fun c => h3 c.2.2)) ?_
        have h4 : q < -3 ∨ 3 < q := by omega
        clear hq h3
        go_enter Try.func54, Try.ntmps54
        go_wp2_with (first | (go_at_call 58; refine (win_yes _ _ _ _ (by omega) (by omega)).mono ?_; rintro e w' ⟨rfl, rfl⟩) | (go_at_call 58; refine (win_no _ _ _ _ (by omega)).mono ?_; rintro e w' ⟨rfl, rfl⟩) | (go_at_call 75; refine (qu_val HQ.out _ H1 (by omega) (by omega)).mono ?_; rintro e1 w1 ⟨rfl, b1⟩))
        go_ret
        exact ⟨rfl, by repeat (first | (with_reducible assumption) | (exact bel_undr (by with_reducible assumption)) | (with_reducible exact bel_refl _) | (with_reducible refine bel_dr ?_) | (with_reducible refine bel_drN ?_ _) | (with_reducible refine bel_al ?_ _) | (refine bel_set ?_ (by first | (simp; done) | (simp; exact Below.size (by assumption)) | (simp; omega)) _) | (with_reducible refine bel_tr ?_ (by assumption)))⟩
    · refine bool_at (v := false) (decide_eq_false (fun c => h2 c.2.1)) ?_
      have h4 : ha < -99 ∨ 99 < ha := by omega
      obtain ⟨s0, s1⟩ := h1
      have HQ : Hid (quI st ha = 0 ∨ True) := .inr trivial
      clear h2
      go_enter Try.func54, Try.ntmps54
      go_wp2_with (first | (go_at_call 58; refine (win_yes _ _ _ _ (by omega) (by omega)).mono ?_; rintro e w' ⟨rfl, rfl⟩) | (go_at_call 58; refine (win_no _ _ _ _ (by omega)).mono ?_; rintro e w' ⟨rfl, rfl⟩) | (fail; go_at_call 75; refine (sh_any 0 _ (by omega) (by omega)).mono ?_; rintro e1 w1 ⟨rfl, b1⟩))
      go_ret
      exact ⟨rfl, by repeat (first | (with_reducible assumption) | (exact bel_undr (by with_reducible assumption)) | (with_reducible exact bel_refl _) | (with_reducible refine bel_dr ?_) | (with_reducible refine bel_drN ?_ _) | (with_reducible refine bel_al ?_ _) | (refine bel_set ?_ (by first | (simp; done) | (simp; exact Below.size (by assumption)) | (simp; omega)) _) | (with_reducible refine bel_tr ?_ (by assumption)))⟩
  · refine bool_at (v := false) (decide_eq_false (fun c => h1 c.1)) ?_
    have h4 : st < -21 ∨ 21 < st := by omega
    clear h1
    go_enter Try.func54, Try.ntmps54
    go_wp2_with (first | (go_at_call 58; refine (win_yes _ _ _ _ (by omega) (by omega)).mono ?_; rintro e w' ⟨rfl, rfl⟩) | (go_at_call 58; refine (win_no _ _ _ _ (by omega)).mono ?_; rintro e w' ⟨rfl, rfl⟩) | (fail; go_at_call 75; refine (sh_any 0 _ (by omega) (by omega)).mono ?_; rintro e1 w1 ⟨rfl, b1⟩))
    go_ret
    exact ⟨rfl, by repeat (first | (with_reducible assumption) | (exact bel_undr (by with_reducible assumption)) | (with_reducible exact bel_refl _) | (with_reducible refine bel_dr ?_) | (with_reducible refine bel_drN ?_ _) | (with_reducible refine bel_al ?_ _) | (refine bel_set ?_ (by first | (simp; done) | (simp; exact Below.size (by assumption)) | (simp; omega)) _) | (with_reducible refine bel_tr ?_ (by assumption)))⟩
theorem iv_val {st ha : Int} {v : Bool} (h : ivB st ha = v) (w : World) : Calls Try.prog 54 #[.agg #[.int .i64 st, .int .i64 ha]] w fun e w' => e = .returned (.bool v) ∧ Below w.heap.size w w' := by
  subst h; exact iv_any st ha w

set_option maxHeartbeats 2000000 in
theorem sq_any (st ha : Int) (w : World) (h0 : -21 ≤ st ∧ st ≤ 21) (t0 : -99 ≤ ha) (t1 : ha ≤ 99) : Calls Try.prog 91 #[.agg #[.int .i64 st, .int .i64 ha]] w fun e w' => e = .returned (.int .i64 (quI st ha)) ∧ Below w.heap.size w w' := by
  have hb := up_bd h0 (ha := ha)
  have hn := nat21 hb.1 hb.2
  have ns := IntWalk.i64_in (-st) (by omega)
  have nh := IntWalk.i64_in (-ha) (by omega)
  obtain ⟨s0, s1⟩ := h0
  unfold quI
  by_cases h1 : st < 0
  · have e1 : upS st ha = -st := by unfold upS; rw [if_pos (.inl h1)]
    have e2 : upH st ha = -ha := by unfold upH; rw [if_pos (.inl h1)]
    rw [e1] at hb hn
    rw [e1, e2]
    clear e1 e2
    obtain ⟨z, hz⟩ : ∃ z, natI (-st) = z := ⟨_, rfl⟩
    rw [hz] at hn ⊢
    have HZ := Lib.hid hz
    have i1 := IntWalk.i64_in ((-ha) - z) (by omega)
    clear hz
    go_enter Try.func91, Try.ntmps91
    go_wp2_with fail
    generalize hv : (w.alloc (.cells #[.int .i64 st, .int .i64 ha] 44)) = v at *
    have q0 : v.cell? ⟨w.heap.size, 0, none⟩ = some (.int .i64 st) := by rw [← hv]; simp
    have q1 : v.cell? ⟨w.heap.size, 1, none⟩ = some (.int .i64 ha) := by rw [← hv]; simp
    have bv : Below w.heap.size w v := by rw [← hv]; exact bel_al (bel_refl _) _
    clear hv
    have LB : ∀ xL : Later v, Calls Try.prog 78 #[.int .i64 (-st)] xL.world fun e w'' => e = .returned (.int .i64 z) ∧ ∃ z : Later v, w'' = z.world := fun xL => later_call (nat_val HZ.out _ (by omega) (by omega))
    have lf0 : ∀ xL : Later v, xL.world.cell? ⟨w.heap.size, 0, none⟩ = some (.int .i64 st) := fun xL => xL.at (q0)
    have lf1 : ∀ xL : Later v, xL.world.cell? ⟨w.heap.size, 1, none⟩ = some (.int .i64 ha) := fun xL => xL.at (q1)
    refine region_later (w0 := v) (by kernel_rfl) (by kernel_rfl) (bel_refl _) ?_
    repeat (go_big_quiet_step ((go_at_call 78; exact LB _)))
    refine wpQuiet_nil ?_
    rintro w' ⟨x, rfl⟩
    obtain ⟨w2, b2⟩ := x
    clear lf0 lf1
    go_wp2
    go_ret
    exact ⟨rfl, by repeat (first | (with_reducible assumption) | (exact bel_undr (by with_reducible assumption)) | (with_reducible exact bel_refl _) | (with_reducible refine bel_dr ?_) | (with_reducible refine bel_drN ?_ _) | (with_reducible refine bel_al ?_ _) | (refine bel_set ?_ (by first | (simp; done) | (simp; exact Below.size (by assumption)) | (simp; omega)) _) | (with_reducible refine bel_tr ?_ (by assumption)))⟩
  · have d1 : decide (st < 0) = false := decide_eq_false h1
    by_cases h2 : st = 0 ∧ ha < 0
    · obtain ⟨h2, h3⟩ := h2
      have e1 : upS st ha = -st := by unfold upS; rw [if_pos (.inr ⟨h2, h3⟩)]
      have e2 : upH st ha = -ha := by unfold upH; rw [if_pos (.inr ⟨h2, h3⟩)]
      rw [e1] at hb hn
      rw [e1, e2]
      clear e1 e2
      have d2 : (st == 0) = true := by rw [beq_iff_eq]; exact h2
      clear h2
      obtain ⟨z, hz⟩ : ∃ z, natI (-st) = z := ⟨_, rfl⟩
      rw [hz] at hn ⊢
      have HZ := Lib.hid hz
      have i1 := IntWalk.i64_in ((-ha) - z) (by omega)
      clear hz
      go_enter Try.func91, Try.ntmps91
      go_wp2_with fail
      generalize hv : (w.alloc (.cells #[.int .i64 st, .int .i64 ha] 44)) = v at *
      have q0 : v.cell? ⟨w.heap.size, 0, none⟩ = some (.int .i64 st) := by rw [← hv]; simp
      have q1 : v.cell? ⟨w.heap.size, 1, none⟩ = some (.int .i64 ha) := by rw [← hv]; simp
      have bv : Below w.heap.size w v := by rw [← hv]; exact bel_al (bel_refl _) _
      clear hv
      have LB : ∀ xL : Later v, Calls Try.prog 78 #[.int .i64 (-st)] xL.world fun e w'' => e = .returned (.int .i64 z) ∧ ∃ z : Later v, w'' = z.world := fun xL => later_call (nat_val HZ.out _ (by omega) (by omega))
      have lf0 : ∀ xL : Later v, xL.world.cell? ⟨w.heap.size, 0, none⟩ = some (.int .i64 st) := fun xL => xL.at (q0)
      have lf1 : ∀ xL : Later v, xL.world.cell? ⟨w.heap.size, 1, none⟩ = some (.int .i64 ha) := fun xL => xL.at (q1)
      refine region_later (w0 := v) (by kernel_rfl) (by kernel_rfl) (bel_refl _) ?_
      repeat (go_big_quiet_step ((go_at_call 78; exact LB _)))
      refine wpQuiet_nil ?_
      rintro w' ⟨x, rfl⟩
      obtain ⟨w2, b2⟩ := x
      clear lf0 lf1
      go_wp2
      go_ret
      exact ⟨rfl, by repeat (first | (with_reducible assumption) | (exact bel_undr (by with_reducible assumption)) | (with_reducible exact bel_refl _) | (with_reducible refine bel_dr ?_) | (with_reducible refine bel_drN ?_ _) | (with_reducible refine bel_al ?_ _) | (refine bel_set ?_ (by first | (simp; done) | (simp; exact Below.size (by assumption)) | (simp; omega)) _) | (with_reducible refine bel_tr ?_ (by assumption)))⟩
    · have e1 : upS st ha = st := by unfold upS; rw [if_neg (by omega)]
      have e2 : upH st ha = ha := by unfold upH; rw [if_neg (by omega)]
      rw [e1] at hb hn
      rw [e1, e2]
      clear e1 e2
      have h3 : ((st == 0) = false) ∨ ((st == 0) = true ∧ decide (ha < 0) = false) := by
        by_cases e : st = 0
        · right; exact ⟨by rw [beq_iff_eq]; exact e, decide_eq_false (fun c => h2 ⟨e, c⟩)⟩
        · left; rw [beq_eq_false_iff_ne]; exact e
      clear h2
      rcases h3 with d2 | ⟨d2, d3⟩
      · obtain ⟨z, hz⟩ : ∃ z, natI (st) = z := ⟨_, rfl⟩
        rw [hz] at hn ⊢
        have HZ := Lib.hid hz
        have i1 := IntWalk.i64_in ((ha) - z) (by omega)
        clear hz
        go_enter Try.func91, Try.ntmps91
        go_wp2_with fail
        generalize hv : (w.alloc (.cells #[.int .i64 st, .int .i64 ha] 44)) = v at *
        have q0 : v.cell? ⟨w.heap.size, 0, none⟩ = some (.int .i64 st) := by rw [← hv]; simp
        have q1 : v.cell? ⟨w.heap.size, 1, none⟩ = some (.int .i64 ha) := by rw [← hv]; simp
        have bv : Below w.heap.size w v := by rw [← hv]; exact bel_al (bel_refl _) _
        clear hv
        have LB : ∀ xL : Later v, Calls Try.prog 78 #[.int .i64 (st)] xL.world fun e w'' => e = .returned (.int .i64 z) ∧ ∃ z : Later v, w'' = z.world := fun xL => later_call (nat_val HZ.out _ (by omega) (by omega))
        have lf0 : ∀ xL : Later v, xL.world.cell? ⟨w.heap.size, 0, none⟩ = some (.int .i64 st) := fun xL => xL.at (q0)
        have lf1 : ∀ xL : Later v, xL.world.cell? ⟨w.heap.size, 1, none⟩ = some (.int .i64 ha) := fun xL => xL.at (q1)
        refine region_later (w0 := v) (by kernel_rfl) (by kernel_rfl) (bel_refl _) ?_
        repeat (go_big_quiet_step ((go_at_call 78; exact LB _)))
        refine wpQuiet_nil ?_
        rintro w' ⟨x, rfl⟩
        obtain ⟨w2, b2⟩ := x
        clear lf0 lf1
        go_wp2
        go_ret
        exact ⟨rfl, by repeat (first | (with_reducible assumption) | (exact bel_undr (by with_reducible assumption)) | (with_reducible exact bel_refl _) | (with_reducible refine bel_dr ?_) | (with_reducible refine bel_drN ?_ _) | (with_reducible refine bel_al ?_ _) | (refine bel_set ?_ (by first | (simp; done) | (simp; exact Below.size (by assumption)) | (simp; omega)) _) | (with_reducible refine bel_tr ?_ (by assumption)))⟩
      · obtain ⟨z, hz⟩ : ∃ z, natI (st) = z := ⟨_, rfl⟩
        rw [hz] at hn ⊢
        have HZ := Lib.hid hz
        have i1 := IntWalk.i64_in ((ha) - z) (by omega)
        clear hz
        go_enter Try.func91, Try.ntmps91
        go_wp2_with fail
        generalize hv : (w.alloc (.cells #[.int .i64 st, .int .i64 ha] 44)) = v at *
        have q0 : v.cell? ⟨w.heap.size, 0, none⟩ = some (.int .i64 st) := by rw [← hv]; simp
        have q1 : v.cell? ⟨w.heap.size, 1, none⟩ = some (.int .i64 ha) := by rw [← hv]; simp
        have bv : Below w.heap.size w v := by rw [← hv]; exact bel_al (bel_refl _) _
        clear hv
        have LB : ∀ xL : Later v, Calls Try.prog 78 #[.int .i64 (st)] xL.world fun e w'' => e = .returned (.int .i64 z) ∧ ∃ z : Later v, w'' = z.world := fun xL => later_call (nat_val HZ.out _ (by omega) (by omega))
        have lf0 : ∀ xL : Later v, xL.world.cell? ⟨w.heap.size, 0, none⟩ = some (.int .i64 st) := fun xL => xL.at (q0)
        have lf1 : ∀ xL : Later v, xL.world.cell? ⟨w.heap.size, 1, none⟩ = some (.int .i64 ha) := fun xL => xL.at (q1)
        refine region_later (w0 := v) (by kernel_rfl) (by kernel_rfl) (bel_refl _) ?_
        repeat (go_big_quiet_step ((go_at_call 78; exact LB _)))
        refine wpQuiet_nil ?_
        rintro w' ⟨x, rfl⟩
        obtain ⟨w2, b2⟩ := x
        clear lf0 lf1
        go_wp2
        go_ret
        exact ⟨rfl, by repeat (first | (with_reducible assumption) | (exact bel_undr (by with_reducible assumption)) | (with_reducible exact bel_refl _) | (with_reducible refine bel_dr ?_) | (with_reducible refine bel_drN ?_ _) | (with_reducible refine bel_al ?_ _) | (refine bel_set ?_ (by first | (simp; done) | (simp; exact Below.size (by assumption)) | (simp; omega)) _) | (with_reducible refine bel_tr ?_ (by assumption)))⟩
theorem sq_val {st ha v : Int} (h : quI st ha = v) (w : World) (h0 : -21 ≤ st ∧ st ≤ 21) (t0 : -99 ≤ ha) (t1 : ha ≤ 99) : Calls Try.prog 91 #[.agg #[.int .i64 st, .int .i64 ha]] w fun e w' => e = .returned (.int .i64 v) ∧ Below w.heap.size w w' := by
  subst h; exact sq_any st ha w h0 t0 t1

set_option maxHeartbeats 1000000 in
theorem siv_any (st ha : Int) (w : World) : Calls Try.prog 73 #[.agg #[.int .i64 st, .int .i64 ha]] w fun e w' => e = .returned (.bool (ivB st ha)) ∧ Below w.heap.size w w' := by
  rw [ivB_iff]
  by_cases h1 : -21 ≤ st ∧ st ≤ 21
  · by_cases h2 : -60 ≤ ha ∧ ha ≤ 60
    · obtain ⟨q, hq⟩ : ∃ q, quI st ha = q := ⟨_, rfl⟩
      have HQ := Lib.hid hq
      have H1 := h1
      have H2 := h2
      obtain ⟨s0, s1⟩ := h1
      obtain ⟨t0, t1⟩ := h2
      by_cases h3 : -3 ≤ q ∧ q ≤ 3
      · refine bool_at (v := true) (decide_eq_true ⟨H1, H2, by rw [hq]; exact h3⟩) ?_
        obtain ⟨q0, q1⟩ := h3
        clear hq
        go_enter Try.func73, Try.ntmps73
        go_wp2_with (first | (go_at_call 56; refine (swin_yes _ _ _ _ (by omega) (by omega)).mono ?_; rintro e w' ⟨rfl, rfl⟩) | (go_at_call 56; refine (swin_no _ _ _ _ (by omega)).mono ?_; rintro e w' ⟨rfl, rfl⟩) | (go_at_call 91; refine (sq_val HQ.out _ H1 (by omega) (by omega)).mono ?_; rintro e1 w1 ⟨rfl, b1⟩))
        go_ret
        exact ⟨rfl, by repeat (first | (with_reducible assumption) | (exact bel_undr (by with_reducible assumption)) | (with_reducible exact bel_refl _) | (with_reducible refine bel_dr ?_) | (with_reducible refine bel_drN ?_ _) | (with_reducible refine bel_al ?_ _) | (refine bel_set ?_ (by first | (simp; done) | (simp; exact Below.size (by assumption)) | (simp; omega)) _) | (with_reducible refine bel_tr ?_ (by assumption)))⟩
      · refine bool_at (v := false) (decide_eq_false (by rw [hq]; exact fun c => h3 c.2.2)) ?_
        have h4 : q < -3 ∨ 3 < q := by omega
        clear hq h3
        go_enter Try.func73, Try.ntmps73
        go_wp2_with (first | (go_at_call 56; refine (swin_yes _ _ _ _ (by omega) (by omega)).mono ?_; rintro e w' ⟨rfl, rfl⟩) | (go_at_call 56; refine (swin_no _ _ _ _ (by omega)).mono ?_; rintro e w' ⟨rfl, rfl⟩) | (go_at_call 91; refine (sq_val HQ.out _ H1 (by omega) (by omega)).mono ?_; rintro e1 w1 ⟨rfl, b1⟩))
        go_ret
        exact ⟨rfl, by repeat (first | (with_reducible assumption) | (exact bel_undr (by with_reducible assumption)) | (with_reducible exact bel_refl _) | (with_reducible refine bel_dr ?_) | (with_reducible refine bel_drN ?_ _) | (with_reducible refine bel_al ?_ _) | (refine bel_set ?_ (by first | (simp; done) | (simp; exact Below.size (by assumption)) | (simp; omega)) _) | (with_reducible refine bel_tr ?_ (by assumption)))⟩
    · refine bool_at (v := false) (decide_eq_false (fun c => h2 c.2.1)) ?_
      have h4 : ha < -60 ∨ 60 < ha := by omega
      obtain ⟨s0, s1⟩ := h1
      have HQ : Hid (quI st ha = 0 ∨ True) := .inr trivial
      clear h2
      go_enter Try.func73, Try.ntmps73
      go_wp2_with (first | (go_at_call 56; refine (swin_yes _ _ _ _ (by omega) (by omega)).mono ?_; rintro e w' ⟨rfl, rfl⟩) | (go_at_call 56; refine (swin_no _ _ _ _ (by omega)).mono ?_; rintro e w' ⟨rfl, rfl⟩) | (fail; go_at_call 91; refine (sh_any 0 _ (by omega) (by omega)).mono ?_; rintro e1 w1 ⟨rfl, b1⟩))
      go_ret
      exact ⟨rfl, by repeat (first | (with_reducible assumption) | (exact bel_undr (by with_reducible assumption)) | (with_reducible exact bel_refl _) | (with_reducible refine bel_dr ?_) | (with_reducible refine bel_drN ?_ _) | (with_reducible refine bel_al ?_ _) | (refine bel_set ?_ (by first | (simp; done) | (simp; exact Below.size (by assumption)) | (simp; omega)) _) | (with_reducible refine bel_tr ?_ (by assumption)))⟩
  · refine bool_at (v := false) (decide_eq_false (fun c => h1 c.1)) ?_
    have h4 : st < -21 ∨ 21 < st := by omega
    clear h1
    go_enter Try.func73, Try.ntmps73
    go_wp2_with (first | (go_at_call 56; refine (swin_yes _ _ _ _ (by omega) (by omega)).mono ?_; rintro e w' ⟨rfl, rfl⟩) | (go_at_call 56; refine (swin_no _ _ _ _ (by omega)).mono ?_; rintro e w' ⟨rfl, rfl⟩) | (fail; go_at_call 91; refine (sh_any 0 _ (by omega) (by omega)).mono ?_; rintro e1 w1 ⟨rfl, b1⟩))
    go_ret
    exact ⟨rfl, by repeat (first | (with_reducible assumption) | (exact bel_undr (by with_reducible assumption)) | (with_reducible exact bel_refl _) | (with_reducible refine bel_dr ?_) | (with_reducible refine bel_drN ?_ _) | (with_reducible refine bel_al ?_ _) | (refine bel_set ?_ (by first | (simp; done) | (simp; exact Below.size (by assumption)) | (simp; omega)) _) | (with_reducible refine bel_tr ?_ (by assumption)))⟩
theorem siv_val {st ha : Int} {v : Bool} (h : ivB st ha = v) (w : World) : Calls Try.prog 73 #[.agg #[.int .i64 st, .int .i64 ha]] w fun e w' => e = .returned (.bool v) ∧ Below w.heap.size w w' := by
  subst h; exact siv_any st ha w
end
section
open Go.RowKit
section
variable {P : Program} {ops : Array Oper} {md : Region.Mode} {C : World → Prop}

/-- so long as the first n operations are not through, one of them comes up, and each is quiet in the class -/
def HeadQ (P : Program) (md : Region.Mode) (ops : Array Oper) (C : World → Prop) (n : Nat) (L : Array Bool → Act → Prop) : Nat → Array Bool → Act → Prop
  | 0, done, a => L done a
  | f + 1, done, a => Region.ready md ops done ≠ [] ∧ ∀ i, i ∈ Region.ready md ops done → i < n ∧ qOp P ops C i (HeadQ P md ops C n L f (done.setIfInBounds i true)) a

theorem HeadQ.any {n g : Nat} {L : Array Bool → Act → Prop} {Q' : Exit → Act → World → Prop} (hL : ∀ done a w, C w → L done a → wpAny P md ops Q' g done a w) (f : Nat) :
    ∀ done a w, C w → HeadQ P md ops C n L f done a → wpAny P md ops Q' (f + g) done a w := by
  induction f with
  | zero => intro done a w hw h; rw [Nat.zero_add]; exact hL _ _ _ hw h
  | succ f ih =>
    intro done a w hw h
    have e : f + 1 + g = (f + g) + 1 := by omega
    rw [e]
    exact ⟨fun h0 => absurd h0 h.1, fun i hi => wpOp_of_qOp hw (fun a' w' hw' h' => ih _ a' w' hw' h') (h.2 i hi).2⟩

theorem HeadQ.first {n i : Nat} {oi : Oper} {v : Value} {L : Array Bool → Act → Prop} (hi : ops[i]? = some oi) (nosel : ∀ (j : Nat) (o : Oper) cs b, ops[j]? = some o → o.op ≠ .select cs b)
    (I : Array Bool → Prop) (iset : ∀ done j, I done → j ∈ Region.ready md ops done → j < n → I (done.setIfInBounds j true)) (wait : ∀ done, I done → done.getD i true = false → ∀ t, n ≤ t → t ∉ Region.ready md ops done) (hin : i < n) (late : ∀ done a, L done a → ∀ j, j ∈ Region.ready md ops done → n ≤ j) (f : Nat) :
    ∀ done a, I done → (∀ j oj, ops[j]? = some oj → j ≠ i → done.getD j true = false → (∀ e ∈ oj.after, Region.binds md e = true → e.on ≠ i) → oi.apart ops oj = true) →
      i ∈ Region.ready md ops done → YieldsIn P ops C oi v a → HeadQ P md ops C n L f (done.setIfInBounds i true) (a.put oi.dst v) → HeadQ P md ops C n L (f + 1) done a := by
  induction f with
  | zero =>
    intro done a inv _ hr hy H
    have todo := (mem_ready.1 hr).1
    refine ⟨(fun h => by rw [h] at hr; cases hr), fun j hj => ?_⟩
    have hjn : j < n := Nat.lt_of_not_le fun h => wait done inv todo j h hj
    refine ⟨hjn, ?_⟩
    by_cases e : j = i
    · subst e; exact hy.qOp hi H
    · exact absurd (late _ _ H j (ready_mono hj e)) (by omega)
  | succ f ih =>
    intro done a inv fr hr hy H
    have todo := (mem_ready.1 hr).1
    refine ⟨(fun h => by rw [h] at hr; cases hr), fun j hj => ?_⟩
    have hjn : j < n := Nat.lt_of_not_le fun h => wait done inv todo j h hj
    refine ⟨hjn, ?_⟩
    by_cases e : j = i
    · subst e; exact hy.qOp hi H
    · obtain ⟨jtodo, oj, hoj, all⟩ := mem_ready.1 hj
      have hno : ∀ e ∈ oj.after, Region.binds md e = true → e.on ≠ i := fun e' he hb heq => by
        have := all e' he hb
        rw [heq, getD_both todo] at this
        cases this
      have swap := qOp_put hoj (fr j oj hoj e jtodo hno) (fun cs b => nosel i oi cs b hi) (fun cs b => nosel j oj cs b hoj) hy (H.2 j (ready_mono hj e)).2
      refine qOp_mono (fun a' h3 => ih (done.setIfInBounds j true) a' (iset _ _ inv hj hjn) (fun k ok hk hki un no => fr k ok hk hki ?_ no) (ready_mono hr (Ne.symm e)) h3.1 ?_) swap
      · by_cases jk : j = k
        · subst jk; exact jtodo
        · rw [getD_set_ne true jk] at un; exact un
      · rw [Array.setIfInBounds_comm _ _ e]; exact h3.2

theorem HeadQ.lex {n g : Nat} {Lq : Act → Prop} (nosel : Region.noSelect ops = true) (lo : Nat) (I : Array Bool → Prop) (iset : ∀ done j, I done → j ∈ Region.ready md ops done → j < n → I (done.setIfInBounds j true)) (wait : ∀ i, lo ≤ i → i < n → ∀ done, I done → done.getD i true = false → ∀ t, n ≤ t → t ∉ Region.ready md ops done) (l : List Oper) :
    ∀ (k : Nat) (done : Array Bool) (a : Act), lo ≤ k → (∀ j, j < l.length → l[j]? = ops[k + j]?) → k + l.length = n → I done → Region.lexHead md ops g l.length k done = true → wpQuiet P ops C Lq l a →
    HeadQ P md ops C n (fun d a' => Region.seqB md ops g n d = true ∧ Lq a') l.length done a := by
  induction l with
  | nil =>
    intro k done a _ _ hk _ hB h
    obtain rfl : k = n := by simpa using hk
    exact ⟨by simpa [Region.lexHead] using hB, h⟩
  | cons o l ih =>
    intro k done a hlo hl hk inv hB h
    have h0 : ops[k]? = some o := by simpa using (hl 0 (by simp)).symm
    simp only [List.length_cons, Region.lexHead, Bool.and_eq_true] at hB hk
    have hr : k ∈ Region.ready md ops done := by simpa using hB.1.1
    have hq : qOp P ops C k (wpQuiet P ops C Lq l) a := by unfold qOp; simp only [h0]; exact h
    obtain ⟨v, hy, hK⟩ := yieldsIn_of_qOp h0 hq
    refine HeadQ.first h0 (Region.noSelect_spec nosel) I iset (wait k hlo (by omega)) (by omega) (fun d a' hL => seqB_ready hL.1) l.length done a inv (Region.free_spec h0 hB.1.2) hr hy ?_
    exact ih (k + 1) _ _ (by omega) (fun j hj => by have := hl (j + 1) (by simp; omega); simpa [Nat.add_assoc, Nat.add_comm 1 j] using this) (by omega) (iset _ _ inv hr (by omega)) hB.2 hK
end

theorem region_tail {P : Program} {id : Nat} {Q : Exit → Act → World → Prop} {a : Act} {w0 w : World} {l : List Oper} (n : Nat) (hm : P.follows .mixedOrders = true) (hB : Region.lexTailB .any l.toArray n = true) (hb : Below w0.heap.size w0 w)
    (h : wpQuiet P l.toArray (fun W => ∃ x : Later w0, W = x.world) (fun a' => ∀ w' : World, (∃ x : Later w0, w' = x.world) → wpList P l.toArray Q (l.drop n) a' w') (l.take n) a) : (Code.region id l.toArray true).wp P Q a w := by
  simp only [Region.lexTailB, Bool.and_eq_true, decide_eq_true_eq] at hB
  obtain ⟨⟨⟨⟨nosel, hn⟩, sink⟩, chain⟩, hlex⟩ := hB
  have hn' : n < l.length := by simpa using hn
  have tl : (l.take n).length = n := by simp; omega
  have dl : (l.drop n).length = l.toArray.size - n := by simp
  have inv0 : HeadInv .any l.toArray n (Array.replicate l.toArray.size false) :=
    ⟨by simp, fun j oj _ hl => (by rw [getD_replicate_false] at hl; cases hl), fun t _ ht => getD_in (by simpa using ht) (getD_replicate_false _ _)⟩
  have H := HeadQ.lex (md := .any) (g := l.toArray.size - n) nosel 0 (HeadInv .any l.toArray n) (fun _ _ inv h1 h2 => inv.set h1 h2) (fun i _ hi done inv todo => tail_waits sink chain hn inv _ i rfl hi todo) (l.take n) 0 _ a (Nat.le_refl _) (fun j hj => by rw [tl] at hj; simp [hj]) (by simpa using tl) inv0 (by rw [tl]; exact hlex) h
  refine wp_region_any hm ?_
  have := HeadQ.any (Q' := Q) (g := l.toArray.size - n) (fun d a' w' hw' hL => by
    have := wpAny_of_seq (md := .any) (Q' := Q) (l.drop n) n d a' w' (fun j => by simp [List.getElem?_drop]) (by rw [dl]; exact hL.1) (hL.2 w' hw')
    rwa [dl] at this) _ _ _ { w with drawn := w.drawn + 1 } ⟨⟨_, bel_dr hb⟩, rfl⟩ H
  rwa [tl, show n + (l.toArray.size - n) = l.toArray.size by omega] at this
/-- as Region.sinkB, but the first operation may come up late -/
def sink1B (md : Region.Mode) (ops : Array Oper) (n : Nat) : Bool :=
  (List.range n).all fun i => i == 0 || (List.range (n + 1)).any fun j => decide (i < j) && Region.waitsFor md ops j i
theorem tail_waits1 {md : Region.Mode} {ops : Array Oper} {n : Nat} {listed : Array Bool} (hs : sink1B md ops n = true) (hc : Region.chainB md ops n = true) (hn : n < ops.size) (inv : HeadInv md ops n listed) :
    ∀ (d i : Nat), n - i = d → 1 ≤ i → i < n → listed.getD i true = false → ∀ t, n ≤ t → t ∉ Region.ready md ops listed := by
  intro d
  induction d using Nat.strongRecOn with
  | _ d ih =>
    intro i hd hi1 hi hun t ht hr
    obtain ⟨_, ot, hot, hall⟩ := mem_ready.1 hr
    have htlt : t < ops.size := (Array.getElem?_eq_some_iff.1 hot).1
    by_cases htn : t = n
    · subst htn
      have h0 := List.all_eq_true.1 hs i (List.mem_range.2 hi)
      have h1 : ((List.range (t + 1)).any fun j => decide (i < j) && Region.waitsFor md ops j i) = true := by
        simp only [Bool.or_eq_true, beq_iff_eq] at h0
        exact h0.resolve_left (by omega)
      obtain ⟨j, hj, hj2⟩ := List.any_eq_true.1 h1
      simp only [Bool.and_eq_true, decide_eq_true_eq] at hj2
      obtain ⟨oj, hoj, e, he, hb, hon⟩ := Region.waitsFor_spec hj2.2
      have hjle : j ≤ t := by have := List.mem_range.1 hj; omega
      by_cases hjt : j = t
      · subst hjt
        have : oj = ot := Option.some.inj (hoj.symm.trans hot)
        subst this
        have h2 := hall e he hb
        rw [hon, getD_both hun] at h2
        cases h2
      · cases hl : listed.getD j false with
        | true =>
          have h2 := inv.closed j oj hoj hl e he hb
          rw [hon, getD_both hun] at h2
          cases h2
        | false =>
          have hjs : j < listed.size := by rw [inv.size]; omega
          exact ih (t - j) (by omega) j rfl (by omega) (by omega) (getD_in hjs hl) t (Nat.le_refl _) hr
    · have h1 := List.all_eq_true.1 hc t (List.mem_range.2 htlt)
      simp only [Bool.or_eq_true, decide_eq_true_eq] at h1
      rcases h1 with h1 | h1
      · omega
      · obtain ⟨o', ho', e, he, hb, hon⟩ := Region.waitsFor_spec h1
        have : o' = ot := Option.some.inj (ho'.symm.trans hot)
        subst this
        have h2 := hall e he hb
        rw [hon, getD_both (inv.tail (t - 1) (by omega) (by omega))] at h2
        cases h2
def lexTail1B (md : Region.Mode) (ops : Array Oper) (n : Nat) : Bool :=
  Region.noSelect ops && decide (n < ops.size) && decide (0 < n) && sink1B md ops n && Region.chainB md ops n && Region.free md ops (Array.replicate ops.size false) 0 && (Region.ready md ops (Array.replicate ops.size false)).contains 0 &&
    Region.lexHead md ops (ops.size - n) (n - 1) 1 ((Array.replicate ops.size false).setIfInBounds 0 true)
/-- the first operation (a plain move, as the slice that is appended to) is taken first, though it may come up late -/
theorem region_tail1 {P : Program} {id : Nat} {Q : Exit → Act → World → Prop} {a : Act} {w0 w : World} {o0 : Oper} {l : List Oper} {v : Value} (n : Nat) (hm : P.follows .mixedOrders = true) (hB : lexTail1B .any (o0 :: l).toArray (n + 1) = true) (hb : Below w0.heap.size w0 w)
    (hQ : ∀ c a w, Q (.panic c) (a.put o0.dst v) w → Q (.panic c) a w) (hy : Yields P (o0 :: l).toArray o0 v a)
    (h : wpQuiet P (o0 :: l).toArray (fun W => ∃ x : Later w0, W = x.world) (fun a' => ∀ w' : World, (∃ x : Later w0, w' = x.world) → wpList P (o0 :: l).toArray Q (l.drop n) a' w') (l.take n) (a.put o0.dst v)) : (Code.region id (o0 :: l).toArray true).wp P Q a w := by
  simp only [lexTail1B, Bool.and_eq_true, decide_eq_true_eq] at hB
  obtain ⟨⟨⟨⟨⟨⟨⟨nosel, hn⟩, _⟩, sink⟩, chain⟩, free⟩, hr⟩, hlex⟩ := hB
  have hn' : n < l.length := by simpa using hn
  have tl : (l.take n).length = n := by simp; omega
  have dl : (l.drop n).length = (o0 :: l).toArray.size - (n + 1) := by simp
  have inv0 : HeadInv .any (o0 :: l).toArray (n + 1) (Array.replicate (o0 :: l).toArray.size false) :=
    ⟨by simp, fun j oj _ hl => (by rw [getD_replicate_false] at hl; cases hl), fun t _ ht => getD_in (by simpa using ht) (getD_replicate_false _ _)⟩
  have hr' : 0 ∈ Region.ready .any (o0 :: l).toArray (Array.replicate (o0 :: l).toArray.size false) := by simpa using hr
  have inv1 := inv0.set hr' (by omega)
  have H := HeadQ.lex (md := .any) (g := (o0 :: l).toArray.size - (n + 1)) nosel 1 (HeadInv .any (o0 :: l).toArray (n + 1)) (fun _ _ inv h1 h2 => inv.set h1 h2) (fun i h1 hi done inv todo => tail_waits1 sink chain hn inv _ i rfl h1 hi todo) (l.take n) 1 _ _ (Nat.le_refl _) (fun j hj => by rw [tl] at hj; simp [hj, Nat.add_comm 1 j]) (by rw [tl]; omega) inv1 (by rw [tl]; exact hlex) h
  refine wp_region_any hm ?_
  have hs : (o0 :: l).toArray.size = (n + ((o0 :: l).toArray.size - (n + 1))) + 1 := by omega
  have hs2 : (o0 :: l).toArray.size + 1 = ((o0 :: l).toArray.size) + 1 := rfl
  have F := HeadQ.any (Q' := Q) (g := (o0 :: l).toArray.size - (n + 1)) (fun d a' w' hw' hL => by
    have := wpAny_of_seq (md := .any) (Q' := Q) (l.drop n) (n + 1) d a' w' (fun j => by rw [List.getElem?_drop, List.getElem?_toArray, show n + 1 + j = (n + j) + 1 by omega, List.getElem?_cons_succ]) (by rw [dl]; exact hL.1) (hL.2 w' hw')
    rwa [dl] at this) _ _ _ { w with drawn := w.drawn + 1 } ⟨⟨_, bel_dr hb⟩, rfl⟩ H
  rw [tl] at F
  have G := wpAny_take (i := 0) (oi := o0) (by simp) nosel free hr hQ hy F
  rwa [← hs] at G
end
section
open Go.RowKit
section
variable {P : Program} {ops : Array Oper} {md : Region.Mode} {Q : Exit → Act → World → Prop}

def updD (D : Nat → Bool) (i : Nat) : Nat → Bool := fun j => if j = i then true else D j
theorem updD_of {D : Nat → Bool} {i j : Nat} (h : D j = true) : updD D i j = true := by unfold updD; split <;> first | rfl | exact h
def undone (n : Nat) (done : Array Bool) : Nat := (List.range n).countP fun i => !done.getD i true
theorem undone_zero {n : Nat} {done : Array Bool} (h : undone n done = 0) (i : Nat) (hi : i < n) : done.getD i true = true := by
  unfold undone at h
  rw [List.countP_eq_zero] at h
  have := h i (List.mem_range.2 hi)
  simpa using this
theorem done_set {done : Array Bool} {i : Nat} (hi : done.getD i true = false) : (fun j => (done.setIfInBounds i true).getD j true) = updD (fun j => done.getD j true) i := by
  have hlt : i < done.size := by
    rcases Nat.lt_or_ge i done.size with h | h
    · exact h
    · simp [Array.getD, Nat.not_lt.2 h] at hi
  funext j
  unfold updD
  by_cases e : j = i
  · subst e
    simp [Array.getD, hlt]
  · rw [if_neg e]
    exact getD_set_ne true (Ne.symm e)
theorem countP_upd (p q : Nat → Bool) (i : Nat) : ∀ n, i < n → p i = true → q i = false → (∀ j, j ≠ i → q j = p j) → (List.range n).countP q + 1 = (List.range n).countP p := by
  intro n
  induction n with
  | zero => intro h; omega
  | succ n ih =>
    intro h hp hq he
    rw [List.range_succ, List.countP_append, List.countP_append]
    rcases Nat.lt_or_ge i n with h1 | h1
    · have := ih h1 hp hq he
      have e : List.countP q [n] = List.countP p [n] := by simp [List.countP_cons, he n (by omega)]
      omega
    · obtain rfl : i = n := by omega
      have e : (List.range i).countP q = (List.range i).countP p := List.countP_congr (fun j hj => by rw [he j (by have := List.mem_range.1 hj; omega)])
      simp [List.countP_cons, hp, hq, e]
theorem undone_set {n : Nat} {done : Array Bool} {i : Nat} (hi : i < n) (hd : done.getD i true = false) : undone n (done.setIfInBounds i true) + 1 = undone n done := by
  unfold undone
  have e := done_set hd
  refine countP_upd _ _ i n hi (by simp [hd]) ?_ ?_
  · have := congrFun e i
    simp only [updD, if_true] at this
    simp only [this, Bool.not_true]
  · intro j hj
    have := congrFun e j
    simp only [updD, if_neg hj] at this
    simp only [this]
/-- every operation waits for earlier ones alone -/
def lowB (md : Region.Mode) (ops : Array Oper) : Bool := (List.range ops.size).all fun i => match ops[i]? with | some o => o.after.all fun e => !Region.binds md e || decide (e.on < i) | none => true
theorem lowB_ready (h : lowB md ops = true) {done : Array Bool} : ∀ n i, i < n → i < ops.size → done.getD i true = false → done.size = ops.size → Region.ready md ops done ≠ [] := by
  intro n
  induction n with
  | zero => intro i h; omega
  | succ n ih =>
    intro i hi hs hd hz
    by_cases hr : i ∈ Region.ready md ops done
    · intro e; rw [e] at hr; cases hr
    · have ho : ops[i]? = some (ops[i]'hs) := Array.getElem?_eq_getElem hs
      have hl := List.all_eq_true.1 h i (List.mem_range.2 hs)
      simp only [ho] at hl
      have : ∃ e ∈ (ops[i]'hs).after, Region.binds md e = true ∧ done.getD e.on false = false := by
        refine Classical.byContradiction fun hc => hr (mem_ready.2 ⟨hd, _, ho, fun e he hbd => ?_⟩)
        cases hb : done.getD e.on false with
        | true => rfl
        | false => exact absurd ⟨e, he, hbd, hb⟩ hc
      obtain ⟨e, he, hbd, hf⟩ := this
      have hlt : e.on < i := by
        have := Array.all_eq_true'.1 hl e he
        simpa [hbd] using this
      refine ih e.on (by omega) (by omega) ?_ hz
      have : e.on < done.size := by omega
      simpa [Array.getD, this] using hf
theorem wpAny_inv (low : lowB md ops = true) (I : (Nat → Bool) → Act → World → Prop)
    (hstep : ∀ i o, i < ops.size → ops[i]? = some o → ∀ (D : Nat → Bool) a w, D i = false → (∀ e, e ∈ o.after → Region.binds md e = true → D e.on = true) → I D a w → wpOp P ops Q i (I (updD D i)) a w)
    (hend : ∀ (D : Nat → Bool) a w, (∀ i, i < ops.size → D i = true) → I D a w → Q .normal a w) :
    ∀ fuel (done : Array Bool) a w, done.size = ops.size → undone ops.size done ≤ fuel → I (fun j => done.getD j true) a w → wpAny P md ops Q fuel done a w := by
  have fin : ∀ (done : Array Bool), done.size = ops.size → Region.ready md ops done = [] → ∀ i, i < ops.size → done.getD i true = true := fun done hz hr i hi => by
    cases hd : done.getD i true with
    | true => rfl
    | false => exact absurd hr (lowB_ready low (i + 1) i (by omega) hi hd hz)
  intro fuel
  induction fuel with
  | zero =>
    intro done a w hz hu hI
    have hall := undone_zero (Nat.le_zero.1 hu)
    refine ⟨?_, hend _ _ _ hall hI⟩
    cases hr : Region.ready md ops done with
    | nil => rfl
    | cons i r =>
      have hm : i ∈ Region.ready md ops done := by rw [hr]; exact List.mem_cons_self
      obtain ⟨hd, o, ho, _⟩ := mem_ready.1 hm
      have := hall i (Array.getElem?_eq_some_iff.1 ho).1
      rw [hd] at this; cases this
  | succ fuel ih =>
    intro done a w hz hu hI
    refine ⟨fun hr => hend _ _ _ (fin done hz hr) hI, fun i hi => ?_⟩
    obtain ⟨hd, o, ho, hdep⟩ := mem_ready.1 hi
    have hlt : i < ops.size := (Array.getElem?_eq_some_iff.1 ho).1
    refine wpOp_mono (fun a' w' h' => ?_) (hstep i o hlt ho (fun j => done.getD j true) a w hd (fun e he hb => ?_) hI)
    · rw [← done_set hd] at h'
      exact ih _ _ _ (by simpa using hz) (by have := undone_set hlt hd; omega) h'
    · have h1 := hdep e he hb
      have : e.on < done.size := by
        rcases Nat.lt_or_ge e.on done.size with h | h
        · exact h
        · simp [Array.getD, Nat.not_lt.2 h] at h1
      simpa [Array.getD, this] using h1
/-- an activation with new values in some of its slots -/
def puts (a : Act) : List (Nat × Value) → Act
  | [] => a
  | x :: r => (puts a r).put (some x.1) x.2
def updL (ps : List (Nat × Value)) (d : Nat) (v : Value) : List (Nat × Value) := ps.map fun x => if x.1 = d then (d, v) else x
theorem put_put (a : Act) (d : Nat) (u v : Value) : (a.put (some d) u).put (some d) v = a.put (some d) v := by
  simp [Act.put]
theorem puts_upd (a : Act) (d : Nat) (v : Value) : ∀ ps : List (Nat × Value), (puts a (updL ps d v)).put (some d) v = (puts a ps).put (some d) v
  | [] => rfl
  | x :: r => by
    show (puts a ((if x.1 = d then (d, v) else x) :: updL r d v)).put (some d) v = _
    by_cases e : x.1 = d
    · rw [if_pos e]
      show ((puts a (updL r d v)).put (some d) v).put (some d) v = ((puts a r).put (some x.1) x.2).put (some d) v
      rw [put_put, puts_upd a d v r, e, put_put]
    · rw [if_neg e]
      show ((puts a (updL r d v)).put (some x.1) x.2).put (some d) v = ((puts a r).put (some x.1) x.2).put (some d) v
      rw [Act.put_comm _ _ _ (fun d' h h' => e (by cases h; exact Option.some.inj h'.symm)), puts_upd a d v r, Act.put_comm _ _ _ (fun d' h h' => e (by cases h; exact (Option.some.inj h')))]
theorem puts_put (a : Act) (d : Nat) (v : Value) : ∀ ps : List (Nat × Value), d ∈ ps.map Prod.fst → (puts a ps).put (some d) v = puts a (updL ps d v)
  | [], h => by cases h
  | x :: r, h => by
    show ((puts a r).put (some x.1) x.2).put (some d) v = puts a ((if x.1 = d then (d, v) else x) :: updL r d v)
    by_cases e : x.1 = d
    · rw [if_pos e]
      show _ = (puts a (updL r d v)).put (some d) v
      rw [puts_upd, e, put_put]
    · rw [if_neg e]
      show _ = (puts a (updL r d v)).put (some x.1) x.2
      have hr : d ∈ r.map Prod.fst := by
        rcases List.mem_cons.1 h with h | h
        · exact absurd h.symm e
        · exact h
      rw [Act.put_comm _ _ _ (fun d' h h' => e (by cases h; exact Option.some.inj h'.symm)), puts_put a d v r hr]
theorem put_self (a : Act) (d : Nat) : a.put (some d) (a.eval (.tmp d)) = a := by
  obtain ⟨tmps, defers⟩ := a
  simp only [Act.put, Act.eval]
  congr 1
  apply Array.ext_getElem?
  intro j
  by_cases e : d = j
  · subst e
    by_cases h : d < tmps.size
    · simp [Array.getD, h]
    · simp [h]
  · rw [Array.getElem?_setIfInBounds_ne e]
theorem puts_self (a : Act) : ∀ ds : List Nat, puts a (ds.map fun d => (d, a.eval (.tmp d))) = a
  | [] => rfl
  | d :: r => by
    show (puts a (r.map fun d => (d, a.eval (.tmp d)))).put (some d) (a.eval (.tmp d)) = a
    rw [puts_self a r, put_self]
/-- a region that draws its order under an invariant on the slots ds and the memory -/
theorem region_slots {id : Nat} {a : Act} {w : World} {l : List Oper} (hm : P.follows .mixedOrders = true) (low : lowB .any l.toArray = true) (ds : List Nat) (R : (Nat → Bool) → List Value → World → Prop)
    (h0 : ∀ us, us.length = ds.length → R (fun j => decide (l.length ≤ j)) us w.drew)
    (hstep : ∀ i o, i < l.length → l[i]? = some o → ∀ (D : Nat → Bool) us W, us.length = ds.length → D i = false → (∀ e, e ∈ o.after → Region.binds .any e = true → D e.on = true) → R D us W →
      wpOp P l.toArray Q i (fun a' W' => ∃ us', us'.length = ds.length ∧ a' = puts a (ds.zip us') ∧ R (updD D i) us' W') (puts a (ds.zip us)) W)
    (hend : ∀ (D : Nat → Bool) us W, us.length = ds.length → (∀ i, i < l.length → D i = true) → R D us W → Q .normal (puts a (ds.zip us)) W) : (Code.region id l.toArray true).wp P Q a w := by
  refine wp_region_any hm (wpAny_inv (md := .any) low (fun D a' W => ∃ us : List Value, us.length = ds.length ∧ a' = puts a (ds.zip us) ∧ R D us W) ?_ ?_ _ _ _ _ (by simp) (by unfold undone; exact Nat.le_trans List.countP_le_length (by simp)) ?_)
  · rintro i o hi ho D a' W hd hdep ⟨us, hu, rfl, hR⟩
    exact hstep i o (by simpa using hi) (by simpa using ho) D us W hu hd hdep hR
  · rintro D a' W hall ⟨us, hu, rfl, hR⟩
    exact hend D us W hu (fun i hi => hall i (by simpa using hi)) hR
  · refine ⟨ds.map fun d => a.eval (.tmp d), by simp, ?_, ?_⟩
    · have e : ds.zip (ds.map fun d => a.eval (.tmp d)) = ds.map fun d => (d, a.eval (.tmp d)) := by
        generalize ds = k
        induction k with
        | nil => rfl
        | cons d r ih => simp [ih]
      rw [e, puts_self]
    · have h := h0 (ds.map fun d => a.eval (.tmp d)) (by simp)
      have e : (fun j => (Array.replicate l.toArray.size false).getD j true) = fun j => decide (l.length ≤ j) := by
        funext j
        by_cases hj : j < l.length
        · simp [Array.getD, hj]
        · simp [Array.getD, hj]; omega
      rw [e]
      exact h
end
end
end Go.Proofs.Ytiapfpjggginoaa
