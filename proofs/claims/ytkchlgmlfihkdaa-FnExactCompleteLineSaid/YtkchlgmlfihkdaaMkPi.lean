/- The marks that a law lays into a slice of Pitch, and finds again; slices that the call itself made. -/
import Derived.Test.YtkchlgmlfihkdaaRowPi
import Derived.Test.YtkchlgmlfihkdaaBa
import Derived.Test.YtkchlgmlfihkdaaTrn
namespace Go.Proofs.Ytkchlgmlfihkdaa
set_option linter.unusedSimpArgs false
set_option linter.unusedVariables false
open Go.RowKit

def CMPi (w : World) (b off : Nat) (t : Pi) (i : Nat) : Prop := w.cell? ⟨b, off + i * 3, none⟩ = some (.int .i64 t.step) ∧ w.cell? ⟨b, off + i * 3 + 1, none⟩ = some (.int .i64 t.alter) ∧ w.cell? ⟨b, off + i * 3 + 2, none⟩ = some (.int .i64 t.octave)
def mkPi (V : Int) : Pi := ⟨V, V + 1, V + 1 + 1⟩
def mkLPi (n : Nat) (K : Int) : List Pi := (List.range n).map fun (i : Nat) => mkPi (K + 3 * (i : Int))
theorem mkLPi_len (n : Nat) (K : Int) : (mkLPi n K).length = n := by simp [mkLPi]
theorem at_mkLPi (n : Nat) (K : Int) (i : Nat) (h : i < n) : atPi (mkLPi n K) i = mkPi (K + 3 * (i : Int)) := by
  unfold atPi mkLPi; rw [List.getD_eq_getElem?_getD, List.getElem?_map, List.getElem?_range h]; rfl
theorem mstepPi (wr : World) (b off i n : Nat) (f : Nat → Pi) (t : Pi) (ht : f i = t) (hlt : i < n) (hd : ∀ j, j < i → CMPi wr b off (f j) j) (hs : ∀ o, o < n * 3 → (wr.cell? ⟨b, off + o, none⟩).isSome = true) (hf : ∀ o, wr.frozen? ⟨b, o, none⟩ = false) :
    (∀ j, j < i + 1 → CMPi (((wr.setCell ⟨b, off + i * 3, none⟩ (.int .i64 t.step)).setCell ⟨b, off + i * 3 + 1, none⟩ (.int .i64 t.alter)).setCell ⟨b, off + i * 3 + 2, none⟩ (.int .i64 t.octave)) b off (f j) j) ∧ (∀ o, o < n * 3 → ((((wr.setCell ⟨b, off + i * 3, none⟩ (.int .i64 t.step)).setCell ⟨b, off + i * 3 + 1, none⟩ (.int .i64 t.alter)).setCell ⟨b, off + i * 3 + 2, none⟩ (.int .i64 t.octave)).cell? ⟨b, off + o, none⟩).isSome = true) ∧ (∀ o, (((wr.setCell ⟨b, off + i * 3, none⟩ (.int .i64 t.step)).setCell ⟨b, off + i * 3 + 1, none⟩ (.int .i64 t.alter)).setCell ⟨b, off + i * 3 + 2, none⟩ (.int .i64 t.octave)).frozen? ⟨b, o, none⟩ = false) ∧ (∀ w, Onl b w wr → Onl b w (((wr.setCell ⟨b, off + i * 3, none⟩ (.int .i64 t.step)).setCell ⟨b, off + i * 3 + 1, none⟩ (.int .i64 t.alter)).setCell ⟨b, off + i * 3 + 2, none⟩ (.int .i64 t.octave))) := by
  have ne : ∀ x y : Nat, x ≠ y → (⟨b, x, none⟩ : Addr) ≠ ⟨b, y, none⟩ := fun x y h e => h (congrArg Addr.off e)
  refine ⟨fun j hj => ?_, fun o ho => ?_, fun o => ?_, fun w h => ?_⟩
  · by_cases hjk : j < i
    · obtain ⟨d0, d1, d2⟩ := hd j hjk
      exact ⟨keep_off (keep_off (keep_off (d0) (ne _ _ (by omega))) (ne _ _ (by omega))) (ne _ _ (by omega)), keep_off (keep_off (keep_off (d1) (ne _ _ (by omega))) (ne _ _ (by omega))) (ne _ _ (by omega)), keep_off (keep_off (keep_off (d2) (ne _ _ (by omega))) (ne _ _ (by omega))) (ne _ _ (by omega))⟩
    · obtain rfl : j = i := by omega
      rw [ht]
      have hs' : ∀ r, r < 3 → (wr.cell? ⟨b, off + j * 3 + r, none⟩).isSome = true := fun r hr => by rw [Nat.add_assoc]; exact hs _ (by omega)
      exact ⟨keep_off (keep_off (set_same ((by simpa using hs' 0 (by omega)))) (ne _ _ (by omega))) (ne _ _ (by omega)), keep_off (set_same (some_set ((by simpa using hs' 1 (by omega))) (ne _ _ (by omega)))) (ne _ _ (by omega)), set_same (some_set (some_set ((by simpa using hs' 2 (by omega))) (ne _ _ (by omega))) (ne _ _ (by omega)))⟩
  · exact some_setx (some_setx (some_setx (hs o ho)))
  · exact fz_set (fz_set (fz_set (hf o)))
  · exact ((h.trans (Onl.set _ _ _)).trans (Onl.set _ _ _)).trans (Onl.set _ _ _)
set_option maxHeartbeats 2000000 in
theorem markSPi_any (A : Option Addr) (n c lo : Nat) (l : List Pi) (K : Int) (w : World) (hn : l.length = n) (hm : n ≤ 2000000) (h0 : 0 ≤ K) (h1 : K ≤ 100000000) (h : RowPi w w.heap.size A l) (ho : OwnPi w lo A l.length) :
    Calls Try.prog 20 #[.slice A n c, .int .i64 K] w fun e w' => e = .returned (.int .i64 (K + 3 * (n : Int))) ∧ Trn A n w w' ∧ RowPi w' w'.heap.size A (mkLPi n K) := by
  subst hn
  obtain ⟨b, off, hA, hb, hf0, hs0⟩ : ∃ b off, (0 < l.length → A = some ⟨b, off, none⟩) ∧ (0 < l.length → b < w.heap.size) ∧ (0 < l.length → ∀ o, w.frozen? ⟨b, o, none⟩ = false) ∧ (∀ o, o < l.length * 3 → (w.cell? ⟨b, off + o, none⟩).isSome = true) := by
    by_cases hp : 0 < l.length
    · obtain ⟨b, off, e, hb, hc⟩ := h hp
      obtain ⟨b', off', e', _, hf⟩ := ho hp
      rw [e] at e'
      simp only [Option.some.injEq, Addr.mk.injEq, and_true] at e'
      refine ⟨b, off, fun _ => e, fun _ => hb, fun _ o => by rw [e'.1]; exact hf o, fun o ho => ?_⟩
      have hc := hc (o / 3) (by omega)
      obtain ⟨p0, p1, p2⟩ := hc
      rcases (show o % 3 = 0 ∨ o % 3 = 1 ∨ o % 3 = 2 from by omega) with e | e | e
      · rw [show off + o = off + (o / 3) * 3 from by omega, p0]; rfl
      · rw [show off + o = off + (o / 3) * 3 + 1 from by omega, p1]; rfl
      · rw [show off + o = off + (o / 3) * 3 + 2 from by omega, p2]; rfl
    · exact ⟨0, 0, fun c => absurd c hp, fun c => absurd c hp, fun c => absurd c hp, fun o ho => absurd ho (by omega)⟩
  go_enter Try.func20, Try.ntmps20
  go_wp2
  go_loopw [1, 5] (fun kk i wr => ∃ j : Nat, j ≤ l.length ∧ i = .int .i64 j ∧ kk = .int .i64 (K + 3 * (j : Int)) ∧ Onl b w wr ∧ (l.length = 0 → w = wr) ∧ (∀ r, r < j → CMPi wr b off (mkPi (K + 3 * (r : Int))) r) ∧ (∀ o, o < l.length * 3 → (wr.cell? ⟨b, off + o, none⟩).isSome = true) ∧ (0 < l.length → ∀ o, wr.frozen? ⟨b, o, none⟩ = false)) (fun _ i _ => l.length - (intOf i).toNat)
  case atStart => exact ⟨0, Nat.zero_le _, rfl, by simp, Onl.refl b w, fun _ => rfl, fun r hr => absurd hr (by omega), hs0, hf0⟩
  case round =>
    obtain ⟨j, hj, rfl, rfl, hon, hz, hd, hs, hf⟩ := hrel
    clear hs0 hf0
    by_cases hlt : j < l.length
    · obtain rfl := hA (by omega)
      have hf := hf (by omega)
      obtain ⟨V, hV⟩ : ∃ V, K + 3 * (j : Int) = V := ⟨_, rfl⟩
      rw [hV]
      have HV := Lib.hid hV
      have v0 : 0 ≤ V := by omega
      have v1 : V ≤ 200000000 := by omega
      have hjl : (j : Int) < (l.length : Int) := by omega
      have hj0 : (0 : Int) ≤ (j : Int) := by omega
      have hs' : ∀ r, r < 3 → (wr.cell? ⟨b, off + j * 3 + r, none⟩).isSome = true := fun r hr => by rw [Nat.add_assoc]; exact hs _ (by omega)
      obtain ⟨o0, so0⟩ := Option.isSome_iff_exists.1 (hs' 0 (by omega))
      simp only [Nat.add_zero] at so0
      obtain ⟨o1, so1⟩ := Option.isSome_iff_exists.1 (hs' 1 (by omega))
      obtain ⟨o2, so2⟩ := Option.isSome_iff_exists.1 (hs' 2 (by omega))
      have HD := Lib.hid hd
      have HS := Lib.hid hs
      have HF := Lib.hid hf
      obtain ⟨V1, e1⟩ : ∃ x, V + 1 = x := ⟨_, rfl⟩
      have n1 : 0 ≤ V1 := by omega
      have m1 : V1 ≤ 200000000 + 1 := by omega
      obtain ⟨V2, e2⟩ : ∃ x, V1 + 1 = x := ⟨_, rfl⟩
      have n2 : 0 ≤ V2 := by omega
      have m2 : V2 ≤ 200000000 + 2 := by omega
      obtain ⟨V3, e3⟩ : ∃ x, V2 + 1 = x := ⟨_, rfl⟩
      have n3 : 0 ≤ V3 := by omega
      have m3 : V3 ≤ 200000000 + 3 := by omega
      have HT : Hid (mkPi V = (⟨V, V1, V2⟩ : Pi)) := by show _ = _; simp only [mkPi, e1, e2, e3]
      clear hV hd hs hs' hz h ho hA
      go_wp2
      go_roundw
      case rel =>
        obtain ⟨s1, s2, s3, s4⟩ := mstepPi wr b off j l.length (fun r => mkPi (K + 3 * (r : Int))) ⟨V, V1, V2⟩ (by show mkPi (K + 3 * (j : Int)) = _; rw [HV.out]; exact HT.out) hlt HD.out HS.out HF.out
        have hV := HV.out
        exact ⟨j + 1, by omega, by go_num, congrArg (Value.int .i64) (by omega), s4 _ hon, fun h => absurd h (by omega), s1, s2, fun _ => s3⟩
      case measure => simp [intOf]; omega
    · obtain rfl : j = l.length := by omega
      have HD := Lib.hid hd
      have HN := Lib.hid hon
      have HZ := Lib.hid hz
      clear hs hf hd hon hz
      go_wp2
      go_ret
      refine ⟨rfl, Trn.of HN.out HZ.out hA, fun hl => ?_⟩
      rw [mkLPi_len] at hl
      refine ⟨b, off, hA hl, by rw [HN.out.size]; exact hb hl, fun i hi => ?_⟩
      rw [mkLPi_len] at hi
      rw [at_mkLPi _ _ i hi]
      exact HD.out i hi
set_option maxHeartbeats 2000000 in
theorem heldSPi_any (A : Option Addr) (n c : Nat) (K : Int) (w : World) (hm : n ≤ 2000000) (h0 : 0 ≤ K) (h1 : K ≤ 100000000) (h : RowPi w w.heap.size A (mkLPi n K)) :
    Calls Try.prog 34 #[.slice A n c, .int .i64 K] w fun e w' => e = .returned (.int .i64 (K + 3 * (n : Int))) ∧ Below w.heap.size w w' := by
  go_enter Try.func34, Try.ntmps34
  go_wp2
  go_loopw [1, 5] (fun kk i wr => ∃ j : Nat, j ≤ n ∧ i = .int .i64 j ∧ kk = .int .i64 (K + 3 * (j : Int)) ∧ Below w.heap.size w wr) (fun _ i _ => n - (intOf i).toNat)
  case atStart => exact ⟨0, Nat.zero_le _, rfl, by simp, bel_refl _⟩
  case round =>
    obtain ⟨j, hj, rfl, rfl, hb⟩ := hrel
    by_cases hlt : j < n
    · obtain ⟨b, off, rfl, hlb, hc⟩ := (h.below hb) (by rw [mkLPi_len]; omega)
      have hcj := hc j (by rw [mkLPi_len]; exact hlt)
      rw [at_mkLPi _ _ j hlt] at hcj
      obtain ⟨V, hV⟩ : ∃ V, K + 3 * (j : Int) = V := ⟨_, rfl⟩
      rw [hV] at hcj ⊢
      have HV := Lib.hid hV
      have v0 : 0 ≤ V := by omega
      have v1 : V ≤ 200000000 := by omega
      have hjl : (j : Int) < (n : Int) := by omega
      have hj0 : (0 : Int) ≤ (j : Int) := by omega
      obtain ⟨p0, p1, p2⟩ := hcj
      obtain ⟨V1, e1⟩ : ∃ x, V + 1 = x := ⟨_, rfl⟩
      have n1 : 0 ≤ V1 := by omega
      have m1 : V1 ≤ 200000000 + 1 := by omega
      obtain ⟨V2, e2⟩ : ∃ x, V1 + 1 = x := ⟨_, rfl⟩
      have n2 : 0 ≤ V2 := by omega
      have m2 : V2 ≤ 200000000 + 2 := by omega
      obtain ⟨V3, e3⟩ : ∃ x, V2 + 1 = x := ⟨_, rfl⟩
      have n3 : 0 ≤ V3 := by omega
      have m3 : V3 ≤ 200000000 + 3 := by omega
      simp only [mkPi, e1, e2, e3] at p0 p1 p2
      clear hV hc h
      go_wp2
      go_roundw
      case rel => exact ⟨j + 1, by omega, by go_num, congrArg (Value.int .i64) (by have := HV.out; omega), by repeat (first | (with_reducible assumption) | (exact bel_undr (by with_reducible assumption)) | (with_reducible exact bel_refl _) | (with_reducible refine bel_dr ?_) | (with_reducible refine bel_drN ?_ _) | (with_reducible refine bel_al ?_ _) | (refine bel_set ?_ (by first | (simp; done) | (simp; exact Below.size (by assumption)) | (simp; omega)) _) | (with_reducible refine bel_tr ?_ (by assumption)))⟩
      case measure => simp [intOf]; omega
    · obtain rfl : j = n := by omega
      go_wp2
      go_ret
      exact ⟨rfl, hb⟩
/-- a slice that lies in one block of its own, from lo on and below hi -/
structure SLPi (w : World) (lo hi : Nat) (A : Option Addr) (l : List Pi) : Prop where
  top : hi ≤ w.heap.size
  at' : 0 < l.length → ∃ b off, A = some ⟨b, off, none⟩ ∧ lo ≤ b ∧ b < hi ∧ (∀ o, w.frozen? ⟨b, o, none⟩ = false) ∧ ∀ i, i < l.length → CMPi w b off (atPi l i) i
theorem SLPi.of {w : World} {lo : Nat} {A : Option Addr} {l : List Pi} (r : RowPi w w.heap.size A l) (o : OwnPi w lo A l.length) : SLPi w lo w.heap.size A l :=
  ⟨Nat.le_refl _, fun hl => by
    obtain ⟨b, off, e, hb, hc⟩ := r hl
    obtain ⟨b', off', e', hb', hf⟩ := o hl
    rw [e] at e'
    simp only [Option.some.injEq, Addr.mk.injEq, and_true] at e'
    exact ⟨b, off, e, by omega, hb, fun o => by rw [e'.1]; exact hf o, hc⟩⟩
theorem SLPi.row {w : World} {lo hi : Nat} {A : Option Addr} {l : List Pi} (h : SLPi w lo hi A l) : RowPi w w.heap.size A l := fun hl => by
  obtain ⟨b, off, e, _, hb, _, hc⟩ := h.at' hl
  exact ⟨b, off, e, Nat.lt_of_lt_of_le hb h.top, hc⟩
theorem SLPi.own {w : World} {lo hi : Nat} {A : Option Addr} {l : List Pi} (h : SLPi w lo hi A l) : OwnPi w lo A l.length := fun hl => by
  obtain ⟨b, off, e, hb, _, hf, _⟩ := h.at' hl
  exact ⟨b, off, e, hb, hf⟩
theorem SLPi.place {w : World} {lo hi : Nat} {A : Option Addr} {l : List Pi} (h : SLPi w lo hi A l) {a : Addr} (hl : 0 < l.length) (ha : A = some a) : lo ≤ a.block ∧ a.block < hi := by
  obtain ⟨b, off, e, h1, h2, _⟩ := h.at' hl
  rw [e] at ha; cases ha; exact ⟨h1, h2⟩
theorem SLPi.keep {w w' : World} {lo hi : Nat} {A : Option Addr} {l : List Pi} (h : SLPi w lo hi A l) (hs : w.heap.size ≤ w'.heap.size) (hb : ∀ i, i < w.heap.size → lo ≤ i → i < hi → w'.heap[i]? = w.heap[i]?) : SLPi w' lo hi A l :=
  ⟨Nat.le_trans h.top hs, fun hl => by
    obtain ⟨b, off, e, h1, h2, hf, hc⟩ := h.at' hl
    have hbb := hb b (Nat.lt_of_lt_of_le h2 h.top) h1 h2
    refine ⟨b, off, e, h1, h2, fun o => by rw [World.frozen?_of_block (w := w) (a := ⟨b, o, none⟩) hbb]; exact hf o, fun i hi => ?_⟩
    have hk : ∀ o, w'.cell? ⟨b, o, none⟩ = w.cell? ⟨b, o, none⟩ := fun o => World.cell?_of_block (w := w) (a := ⟨b, o, none⟩) hbb
    unfold CMPi
    simp only [hk]
    exact hc i hi⟩
theorem SLPi.below {w w' : World} {lo hi : Nat} {A : Option Addr} {l : List Pi} (h : SLPi w lo hi A l) (hb : Below w.heap.size w w') : SLPi w' lo hi A l := h.keep hb.size fun i hi _ _ => hb.block i hi
theorem SLPi.trn {w w' : World} {lo hi n : Nat} {A B : Option Addr} {l : List Pi} (h : SLPi w lo hi A l) (t : Trn B n w w') (hne : ∀ a : Addr, 0 < n → B = some a → a.block < lo ∨ hi ≤ a.block) : SLPi w' lo hi A l :=
  h.keep (by rw [t.size]; exact Nat.le_refl _) fun i hi h1 h2 => t.block i hi fun hn a ha => by have := hne a hn ha; omega
theorem RowPi.trn {w w' : World} {B n : Nat} {A A' : Option Addr} {l : List Pi} (h : RowPi w B A l) (t : Trn A' n w w') (hne : ∀ a : Addr, 0 < n → A' = some a → B ≤ a.block) (hB : B ≤ w.heap.size) : RowPi w' B A l :=
  h.keep (Nat.le_refl _) fun b o hb => World.cell?_of_block (w := w) (a := ⟨b, o, none⟩) (t.block b (by omega) fun hn a ha => by have := hne a hn ha; omega)
theorem RowPi.bel {w w' : World} {B : Nat} {A : Option Addr} {l : List Pi} (h : RowPi w B A l) (hb : Below w.heap.size w w') (hB : B ≤ w.heap.size) : RowPi w' B A l :=
  h.keep (Nat.le_refl _) fun b o hh => hb.cell (p := ⟨b, o, none⟩) (by simp only; omega)
theorem RowPi.up {w : World} {B B' : Nat} {A : Option Addr} {l : List Pi} (h : RowPi w B A l) (hB : B ≤ B') : RowPi w B' A l := h.keep hB fun _ _ _ => rfl
end Go.Proofs.Ytkchlgmlfihkdaa
