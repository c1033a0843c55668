/- Rows of Pitch: how a slice of them reads; the functions that copy, compare and count them. -/
import Derived.Test.YtkchlgmlfihkdaaBa
import Derived.Laws.MakeOwn
import Derived.Deep.RegionHeld3
namespace Go.Proofs.Ytkchlgmlfihkdaa
set_option linter.unusedSimpArgs false
set_option linter.unusedVariables false
open Go.RowKit

structure Pi where
  step : Int
  alter : Int
  octave : Int

def atPi (l : List Pi) (i : Nat) : Pi := l.getD i ⟨0, 0, 0⟩
/-- the slice at address A reads as the list l, all below block B -/
def RowPi (w : World) (B : Nat) (A : Option Addr) (l : List Pi) : Prop :=
  0 < l.length → ∃ b off, A = some ⟨b, off, none⟩ ∧ b < B ∧ ∀ i, i < l.length → w.cell? ⟨b, off + i * 3, none⟩ = some (.int .i64 (atPi l i).step) ∧ w.cell? ⟨b, off + i * 3 + 1, none⟩ = some (.int .i64 (atPi l i).alter) ∧ w.cell? ⟨b, off + i * 3 + 2, none⟩ = some (.int .i64 (atPi l i).octave)
/-- the first n places of the slice may be written, and lie from block lo on -/
def OwnPi (w : World) (lo : Nat) (A : Option Addr) (n : Nat) : Prop :=
  0 < n → ∃ b off, A = some ⟨b, off, none⟩ ∧ lo ≤ b ∧ ∀ o, w.frozen? ⟨b, o, none⟩ = false
theorem RowPi.keep {w w' : World} {B B' : Nat} {A : Option Addr} {l : List Pi} (h : RowPi w B A l) (hB : B ≤ B') (hk : ∀ b o, b < B → w'.cell? ⟨b, o, none⟩ = w.cell? ⟨b, o, none⟩) : RowPi w' B' A l := by
  intro hl
  obtain ⟨b, off, e, hb, hc⟩ := h hl
  refine ⟨b, off, e, by omega, fun i hi => ?_⟩
  simp only [hk _ _ hb]
  exact hc i hi
theorem RowPi.below {w w' : World} {A : Option Addr} {l : List Pi} (h : RowPi w w.heap.size A l) (hb : Below w.heap.size w w') : RowPi w' w'.heap.size A l :=
  h.keep hb.size fun b o hh => hb.cell (p := ⟨b, o, none⟩) hh
theorem OwnPi.below {w w' : World} {A : Option Addr} {lo : Nat} {l : List Pi} (h : OwnPi w lo A l.length) (hr : RowPi w w.heap.size A l) (hb : Below w.heap.size w w') : OwnPi w' lo A l.length := by
  intro hl
  obtain ⟨b, off, e, h1, h2⟩ := h hl
  obtain ⟨b', off', e', h3, _⟩ := hr hl
  rw [e] at e'
  simp only [Option.some.injEq, Addr.mk.injEq, and_true] at e'
  exact ⟨b, off, e, h1, fun o => by rw [hb.frozen (p := ⟨b, o, none⟩) (by simp only; omega)]; exact h2 o⟩

set_option maxHeartbeats 400000 in
theorem eqPi_same (t : Pi) (w : World) :
    Calls Try.prog 52 #[.agg #[.int .i64 t.step, .int .i64 t.alter, .int .i64 t.octave], .agg #[.int .i64 t.step, .int .i64 t.alter, .int .i64 t.octave]] w fun e w' => e = .returned (.bool true) ∧ Below w.heap.size w w' := by
  obtain ⟨step, alter, octave⟩ := t
  go_enter Try.func52, Try.ntmps52
  go_wp2
  go_ret
  exact ⟨rfl, by repeat (first | (with_reducible assumption) | (exact bel_undr (by with_reducible assumption)) | (with_reducible exact bel_refl _) | (with_reducible refine bel_dr ?_) | (with_reducible refine bel_drN ?_ _) | (with_reducible refine bel_al ?_ _) | (refine bel_set ?_ (by first | (simp; done) | (simp; exact Below.size (by assumption)) | (simp; omega)) _) | (with_reducible refine bel_tr ?_ (by assumption)))⟩
set_option maxHeartbeats 1000000 in
theorem eqSPi_same (A A' : Option Addr) (n c c' : Nat) (l : List Pi) (w : World) (hn : l.length = n) (hm : n ≤ 9223372036854775807) (h : RowPi w w.heap.size A l) (h' : RowPi w w.heap.size A' l) :
    Calls Try.prog 19 #[.slice A n c, .slice A' n c'] w fun e w' => e = .returned (.bool true) ∧ Below w.heap.size w w' := by
  subst hn
  go_enter Try.func19, Try.ntmps19
  go_wp2
  go_loopw [5] (fun i wr => ∃ k : Nat, k ≤ l.length ∧ i = .int .i64 k ∧ Below w.heap.size w wr) (fun i _ => l.length - (intOf i).toNat)
  case atStart => exact ⟨0, Nat.zero_le _, rfl, bel_refl _⟩
  case round =>
    obtain ⟨k, hk, rfl, hb⟩ := hrel
    by_cases hlt : k < l.length
    · obtain ⟨b, off, rfl, hlb, hc⟩ := (h.below hb) (by omega)
      obtain ⟨b', off', rfl, hlb', hc'⟩ := (h'.below hb) (by omega)
      have hc := hc k hlt
      have hc' := hc' k hlt
      generalize atPi l k = t at hc hc'
      obtain ⟨xstep, xalter, xoctave⟩ := t
      obtain ⟨p0, p1, p2⟩ := hc
      obtain ⟨q0, q1, q2⟩ := hc'
      simp only at p0 q0 p1 q1 p2 q2
      clear h h'
      have hki : (k : Int) < (l.length : Int) := by omega
      have hk0 : (0 : Int) ≤ (k : Int) := by omega
      go_wp2
      go_region_held3 (fun W => W.cell? ⟨b, off + k * 3, none⟩ = some (.int .i64 xstep) ∧ W.cell? ⟨b, off + k * 3 + 1, none⟩ = some (.int .i64 xalter) ∧ W.cell? ⟨b, off + k * 3 + 2, none⟩ = some (.int .i64 xoctave) ∧ W.cell? ⟨b', off' + k * 3, none⟩ = some (.int .i64 xstep) ∧ W.cell? ⟨b', off' + k * 3 + 1, none⟩ = some (.int .i64 xalter) ∧ W.cell? ⟨b', off' + k * 3 + 2, none⟩ = some (.int .i64 xoctave) ∧ Below w.heap.size w W) (((try go_split_ands); (repeat' (with_reducible refine And.intro ?_ ?_)) <;> (first | (with_reducible assumption) | ((repeat (first | (with_reducible assumption) | (exact keep_undr (by with_reducible assumption)) | (simp [go_sem]; done) | (with_reducible refine keep_dr ?_) | (with_reducible refine keep_drN ?_ _) | (with_reducible refine keep_al ?_ _) | (refine keep_set ?_ (by first | (simp; done) | (simp; omega) | omega)) | (with_reducible refine keep_tr ?_ (by assumption)))); done) | ((repeat (first | (with_reducible assumption) | (exact bel_undr (by with_reducible assumption)) | (with_reducible exact bel_refl _) | (with_reducible refine bel_dr ?_) | (with_reducible refine bel_drN ?_ _) | (with_reducible refine bel_al ?_ _) | (refine bel_set ?_ (by first | (simp; done) | (simp; exact Below.size (by assumption)) | (simp; omega)) _) | (with_reducible refine bel_tr ?_ (by assumption)))); done) | (simp [go_sem]; done) | go_keep))) (first | (go_at_call 52; refine (eqPi_same ⟨xstep, xalter, xoctave⟩ _).mono ?_; rintro e1 w1 ⟨rfl, hb1⟩; obtain ⟨bc1, bf1, sl1, se1, sk1⟩ := bfacts hb1; have hz1 := hb1.size; (try simp at hz1)))
      go_wp2
      go_roundw
      case rel => exact ⟨k + 1, by omega, by go_num, by repeat (first | (with_reducible assumption) | (exact bel_undr (by with_reducible assumption)) | (with_reducible exact bel_refl _) | (with_reducible refine bel_dr ?_) | (with_reducible refine bel_drN ?_ _) | (with_reducible refine bel_al ?_ _) | (refine bel_set ?_ (by first | (simp; done) | (simp; exact Below.size (by assumption)) | (simp; omega)) _) | (with_reducible refine bel_tr ?_ (by assumption)))⟩
      case measure => simp [intOf]; omega
    · go_wp2
      go_ret
      exact ⟨rfl, hb⟩

theorem stepPi (wr : World) (g k : Nat) (l : List Pi) (t : Pi) (ht : atPi l k = t) (hlt : k < l.length) (hd : ∀ j, j < k → wr.cell? ⟨g, 0 + j * 3, none⟩ = some (.int .i64 (atPi l j).step) ∧ wr.cell? ⟨g, 0 + j * 3 + 1, none⟩ = some (.int .i64 (atPi l j).alter) ∧ wr.cell? ⟨g, 0 + j * 3 + 2, none⟩ = some (.int .i64 (atPi l j).octave)) (hs : ∀ o, o < l.length * 3 → (wr.cell? ⟨g, o, none⟩).isSome = true) (hf : ∀ o, wr.frozen? ⟨g, o, none⟩ = false) :
    (∀ j, j < k + 1 → ((((wr.setCell ⟨g, k * 3, none⟩ (.int .i64 t.step)).setCell ⟨g, k * 3 + 1, none⟩ (.int .i64 t.alter)).setCell ⟨g, k * 3 + 2, none⟩ (.int .i64 t.octave))).cell? ⟨g, 0 + j * 3, none⟩ = some (.int .i64 (atPi l j).step) ∧ ((((wr.setCell ⟨g, k * 3, none⟩ (.int .i64 t.step)).setCell ⟨g, k * 3 + 1, none⟩ (.int .i64 t.alter)).setCell ⟨g, k * 3 + 2, none⟩ (.int .i64 t.octave))).cell? ⟨g, 0 + j * 3 + 1, none⟩ = some (.int .i64 (atPi l j).alter) ∧ ((((wr.setCell ⟨g, k * 3, none⟩ (.int .i64 t.step)).setCell ⟨g, k * 3 + 1, none⟩ (.int .i64 t.alter)).setCell ⟨g, k * 3 + 2, none⟩ (.int .i64 t.octave))).cell? ⟨g, 0 + j * 3 + 2, none⟩ = some (.int .i64 (atPi l j).octave)) ∧ (∀ o, o < l.length * 3 → ((((wr.setCell ⟨g, k * 3, none⟩ (.int .i64 t.step)).setCell ⟨g, k * 3 + 1, none⟩ (.int .i64 t.alter)).setCell ⟨g, k * 3 + 2, none⟩ (.int .i64 t.octave)).cell? ⟨g, o, none⟩).isSome = true) ∧ (∀ o, (((wr.setCell ⟨g, k * 3, none⟩ (.int .i64 t.step)).setCell ⟨g, k * 3 + 1, none⟩ (.int .i64 t.alter)).setCell ⟨g, k * 3 + 2, none⟩ (.int .i64 t.octave)).frozen? ⟨g, o, none⟩ = false) := by
  have ne : ∀ a b : Nat, a ≠ b → (⟨g, a, none⟩ : Addr) ≠ ⟨g, b, none⟩ := fun a b h e => h (congrArg Addr.off e)
  refine ⟨fun j hj => ?_, fun o ho => ?_, fun o => ?_⟩
  · simp only [Nat.zero_add] at hd ⊢
    by_cases hjk : j < k
    · obtain ⟨d0, d1, d2⟩ := hd j hjk
      exact ⟨keep_off (keep_off (keep_off (d0) (ne _ _ (by omega))) (ne _ _ (by omega))) (ne _ _ (by omega)), keep_off (keep_off (keep_off (d1) (ne _ _ (by omega))) (ne _ _ (by omega))) (ne _ _ (by omega)), keep_off (keep_off (keep_off (d2) (ne _ _ (by omega))) (ne _ _ (by omega))) (ne _ _ (by omega))⟩
    · obtain rfl : j = k := by omega
      rw [ht]
      exact ⟨keep_off (keep_off (set_same (hs _ (by omega))) (ne _ _ (by omega))) (ne _ _ (by omega)), keep_off (set_same (some_set (hs _ (by omega)) (ne _ _ (by omega)))) (ne _ _ (by omega)), set_same (some_set (some_set (hs _ (by omega)) (ne _ _ (by omega))) (ne _ _ (by omega)))⟩
  · exact some_setx (some_setx (some_setx (hs o ho)))
  · exact fz_set (fz_set (fz_set (hf o)))
set_option maxHeartbeats 400000 in
theorem toPi_eq (t : Pi) (w : World) :
    Calls Try.prog 45 #[.agg #[.int .i64 t.step, .int .i64 t.alter, .int .i64 t.octave]] w fun e w' => e = .returned (.agg #[.int .i64 t.step, .int .i64 t.alter, .int .i64 t.octave]) ∧ (((w.alloc (.cells #[.int .i64 t.step, .int .i64 t.alter, .int .i64 t.octave] 60)).alloc (.cells #[.int .i64 t.step, .int .i64 t.alter, .int .i64 t.octave] 43)).alloc (.cells #[.int .i64 t.step, .int .i64 t.alter, .int .i64 t.octave] 43)) = w' := by
  obtain ⟨step, alter, octave⟩ := t
  go_enter Try.func45, Try.ntmps45
  go_wp2
  exact bodyPost_ret (v := .agg #[.int .i64 step, .int .i64 alter, .int .i64 octave]) (by simp [results, Try.results45, go_sem]) rfl ⟨rfl, rfl⟩
theorem infoPi : (Try.prog.info? 43).map (fun i => (i.zero, i.size, i.bytes)) = some (some (.agg #[.int .i64 0, .int .i64 0, .int .i64 0]), 3, 24) := by kernel_rfl
def ToPi (w : World) (l : List Pi) (e : Ending) (w' : World) : Prop :=
  ∃ A, e = .returned (.slice A l.length l.length) ∧ RowPi w' w'.heap.size A l ∧ OwnPi w' w.heap.size A l.length ∧ Below w.heap.size w w'
theorem run_makePi (n : Nat) (h : n ≤ 2000000) (w : World) :
    (Instr.makeSlice 26 (.int .i64 (n : Int)) (.int .i64 (n : Int))).run Try.prog w = .ok (.slice (some ⟨w.heap.size, 0, none⟩) n n) (w.alloc (.cells (madeCells #[.int .i64 0, .int .i64 0, .int .i64 0] (n * 3)) 43)) := by
  obtain ⟨i, hi, hz, hs, hb⟩ := info_parts infoPi
  have hr := run_make (P := Try.prog) w 26 43 i _ Try.underlying26 hi hz .i64 .i64 n n (by omega) (by omega) (by rw [hb]; omega) (by omega)
  simp only [Int.toNat_natCast, hs] at hr
  exact hr
set_option maxHeartbeats 1000000 in
theorem toSPi_any (A : Option Addr) (n c : Nat) (l : List Pi) (w : World) (hn : l.length = n) (hm : n ≤ 2000000) (h : RowPi w w.heap.size A l) :
    Calls Try.prog 16 #[.slice A n c] w (ToPi w l) := by
  subst hn
  have hmk := run_makePi l.length hm
  go_enter Try.func16, Try.ntmps16
  go_wp2
  go_loopw [4] (fun i wr => ∃ k : Nat, k ≤ l.length ∧ i = .int .i64 k ∧ Below w.heap.size w wr ∧ w.heap.size < wr.heap.size ∧ (∀ j, j < k → wr.cell? ⟨w.heap.size, 0 + j * 3, none⟩ = some (.int .i64 (atPi l j).step) ∧ wr.cell? ⟨w.heap.size, 0 + j * 3 + 1, none⟩ = some (.int .i64 (atPi l j).alter) ∧ wr.cell? ⟨w.heap.size, 0 + j * 3 + 2, none⟩ = some (.int .i64 (atPi l j).octave)) ∧ (∀ o, o < l.length * 3 → (wr.cell? ⟨w.heap.size, o, none⟩).isSome = true) ∧ (∀ o, wr.frozen? ⟨w.heap.size, o, none⟩ = false)) (fun i _ => l.length - (intOf i).toNat)
  case atStart => exact ⟨0, Nat.zero_le _, rfl, bel_al (bel_refl _) _, by simp, fun j hj => by omega, fun o ho => by rw [World.cell?_alloc_new]; simp [size_madeCells]; omega, fun o => by simp⟩
  case round =>
    obtain ⟨k, hk, rfl, hb, hgs, hd, hs, hf⟩ := hrel
    by_cases hlt : k < l.length
    · obtain ⟨b, off, rfl, hlb, hc⟩ := h (by omega)
      have hc := hc k hlt
      simp only [← (show ∀ o, wr.cell? ⟨b, o, none⟩ = w.cell? ⟨b, o, none⟩ from fun o => hb.cell (p := ⟨b, o, none⟩) hlb)] at hc
      generalize hg : atPi l k = t at hc
      have HG := Lib.hid hg
      clear hg
      obtain ⟨p0, p1, p2⟩ := hc
      obtain ⟨o0, so0⟩ := Option.isSome_iff_exists.1 (hs (k * 3) (by omega))
      obtain ⟨o1, so1⟩ := Option.isSome_iff_exists.1 (hs (k * 3 + 1) (by omega))
      obtain ⟨o2, so2⟩ := Option.isSome_iff_exists.1 (hs (k * 3 + 2) (by omega))
      have hbg : b ≠ w.heap.size := by omega
      have hki : (k : Int) < (l.length : Int) := by omega
      have hgs1 : w.heap.size ≤ wr.heap.size := by omega
      have hgs2 : w.heap.size < wr.heap.size + 1 := by omega
      have hgs3 : w.heap.size < wr.heap.size + 1 + 1 := by omega
      have HD := Lib.hid hd
      have HS := Lib.hid hs
      clear hd hs h
      go_wp2_with (go_at_call 45; refine (toPi_eq t _).mono ?_; rintro e w1 ⟨rfl, rfl⟩)
      go_roundw
      case rel =>
        obtain ⟨s1, s2, s3⟩ := stepPi wr w.heap.size k l t (HG.out) hlt HD.out HS.out hf
        refine ⟨k + 1, by omega, by go_num, by repeat (first | (with_reducible assumption) | (exact bel_undr (by with_reducible assumption)) | (with_reducible exact bel_refl _) | (with_reducible refine bel_dr ?_) | (with_reducible refine bel_drN ?_ _) | (with_reducible refine bel_al ?_ _) | (refine bel_set ?_ (by first | (simp; done) | (simp; exact Below.size (by assumption)) | (simp; omega)) _) | (with_reducible refine bel_tr ?_ (by assumption))), by simp; omega, fun j hj => ?_, fun o ho => some_al (some_al (some_al (s2 o ho) _) _) _, fun o => fz_al (fz_al (fz_al (s3 o) (by (try simp) <;> omega) _) (by (try simp) <;> omega) _) (by (try simp) <;> omega) _⟩
        obtain ⟨d0, d1, d2⟩ := s1 j hj
        exact ⟨keep_al (keep_al (keep_al d0 _) _) _, keep_al (keep_al (keep_al d1 _) _) _, keep_al (keep_al (keep_al d2 _) _) _⟩
      case measure => simp [intOf]; omega
    · obtain rfl : k = l.length := by omega
      go_wp2
      go_ret
      refine ⟨_, rfl, fun hl => ⟨_, _, rfl, hgs, hd⟩, fun _ => ⟨_, _, rfl, Nat.le_refl _, hf⟩, hb⟩

end Go.Proofs.Ytkchlgmlfihkdaa
