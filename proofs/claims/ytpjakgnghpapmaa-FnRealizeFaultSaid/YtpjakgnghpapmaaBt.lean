/- Rows of Pitch: how a slice of them reads; the functions that copy, compare and count them. Rows of pitches that the call itself has grown; how a slice of them is appended, cut, and read behind its head. What a function leaves that only stores into one slice. The marks that a law lays into a slice of Pitch, and finds again; slices that the call itself made. Rows of Fault: how a slice of them reads; the functions that copy, compare and count them. The marks that a law lays into a slice of Fault, and finds again; slices that the call itself made. -/
import Derived.Test.YtpjakgnghpapmaaBa
import Derived.Laws.MakeOwn
import Derived.Deep.RegionHeld3
namespace Go.Proofs.Ytpjakgnghpapmaa
set_option linter.unusedSimpArgs false
set_option linter.unusedVariables false
section
open Go.RowKit

structure Pi where
  step : Int
  alter : Int
  octave : Int

def atPi (l : List Pi) (i : Nat) : Pi := l.getD i ⟨0, 0, 0⟩
/-- the slice at address A reads as the list l, all below block B -/
def RowPi (w : World) (B : Nat) (A : Option Addr) (l : List Pi) : Prop :=
  0 < l.length → ∃ b off, A = some ⟨b, off, none⟩ ∧ b < B ∧ ∀ i, i < l.length → w.cell? ⟨b, off + i * 3, none⟩ = some (.int .i64 (atPi l i).step) ∧ w.cell? ⟨b, off + i * 3 + 1, none⟩ = some (.int .i64 (atPi l i).alter) ∧ w.cell? ⟨b, off + i * 3 + 2, none⟩ = some (.int .i64 (atPi l i).octave)
/-- the first n places of the slice may be written, and lie from block lo on -/
def OwnPi (w : World) (lo : Nat) (A : Option Addr) (n : Nat) : Prop :=
  0 < n → ∃ b off, A = some ⟨b, off, none⟩ ∧ lo ≤ b ∧ ∀ o, w.frozen? ⟨b, o, none⟩ = false
theorem RowPi.keep {w w' : World} {B B' : Nat} {A : Option Addr} {l : List Pi} (h : RowPi w B A l) (hB : B ≤ B') (hk : ∀ b o, b < B → w'.cell? ⟨b, o, none⟩ = w.cell? ⟨b, o, none⟩) : RowPi w' B' A l := by
  intro hl
  obtain ⟨b, off, e, hb, hc⟩ := h hl
  refine ⟨b, off, e, by omega, fun i hi => ?_⟩
  simp only [hk _ _ hb]
  exact hc i hi
theorem RowPi.below {w w' : World} {A : Option Addr} {l : List Pi} (h : RowPi w w.heap.size A l) (hb : Below w.heap.size w w') : RowPi w' w'.heap.size A l :=
  h.keep hb.size fun b o hh => hb.cell (p := ⟨b, o, none⟩) hh
theorem OwnPi.below {w w' : World} {A : Option Addr} {lo : Nat} {l : List Pi} (h : OwnPi w lo A l.length) (hr : RowPi w w.heap.size A l) (hb : Below w.heap.size w w') : OwnPi w' lo A l.length := by
  intro hl
  obtain ⟨b, off, e, h1, h2⟩ := h hl
  obtain ⟨b', off', e', h3, _⟩ := hr hl
  rw [e] at e'
  simp only [Option.some.injEq, Addr.mk.injEq, and_true] at e'
  exact ⟨b, off, e, h1, fun o => by rw [hb.frozen (p := ⟨b, o, none⟩) (by simp only; omega)]; exact h2 o⟩

set_option maxHeartbeats 400000 in
theorem eqPi_same (t : Pi) (w : World) :
    Calls Try.prog 59 #[.agg #[.int .i64 t.step, .int .i64 t.alter, .int .i64 t.octave], .agg #[.int .i64 t.step, .int .i64 t.alter, .int .i64 t.octave]] w fun e w' => e = .returned (.bool true) ∧ Below w.heap.size w w' := by
  obtain ⟨step, alter, octave⟩ := t
  go_enter Try.func59, Try.ntmps59
  go_wp2
  go_ret
  exact ⟨rfl, by repeat (first | (with_reducible assumption) | (exact bel_undr (by with_reducible assumption)) | (with_reducible exact bel_refl _) | (with_reducible refine bel_dr ?_) | (with_reducible refine bel_drN ?_ _) | (with_reducible refine bel_al ?_ _) | (refine bel_set ?_ (by first | (simp; done) | (simp; exact Below.size (by assumption)) | (simp; omega)) _) | (with_reducible refine bel_tr ?_ (by assumption)))⟩
set_option maxHeartbeats 1000000 in
theorem eqSPi_same (A A' : Option Addr) (n c c' : Nat) (l : List Pi) (w : World) (hn : l.length = n) (hm : n ≤ 9223372036854775807) (h : RowPi w w.heap.size A l) (h' : RowPi w w.heap.size A' l) :
    Calls Try.prog 28 #[.slice A n c, .slice A' n c'] w fun e w' => e = .returned (.bool true) ∧ Below w.heap.size w w' := by
  subst hn
  go_enter Try.func28, Try.ntmps28
  go_wp2
  go_loopw [5] (fun i wr => ∃ k : Nat, k ≤ l.length ∧ i = .int .i64 k ∧ Below w.heap.size w wr) (fun i _ => l.length - (intOf i).toNat)
  case atStart => exact ⟨0, Nat.zero_le _, rfl, bel_refl _⟩
  case round =>
    obtain ⟨k, hk, rfl, hb⟩ := hrel
    by_cases hlt : k < l.length
    · obtain ⟨b, off, rfl, hlb, hc⟩ := (h.below hb) (by omega)
      obtain ⟨b', off', rfl, hlb', hc'⟩ := (h'.below hb) (by omega)
      have hc := hc k hlt
      have hc' := hc' k hlt
      generalize atPi l k = t at hc hc'
      obtain ⟨xstep, xalter, xoctave⟩ := t
      obtain ⟨p0, p1, p2⟩ := hc
      obtain ⟨q0, q1, q2⟩ := hc'
      simp only at p0 q0 p1 q1 p2 q2
      clear h h'
      have hki : (k : Int) < (l.length : Int) := by omega
      have hk0 : (0 : Int) ≤ (k : Int) := by omega
      go_wp2
      go_region_held3 (fun W => W.cell? ⟨b, off + k * 3, none⟩ = some (.int .i64 xstep) ∧ W.cell? ⟨b, off + k * 3 + 1, none⟩ = some (.int .i64 xalter) ∧ W.cell? ⟨b, off + k * 3 + 2, none⟩ = some (.int .i64 xoctave) ∧ W.cell? ⟨b', off' + k * 3, none⟩ = some (.int .i64 xstep) ∧ W.cell? ⟨b', off' + k * 3 + 1, none⟩ = some (.int .i64 xalter) ∧ W.cell? ⟨b', off' + k * 3 + 2, none⟩ = some (.int .i64 xoctave) ∧ Below w.heap.size w W) (((try go_split_ands); (repeat' (with_reducible refine And.intro ?_ ?_)) <;> (first | (with_reducible assumption) | ((repeat (first | (with_reducible assumption) | (exact keep_undr (by with_reducible assumption)) | (simp [go_sem]; done) | (with_reducible refine keep_dr ?_) | (with_reducible refine keep_drN ?_ _) | (with_reducible refine keep_al ?_ _) | (refine keep_set ?_ (by first | (simp; done) | (simp; omega) | omega)) | (with_reducible refine keep_tr ?_ (by assumption)))); done) | ((repeat (first | (with_reducible assumption) | (exact bel_undr (by with_reducible assumption)) | (with_reducible exact bel_refl _) | (with_reducible refine bel_dr ?_) | (with_reducible refine bel_drN ?_ _) | (with_reducible refine bel_al ?_ _) | (refine bel_set ?_ (by first | (simp; done) | (simp; exact Below.size (by assumption)) | (simp; omega)) _) | (with_reducible refine bel_tr ?_ (by assumption)))); done) | (simp [go_sem]; done) | go_keep))) (first | (go_at_call 59; refine (eqPi_same ⟨xstep, xalter, xoctave⟩ _).mono ?_; rintro e1 w1 ⟨rfl, hb1⟩; obtain ⟨bc1, bf1, sl1, se1, sk1⟩ := bfacts hb1; have hz1 := hb1.size; (try simp at hz1)))
      go_wp2
      go_roundw
      case rel => exact ⟨k + 1, by omega, by go_num, by repeat (first | (with_reducible assumption) | (exact bel_undr (by with_reducible assumption)) | (with_reducible exact bel_refl _) | (with_reducible refine bel_dr ?_) | (with_reducible refine bel_drN ?_ _) | (with_reducible refine bel_al ?_ _) | (refine bel_set ?_ (by first | (simp; done) | (simp; exact Below.size (by assumption)) | (simp; omega)) _) | (with_reducible refine bel_tr ?_ (by assumption)))⟩
      case measure => simp [intOf]; omega
    · go_wp2
      go_ret
      exact ⟨rfl, hb⟩

theorem stepPi (wr : World) (g k : Nat) (l : List Pi) (t : Pi) (ht : atPi l k = t) (hlt : k < l.length) (hd : ∀ j, j < k → wr.cell? ⟨g, 0 + j * 3, none⟩ = some (.int .i64 (atPi l j).step) ∧ wr.cell? ⟨g, 0 + j * 3 + 1, none⟩ = some (.int .i64 (atPi l j).alter) ∧ wr.cell? ⟨g, 0 + j * 3 + 2, none⟩ = some (.int .i64 (atPi l j).octave)) (hs : ∀ o, o < l.length * 3 → (wr.cell? ⟨g, o, none⟩).isSome = true) (hf : ∀ o, wr.frozen? ⟨g, o, none⟩ = false) :
    (∀ j, j < k + 1 → ((((wr.setCell ⟨g, k * 3, none⟩ (.int .i64 t.step)).setCell ⟨g, k * 3 + 1, none⟩ (.int .i64 t.alter)).setCell ⟨g, k * 3 + 2, none⟩ (.int .i64 t.octave))).cell? ⟨g, 0 + j * 3, none⟩ = some (.int .i64 (atPi l j).step) ∧ ((((wr.setCell ⟨g, k * 3, none⟩ (.int .i64 t.step)).setCell ⟨g, k * 3 + 1, none⟩ (.int .i64 t.alter)).setCell ⟨g, k * 3 + 2, none⟩ (.int .i64 t.octave))).cell? ⟨g, 0 + j * 3 + 1, none⟩ = some (.int .i64 (atPi l j).alter) ∧ ((((wr.setCell ⟨g, k * 3, none⟩ (.int .i64 t.step)).setCell ⟨g, k * 3 + 1, none⟩ (.int .i64 t.alter)).setCell ⟨g, k * 3 + 2, none⟩ (.int .i64 t.octave))).cell? ⟨g, 0 + j * 3 + 2, none⟩ = some (.int .i64 (atPi l j).octave)) ∧ (∀ o, o < l.length * 3 → ((((wr.setCell ⟨g, k * 3, none⟩ (.int .i64 t.step)).setCell ⟨g, k * 3 + 1, none⟩ (.int .i64 t.alter)).setCell ⟨g, k * 3 + 2, none⟩ (.int .i64 t.octave)).cell? ⟨g, o, none⟩).isSome = true) ∧ (∀ o, (((wr.setCell ⟨g, k * 3, none⟩ (.int .i64 t.step)).setCell ⟨g, k * 3 + 1, none⟩ (.int .i64 t.alter)).setCell ⟨g, k * 3 + 2, none⟩ (.int .i64 t.octave)).frozen? ⟨g, o, none⟩ = false) := by
  have ne : ∀ a b : Nat, a ≠ b → (⟨g, a, none⟩ : Addr) ≠ ⟨g, b, none⟩ := fun a b h e => h (congrArg Addr.off e)
  refine ⟨fun j hj => ?_, fun o ho => ?_, fun o => ?_⟩
  · simp only [Nat.zero_add] at hd ⊢
    by_cases hjk : j < k
    · obtain ⟨d0, d1, d2⟩ := hd j hjk
      exact ⟨keep_off (keep_off (keep_off (d0) (ne _ _ (by omega))) (ne _ _ (by omega))) (ne _ _ (by omega)), keep_off (keep_off (keep_off (d1) (ne _ _ (by omega))) (ne _ _ (by omega))) (ne _ _ (by omega)), keep_off (keep_off (keep_off (d2) (ne _ _ (by omega))) (ne _ _ (by omega))) (ne _ _ (by omega))⟩
    · obtain rfl : j = k := by omega
      rw [ht]
      exact ⟨keep_off (keep_off (set_same (hs _ (by omega))) (ne _ _ (by omega))) (ne _ _ (by omega)), keep_off (set_same (some_set (hs _ (by omega)) (ne _ _ (by omega)))) (ne _ _ (by omega)), set_same (some_set (some_set (hs _ (by omega)) (ne _ _ (by omega))) (ne _ _ (by omega)))⟩
  · exact some_setx (some_setx (some_setx (hs o ho)))
  · exact fz_set (fz_set (fz_set (hf o)))
set_option maxHeartbeats 400000 in
theorem toPi_eq (t : Pi) (w : World) :
    Calls Try.prog 56 #[.agg #[.int .i64 t.step, .int .i64 t.alter, .int .i64 t.octave]] w fun e w' => e = .returned (.agg #[.int .i64 t.step, .int .i64 t.alter, .int .i64 t.octave]) ∧ (((w.alloc (.cells #[.int .i64 t.step, .int .i64 t.alter, .int .i64 t.octave] 79)).alloc (.cells #[.int .i64 t.step, .int .i64 t.alter, .int .i64 t.octave] 62)).alloc (.cells #[.int .i64 t.step, .int .i64 t.alter, .int .i64 t.octave] 62)) = w' := by
  obtain ⟨step, alter, octave⟩ := t
  go_enter Try.func56, Try.ntmps56
  go_wp2
  exact bodyPost_ret (v := .agg #[.int .i64 step, .int .i64 alter, .int .i64 octave]) (by simp [results, Try.results56, go_sem]) rfl ⟨rfl, rfl⟩
theorem infoPi : (Try.prog.info? 62).map (fun i => (i.zero, i.size, i.bytes)) = some (some (.agg #[.int .i64 0, .int .i64 0, .int .i64 0]), 3, 24) := by kernel_rfl
def ToPi (w : World) (l : List Pi) (e : Ending) (w' : World) : Prop :=
  ∃ A, e = .returned (.slice A l.length l.length) ∧ RowPi w' w'.heap.size A l ∧ OwnPi w' w.heap.size A l.length ∧ Below w.heap.size w w'
theorem run_makePi (n : Nat) (h : n ≤ 2000000) (w : World) :
    (Instr.makeSlice 37 (.int .i64 (n : Int)) (.int .i64 (n : Int))).run Try.prog w = .ok (.slice (some ⟨w.heap.size, 0, none⟩) n n) (w.alloc (.cells (madeCells #[.int .i64 0, .int .i64 0, .int .i64 0] (n * 3)) 62)) := by
  obtain ⟨i, hi, hz, hs, hb⟩ := info_parts infoPi
  have hr := run_make (P := Try.prog) w 37 62 i _ Try.underlying37 hi hz .i64 .i64 n n (by omega) (by omega) (by rw [hb]; omega) (by omega)
  simp only [Int.toNat_natCast, hs] at hr
  exact hr
set_option maxHeartbeats 1000000 in
theorem toSPi_any (A : Option Addr) (n c : Nat) (l : List Pi) (w : World) (hn : l.length = n) (hm : n ≤ 2000000) (h : RowPi w w.heap.size A l) :
    Calls Try.prog 25 #[.slice A n c] w (ToPi w l) := by
  subst hn
  have hmk := run_makePi l.length hm
  go_enter Try.func25, Try.ntmps25
  go_wp2
  go_loopw [4] (fun i wr => ∃ k : Nat, k ≤ l.length ∧ i = .int .i64 k ∧ Below w.heap.size w wr ∧ w.heap.size < wr.heap.size ∧ (∀ j, j < k → wr.cell? ⟨w.heap.size, 0 + j * 3, none⟩ = some (.int .i64 (atPi l j).step) ∧ wr.cell? ⟨w.heap.size, 0 + j * 3 + 1, none⟩ = some (.int .i64 (atPi l j).alter) ∧ wr.cell? ⟨w.heap.size, 0 + j * 3 + 2, none⟩ = some (.int .i64 (atPi l j).octave)) ∧ (∀ o, o < l.length * 3 → (wr.cell? ⟨w.heap.size, o, none⟩).isSome = true) ∧ (∀ o, wr.frozen? ⟨w.heap.size, o, none⟩ = false)) (fun i _ => l.length - (intOf i).toNat)
  case atStart => exact ⟨0, Nat.zero_le _, rfl, bel_al (bel_refl _) _, by simp, fun j hj => by omega, fun o ho => by rw [World.cell?_alloc_new]; simp [size_madeCells]; omega, fun o => by simp⟩
  case round =>
    obtain ⟨k, hk, rfl, hb, hgs, hd, hs, hf⟩ := hrel
    by_cases hlt : k < l.length
    · obtain ⟨b, off, rfl, hlb, hc⟩ := h (by omega)
      have hc := hc k hlt
      simp only [← (show ∀ o, wr.cell? ⟨b, o, none⟩ = w.cell? ⟨b, o, none⟩ from fun o => hb.cell (p := ⟨b, o, none⟩) hlb)] at hc
      generalize hg : atPi l k = t at hc
      have HG := Lib.hid hg
      clear hg
      obtain ⟨p0, p1, p2⟩ := hc
      obtain ⟨o0, so0⟩ := Option.isSome_iff_exists.1 (hs (k * 3) (by omega))
      obtain ⟨o1, so1⟩ := Option.isSome_iff_exists.1 (hs (k * 3 + 1) (by omega))
      obtain ⟨o2, so2⟩ := Option.isSome_iff_exists.1 (hs (k * 3 + 2) (by omega))
      have hbg : b ≠ w.heap.size := by omega
      have hki : (k : Int) < (l.length : Int) := by omega
      have hgs1 : w.heap.size ≤ wr.heap.size := by omega
      have hgs2 : w.heap.size < wr.heap.size + 1 := by omega
      have hgs3 : w.heap.size < wr.heap.size + 1 + 1 := by omega
      have HD := Lib.hid hd
      have HS := Lib.hid hs
      clear hd hs h
      go_wp2_with (go_at_call 56; refine (toPi_eq t _).mono ?_; rintro e w1 ⟨rfl, rfl⟩)
      go_roundw
      case rel =>
        obtain ⟨s1, s2, s3⟩ := stepPi wr w.heap.size k l t (HG.out) hlt HD.out HS.out hf
        refine ⟨k + 1, by omega, by go_num, by repeat (first | (with_reducible assumption) | (exact bel_undr (by with_reducible assumption)) | (with_reducible exact bel_refl _) | (with_reducible refine bel_dr ?_) | (with_reducible refine bel_drN ?_ _) | (with_reducible refine bel_al ?_ _) | (refine bel_set ?_ (by first | (simp; done) | (simp; exact Below.size (by assumption)) | (simp; omega)) _) | (with_reducible refine bel_tr ?_ (by assumption))), by simp; omega, fun j hj => ?_, fun o ho => some_al (some_al (some_al (s2 o ho) _) _) _, fun o => fz_al (fz_al (fz_al (s3 o) (by (try simp) <;> omega) _) (by (try simp) <;> omega) _) (by (try simp) <;> omega) _⟩
        obtain ⟨d0, d1, d2⟩ := s1 j hj
        exact ⟨keep_al (keep_al (keep_al d0 _) _) _, keep_al (keep_al (keep_al d1 _) _) _, keep_al (keep_al (keep_al d2 _) _) _⟩
      case measure => simp [intOf]; omega
    · obtain rfl : k = l.length := by omega
      go_wp2
      go_ret
      refine ⟨_, rfl, fun hl => ⟨_, _, rfl, hgs, hd⟩, fun _ => ⟨_, _, rfl, Nat.le_refl _, hf⟩, hb⟩

end
section
open Go.RowKit

def csPi (t : Pi) : List Value := [.int .i64 t.step, .int .i64 t.alter, .int .i64 t.octave]
theorem csPi_len (t : Pi) : (csPi t).length = 3 := rfl
def dPi : Pi := ⟨0, 0, 0⟩
theorem own_rowPi {w' : World} {base : Nat} {e : TypeId} {v : Value} {l : List Pi} (h : w'.ownsRow base e 3 v l.length (flat csPi l)) :
    ∃ A cap, v = .slice A l.length cap ∧ l.length ≤ cap ∧ cap ≤ maxLen ∧ RowPi w' w'.heap.size A l ∧ OwnPi w' base A l.length := by
  obtain ⟨A, cap, rfl, h1, h2, h3⟩ := own_open csPi_len ⟨0, 0, 0⟩ h
  refine ⟨A, cap, rfl, h1, h2, fun hl => ?_, fun hl => ?_⟩
  · obtain ⟨g, rfl, hb, hg, _, hc⟩ := h3 hl
    exact ⟨g, 0, rfl, hg, fun i hi => ⟨by simpa [csPi, atPi] using hc i 0 hi (by omega), by simpa [csPi, atPi] using hc i 1 hi (by omega), by simpa [csPi, atPi] using hc i 2 hi (by omega)⟩⟩
  · obtain ⟨g, rfl, hb, hg, hf, _⟩ := h3 hl
    exact ⟨g, 0, rfl, hb, hf⟩
theorem own_take {w : World} {base : Nat} {e : TypeId} {size g n cap k : Nat} {xs : List Value} (h : w.ownsRow base e size (.slice (some ⟨g, 0, none⟩) n cap) n xs) (hk : k ≤ n) :
    w.ownsRow base e size (.slice (some ⟨g, 0, none⟩) k cap) k (xs.take (k * size)) := by
  obtain ⟨h1, h2⟩ := h
  have hm : k * size ≤ n * size := Nat.mul_le_mul_right size hk
  refine ⟨by rw [List.length_take, h1]; omega, ?_⟩
  rcases h2 with ⟨h2, _⟩ | ⟨g', cap', cur, h2, hb, hh, hn, hm', hs, ht⟩
  · cases h2
  · cases h2
    exact .inr ⟨g, cap, cur, rfl, hb, hh, by omega, hm', hs, by rw [← ht, List.take_take, Nat.min_eq_left hm]⟩
theorem flat_take {α : Type} {cs : α → List Value} {k : Nat} (hk : ∀ t, (cs t).length = k) (l : List α) : ∀ n, (flat cs l).take (n * k) = flat cs (l.take n) := by
  induction l with
  | nil => intro n; simp [flat]
  | cons a l ih =>
    intro n
    have e : flat cs (a :: l) = cs a ++ flat cs l := by simp [flat]
    cases n with
    | zero => simp [flat]
    | succ n =>
      rw [e, List.take_succ_cons]
      have e2 : flat cs (a :: l.take n) = cs a ++ flat cs (l.take n) := by simp [flat]
      rw [e2, ← ih n, List.take_append, hk, List.take_of_length_le (by rw [hk, Nat.add_mul]; omega)]
      congr 2
      rw [Nat.add_mul]; omega
theorem rowPi_news {w : World} {B b off : Nat} {l : List Pi} (h : RowPi w B (some ⟨b, off, none⟩) l) : ∀ j u, (flat csPi l)[j]? = some u → w.cell? ((⟨b, off, none⟩ : Addr).add j) = some u := by
  intro j u hu
  have hj : j < l.length * 3 := by
    rw [← flat_len csPi_len l]
    rcases Nat.lt_or_ge j (flat csPi l).length with h | h
    · exact h
    · rw [List.getElem?_eq_none h] at hu; cases hu
  obtain ⟨b', off', e, _, hc⟩ := h (by omega)
  simp only [Option.some.injEq, Addr.mk.injEq, and_true] at e
  obtain ⟨rfl, rfl⟩ := e
  have ha : (⟨b, off, none⟩ : Addr).add j = ⟨b, off + j, none⟩ := by unfold Addr.add; by_cases e : j = 0 <;> simp [e]
  obtain ⟨c0, c1, c2⟩ := hc (j / 3) (by omega)
  have hg := flat_get csPi_len ⟨0, 0, 0⟩ l (j / 3) (j % 3) (by omega) (by omega)
  rw [show j / 3 * 3 + j % 3 = j from by omega, hu] at hg
  rw [ha]
  rcases (show j % 3 = 0 ∨ j % 3 = 1 ∨ j % 3 = 2 from by omega) with e | e | e
  · rw [e] at hg; rw [show off + j = off + j / 3 * 3 from by omega, c0]; simpa [csPi, atPi] using hg.symm
  · rw [e] at hg; rw [show off + j = off + j / 3 * 3 + 1 from by omega, c1]; simpa [csPi, atPi] using hg.symm
  · rw [e] at hg; rw [show off + j = off + j / 3 * 3 + 2 from by omega, c2]; simpa [csPi, atPi] using hg.symm
theorem flatPi_one (l : List Pi) : ∀ u ∈ flat csPi l, u.oneCell' = true := by
  intro u hu
  simp only [flat, List.mem_flatMap, csPi, List.mem_cons, List.not_mem_nil, or_false] at hu
  obtain ⟨t, _, rfl | rfl | rfl⟩ := hu <;> rfl
theorem rowPi_drop {w : World} {B b off : Nat} {l : List Pi} (h : RowPi w B (some ⟨b, off, none⟩) l) : RowPi w B (some ⟨b, off + 3, none⟩) (l.drop 1) := by
  intro hl
  rw [List.length_drop] at hl
  obtain ⟨b', off', e, hb, hc⟩ := h (by omega)
  simp only [Option.some.injEq, Addr.mk.injEq, and_true] at e
  obtain ⟨rfl, rfl⟩ := e
  refine ⟨b, off + 3, rfl, hb, fun i hi => ?_⟩
  rw [List.length_drop] at hi
  have e1 : atPi (l.drop 1) i = atPi l (i + 1) := by unfold atPi; rw [List.getD_eq_getElem?_getD, List.getD_eq_getElem?_getD, List.getElem?_drop, Nat.add_comm]
  rw [e1]
  have h2 := hc (i + 1) (by omega)
  rw [show off + 3 + i * 3 = off + (i + 1) * 3 from by omega]
  exact h2
theorem at_drop1 (l : List Pi) (i : Nat) : atPi (l.drop 1) i = atPi l (i + 1) := by unfold atPi; rw [List.getD_eq_getElem?_getD, List.getD_eq_getElem?_getD, List.getElem?_drop, Nat.add_comm]
theorem at_set0 (l : List Pi) (x : Pi) (h : 0 < l.length) : atPi (l.set 0 x) 0 = x := by unfold atPi; rw [List.getD_eq_getElem?_getD, List.getElem?_set_self h]; rfl
end
section
open Go.RowKit

theorem Onl.set {b : Nat} (w : World) (o : Nat) (u : Value) : Onl b w (w.setCell ⟨b, o, none⟩ u) :=
  ⟨rfl, rfl, rfl, by simp [World.setCell], fun k hk => Below.heap_setCell w ⟨b, o, none⟩ u k hk⟩
structure Trn (A : Option Addr) (n : Nat) (w w' : World) : Prop where
  os : w'.os = w.os
  tape : w'.tape = w.tape
  output : w'.output = w.output
  size : w'.heap.size = w.heap.size
  block : ∀ i, i < w.heap.size → (0 < n → ∀ a : Addr, A = some a → a.block ≠ i) → w'.heap[i]? = w.heap[i]?
theorem Trn.of {A : Option Addr} {b off n : Nat} {w w' : World} (h : Onl b w w') (hz : n = 0 → w = w') (hA : 0 < n → A = some ⟨b, off, none⟩) : Trn A n w w' :=
  ⟨h.os, h.tape, h.output, h.size, fun i hi hne => by
    by_cases h0 : n = 0
    · rw [← hz h0]
    · exact h.block i (fun e => hne (by omega) ⟨b, off, none⟩ (hA (by omega)) e.symm)⟩
theorem Trn.below {A : Option Addr} {n B : Nat} {w w' : World} (h : Trn A n w w') (hB : B ≤ w.heap.size) (hne : ∀ a : Addr, 0 < n → A = some a → B ≤ a.block) : Below B w w' :=
  ⟨h.os, h.tape, h.output, by rw [h.size]; exact Nat.le_refl _, fun i hi => h.block i (by omega) fun hn a ha => by have := hne a hn ha; omega⟩
theorem bel_trn {A : Option Addr} {n : Nat} {W w w' : World} (h : Below W.heap.size W w) (t : Trn A n w w') (hne : ∀ a : Addr, 0 < n → A = some a → W.heap.size ≤ a.block) : Below W.heap.size W w' := h.trans (t.below h.size hne)
end
section
open Go.RowKit

def CMPi (w : World) (b off : Nat) (t : Pi) (i : Nat) : Prop := w.cell? ⟨b, off + i * 3, none⟩ = some (.int .i64 t.step) ∧ w.cell? ⟨b, off + i * 3 + 1, none⟩ = some (.int .i64 t.alter) ∧ w.cell? ⟨b, off + i * 3 + 2, none⟩ = some (.int .i64 t.octave)
def mkPi (V : Int) : Pi := ⟨V, V + 1, V + 1 + 1⟩
def mkLPi (n : Nat) (K : Int) : List Pi := (List.range n).map fun (i : Nat) => mkPi (K + 3 * (i : Int))
theorem mkLPi_len (n : Nat) (K : Int) : (mkLPi n K).length = n := by simp [mkLPi]
theorem at_mkLPi (n : Nat) (K : Int) (i : Nat) (h : i < n) : atPi (mkLPi n K) i = mkPi (K + 3 * (i : Int)) := by
  unfold atPi mkLPi; rw [List.getD_eq_getElem?_getD, List.getElem?_map, List.getElem?_range h]; rfl
theorem mstepPi (wr : World) (b off i n : Nat) (f : Nat → Pi) (t : Pi) (ht : f i = t) (hlt : i < n) (hd : ∀ j, j < i → CMPi wr b off (f j) j) (hs : ∀ o, o < n * 3 → (wr.cell? ⟨b, off + o, none⟩).isSome = true) (hf : ∀ o, wr.frozen? ⟨b, o, none⟩ = false) :
    (∀ j, j < i + 1 → CMPi (((wr.setCell ⟨b, off + i * 3, none⟩ (.int .i64 t.step)).setCell ⟨b, off + i * 3 + 1, none⟩ (.int .i64 t.alter)).setCell ⟨b, off + i * 3 + 2, none⟩ (.int .i64 t.octave)) b off (f j) j) ∧ (∀ o, o < n * 3 → ((((wr.setCell ⟨b, off + i * 3, none⟩ (.int .i64 t.step)).setCell ⟨b, off + i * 3 + 1, none⟩ (.int .i64 t.alter)).setCell ⟨b, off + i * 3 + 2, none⟩ (.int .i64 t.octave)).cell? ⟨b, off + o, none⟩).isSome = true) ∧ (∀ o, (((wr.setCell ⟨b, off + i * 3, none⟩ (.int .i64 t.step)).setCell ⟨b, off + i * 3 + 1, none⟩ (.int .i64 t.alter)).setCell ⟨b, off + i * 3 + 2, none⟩ (.int .i64 t.octave)).frozen? ⟨b, o, none⟩ = false) ∧ (∀ w, Onl b w wr → Onl b w (((wr.setCell ⟨b, off + i * 3, none⟩ (.int .i64 t.step)).setCell ⟨b, off + i * 3 + 1, none⟩ (.int .i64 t.alter)).setCell ⟨b, off + i * 3 + 2, none⟩ (.int .i64 t.octave))) := by
  have ne : ∀ x y : Nat, x ≠ y → (⟨b, x, none⟩ : Addr) ≠ ⟨b, y, none⟩ := fun x y h e => h (congrArg Addr.off e)
  refine ⟨fun j hj => ?_, fun o ho => ?_, fun o => ?_, fun w h => ?_⟩
  · by_cases hjk : j < i
    · obtain ⟨d0, d1, d2⟩ := hd j hjk
      exact ⟨keep_off (keep_off (keep_off (d0) (ne _ _ (by omega))) (ne _ _ (by omega))) (ne _ _ (by omega)), keep_off (keep_off (keep_off (d1) (ne _ _ (by omega))) (ne _ _ (by omega))) (ne _ _ (by omega)), keep_off (keep_off (keep_off (d2) (ne _ _ (by omega))) (ne _ _ (by omega))) (ne _ _ (by omega))⟩
    · obtain rfl : j = i := by omega
      rw [ht]
      have hs' : ∀ r, r < 3 → (wr.cell? ⟨b, off + j * 3 + r, none⟩).isSome = true := fun r hr => by rw [Nat.add_assoc]; exact hs _ (by omega)
      exact ⟨keep_off (keep_off (set_same ((by simpa using hs' 0 (by omega)))) (ne _ _ (by omega))) (ne _ _ (by omega)), keep_off (set_same (some_set ((by simpa using hs' 1 (by omega))) (ne _ _ (by omega)))) (ne _ _ (by omega)), set_same (some_set (some_set ((by simpa using hs' 2 (by omega))) (ne _ _ (by omega))) (ne _ _ (by omega)))⟩
  · exact some_setx (some_setx (some_setx (hs o ho)))
  · exact fz_set (fz_set (fz_set (hf o)))
  · exact ((h.trans (Onl.set _ _ _)).trans (Onl.set _ _ _)).trans (Onl.set _ _ _)
set_option maxHeartbeats 2000000 in
theorem markSPi_any (A : Option Addr) (n c lo : Nat) (l : List Pi) (K : Int) (w : World) (hn : l.length = n) (hm : n ≤ 2000000) (h0 : 0 ≤ K) (h1 : K ≤ 100000000) (h : RowPi w w.heap.size A l) (ho : OwnPi w lo A l.length) :
    Calls Try.prog 33 #[.slice A n c, .int .i64 K] w fun e w' => e = .returned (.int .i64 (K + 3 * (n : Int))) ∧ Trn A n w w' ∧ RowPi w' w'.heap.size A (mkLPi n K) := by
  subst hn
  obtain ⟨b, off, hA, hb, hf0, hs0⟩ : ∃ b off, (0 < l.length → A = some ⟨b, off, none⟩) ∧ (0 < l.length → b < w.heap.size) ∧ (0 < l.length → ∀ o, w.frozen? ⟨b, o, none⟩ = false) ∧ (∀ o, o < l.length * 3 → (w.cell? ⟨b, off + o, none⟩).isSome = true) := by
    by_cases hp : 0 < l.length
    · obtain ⟨b, off, e, hb, hc⟩ := h hp
      obtain ⟨b', off', e', _, hf⟩ := ho hp
      rw [e] at e'
      simp only [Option.some.injEq, Addr.mk.injEq, and_true] at e'
      refine ⟨b, off, fun _ => e, fun _ => hb, fun _ o => by rw [e'.1]; exact hf o, fun o ho => ?_⟩
      have hc := hc (o / 3) (by omega)
      obtain ⟨p0, p1, p2⟩ := hc
      rcases (show o % 3 = 0 ∨ o % 3 = 1 ∨ o % 3 = 2 from by omega) with e | e | e
      · rw [show off + o = off + (o / 3) * 3 from by omega, p0]; rfl
      · rw [show off + o = off + (o / 3) * 3 + 1 from by omega, p1]; rfl
      · rw [show off + o = off + (o / 3) * 3 + 2 from by omega, p2]; rfl
    · exact ⟨0, 0, fun c => absurd c hp, fun c => absurd c hp, fun c => absurd c hp, fun o ho => absurd ho (by omega)⟩
  go_enter Try.func33, Try.ntmps33
  go_wp2
  go_loopw [1, 5] (fun kk i wr => ∃ j : Nat, j ≤ l.length ∧ i = .int .i64 j ∧ kk = .int .i64 (K + 3 * (j : Int)) ∧ Onl b w wr ∧ (l.length = 0 → w = wr) ∧ (∀ r, r < j → CMPi wr b off (mkPi (K + 3 * (r : Int))) r) ∧ (∀ o, o < l.length * 3 → (wr.cell? ⟨b, off + o, none⟩).isSome = true) ∧ (0 < l.length → ∀ o, wr.frozen? ⟨b, o, none⟩ = false)) (fun _ i _ => l.length - (intOf i).toNat)
  case atStart => exact ⟨0, Nat.zero_le _, rfl, by simp, Onl.refl b w, fun _ => rfl, fun r hr => absurd hr (by omega), hs0, hf0⟩
  case round =>
    obtain ⟨j, hj, rfl, rfl, hon, hz, hd, hs, hf⟩ := hrel
    clear hs0 hf0
    by_cases hlt : j < l.length
    · obtain rfl := hA (by omega)
      have hf := hf (by omega)
      obtain ⟨V, hV⟩ : ∃ V, K + 3 * (j : Int) = V := ⟨_, rfl⟩
      rw [hV]
      have HV := Lib.hid hV
      have v0 : 0 ≤ V := by omega
      have v1 : V ≤ 200000000 := by omega
      have hjl : (j : Int) < (l.length : Int) := by omega
      have hj0 : (0 : Int) ≤ (j : Int) := by omega
      have hs' : ∀ r, r < 3 → (wr.cell? ⟨b, off + j * 3 + r, none⟩).isSome = true := fun r hr => by rw [Nat.add_assoc]; exact hs _ (by omega)
      obtain ⟨o0, so0⟩ := Option.isSome_iff_exists.1 (hs' 0 (by omega))
      simp only [Nat.add_zero] at so0
      obtain ⟨o1, so1⟩ := Option.isSome_iff_exists.1 (hs' 1 (by omega))
      obtain ⟨o2, so2⟩ := Option.isSome_iff_exists.1 (hs' 2 (by omega))
      have HD := Lib.hid hd
      have HS := Lib.hid hs
      have HF := Lib.hid hf
      obtain ⟨V1, e1⟩ : ∃ x, V + 1 = x := ⟨_, rfl⟩
      have n1 : 0 ≤ V1 := by omega
      have m1 : V1 ≤ 200000000 + 1 := by omega
      obtain ⟨V2, e2⟩ : ∃ x, V1 + 1 = x := ⟨_, rfl⟩
      have n2 : 0 ≤ V2 := by omega
      have m2 : V2 ≤ 200000000 + 2 := by omega
      obtain ⟨V3, e3⟩ : ∃ x, V2 + 1 = x := ⟨_, rfl⟩
      have n3 : 0 ≤ V3 := by omega
      have m3 : V3 ≤ 200000000 + 3 := by omega
      have HT : Hid (mkPi V = (⟨V, V1, V2⟩ : Pi)) := by show _ = _; simp only [mkPi, e1, e2, e3]
      clear hV hd hs hs' hz h ho hA
      go_wp2
      go_roundw
      case rel =>
        obtain ⟨s1, s2, s3, s4⟩ := mstepPi wr b off j l.length (fun r => mkPi (K + 3 * (r : Int))) ⟨V, V1, V2⟩ (by show mkPi (K + 3 * (j : Int)) = _; rw [HV.out]; exact HT.out) hlt HD.out HS.out HF.out
        have hV := HV.out
        exact ⟨j + 1, by omega, by go_num, congrArg (Value.int .i64) (by omega), s4 _ hon, fun h => absurd h (by omega), s1, s2, fun _ => s3⟩
      case measure => simp [intOf]; omega
    · obtain rfl : j = l.length := by omega
      have HD := Lib.hid hd
      have HN := Lib.hid hon
      have HZ := Lib.hid hz
      clear hs hf hd hon hz
      go_wp2
      go_ret
      refine ⟨rfl, Trn.of HN.out HZ.out hA, fun hl => ?_⟩
      rw [mkLPi_len] at hl
      refine ⟨b, off, hA hl, by rw [HN.out.size]; exact hb hl, fun i hi => ?_⟩
      rw [mkLPi_len] at hi
      rw [at_mkLPi _ _ i hi]
      exact HD.out i hi
set_option maxHeartbeats 2000000 in
theorem heldSPi_any (A : Option Addr) (n c : Nat) (K : Int) (w : World) (hm : n ≤ 2000000) (h0 : 0 ≤ K) (h1 : K ≤ 100000000) (h : RowPi w w.heap.size A (mkLPi n K)) :
    Calls Try.prog 66 #[.slice A n c, .int .i64 K] w fun e w' => e = .returned (.int .i64 (K + 3 * (n : Int))) ∧ Below w.heap.size w w' := by
  go_enter Try.func66, Try.ntmps66
  go_wp2
  go_loopw [1, 5] (fun kk i wr => ∃ j : Nat, j ≤ n ∧ i = .int .i64 j ∧ kk = .int .i64 (K + 3 * (j : Int)) ∧ Below w.heap.size w wr) (fun _ i _ => n - (intOf i).toNat)
  case atStart => exact ⟨0, Nat.zero_le _, rfl, by simp, bel_refl _⟩
  case round =>
    obtain ⟨j, hj, rfl, rfl, hb⟩ := hrel
    by_cases hlt : j < n
    · obtain ⟨b, off, rfl, hlb, hc⟩ := (h.below hb) (by rw [mkLPi_len]; omega)
      have hcj := hc j (by rw [mkLPi_len]; exact hlt)
      rw [at_mkLPi _ _ j hlt] at hcj
      obtain ⟨V, hV⟩ : ∃ V, K + 3 * (j : Int) = V := ⟨_, rfl⟩
      rw [hV] at hcj ⊢
      have HV := Lib.hid hV
      have v0 : 0 ≤ V := by omega
      have v1 : V ≤ 200000000 := by omega
      have hjl : (j : Int) < (n : Int) := by omega
      have hj0 : (0 : Int) ≤ (j : Int) := by omega
      obtain ⟨p0, p1, p2⟩ := hcj
      obtain ⟨V1, e1⟩ : ∃ x, V + 1 = x := ⟨_, rfl⟩
      have n1 : 0 ≤ V1 := by omega
      have m1 : V1 ≤ 200000000 + 1 := by omega
      obtain ⟨V2, e2⟩ : ∃ x, V1 + 1 = x := ⟨_, rfl⟩
      have n2 : 0 ≤ V2 := by omega
      have m2 : V2 ≤ 200000000 + 2 := by omega
      obtain ⟨V3, e3⟩ : ∃ x, V2 + 1 = x := ⟨_, rfl⟩
      have n3 : 0 ≤ V3 := by omega
      have m3 : V3 ≤ 200000000 + 3 := by omega
      simp only [mkPi, e1, e2, e3] at p0 p1 p2
      clear hV hc h
      go_wp2
      go_roundw
      case rel => exact ⟨j + 1, by omega, by go_num, congrArg (Value.int .i64) (by have := HV.out; omega), by repeat (first | (with_reducible assumption) | (exact bel_undr (by with_reducible assumption)) | (with_reducible exact bel_refl _) | (with_reducible refine bel_dr ?_) | (with_reducible refine bel_drN ?_ _) | (with_reducible refine bel_al ?_ _) | (refine bel_set ?_ (by first | (simp; done) | (simp; exact Below.size (by assumption)) | (simp; omega)) _) | (with_reducible refine bel_tr ?_ (by assumption)))⟩
      case measure => simp [intOf]; omega
    · obtain rfl : j = n := by omega
      go_wp2
      go_ret
      exact ⟨rfl, hb⟩
/-- a slice that lies in one block of its own, from lo on and below hi -/
structure SLPi (w : World) (lo hi : Nat) (A : Option Addr) (l : List Pi) : Prop where
  top : hi ≤ w.heap.size
  at' : 0 < l.length → ∃ b off, A = some ⟨b, off, none⟩ ∧ lo ≤ b ∧ b < hi ∧ (∀ o, w.frozen? ⟨b, o, none⟩ = false) ∧ ∀ i, i < l.length → CMPi w b off (atPi l i) i
theorem SLPi.of {w : World} {lo : Nat} {A : Option Addr} {l : List Pi} (r : RowPi w w.heap.size A l) (o : OwnPi w lo A l.length) : SLPi w lo w.heap.size A l :=
  ⟨Nat.le_refl _, fun hl => by
    obtain ⟨b, off, e, hb, hc⟩ := r hl
    obtain ⟨b', off', e', hb', hf⟩ := o hl
    rw [e] at e'
    simp only [Option.some.injEq, Addr.mk.injEq, and_true] at e'
    exact ⟨b, off, e, by omega, hb, fun o => by rw [e'.1]; exact hf o, hc⟩⟩
theorem SLPi.row {w : World} {lo hi : Nat} {A : Option Addr} {l : List Pi} (h : SLPi w lo hi A l) : RowPi w w.heap.size A l := fun hl => by
  obtain ⟨b, off, e, _, hb, _, hc⟩ := h.at' hl
  exact ⟨b, off, e, Nat.lt_of_lt_of_le hb h.top, hc⟩
theorem SLPi.own {w : World} {lo hi : Nat} {A : Option Addr} {l : List Pi} (h : SLPi w lo hi A l) : OwnPi w lo A l.length := fun hl => by
  obtain ⟨b, off, e, hb, _, hf, _⟩ := h.at' hl
  exact ⟨b, off, e, hb, hf⟩
theorem SLPi.place {w : World} {lo hi : Nat} {A : Option Addr} {l : List Pi} (h : SLPi w lo hi A l) {a : Addr} (hl : 0 < l.length) (ha : A = some a) : lo ≤ a.block ∧ a.block < hi := by
  obtain ⟨b, off, e, h1, h2, _⟩ := h.at' hl
  rw [e] at ha; cases ha; exact ⟨h1, h2⟩
theorem SLPi.keep {w w' : World} {lo hi : Nat} {A : Option Addr} {l : List Pi} (h : SLPi w lo hi A l) (hs : w.heap.size ≤ w'.heap.size) (hb : ∀ i, i < w.heap.size → lo ≤ i → i < hi → w'.heap[i]? = w.heap[i]?) : SLPi w' lo hi A l :=
  ⟨Nat.le_trans h.top hs, fun hl => by
    obtain ⟨b, off, e, h1, h2, hf, hc⟩ := h.at' hl
    have hbb := hb b (Nat.lt_of_lt_of_le h2 h.top) h1 h2
    refine ⟨b, off, e, h1, h2, fun o => by rw [World.frozen?_of_block (w := w) (a := ⟨b, o, none⟩) hbb]; exact hf o, fun i hi => ?_⟩
    have hk : ∀ o, w'.cell? ⟨b, o, none⟩ = w.cell? ⟨b, o, none⟩ := fun o => World.cell?_of_block (w := w) (a := ⟨b, o, none⟩) hbb
    unfold CMPi
    simp only [hk]
    exact hc i hi⟩
theorem SLPi.below {w w' : World} {lo hi : Nat} {A : Option Addr} {l : List Pi} (h : SLPi w lo hi A l) (hb : Below w.heap.size w w') : SLPi w' lo hi A l := h.keep hb.size fun i hi _ _ => hb.block i hi
theorem SLPi.trn {w w' : World} {lo hi n : Nat} {A B : Option Addr} {l : List Pi} (h : SLPi w lo hi A l) (t : Trn B n w w') (hne : ∀ a : Addr, 0 < n → B = some a → a.block < lo ∨ hi ≤ a.block) : SLPi w' lo hi A l :=
  h.keep (by rw [t.size]; exact Nat.le_refl _) fun i hi h1 h2 => t.block i hi fun hn a ha => by have := hne a hn ha; omega
theorem RowPi.trn {w w' : World} {B n : Nat} {A A' : Option Addr} {l : List Pi} (h : RowPi w B A l) (t : Trn A' n w w') (hne : ∀ a : Addr, 0 < n → A' = some a → B ≤ a.block) (hB : B ≤ w.heap.size) : RowPi w' B A l :=
  h.keep (Nat.le_refl _) fun b o hb => World.cell?_of_block (w := w) (a := ⟨b, o, none⟩) (t.block b (by omega) fun hn a ha => by have := hne a hn ha; omega)
theorem RowPi.bel {w w' : World} {B : Nat} {A : Option Addr} {l : List Pi} (h : RowPi w B A l) (hb : Below w.heap.size w w') (hB : B ≤ w.heap.size) : RowPi w' B A l :=
  h.keep (Nat.le_refl _) fun b o hh => hb.cell (p := ⟨b, o, none⟩) (by simp only; omega)
theorem RowPi.up {w : World} {B B' : Nat} {A : Option Addr} {l : List Pi} (h : RowPi w B A l) (hB : B ≤ B') : RowPi w B' A l := h.keep hB fun _ _ _ => rfl
end
section
open Go.RowKit

structure Fa where
  pos : Int
  code : Int

def atFa (l : List Fa) (i : Nat) : Fa := l.getD i ⟨0, 0⟩
/-- the slice at address A reads as the list l, all below block B -/
def RowFa (w : World) (B : Nat) (A : Option Addr) (l : List Fa) : Prop :=
  0 < l.length → ∃ b off, A = some ⟨b, off, none⟩ ∧ b < B ∧ ∀ i, i < l.length → w.cell? ⟨b, off + i * 2, none⟩ = some (.int .i64 (atFa l i).pos) ∧ w.cell? ⟨b, off + i * 2 + 1, none⟩ = some (.int .i64 (atFa l i).code)
/-- the first n places of the slice may be written, and lie from block lo on -/
def OwnFa (w : World) (lo : Nat) (A : Option Addr) (n : Nat) : Prop :=
  0 < n → ∃ b off, A = some ⟨b, off, none⟩ ∧ lo ≤ b ∧ ∀ o, w.frozen? ⟨b, o, none⟩ = false
theorem RowFa.keep {w w' : World} {B B' : Nat} {A : Option Addr} {l : List Fa} (h : RowFa w B A l) (hB : B ≤ B') (hk : ∀ b o, b < B → w'.cell? ⟨b, o, none⟩ = w.cell? ⟨b, o, none⟩) : RowFa w' B' A l := by
  intro hl
  obtain ⟨b, off, e, hb, hc⟩ := h hl
  refine ⟨b, off, e, by omega, fun i hi => ?_⟩
  simp only [hk _ _ hb]
  exact hc i hi
theorem RowFa.below {w w' : World} {A : Option Addr} {l : List Fa} (h : RowFa w w.heap.size A l) (hb : Below w.heap.size w w') : RowFa w' w'.heap.size A l :=
  h.keep hb.size fun b o hh => hb.cell (p := ⟨b, o, none⟩) hh
theorem OwnFa.below {w w' : World} {A : Option Addr} {lo : Nat} {l : List Fa} (h : OwnFa w lo A l.length) (hr : RowFa w w.heap.size A l) (hb : Below w.heap.size w w') : OwnFa w' lo A l.length := by
  intro hl
  obtain ⟨b, off, e, h1, h2⟩ := h hl
  obtain ⟨b', off', e', h3, _⟩ := hr hl
  rw [e] at e'
  simp only [Option.some.injEq, Addr.mk.injEq, and_true] at e'
  exact ⟨b, off, e, h1, fun o => by rw [hb.frozen (p := ⟨b, o, none⟩) (by simp only; omega)]; exact h2 o⟩

set_option maxHeartbeats 400000 in
theorem eqFa_same (t : Fa) (w : World) :
    Calls Try.prog 41 #[.agg #[.int .i64 t.pos, .int .i64 t.code], .agg #[.int .i64 t.pos, .int .i64 t.code]] w fun e w' => e = .returned (.bool true) ∧ Below w.heap.size w w' := by
  obtain ⟨pos, code⟩ := t
  go_enter Try.func41, Try.ntmps41
  go_wp2
  go_ret
  exact ⟨rfl, by repeat (first | (with_reducible assumption) | (exact bel_undr (by with_reducible assumption)) | (with_reducible exact bel_refl _) | (with_reducible refine bel_dr ?_) | (with_reducible refine bel_drN ?_ _) | (with_reducible refine bel_al ?_ _) | (refine bel_set ?_ (by first | (simp; done) | (simp; exact Below.size (by assumption)) | (simp; omega)) _) | (with_reducible refine bel_tr ?_ (by assumption)))⟩
set_option maxHeartbeats 1000000 in
theorem eqSFa_same (A A' : Option Addr) (n c c' : Nat) (l : List Fa) (w : World) (hn : l.length = n) (hm : n ≤ 9223372036854775807) (h : RowFa w w.heap.size A l) (h' : RowFa w w.heap.size A' l) :
    Calls Try.prog 14 #[.slice A n c, .slice A' n c'] w fun e w' => e = .returned (.bool true) ∧ Below w.heap.size w w' := by
  subst hn
  go_enter Try.func14, Try.ntmps14
  go_wp2
  go_loopw [5] (fun i wr => ∃ k : Nat, k ≤ l.length ∧ i = .int .i64 k ∧ Below w.heap.size w wr) (fun i _ => l.length - (intOf i).toNat)
  case atStart => exact ⟨0, Nat.zero_le _, rfl, bel_refl _⟩
  case round =>
    obtain ⟨k, hk, rfl, hb⟩ := hrel
    by_cases hlt : k < l.length
    · obtain ⟨b, off, rfl, hlb, hc⟩ := (h.below hb) (by omega)
      obtain ⟨b', off', rfl, hlb', hc'⟩ := (h'.below hb) (by omega)
      have hc := hc k hlt
      have hc' := hc' k hlt
      generalize atFa l k = t at hc hc'
      obtain ⟨xpos, xcode⟩ := t
      obtain ⟨p0, p1⟩ := hc
      obtain ⟨q0, q1⟩ := hc'
      simp only at p0 q0 p1 q1
      clear h h'
      have hki : (k : Int) < (l.length : Int) := by omega
      have hk0 : (0 : Int) ≤ (k : Int) := by omega
      go_wp2
      go_region_held3 (fun W => W.cell? ⟨b, off + k * 2, none⟩ = some (.int .i64 xpos) ∧ W.cell? ⟨b, off + k * 2 + 1, none⟩ = some (.int .i64 xcode) ∧ W.cell? ⟨b', off' + k * 2, none⟩ = some (.int .i64 xpos) ∧ W.cell? ⟨b', off' + k * 2 + 1, none⟩ = some (.int .i64 xcode) ∧ Below w.heap.size w W) (((try go_split_ands); (repeat' (with_reducible refine And.intro ?_ ?_)) <;> (first | (with_reducible assumption) | ((repeat (first | (with_reducible assumption) | (exact keep_undr (by with_reducible assumption)) | (simp [go_sem]; done) | (with_reducible refine keep_dr ?_) | (with_reducible refine keep_drN ?_ _) | (with_reducible refine keep_al ?_ _) | (refine keep_set ?_ (by first | (simp; done) | (simp; omega) | omega)) | (with_reducible refine keep_tr ?_ (by assumption)))); done) | ((repeat (first | (with_reducible assumption) | (exact bel_undr (by with_reducible assumption)) | (with_reducible exact bel_refl _) | (with_reducible refine bel_dr ?_) | (with_reducible refine bel_drN ?_ _) | (with_reducible refine bel_al ?_ _) | (refine bel_set ?_ (by first | (simp; done) | (simp; exact Below.size (by assumption)) | (simp; omega)) _) | (with_reducible refine bel_tr ?_ (by assumption)))); done) | (simp [go_sem]; done) | go_keep))) (first | (go_at_call 41; refine (eqFa_same ⟨xpos, xcode⟩ _).mono ?_; rintro e1 w1 ⟨rfl, hb1⟩; obtain ⟨bc1, bf1, sl1, se1, sk1⟩ := bfacts hb1; have hz1 := hb1.size; (try simp at hz1)))
      go_wp2
      go_roundw
      case rel => exact ⟨k + 1, by omega, by go_num, by repeat (first | (with_reducible assumption) | (exact bel_undr (by with_reducible assumption)) | (with_reducible exact bel_refl _) | (with_reducible refine bel_dr ?_) | (with_reducible refine bel_drN ?_ _) | (with_reducible refine bel_al ?_ _) | (refine bel_set ?_ (by first | (simp; done) | (simp; exact Below.size (by assumption)) | (simp; omega)) _) | (with_reducible refine bel_tr ?_ (by assumption)))⟩
      case measure => simp [intOf]; omega
    · go_wp2
      go_ret
      exact ⟨rfl, hb⟩

end
section
open Go.RowKit

def CMFa (w : World) (b off : Nat) (t : Fa) (i : Nat) : Prop := w.cell? ⟨b, off + i * 2, none⟩ = some (.int .i64 t.pos) ∧ w.cell? ⟨b, off + i * 2 + 1, none⟩ = some (.int .i64 t.code)
def mkFa (V : Int) : Fa := ⟨V, V + 1⟩
def mkLFa (n : Nat) (K : Int) : List Fa := (List.range n).map fun (i : Nat) => mkFa (K + 2 * (i : Int))
theorem mkLFa_len (n : Nat) (K : Int) : (mkLFa n K).length = n := by simp [mkLFa]
theorem at_mkLFa (n : Nat) (K : Int) (i : Nat) (h : i < n) : atFa (mkLFa n K) i = mkFa (K + 2 * (i : Int)) := by
  unfold atFa mkLFa; rw [List.getD_eq_getElem?_getD, List.getElem?_map, List.getElem?_range h]; rfl
theorem mstepFa (wr : World) (b off i n : Nat) (f : Nat → Fa) (t : Fa) (ht : f i = t) (hlt : i < n) (hd : ∀ j, j < i → CMFa wr b off (f j) j) (hs : ∀ o, o < n * 2 → (wr.cell? ⟨b, off + o, none⟩).isSome = true) (hf : ∀ o, wr.frozen? ⟨b, o, none⟩ = false) :
    (∀ j, j < i + 1 → CMFa ((wr.setCell ⟨b, off + i * 2, none⟩ (.int .i64 t.pos)).setCell ⟨b, off + i * 2 + 1, none⟩ (.int .i64 t.code)) b off (f j) j) ∧ (∀ o, o < n * 2 → (((wr.setCell ⟨b, off + i * 2, none⟩ (.int .i64 t.pos)).setCell ⟨b, off + i * 2 + 1, none⟩ (.int .i64 t.code)).cell? ⟨b, off + o, none⟩).isSome = true) ∧ (∀ o, ((wr.setCell ⟨b, off + i * 2, none⟩ (.int .i64 t.pos)).setCell ⟨b, off + i * 2 + 1, none⟩ (.int .i64 t.code)).frozen? ⟨b, o, none⟩ = false) ∧ (∀ w, Onl b w wr → Onl b w ((wr.setCell ⟨b, off + i * 2, none⟩ (.int .i64 t.pos)).setCell ⟨b, off + i * 2 + 1, none⟩ (.int .i64 t.code))) := by
  have ne : ∀ x y : Nat, x ≠ y → (⟨b, x, none⟩ : Addr) ≠ ⟨b, y, none⟩ := fun x y h e => h (congrArg Addr.off e)
  refine ⟨fun j hj => ?_, fun o ho => ?_, fun o => ?_, fun w h => ?_⟩
  · by_cases hjk : j < i
    · obtain ⟨d0, d1⟩ := hd j hjk
      exact ⟨keep_off (keep_off (d0) (ne _ _ (by omega))) (ne _ _ (by omega)), keep_off (keep_off (d1) (ne _ _ (by omega))) (ne _ _ (by omega))⟩
    · obtain rfl : j = i := by omega
      rw [ht]
      have hs' : ∀ r, r < 2 → (wr.cell? ⟨b, off + j * 2 + r, none⟩).isSome = true := fun r hr => by rw [Nat.add_assoc]; exact hs _ (by omega)
      exact ⟨keep_off (set_same ((by simpa using hs' 0 (by omega)))) (ne _ _ (by omega)), set_same (some_set ((by simpa using hs' 1 (by omega))) (ne _ _ (by omega)))⟩
  · exact some_setx (some_setx (hs o ho))
  · exact fz_set (fz_set (hf o))
  · exact (h.trans (Onl.set _ _ _)).trans (Onl.set _ _ _)
set_option maxHeartbeats 2000000 in
theorem markSFa_any (A : Option Addr) (n c lo : Nat) (l : List Fa) (K : Int) (w : World) (hn : l.length = n) (hm : n ≤ 2000000) (h0 : 0 ≤ K) (h1 : K ≤ 100000000) (h : RowFa w w.heap.size A l) (ho : OwnFa w lo A l.length) :
    Calls Try.prog 17 #[.slice A n c, .int .i64 K] w fun e w' => e = .returned (.int .i64 (K + 2 * (n : Int))) ∧ Trn A n w w' ∧ RowFa w' w'.heap.size A (mkLFa n K) := by
  subst hn
  obtain ⟨b, off, hA, hb, hf0, hs0⟩ : ∃ b off, (0 < l.length → A = some ⟨b, off, none⟩) ∧ (0 < l.length → b < w.heap.size) ∧ (0 < l.length → ∀ o, w.frozen? ⟨b, o, none⟩ = false) ∧ (∀ o, o < l.length * 2 → (w.cell? ⟨b, off + o, none⟩).isSome = true) := by
    by_cases hp : 0 < l.length
    · obtain ⟨b, off, e, hb, hc⟩ := h hp
      obtain ⟨b', off', e', _, hf⟩ := ho hp
      rw [e] at e'
      simp only [Option.some.injEq, Addr.mk.injEq, and_true] at e'
      refine ⟨b, off, fun _ => e, fun _ => hb, fun _ o => by rw [e'.1]; exact hf o, fun o ho => ?_⟩
      have hc := hc (o / 2) (by omega)
      obtain ⟨p0, p1⟩ := hc
      rcases (show o % 2 = 0 ∨ o % 2 = 1 from by omega) with e | e
      · rw [show off + o = off + (o / 2) * 2 from by omega, p0]; rfl
      · rw [show off + o = off + (o / 2) * 2 + 1 from by omega, p1]; rfl
    · exact ⟨0, 0, fun c => absurd c hp, fun c => absurd c hp, fun c => absurd c hp, fun o ho => absurd ho (by omega)⟩
  go_enter Try.func17, Try.ntmps17
  go_wp2
  go_loopw [1, 5] (fun kk i wr => ∃ j : Nat, j ≤ l.length ∧ i = .int .i64 j ∧ kk = .int .i64 (K + 2 * (j : Int)) ∧ Onl b w wr ∧ (l.length = 0 → w = wr) ∧ (∀ r, r < j → CMFa wr b off (mkFa (K + 2 * (r : Int))) r) ∧ (∀ o, o < l.length * 2 → (wr.cell? ⟨b, off + o, none⟩).isSome = true) ∧ (0 < l.length → ∀ o, wr.frozen? ⟨b, o, none⟩ = false)) (fun _ i _ => l.length - (intOf i).toNat)
  case atStart => exact ⟨0, Nat.zero_le _, rfl, by simp, Onl.refl b w, fun _ => rfl, fun r hr => absurd hr (by omega), hs0, hf0⟩
  case round =>
    obtain ⟨j, hj, rfl, rfl, hon, hz, hd, hs, hf⟩ := hrel
    clear hs0 hf0
    by_cases hlt : j < l.length
    · obtain rfl := hA (by omega)
      have hf := hf (by omega)
      obtain ⟨V, hV⟩ : ∃ V, K + 2 * (j : Int) = V := ⟨_, rfl⟩
      rw [hV]
      have HV := Lib.hid hV
      have v0 : 0 ≤ V := by omega
      have v1 : V ≤ 200000000 := by omega
      have hjl : (j : Int) < (l.length : Int) := by omega
      have hj0 : (0 : Int) ≤ (j : Int) := by omega
      have hs' : ∀ r, r < 2 → (wr.cell? ⟨b, off + j * 2 + r, none⟩).isSome = true := fun r hr => by rw [Nat.add_assoc]; exact hs _ (by omega)
      obtain ⟨o0, so0⟩ := Option.isSome_iff_exists.1 (hs' 0 (by omega))
      simp only [Nat.add_zero] at so0
      obtain ⟨o1, so1⟩ := Option.isSome_iff_exists.1 (hs' 1 (by omega))
      have HD := Lib.hid hd
      have HS := Lib.hid hs
      have HF := Lib.hid hf
      obtain ⟨V1, e1⟩ : ∃ x, V + 1 = x := ⟨_, rfl⟩
      have n1 : 0 ≤ V1 := by omega
      have m1 : V1 ≤ 200000000 + 1 := by omega
      obtain ⟨V2, e2⟩ : ∃ x, V1 + 1 = x := ⟨_, rfl⟩
      have n2 : 0 ≤ V2 := by omega
      have m2 : V2 ≤ 200000000 + 2 := by omega
      have HT : Hid (mkFa V = (⟨V, V1⟩ : Fa)) := by show _ = _; simp only [mkFa, e1, e2]
      clear hV hd hs hs' hz h ho hA
      go_wp2
      go_roundw
      case rel =>
        obtain ⟨s1, s2, s3, s4⟩ := mstepFa wr b off j l.length (fun r => mkFa (K + 2 * (r : Int))) ⟨V, V1⟩ (by show mkFa (K + 2 * (j : Int)) = _; rw [HV.out]; exact HT.out) hlt HD.out HS.out HF.out
        have hV := HV.out
        exact ⟨j + 1, by omega, by go_num, congrArg (Value.int .i64) (by omega), s4 _ hon, fun h => absurd h (by omega), s1, s2, fun _ => s3⟩
      case measure => simp [intOf]; omega
    · obtain rfl : j = l.length := by omega
      have HD := Lib.hid hd
      have HN := Lib.hid hon
      have HZ := Lib.hid hz
      clear hs hf hd hon hz
      go_wp2
      go_ret
      refine ⟨rfl, Trn.of HN.out HZ.out hA, fun hl => ?_⟩
      rw [mkLFa_len] at hl
      refine ⟨b, off, hA hl, by rw [HN.out.size]; exact hb hl, fun i hi => ?_⟩
      rw [mkLFa_len] at hi
      rw [at_mkLFa _ _ i hi]
      exact HD.out i hi
set_option maxHeartbeats 2000000 in
theorem heldSFa_any (A : Option Addr) (n c : Nat) (K : Int) (w : World) (hm : n ≤ 2000000) (h0 : 0 ≤ K) (h1 : K ≤ 100000000) (h : RowFa w w.heap.size A (mkLFa n K)) :
    Calls Try.prog 18 #[.slice A n c, .int .i64 K] w fun e w' => e = .returned (.int .i64 (K + 2 * (n : Int))) ∧ Below w.heap.size w w' := by
  go_enter Try.func18, Try.ntmps18
  go_wp2
  go_loopw [1, 5] (fun kk i wr => ∃ j : Nat, j ≤ n ∧ i = .int .i64 j ∧ kk = .int .i64 (K + 2 * (j : Int)) ∧ Below w.heap.size w wr) (fun _ i _ => n - (intOf i).toNat)
  case atStart => exact ⟨0, Nat.zero_le _, rfl, by simp, bel_refl _⟩
  case round =>
    obtain ⟨j, hj, rfl, rfl, hb⟩ := hrel
    by_cases hlt : j < n
    · obtain ⟨b, off, rfl, hlb, hc⟩ := (h.below hb) (by rw [mkLFa_len]; omega)
      have hcj := hc j (by rw [mkLFa_len]; exact hlt)
      rw [at_mkLFa _ _ j hlt] at hcj
      obtain ⟨V, hV⟩ : ∃ V, K + 2 * (j : Int) = V := ⟨_, rfl⟩
      rw [hV] at hcj ⊢
      have HV := Lib.hid hV
      have v0 : 0 ≤ V := by omega
      have v1 : V ≤ 200000000 := by omega
      have hjl : (j : Int) < (n : Int) := by omega
      have hj0 : (0 : Int) ≤ (j : Int) := by omega
      obtain ⟨p0, p1⟩ := hcj
      obtain ⟨V1, e1⟩ : ∃ x, V + 1 = x := ⟨_, rfl⟩
      have n1 : 0 ≤ V1 := by omega
      have m1 : V1 ≤ 200000000 + 1 := by omega
      obtain ⟨V2, e2⟩ : ∃ x, V1 + 1 = x := ⟨_, rfl⟩
      have n2 : 0 ≤ V2 := by omega
      have m2 : V2 ≤ 200000000 + 2 := by omega
      simp only [mkFa, e1, e2] at p0 p1
      clear hV hc h
      go_wp2
      go_roundw
      case rel => exact ⟨j + 1, by omega, by go_num, congrArg (Value.int .i64) (by have := HV.out; omega), by repeat (first | (with_reducible assumption) | (exact bel_undr (by with_reducible assumption)) | (with_reducible exact bel_refl _) | (with_reducible refine bel_dr ?_) | (with_reducible refine bel_drN ?_ _) | (with_reducible refine bel_al ?_ _) | (refine bel_set ?_ (by first | (simp; done) | (simp; exact Below.size (by assumption)) | (simp; omega)) _) | (with_reducible refine bel_tr ?_ (by assumption)))⟩
      case measure => simp [intOf]; omega
    · obtain rfl : j = n := by omega
      go_wp2
      go_ret
      exact ⟨rfl, hb⟩
/-- a slice that lies in one block of its own, from lo on and below hi -/
structure SLFa (w : World) (lo hi : Nat) (A : Option Addr) (l : List Fa) : Prop where
  top : hi ≤ w.heap.size
  at' : 0 < l.length → ∃ b off, A = some ⟨b, off, none⟩ ∧ lo ≤ b ∧ b < hi ∧ (∀ o, w.frozen? ⟨b, o, none⟩ = false) ∧ ∀ i, i < l.length → CMFa w b off (atFa l i) i
theorem SLFa.of {w : World} {lo : Nat} {A : Option Addr} {l : List Fa} (r : RowFa w w.heap.size A l) (o : OwnFa w lo A l.length) : SLFa w lo w.heap.size A l :=
  ⟨Nat.le_refl _, fun hl => by
    obtain ⟨b, off, e, hb, hc⟩ := r hl
    obtain ⟨b', off', e', hb', hf⟩ := o hl
    rw [e] at e'
    simp only [Option.some.injEq, Addr.mk.injEq, and_true] at e'
    exact ⟨b, off, e, by omega, hb, fun o => by rw [e'.1]; exact hf o, hc⟩⟩
theorem SLFa.row {w : World} {lo hi : Nat} {A : Option Addr} {l : List Fa} (h : SLFa w lo hi A l) : RowFa w w.heap.size A l := fun hl => by
  obtain ⟨b, off, e, _, hb, _, hc⟩ := h.at' hl
  exact ⟨b, off, e, Nat.lt_of_lt_of_le hb h.top, hc⟩
theorem SLFa.own {w : World} {lo hi : Nat} {A : Option Addr} {l : List Fa} (h : SLFa w lo hi A l) : OwnFa w lo A l.length := fun hl => by
  obtain ⟨b, off, e, hb, _, hf, _⟩ := h.at' hl
  exact ⟨b, off, e, hb, hf⟩
theorem SLFa.place {w : World} {lo hi : Nat} {A : Option Addr} {l : List Fa} (h : SLFa w lo hi A l) {a : Addr} (hl : 0 < l.length) (ha : A = some a) : lo ≤ a.block ∧ a.block < hi := by
  obtain ⟨b, off, e, h1, h2, _⟩ := h.at' hl
  rw [e] at ha; cases ha; exact ⟨h1, h2⟩
theorem SLFa.keep {w w' : World} {lo hi : Nat} {A : Option Addr} {l : List Fa} (h : SLFa w lo hi A l) (hs : w.heap.size ≤ w'.heap.size) (hb : ∀ i, i < w.heap.size → lo ≤ i → i < hi → w'.heap[i]? = w.heap[i]?) : SLFa w' lo hi A l :=
  ⟨Nat.le_trans h.top hs, fun hl => by
    obtain ⟨b, off, e, h1, h2, hf, hc⟩ := h.at' hl
    have hbb := hb b (Nat.lt_of_lt_of_le h2 h.top) h1 h2
    refine ⟨b, off, e, h1, h2, fun o => by rw [World.frozen?_of_block (w := w) (a := ⟨b, o, none⟩) hbb]; exact hf o, fun i hi => ?_⟩
    have hk : ∀ o, w'.cell? ⟨b, o, none⟩ = w.cell? ⟨b, o, none⟩ := fun o => World.cell?_of_block (w := w) (a := ⟨b, o, none⟩) hbb
    unfold CMFa
    simp only [hk]
    exact hc i hi⟩
theorem SLFa.below {w w' : World} {lo hi : Nat} {A : Option Addr} {l : List Fa} (h : SLFa w lo hi A l) (hb : Below w.heap.size w w') : SLFa w' lo hi A l := h.keep hb.size fun i hi _ _ => hb.block i hi
theorem SLFa.trn {w w' : World} {lo hi n : Nat} {A B : Option Addr} {l : List Fa} (h : SLFa w lo hi A l) (t : Trn B n w w') (hne : ∀ a : Addr, 0 < n → B = some a → a.block < lo ∨ hi ≤ a.block) : SLFa w' lo hi A l :=
  h.keep (by rw [t.size]; exact Nat.le_refl _) fun i hi h1 h2 => t.block i hi fun hn a ha => by have := hne a hn ha; omega
theorem RowFa.trn {w w' : World} {B n : Nat} {A A' : Option Addr} {l : List Fa} (h : RowFa w B A l) (t : Trn A' n w w') (hne : ∀ a : Addr, 0 < n → A' = some a → B ≤ a.block) (hB : B ≤ w.heap.size) : RowFa w' B A l :=
  h.keep (Nat.le_refl _) fun b o hb => World.cell?_of_block (w := w) (a := ⟨b, o, none⟩) (t.block b (by omega) fun hn a ha => by have := hne a hn ha; omega)
theorem RowFa.bel {w w' : World} {B : Nat} {A : Option Addr} {l : List Fa} (h : RowFa w B A l) (hb : Below w.heap.size w w') (hB : B ≤ w.heap.size) : RowFa w' B A l :=
  h.keep (Nat.le_refl _) fun b o hh => hb.cell (p := ⟨b, o, none⟩) (by simp only; omega)
theorem RowFa.up {w : World} {B B' : Nat} {A : Option Addr} {l : List Fa} (h : RowFa w B A l) (hB : B ≤ B') : RowFa w B' A l := h.keep hB fun _ _ _ => rfl
end
end Go.Proofs.Ytpjakgnghpapmaa
