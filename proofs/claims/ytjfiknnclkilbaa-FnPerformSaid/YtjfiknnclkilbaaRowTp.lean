/- Rows of Tempo: how a slice of them reads; the functions that copy, compare and count them. -/
import Derived.Test.YtjfiknnclkilbaaBel
import Derived.Test.YtjfiknnclkilbaaWin
import Derived.Laws.MakeOwn
import Derived.Deep.RegionHeld3
namespace Go.Proofs.Ytjfiknnclkilbaa
open Go.RowKit

structure Tp where
  tick : Int
  micros : Int

def atTp (l : List Tp) (i : Nat) : Tp := l.getD i ⟨0, 0⟩
/-- the slice at address A reads as the list l, all below block B -/
def RowTp (w : World) (B : Nat) (A : Option Addr) (l : List Tp) : Prop :=
  0 < l.length → ∃ b off, A = some ⟨b, off, none⟩ ∧ b < B ∧ ∀ i, i < l.length → w.cell? ⟨b, off + i * 2, none⟩ = some (.int .i64 (atTp l i).tick) ∧ w.cell? ⟨b, off + i * 2 + 1, none⟩ = some (.int .i64 (atTp l i).micros)
/-- the first n places of the slice may be written, and lie from block lo on -/
def OwnTp (w : World) (lo : Nat) (A : Option Addr) (n : Nat) : Prop :=
  0 < n → ∃ b off, A = some ⟨b, off, none⟩ ∧ lo ≤ b ∧ ∀ o, w.frozen? ⟨b, o, none⟩ = false
theorem RowTp.keep {w w' : World} {B B' : Nat} {A : Option Addr} {l : List Tp} (h : RowTp w B A l) (hB : B ≤ B') (hk : ∀ b o, b < B → w'.cell? ⟨b, o, none⟩ = w.cell? ⟨b, o, none⟩) : RowTp w' B' A l := by
  intro hl
  obtain ⟨b, off, e, hb, hc⟩ := h hl
  refine ⟨b, off, e, by omega, fun i hi => ?_⟩
  simp only [hk _ _ hb]
  exact hc i hi
theorem RowTp.below {w w' : World} {A : Option Addr} {l : List Tp} (h : RowTp w w.heap.size A l) (hb : Below w.heap.size w w') : RowTp w' w'.heap.size A l :=
  h.keep hb.size fun b o hh => hb.cell (p := ⟨b, o, none⟩) hh
theorem OwnTp.below {w w' : World} {A : Option Addr} {lo : Nat} {l : List Tp} (h : OwnTp w lo A l.length) (hr : RowTp w w.heap.size A l) (hb : Below w.heap.size w w') : OwnTp w' lo A l.length := by
  intro hl
  obtain ⟨b, off, e, h1, h2⟩ := h hl
  obtain ⟨b', off', e', h3, _⟩ := hr hl
  rw [e] at e'
  simp only [Option.some.injEq, Addr.mk.injEq, and_true] at e'
  exact ⟨b, off, e, h1, fun o => by rw [hb.frozen (p := ⟨b, o, none⟩) (by simp only; omega)]; exact h2 o⟩

set_option maxHeartbeats 400000 in
theorem eqTp_same (t : Tp) (w : World) :
    Calls Try.prog 37 #[.agg #[.int .i64 t.tick, .int .i64 t.micros], .agg #[.int .i64 t.tick, .int .i64 t.micros]] w fun e w' => e = .returned (.bool true) ∧ Below w.heap.size w w' := by
  obtain ⟨tick, micros⟩ := t
  go_enter Try.func37, Try.ntmps37
  go_wp2
  go_ret
  exact ⟨rfl, by repeat (first | (with_reducible assumption) | (exact bel_undr (by with_reducible assumption)) | (with_reducible exact bel_refl _) | (with_reducible refine bel_dr ?_) | (with_reducible refine bel_drN ?_ _) | (with_reducible refine bel_al ?_ _) | (refine bel_set ?_ (by first | (simp; done) | (simp; exact Below.size (by assumption)) | (simp; omega)) _) | (with_reducible refine bel_tr ?_ (by assumption)))⟩
set_option maxHeartbeats 1000000 in
theorem eqSTp_same (A A' : Option Addr) (n c c' : Nat) (l : List Tp) (w : World) (hn : l.length = n) (hm : n ≤ 9223372036854775807) (h : RowTp w w.heap.size A l) (h' : RowTp w w.heap.size A' l) :
    Calls Try.prog 16 #[.slice A n c, .slice A' n c'] w fun e w' => e = .returned (.bool true) ∧ Below w.heap.size w w' := by
  subst hn
  go_enter Try.func16, Try.ntmps16
  go_wp2
  go_loopw [5] (fun i wr => ∃ k : Nat, k ≤ l.length ∧ i = .int .i64 k ∧ Below w.heap.size w wr) (fun i _ => l.length - (intOf i).toNat)
  case atStart => exact ⟨0, Nat.zero_le _, rfl, bel_refl _⟩
  case round =>
    obtain ⟨k, hk, rfl, hb⟩ := hrel
    by_cases hlt : k < l.length
    · obtain ⟨b, off, rfl, hlb, hc⟩ := (h.below hb) (by omega)
      obtain ⟨b', off', rfl, hlb', hc'⟩ := (h'.below hb) (by omega)
      have hc := hc k hlt
      have hc' := hc' k hlt
      generalize atTp l k = t at hc hc'
      obtain ⟨xtick, xmicros⟩ := t
      obtain ⟨p0, p1⟩ := hc
      obtain ⟨q0, q1⟩ := hc'
      simp only at p0 q0 p1 q1
      clear h h'
      have hki : (k : Int) < (l.length : Int) := by omega
      have hk0 : (0 : Int) ≤ (k : Int) := by omega
      go_wp2
      go_region_held3 (fun W => W.cell? ⟨b, off + k * 2, none⟩ = some (.int .i64 xtick) ∧ W.cell? ⟨b, off + k * 2 + 1, none⟩ = some (.int .i64 xmicros) ∧ W.cell? ⟨b', off' + k * 2, none⟩ = some (.int .i64 xtick) ∧ W.cell? ⟨b', off' + k * 2 + 1, none⟩ = some (.int .i64 xmicros) ∧ Below w.heap.size w W) (((try go_split_ands); (repeat' (with_reducible refine And.intro ?_ ?_)) <;> (first | (with_reducible assumption) | ((repeat (first | (with_reducible assumption) | (exact keep_undr (by with_reducible assumption)) | (simp [go_sem]; done) | (with_reducible refine keep_dr ?_) | (with_reducible refine keep_drN ?_ _) | (with_reducible refine keep_al ?_ _) | (refine keep_set ?_ (by first | (simp; done) | (simp; omega) | omega)) | (with_reducible refine keep_tr ?_ (by assumption)))); done) | ((repeat (first | (with_reducible assumption) | (exact bel_undr (by with_reducible assumption)) | (with_reducible exact bel_refl _) | (with_reducible refine bel_dr ?_) | (with_reducible refine bel_drN ?_ _) | (with_reducible refine bel_al ?_ _) | (refine bel_set ?_ (by first | (simp; done) | (simp; exact Below.size (by assumption)) | (simp; omega)) _) | (with_reducible refine bel_tr ?_ (by assumption)))); done) | (simp [go_sem]; done) | go_keep))) (first | (go_at_call 37; refine (eqTp_same ⟨xtick, xmicros⟩ _).mono ?_; rintro e1 w1 ⟨rfl, hb1⟩; obtain ⟨bc1, bf1, sl1, se1, sk1⟩ := bfacts hb1; have hz1 := hb1.size; (try simp at hz1)))
      go_wp2
      go_roundw
      case rel => exact ⟨k + 1, by omega, by go_num, by repeat (first | (with_reducible assumption) | (exact bel_undr (by with_reducible assumption)) | (with_reducible exact bel_refl _) | (with_reducible refine bel_dr ?_) | (with_reducible refine bel_drN ?_ _) | (with_reducible refine bel_al ?_ _) | (refine bel_set ?_ (by first | (simp; done) | (simp; exact Below.size (by assumption)) | (simp; omega)) _) | (with_reducible refine bel_tr ?_ (by assumption)))⟩
      case measure => simp [intOf]; omega
    · go_wp2
      go_ret
      exact ⟨rfl, hb⟩

theorem stepTp (wr : World) (g k : Nat) (l : List Tp) (t : Tp) (ht : atTp l k = t) (hlt : k < l.length) (hd : ∀ j, j < k → wr.cell? ⟨g, 0 + j * 2, none⟩ = some (.int .i64 (atTp l j).tick) ∧ wr.cell? ⟨g, 0 + j * 2 + 1, none⟩ = some (.int .i64 (atTp l j).micros)) (hs : ∀ o, o < l.length * 2 → (wr.cell? ⟨g, o, none⟩).isSome = true) (hf : ∀ o, wr.frozen? ⟨g, o, none⟩ = false) :
    (∀ j, j < k + 1 → (((wr.setCell ⟨g, k * 2, none⟩ (.int .i64 t.tick)).setCell ⟨g, k * 2 + 1, none⟩ (.int .i64 t.micros))).cell? ⟨g, 0 + j * 2, none⟩ = some (.int .i64 (atTp l j).tick) ∧ (((wr.setCell ⟨g, k * 2, none⟩ (.int .i64 t.tick)).setCell ⟨g, k * 2 + 1, none⟩ (.int .i64 t.micros))).cell? ⟨g, 0 + j * 2 + 1, none⟩ = some (.int .i64 (atTp l j).micros)) ∧ (∀ o, o < l.length * 2 → (((wr.setCell ⟨g, k * 2, none⟩ (.int .i64 t.tick)).setCell ⟨g, k * 2 + 1, none⟩ (.int .i64 t.micros)).cell? ⟨g, o, none⟩).isSome = true) ∧ (∀ o, ((wr.setCell ⟨g, k * 2, none⟩ (.int .i64 t.tick)).setCell ⟨g, k * 2 + 1, none⟩ (.int .i64 t.micros)).frozen? ⟨g, o, none⟩ = false) := by
  have ne : ∀ a b : Nat, a ≠ b → (⟨g, a, none⟩ : Addr) ≠ ⟨g, b, none⟩ := fun a b h e => h (congrArg Addr.off e)
  refine ⟨fun j hj => ?_, fun o ho => ?_, fun o => ?_⟩
  · simp only [Nat.zero_add] at hd ⊢
    by_cases hjk : j < k
    · obtain ⟨d0, d1⟩ := hd j hjk
      exact ⟨keep_off (keep_off (d0) (ne _ _ (by omega))) (ne _ _ (by omega)), keep_off (keep_off (d1) (ne _ _ (by omega))) (ne _ _ (by omega))⟩
    · obtain rfl : j = k := by omega
      rw [ht]
      exact ⟨keep_off (set_same (hs _ (by omega))) (ne _ _ (by omega)), set_same (some_set (hs _ (by omega)) (ne _ _ (by omega)))⟩
  · exact some_setx (some_setx (hs o ho))
  · exact fz_set (fz_set (hf o))
set_option maxHeartbeats 400000 in
theorem toTp_eq (t : Tp) (w : World) :
    Calls Try.prog 35 #[.agg #[.int .i64 t.tick, .int .i64 t.micros]] w fun e w' => e = .returned (.agg #[.int .i64 t.tick, .int .i64 t.micros]) ∧ (((w.alloc (.cells #[.int .i64 t.tick, .int .i64 t.micros] 59)).alloc (.cells #[.int .i64 t.tick, .int .i64 t.micros] 57)).alloc (.cells #[.int .i64 t.tick, .int .i64 t.micros] 57)) = w' := by
  obtain ⟨tick, micros⟩ := t
  go_enter Try.func35, Try.ntmps35
  go_wp2
  exact bodyPost_ret (v := .agg #[.int .i64 tick, .int .i64 micros]) (by simp [results, Try.results35, go_sem]) rfl ⟨rfl, rfl⟩
theorem infoTp : (Try.prog.info? 57).map (fun i => (i.zero, i.size, i.bytes)) = some (some (.agg #[.int .i64 0, .int .i64 0]), 2, 16) := by kernel_rfl
def ToTp (w : World) (l : List Tp) (e : Ending) (w' : World) : Prop :=
  ∃ A, e = .returned (.slice A l.length l.length) ∧ RowTp w' w'.heap.size A l ∧ OwnTp w' w.heap.size A l.length ∧ Below w.heap.size w w'
theorem run_makeTp (n : Nat) (h : n ≤ 2000000) (w : World) :
    (Instr.makeSlice 25 (.int .i64 (n : Int)) (.int .i64 (n : Int))).run Try.prog w = .ok (.slice (some ⟨w.heap.size, 0, none⟩) n n) (w.alloc (.cells (madeCells #[.int .i64 0, .int .i64 0] (n * 2)) 57)) := by
  obtain ⟨i, hi, hz, hs, hb⟩ := info_parts infoTp
  have hr := run_make (P := Try.prog) w 25 57 i _ Try.underlying25 hi hz .i64 .i64 n n (by omega) (by omega) (by rw [hb]; omega) (by omega)
  simp only [Int.toNat_natCast, hs] at hr
  exact hr
set_option maxHeartbeats 1000000 in
theorem toSTp_any (A : Option Addr) (n c : Nat) (l : List Tp) (w : World) (hn : l.length = n) (hm : n ≤ 2000000) (h : RowTp w w.heap.size A l) :
    Calls Try.prog 14 #[.slice A n c] w (ToTp w l) := by
  subst hn
  have hmk := run_makeTp l.length hm
  go_enter Try.func14, Try.ntmps14
  go_wp2
  go_loopw [4] (fun i wr => ∃ k : Nat, k ≤ l.length ∧ i = .int .i64 k ∧ Below w.heap.size w wr ∧ w.heap.size < wr.heap.size ∧ (∀ j, j < k → wr.cell? ⟨w.heap.size, 0 + j * 2, none⟩ = some (.int .i64 (atTp l j).tick) ∧ wr.cell? ⟨w.heap.size, 0 + j * 2 + 1, none⟩ = some (.int .i64 (atTp l j).micros)) ∧ (∀ o, o < l.length * 2 → (wr.cell? ⟨w.heap.size, o, none⟩).isSome = true) ∧ (∀ o, wr.frozen? ⟨w.heap.size, o, none⟩ = false)) (fun i _ => l.length - (intOf i).toNat)
  case atStart => exact ⟨0, Nat.zero_le _, rfl, bel_al (bel_refl _) _, by simp, fun j hj => by omega, fun o ho => by rw [World.cell?_alloc_new]; simp [size_madeCells]; omega, fun o => by simp⟩
  case round =>
    obtain ⟨k, hk, rfl, hb, hgs, hd, hs, hf⟩ := hrel
    by_cases hlt : k < l.length
    · obtain ⟨b, off, rfl, hlb, hc⟩ := h (by omega)
      have hc := hc k hlt
      simp only [← (show ∀ o, wr.cell? ⟨b, o, none⟩ = w.cell? ⟨b, o, none⟩ from fun o => hb.cell (p := ⟨b, o, none⟩) hlb)] at hc
      generalize hg : atTp l k = t at hc
      have HG := Lib.hid hg
      clear hg
      obtain ⟨p0, p1⟩ := hc
      obtain ⟨o0, so0⟩ := Option.isSome_iff_exists.1 (hs (k * 2) (by omega))
      obtain ⟨o1, so1⟩ := Option.isSome_iff_exists.1 (hs (k * 2 + 1) (by omega))
      have hbg : b ≠ w.heap.size := by omega
      have hki : (k : Int) < (l.length : Int) := by omega
      have hgs1 : w.heap.size ≤ wr.heap.size := by omega
      have hgs2 : w.heap.size < wr.heap.size + 1 := by omega
      have hgs3 : w.heap.size < wr.heap.size + 1 + 1 := by omega
      have HD := Lib.hid hd
      have HS := Lib.hid hs
      clear hd hs h
      go_wp2_with (go_at_call 35; refine (toTp_eq t _).mono ?_; rintro e w1 ⟨rfl, rfl⟩)
      go_roundw
      case rel =>
        obtain ⟨s1, s2, s3⟩ := stepTp wr w.heap.size k l t (HG.out) hlt HD.out HS.out hf
        refine ⟨k + 1, by omega, by go_num, by repeat (first | (with_reducible assumption) | (exact bel_undr (by with_reducible assumption)) | (with_reducible exact bel_refl _) | (with_reducible refine bel_dr ?_) | (with_reducible refine bel_drN ?_ _) | (with_reducible refine bel_al ?_ _) | (refine bel_set ?_ (by first | (simp; done) | (simp; exact Below.size (by assumption)) | (simp; omega)) _) | (with_reducible refine bel_tr ?_ (by assumption))), by simp; omega, fun j hj => ?_, fun o ho => some_al (some_al (some_al (s2 o ho) _) _) _, fun o => fz_al (fz_al (fz_al (s3 o) (by (try simp) <;> omega) _) (by (try simp) <;> omega) _) (by (try simp) <;> omega) _⟩
        obtain ⟨d0, d1⟩ := s1 j hj
        exact ⟨keep_al (keep_al (keep_al d0 _) _) _, keep_al (keep_al (keep_al d1 _) _) _⟩
      case measure => simp [intOf]; omega
    · obtain rfl : k = l.length := by omega
      go_wp2
      go_ret
      refine ⟨_, rfl, fun hl => ⟨_, _, rfl, hgs, hd⟩, fun _ => ⟨_, _, rfl, Nat.le_refl _, hf⟩, hb⟩

end Go.Proofs.Ytjfiknnclkilbaa
