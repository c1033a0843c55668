/- Rows of Event: how a slice of them reads; the functions that copy, compare and count them. -/
import Derived.Test.YtjfiknnclkilbaaBel
import Derived.Test.YtjfiknnclkilbaaWin
import Derived.Laws.MakeOwn
import Derived.Deep.RegionHeld3
namespace Go.Proofs.Ytjfiknnclkilbaa
open Go.RowKit

structure Ev where
  on : Int
  off : Int
  key : Int
  loud : Int

def atEv (l : List Ev) (i : Nat) : Ev := l.getD i ⟨0, 0, 0, 0⟩
/-- the slice at address A reads as the list l, all below block B -/
def RowEv (w : World) (B : Nat) (A : Option Addr) (l : List Ev) : Prop :=
  0 < l.length → ∃ b off, A = some ⟨b, off, none⟩ ∧ b < B ∧ ∀ i, i < l.length → w.cell? ⟨b, off + i * 4, none⟩ = some (.int .i64 (atEv l i).on) ∧ w.cell? ⟨b, off + i * 4 + 1, none⟩ = some (.int .i64 (atEv l i).off) ∧ w.cell? ⟨b, off + i * 4 + 2, none⟩ = some (.int .i64 (atEv l i).key) ∧ w.cell? ⟨b, off + i * 4 + 3, none⟩ = some (.int .i64 (atEv l i).loud)
/-- the first n places of the slice may be written, and lie from block lo on -/
def OwnEv (w : World) (lo : Nat) (A : Option Addr) (n : Nat) : Prop :=
  0 < n → ∃ b off, A = some ⟨b, off, none⟩ ∧ lo ≤ b ∧ ∀ o, w.frozen? ⟨b, o, none⟩ = false
theorem RowEv.keep {w w' : World} {B B' : Nat} {A : Option Addr} {l : List Ev} (h : RowEv w B A l) (hB : B ≤ B') (hk : ∀ b o, b < B → w'.cell? ⟨b, o, none⟩ = w.cell? ⟨b, o, none⟩) : RowEv w' B' A l := by
  intro hl
  obtain ⟨b, off, e, hb, hc⟩ := h hl
  refine ⟨b, off, e, by omega, fun i hi => ?_⟩
  simp only [hk _ _ hb]
  exact hc i hi
theorem RowEv.below {w w' : World} {A : Option Addr} {l : List Ev} (h : RowEv w w.heap.size A l) (hb : Below w.heap.size w w') : RowEv w' w'.heap.size A l :=
  h.keep hb.size fun b o hh => hb.cell (p := ⟨b, o, none⟩) hh
theorem OwnEv.below {w w' : World} {A : Option Addr} {lo : Nat} {l : List Ev} (h : OwnEv w lo A l.length) (hr : RowEv w w.heap.size A l) (hb : Below w.heap.size w w') : OwnEv w' lo A l.length := by
  intro hl
  obtain ⟨b, off, e, h1, h2⟩ := h hl
  obtain ⟨b', off', e', h3, _⟩ := hr hl
  rw [e] at e'
  simp only [Option.some.injEq, Addr.mk.injEq, and_true] at e'
  exact ⟨b, off, e, h1, fun o => by rw [hb.frozen (p := ⟨b, o, none⟩) (by simp only; omega)]; exact h2 o⟩

set_option maxHeartbeats 400000 in
theorem eqEv_same (t : Ev) (w : World) :
    Calls Try.prog 39 #[.agg #[.int .i64 t.on, .int .i64 t.off, .int .i64 t.key, .int .i64 t.loud], .agg #[.int .i64 t.on, .int .i64 t.off, .int .i64 t.key, .int .i64 t.loud]] w fun e w' => e = .returned (.bool true) ∧ Below w.heap.size w w' := by
  obtain ⟨on, off, key, loud⟩ := t
  go_enter Try.func39, Try.ntmps39
  go_wp2
  go_ret
  exact ⟨rfl, by repeat (first | (with_reducible assumption) | (exact bel_undr (by with_reducible assumption)) | (with_reducible exact bel_refl _) | (with_reducible refine bel_dr ?_) | (with_reducible refine bel_drN ?_ _) | (with_reducible refine bel_al ?_ _) | (refine bel_set ?_ (by first | (simp; done) | (simp; exact Below.size (by assumption)) | (simp; omega)) _) | (with_reducible refine bel_tr ?_ (by assumption)))⟩
set_option maxHeartbeats 1000000 in
theorem eqSEv_same (A A' : Option Addr) (n c c' : Nat) (l : List Ev) (w : World) (hn : l.length = n) (hm : n ≤ 9223372036854775807) (h : RowEv w w.heap.size A l) (h' : RowEv w w.heap.size A' l) :
    Calls Try.prog 21 #[.slice A n c, .slice A' n c'] w fun e w' => e = .returned (.bool true) ∧ Below w.heap.size w w' := by
  subst hn
  go_enter Try.func21, Try.ntmps21
  go_wp2
  go_loopw [5] (fun i wr => ∃ k : Nat, k ≤ l.length ∧ i = .int .i64 k ∧ Below w.heap.size w wr) (fun i _ => l.length - (intOf i).toNat)
  case atStart => exact ⟨0, Nat.zero_le _, rfl, bel_refl _⟩
  case round =>
    obtain ⟨k, hk, rfl, hb⟩ := hrel
    by_cases hlt : k < l.length
    · obtain ⟨b, off, rfl, hlb, hc⟩ := (h.below hb) (by omega)
      obtain ⟨b', off', rfl, hlb', hc'⟩ := (h'.below hb) (by omega)
      have hc := hc k hlt
      have hc' := hc' k hlt
      generalize atEv l k = t at hc hc'
      obtain ⟨xon, xoff, xkey, xloud⟩ := t
      obtain ⟨p0, p1, p2, p3⟩ := hc
      obtain ⟨q0, q1, q2, q3⟩ := hc'
      simp only at p0 q0 p1 q1 p2 q2 p3 q3
      clear h h'
      have hki : (k : Int) < (l.length : Int) := by omega
      have hk0 : (0 : Int) ≤ (k : Int) := by omega
      go_wp2
      go_region_held3 (fun W => W.cell? ⟨b, off + k * 4, none⟩ = some (.int .i64 xon) ∧ W.cell? ⟨b, off + k * 4 + 1, none⟩ = some (.int .i64 xoff) ∧ W.cell? ⟨b, off + k * 4 + 2, none⟩ = some (.int .i64 xkey) ∧ W.cell? ⟨b, off + k * 4 + 3, none⟩ = some (.int .i64 xloud) ∧ W.cell? ⟨b', off' + k * 4, none⟩ = some (.int .i64 xon) ∧ W.cell? ⟨b', off' + k * 4 + 1, none⟩ = some (.int .i64 xoff) ∧ W.cell? ⟨b', off' + k * 4 + 2, none⟩ = some (.int .i64 xkey) ∧ W.cell? ⟨b', off' + k * 4 + 3, none⟩ = some (.int .i64 xloud) ∧ Below w.heap.size w W) (((try go_split_ands); (repeat' (with_reducible refine And.intro ?_ ?_)) <;> (first | (with_reducible assumption) | ((repeat (first | (with_reducible assumption) | (exact keep_undr (by with_reducible assumption)) | (simp [go_sem]; done) | (with_reducible refine keep_dr ?_) | (with_reducible refine keep_drN ?_ _) | (with_reducible refine keep_al ?_ _) | (refine keep_set ?_ (by first | (simp; done) | (simp; omega) | omega)) | (with_reducible refine keep_tr ?_ (by assumption)))); done) | ((repeat (first | (with_reducible assumption) | (exact bel_undr (by with_reducible assumption)) | (with_reducible exact bel_refl _) | (with_reducible refine bel_dr ?_) | (with_reducible refine bel_drN ?_ _) | (with_reducible refine bel_al ?_ _) | (refine bel_set ?_ (by first | (simp; done) | (simp; exact Below.size (by assumption)) | (simp; omega)) _) | (with_reducible refine bel_tr ?_ (by assumption)))); done) | (simp [go_sem]; done) | go_keep))) (first | (go_at_call 39; refine (eqEv_same ⟨xon, xoff, xkey, xloud⟩ _).mono ?_; rintro e1 w1 ⟨rfl, hb1⟩; obtain ⟨bc1, bf1, sl1, se1, sk1⟩ := bfacts hb1; have hz1 := hb1.size; (try simp at hz1)))
      go_wp2
      go_roundw
      case rel => exact ⟨k + 1, by omega, by go_num, by repeat (first | (with_reducible assumption) | (exact bel_undr (by with_reducible assumption)) | (with_reducible exact bel_refl _) | (with_reducible refine bel_dr ?_) | (with_reducible refine bel_drN ?_ _) | (with_reducible refine bel_al ?_ _) | (refine bel_set ?_ (by first | (simp; done) | (simp; exact Below.size (by assumption)) | (simp; omega)) _) | (with_reducible refine bel_tr ?_ (by assumption)))⟩
      case measure => simp [intOf]; omega
    · go_wp2
      go_ret
      exact ⟨rfl, hb⟩

theorem stepEv (wr : World) (g k : Nat) (l : List Ev) (t : Ev) (ht : atEv l k = t) (hlt : k < l.length) (hd : ∀ j, j < k → wr.cell? ⟨g, 0 + j * 4, none⟩ = some (.int .i64 (atEv l j).on) ∧ wr.cell? ⟨g, 0 + j * 4 + 1, none⟩ = some (.int .i64 (atEv l j).off) ∧ wr.cell? ⟨g, 0 + j * 4 + 2, none⟩ = some (.int .i64 (atEv l j).key) ∧ wr.cell? ⟨g, 0 + j * 4 + 3, none⟩ = some (.int .i64 (atEv l j).loud)) (hs : ∀ o, o < l.length * 4 → (wr.cell? ⟨g, o, none⟩).isSome = true) (hf : ∀ o, wr.frozen? ⟨g, o, none⟩ = false) :
    (∀ j, j < k + 1 → (((((wr.setCell ⟨g, k * 4, none⟩ (.int .i64 t.on)).setCell ⟨g, k * 4 + 1, none⟩ (.int .i64 t.off)).setCell ⟨g, k * 4 + 2, none⟩ (.int .i64 t.key)).setCell ⟨g, k * 4 + 3, none⟩ (.int .i64 t.loud))).cell? ⟨g, 0 + j * 4, none⟩ = some (.int .i64 (atEv l j).on) ∧ (((((wr.setCell ⟨g, k * 4, none⟩ (.int .i64 t.on)).setCell ⟨g, k * 4 + 1, none⟩ (.int .i64 t.off)).setCell ⟨g, k * 4 + 2, none⟩ (.int .i64 t.key)).setCell ⟨g, k * 4 + 3, none⟩ (.int .i64 t.loud))).cell? ⟨g, 0 + j * 4 + 1, none⟩ = some (.int .i64 (atEv l j).off) ∧ (((((wr.setCell ⟨g, k * 4, none⟩ (.int .i64 t.on)).setCell ⟨g, k * 4 + 1, none⟩ (.int .i64 t.off)).setCell ⟨g, k * 4 + 2, none⟩ (.int .i64 t.key)).setCell ⟨g, k * 4 + 3, none⟩ (.int .i64 t.loud))).cell? ⟨g, 0 + j * 4 + 2, none⟩ = some (.int .i64 (atEv l j).key) ∧ (((((wr.setCell ⟨g, k * 4, none⟩ (.int .i64 t.on)).setCell ⟨g, k * 4 + 1, none⟩ (.int .i64 t.off)).setCell ⟨g, k * 4 + 2, none⟩ (.int .i64 t.key)).setCell ⟨g, k * 4 + 3, none⟩ (.int .i64 t.loud))).cell? ⟨g, 0 + j * 4 + 3, none⟩ = some (.int .i64 (atEv l j).loud)) ∧ (∀ o, o < l.length * 4 → (((((wr.setCell ⟨g, k * 4, none⟩ (.int .i64 t.on)).setCell ⟨g, k * 4 + 1, none⟩ (.int .i64 t.off)).setCell ⟨g, k * 4 + 2, none⟩ (.int .i64 t.key)).setCell ⟨g, k * 4 + 3, none⟩ (.int .i64 t.loud)).cell? ⟨g, o, none⟩).isSome = true) ∧ (∀ o, ((((wr.setCell ⟨g, k * 4, none⟩ (.int .i64 t.on)).setCell ⟨g, k * 4 + 1, none⟩ (.int .i64 t.off)).setCell ⟨g, k * 4 + 2, none⟩ (.int .i64 t.key)).setCell ⟨g, k * 4 + 3, none⟩ (.int .i64 t.loud)).frozen? ⟨g, o, none⟩ = false) := by
  have ne : ∀ a b : Nat, a ≠ b → (⟨g, a, none⟩ : Addr) ≠ ⟨g, b, none⟩ := fun a b h e => h (congrArg Addr.off e)
  refine ⟨fun j hj => ?_, fun o ho => ?_, fun o => ?_⟩
  · simp only [Nat.zero_add] at hd ⊢
    by_cases hjk : j < k
    · obtain ⟨d0, d1, d2, d3⟩ := hd j hjk
      exact ⟨keep_off (keep_off (keep_off (keep_off (d0) (ne _ _ (by omega))) (ne _ _ (by omega))) (ne _ _ (by omega))) (ne _ _ (by omega)), keep_off (keep_off (keep_off (keep_off (d1) (ne _ _ (by omega))) (ne _ _ (by omega))) (ne _ _ (by omega))) (ne _ _ (by omega)), keep_off (keep_off (keep_off (keep_off (d2) (ne _ _ (by omega))) (ne _ _ (by omega))) (ne _ _ (by omega))) (ne _ _ (by omega)), keep_off (keep_off (keep_off (keep_off (d3) (ne _ _ (by omega))) (ne _ _ (by omega))) (ne _ _ (by omega))) (ne _ _ (by omega))⟩
    · obtain rfl : j = k := by omega
      rw [ht]
      exact ⟨keep_off (keep_off (keep_off (set_same (hs _ (by omega))) (ne _ _ (by omega))) (ne _ _ (by omega))) (ne _ _ (by omega)), keep_off (keep_off (set_same (some_set (hs _ (by omega)) (ne _ _ (by omega)))) (ne _ _ (by omega))) (ne _ _ (by omega)), keep_off (set_same (some_set (some_set (hs _ (by omega)) (ne _ _ (by omega))) (ne _ _ (by omega)))) (ne _ _ (by omega)), set_same (some_set (some_set (some_set (hs _ (by omega)) (ne _ _ (by omega))) (ne _ _ (by omega))) (ne _ _ (by omega)))⟩
  · exact some_setx (some_setx (some_setx (some_setx (hs o ho))))
  · exact fz_set (fz_set (fz_set (fz_set (hf o))))
set_option maxHeartbeats 400000 in
theorem toEv_eq (t : Ev) (w : World) :
    Calls Try.prog 38 #[.agg #[.int .i64 t.on, .int .i64 t.off, .int .i64 t.key, .int .i64 t.loud]] w fun e w' => e = .returned (.agg #[.int .i64 t.on, .int .i64 t.off, .int .i64 t.key, .int .i64 t.loud]) ∧ (((w.alloc (.cells #[.int .i64 t.on, .int .i64 t.off, .int .i64 t.key, .int .i64 t.loud] 62)).alloc (.cells #[.int .i64 t.on, .int .i64 t.off, .int .i64 t.key, .int .i64 t.loud] 46)).alloc (.cells #[.int .i64 t.on, .int .i64 t.off, .int .i64 t.key, .int .i64 t.loud] 46)) = w' := by
  obtain ⟨on, off, key, loud⟩ := t
  go_enter Try.func38, Try.ntmps38
  go_wp2
  exact bodyPost_ret (v := .agg #[.int .i64 on, .int .i64 off, .int .i64 key, .int .i64 loud]) (by simp [results, Try.results38, go_sem]) rfl ⟨rfl, rfl⟩
theorem infoEv : (Try.prog.info? 46).map (fun i => (i.zero, i.size, i.bytes)) = some (some (.agg #[.int .i64 0, .int .i64 0, .int .i64 0, .int .i64 0]), 4, 32) := by kernel_rfl
def ToEv (w : World) (l : List Ev) (e : Ending) (w' : World) : Prop :=
  ∃ A, e = .returned (.slice A l.length l.length) ∧ RowEv w' w'.heap.size A l ∧ OwnEv w' w.heap.size A l.length ∧ Below w.heap.size w w'
theorem run_makeEv (n : Nat) (h : n ≤ 2000000) (w : World) :
    (Instr.makeSlice 32 (.int .i64 (n : Int)) (.int .i64 (n : Int))).run Try.prog w = .ok (.slice (some ⟨w.heap.size, 0, none⟩) n n) (w.alloc (.cells (madeCells #[.int .i64 0, .int .i64 0, .int .i64 0, .int .i64 0] (n * 4)) 46)) := by
  obtain ⟨i, hi, hz, hs, hb⟩ := info_parts infoEv
  have hr := run_make (P := Try.prog) w 32 46 i _ Try.underlying32 hi hz .i64 .i64 n n (by omega) (by omega) (by rw [hb]; omega) (by omega)
  simp only [Int.toNat_natCast, hs] at hr
  exact hr
set_option maxHeartbeats 1000000 in
theorem toSEv_any (A : Option Addr) (n c : Nat) (l : List Ev) (w : World) (hn : l.length = n) (hm : n ≤ 2000000) (h : RowEv w w.heap.size A l) :
    Calls Try.prog 19 #[.slice A n c] w (ToEv w l) := by
  subst hn
  have hmk := run_makeEv l.length hm
  go_enter Try.func19, Try.ntmps19
  go_wp2
  go_loopw [4] (fun i wr => ∃ k : Nat, k ≤ l.length ∧ i = .int .i64 k ∧ Below w.heap.size w wr ∧ w.heap.size < wr.heap.size ∧ (∀ j, j < k → wr.cell? ⟨w.heap.size, 0 + j * 4, none⟩ = some (.int .i64 (atEv l j).on) ∧ wr.cell? ⟨w.heap.size, 0 + j * 4 + 1, none⟩ = some (.int .i64 (atEv l j).off) ∧ wr.cell? ⟨w.heap.size, 0 + j * 4 + 2, none⟩ = some (.int .i64 (atEv l j).key) ∧ wr.cell? ⟨w.heap.size, 0 + j * 4 + 3, none⟩ = some (.int .i64 (atEv l j).loud)) ∧ (∀ o, o < l.length * 4 → (wr.cell? ⟨w.heap.size, o, none⟩).isSome = true) ∧ (∀ o, wr.frozen? ⟨w.heap.size, o, none⟩ = false)) (fun i _ => l.length - (intOf i).toNat)
  case atStart => exact ⟨0, Nat.zero_le _, rfl, bel_al (bel_refl _) _, by simp, fun j hj => by omega, fun o ho => by rw [World.cell?_alloc_new]; simp [size_madeCells]; omega, fun o => by simp⟩
  case round =>
    obtain ⟨k, hk, rfl, hb, hgs, hd, hs, hf⟩ := hrel
    by_cases hlt : k < l.length
    · obtain ⟨b, off, rfl, hlb, hc⟩ := h (by omega)
      have hc := hc k hlt
      simp only [← (show ∀ o, wr.cell? ⟨b, o, none⟩ = w.cell? ⟨b, o, none⟩ from fun o => hb.cell (p := ⟨b, o, none⟩) hlb)] at hc
      generalize hg : atEv l k = t at hc
      have HG := Lib.hid hg
      clear hg
      obtain ⟨p0, p1, p2, p3⟩ := hc
      obtain ⟨o0, so0⟩ := Option.isSome_iff_exists.1 (hs (k * 4) (by omega))
      obtain ⟨o1, so1⟩ := Option.isSome_iff_exists.1 (hs (k * 4 + 1) (by omega))
      obtain ⟨o2, so2⟩ := Option.isSome_iff_exists.1 (hs (k * 4 + 2) (by omega))
      obtain ⟨o3, so3⟩ := Option.isSome_iff_exists.1 (hs (k * 4 + 3) (by omega))
      have hbg : b ≠ w.heap.size := by omega
      have hki : (k : Int) < (l.length : Int) := by omega
      have hgs1 : w.heap.size ≤ wr.heap.size := by omega
      have hgs2 : w.heap.size < wr.heap.size + 1 := by omega
      have hgs3 : w.heap.size < wr.heap.size + 1 + 1 := by omega
      have HD := Lib.hid hd
      have HS := Lib.hid hs
      clear hd hs h
      go_wp2_with (go_at_call 38; refine (toEv_eq t _).mono ?_; rintro e w1 ⟨rfl, rfl⟩)
      go_roundw
      case rel =>
        obtain ⟨s1, s2, s3⟩ := stepEv wr w.heap.size k l t (HG.out) hlt HD.out HS.out hf
        refine ⟨k + 1, by omega, by go_num, by repeat (first | (with_reducible assumption) | (exact bel_undr (by with_reducible assumption)) | (with_reducible exact bel_refl _) | (with_reducible refine bel_dr ?_) | (with_reducible refine bel_drN ?_ _) | (with_reducible refine bel_al ?_ _) | (refine bel_set ?_ (by first | (simp; done) | (simp; exact Below.size (by assumption)) | (simp; omega)) _) | (with_reducible refine bel_tr ?_ (by assumption))), by simp; omega, fun j hj => ?_, fun o ho => some_al (some_al (some_al (s2 o ho) _) _) _, fun o => fz_al (fz_al (fz_al (s3 o) (by (try simp) <;> omega) _) (by (try simp) <;> omega) _) (by (try simp) <;> omega) _⟩
        obtain ⟨d0, d1, d2, d3⟩ := s1 j hj
        exact ⟨keep_al (keep_al (keep_al d0 _) _) _, keep_al (keep_al (keep_al d1 _) _) _, keep_al (keep_al (keep_al d2 _) _) _, keep_al (keep_al (keep_al d3 _) _) _⟩
      case measure => simp [intOf]; omega
    · obtain rfl : k = l.length := by omega
      go_wp2
      go_ret
      refine ⟨_, rfl, fun hl => ⟨_, _, rfl, hgs, hd⟩, fun _ => ⟨_, _, rfl, Nat.le_refl _, hf⟩, hb⟩

end Go.Proofs.Ytjfiknnclkilbaa
