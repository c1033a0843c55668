/- Rows of Fault: how a slice of them reads; the functions that copy, compare and count them. -/
import Derived.Test.YtkchlgmlfihkdaaBa
import Derived.Laws.MakeOwn
import Derived.Deep.RegionHeld3
namespace Go.Proofs.Ytkchlgmlfihkdaa
set_option linter.unusedSimpArgs false
set_option linter.unusedVariables false
open Go.RowKit

structure Fa where
  pos : Int
  code : Int

def atFa (l : List Fa) (i : Nat) : Fa := l.getD i ⟨0, 0⟩
/-- the slice at address A reads as the list l, all below block B -/
def RowFa (w : World) (B : Nat) (A : Option Addr) (l : List Fa) : Prop :=
  0 < l.length → ∃ b off, A = some ⟨b, off, none⟩ ∧ b < B ∧ ∀ i, i < l.length → w.cell? ⟨b, off + i * 2, none⟩ = some (.int .i64 (atFa l i).pos) ∧ w.cell? ⟨b, off + i * 2 + 1, none⟩ = some (.int .i64 (atFa l i).code)
/-- the first n places of the slice may be written, and lie from block lo on -/
def OwnFa (w : World) (lo : Nat) (A : Option Addr) (n : Nat) : Prop :=
  0 < n → ∃ b off, A = some ⟨b, off, none⟩ ∧ lo ≤ b ∧ ∀ o, w.frozen? ⟨b, o, none⟩ = false
theorem RowFa.keep {w w' : World} {B B' : Nat} {A : Option Addr} {l : List Fa} (h : RowFa w B A l) (hB : B ≤ B') (hk : ∀ b o, b < B → w'.cell? ⟨b, o, none⟩ = w.cell? ⟨b, o, none⟩) : RowFa w' B' A l := by
  intro hl
  obtain ⟨b, off, e, hb, hc⟩ := h hl
  refine ⟨b, off, e, by omega, fun i hi => ?_⟩
  simp only [hk _ _ hb]
  exact hc i hi
theorem RowFa.below {w w' : World} {A : Option Addr} {l : List Fa} (h : RowFa w w.heap.size A l) (hb : Below w.heap.size w w') : RowFa w' w'.heap.size A l :=
  h.keep hb.size fun b o hh => hb.cell (p := ⟨b, o, none⟩) hh
theorem OwnFa.below {w w' : World} {A : Option Addr} {lo : Nat} {l : List Fa} (h : OwnFa w lo A l.length) (hr : RowFa w w.heap.size A l) (hb : Below w.heap.size w w') : OwnFa w' lo A l.length := by
  intro hl
  obtain ⟨b, off, e, h1, h2⟩ := h hl
  obtain ⟨b', off', e', h3, _⟩ := hr hl
  rw [e] at e'
  simp only [Option.some.injEq, Addr.mk.injEq, and_true] at e'
  exact ⟨b, off, e, h1, fun o => by rw [hb.frozen (p := ⟨b, o, none⟩) (by simp only; omega)]; exact h2 o⟩

set_option maxHeartbeats 400000 in
theorem eqFa_same (t : Fa) (w : World) :
    Calls Try.prog 51 #[.agg #[.int .i64 t.pos, .int .i64 t.code], .agg #[.int .i64 t.pos, .int .i64 t.code]] w fun e w' => e = .returned (.bool true) ∧ Below w.heap.size w w' := by
  obtain ⟨pos, code⟩ := t
  go_enter Try.func51, Try.ntmps51
  go_wp2
  go_ret
  exact ⟨rfl, by repeat (first | (with_reducible assumption) | (exact bel_undr (by with_reducible assumption)) | (with_reducible exact bel_refl _) | (with_reducible refine bel_dr ?_) | (with_reducible refine bel_drN ?_ _) | (with_reducible refine bel_al ?_ _) | (refine bel_set ?_ (by first | (simp; done) | (simp; exact Below.size (by assumption)) | (simp; omega)) _) | (with_reducible refine bel_tr ?_ (by assumption)))⟩
set_option maxHeartbeats 1000000 in
theorem eqSFa_same (A A' : Option Addr) (n c c' : Nat) (l : List Fa) (w : World) (hn : l.length = n) (hm : n ≤ 9223372036854775807) (h : RowFa w w.heap.size A l) (h' : RowFa w w.heap.size A' l) :
    Calls Try.prog 18 #[.slice A n c, .slice A' n c'] w fun e w' => e = .returned (.bool true) ∧ Below w.heap.size w w' := by
  subst hn
  go_enter Try.func18, Try.ntmps18
  go_wp2
  go_loopw [5] (fun i wr => ∃ k : Nat, k ≤ l.length ∧ i = .int .i64 k ∧ Below w.heap.size w wr) (fun i _ => l.length - (intOf i).toNat)
  case atStart => exact ⟨0, Nat.zero_le _, rfl, bel_refl _⟩
  case round =>
    obtain ⟨k, hk, rfl, hb⟩ := hrel
    by_cases hlt : k < l.length
    · obtain ⟨b, off, rfl, hlb, hc⟩ := (h.below hb) (by omega)
      obtain ⟨b', off', rfl, hlb', hc'⟩ := (h'.below hb) (by omega)
      have hc := hc k hlt
      have hc' := hc' k hlt
      generalize atFa l k = t at hc hc'
      obtain ⟨xpos, xcode⟩ := t
      obtain ⟨p0, p1⟩ := hc
      obtain ⟨q0, q1⟩ := hc'
      simp only at p0 q0 p1 q1
      clear h h'
      have hki : (k : Int) < (l.length : Int) := by omega
      have hk0 : (0 : Int) ≤ (k : Int) := by omega
      go_wp2
      go_region_held3 (fun W => W.cell? ⟨b, off + k * 2, none⟩ = some (.int .i64 xpos) ∧ W.cell? ⟨b, off + k * 2 + 1, none⟩ = some (.int .i64 xcode) ∧ W.cell? ⟨b', off' + k * 2, none⟩ = some (.int .i64 xpos) ∧ W.cell? ⟨b', off' + k * 2 + 1, none⟩ = some (.int .i64 xcode) ∧ Below w.heap.size w W) (((try go_split_ands); (repeat' (with_reducible refine And.intro ?_ ?_)) <;> (first | (with_reducible assumption) | ((repeat (first | (with_reducible assumption) | (exact keep_undr (by with_reducible assumption)) | (simp [go_sem]; done) | (with_reducible refine keep_dr ?_) | (with_reducible refine keep_drN ?_ _) | (with_reducible refine keep_al ?_ _) | (refine keep_set ?_ (by first | (simp; done) | (simp; omega) | omega)) | (with_reducible refine keep_tr ?_ (by assumption)))); done) | ((repeat (first | (with_reducible assumption) | (exact bel_undr (by with_reducible assumption)) | (with_reducible exact bel_refl _) | (with_reducible refine bel_dr ?_) | (with_reducible refine bel_drN ?_ _) | (with_reducible refine bel_al ?_ _) | (refine bel_set ?_ (by first | (simp; done) | (simp; exact Below.size (by assumption)) | (simp; omega)) _) | (with_reducible refine bel_tr ?_ (by assumption)))); done) | (simp [go_sem]; done) | go_keep))) (first | (go_at_call 51; refine (eqFa_same ⟨xpos, xcode⟩ _).mono ?_; rintro e1 w1 ⟨rfl, hb1⟩; obtain ⟨bc1, bf1, sl1, se1, sk1⟩ := bfacts hb1; have hz1 := hb1.size; (try simp at hz1)))
      go_wp2
      go_roundw
      case rel => exact ⟨k + 1, by omega, by go_num, by repeat (first | (with_reducible assumption) | (exact bel_undr (by with_reducible assumption)) | (with_reducible exact bel_refl _) | (with_reducible refine bel_dr ?_) | (with_reducible refine bel_drN ?_ _) | (with_reducible refine bel_al ?_ _) | (refine bel_set ?_ (by first | (simp; done) | (simp; exact Below.size (by assumption)) | (simp; omega)) _) | (with_reducible refine bel_tr ?_ (by assumption)))⟩
      case measure => simp [intOf]; omega
    · go_wp2
      go_ret
      exact ⟨rfl, hb⟩

end Go.Proofs.Ytkchlgmlfihkdaa
