/- The ticks of a voice, and of a canon's second voice. -/
import Derived.Test.YtiapfpjggginoaaVoice
import Derived.Test.YtiapfpjggginoaaCoV
namespace Go.Proofs.Ytiapfpjggginoaa
set_option linter.unusedSimpArgs false
set_option linter.unusedVariables false
open Go.RowKit

def tsum (l : List Nt) : Nat → Int
  | 0 => 0
  | k + 1 => tsum l k + (atNt l k).ticks
theorem VvF.tickT {l : List Nt} (h : VvF l) (k : Nat) (hk : k < l.length) : 1 ≤ (atNt l k).ticks ∧ (atNt l k).ticks ≤ 768 := by
  have := (h.ok k hk).1
  unfold nvB at this
  simp only [Bool.and_eq_true, decide_eq_true_eq] at this
  exact this.1
theorem VvF.tsum_bd {l : List Nt} (h : VvF l) : ∀ k, k ≤ l.length → (k : Int) ≤ tsum l k ∧ tsum l k ≤ 768 * k
  | 0, _ => by simp [tsum]
  | k + 1, hk => by
    have a := h.tsum_bd k (by omega)
    have b := h.tickT k (by omega)
    unfold tsum; omega
theorem tsum_cong {G G' : List Nt} : ∀ m, (∀ j, j < m → (atNt G j).ticks = (atNt G' j).ticks) → tsum G m = tsum G' m
  | 0, _ => rfl
  | m + 1, h => by unfold tsum; rw [tsum_cong m (fun j hj => h j (by omega)), h m (by omega)]
theorem tsum_cons (x : Nt) (M : List Nt) : ∀ k, tsum (x :: M) (k + 1) = x.ticks + tsum M k
  | 0 => by simp [tsum, atNt]
  | k + 1 => by
    rw [tsum, tsum_cons x M k, tsum, at_consS]; omega
theorem tsum_mv (st ha : Int) (l : List Nt) : tsum (mvK st ha l l.length) l.length = tsum l l.length :=
  tsum_cong _ fun j hj => by rw [at_mvK _ _ _ _ _ hj]; exact (mvN_rest_eq st ha _).2.1
/-- the second voice of a canon lasts as long as the first one and the delay -/
theorem ic_ticks {l L : List Nt} (h : icP l L) : vvB l = true ∧ vvB L = true ∧ L.length = l.length + 1 ∧ (atNt L 0).rest = true ∧ tsum L L.length = tsum l l.length + (atNt L 0).ticks := by
  obtain ⟨h1, h2, d, st, ha, hB, hL⟩ := h
  obtain ⟨g1, g2, g3, g4⟩ := co_facts hB
  rw [g4] at hL
  have hl := mvK_len st ha l l.length
  have ht := tsum_mv st ha l
  subst hL
  generalize mvK st ha l l.length = M at *
  refine ⟨h1, h2, by rw [List.length_cons, hl], by rw [at_cons0], ?_⟩
  rw [List.length_cons, tsum_cons, at_cons0, hl, ht]
  simp only
  omega
theorem ic_not (l : List Nt) : ¬ icP l l := fun h => by
  have := (ic_ticks h).2.2.1
  omega
set_option maxHeartbeats 2000000 in
theorem vts_any (A : Option Addr) (n c : Nat) (l : List Nt) (w : World) (hn : l.length = n) (hv : vvB l = true) (h : RowNt w w.heap.size A l) :
    Calls Try.prog 48 #[.slice A n c] w fun e w' => e = .returned (.int .i64 (tsum l l.length)) ∧ Below w.heap.size w w' := by
  subst hn
  have hf := vvB_of hv
  go_enter Try.func48, Try.ntmps48
  go_wp2
  go_loopw [3, 5, 8] (fun t _ i wr => ∃ k : Nat, k ≤ l.length ∧ i = .int .i64 k ∧ t = .int .i64 (tsum l k) ∧ Below w.heap.size w wr) (fun t _ i _ => l.length - (intOf i).toNat)
  case atStart => exact ⟨0, Nat.zero_le _, rfl, rfl, by repeat (first | (with_reducible assumption) | (exact bel_undr (by with_reducible assumption)) | (with_reducible exact bel_refl _) | (with_reducible refine bel_dr ?_) | (with_reducible refine bel_drN ?_ _) | (with_reducible refine bel_al ?_ _) | (refine bel_set ?_ (by first | (simp; done) | (simp; exact Below.size (by assumption)) | (simp; omega)) _) | (with_reducible refine bel_tr ?_ (by assumption)))⟩
  case round =>
    obtain ⟨k, hk, rfl, rfl, hb⟩ := hrel
    by_cases hlt : k < l.length
    · obtain ⟨b, off, rfl, hlb, hc⟩ := (h.below hb) (by omega)
      have hck := hc k hlt
      have hs0 := hf.tsum_bd k (by omega)
      have ht := hf.tickT k hlt
      have h60 := hf.len
      have hkl : (k : Int) < (l.length : Int) := by omega
      have hk0 : (0 : Int) ≤ (k : Int) := by omega
      have HS : Hid (tsum l (k + 1) = tsum l k + (atNt l k).ticks) := by show _ = _; rfl
      clear hc
      generalize tsum l k = V at *
      generalize atNt l k = x at hck ht HS
      obtain ⟨r, s, a, o, tk, d⟩ := x
      obtain ⟨p0, p1, p2, p3, p4, p5⟩ := hck
      simp only at p0 p1 p2 p3 p4 p5 ht
      have hV := IntWalk.i64_in (V + tk) (by omega)
      go_wp2
      go_roundw
      case rel => exact ⟨k + 1, by omega, by go_num, by rw [HS.out], by repeat (first | (with_reducible assumption) | (exact bel_undr (by with_reducible assumption)) | (with_reducible exact bel_refl _) | (with_reducible refine bel_dr ?_) | (with_reducible refine bel_drN ?_ _) | (with_reducible refine bel_al ?_ _) | (refine bel_set ?_ (by first | (simp; done) | (simp; exact Below.size (by assumption)) | (simp; omega)) _) | (with_reducible refine bel_tr ?_ (by assumption)))⟩
      case measure => simp [intOf]; omega
    · obtain rfl : k = l.length := by omega
      go_wp2
      go_ret
      exact ⟨rfl, by repeat (first | (with_reducible assumption) | (exact bel_undr (by with_reducible assumption)) | (with_reducible exact bel_refl _) | (with_reducible refine bel_dr ?_) | (with_reducible refine bel_drN ?_ _) | (with_reducible refine bel_al ?_ _) | (refine bel_set ?_ (by first | (simp; done) | (simp; exact Below.size (by assumption)) | (simp; omega)) _) | (with_reducible refine bel_tr ?_ (by assumption)))⟩
set_option maxHeartbeats 2000000 in
theorem vtk_any (A : Option Addr) (n c : Nat) (l : List Nt) (w : World) (hn : l.length = n) (hm : n ≤ 2000000) (hv : vvB l = true) (h : RowNt w w.heap.size A l) :
    Calls Try.prog 23 #[.slice A n c] w fun e w' => e = .returned (.int .i64 (tsum l l.length)) ∧ Below w.heap.size w w' := by
  subst hn
  go_enter Try.func23, Try.ntmps23
  go_wp2_with fail
  refine (vv_val hv _ _ _ _ rfl hm h).mono ?_
  rintro e1 w1 ⟨rfl, b1⟩
  go_wp2_with fail
  refine (vts_any _ _ _ _ _ rfl hv (h.below b1)).mono ?_
  rintro e2 w2 ⟨rfl, b2⟩
  go_wp2
  go_ret
  exact ⟨rfl, by repeat (first | (with_reducible assumption) | (exact bel_undr (by with_reducible assumption)) | (with_reducible exact bel_refl _) | (with_reducible refine bel_dr ?_) | (with_reducible refine bel_drN ?_ _) | (with_reducible refine bel_al ?_ _) | (refine bel_set ?_ (by first | (simp; done) | (simp; exact Below.size (by assumption)) | (simp; omega)) _) | (with_reducible refine bel_tr ?_ (by assumption)))⟩
theorem vtk_val {l : List Nt} {t : Int} (ht : tsum l l.length = t) (A : Option Addr) (n c : Nat) (w : World) (hn : l.length = n) (hm : n ≤ 2000000) (hv : vvB l = true) (h : RowNt w w.heap.size A l) :
    Calls Try.prog 23 #[.slice A n c] w fun e w' => e = .returned (.int .i64 t) ∧ Below w.heap.size w w' := by
  have := vtk_any A n c l w hn hm hv h
  rw [ht] at this
  exact this
end Go.Proofs.Ytiapfpjggginoaa
