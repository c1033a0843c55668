/- The note at a tick of a voice, and the key that sounds there: of both. -/
import Derived.Test.YtiapfpjggginoaaVts
import Derived.Test.YtiapfpjggginoaaSVoice
import Derived.Test.YtiapfpjggginoaaMtP
import Derived.Test.YtiapfpjggginoaaBa
import Derived.Deep.DeepCutAuto
namespace Go.Proofs.Ytiapfpjggginoaa
set_option linter.unusedSimpArgs false
set_option linter.unusedVariables false
open Go.RowKit

def naF (l : List Nt) (t : Int) (k : Nat) : Nat → Int
  | 0 => -1
  | m + 1 => if t < tsum l (k + 1) then (k : Int) else naF l t (k + 1) m
def naI (l : List Nt) (t : Int) : Int := if vvB l = true ∧ 0 ≤ t then naF l t 0 l.length else -1
theorem naF_spec (l : List Nt) (t : Int) : ∀ m k, (naF l t k m = -1 ∧ ∀ j, k ≤ j → j < k + m → tsum l (j + 1) ≤ t) ∨ ∃ j : Nat, k ≤ j ∧ j < k + m ∧ naF l t k m = (j : Int) ∧ t < tsum l (j + 1) ∧ ∀ i, k ≤ i → i < j → tsum l (i + 1) ≤ t
  | 0, k => .inl ⟨rfl, fun j h1 h2 => by omega⟩
  | m + 1, k => by
    unfold naF
    by_cases h : t < tsum l (k + 1)
    · rw [if_pos h]; exact .inr ⟨k, by omega, by omega, rfl, h, fun i h1 h2 => by omega⟩
    · rw [if_neg h]
      rcases naF_spec l t m (k + 1) with ⟨e, hh⟩ | ⟨j, h1, h2, e, h3, h4⟩
      · refine .inl ⟨e, fun j h1 h2 => ?_⟩
        by_cases e2 : j = k
        · subst e2; omega
        · exact hh j (by omega) (by omega)
      · refine .inr ⟨j, by omega, by omega, e, h3, fun i h5 h6 => ?_⟩
        by_cases e2 : i = k
        · subst e2; omega
        · exact h4 i (by omega) h6
/-- the note at a tick is the one that begins at it or ahead, and ends behind it -/
theorem na_spec (l : List Nt) (t : Int) : (naI l t = -1 ∧ (vvB l = true → 0 ≤ t → ∀ j, j < l.length → tsum l (j + 1) ≤ t)) ∨ ∃ j : Nat, j < l.length ∧ vvB l = true ∧ 0 ≤ t ∧ naI l t = (j : Int) ∧ tsum l j ≤ t ∧ t < tsum l (j + 1) := by
  unfold naI
  by_cases h : vvB l = true ∧ 0 ≤ t
  · rw [if_pos h]
    rcases naF_spec l t l.length 0 with ⟨e, hh⟩ | ⟨j, h1, h2, e, h3, h4⟩
    · exact .inl ⟨e, fun _ _ j hj => hh j (by omega) (by omega)⟩
    · refine .inr ⟨j, by omega, h.1, h.2, e, ?_, h3⟩
      cases j with
      | zero => simp [tsum]; exact h.2
      | succ i => exact h4 i (by omega) (by omega)
  · rw [if_neg h]; exact .inl ⟨rfl, fun h1 h2 => absurd ⟨h1, h2⟩ h⟩
theorem na_eq {l : List Nt} {t : Int} (hv : vvB l = true) {j : Nat} (hj : j < l.length) (h1 : tsum l j ≤ t) (h2 : t < tsum l (j + 1)) : naI l t = (j : Int) := by
  have hf := vvB_of hv
  have ht : 0 ≤ t := by have := hf.nn j (by omega); omega
  rcases na_spec l t with ⟨_, h⟩ | ⟨i, hi, _, _, e, h3, h4⟩
  · have := h hv ht j hj; omega
  · rw [e]
    rcases Nat.lt_trichotomy i j with h | h | h
    · have := hf.le (i := i + 1) (k := j) (by omega) (by omega); omega
    · rw [h]
    · have := hf.le (i := j + 1) (k := i) (by omega) (by omega); omega
def kyN (x : Nt) : Int := pkI x.step x.alter x.octave
def skB (l : List Nt) (t : Int) : Bool := decide (0 ≤ naI l t ∧ (atNt l (naI l t).toNat).rest = false)
def skK (l : List Nt) (t : Int) : Int := kyN (atNt l (naI l t).toNat)
theorem sk_bd (l : List Nt) (t : Int) : -100 ≤ skK l t ∧ skK l t ≤ 109 := pkI_bd _ _ _
theorem sk_gt {l : List Nt} {t : Int} (h : skB l t = true) : -100 < skK l t := by
  obtain ⟨h1, h2⟩ := of_decide_eq_true h
  rcases na_spec l t with ⟨e, _⟩ | ⟨j, hj, hv, _, e, _⟩
  · omega
  · unfold skK kyN
    rw [e] at h2 ⊢
    have hn := ((vvB_of hv).ok j hj).1
    rw [Int.toNat_natCast] at h2 ⊢
    unfold nvB at hn
    rw [h2] at hn
    simp only [Bool.and_eq_true, Bool.false_eq_true, if_false] at hn
    have hp := hn.2
    unfold pkI
    rw [if_pos hp]
    unfold pvB at hp
    obtain ⟨g1, g2, g3, g4, g5, g6⟩ := of_decide_eq_true hp
    have := (shI_bd (atNt l j).step).1
    omega
set_option maxHeartbeats 2000000 in
theorem na_val {l : List Nt} {t r : Int} (hr : naI l t = r) (A : Option Addr) (n c : Nat) (w : World) (hn : l.length = n) (hm : n ≤ 2000000) (t0 : -100000000 ≤ t) (t1 : t ≤ 100000000) (h : RowNt w w.heap.size A l) :
    Calls Try.prog 24 #[.slice A n c, .int .i64 t] w fun e w' => e = .returned (.int .i64 r) ∧ Below w.heap.size w w' := by
  subst hn hr
  cases hv : vvB l
  · have HE := Lib.hid (show naI l t = -1 from if_neg (fun z => by rw [hv] at z; cases z.1))
    go_enter Try.func24, Try.ntmps24
    go_wp2_with fail
    refine (vv_val hv _ _ _ _ rfl hm h).mono ?_
    rintro e1 w1 ⟨rfl, b1⟩
    go_wp2
    exact bodyPost_ret (v := .int .i64 (-1)) (by simp [results, Try.results24, go_sem]) rfl ⟨ret_int (by rw [HE.out]), by repeat (first | (with_reducible assumption) | (exact bel_undr (by with_reducible assumption)) | (with_reducible exact bel_refl _) | (with_reducible refine bel_dr ?_) | (with_reducible refine bel_drN ?_ _) | (with_reducible refine bel_al ?_ _) | (refine bel_set ?_ (by first | (simp; done) | (simp; exact Below.size (by assumption)) | (simp; omega)) _) | (with_reducible refine bel_tr ?_ (by assumption)))⟩
  · have hf := vvB_of hv
    by_cases ht0 : 0 ≤ t
    · have HE := Lib.hid (show naI l t = naF l t 0 l.length from if_pos ⟨hv, ht0⟩)
      go_enter Try.func24, Try.ntmps24
      go_wp2_with fail
      refine (vv_val hv _ _ _ _ rfl hm h).mono ?_
      rintro e1 w1 ⟨rfl, b1⟩
      clear hv
      go_wp2
      go_loopw [1, 5, 6, 16] (fun tk _ _ i wr => ∃ k : Nat, k ≤ l.length ∧ i = .int .i64 k ∧ tk = .int .i64 (t - tsum l k) ∧ naF l t 0 l.length = naF l t k (l.length - k) ∧ 0 ≤ t - tsum l k ∧ Below w.heap.size w wr) (fun _ _ _ i _ => l.length - (intOf i).toNat)
      case atStart => exact ⟨0, Nat.zero_le _, rfl, by simp [tsum], rfl, by simp [tsum]; exact ht0, by repeat (first | (with_reducible assumption) | (exact bel_undr (by with_reducible assumption)) | (with_reducible exact bel_refl _) | (with_reducible refine bel_dr ?_) | (with_reducible refine bel_drN ?_ _) | (with_reducible refine bel_al ?_ _) | (refine bel_set ?_ (by first | (simp; done) | (simp; exact Below.size (by assumption)) | (simp; omega)) _) | (with_reducible refine bel_tr ?_ (by assumption)))⟩
      case round =>
        obtain ⟨k, hk, rfl, rfl, hna, htv, hb⟩ := hrel
        by_cases hlt : k < l.length
        · obtain ⟨b, off, rfl, hlb, hc⟩ := (h.below hb) (by omega)
          have hck := hc k hlt
          have hs0 := hf.tsum_bd k (by omega)
          have ht := hf.tickT k hlt
          have hkl : (k : Int) < (l.length : Int) := by omega
          have hk0 : (0 : Int) ≤ (k : Int) := by omega
          have h60 := hf.len
          have HNA := Lib.hid hna
          have hstep : naF l t k (l.length - k) = if t < tsum l k + (atNt l k).ticks then (k : Int) else naF l t (k + 1) (l.length - (k + 1)) := by
            rw [show l.length - k = (l.length - (k + 1)) + 1 from by omega]; rfl
          have HST := Lib.hid hstep
          have HS : Hid (tsum l (k + 1) = tsum l k + (atNt l k).ticks) := by show _ = _; rfl
          clear hc hna hstep
          generalize tsum l k = V at *
          generalize atNt l k = x at hck ht HS HST
          obtain ⟨r, s, a, o', tk, d⟩ := x
          obtain ⟨p0, p1, p2, p3, p4, p5⟩ := hck
          simp only at p0 p1 p2 p3 p4 p5 ht HS HST
          by_cases hc : t < V + tk
          · have HC := Lib.hid hc
            have hc1 : t - V < tk := by omega
            go_wp2
            exact bodyPost_ret (v := .int .i64 (k : Int)) (by simp [results, Try.results24, go_sem]) rfl ⟨ret_int (by rw [HE.out, HNA.out, HST.out, if_pos HC.out]), by repeat (first | (with_reducible assumption) | (exact bel_undr (by with_reducible assumption)) | (with_reducible exact bel_refl _) | (with_reducible refine bel_dr ?_) | (with_reducible refine bel_drN ?_ _) | (with_reducible refine bel_al ?_ _) | (refine bel_set ?_ (by first | (simp; done) | (simp; exact Below.size (by assumption)) | (simp; omega)) _) | (with_reducible refine bel_tr ?_ (by assumption)))⟩
          · have HC := Lib.hid hc
            have hc1 : ¬ t - V < tk := by omega
            have i1 := IntWalk.i64_in (t - V - tk) (by omega)
            go_wp2
            go_roundw
            case rel => exact ⟨k + 1, by omega, by go_num, congrArg (Value.int .i64) (by rw [HS.out]; omega), by rw [HNA.out, HST.out, if_neg (by have := HC.out; omega)], by rw [HS.out]; have := HC.out; omega, by repeat (first | (with_reducible assumption) | (exact bel_undr (by with_reducible assumption)) | (with_reducible exact bel_refl _) | (with_reducible refine bel_dr ?_) | (with_reducible refine bel_drN ?_ _) | (with_reducible refine bel_al ?_ _) | (refine bel_set ?_ (by first | (simp; done) | (simp; exact Below.size (by assumption)) | (simp; omega)) _) | (with_reducible refine bel_tr ?_ (by assumption)))⟩
            case measure => simp [intOf]; omega
        · obtain rfl : k = l.length := by omega
          have HNA := Lib.hid hna
          clear hna
          go_wp2
          exact bodyPost_ret (v := .int .i64 (-1)) (by simp [results, Try.results24, go_sem]) rfl ⟨ret_int (by rw [HE.out, HNA.out, Nat.sub_self]; rfl), by repeat (first | (with_reducible assumption) | (exact bel_undr (by with_reducible assumption)) | (with_reducible exact bel_refl _) | (with_reducible refine bel_dr ?_) | (with_reducible refine bel_drN ?_ _) | (with_reducible refine bel_al ?_ _) | (refine bel_set ?_ (by first | (simp; done) | (simp; exact Below.size (by assumption)) | (simp; omega)) _) | (with_reducible refine bel_tr ?_ (by assumption)))⟩
    · have HE := Lib.hid (show naI l t = -1 from if_neg (fun z => ht0 z.2))
      go_enter Try.func24, Try.ntmps24
      go_wp2_with fail
      refine (vv_val hv _ _ _ _ rfl hm h).mono ?_
      rintro e1 w1 ⟨rfl, b1⟩
      go_wp2
      exact bodyPost_ret (v := .int .i64 (-1)) (by simp [results, Try.results24, go_sem]) rfl ⟨ret_int (by rw [HE.out]), by repeat (first | (with_reducible assumption) | (exact bel_undr (by with_reducible assumption)) | (with_reducible exact bel_refl _) | (with_reducible refine bel_dr ?_) | (with_reducible refine bel_drN ?_ _) | (with_reducible refine bel_al ?_ _) | (refine bel_set ?_ (by first | (simp; done) | (simp; exact Below.size (by assumption)) | (simp; omega)) _) | (with_reducible refine bel_tr ?_ (by assumption)))⟩
set_option maxHeartbeats 2000000 in
theorem sna_val {l : List Nt} {t r : Int} (hr : naI l t = r) (A : Option Addr) (n c : Nat) (w : World) (hn : l.length = n) (hm : n ≤ 2000000) (t0 : -100000000 ≤ t) (t1 : t ≤ 100000000) (h : RowNt w w.heap.size A l) :
    Calls Try.prog 70 #[.slice A n c, .int .i64 t] w fun e w' => e = .returned (.int .i64 r) ∧ Below w.heap.size w w' := by
  subst hn hr
  by_cases hl : l.length = 0
  · have HE := Lib.hid (show naI l t = -1 from by unfold naI; rw [hl]; split <;> rfl)
    go_enter Try.func70, Try.ntmps70
    go_wp2
    go_loopw [1, 5] (fun tk i wr => tk = .int .i64 t ∧ i = .int .i64 0 ∧ Below w.heap.size w wr) (fun _ i _ => 0)
    case atStart => exact ⟨rfl, rfl, by repeat (first | (with_reducible assumption) | (exact bel_undr (by with_reducible assumption)) | (with_reducible exact bel_refl _) | (with_reducible refine bel_dr ?_) | (with_reducible refine bel_drN ?_ _) | (with_reducible refine bel_al ?_ _) | (refine bel_set ?_ (by first | (simp; done) | (simp; exact Below.size (by assumption)) | (simp; omega)) _) | (with_reducible refine bel_tr ?_ (by assumption)))⟩
    case round =>
      obtain ⟨rfl, rfl, hb⟩ := hrel
      have hl0 : (l.length : Int) = 0 := by omega
      go_wp2
      exact bodyPost_ret (v := .int .i64 (-1)) (by simp [results, Try.results70, go_sem]) rfl ⟨ret_int (by rw [HE.out]), by repeat (first | (with_reducible assumption) | (exact bel_undr (by with_reducible assumption)) | (with_reducible exact bel_refl _) | (with_reducible refine bel_dr ?_) | (with_reducible refine bel_drN ?_ _) | (with_reducible refine bel_al ?_ _) | (refine bel_set ?_ (by first | (simp; done) | (simp; exact Below.size (by assumption)) | (simp; omega)) _) | (with_reducible refine bel_tr ?_ (by assumption)))⟩
  · have hlp : (0 : Int) < (l.length : Int) := by omega
    cases hv : vvB l
    · have HE := Lib.hid (show naI l t = -1 from if_neg (fun z => by rw [hv] at z; cases z.1))
      go_enter Try.func70, Try.ntmps70
      go_wp2
      go_loopw [1, 5] (fun tk i wr => tk = .int .i64 t ∧ i = .int .i64 0 ∧ Below w.heap.size w wr) (fun _ i _ => 0)
      case atStart => exact ⟨rfl, rfl, by repeat (first | (with_reducible assumption) | (exact bel_undr (by with_reducible assumption)) | (with_reducible exact bel_refl _) | (with_reducible refine bel_dr ?_) | (with_reducible refine bel_drN ?_ _) | (with_reducible refine bel_al ?_ _) | (refine bel_set ?_ (by first | (simp; done) | (simp; exact Below.size (by assumption)) | (simp; omega)) _) | (with_reducible refine bel_tr ?_ (by assumption)))⟩
      case round =>
        obtain ⟨rfl, rfl, hb⟩ := hrel
        go_wp2_with fail
        refine (svv_val hv _ _ _ _ rfl hm (h.below hb)).mono ?_
        rintro e1 w1 ⟨rfl, b1⟩
        have hb1 := bel_tr hb b1
        go_wp2
        exact bodyPost_ret (v := .int .i64 (-1)) (by simp [results, Try.results70, go_sem]) rfl ⟨ret_int (by rw [HE.out]), by repeat (first | (with_reducible assumption) | (exact bel_undr (by with_reducible assumption)) | (with_reducible exact bel_refl _) | (with_reducible refine bel_dr ?_) | (with_reducible refine bel_drN ?_ _) | (with_reducible refine bel_al ?_ _) | (refine bel_set ?_ (by first | (simp; done) | (simp; exact Below.size (by assumption)) | (simp; omega)) _) | (with_reducible refine bel_tr ?_ (by assumption)))⟩
    · have hf := vvB_of hv
      by_cases ht0 : 0 ≤ t
      · have HE := Lib.hid (show naI l t = naF l t 0 l.length from if_pos ⟨hv, ht0⟩)
        go_enter Try.func70, Try.ntmps70
        go_wp2
        go_loopw [1, 5] (fun tk i wr => ∃ k : Nat, k ≤ l.length ∧ i = .int .i64 k ∧ tk = .int .i64 (t - tsum l k) ∧ naF l t 0 l.length = naF l t k (l.length - k) ∧ 0 ≤ t - tsum l k ∧ Below w.heap.size w wr) (fun _ i _ => l.length - (intOf i).toNat)
        case atStart => exact ⟨0, Nat.zero_le _, rfl, by simp [tsum], rfl, by simp [tsum]; exact ht0, by repeat (first | (with_reducible assumption) | (exact bel_undr (by with_reducible assumption)) | (with_reducible exact bel_refl _) | (with_reducible refine bel_dr ?_) | (with_reducible refine bel_drN ?_ _) | (with_reducible refine bel_al ?_ _) | (refine bel_set ?_ (by first | (simp; done) | (simp; exact Below.size (by assumption)) | (simp; omega)) _) | (with_reducible refine bel_tr ?_ (by assumption)))⟩
        case round =>
          obtain ⟨k, hk, rfl, rfl, hna, htv, hb⟩ := hrel
          by_cases hlt : k < l.length
          · have hkl9 : (k : Int) < (l.length : Int) := by omega
            go_wp2_with fail
            refine (svv_val hv _ _ _ _ rfl hm (h.below hb)).mono ?_
            rintro e1 w1 ⟨rfl, b1⟩
            have hb1 := bel_tr hb b1
            have b2 := b1
            clear b1
            obtain ⟨b, off, rfl, hlb, hc⟩ := (h.below hb1) (by omega)
            have hck := hc k hlt
            have hs0 := hf.tsum_bd k (by omega)
            have ht := hf.tickT k hlt
            have hkl : (k : Int) < (l.length : Int) := by omega
            have hk0 : (0 : Int) ≤ (k : Int) := by omega
            have h60 := hf.len
            have HNA := Lib.hid hna
            have hstep : naF l t k (l.length - k) = if t < tsum l k + (atNt l k).ticks then (k : Int) else naF l t (k + 1) (l.length - (k + 1)) := by
              rw [show l.length - k = (l.length - (k + 1)) + 1 from by omega]; rfl
            have HST := Lib.hid hstep
            have HS : Hid (tsum l (k + 1) = tsum l k + (atNt l k).ticks) := by show _ = _; rfl
            clear hc hna hstep
            generalize tsum l k = V at *
            generalize atNt l k = x at hck ht HS HST
            obtain ⟨r, s, a, o', tk, d⟩ := x
            obtain ⟨p0, p1, p2, p3, p4, p5⟩ := hck
            simp only at p0 p1 p2 p3 p4 p5 ht HS HST
            by_cases hc : t < V + tk
            · have HC := Lib.hid hc
              have hc1 : t - V < tk := by omega
              go_wp2
              exact bodyPost_ret (v := .int .i64 (k : Int)) (by simp [results, Try.results70, go_sem]) rfl ⟨ret_int (by rw [HE.out, HNA.out, HST.out, if_pos HC.out]), by repeat (first | (with_reducible assumption) | (exact bel_undr (by with_reducible assumption)) | (with_reducible exact bel_refl _) | (with_reducible refine bel_dr ?_) | (with_reducible refine bel_drN ?_ _) | (with_reducible refine bel_al ?_ _) | (refine bel_set ?_ (by first | (simp; done) | (simp; exact Below.size (by assumption)) | (simp; omega)) _) | (with_reducible refine bel_tr ?_ (by assumption)))⟩
            · have HC := Lib.hid hc
              have hc1 : ¬ t - V < tk := by omega
              have i1 := IntWalk.i64_in (t - V - tk) (by omega)
              go_wp2
              go_roundw
              case rel => exact ⟨k + 1, by omega, by go_num, congrArg (Value.int .i64) (by rw [HS.out]; omega), by rw [HNA.out, HST.out, if_neg (by have := HC.out; omega)], by rw [HS.out]; have := HC.out; omega, by repeat (first | (with_reducible assumption) | (exact bel_undr (by with_reducible assumption)) | (with_reducible exact bel_refl _) | (with_reducible refine bel_dr ?_) | (with_reducible refine bel_drN ?_ _) | (with_reducible refine bel_al ?_ _) | (refine bel_set ?_ (by first | (simp; done) | (simp; exact Below.size (by assumption)) | (simp; omega)) _) | (with_reducible refine bel_tr ?_ (by assumption)))⟩
              case measure => simp [intOf]; omega
          · obtain rfl : k = l.length := by omega
            have HNA := Lib.hid hna
            clear hna
            go_wp2
            exact bodyPost_ret (v := .int .i64 (-1)) (by simp [results, Try.results70, go_sem]) rfl ⟨ret_int (by rw [HE.out, HNA.out, Nat.sub_self]; rfl), by repeat (first | (with_reducible assumption) | (exact bel_undr (by with_reducible assumption)) | (with_reducible exact bel_refl _) | (with_reducible refine bel_dr ?_) | (with_reducible refine bel_drN ?_ _) | (with_reducible refine bel_al ?_ _) | (refine bel_set ?_ (by first | (simp; done) | (simp; exact Below.size (by assumption)) | (simp; omega)) _) | (with_reducible refine bel_tr ?_ (by assumption)))⟩
      · have HE := Lib.hid (show naI l t = -1 from if_neg (fun z => ht0 z.2))
        go_enter Try.func70, Try.ntmps70
        go_wp2
        go_loopw [1, 5] (fun tk i wr => tk = .int .i64 t ∧ i = .int .i64 0 ∧ Below w.heap.size w wr) (fun _ i _ => 0)
        case atStart => exact ⟨rfl, rfl, by repeat (first | (with_reducible assumption) | (exact bel_undr (by with_reducible assumption)) | (with_reducible exact bel_refl _) | (with_reducible refine bel_dr ?_) | (with_reducible refine bel_drN ?_ _) | (with_reducible refine bel_al ?_ _) | (refine bel_set ?_ (by first | (simp; done) | (simp; exact Below.size (by assumption)) | (simp; omega)) _) | (with_reducible refine bel_tr ?_ (by assumption)))⟩
        case round =>
          obtain ⟨rfl, rfl, hb⟩ := hrel
          go_wp2_with fail
          refine (svv_val hv _ _ _ _ rfl hm (h.below hb)).mono ?_
          rintro e1 w1 ⟨rfl, b1⟩
          have hb1 := bel_tr hb b1
          go_wp2
          exact bodyPost_ret (v := .int .i64 (-1)) (by simp [results, Try.results70, go_sem]) rfl ⟨ret_int (by rw [HE.out]), by repeat (first | (with_reducible assumption) | (exact bel_undr (by with_reducible assumption)) | (with_reducible exact bel_refl _) | (with_reducible refine bel_dr ?_) | (with_reducible refine bel_drN ?_ _) | (with_reducible refine bel_al ?_ _) | (refine bel_set ?_ (by first | (simp; done) | (simp; exact Below.size (by assumption)) | (simp; omega)) _) | (with_reducible refine bel_tr ?_ (by assumption)))⟩
end Go.Proofs.Ytiapfpjggginoaa
