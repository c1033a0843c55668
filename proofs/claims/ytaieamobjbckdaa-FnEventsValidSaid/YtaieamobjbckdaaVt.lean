/- The ticks of a voice; of the program and of the reference. -/
import Derived.Test.YtaieamobjbckdaaPerf
import Derived.Test.YtaieamobjbckdaaSVoice
namespace Go.Proofs.Ytaieamobjbckdaa
set_option linter.unusedSimpArgs false
set_option linter.unusedVariables false
open Go.RowKit

set_option maxHeartbeats 2000000 in
theorem svt_yes (A : Option Addr) (n c : Nat) (l : List Nt) (w : World) (hn : l.length = n) (hv : vvB l = true) (h : RowNt w w.heap.size A l) :
    Calls Try.prog 22 #[.slice A n c] w fun e w' => e = .returned (.int .i64 (vsum l l.length)) ∧ Below w.heap.size w w' := by
  subst hn
  have hf := vvB_of hv
  have h60 := hf.len
  go_enter Try.func22, Try.ntmps22
  go_wp2_with fail
  refine (svv_val hv _ _ _ _ rfl (by omega) h).mono ?_
  rintro e1 w1 ⟨rfl, b1⟩
  clear hv
  go_wp2
  go_loopw [3, 4] (fun t i wr => ∃ k : Nat, k ≤ l.length ∧ i = .int .i64 k ∧ t = .int .i64 (vsum l k) ∧ Below w.heap.size w wr) (fun t i _ => l.length - (intOf i).toNat)
  case atStart => exact ⟨0, Nat.zero_le _, rfl, rfl, by repeat (first | (with_reducible assumption) | (exact bel_undr (by with_reducible assumption)) | (with_reducible exact bel_refl _) | (with_reducible refine bel_dr ?_) | (with_reducible refine bel_drN ?_ _) | (with_reducible refine bel_al ?_ _) | (refine bel_set ?_ (by first | (simp; done) | (simp; exact Below.size (by assumption)) | (simp; omega)) _) | (with_reducible refine bel_tr ?_ (by assumption)))⟩
  case round =>
    obtain ⟨k, hk, rfl, rfl, hb⟩ := hrel
    by_cases hlt : k < l.length
    · obtain ⟨b, off, rfl, hlb, hc⟩ := (h.below hb) (by omega)
      have hck := hc k hlt
      have hs0 := hf.sum_bd k (by omega)
      have ht := hf.tick k hlt
      have h60 := hf.len
      have hkl : (k : Int) < (l.length : Int) := by omega
      have hk0 : (0 : Int) ≤ (k : Int) := by omega
      have HS : Hid (vsum l (k + 1) = vsum l k + (atNt l k).ticks) := by show _ = _; rfl
      clear hc
      generalize vsum l k = V at *
      generalize atNt l k = x at hck ht HS
      obtain ⟨r, s, a, o, tk, d⟩ := x
      obtain ⟨p0, p1, p2, p3, p4, p5⟩ := hck
      simp only at p0 p1 p2 p3 p4 p5 ht
      have hV := IntWalk.i64_in (V + tk) (by omega)
      go_wp2
      go_roundw
      case rel => exact ⟨k + 1, by omega, by go_num, by rw [HS.out], by repeat (first | (with_reducible assumption) | (exact bel_undr (by with_reducible assumption)) | (with_reducible exact bel_refl _) | (with_reducible refine bel_dr ?_) | (with_reducible refine bel_drN ?_ _) | (with_reducible refine bel_al ?_ _) | (refine bel_set ?_ (by first | (simp; done) | (simp; exact Below.size (by assumption)) | (simp; omega)) _) | (with_reducible refine bel_tr ?_ (by assumption)))⟩
      case measure => simp [intOf]; omega
    · obtain rfl : k = l.length := by omega
      go_wp2
      go_ret
      exact ⟨rfl, by repeat (first | (with_reducible assumption) | (exact bel_undr (by with_reducible assumption)) | (with_reducible exact bel_refl _) | (with_reducible refine bel_dr ?_) | (with_reducible refine bel_drN ?_ _) | (with_reducible refine bel_al ?_ _) | (refine bel_set ?_ (by first | (simp; done) | (simp; exact Below.size (by assumption)) | (simp; omega)) _) | (with_reducible refine bel_tr ?_ (by assumption)))⟩
end Go.Proofs.Ytaieamobjbckdaa
