/- Slices of numbers: the copy that the laws make; how one that came in reads. -/
import Derived.Test.YtpjakgnghpapmaaRowIn
import Derived.Test.YtpjakgnghpapmaaBa
namespace Go.Proofs.Ytpjakgnghpapmaa
set_option linter.unusedSimpArgs false
set_option linter.unusedVariables false
open Go.RowKit

def ToIn (w : World) (l : List Int) (e : Ending) (w' : World) : Prop :=
  ∃ A, e = .returned (.slice A l.length l.length) ∧ RowIn w' w'.heap.size A l ∧ OwnIn w' w.heap.size A l.length ∧ Below w.heap.size w w'
theorem run_makeIn (n : Nat) (h : n ≤ 2000000) (w : World) :
    (Instr.makeSlice 43 (.int .i64 (n : Int)) (.int .i64 (n : Int))).run Try.prog w = .ok (.slice (some ⟨w.heap.size, 0, none⟩) n n) (w.alloc (.cells (madeCells #[.int .i64 0] n) 3)) := by
  obtain ⟨i, hi, hz, hs, hb⟩ := info_parts infoIn
  have hr := run_make (P := Try.prog) w 43 3 i _ Try.underlying43 hi hz .i64 .i64 n n (by omega) (by omega) (by rw [hb]; omega) (by omega)
  simp only [Int.toNat_natCast, hs, Nat.mul_one] at hr
  exact hr
set_option maxHeartbeats 1000000 in
theorem toSIn_any (A : Option Addr) (n c : Nat) (l : List Int) (w : World) (hn : l.length = n) (hm : n ≤ 2000000) (h : RowIn w w.heap.size A l) :
    Calls Try.prog 26 #[.slice A n c] w (ToIn w l) := by
  subst hn
  have hmk := run_makeIn l.length hm
  go_enter Try.func26, Try.ntmps26
  go_wp2
  go_loopw [4] (fun i wr => ∃ k : Nat, k ≤ l.length ∧ i = .int .i64 k ∧ Below w.heap.size w wr ∧ w.heap.size < wr.heap.size ∧ (∀ j, j < k → wr.cell? ⟨w.heap.size, 0 + j, none⟩ = some (.int .i64 (atIn l j))) ∧ (∀ o, o < l.length → (wr.cell? ⟨w.heap.size, o, none⟩).isSome = true) ∧ (∀ o, wr.frozen? ⟨w.heap.size, o, none⟩ = false)) (fun i _ => l.length - (intOf i).toNat)
  case atStart => exact ⟨0, Nat.zero_le _, rfl, bel_al (bel_refl _) _, by simp, fun j hj => by omega, fun o ho => by rw [World.cell?_alloc_new]; simp [size_madeCells]; omega, fun o => by simp⟩
  case round =>
    obtain ⟨k, hk, rfl, hb, hgs, hd, hs, hf⟩ := hrel
    by_cases hlt : k < l.length
    · obtain ⟨b, off, rfl, hlb, hc⟩ := h (by omega)
      have hc := hc k hlt
      simp only [← (show ∀ o, wr.cell? ⟨b, o, none⟩ = w.cell? ⟨b, o, none⟩ from fun o => hb.cell (p := ⟨b, o, none⟩) hlb)] at hc
      generalize hg : atIn l k = t at hc
      have HG := Lib.hid hg
      clear hg
      obtain ⟨o0, so0⟩ := Option.isSome_iff_exists.1 (hs k (by omega))
      have fo := hf k
      have hbg : b ≠ w.heap.size := by omega
      have hki : (k : Int) < (l.length : Int) := by omega
      have hk0 : (0 : Int) ≤ (k : Int) := by omega
      have HD := Lib.hid hd
      have HS := Lib.hid hs
      have HF := Lib.hid hf
      clear hd hs h hf
      go_wp2
      go_roundw
      case rel =>
        refine ⟨k + 1, by omega, by go_num, bel_set hb (Nat.le_refl _) _, by (simp [World.setCell] <;> omega), fun j hj => ?_, fun o ho => ?_, fun o => by simpa using HF.out o⟩
        · by_cases e : j = k
          · subst e
            rw [Nat.zero_add, HG.out]
            exact set_same (by rw [so0]; rfl)
          · exact keep_off (HD.out j (by omega)) (by simp only [ne_eq, Addr.mk.injEq]; omega)
        · exact some_setx (HS.out o ho)
      case measure => simp [intOf]; omega
    · obtain rfl : k = l.length := by omega
      go_wp2
      go_ret
      exact ⟨_, rfl, fun hl => ⟨_, _, rfl, hgs, hd⟩, fun _ => ⟨_, _, rfl, Nat.le_refl _, hf⟩, hb⟩
end Go.Proofs.Ytpjakgnghpapmaa
