/- The contracts of FifthsRatio, of the program and of the reference: for every number. -/
import Derived.Test.YtgjjoaffmflbgaaTm
import Derived.Test.YtgjjoaffmflbgaaWin
namespace Go.Proofs.Ytgjjoaffmflbgaa
set_option linter.unusedSimpArgs false
set_option linter.unusedVariables false
open Go.RowKit

def p2 (k : Nat) : Int := ((2 ^ k : Nat) : Int)
def p3 (k : Nat) : Int := ((3 ^ k : Nat) : Int)
def fJ (n : Nat) : Nat := [0, 0, 1, 1, 2, 2, 3, 4, 4, 5, 5, 6, 7].getD n 0
def fK (n : Nat) : Nat := [0, 1, 2, 2, 3, 3, 4, 5, 5, 6, 6, 7, 8].getD n 0
theorem p2_succ (k : Nat) : p2 (k + 1) = 2 * p2 k := by unfold p2; rw [Nat.pow_succ]; omega
theorem p3_succ (k : Nat) : p3 (k + 1) = 3 * p3 k := by unfold p3; rw [Nat.pow_succ]; omega
theorem p2_pos (k : Nat) : 0 < p2 k := by unfold p2; have := Nat.pow_pos (n := k) (show 0 < 2 by omega); omega
theorem p3_pos (k : Nat) : 0 < p3 k := by unfold p3; have := Nat.pow_pos (n := k) (show 0 < 3 by omega); omega
theorem p2_le (k : Nat) (h : k ≤ 20) : p2 k ≤ 1048576 := by
  have : ∀ k : Fin 21, p2 k.1 ≤ 1048576 := by decide +kernel
  exact this ⟨k, by omega⟩
theorem p3_le (k : Nat) (h : k ≤ 12) : p3 k ≤ 531441 := by
  have : ∀ k : Fin 13, p3 k.1 ≤ 531441 := by decide +kernel
  exact this ⟨k, by omega⟩
theorem fJ_le (n : Nat) (h : n ≤ 12) : n + fJ n ≤ 19 := by
  have : ∀ k : Fin 13, k.1 + fJ k.1 ≤ 19 := by decide +kernel
  exact this ⟨n, by omega⟩
theorem fK_le (n : Nat) (h : n ≤ 12) : n + fK n ≤ 20 := by
  have : ∀ k : Fin 13, k.1 + fK k.1 ≤ 20 := by decide +kernel
  exact this ⟨n, by omega⟩
theorem p2_p3 (n : Nat) (h : n ≤ 12) : p2 n ≤ p3 n := by
  have : ∀ k : Fin 13, p2 k.1 ≤ p3 k.1 := by decide +kernel
  exact this ⟨n, by omega⟩
theorem fJ_on (n : Nat) (h : n ≤ 12) (j : Nat) (hj : j < fJ n) : 2 * p2 (n + j) ≤ p3 n := by
  have : ∀ k : Fin 13, ∀ j : Fin 8, j.1 < fJ k.1 → 2 * p2 (k.1 + j.1) ≤ p3 k.1 := by decide +kernel
  have h7 : ∀ k : Fin 13, fJ k.1 ≤ 7 := by decide +kernel
  have h8 := h7 ⟨n, by omega⟩
  simp only at h8
  exact this ⟨n, by omega⟩ ⟨j, by omega⟩ hj
theorem fJ_off (n : Nat) (h : n ≤ 12) : p3 n < 2 * p2 (n + fJ n) := by
  have : ∀ k : Fin 13, p3 k.1 < 2 * p2 (k.1 + fJ k.1) := by decide +kernel
  exact this ⟨n, by omega⟩
theorem fK_on (n : Nat) (h : n ≤ 12) (j : Nat) (hj : j < fK n) : p2 (n + j) < p3 n := by
  have : ∀ k : Fin 13, ∀ j : Fin 9, j.1 < fK k.1 → p2 (k.1 + j.1) < p3 k.1 := by decide +kernel
  have h7 : ∀ k : Fin 13, fK k.1 ≤ 8 := by decide +kernel
  have h8 := h7 ⟨n, by omega⟩
  simp only at h8
  exact this ⟨n, by omega⟩ ⟨j, by omega⟩ hj
theorem fK_off (n : Nat) (h : n ≤ 12) : p3 n ≤ p2 (n + fK n) ∧ p2 (n + fK n) < 2 * p3 n := by
  have : ∀ k : Fin 13, p3 k.1 ≤ p2 (k.1 + fK k.1) ∧ p2 (k.1 + fK k.1) < 2 * p3 k.1 := by decide +kernel
  exact this ⟨n, by omega⟩
theorem fJ_G (n : Nat) (h : n ≤ 12) : p3 n / G (p3 n) (p2 (n + fJ n)) = p3 n ∧ p2 (n + fJ n) / G (p3 n) (p2 (n + fJ n)) = p2 (n + fJ n) ∧ rvB (p3 n) (p2 (n + fJ n)) = true := by
  have : ∀ k : Fin 13, p3 k.1 / G (p3 k.1) (p2 (k.1 + fJ k.1)) = p3 k.1 ∧ p2 (k.1 + fJ k.1) / G (p3 k.1) (p2 (k.1 + fJ k.1)) = p2 (k.1 + fJ k.1) ∧ rvB (p3 k.1) (p2 (k.1 + fJ k.1)) = true := by decide +kernel
  exact this ⟨n, by omega⟩
theorem fK_G (n : Nat) (h : n ≤ 12) : p2 (n + fK n) / G (p2 (n + fK n)) (p3 n) = p2 (n + fK n) ∧ p3 n / G (p2 (n + fK n)) (p3 n) = p3 n ∧ rvB (p2 (n + fK n)) (p3 n) = true := by
  have : ∀ k : Fin 13, p2 (k.1 + fK k.1) / G (p2 (k.1 + fK k.1)) (p3 k.1) = p2 (k.1 + fK k.1) ∧ p3 k.1 / G (p2 (k.1 + fK k.1)) (p3 k.1) = p3 k.1 ∧ rvB (p2 (k.1 + fK k.1)) (p3 k.1) = true := by decide +kernel
  exact this ⟨n, by omega⟩

theorem lt_val (x y n d : Int) (w : World) (h0 : 0 < x) (h1 : 0 < y) (h2 : x ≤ 9223372036854775807) (h3 : y ≤ 9223372036854775807) (hn : x / G x y = n) (hd : y / G x y = d) (hv : rvB n d = true) :
    Calls Try.prog 44 #[.int .i64 x, .int .i64 y] w fun e w' => e = .returned (.tuple #[.agg #[.int .i64 n, .int .i64 d], .bool true]) ∧ Below w.heap.size w w' := by
  have := lt_true x y w h0 h1 h2 h3 (by rw [hn, hd]; exact hv)
  rw [hn, hd] at this; exact this
theorem slt_val (x y n d : Int) (w : World) (h0 : 0 < x) (h1 : 0 < y) (h2 : x ≤ 9223372036854775807) (h3 : y ≤ 9223372036854775807) (hn : x / G x y = n) (hd : y / G x y = d) (hv : rvB n d = true) :
    Calls Try.prog 46 #[.int .i64 x, .int .i64 y] w fun e w' => e = .returned (.tuple #[.agg #[.int .i64 n, .int .i64 d], .bool true]) ∧ Below w.heap.size w w' := by
  have := slt_true x y w h0 h1 h2 h3 (by rw [hn, hd]; exact hv)
  rw [hn, hd] at this; exact this

set_option maxHeartbeats 400000 in
theorem sfi_no (x : Int) (w : World) (hh : x < -12 ∨ 12 < x) :
    Calls Try.prog 53 #[.int .i64 x] w fun e w' => e = .returned (.tuple #[.agg #[.int .i64 0, .int .i64 0], .bool false]) ∧ Below w.heap.size w w' := by
  rcases hh with hh | hh
  · go_enter Try.func53, Try.ntmps53
    go_wp2
    refine bodyPost_ret (v := .tuple #[.agg #[.int .i64 0, .int .i64 0], .bool false]) (by simp (maxDischargeDepth := 3) [results, Try.results53, go_sem, *]) rfl ⟨rfl, ?_⟩
    repeat (first | (with_reducible assumption) | (with_reducible exact bel_refl _) | (with_reducible refine bel_dr ?_) | (with_reducible refine bel_drN ?_ _) | (with_reducible refine bel_al ?_ _) | (refine bel_set ?_ (by (try simp) <;> omega) _) | (with_reducible refine bel_tr ?_ (by assumption)))
  · have hh2 : -12 ≤ x := by omega
    have hd : decide (x ≤ 12) = false := by simp; omega
    go_enter Try.func53, Try.ntmps53
    go_wp2
    refine bodyPost_ret (v := .tuple #[.agg #[.int .i64 0, .int .i64 0], .bool false]) (by simp (maxDischargeDepth := 3) [results, Try.results53, go_sem, *]) rfl ⟨rfl, ?_⟩
    repeat (first | (with_reducible assumption) | (with_reducible exact bel_refl _) | (with_reducible refine bel_dr ?_) | (with_reducible refine bel_drN ?_ _) | (with_reducible refine bel_al ?_ _) | (refine bel_set ?_ (by (try simp) <;> omega) _) | (with_reducible refine bel_tr ?_ (by assumption)))

set_option maxHeartbeats 1000000 in
theorem sfi_up (n : Nat) (w : World) (hn : n ≤ 12) :
    Calls Try.prog 53 #[.int .i64 (n : Int)] w fun e w' => e = .returned (.tuple #[.agg #[.int .i64 (p3 n), .int .i64 (p2 (n + fJ n))], .bool true]) ∧ Below w.heap.size w w' := by
  go_enter Try.func53, Try.ntmps53
  have hnn : (0 : Int) ≤ (n : Int) := by omega
  have hn2 : (n : Int) ≤ 12 := by omega
  have hn3 : -12 ≤ (n : Int) := by omega
  go_wp2_with (go_at_call 26; refine (swin_yes _ _ _ _ (by omega) (by omega)).mono ?_; rintro e w' ⟨rfl, rfl⟩)
  go_loop [4, 5, 6] (fun a b i => ∃ k : Nat, k ≤ n ∧ i = .int .i64 k ∧ a = .int .i64 (p3 k) ∧ b = .int .i64 (p2 k)) (fun _ _ i => n - (intOf i).toNat)
  case atStart => exact ⟨0, by omega, rfl, rfl, rfl⟩
  case round =>
    obtain ⟨k, hk, rfl, rfl, rfl⟩ := hrel
    have b1 := p3_le k (by omega)
    have b2 := p2_le k (by omega)
    have b3 := p3_pos k
    have b4 := p2_pos k
    by_cases hlt : k < n
    · go_wp2
      go_round
      case rel => exact ⟨k + 1, by omega, by go_num, by rw [p3_succ], by rw [p2_succ]⟩
      case measure => simp [intOf]; omega
    · obtain rfl : k = n := by omega
      have hge := p2_p3 k hn
      go_wp2
      go_loop [4, 5, 7] (fun a b i => a = .int .i64 (p3 k) ∧ b = .int .i64 (p2 k) ∧ i = .int .i64 0) (fun _ _ _ => 0)
      case atStart => exact ⟨rfl, rfl, rfl⟩
      case round =>
        obtain ⟨rfl, rfl, rfl⟩ := hrel
        have hneg : ¬ 0 < -(k : Int) := by omega
        go_wp2
        go_loop [4] (fun a => a = .int .i64 (p3 k)) (fun _ => 0)
        case atStart => rfl
        case round =>
          obtain rfl := hrel
          go_wp2
          go_loop [5] (fun b => ∃ j : Nat, j ≤ fJ k ∧ b = .int .i64 (p2 (k + j))) (fun b => (2000000 - intOf b).toNat)
          case atStart => exact ⟨0, by omega, rfl⟩
          case round =>
            obtain ⟨j, hj, rfl⟩ := hrel
            have hJ := fJ_le k hn
            have c1 := p2_le (k + j) (by omega)
            have c2 := p2_pos (k + j)
            by_cases hlt2 : j < fJ k
            · have hon := fJ_on k hn j hlt2
              go_wp2
              go_round
              case rel => exact ⟨j + 1, by omega, by rw [← Nat.add_assoc, p2_succ] <;> (congr 1; omega)⟩
              case measure => simp [intOf]; omega
            · obtain rfl : j = fJ k := by omega
              have hoff := fJ_off k hn
              obtain ⟨g1, g2, g3⟩ := fJ_G k hn
              have G1 := Lib.hid g1
              have G2 := Lib.hid g2
              clear g1 g2
              go_wp2_with (go_at_call 46; refine (slt_val _ _ _ _ _ b3 c2 (by omega) (by omega) G1.out G2.out g3).mono ?_; rintro e w1 ⟨rfl, hb1⟩; obtain ⟨bc1, bf1⟩ := bcell hb1)
              refine bodyPost_ret (v := .tuple #[.agg #[.int .i64 (p3 k), .int .i64 (p2 (k + fJ k))], .bool true]) (by simp [results, Try.results53, go_sem, bc1]) rfl ⟨rfl, ?_⟩
              repeat (first | (with_reducible assumption) | (with_reducible exact bel_refl _) | (with_reducible refine bel_dr ?_) | (with_reducible refine bel_drN ?_ _) | (with_reducible refine bel_al ?_ _) | (refine bel_set ?_ (by (try simp) <;> omega) _) | (with_reducible refine bel_tr ?_ (by assumption)))

set_option maxHeartbeats 1000000 in
theorem sfi_dn (n : Nat) (w : World) (h1 : 1 ≤ n) (hn : n ≤ 12) :
    Calls Try.prog 53 #[.int .i64 (-(n : Int))] w fun e w' => e = .returned (.tuple #[.agg #[.int .i64 (p2 (n + fK n)), .int .i64 (p3 n)], .bool true]) ∧ Below w.heap.size w w' := by
  go_enter Try.func53, Try.ntmps53
  have hnn : (0 : Int) < (n : Int) := by omega
  have hn2 : (n : Int) ≤ 12 := by omega
  go_wp2_with (go_at_call 26; refine (swin_yes _ _ _ _ (by omega) (by omega)).mono ?_; rintro e w' ⟨rfl, rfl⟩)
  go_loop [4, 5, 6] (fun a b i => a = .int .i64 1 ∧ b = .int .i64 1 ∧ i = .int .i64 0) (fun _ _ _ => 0)
  case atStart => exact ⟨rfl, rfl, rfl⟩
  case round =>
    obtain ⟨rfl, rfl, rfl⟩ := hrel
    have hneg : ¬ 0 < -(n : Int) := by omega
    go_wp2
    go_loop [4, 5, 7] (fun b a i => ∃ k : Nat, k ≤ n ∧ i = .int .i64 k ∧ a = .int .i64 (p3 k) ∧ b = .int .i64 (p2 k)) (fun _ _ i => n - (intOf i).toNat)
    case atStart => exact ⟨0, by omega, rfl, rfl, rfl⟩
    case round =>
      obtain ⟨k, hk, rfl, rfl, rfl⟩ := hrel
      have b1 := p3_le k (by omega)
      have b2 := p2_le k (by omega)
      have b3 := p3_pos k
      have b4 := p2_pos k
      by_cases hlt : k < n
      · go_wp2
        go_round
        case rel => exact ⟨k + 1, by omega, by go_num, by rw [p3_succ], by rw [p2_succ]⟩
        case measure => simp [intOf]; omega
      · obtain rfl : k = n := by omega
        go_wp2
        go_loop [4] (fun a => ∃ j : Nat, j ≤ fK k ∧ a = .int .i64 (p2 (k + j))) (fun a => (2000000 - intOf a).toNat)
        case atStart => exact ⟨0, by omega, rfl⟩
        case round =>
          obtain ⟨j, hj, rfl⟩ := hrel
          have hJ := fK_le k hn
          have c1 := p2_le (k + j) (by omega)
          have c2 := p2_pos (k + j)
          by_cases hlt2 : j < fK k
          · have hon := fK_on k hn j hlt2
            go_wp2
            go_round
            case rel => exact ⟨j + 1, by omega, by rw [← Nat.add_assoc, p2_succ] <;> (congr 1; omega)⟩
            case measure => simp [intOf]; omega
          · obtain rfl : j = fK k := by omega
            obtain ⟨off1, off2⟩ := fK_off k hn
            go_wp2
            go_loop [5] (fun b => b = .int .i64 (p3 k)) (fun _ => 0)
            case atStart => rfl
            case round =>
              obtain rfl := hrel
              obtain ⟨g1, g2, g3⟩ := fK_G k hn
              have G1 := Lib.hid g1
              have G2 := Lib.hid g2
              clear g1 g2
              go_wp2_with (go_at_call 46; refine (slt_val _ _ _ _ _ c2 b3 (by omega) (by omega) G1.out G2.out g3).mono ?_; rintro e w1 ⟨rfl, hb1⟩; obtain ⟨bc1, bf1⟩ := bcell hb1)
              refine bodyPost_ret (v := .tuple #[.agg #[.int .i64 (p2 (k + fK k)), .int .i64 (p3 k)], .bool true]) (by simp [results, Try.results53, go_sem, bc1]) rfl ⟨rfl, ?_⟩
              repeat (first | (with_reducible assumption) | (with_reducible exact bel_refl _) | (with_reducible refine bel_dr ?_) | (with_reducible refine bel_drN ?_ _) | (with_reducible refine bel_al ?_ _) | (refine bel_set ?_ (by (try simp) <;> omega) _) | (with_reducible refine bel_tr ?_ (by assumption)))

end Go.Proofs.Ytgjjoaffmflbgaa
