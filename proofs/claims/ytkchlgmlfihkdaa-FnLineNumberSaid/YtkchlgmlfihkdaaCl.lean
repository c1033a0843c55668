/- How many lines there are: the program. -/
import Derived.Test.YtkchlgmlfihkdaaLtL
namespace Go.Proofs.Ytkchlgmlfihkdaa
set_option linter.unusedSimpArgs false
set_option linter.unusedVariables false
open Go.RowKit

def clI (f : Int) (c : List Pi) (lo hi : Int) : Int := if opB f c lo hi = true then totI f c (tns f lo hi) else -1
theorem clI_no {f : Int} {c : List Pi} {lo hi : Int} (h : opB f c lo hi = false) : clI f c lo hi = -1 := by unfold clI; rw [if_neg (by rw [h]; simp)]
theorem clI_yes {f : Int} {c : List Pi} {lo hi : Int} (h : opB f c lo hi = true) : clI f c lo hi = totI f c (tns f lo hi) := if_pos h
theorem op_len {f : Int} {c : List Pi} {lo hi : Int} (h : opB f c lo hi = true) : 2 ≤ c.length ∧ c.length ≤ 10 := (cvB_of (opB_of h).1).2.1
theorem totI_bd {f : Int} {c T : List Pi} (hT : T.length ≤ 63) (hc : c.length ≤ 10) : 0 ≤ totI f c T ∧ totI f c T ≤ 984930291881790849 := sum_bd hT (cnI_bd hT hc 0) T.length (Nat.le_refl _)
set_option maxRecDepth 20000 in
set_option maxHeartbeats 4000000 in
theorem cl_any (f : Int) (c : List Pi) (A : Option Addr) (n c1 : Nat) (lo hi : Int) (w : World) (hn : c.length = n) (hm : n ≤ 2000000) (hc : RowPi w w.heap.size A c) :
    Calls Try.prog 31 #[.int .i64 f, .slice A n c1, .int .i64 lo, .int .i64 hi] w fun e w' => e = .returned (.int .i64 (clI f c lo hi)) ∧ Below w.heap.size w w' := by
  subst hn
  cases ho : opB f c lo hi
  · have HO := Lib.hid ho
    have HL := Lib.hid (clI_no ho)
    clear ho
    go_enter Try.func31, Try.ntmps31
    go_wp2_with fail
    refine (lo_no f c A c.length c1 lo hi _ HO.out rfl hm hc).mono ?_
    rintro e1 w1 ⟨rfl, b1⟩
    go_wp2
    go_ret
    exact ⟨ret_int HL.out.symm, b1⟩
  · obtain ⟨n2, n10⟩ := op_len ho
    have HO := Lib.hid ho
    have HL := Lib.hid (clI_yes ho)
    obtain ⟨T, hT⟩ : ∃ T, tns f lo hi = T := ⟨_, rfl⟩
    have hT63 : T.length ≤ 63 := by rw [← hT]; exact tns_len _ _ _
    have HT := Lib.hid hT
    clear ho hT
    go_enter Try.func31, Try.ntmps31
    go_wp2_with fail
    refine (lo_yes f c A c.length c1 lo hi _ HO.out rfl hm hc).mono ?_
    rw [HT.out]
    rintro e1 w1 ⟨P, G, AT, cT, rfl, hPw, hP, hTr, hTab, b1⟩
    obtain ⟨l0, l1, l2, l3⟩ := hP.at
    obtain ⟨r, y1, y2, y3, y4, y5, y6⟩ := hTab.row 0 (Nat.le_refl _) (by omega)
    have hc0 : (0 : Int) < (c.length : Int) := by omega
    go_wp2
    clear l0 l1 l2 l3 y1
    go_loopw [11, 13, 31] (fun o _ i wr => ∃ j : Nat, j ≤ T.length ∧ i = .int .i64 j ∧ o = .int .i64 (sumK (cnI f c T 0) T j) ∧ Below w1.heap.size w1 wr) (fun _ _ i _ => T.length - (intOf i).toNat)
    case atStart => exact ⟨0, Nat.zero_le _, rfl, rfl, bel_refl _⟩
    case round =>
      obtain ⟨j, hj, rfl, rfl, hb⟩ := hrel
      by_cases hlt : j < T.length
      · have y7 := keep_tr (y6 j hlt) hb
        have hjl : (j : Int) < (T.length : Int) := by omega
        have hj0 : (0 : Int) ≤ (j : Int) := by omega
        have hS := sum_bd hT63 (cnI_bd (f := f) (c := c) hT63 n10 0) j (by omega)
        have hN1 := cnI_bd (f := f) (c := c) hT63 n10 0 (atPi T j)
        have hss := sumK_s (cnI f c T 0) T j
        obtain ⟨S, hSe⟩ : ∃ S, sumK (cnI f c T 0) T j = S := ⟨_, rfl⟩
        rw [hSe] at hS hss ⊢
        obtain ⟨N, hNe⟩ : ∃ N, cnI f c T 0 (atPi T j) = N := ⟨_, rfl⟩
        rw [hNe] at hN1 hss y7
        have HSS := Lib.hid hss
        clear hSe hNe hss y6
        obtain ⟨S0, S1⟩ := hS
        obtain ⟨N0, N1⟩ := hN1
        go_wp2
        go_roundw
        case rel => exact ⟨j + 1, by omega, by go_num, by rw [HSS.out], hb⟩
        case measure => simp [intOf]; omega
      · have hjl : j = T.length := by omega
        subst hjl
        go_wp2
        go_ret
        exact ⟨ret_int (by rw [HL.out, HT.out]; rfl), bel_tr b1 hb⟩
end Go.Proofs.Ytkchlgmlfihkdaa
