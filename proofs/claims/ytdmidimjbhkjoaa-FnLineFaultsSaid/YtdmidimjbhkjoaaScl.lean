/- How many lines there are: the reference. Whether a search is possible. -/
import Derived.Test.YtdmidimjbhkjoaaSct
import Derived.Test.YtdmidimjbhkjoaaCl
import Derived.Deep.DeepCutAuto
namespace Go.Proofs.Ytdmidimjbhkjoaa
set_option linter.unusedSimpArgs false
set_option linter.unusedVariables false
open Go.RowKit

theorem atPi_mem {T : List Pi} {k : Nat} (h : k < T.length) : atPi T k ∈ T := by
  unfold atPi
  simp [List.getD_eq_getElem?_getD, h]
theorem tns_pv {f lo hi : Int} {T : List Pi} (hT : tns f lo hi = T) (h0 : 0 ≤ lo) : ∀ k, k < T.length → -2 ≤ kyP (atPi T k) := fun k hk => by
  have := tns_mem (f := f) (lo := lo) (hi := hi) (p := atPi T k) (by rw [hT]; exact atPi_mem hk)
  omega
theorem cv_pv {f : Int} {c : List Pi} (h : cvB f c = true) : ∀ k, k < c.length → -2 ≤ kyP (atPi c k) := fun k hk => kyP_pv (ikP_pv ((cvB_of h).2.2 k hk))
theorem opB_cv {f : Int} {c : List Pi} {lo hi : Int} (h : cvB f c = false) : opB f c lo hi = false := by unfold opB; rw [h]; rfl
theorem opB_no {f : Int} {c : List Pi} {lo hi : Int} (h : ¬ ((0 ≤ lo ∧ lo ≤ 107) ∧ lo ≤ hi ∧ hi ≤ 107 ∧ hi - lo ≤ 30)) : opB f c lo hi = false := by unfold opB; rw [decide_eq_false h, Bool.and_false]
theorem opB_yes {f : Int} {c : List Pi} {lo hi : Int} (h0 : cvB f c = true) (h : (0 ≤ lo ∧ lo ≤ 107) ∧ lo ≤ hi ∧ hi ≤ 107 ∧ hi - lo ≤ 30) : opB f c lo hi = true := by unfold opB; rw [decide_eq_true h, h0]; rfl
set_option maxHeartbeats 4000000 in
theorem sop_any (f : Int) (c : List Pi) (A : Option Addr) (n c1 : Nat) (lo hi : Int) (w : World) (hn : c.length = n) (hm : n ≤ 2000000) (hc : RowPi w w.heap.size A c) :
    Calls Try.prog 52 #[.int .i64 f, .slice A n c1, .int .i64 lo, .int .i64 hi] w fun e w' => e = .returned (.bool (opB f c lo hi)) ∧ Below w.heap.size w w' := by
  subst hn
  cases hcv : cvB f c
  · have HC := Lib.hid hcv
    have HB := Lib.hid (opB_cv (lo := lo) (hi := hi) hcv)
    clear hcv
    go_enter Try.func52, Try.ntmps52
    go_wp2_with fail
    refine (scv_val HC.out _ _ _ _ rfl hm hc).mono ?_
    rintro e1 w1 ⟨rfl, b1⟩
    go_wp2_with (first | (go_at_call 37; refine (swin_yes _ _ _ _ (by omega) (by omega)).mono ?_; rintro e w' ⟨rfl, rfl⟩) | (go_at_call 37; refine (swin_no _ _ _ _ (by omega)).mono ?_; rintro e w' ⟨rfl, rfl⟩))
    go_ret
    exact ⟨ret_bool HB.out.symm, b1⟩
  · have HC := Lib.hid hcv
    by_cases h1 : 0 ≤ lo ∧ lo ≤ 107
    · obtain ⟨l0, l1⟩ := h1
      by_cases h2 : lo ≤ hi ∧ hi ≤ 107
      · obtain ⟨l2, l3⟩ := h2
        have iw := IntWalk.i64_in (hi - lo) (by omega)
        by_cases h3 : hi - lo ≤ 30
        · have HB := Lib.hid (opB_yes hcv ⟨⟨l0, l1⟩, l2, l3, h3⟩)
          clear hcv
          go_enter Try.func52, Try.ntmps52
          go_wp2_with fail
          refine (scv_val HC.out _ _ _ _ rfl hm hc).mono ?_
          rintro e1 w1 ⟨rfl, b1⟩
          go_wp2_with (first | (go_at_call 37; refine (swin_yes _ _ _ _ (by omega) (by omega)).mono ?_; rintro e w' ⟨rfl, rfl⟩) | (go_at_call 37; refine (swin_no _ _ _ _ (by omega)).mono ?_; rintro e w' ⟨rfl, rfl⟩))
          go_ret
          exact ⟨ret_bool HB.out.symm, b1⟩
        · have HB := Lib.hid (opB_no (f := f) (c := c) (lo := lo) (hi := hi) (fun h => h3 h.2.2.2))
          have hd3 : decide (hi - lo ≤ 30) = false := decide_eq_false h3
          clear hcv
          go_enter Try.func52, Try.ntmps52
          go_wp2_with fail
          refine (scv_val HC.out _ _ _ _ rfl hm hc).mono ?_
          rintro e1 w1 ⟨rfl, b1⟩
          go_wp2_with (first | (go_at_call 37; refine (swin_yes _ _ _ _ (by omega) (by omega)).mono ?_; rintro e w' ⟨rfl, rfl⟩) | (go_at_call 37; refine (swin_no _ _ _ _ (by omega)).mono ?_; rintro e w' ⟨rfl, rfl⟩))
          go_ret
          exact ⟨ret_bool HB.out.symm, b1⟩
      · have HB := Lib.hid (opB_no (f := f) (c := c) (lo := lo) (hi := hi) (fun h => h2 ⟨h.2.1, h.2.2.1⟩))
        have h3 : hi < lo ∨ 107 < hi := by omega
        clear h2 hcv
        go_enter Try.func52, Try.ntmps52
        go_wp2_with fail
        refine (scv_val HC.out _ _ _ _ rfl hm hc).mono ?_
        rintro e1 w1 ⟨rfl, b1⟩
        go_wp2_with (first | (go_at_call 37; refine (swin_yes _ _ _ _ (by omega) (by omega)).mono ?_; rintro e w' ⟨rfl, rfl⟩) | (go_at_call 37; refine (swin_no _ _ _ _ (by omega)).mono ?_; rintro e w' ⟨rfl, rfl⟩))
        go_ret
        exact ⟨ret_bool HB.out.symm, b1⟩
    · have HB := Lib.hid (opB_no (f := f) (c := c) (lo := lo) (hi := hi) (fun h => h1 h.1))
      have h2 : lo < 0 ∨ 107 < lo := by omega
      clear h1 hcv
      go_enter Try.func52, Try.ntmps52
      go_wp2_with fail
      refine (scv_val HC.out _ _ _ _ rfl hm hc).mono ?_
      rintro e1 w1 ⟨rfl, b1⟩
      go_wp2_with (first | (go_at_call 37; refine (swin_yes _ _ _ _ (by omega) (by omega)).mono ?_; rintro e w' ⟨rfl, rfl⟩) | (go_at_call 37; refine (swin_no _ _ _ _ (by omega)).mono ?_; rintro e w' ⟨rfl, rfl⟩))
      go_ret
      exact ⟨ret_bool HB.out.symm, b1⟩
theorem sop_val {f : Int} {c : List Pi} {lo hi : Int} {v : Bool} (hv : opB f c lo hi = v) (A : Option Addr) (n c1 : Nat) (w : World) (hn : c.length = n) (hm : n ≤ 2000000) (hc : RowPi w w.heap.size A c) :
    Calls Try.prog 52 #[.int .i64 f, .slice A n c1, .int .i64 lo, .int .i64 hi] w fun e w' => e = .returned (.bool v) ∧ Below w.heap.size w w' := by
  have := sop_any f c A n c1 lo hi w hn hm hc
  rw [hv] at this
  exact this
set_option maxRecDepth 20000 in
set_option maxHeartbeats 4000000 in
theorem scl_any (f : Int) (c : List Pi) (A : Option Addr) (n c1 : Nat) (lo hi : Int) (w : World) (hn : c.length = n) (hm : n ≤ 2000000) (hc : RowPi w w.heap.size A c) :
    Calls Try.prog 32 #[.int .i64 f, .slice A n c1, .int .i64 lo, .int .i64 hi] w fun e w' => e = .returned (.int .i64 (clI f c lo hi)) ∧ Below w.heap.size w w' := by
  subst hn
  cases ho : opB f c lo hi
  · have HO := Lib.hid ho
    have HL := Lib.hid (clI_no ho)
    clear ho
    go_enter Try.func32, Try.ntmps32
    go_wp2_with fail
    refine (sop_val HO.out A c.length c1 _ rfl hm hc).mono ?_
    rintro e1 w1 ⟨rfl, b1⟩
    go_wp2
    go_ret
    exact ⟨ret_int HL.out.symm, b1⟩
  · obtain ⟨n2, n10⟩ := op_len ho
    obtain ⟨hcv, ⟨g0, g1⟩, g2, g3, g4⟩ := opB_of ho
    obtain ⟨⟨f0, f1⟩, _, _⟩ := cvB_of hcv
    have HO := Lib.hid ho
    have HCV := Lib.hid (cv_pv hcv)
    have HL := Lib.hid (clI_yes ho)
    obtain ⟨T, hT⟩ : ∃ T, tns f lo hi = T := ⟨_, rfl⟩
    have hT63 : T.length ≤ 63 := by rw [← hT]; exact tns_len _ _ _
    have HTV := Lib.hid (tns_pv hT g0)
    have HT := Lib.hid hT
    clear ho hT hcv
    go_enter Try.func32, Try.ntmps32
    go_wp2_with fail
    refine (sop_val HO.out A c.length c1 _ rfl hm hc).mono ?_
    rintro e1 w1 ⟨rfl, b1⟩
    go_wp2_with fail
    refine (skt_any f lo hi _ f0 f1 g0 g2 g3).mono ?_
    rw [HT.out]
    rintro e2 w2 ⟨v2, rfl, o2, b2⟩
    obtain ⟨AT, cT, rfl, _, _, rT, _⟩ := own_rowPi o2
    clear o2
    go_wp2_with fail
    refine (sct_any f c T A c.length c1 AT T.length cT _ rfl n2 n10 rfl hT63 (hc.below (bel_tr b1 b2)) rT HCV.out HTV.out).mono ?_
    rintro e3 w3 ⟨G, cap, rfl, hcap, hTab, b3⟩
    have bw := bel_tr (bel_tr b1 b2) b3
    obtain ⟨r, y1, y2, y3, y4, y5, y6⟩ := hTab.row 0 (Nat.le_refl _) (by omega)
    have hc0 : (0 : Int) < (c.length : Int) := by omega
    clear b1 b2 b3 rT
    go_wp2
    go_loopw [10, 11] (fun o i wr => ∃ j : Nat, j ≤ T.length ∧ i = .int .i64 j ∧ o = .int .i64 (sumK (cnI f c T 0) T j) ∧ Below w3.heap.size w3 wr) (fun _ i _ => T.length - (intOf i).toNat)
    case atStart => exact ⟨0, Nat.zero_le _, rfl, rfl, bel_refl _⟩
    case round =>
      obtain ⟨j, hj, rfl, rfl, hb⟩ := hrel
      have y1b := keep_tr y1 hb
      by_cases hlt : j < T.length
      · have y7 := keep_tr (y6 j hlt) hb
        have hjl : (j : Int) < (T.length : Int) := by omega
        have hj0 : (0 : Int) ≤ (j : Int) := by omega
        have hS := sum_bd hT63 (cnI_bd (f := f) (c := c) hT63 n10 0) j (by omega)
        have hN1 := cnI_bd (f := f) (c := c) hT63 n10 0 (atPi T j)
        have hss := sumK_s (cnI f c T 0) T j
        obtain ⟨Sm, hSe⟩ : ∃ Sm, sumK (cnI f c T 0) T j = Sm := ⟨_, rfl⟩
        rw [hSe] at hS hss ⊢
        obtain ⟨N, hNe⟩ : ∃ N, cnI f c T 0 (atPi T j) = N := ⟨_, rfl⟩
        rw [hNe] at hN1 hss y7
        have HSS := Lib.hid hss
        clear hSe hNe hss y6
        obtain ⟨S0, S1⟩ := hS
        obtain ⟨N0, N1⟩ := hN1
        go_wp2
        go_roundw
        case rel => exact ⟨j + 1, by omega, by go_num, by rw [HSS.out], hb⟩
        case measure => simp [intOf]; omega
      · have hjl : j = T.length := by omega
        subst hjl
        go_wp2
        go_ret
        exact ⟨ret_int (by rw [HL.out, HT.out]; rfl), bel_tr bw hb⟩
theorem scl_val {f : Int} {c : List Pi} {lo hi v : Int} (hv : clI f c lo hi = v) (A : Option Addr) (n c1 : Nat) (w : World) (hn : c.length = n) (hm : n ≤ 2000000) (hc : RowPi w w.heap.size A c) :
    Calls Try.prog 32 #[.int .i64 f, .slice A n c1, .int .i64 lo, .int .i64 hi] w fun e w' => e = .returned (.int .i64 v) ∧ Below w.heap.size w w' := by
  have := scl_any f c A n c1 lo hi w hn hm hc
  rw [hv] at this
  exact this
end Go.Proofs.Ytdmidimjbhkjoaa
