/- Whether a line is good: of the program and of the reference. -/
import Derived.Test.YtdmidimjbhkjoaaLf
import Derived.Test.YtdmidimjbhkjoaaSLf
namespace Go.Proofs.Ytdmidimjbhkjoaa
set_option linter.unusedSimpArgs false
set_option linter.unusedVariables false
open Go.RowKit

def lgB (f : Int) (c l : List Pi) : Bool := lfB f c l && decide ((lfL f c l).length = 0)
theorem lgB_no {f : Int} {c l : List Pi} (h : lfB f c l = false) : lgB f c l = false := by unfold lgB; rw [h]; rfl
theorem lgB_is {f : Int} {c l : List Pi} (h : lfB f c l = true) : lgB f c l = (((lfL f c l).length : Int) == 0) := by
  unfold lgB
  rw [h, Bool.true_and, Bool.eq_iff_iff]
  simp
theorem lfB_ap {f : Int} {c l : List Pi} (h : apB l c.length c.length = false) : lfB f c l = false := by unfold lfB; rw [h, Bool.and_false]
theorem lfB_cv {f : Int} {c l : List Pi} (h : cvB f c = false) : lfB f c l = false := by unfold lfB; rw [h]; rfl
set_option maxHeartbeats 2000000 in
theorem lg_any (f : Int) (c l : List Pi) (A : Option Addr) (n c1 : Nat) (A' : Option Addr) (n' c2 : Nat) (w : World) (hn : c.length = n) (hm : n ≤ 2000000) (hn' : l.length = n') (hm' : n' ≤ 2000000) (hc : RowPi w w.heap.size A c) (h : RowPi w w.heap.size A' l) :
    Calls Try.prog 6 #[.int .i64 f, .slice A n c1, .slice A' n' c2] w fun e w' => e = .returned (.bool (lgB f c l)) ∧ Below w.heap.size w w' := by
  subst hn hn'
  cases hcv : cvB f c
  · have HC := Lib.hid hcv
    have HB := Lib.hid (lgB_no (lfB_cv (l := l) hcv))
    clear hcv
    go_enter Try.func6, Try.ntmps6
    go_wp2_with fail
    refine (cv_val HC.out _ _ _ _ rfl hm hc).mono ?_
    rintro e1 w1 ⟨rfl, b1⟩
    go_wp2
    go_ret
    exact ⟨ret_bool HB.out.symm, b1⟩
  cases hap : apB l c.length c.length
  · have HC := Lib.hid hcv
    have HA := Lib.hid hap
    have HB := Lib.hid (lgB_no (f := f) (lfB_ap hap))
    clear hcv hap
    go_enter Try.func6, Try.ntmps6
    go_wp2_with fail
    refine (cv_val HC.out _ _ _ _ rfl hm hc).mono ?_
    rintro e1 w1 ⟨rfl, b1⟩
    go_wp2_with fail
    refine (ap_val HA.out _ _ _ _ rfl hm' (h.below b1)).mono ?_
    rintro e2 w2 ⟨rfl, b2⟩
    go_wp2
    go_ret
    exact ⟨ret_bool HB.out.symm, bel_tr b1 b2⟩
  have hlg := lgB_is (f := f) (c := c) (l := l) (by unfold lfB; rw [hap, hcv]; rfl)
  have HC := Lib.hid hcv
  have HA := Lib.hid hap
  have HG := Lib.hid hlg
  clear hcv hap hlg
  go_enter Try.func6, Try.ntmps6
  go_wp2_with fail
  refine (cv_val HC.out _ _ _ _ rfl hm hc).mono ?_
  rintro e1 w1 ⟨rfl, b1⟩
  go_wp2_with fail
  refine (ap_val HA.out _ _ _ _ rfl hm' (h.below b1)).mono ?_
  rintro e2 w2 ⟨rfl, b2⟩
  have bw := bel_tr b1 b2
  have HCC := hc.below bw
  have HLL := h.below bw
  have hlg := HG.out
  go_wp2_with fail
  refine (lf_any f c l _ _ _ _ _ _ _ rfl hm rfl hm' HCC HLL).mono ?_
  rintro e9 w9 h9
  obtain ⟨A9, c9, rfl, _, _, _, _, b9⟩ := lfR_of h9
  clear h9
  obtain ⟨m, hmm⟩ : ∃ m, (lfL f c l).length = m := ⟨_, rfl⟩
  rw [hmm] at hlg ⊢
  have HLG := Lib.hid hlg
  clear hlg hmm
  go_wp2
  go_ret
  exact ⟨ret_bool HLG.out.symm, bel_tr bw b9⟩
theorem sg_bad {f : Int} {c l : List Pi} (k : Nat) (hk : k < l.length) (h : Hid (¬ pvP (atPi l k))) : lgB f c l = false := lgB_no (lfB_ap (apB_bad k hk h))
set_option maxHeartbeats 2000000 in
theorem slg_any (f : Int) (c l : List Pi) (A : Option Addr) (n c1 : Nat) (A' : Option Addr) (n' c2 : Nat) (w : World) (hn : c.length = n) (hm : n ≤ 2000000) (hn' : l.length = n') (hm' : n' ≤ 2000000) (hc : RowPi w w.heap.size A c) (h : RowPi w w.heap.size A' l) :
    Calls Try.prog 7 #[.int .i64 f, .slice A n c1, .slice A' n' c2] w fun e w' => e = .returned (.bool (lgB f c l)) ∧ Below w.heap.size w w' := by
  subst hn hn'
  go_enter Try.func7, Try.ntmps7
  go_wp2
  go_loopw [7] (fun i wr => ∃ k : Nat, k ≤ l.length ∧ i = .int .i64 k ∧ Below w.heap.size w wr ∧ Hid (∀ j, j < k → pvP (atPi l j))) (fun i _ => l.length - (intOf i).toNat)
  case atStart => exact ⟨0, Nat.zero_le _, rfl, bel_refl _, fun _ h => absurd h (Nat.not_lt_zero _)⟩
  case round =>
    obtain ⟨k, hk, rfl, hb, HV⟩ := hrel
    by_cases hlt : k < l.length
    · obtain ⟨b, off, rfl, hlb, hcl⟩ := (h.below hb) (by omega)
      have hck := hcl k hlt
      have hkl : (k : Int) < (l.length : Int) := by omega
      have hk0 : (0 : Int) ≤ (k : Int) := by omega
      clear hcl
      by_cases hv : pvP (atPi l k)
      · have HB : Hid (pvP (atPi l k)) := hv
        unfold pvP at hv
        generalize atPi l k = t at hck hv
        obtain ⟨p0, p1, p2⟩ := hck
        obtain ⟨s, a, o⟩ := t
        simp only at p0 p1 p2 hv
        have HP := Lib.hid (hv)
        clear hv
        go_wp2_with (go_at_call 18; refine (spv_val HP.out _).mono ?_; rintro e1 w1 ⟨rfl, b1⟩; have hb1 := bel_tr hb b1)
        go_roundw
        case rel => exact ⟨k + 1, by omega, by go_num, hb1, hid_snoc HV HB⟩
        case measure => simp [intOf]; omega
      · have HB : Hid (¬ pvP (atPi l k)) := hv
        unfold pvP at hv
        generalize atPi l k = t at hck hv
        obtain ⟨p0, p1, p2⟩ := hck
        obtain ⟨s, a, o⟩ := t
        simp only at p0 p1 p2 hv
        have HP := Lib.hid (Bool.eq_false_iff.2 hv)
        clear hv
        go_wp2_with (go_at_call 18; refine (spv_val HP.out _).mono ?_; rintro e1 w1 ⟨rfl, b1⟩; have hb1 := bel_tr hb b1)
        go_ret
        exact ⟨ret_bool (sg_bad k hlt HB).symm, hb1⟩
    · have hkl : k = l.length := by omega
      have hnl : ¬ (k : Int) < (l.length : Int) := by omega
      have HVL : Hid (∀ k, k < l.length → pvP (atPi l k)) := fun j hj => HV j (by omega)
      clear HV
      subst hkl
      have hcX := hc.below hb
      have hX := h.below hb
      cases hcv : cvB f c
      · have HC := Lib.hid hcv
        have HB := Lib.hid (lgB_no (lfB_cv (l := l) hcv))
        clear hcv
        go_wp2_with fail
        refine (scv_val HC.out _ _ _ _ rfl hm hcX).mono ?_
        rintro e1 w1 ⟨rfl, b1⟩
        go_wp2
        go_ret
        exact ⟨ret_bool HB.out.symm, bel_tr hb b1⟩
      · by_cases hlen : l.length = c.length
        · have hne : ((l.length : Int) == (c.length : Int)) = true := by simp only [beq_iff_eq]; omega
          have hlg := lgB_is (f := f) (c := c) (l := l) (by unfold lfB; rw [hcv, apB_yes (by omega) (fun j hj => HVL.out j hj)]; rfl)
          have HC := Lib.hid hcv
          have HG := Lib.hid hlg
          clear hcv hlen hlg
          go_wp2_with fail
          refine (scv_val HC.out _ _ _ _ rfl hm hcX).mono ?_
          rintro e1 w1 ⟨rfl, b1⟩
          have bw := bel_tr hb b1
          have HCC := hc.below bw
          have HLL := h.below bw
          have hlg := HG.out
          go_wp2_with fail
          refine (slf_any f c l _ _ _ _ _ _ _ rfl hm rfl hm' HCC HLL).mono ?_
          rintro e9 w9 h9
          obtain ⟨A9, c9, rfl, _, _, _, _, b9⟩ := lfR_of h9
          clear h9
          obtain ⟨m, hmm⟩ : ∃ m, (lfL f c l).length = m := ⟨_, rfl⟩
          rw [hmm] at hlg ⊢
          have HLG := Lib.hid hlg
          clear hlg hmm
          go_wp2
          go_ret
          exact ⟨ret_bool HLG.out.symm, bel_tr bw b9⟩
        · have hne : ((l.length : Int) == (c.length : Int)) = false := by simp only [beq_eq_false_iff_ne, ne_eq]; omega
          have HC := Lib.hid hcv
          have HB := Lib.hid (lgB_no (f := f) (lfB_ap (apB_no (l := l) (lo := c.length) (hi := c.length) (by omega))))
          clear hcv hlen
          go_wp2_with fail
          refine (scv_val HC.out _ _ _ _ rfl hm hcX).mono ?_
          rintro e1 w1 ⟨rfl, b1⟩
          go_wp2
          go_ret
          exact ⟨ret_bool HB.out.symm, bel_tr hb b1⟩
end Go.Proofs.Ytdmidimjbhkjoaa
