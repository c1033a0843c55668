/- The walk of the law FnAnswerHead: for every input it returns true and turns nothing that was there. -/
import Derived.Test.YtacbkmahofmbcaaDrAh
import Derived.Test.YtacbkmahofmbcaaTa
import Derived.Test.YtacbkmahofmbcaaSmA
import Derived.Test.YtacbkmahofmbcaaTaP
namespace Go.Proofs.Ytacbkmahofmbcaa.FnAnswerHead
set_option linter.unusedSimpArgs false
set_option linter.unusedVariables false
open Go.RowKit

set_option maxRecDepth 20000 in
set_option maxHeartbeats 4000000 in
theorem walk (A : Option Addr) (len cap : Nat) (w : World) (h : Cod w A len cap) :
    Calls Try.prog 4 #[.slice A len cap] w fun e w' => e = .returned (.bool true) ∧ Below w.heap.size w w' := by
  by_cases hl : len ≤ 1048576
  · go_enter Try.func4, Try.ntmps4
    go_wp2_with fail
    refine (DrawAnswerHead_any w A len cap h).mono ?_
    rintro e1 w1 ⟨f, m, A1, A2, c1, c2, l, T, rfl, lc1, cm1, lc2, cm2, l7, t7, hr, hs, bw⟩
    unfold maxLen at cm1 cm2
    go_wp2_with fail
    refine (ah_any _ _ _ _ _ _ _ _ f m _ rfl rfl (by omega) (by omega) hr hs).mono ?_
    rintro e2 w2 ⟨x, rfl, hx, b2⟩
    replace hr := hr.below b2
    replace hs := hs.below b2
    replace bw := bel_tr bw b2
    clear b2
    go_wp2_with fail
    refine (sah_any _ _ _ _ _ _ _ _ f m _ rfl rfl (by omega) (by omega) hr hs).mono ?_
    rintro e3 w3 ⟨x2, rfl, hx2, b3⟩
    replace hr := hr.below b3
    replace hs := hs.below b3
    replace bw := bel_tr bw b3
    clear b3
    have hxx := AH_eq hx2 hx
    subst hxx
    clear hx2
    have HX := Lib.hid hx
    clear hx
    go_wp2
    go_loopw [8, 9, 10] (fun i _ _ wr => ∃ k : Nat, k ≤ l.length + 1 ∧ i = .int .i64 k ∧ Below w3.heap.size w3 wr ∧ Hid (∀ j, j < k → ¬ ahP f m l T j)) (fun i _ _ _ => l.length + 1 - (intOf i).toNat)
    case atStart => exact ⟨0, Nat.zero_le _, rfl, bel_refl _, fun j hj => absurd hj (by omega)⟩
    case round =>
      obtain ⟨k, hk, rfl, hb, HK⟩ := hrel
      have hk0 : (0 : Int) ≤ (k : Int) := by omega
      replace hr := hr.below hb
      replace hs := hs.below hb
      by_cases hlt : k ≤ l.length
      · have hkl : (k : Int) ≤ (l.length : Int) := by omega
        obtain ⟨M, hM⟩ : ∃ M, taL f m l (k : Int) = M := ⟨_, rfl⟩
        obtain ⟨B, hB⟩ : ∃ B, taB f m l (k : Int) = B := ⟨_, rfl⟩
        obtain ⟨v, hv⟩ : ∃ v, decide (M = T) = v := ⟨_, rfl⟩
        have HS := Lib.hid (ah_step hM hB hv)
        have hMn : M.length ≤ 60 := by rw [← hM]; exact (taL_len f m l _).1
        have HM := Lib.hid hM
        have HB := Lib.hid hB
        have HV := Lib.hid hv
        clear hM hB hv
        go_wp2_with fail
        refine (ta_val HM.out HB.out _ _ _ _ rfl (by omega) hr).mono ?_
        rintro e4 w4 ⟨A4, c4, rfl, lc4, cm4, hy, o4, b4⟩
        replace hr := hr.below b4
        replace hs := hs.below b4
        have hb4 := bel_tr hb b4
        clear b4 o4
        cases B
        · have HN := Lib.hid (show ¬ ahP f m l T k from fun c => by have := (HS.out.1 c).1; cases this)
          go_wp2
          go_roundw
          case rel => exact ⟨k + 1, by omega, by go_num, hb4, hid_snoc HK HN.out⟩
          case measure => simp [intOf]; omega
        · go_wp2_with fail
          refine (sma_val HV.out _ _ _ _ _ _ _ rfl rfl (by omega) (by omega) hy hs).mono ?_
          rintro e5 w5 ⟨rfl, b5⟩
          have hb5 := bel_tr hb4 b5
          clear b5
          cases v
          · have HN := Lib.hid (show ¬ ahP f m l T k from fun c => by have := (HS.out.1 c).2; cases this)
            go_wp2
            go_roundw
            case rel => exact ⟨k + 1, by omega, by go_num, hb5, hid_snoc HK HN.out⟩
            case measure => simp [intOf]; omega
          · have hxk : Hid (x2 = (k : Int)) := AH_eq HX.out (.inl ⟨k, rfl, hlt, HS.out.2 (by simp), HK.out⟩)
            have hxb : (x2 == (k : Int)) = true := by rw [hxk.out]; simp
            replace bw := bel_tr bw hb5
            go_wp2
            go_ret
            exact ⟨rfl, bw⟩
      · have hkl : k = l.length + 1 := by omega
        subst hkl
        have hnl : ¬ ((l.length + 1 : Nat) : Int) ≤ (l.length : Int) := by omega
        have hx1 : x2 = -1 := AH_eq HX.out (.inr ⟨rfl, fun j hj => HK.out j (by omega)⟩)
        subst hx1
        replace bw := bel_tr bw hb
        clear hb
        go_wp2_with fail
        refine (alive_any _).mono ?_
        rintro e4 w4 ⟨rfl, b4⟩
        replace bw := bel_tr bw b4
        clear b4
        go_wp2
        go_ret
        exact ⟨rfl, bw⟩
  · have hl2 : (1048576 : Int) < (len : Int) := by omega
    go_enter Try.func4, Try.ntmps4
    go_wp2
    go_ret
    exact ⟨rfl, bel_refl _⟩

end Go.Proofs.Ytacbkmahofmbcaa.FnAnswerHead
