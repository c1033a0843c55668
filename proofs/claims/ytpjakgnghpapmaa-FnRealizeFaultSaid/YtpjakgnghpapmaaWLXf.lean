/- The walk of the law FnRealizeFault: for every input it returns true and turns nothing that was there. -/
import Derived.Test.YtpjakgnghpapmaaDrRf
import Derived.Test.YtpjakgnghpapmaaRbK
import Derived.Test.YtpjakgnghpapmaaRfV
import Derived.Test.YtpjakgnghpapmaaBa
namespace Go.Proofs.Ytpjakgnghpapmaa.FnRealizeFault
set_option linter.unusedSimpArgs false
set_option linter.unusedVariables false
open Go.RowKit
theorem rf_cases (f : Int) (bs : List Pi) (gs : List Int) (ll : List (List Pi)) : rfI f bs gs ll = -1 ∨ ∃ k : Nat, rfI f bs gs ll = (k : Int) := by
  by_cases h : rfP f bs gs ll
  · rw [rfI_yes h]
    rcases fstI_cases (bdB f bs gs ll) ll.length with ⟨e, _⟩ | ⟨k, _, e, _⟩
    · exact .inl e
    · exact .inr ⟨k, e⟩
  · exact .inl (rfI_no h)

set_option maxRecDepth 20000 in
set_option maxHeartbeats 4000000 in
theorem walk (A : Option Addr) (len cap : Nat) (w : World) (h : Cod w A len cap) :
    Calls Try.prog 6 #[.slice A len cap] w fun e w' => e = .returned (.bool true) ∧ Below w.heap.size w w' := by
  by_cases hl : len ≤ 1048576
  · go_enter Try.func6, Try.ntmps6
    go_wp2_with fail
    refine (DrawRealizeFault_any w A len cap h).mono ?_
    rintro e1 w1 ⟨f, A1, c1, bs, A2, c2, gs, A3, c3, ll, rfl, hb3, hg4, hl9, hsh, lc1, cm1, lc2, cm2, lc3, cm3, hr1, hr2, hr3, bw⟩
    unfold maxLen at cm1 cm2 cm3
    have HBG : Hid (∀ i, i < ll.length → (atPP ll i).length ≤ 2000000) := fun i hi => by have := hsh i hi; omega
    obtain ⟨v, hv⟩ : ∃ v, rfI f bs gs ll = v := ⟨_, rfl⟩
    have hcs := rf_cases f bs gs ll
    rw [hv] at hcs
    have HV := Lib.hid hv
    clear hv hsh
    go_wp2_with fail
    refine (rf_val HV.out _ _ _ _ _ _ _ _ _ _ rfl rfl rfl (by omega) (by omega) (by omega) hr1 hr2 hr3 HBG.out).mono ?_
    rintro e2 w2 ⟨rfl, b2⟩
    replace hr1 := hr1.below b2
    replace hr2 := hr2.below b2
    replace hr3 := hr3.below b2
    replace bw := bel_tr bw b2
    clear b2
    go_wp2_with fail
    refine (srf_val HV.out _ _ _ _ _ _ _ _ _ _ rfl rfl rfl (by omega) (by omega) (by omega) hr1 hr2 hr3 HBG.out).mono ?_
    rintro e3 w3 ⟨rfl, b3⟩
    replace hr1 := hr1.below b3
    replace hr2 := hr2.below b3
    replace hr3 := hr3.below b3
    replace bw := bel_tr bw b3
    clear b3
    rcases hcs with rfl | ⟨k, rfl⟩
    · go_wp2_with fail
      refine (alive_any _).mono ?_
      rintro e4 w4 ⟨rfl, b4⟩
      replace bw := bel_tr bw b4
      clear b4
      go_wp2
      go_ret
      exact ⟨rfl, bw⟩
    · obtain ⟨hkl, e1, e2, h8, q1, q2⟩ := rf_prefix HV.out
      obtain ⟨p, hp⟩ : ∃ p : Nat, k + 1 = p := ⟨_, rfl⟩
      rw [hp] at q2
      have HQ1 := Lib.hid q1
      have HQ2 := Lib.hid q2
      have hkn : (k : Int) < (ll.length : Int) := by omega
      have hk0 : (0 : Int) ≤ (k : Int) := by omega
      have hkz : ¬ (k : Int) < 0 := by omega
      have hkd : decide ((k : Int) < 0) = false := decide_eq_false hkz
      have hpi : (k : Int) + 1 = (p : Int) := by omega
      have hp0 : (0 : Int) ≤ (p : Int) := by omega
      have a1 : k ≤ c1 := by omega
      have a2 : k ≤ c2 := by omega
      have a3 : k ≤ c3 := by omega
      have a4 : p ≤ c1 := by omega
      have a5 : p ≤ c2 := by omega
      have a6 : p ≤ c3 := by omega
      have a7 : k ≤ bs.length := by omega
      have a8 : k ≤ gs.length := by omega
      have a9 : k ≤ ll.length := by omega
      have d7 : p ≤ bs.length := by omega
      have d8 : p ≤ gs.length := by omega
      have d9 : p ≤ ll.length := by omega
      have z1 : (k : Int) ≤ (c1 : Int) := by omega
      have z2 : (k : Int) ≤ (c2 : Int) := by omega
      have z3 : (k : Int) ≤ (c3 : Int) := by omega
      have z4 : (p : Int) ≤ (c1 : Int) := by omega
      have z5 : (p : Int) ≤ (c2 : Int) := by omega
      have z6 : (p : Int) ≤ (c3 : Int) := by omega
      have LA : ∀ xL : Later w3, Calls Try.prog 27 #[.int .i64 f, .slice A1 k c1, .slice A2 k c2, .slice A3 k c3] xL.world fun e w'' => e = .returned (.int .i64 (-1)) ∧ ∃ z : Later w3, w'' = z.world := fun xL => later_call (rf_val HQ1.out A1 A2 A3 k k k c1 c2 c3 xL.world (by rw [List.length_take]; omega) (by rw [List.length_take]; omega) (by rw [List.length_take]; omega) (by omega) (by omega) (by omega) ((hr1.take k).below xL.bel) ((hr2.take k).below xL.bel) ((hr3.take k).below xL.bel) (fun i hi => by rw [List.length_take] at hi; rw [atPP_take (by omega)]; exact HBG.out i (by omega)))
      have LB : ∀ xL : Later w3, Calls Try.prog 27 #[.int .i64 f, .slice A1 p c1, .slice A2 p c2, .slice A3 p c3] xL.world fun e w'' => e = .returned (.int .i64 k) ∧ ∃ z : Later w3, w'' = z.world := fun xL => later_call (rf_val HQ2.out A1 A2 A3 p p p c1 c2 c3 xL.world (by rw [List.length_take]; omega) (by rw [List.length_take]; omega) (by rw [List.length_take]; omega) (by omega) (by omega) (by omega) ((hr1.take p).below xL.bel) ((hr2.take p).below xL.bel) ((hr3.take p).below xL.bel) (fun i hi => by rw [List.length_take] at hi; rw [atPP_take (by omega)]; exact HBG.out i (by omega)))
      clear q1 q2 hp e1 e2 a7 a8 a9 d7 d8 d9 hr1 hr2 hr3
      go_upto_region 9 with fail
      refine region_later (w0 := w3) (by kernel_rfl) (by kernel_rfl) (bel_refl _) ?_
      repeat (go_big_quiet_step ((first | (go_at_call 27; with_reducible exact LA _) | (go_at_call 27; with_reducible exact LB _))))
      refine wpQuiet_nil ?_
      rintro w' ⟨x, rfl⟩
      obtain ⟨w9, b9⟩ := x
      have bw9 := bel_tr bw b9
      go_wp2
      go_ret
      exact ⟨rfl, bw9⟩
  · have hl2 : (1048576 : Int) < (len : Int) := by omega
    go_enter Try.func6, Try.ntmps6
    go_wp2
    go_ret
    exact ⟨rfl, bel_refl _⟩

end Go.Proofs.Ytpjakgnghpapmaa.FnRealizeFault
