/- Keys: the alteration of a step in a key, and whether a pitch is in a key; of the program and of the reference. -/
import Derived.Test.YtpjakgnghpapmaaPitch
namespace Go.Proofs.Ytpjakgnghpapmaa
set_option linter.unusedSimpArgs false
set_option linter.unusedVariables false
open Go.RowKit

def ordI (s : Int) : Int := ([1, 3, 5, 0, 2, 4, 6] : List Int).getD s.toNat 0
def alI (f s : Int) : Int := if ordI s < f then 1 else if f < ordI s - 6 then -1 else 0
def kaI (f s : Int) : Int := if (-7 ≤ f ∧ f ≤ 7) ∧ 0 ≤ s ∧ s ≤ 6 then alI f s else 0
theorem alI_bd (f s : Int) : -1 ≤ alI f s ∧ alI f s ≤ 1 := by unfold alI; split <;> (try split) <;> omega
theorem kaI_bd (f s : Int) : -1 ≤ kaI f s ∧ kaI f s ≤ 1 := by have := alI_bd f s; unfold kaI; split <;> omega
theorem ordI_bd {s : Int} (h0 : 0 ≤ s) (h1 : s ≤ 6) : 0 ≤ ordI s ∧ ordI s ≤ 6 := by
  rcases (show s = 0 ∨ s = 1 ∨ s = 2 ∨ s = 3 ∨ s = 4 ∨ s = 5 ∨ s = 6 from by omega) with rfl | rfl | rfl | rfl | rfl | rfl | rfl <;> exact ⟨by decide +kernel, by decide +kernel⟩
def ordA (k : Nat) : Int := ([3, 0, 4, 1, 5, 2, 6] : List Int).getD k 0
theorem ordA_ord {s : Int} (h0 : 0 ≤ s) (h1 : s ≤ 6) : ordA (ordI s).toNat = s ∧ ordI (ordA (ordI s).toNat) = ordI s := by
  rcases (show s = 0 ∨ s = 1 ∨ s = 2 ∨ s = 3 ∨ s = 4 ∨ s = 5 ∨ s = 6 from by omega) with rfl | rfl | rfl | rfl | rfl | rfl | rfl <;> exact ⟨by decide +kernel, by decide +kernel⟩
def ikB (f s a o : Int) : Bool := decide (-7 ≤ f ∧ f ≤ 7) && pvB s a o && (a == alI f s)
theorem boolw_to {P : Program} {f : FuncId} {args : Array Value} {w : World} {b v : Bool} (h : b = v) (H : Calls P f args w fun e w' => e = .returned (.bool v) ∧ Below w.heap.size w w') :
    Calls P f args w fun e w' => e = .returned (.bool b) ∧ Below w.heap.size w w' := by subst h; exact H
theorem intw_to {P : Program} {f : FuncId} {args : Array Value} {w : World} {b v : Int} (h : b = v) (H : Calls P f args w fun e w' => e = .returned (.int .i64 v) ∧ Below w.heap.size w w') :
    Calls P f args w fun e w' => e = .returned (.int .i64 b) ∧ Below w.heap.size w w' := by subst h; exact H

set_option maxHeartbeats 400000 in
theorem ik_yes (f : Int) (w : World) (h0 : -7 ≤ f) (h1 : f ≤ 7) : Calls Try.prog 57 #[.int .i64 f] w fun e w' => e = .returned (.bool true) ∧ w = w' := by
  go_enter Try.func57, Try.ntmps57
  go_wp2_with (go_at_call 49; refine (win_yes _ _ _ _ (by omega) (by omega)).mono ?_; rintro e w' ⟨rfl, rfl⟩)
  go_ret
  exact ⟨rfl, rfl⟩
set_option maxHeartbeats 400000 in
theorem ik_no (f : Int) (w : World) (h : f < -7 ∨ 7 < f) : Calls Try.prog 57 #[.int .i64 f] w fun e w' => e = .returned (.bool false) ∧ w = w' := by
  go_enter Try.func57, Try.ntmps57
  go_wp2_with (go_at_call 49; refine (win_no _ _ _ _ (by omega)).mono ?_; rintro e w' ⟨rfl, rfl⟩)
  go_ret
  exact ⟨rfl, rfl⟩
theorem kix0 : ∀ w : World, (Instr.index 106 (.agg #[.int .i64 3, .int .i64 0, .int .i64 4, .int .i64 1, .int .i64 5, .int .i64 2, .int .i64 6]) (.int .i64 0)).run Try.prog w = .ok (.int .i64 3) w := fun _ => by kernel_rfl
theorem kix1 : ∀ w : World, (Instr.index 106 (.agg #[.int .i64 3, .int .i64 0, .int .i64 4, .int .i64 1, .int .i64 5, .int .i64 2, .int .i64 6]) (.int .i64 1)).run Try.prog w = .ok (.int .i64 0) w := fun _ => by kernel_rfl
theorem kix2 : ∀ w : World, (Instr.index 106 (.agg #[.int .i64 3, .int .i64 0, .int .i64 4, .int .i64 1, .int .i64 5, .int .i64 2, .int .i64 6]) (.int .i64 2)).run Try.prog w = .ok (.int .i64 4) w := fun _ => by kernel_rfl
theorem kix3 : ∀ w : World, (Instr.index 106 (.agg #[.int .i64 3, .int .i64 0, .int .i64 4, .int .i64 1, .int .i64 5, .int .i64 2, .int .i64 6]) (.int .i64 3)).run Try.prog w = .ok (.int .i64 1) w := fun _ => by kernel_rfl
theorem kix4 : ∀ w : World, (Instr.index 106 (.agg #[.int .i64 3, .int .i64 0, .int .i64 4, .int .i64 1, .int .i64 5, .int .i64 2, .int .i64 6]) (.int .i64 4)).run Try.prog w = .ok (.int .i64 5) w := fun _ => by kernel_rfl
theorem kix5 : ∀ w : World, (Instr.index 106 (.agg #[.int .i64 3, .int .i64 0, .int .i64 4, .int .i64 1, .int .i64 5, .int .i64 2, .int .i64 6]) (.int .i64 5)).run Try.prog w = .ok (.int .i64 2) w := fun _ => by kernel_rfl
theorem kix6 : ∀ w : World, (Instr.index 106 (.agg #[.int .i64 3, .int .i64 0, .int .i64 4, .int .i64 1, .int .i64 5, .int .i64 2, .int .i64 6]) (.int .i64 6)).run Try.prog w = .ok (.int .i64 6) w := fun _ => by kernel_rfl

set_option maxHeartbeats 8000000 in
theorem ka_any (f s : Int) (w : World) : Calls Try.prog 89 #[.int .i64 f, .int .i64 s] w fun e w' => e = .returned (.int .i64 (kaI f s)) ∧ Below w.heap.size w w' := by
  by_cases h : (-7 ≤ f ∧ f ≤ 7) ∧ 0 ≤ s ∧ s ≤ 6
  · obtain ⟨⟨f0, f1⟩, s0, s1⟩ := h
    refine intw_to (v := alI f s) (by unfold kaI; rw [if_pos ⟨⟨f0, f1⟩, s0, s1⟩]) ?_
    go_enter Try.func89, Try.ntmps89
    go_wp2_with (first | (go_at_call 57; refine (ik_yes _ _ (by omega) (by omega)).mono ?_; rintro e w' ⟨rfl, rfl⟩) | (go_at_call 57; refine (ik_no _ _ (by omega)).mono ?_; rintro e w' ⟨rfl, rfl⟩) | (go_at_call 49; refine (win_yes _ _ _ _ (by omega) (by omega)).mono ?_; rintro e w' ⟨rfl, rfl⟩) | (go_at_call 49; refine (win_no _ _ _ _ (by omega)).mono ?_; rintro e w' ⟨rfl, rfl⟩))
    go_loopw [18] (fun i wr => ∃ k : Nat, k ≤ 7 ∧ i = .int .i64 k ∧ Below w.heap.size w wr ∧ Hid (∀ j : Nat, j < k → ordA j = s → ¬ (j : Int) < f ∧ ¬ 6 - (j : Int) < -f)) (fun i _ => 7 - (intOf i).toNat)
    case atStart => exact ⟨0, by omega, rfl, by repeat (first | (with_reducible assumption) | (exact bel_undr (by with_reducible assumption)) | (with_reducible exact bel_refl _) | (with_reducible refine bel_dr ?_) | (with_reducible refine bel_drN ?_ _) | (with_reducible refine bel_al ?_ _) | (refine bel_set ?_ (by first | (simp; done) | (simp; exact Below.size (by assumption)) | (simp; omega)) _) | (with_reducible refine bel_tr ?_ (by assumption))), fun j hj => absurd hj (by omega)⟩
    case round =>
      obtain ⟨k, hk, rfl, hb, HV⟩ := hrel
      rcases (show k = 0 ∨ k = 1 ∨ k = 2 ∨ k = 3 ∨ k = 4 ∨ k = 5 ∨ k = 6 ∨ k = 7 from by omega) with rfl | rfl | rfl | rfl | rfl | rfl | rfl | rfl
      · have e0 : (((0 : Nat) : Int)) = 0 := rfl
        rw [e0]
        clear e0 hk
        have kx := kix0
        by_cases hs : s = 3
        · subst hs
          have ho : ordI 3 = 0 := by decide +kernel
          by_cases c1 : (0 : Int) < f
          · have HE : Hid (alI f 3 = 1) := by show _ = _; unfold alI; rw [if_pos (by omega)]
            clear ho
            go_wp2
            go_ret
            exact ⟨ret_int HE.out.symm, by repeat (first | (with_reducible assumption) | (exact bel_undr (by with_reducible assumption)) | (with_reducible exact bel_refl _) | (with_reducible refine bel_dr ?_) | (with_reducible refine bel_drN ?_ _) | (with_reducible refine bel_al ?_ _) | (refine bel_set ?_ (by first | (simp; done) | (simp; exact Below.size (by assumption)) | (simp; omega)) _) | (with_reducible refine bel_tr ?_ (by assumption)))⟩
          · have d1 : decide ((0 : Int) < f) = false := by simp; omega
            by_cases c2 : (6 : Int) - 0 < -f
            · have HE : Hid (alI f 3 = -1) := by show _ = _; unfold alI; rw [if_neg (by omega), if_pos (by omega)]
              clear ho
              go_wp2
              go_ret
              exact ⟨ret_int HE.out.symm, by repeat (first | (with_reducible assumption) | (exact bel_undr (by with_reducible assumption)) | (with_reducible exact bel_refl _) | (with_reducible refine bel_dr ?_) | (with_reducible refine bel_drN ?_ _) | (with_reducible refine bel_al ?_ _) | (refine bel_set ?_ (by first | (simp; done) | (simp; exact Below.size (by assumption)) | (simp; omega)) _) | (with_reducible refine bel_tr ?_ (by assumption)))⟩
            · have HB : Hid (∀ j : Nat, j < 1 → ordA j = 3 → ¬ (j : Int) < f ∧ ¬ 6 - (j : Int) < -f) := fun j hj hs => by
                by_cases e : j = 0
                · subst e; exact ⟨by omega, by omega⟩
                · exact HV.out j (by omega) hs
              have d2 : decide ((6 : Int) - 0 < -f) = false := by simp; omega
              clear ho
              go_wp2
              go_roundw
              case rel => exact ⟨1, by omega, by go_num, by repeat (first | (with_reducible assumption) | (exact bel_undr (by with_reducible assumption)) | (with_reducible exact bel_refl _) | (with_reducible refine bel_dr ?_) | (with_reducible refine bel_drN ?_ _) | (with_reducible refine bel_al ?_ _) | (refine bel_set ?_ (by first | (simp; done) | (simp; exact Below.size (by assumption)) | (simp; omega)) _) | (with_reducible refine bel_tr ?_ (by assumption))), HB⟩
              case measure => simp [intOf]
        · have hs1 : ((3 : Int) == s) = false := by simp; omega
          have HB : Hid (∀ j : Nat, j < 1 → ordA j = s → ¬ (j : Int) < f ∧ ¬ 6 - (j : Int) < -f) := fun j hj hs' => by
            by_cases e : j = 0
            · subst e; exact absurd (show s = 3 from hs'.symm.trans (by decide +kernel)) hs
            · exact HV.out j (by omega) hs'
          clear hs
          go_wp2
          go_roundw
          case rel => exact ⟨1, by omega, by go_num, by repeat (first | (with_reducible assumption) | (exact bel_undr (by with_reducible assumption)) | (with_reducible exact bel_refl _) | (with_reducible refine bel_dr ?_) | (with_reducible refine bel_drN ?_ _) | (with_reducible refine bel_al ?_ _) | (refine bel_set ?_ (by first | (simp; done) | (simp; exact Below.size (by assumption)) | (simp; omega)) _) | (with_reducible refine bel_tr ?_ (by assumption))), HB⟩
          case measure => simp [intOf]
      · have e0 : (((1 : Nat) : Int)) = 1 := rfl
        rw [e0]
        clear e0 hk
        have kx := kix1
        by_cases hs : s = 0
        · subst hs
          have ho : ordI 0 = 1 := by decide +kernel
          by_cases c1 : (1 : Int) < f
          · have HE : Hid (alI f 0 = 1) := by show _ = _; unfold alI; rw [if_pos (by omega)]
            clear ho
            go_wp2
            go_ret
            exact ⟨ret_int HE.out.symm, by repeat (first | (with_reducible assumption) | (exact bel_undr (by with_reducible assumption)) | (with_reducible exact bel_refl _) | (with_reducible refine bel_dr ?_) | (with_reducible refine bel_drN ?_ _) | (with_reducible refine bel_al ?_ _) | (refine bel_set ?_ (by first | (simp; done) | (simp; exact Below.size (by assumption)) | (simp; omega)) _) | (with_reducible refine bel_tr ?_ (by assumption)))⟩
          · have d1 : decide ((1 : Int) < f) = false := by simp; omega
            by_cases c2 : (6 : Int) - 1 < -f
            · have HE : Hid (alI f 0 = -1) := by show _ = _; unfold alI; rw [if_neg (by omega), if_pos (by omega)]
              clear ho
              go_wp2
              go_ret
              exact ⟨ret_int HE.out.symm, by repeat (first | (with_reducible assumption) | (exact bel_undr (by with_reducible assumption)) | (with_reducible exact bel_refl _) | (with_reducible refine bel_dr ?_) | (with_reducible refine bel_drN ?_ _) | (with_reducible refine bel_al ?_ _) | (refine bel_set ?_ (by first | (simp; done) | (simp; exact Below.size (by assumption)) | (simp; omega)) _) | (with_reducible refine bel_tr ?_ (by assumption)))⟩
            · have HB : Hid (∀ j : Nat, j < 2 → ordA j = 0 → ¬ (j : Int) < f ∧ ¬ 6 - (j : Int) < -f) := fun j hj hs => by
                by_cases e : j = 1
                · subst e; exact ⟨by omega, by omega⟩
                · exact HV.out j (by omega) hs
              have d2 : decide ((6 : Int) - 1 < -f) = false := by simp; omega
              clear ho
              go_wp2
              go_roundw
              case rel => exact ⟨2, by omega, by go_num, by repeat (first | (with_reducible assumption) | (exact bel_undr (by with_reducible assumption)) | (with_reducible exact bel_refl _) | (with_reducible refine bel_dr ?_) | (with_reducible refine bel_drN ?_ _) | (with_reducible refine bel_al ?_ _) | (refine bel_set ?_ (by first | (simp; done) | (simp; exact Below.size (by assumption)) | (simp; omega)) _) | (with_reducible refine bel_tr ?_ (by assumption))), HB⟩
              case measure => simp [intOf]
        · have hs1 : ((0 : Int) == s) = false := by simp; omega
          have HB : Hid (∀ j : Nat, j < 2 → ordA j = s → ¬ (j : Int) < f ∧ ¬ 6 - (j : Int) < -f) := fun j hj hs' => by
            by_cases e : j = 1
            · subst e; exact absurd (show s = 0 from hs'.symm.trans (by decide +kernel)) hs
            · exact HV.out j (by omega) hs'
          clear hs
          go_wp2
          go_roundw
          case rel => exact ⟨2, by omega, by go_num, by repeat (first | (with_reducible assumption) | (exact bel_undr (by with_reducible assumption)) | (with_reducible exact bel_refl _) | (with_reducible refine bel_dr ?_) | (with_reducible refine bel_drN ?_ _) | (with_reducible refine bel_al ?_ _) | (refine bel_set ?_ (by first | (simp; done) | (simp; exact Below.size (by assumption)) | (simp; omega)) _) | (with_reducible refine bel_tr ?_ (by assumption))), HB⟩
          case measure => simp [intOf]
      · have e0 : (((2 : Nat) : Int)) = 2 := rfl
        rw [e0]
        clear e0 hk
        have kx := kix2
        by_cases hs : s = 4
        · subst hs
          have ho : ordI 4 = 2 := by decide +kernel
          by_cases c1 : (2 : Int) < f
          · have HE : Hid (alI f 4 = 1) := by show _ = _; unfold alI; rw [if_pos (by omega)]
            clear ho
            go_wp2
            go_ret
            exact ⟨ret_int HE.out.symm, by repeat (first | (with_reducible assumption) | (exact bel_undr (by with_reducible assumption)) | (with_reducible exact bel_refl _) | (with_reducible refine bel_dr ?_) | (with_reducible refine bel_drN ?_ _) | (with_reducible refine bel_al ?_ _) | (refine bel_set ?_ (by first | (simp; done) | (simp; exact Below.size (by assumption)) | (simp; omega)) _) | (with_reducible refine bel_tr ?_ (by assumption)))⟩
          · have d1 : decide ((2 : Int) < f) = false := by simp; omega
            by_cases c2 : (6 : Int) - 2 < -f
            · have HE : Hid (alI f 4 = -1) := by show _ = _; unfold alI; rw [if_neg (by omega), if_pos (by omega)]
              clear ho
              go_wp2
              go_ret
              exact ⟨ret_int HE.out.symm, by repeat (first | (with_reducible assumption) | (exact bel_undr (by with_reducible assumption)) | (with_reducible exact bel_refl _) | (with_reducible refine bel_dr ?_) | (with_reducible refine bel_drN ?_ _) | (with_reducible refine bel_al ?_ _) | (refine bel_set ?_ (by first | (simp; done) | (simp; exact Below.size (by assumption)) | (simp; omega)) _) | (with_reducible refine bel_tr ?_ (by assumption)))⟩
            · have HB : Hid (∀ j : Nat, j < 3 → ordA j = 4 → ¬ (j : Int) < f ∧ ¬ 6 - (j : Int) < -f) := fun j hj hs => by
                by_cases e : j = 2
                · subst e; exact ⟨by omega, by omega⟩
                · exact HV.out j (by omega) hs
              have d2 : decide ((6 : Int) - 2 < -f) = false := by simp; omega
              clear ho
              go_wp2
              go_roundw
              case rel => exact ⟨3, by omega, by go_num, by repeat (first | (with_reducible assumption) | (exact bel_undr (by with_reducible assumption)) | (with_reducible exact bel_refl _) | (with_reducible refine bel_dr ?_) | (with_reducible refine bel_drN ?_ _) | (with_reducible refine bel_al ?_ _) | (refine bel_set ?_ (by first | (simp; done) | (simp; exact Below.size (by assumption)) | (simp; omega)) _) | (with_reducible refine bel_tr ?_ (by assumption))), HB⟩
              case measure => simp [intOf]
        · have hs1 : ((4 : Int) == s) = false := by simp; omega
          have HB : Hid (∀ j : Nat, j < 3 → ordA j = s → ¬ (j : Int) < f ∧ ¬ 6 - (j : Int) < -f) := fun j hj hs' => by
            by_cases e : j = 2
            · subst e; exact absurd (show s = 4 from hs'.symm.trans (by decide +kernel)) hs
            · exact HV.out j (by omega) hs'
          clear hs
          go_wp2
          go_roundw
          case rel => exact ⟨3, by omega, by go_num, by repeat (first | (with_reducible assumption) | (exact bel_undr (by with_reducible assumption)) | (with_reducible exact bel_refl _) | (with_reducible refine bel_dr ?_) | (with_reducible refine bel_drN ?_ _) | (with_reducible refine bel_al ?_ _) | (refine bel_set ?_ (by first | (simp; done) | (simp; exact Below.size (by assumption)) | (simp; omega)) _) | (with_reducible refine bel_tr ?_ (by assumption))), HB⟩
          case measure => simp [intOf]
      · have e0 : (((3 : Nat) : Int)) = 3 := rfl
        rw [e0]
        clear e0 hk
        have kx := kix3
        by_cases hs : s = 1
        · subst hs
          have ho : ordI 1 = 3 := by decide +kernel
          by_cases c1 : (3 : Int) < f
          · have HE : Hid (alI f 1 = 1) := by show _ = _; unfold alI; rw [if_pos (by omega)]
            clear ho
            go_wp2
            go_ret
            exact ⟨ret_int HE.out.symm, by repeat (first | (with_reducible assumption) | (exact bel_undr (by with_reducible assumption)) | (with_reducible exact bel_refl _) | (with_reducible refine bel_dr ?_) | (with_reducible refine bel_drN ?_ _) | (with_reducible refine bel_al ?_ _) | (refine bel_set ?_ (by first | (simp; done) | (simp; exact Below.size (by assumption)) | (simp; omega)) _) | (with_reducible refine bel_tr ?_ (by assumption)))⟩
          · have d1 : decide ((3 : Int) < f) = false := by simp; omega
            by_cases c2 : (6 : Int) - 3 < -f
            · have HE : Hid (alI f 1 = -1) := by show _ = _; unfold alI; rw [if_neg (by omega), if_pos (by omega)]
              clear ho
              go_wp2
              go_ret
              exact ⟨ret_int HE.out.symm, by repeat (first | (with_reducible assumption) | (exact bel_undr (by with_reducible assumption)) | (with_reducible exact bel_refl _) | (with_reducible refine bel_dr ?_) | (with_reducible refine bel_drN ?_ _) | (with_reducible refine bel_al ?_ _) | (refine bel_set ?_ (by first | (simp; done) | (simp; exact Below.size (by assumption)) | (simp; omega)) _) | (with_reducible refine bel_tr ?_ (by assumption)))⟩
            · have HB : Hid (∀ j : Nat, j < 4 → ordA j = 1 → ¬ (j : Int) < f ∧ ¬ 6 - (j : Int) < -f) := fun j hj hs => by
                by_cases e : j = 3
                · subst e; exact ⟨by omega, by omega⟩
                · exact HV.out j (by omega) hs
              have d2 : decide ((6 : Int) - 3 < -f) = false := by simp; omega
              clear ho
              go_wp2
              go_roundw
              case rel => exact ⟨4, by omega, by go_num, by repeat (first | (with_reducible assumption) | (exact bel_undr (by with_reducible assumption)) | (with_reducible exact bel_refl _) | (with_reducible refine bel_dr ?_) | (with_reducible refine bel_drN ?_ _) | (with_reducible refine bel_al ?_ _) | (refine bel_set ?_ (by first | (simp; done) | (simp; exact Below.size (by assumption)) | (simp; omega)) _) | (with_reducible refine bel_tr ?_ (by assumption))), HB⟩
              case measure => simp [intOf]
        · have hs1 : ((1 : Int) == s) = false := by simp; omega
          have HB : Hid (∀ j : Nat, j < 4 → ordA j = s → ¬ (j : Int) < f ∧ ¬ 6 - (j : Int) < -f) := fun j hj hs' => by
            by_cases e : j = 3
            · subst e; exact absurd (show s = 1 from hs'.symm.trans (by decide +kernel)) hs
            · exact HV.out j (by omega) hs'
          clear hs
          go_wp2
          go_roundw
          case rel => exact ⟨4, by omega, by go_num, by repeat (first | (with_reducible assumption) | (exact bel_undr (by with_reducible assumption)) | (with_reducible exact bel_refl _) | (with_reducible refine bel_dr ?_) | (with_reducible refine bel_drN ?_ _) | (with_reducible refine bel_al ?_ _) | (refine bel_set ?_ (by first | (simp; done) | (simp; exact Below.size (by assumption)) | (simp; omega)) _) | (with_reducible refine bel_tr ?_ (by assumption))), HB⟩
          case measure => simp [intOf]
      · have e0 : (((4 : Nat) : Int)) = 4 := rfl
        rw [e0]
        clear e0 hk
        have kx := kix4
        by_cases hs : s = 5
        · subst hs
          have ho : ordI 5 = 4 := by decide +kernel
          by_cases c1 : (4 : Int) < f
          · have HE : Hid (alI f 5 = 1) := by show _ = _; unfold alI; rw [if_pos (by omega)]
            clear ho
            go_wp2
            go_ret
            exact ⟨ret_int HE.out.symm, by repeat (first | (with_reducible assumption) | (exact bel_undr (by with_reducible assumption)) | (with_reducible exact bel_refl _) | (with_reducible refine bel_dr ?_) | (with_reducible refine bel_drN ?_ _) | (with_reducible refine bel_al ?_ _) | (refine bel_set ?_ (by first | (simp; done) | (simp; exact Below.size (by assumption)) | (simp; omega)) _) | (with_reducible refine bel_tr ?_ (by assumption)))⟩
          · have d1 : decide ((4 : Int) < f) = false := by simp; omega
            by_cases c2 : (6 : Int) - 4 < -f
            · have HE : Hid (alI f 5 = -1) := by show _ = _; unfold alI; rw [if_neg (by omega), if_pos (by omega)]
              clear ho
              go_wp2
              go_ret
              exact ⟨ret_int HE.out.symm, by repeat (first | (with_reducible assumption) | (exact bel_undr (by with_reducible assumption)) | (with_reducible exact bel_refl _) | (with_reducible refine bel_dr ?_) | (with_reducible refine bel_drN ?_ _) | (with_reducible refine bel_al ?_ _) | (refine bel_set ?_ (by first | (simp; done) | (simp; exact Below.size (by assumption)) | (simp; omega)) _) | (with_reducible refine bel_tr ?_ (by assumption)))⟩
            · have HB : Hid (∀ j : Nat, j < 5 → ordA j = 5 → ¬ (j : Int) < f ∧ ¬ 6 - (j : Int) < -f) := fun j hj hs => by
                by_cases e : j = 4
                · subst e; exact ⟨by omega, by omega⟩
                · exact HV.out j (by omega) hs
              have d2 : decide ((6 : Int) - 4 < -f) = false := by simp; omega
              clear ho
              go_wp2
              go_roundw
              case rel => exact ⟨5, by omega, by go_num, by repeat (first | (with_reducible assumption) | (exact bel_undr (by with_reducible assumption)) | (with_reducible exact bel_refl _) | (with_reducible refine bel_dr ?_) | (with_reducible refine bel_drN ?_ _) | (with_reducible refine bel_al ?_ _) | (refine bel_set ?_ (by first | (simp; done) | (simp; exact Below.size (by assumption)) | (simp; omega)) _) | (with_reducible refine bel_tr ?_ (by assumption))), HB⟩
              case measure => simp [intOf]
        · have hs1 : ((5 : Int) == s) = false := by simp; omega
          have HB : Hid (∀ j : Nat, j < 5 → ordA j = s → ¬ (j : Int) < f ∧ ¬ 6 - (j : Int) < -f) := fun j hj hs' => by
            by_cases e : j = 4
            · subst e; exact absurd (show s = 5 from hs'.symm.trans (by decide +kernel)) hs
            · exact HV.out j (by omega) hs'
          clear hs
          go_wp2
          go_roundw
          case rel => exact ⟨5, by omega, by go_num, by repeat (first | (with_reducible assumption) | (exact bel_undr (by with_reducible assumption)) | (with_reducible exact bel_refl _) | (with_reducible refine bel_dr ?_) | (with_reducible refine bel_drN ?_ _) | (with_reducible refine bel_al ?_ _) | (refine bel_set ?_ (by first | (simp; done) | (simp; exact Below.size (by assumption)) | (simp; omega)) _) | (with_reducible refine bel_tr ?_ (by assumption))), HB⟩
          case measure => simp [intOf]
      · have e0 : (((5 : Nat) : Int)) = 5 := rfl
        rw [e0]
        clear e0 hk
        have kx := kix5
        by_cases hs : s = 2
        · subst hs
          have ho : ordI 2 = 5 := by decide +kernel
          by_cases c1 : (5 : Int) < f
          · have HE : Hid (alI f 2 = 1) := by show _ = _; unfold alI; rw [if_pos (by omega)]
            clear ho
            go_wp2
            go_ret
            exact ⟨ret_int HE.out.symm, by repeat (first | (with_reducible assumption) | (exact bel_undr (by with_reducible assumption)) | (with_reducible exact bel_refl _) | (with_reducible refine bel_dr ?_) | (with_reducible refine bel_drN ?_ _) | (with_reducible refine bel_al ?_ _) | (refine bel_set ?_ (by first | (simp; done) | (simp; exact Below.size (by assumption)) | (simp; omega)) _) | (with_reducible refine bel_tr ?_ (by assumption)))⟩
          · have d1 : decide ((5 : Int) < f) = false := by simp; omega
            by_cases c2 : (6 : Int) - 5 < -f
            · have HE : Hid (alI f 2 = -1) := by show _ = _; unfold alI; rw [if_neg (by omega), if_pos (by omega)]
              clear ho
              go_wp2
              go_ret
              exact ⟨ret_int HE.out.symm, by repeat (first | (with_reducible assumption) | (exact bel_undr (by with_reducible assumption)) | (with_reducible exact bel_refl _) | (with_reducible refine bel_dr ?_) | (with_reducible refine bel_drN ?_ _) | (with_reducible refine bel_al ?_ _) | (refine bel_set ?_ (by first | (simp; done) | (simp; exact Below.size (by assumption)) | (simp; omega)) _) | (with_reducible refine bel_tr ?_ (by assumption)))⟩
            · have HB : Hid (∀ j : Nat, j < 6 → ordA j = 2 → ¬ (j : Int) < f ∧ ¬ 6 - (j : Int) < -f) := fun j hj hs => by
                by_cases e : j = 5
                · subst e; exact ⟨by omega, by omega⟩
                · exact HV.out j (by omega) hs
              have d2 : decide ((6 : Int) - 5 < -f) = false := by simp; omega
              clear ho
              go_wp2
              go_roundw
              case rel => exact ⟨6, by omega, by go_num, by repeat (first | (with_reducible assumption) | (exact bel_undr (by with_reducible assumption)) | (with_reducible exact bel_refl _) | (with_reducible refine bel_dr ?_) | (with_reducible refine bel_drN ?_ _) | (with_reducible refine bel_al ?_ _) | (refine bel_set ?_ (by first | (simp; done) | (simp; exact Below.size (by assumption)) | (simp; omega)) _) | (with_reducible refine bel_tr ?_ (by assumption))), HB⟩
              case measure => simp [intOf]
        · have hs1 : ((2 : Int) == s) = false := by simp; omega
          have HB : Hid (∀ j : Nat, j < 6 → ordA j = s → ¬ (j : Int) < f ∧ ¬ 6 - (j : Int) < -f) := fun j hj hs' => by
            by_cases e : j = 5
            · subst e; exact absurd (show s = 2 from hs'.symm.trans (by decide +kernel)) hs
            · exact HV.out j (by omega) hs'
          clear hs
          go_wp2
          go_roundw
          case rel => exact ⟨6, by omega, by go_num, by repeat (first | (with_reducible assumption) | (exact bel_undr (by with_reducible assumption)) | (with_reducible exact bel_refl _) | (with_reducible refine bel_dr ?_) | (with_reducible refine bel_drN ?_ _) | (with_reducible refine bel_al ?_ _) | (refine bel_set ?_ (by first | (simp; done) | (simp; exact Below.size (by assumption)) | (simp; omega)) _) | (with_reducible refine bel_tr ?_ (by assumption))), HB⟩
          case measure => simp [intOf]
      · have e0 : (((6 : Nat) : Int)) = 6 := rfl
        rw [e0]
        clear e0 hk
        have kx := kix6
        by_cases hs : s = 6
        · subst hs
          have ho : ordI 6 = 6 := by decide +kernel
          by_cases c1 : (6 : Int) < f
          · have HE : Hid (alI f 6 = 1) := by show _ = _; unfold alI; rw [if_pos (by omega)]
            clear ho
            go_wp2
            go_ret
            exact ⟨ret_int HE.out.symm, by repeat (first | (with_reducible assumption) | (exact bel_undr (by with_reducible assumption)) | (with_reducible exact bel_refl _) | (with_reducible refine bel_dr ?_) | (with_reducible refine bel_drN ?_ _) | (with_reducible refine bel_al ?_ _) | (refine bel_set ?_ (by first | (simp; done) | (simp; exact Below.size (by assumption)) | (simp; omega)) _) | (with_reducible refine bel_tr ?_ (by assumption)))⟩
          · have d1 : decide ((6 : Int) < f) = false := by simp; omega
            by_cases c2 : (6 : Int) - 6 < -f
            · have HE : Hid (alI f 6 = -1) := by show _ = _; unfold alI; rw [if_neg (by omega), if_pos (by omega)]
              clear ho
              go_wp2
              go_ret
              exact ⟨ret_int HE.out.symm, by repeat (first | (with_reducible assumption) | (exact bel_undr (by with_reducible assumption)) | (with_reducible exact bel_refl _) | (with_reducible refine bel_dr ?_) | (with_reducible refine bel_drN ?_ _) | (with_reducible refine bel_al ?_ _) | (refine bel_set ?_ (by first | (simp; done) | (simp; exact Below.size (by assumption)) | (simp; omega)) _) | (with_reducible refine bel_tr ?_ (by assumption)))⟩
            · have HB : Hid (∀ j : Nat, j < 7 → ordA j = 6 → ¬ (j : Int) < f ∧ ¬ 6 - (j : Int) < -f) := fun j hj hs => by
                by_cases e : j = 6
                · subst e; exact ⟨by omega, by omega⟩
                · exact HV.out j (by omega) hs
              have d2 : decide ((6 : Int) - 6 < -f) = false := by simp; omega
              clear ho
              go_wp2
              go_roundw
              case rel => exact ⟨7, by omega, by go_num, by repeat (first | (with_reducible assumption) | (exact bel_undr (by with_reducible assumption)) | (with_reducible exact bel_refl _) | (with_reducible refine bel_dr ?_) | (with_reducible refine bel_drN ?_ _) | (with_reducible refine bel_al ?_ _) | (refine bel_set ?_ (by first | (simp; done) | (simp; exact Below.size (by assumption)) | (simp; omega)) _) | (with_reducible refine bel_tr ?_ (by assumption))), HB⟩
              case measure => simp [intOf]
        · have hs1 : ((6 : Int) == s) = false := by simp; omega
          have HB : Hid (∀ j : Nat, j < 7 → ordA j = s → ¬ (j : Int) < f ∧ ¬ 6 - (j : Int) < -f) := fun j hj hs' => by
            by_cases e : j = 6
            · subst e; exact absurd (show s = 6 from hs'.symm.trans (by decide +kernel)) hs
            · exact HV.out j (by omega) hs'
          clear hs
          go_wp2
          go_roundw
          case rel => exact ⟨7, by omega, by go_num, by repeat (first | (with_reducible assumption) | (exact bel_undr (by with_reducible assumption)) | (with_reducible exact bel_refl _) | (with_reducible refine bel_dr ?_) | (with_reducible refine bel_drN ?_ _) | (with_reducible refine bel_al ?_ _) | (refine bel_set ?_ (by first | (simp; done) | (simp; exact Below.size (by assumption)) | (simp; omega)) _) | (with_reducible refine bel_tr ?_ (by assumption))), HB⟩
          case measure => simp [intOf]
      · have HE : Hid (alI f s = 0) := by
          show _ = _
          obtain ⟨o1, o2⟩ := ordA_ord s0 s1
          obtain ⟨o3, o4⟩ := ordI_bd s0 s1
          have := HV.out (ordI s).toNat (by omega) o1
          unfold alI
          rw [if_neg (by omega), if_neg (by omega)]
        have e0 : (((7 : Nat) : Int)) = 7 := rfl
        rw [e0]
        clear e0
        go_wp2
        go_ret
        exact ⟨ret_int HE.out.symm, by repeat (first | (with_reducible assumption) | (exact bel_undr (by with_reducible assumption)) | (with_reducible exact bel_refl _) | (with_reducible refine bel_dr ?_) | (with_reducible refine bel_drN ?_ _) | (with_reducible refine bel_al ?_ _) | (refine bel_set ?_ (by first | (simp; done) | (simp; exact Below.size (by assumption)) | (simp; omega)) _) | (with_reducible refine bel_tr ?_ (by assumption)))⟩
  · refine intw_to (v := 0) (by unfold kaI; rw [if_neg h]) ?_
    rcases (show (f < -7 ∨ 7 < f) ∨ ((-7 ≤ f ∧ f ≤ 7) ∧ (s < 0 ∨ 6 < s)) from by omega) with h1 | ⟨⟨h1, h2⟩, h3⟩
    · go_enter Try.func89, Try.ntmps89
      go_wp2_with (first | (go_at_call 57; refine (ik_yes _ _ (by omega) (by omega)).mono ?_; rintro e w' ⟨rfl, rfl⟩) | (go_at_call 57; refine (ik_no _ _ (by omega)).mono ?_; rintro e w' ⟨rfl, rfl⟩) | (go_at_call 49; refine (win_yes _ _ _ _ (by omega) (by omega)).mono ?_; rintro e w' ⟨rfl, rfl⟩) | (go_at_call 49; refine (win_no _ _ _ _ (by omega)).mono ?_; rintro e w' ⟨rfl, rfl⟩))
      go_ret
      exact ⟨rfl, by repeat (first | (with_reducible assumption) | (exact bel_undr (by with_reducible assumption)) | (with_reducible exact bel_refl _) | (with_reducible refine bel_dr ?_) | (with_reducible refine bel_drN ?_ _) | (with_reducible refine bel_al ?_ _) | (refine bel_set ?_ (by first | (simp; done) | (simp; exact Below.size (by assumption)) | (simp; omega)) _) | (with_reducible refine bel_tr ?_ (by assumption)))⟩
    · go_enter Try.func89, Try.ntmps89
      go_wp2_with (first | (go_at_call 57; refine (ik_yes _ _ (by omega) (by omega)).mono ?_; rintro e w' ⟨rfl, rfl⟩) | (go_at_call 57; refine (ik_no _ _ (by omega)).mono ?_; rintro e w' ⟨rfl, rfl⟩) | (go_at_call 49; refine (win_yes _ _ _ _ (by omega) (by omega)).mono ?_; rintro e w' ⟨rfl, rfl⟩) | (go_at_call 49; refine (win_no _ _ _ _ (by omega)).mono ?_; rintro e w' ⟨rfl, rfl⟩))
      go_ret
      exact ⟨rfl, by repeat (first | (with_reducible assumption) | (exact bel_undr (by with_reducible assumption)) | (with_reducible exact bel_refl _) | (with_reducible refine bel_dr ?_) | (with_reducible refine bel_drN ?_ _) | (with_reducible refine bel_al ?_ _) | (refine bel_set ?_ (by first | (simp; done) | (simp; exact Below.size (by assumption)) | (simp; omega)) _) | (with_reducible refine bel_tr ?_ (by assumption)))⟩

set_option maxHeartbeats 1000000 in
theorem sal_any (f s : Int) (w : World) (s0 : 0 ≤ s) (s1 : s ≤ 6) (f0 : -1000000 ≤ f) (f1 : f ≤ 1000000) : Calls Try.prog 77 #[.int .i64 f, .int .i64 s] w fun e w' => e = .returned (.int .i64 (alI f s)) ∧ Below w.heap.size w w' := by
  obtain ⟨o0, o1⟩ := ordI_bd s0 s1
  have s2 : s < 7 := by omega
  have hx : ∀ h, (#[Value.int .i64 1, Value.int .i64 3, Value.int .i64 5, Value.int .i64 0, Value.int .i64 2, Value.int .i64 4, Value.int .i64 6] : Array Value)[s.toNat]'h = .int .i64 (ordI s) := by
    rcases (show s = 0 ∨ s = 1 ∨ s = 2 ∨ s = 3 ∨ s = 4 ∨ s = 5 ∨ s = 6 from by omega) with rfl | rfl | rfl | rfl | rfl | rfl | rfl <;> exact fun _ => rfl
  have HX := hx (by simp; omega)
  by_cases c1 : ordI s < f
  · refine intw_to (v := 1) (by unfold alI; rw [if_pos c1]) ?_
    generalize ordI s = q at *
    go_enter Try.func77, Try.ntmps77
    go_wp2
    go_ret
    exact ⟨rfl, by repeat (first | (with_reducible assumption) | (exact bel_undr (by with_reducible assumption)) | (with_reducible exact bel_refl _) | (with_reducible refine bel_dr ?_) | (with_reducible refine bel_drN ?_ _) | (with_reducible refine bel_al ?_ _) | (refine bel_set ?_ (by first | (simp; done) | (simp; exact Below.size (by assumption)) | (simp; omega)) _) | (with_reducible refine bel_tr ?_ (by assumption)))⟩
  · have d1 : ¬ f > ordI s := by omega
    by_cases c2 : f < ordI s - 6
    · refine intw_to (v := -1) (by unfold alI; rw [if_neg c1, if_pos c2]) ?_
      generalize ordI s = q at *
      go_enter Try.func77, Try.ntmps77
      go_wp2
      go_ret
      exact ⟨rfl, by repeat (first | (with_reducible assumption) | (exact bel_undr (by with_reducible assumption)) | (with_reducible exact bel_refl _) | (with_reducible refine bel_dr ?_) | (with_reducible refine bel_drN ?_ _) | (with_reducible refine bel_al ?_ _) | (refine bel_set ?_ (by first | (simp; done) | (simp; exact Below.size (by assumption)) | (simp; omega)) _) | (with_reducible refine bel_tr ?_ (by assumption)))⟩
    · refine intw_to (v := 0) (by unfold alI; rw [if_neg c1, if_neg c2]) ?_
      generalize ordI s = q at *
      go_enter Try.func77, Try.ntmps77
      go_wp2
      go_ret
      exact ⟨rfl, by repeat (first | (with_reducible assumption) | (exact bel_undr (by with_reducible assumption)) | (with_reducible exact bel_refl _) | (with_reducible refine bel_dr ?_) | (with_reducible refine bel_drN ?_ _) | (with_reducible refine bel_al ?_ _) | (refine bel_set ?_ (by first | (simp; done) | (simp; exact Below.size (by assumption)) | (simp; omega)) _) | (with_reducible refine bel_tr ?_ (by assumption)))⟩
theorem ka_val {f s v : Int} (h : kaI f s = v) (w : World) : Calls Try.prog 89 #[.int .i64 f, .int .i64 s] w fun e w' => e = .returned (.int .i64 v) ∧ Below w.heap.size w w' := by
  subst h; exact ka_any f s w
theorem sal_val {f s v : Int} (h : alI f s = v) (w : World) (s0 : 0 ≤ s) (s1 : s ≤ 6) (f0 : -1000000 ≤ f) (f1 : f ≤ 1000000) : Calls Try.prog 77 #[.int .i64 f, .int .i64 s] w fun e w' => e = .returned (.int .i64 v) ∧ Below w.heap.size w w' := by
  subst h; exact sal_any f s w s0 s1 f0 f1
end Go.Proofs.Ytpjakgnghpapmaa
