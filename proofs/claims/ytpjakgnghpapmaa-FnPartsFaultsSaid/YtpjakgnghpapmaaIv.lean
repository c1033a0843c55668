/- Intervals: when one is valid; of the program and of the reference. -/
import Derived.Test.YtpjakgnghpapmaaPitch
import Derived.Test.YtpjakgnghpapmaaBa
namespace Go.Proofs.Ytpjakgnghpapmaa
set_option linter.unusedSimpArgs false
set_option linter.unusedVariables false
open Go.RowKit

def upS (st ha : Int) : Int := if st < 0 ∨ (st = 0 ∧ ha < 0) then -st else st
def upH (st ha : Int) : Int := if st < 0 ∨ (st = 0 ∧ ha < 0) then -ha else ha
def quI (st ha : Int) : Int := upH st ha - natI (upS st ha)
def ivB (st ha : Int) : Bool := decide ((-21 ≤ st ∧ st ≤ 21) ∧ (-99 ≤ ha ∧ ha ≤ 99) ∧ -3 ≤ quI st ha ∧ quI st ha ≤ 3)
theorem nat21 {s : Int} (h0 : 0 ≤ s) (h1 : s ≤ 21) : 0 ≤ natI s ∧ natI s ≤ 36 := by
  have k : ∀ u : Fin 22, 0 ≤ natI (u.1 : Int) ∧ natI (u.1 : Int) ≤ 36 := by decide +kernel
  have := k ⟨s.toNat, by omega⟩
  rwa [show ((s.toNat : Nat) : Int) = s from by omega] at this
theorem up_bd {st ha : Int} (h : -21 ≤ st ∧ st ≤ 21) : 0 ≤ upS st ha ∧ upS st ha ≤ 21 := by unfold upS; split <;> omega
theorem ivB_iff (st ha : Int) : ivB st ha = decide ((-21 ≤ st ∧ st ≤ 21) ∧ (-60 ≤ ha ∧ ha ≤ 60) ∧ -3 ≤ quI st ha ∧ quI st ha ≤ 3) := by
  unfold ivB
  apply decide_eq_decide.2
  constructor
  · rintro ⟨h1, h2, h3⟩
    have := nat21 (up_bd h1 (ha := ha)).1 (up_bd h1 (ha := ha)).2
    refine ⟨h1, ?_, h3⟩
    unfold quI upH at h3
    split at h3 <;> omega
  · rintro ⟨h1, h2, h3⟩
    exact ⟨h1, by omega, h3⟩
theorem ivB_bd {st ha : Int} (h : ivB st ha = true) : (-21 ≤ st ∧ st ≤ 21) ∧ (-60 ≤ ha ∧ ha ≤ 60) := by
  rw [ivB_iff] at h
  have := of_decide_eq_true h
  exact ⟨this.1, this.2.1⟩
theorem fld0 (x y : Int) : ∀ w : World, (Instr.field 95 (.agg #[.int .i64 x, .int .i64 y]) 0).run Try.prog w = .ok (.int .i64 x) w := fun _ => by kernel_rfl
theorem fld1 (x y : Int) : ∀ w : World, (Instr.field 95 (.agg #[.int .i64 x, .int .i64 y]) 1).run Try.prog w = .ok (.int .i64 y) w := fun _ => by kernel_rfl
theorem bool_at {P : Program} {f : FuncId} {args : Array Value} {w : World} {b v : Bool} (h : b = v) (H : Calls P f args w fun e w' => e = .returned (.bool v) ∧ Below w.heap.size w w') :
    Calls P f args w fun e w' => e = .returned (.bool b) ∧ Below w.heap.size w w' := by subst h; exact H

set_option maxHeartbeats 2000000 in
theorem sq_any (st ha : Int) (w : World) (h0 : -21 ≤ st ∧ st ≤ 21) (t0 : -99 ≤ ha) (t1 : ha ≤ 99) : Calls Try.prog 92 #[.agg #[.int .i64 st, .int .i64 ha]] w fun e w' => e = .returned (.int .i64 (quI st ha)) ∧ Below w.heap.size w w' := by
  have hb := up_bd h0 (ha := ha)
  have hn := nat21 hb.1 hb.2
  have ns := IntWalk.i64_in (-st) (by omega)
  have nh := IntWalk.i64_in (-ha) (by omega)
  obtain ⟨s0, s1⟩ := h0
  unfold quI
  by_cases h1 : st < 0
  · have e1 : upS st ha = -st := by unfold upS; rw [if_pos (.inl h1)]
    have e2 : upH st ha = -ha := by unfold upH; rw [if_pos (.inl h1)]
    rw [e1] at hb hn
    rw [e1, e2]
    clear e1 e2
    obtain ⟨z, hz⟩ : ∃ z, natI (-st) = z := ⟨_, rfl⟩
    rw [hz] at hn ⊢
    have HZ := Lib.hid hz
    have i1 := IntWalk.i64_in ((-ha) - z) (by omega)
    clear hz
    go_enter Try.func92, Try.ntmps92
    go_wp2_with fail
    generalize hv : (w.alloc (.cells #[.int .i64 st, .int .i64 ha] 95)) = v at *
    have q0 : v.cell? ⟨w.heap.size, 0, none⟩ = some (.int .i64 st) := by rw [← hv]; simp
    have q1 : v.cell? ⟨w.heap.size, 1, none⟩ = some (.int .i64 ha) := by rw [← hv]; simp
    have bv : Below w.heap.size w v := by rw [← hv]; exact bel_al (bel_refl _) _
    clear hv
    have LB : ∀ xL : Later v, Calls Try.prog 85 #[.int .i64 (-st)] xL.world fun e w'' => e = .returned (.int .i64 z) ∧ ∃ z : Later v, w'' = z.world := fun xL => later_call (nat_val HZ.out _ (by omega) (by omega))
    have lf0 : ∀ xL : Later v, xL.world.cell? ⟨w.heap.size, 0, none⟩ = some (.int .i64 st) := fun xL => xL.at (q0)
    have lf1 : ∀ xL : Later v, xL.world.cell? ⟨w.heap.size, 1, none⟩ = some (.int .i64 ha) := fun xL => xL.at (q1)
    refine region_later (w0 := v) (by kernel_rfl) (by kernel_rfl) (bel_refl _) ?_
    repeat (go_big_quiet_step ((go_at_call 85; exact LB _)))
    refine wpQuiet_nil ?_
    rintro w' ⟨x, rfl⟩
    obtain ⟨w2, b2⟩ := x
    clear lf0 lf1
    go_wp2
    go_ret
    exact ⟨rfl, by repeat (first | (with_reducible assumption) | (exact bel_undr (by with_reducible assumption)) | (with_reducible exact bel_refl _) | (with_reducible refine bel_dr ?_) | (with_reducible refine bel_drN ?_ _) | (with_reducible refine bel_al ?_ _) | (refine bel_set ?_ (by first | (simp; done) | (simp; exact Below.size (by assumption)) | (simp; omega)) _) | (with_reducible refine bel_tr ?_ (by assumption)))⟩
  · have d1 : decide (st < 0) = false := decide_eq_false h1
    by_cases h2 : st = 0 ∧ ha < 0
    · obtain ⟨h2, h3⟩ := h2
      have e1 : upS st ha = -st := by unfold upS; rw [if_pos (.inr ⟨h2, h3⟩)]
      have e2 : upH st ha = -ha := by unfold upH; rw [if_pos (.inr ⟨h2, h3⟩)]
      rw [e1] at hb hn
      rw [e1, e2]
      clear e1 e2
      have d2 : (st == 0) = true := by rw [beq_iff_eq]; exact h2
      clear h2
      obtain ⟨z, hz⟩ : ∃ z, natI (-st) = z := ⟨_, rfl⟩
      rw [hz] at hn ⊢
      have HZ := Lib.hid hz
      have i1 := IntWalk.i64_in ((-ha) - z) (by omega)
      clear hz
      go_enter Try.func92, Try.ntmps92
      go_wp2_with fail
      generalize hv : (w.alloc (.cells #[.int .i64 st, .int .i64 ha] 95)) = v at *
      have q0 : v.cell? ⟨w.heap.size, 0, none⟩ = some (.int .i64 st) := by rw [← hv]; simp
      have q1 : v.cell? ⟨w.heap.size, 1, none⟩ = some (.int .i64 ha) := by rw [← hv]; simp
      have bv : Below w.heap.size w v := by rw [← hv]; exact bel_al (bel_refl _) _
      clear hv
      have LB : ∀ xL : Later v, Calls Try.prog 85 #[.int .i64 (-st)] xL.world fun e w'' => e = .returned (.int .i64 z) ∧ ∃ z : Later v, w'' = z.world := fun xL => later_call (nat_val HZ.out _ (by omega) (by omega))
      have lf0 : ∀ xL : Later v, xL.world.cell? ⟨w.heap.size, 0, none⟩ = some (.int .i64 st) := fun xL => xL.at (q0)
      have lf1 : ∀ xL : Later v, xL.world.cell? ⟨w.heap.size, 1, none⟩ = some (.int .i64 ha) := fun xL => xL.at (q1)
      refine region_later (w0 := v) (by kernel_rfl) (by kernel_rfl) (bel_refl _) ?_
      repeat (go_big_quiet_step ((go_at_call 85; exact LB _)))
      refine wpQuiet_nil ?_
      rintro w' ⟨x, rfl⟩
      obtain ⟨w2, b2⟩ := x
      clear lf0 lf1
      go_wp2
      go_ret
      exact ⟨rfl, by repeat (first | (with_reducible assumption) | (exact bel_undr (by with_reducible assumption)) | (with_reducible exact bel_refl _) | (with_reducible refine bel_dr ?_) | (with_reducible refine bel_drN ?_ _) | (with_reducible refine bel_al ?_ _) | (refine bel_set ?_ (by first | (simp; done) | (simp; exact Below.size (by assumption)) | (simp; omega)) _) | (with_reducible refine bel_tr ?_ (by assumption)))⟩
    · have e1 : upS st ha = st := by unfold upS; rw [if_neg (by omega)]
      have e2 : upH st ha = ha := by unfold upH; rw [if_neg (by omega)]
      rw [e1] at hb hn
      rw [e1, e2]
      clear e1 e2
      have h3 : ((st == 0) = false) ∨ ((st == 0) = true ∧ decide (ha < 0) = false) := by
        by_cases e : st = 0
        · right; exact ⟨by rw [beq_iff_eq]; exact e, decide_eq_false (fun c => h2 ⟨e, c⟩)⟩
        · left; rw [beq_eq_false_iff_ne]; exact e
      clear h2
      rcases h3 with d2 | ⟨d2, d3⟩
      · obtain ⟨z, hz⟩ : ∃ z, natI (st) = z := ⟨_, rfl⟩
        rw [hz] at hn ⊢
        have HZ := Lib.hid hz
        have i1 := IntWalk.i64_in ((ha) - z) (by omega)
        clear hz
        go_enter Try.func92, Try.ntmps92
        go_wp2_with fail
        generalize hv : (w.alloc (.cells #[.int .i64 st, .int .i64 ha] 95)) = v at *
        have q0 : v.cell? ⟨w.heap.size, 0, none⟩ = some (.int .i64 st) := by rw [← hv]; simp
        have q1 : v.cell? ⟨w.heap.size, 1, none⟩ = some (.int .i64 ha) := by rw [← hv]; simp
        have bv : Below w.heap.size w v := by rw [← hv]; exact bel_al (bel_refl _) _
        clear hv
        have LB : ∀ xL : Later v, Calls Try.prog 85 #[.int .i64 (st)] xL.world fun e w'' => e = .returned (.int .i64 z) ∧ ∃ z : Later v, w'' = z.world := fun xL => later_call (nat_val HZ.out _ (by omega) (by omega))
        have lf0 : ∀ xL : Later v, xL.world.cell? ⟨w.heap.size, 0, none⟩ = some (.int .i64 st) := fun xL => xL.at (q0)
        have lf1 : ∀ xL : Later v, xL.world.cell? ⟨w.heap.size, 1, none⟩ = some (.int .i64 ha) := fun xL => xL.at (q1)
        refine region_later (w0 := v) (by kernel_rfl) (by kernel_rfl) (bel_refl _) ?_
        repeat (go_big_quiet_step ((go_at_call 85; exact LB _)))
        refine wpQuiet_nil ?_
        rintro w' ⟨x, rfl⟩
        obtain ⟨w2, b2⟩ := x
        clear lf0 lf1
        go_wp2
        go_ret
        exact ⟨rfl, by repeat (first | (with_reducible assumption) | (exact bel_undr (by with_reducible assumption)) | (with_reducible exact bel_refl _) | (with_reducible refine bel_dr ?_) | (with_reducible refine bel_drN ?_ _) | (with_reducible refine bel_al ?_ _) | (refine bel_set ?_ (by first | (simp; done) | (simp; exact Below.size (by assumption)) | (simp; omega)) _) | (with_reducible refine bel_tr ?_ (by assumption)))⟩
      · obtain ⟨z, hz⟩ : ∃ z, natI (st) = z := ⟨_, rfl⟩
        rw [hz] at hn ⊢
        have HZ := Lib.hid hz
        have i1 := IntWalk.i64_in ((ha) - z) (by omega)
        clear hz
        go_enter Try.func92, Try.ntmps92
        go_wp2_with fail
        generalize hv : (w.alloc (.cells #[.int .i64 st, .int .i64 ha] 95)) = v at *
        have q0 : v.cell? ⟨w.heap.size, 0, none⟩ = some (.int .i64 st) := by rw [← hv]; simp
        have q1 : v.cell? ⟨w.heap.size, 1, none⟩ = some (.int .i64 ha) := by rw [← hv]; simp
        have bv : Below w.heap.size w v := by rw [← hv]; exact bel_al (bel_refl _) _
        clear hv
        have LB : ∀ xL : Later v, Calls Try.prog 85 #[.int .i64 (st)] xL.world fun e w'' => e = .returned (.int .i64 z) ∧ ∃ z : Later v, w'' = z.world := fun xL => later_call (nat_val HZ.out _ (by omega) (by omega))
        have lf0 : ∀ xL : Later v, xL.world.cell? ⟨w.heap.size, 0, none⟩ = some (.int .i64 st) := fun xL => xL.at (q0)
        have lf1 : ∀ xL : Later v, xL.world.cell? ⟨w.heap.size, 1, none⟩ = some (.int .i64 ha) := fun xL => xL.at (q1)
        refine region_later (w0 := v) (by kernel_rfl) (by kernel_rfl) (bel_refl _) ?_
        repeat (go_big_quiet_step ((go_at_call 85; exact LB _)))
        refine wpQuiet_nil ?_
        rintro w' ⟨x, rfl⟩
        obtain ⟨w2, b2⟩ := x
        clear lf0 lf1
        go_wp2
        go_ret
        exact ⟨rfl, by repeat (first | (with_reducible assumption) | (exact bel_undr (by with_reducible assumption)) | (with_reducible exact bel_refl _) | (with_reducible refine bel_dr ?_) | (with_reducible refine bel_drN ?_ _) | (with_reducible refine bel_al ?_ _) | (refine bel_set ?_ (by first | (simp; done) | (simp; exact Below.size (by assumption)) | (simp; omega)) _) | (with_reducible refine bel_tr ?_ (by assumption)))⟩
theorem sq_val {st ha v : Int} (h : quI st ha = v) (w : World) (h0 : -21 ≤ st ∧ st ≤ 21) (t0 : -99 ≤ ha) (t1 : ha ≤ 99) : Calls Try.prog 92 #[.agg #[.int .i64 st, .int .i64 ha]] w fun e w' => e = .returned (.int .i64 v) ∧ Below w.heap.size w w' := by
  subst h; exact sq_any st ha w h0 t0 t1

set_option maxHeartbeats 1000000 in
theorem siv_any (st ha : Int) (w : World) : Calls Try.prog 86 #[.agg #[.int .i64 st, .int .i64 ha]] w fun e w' => e = .returned (.bool (ivB st ha)) ∧ Below w.heap.size w w' := by
  rw [ivB_iff]
  by_cases h1 : -21 ≤ st ∧ st ≤ 21
  · by_cases h2 : -60 ≤ ha ∧ ha ≤ 60
    · obtain ⟨q, hq⟩ : ∃ q, quI st ha = q := ⟨_, rfl⟩
      have HQ := Lib.hid hq
      have H1 := h1
      have H2 := h2
      obtain ⟨s0, s1⟩ := h1
      obtain ⟨t0, t1⟩ := h2
      by_cases h3 : -3 ≤ q ∧ q ≤ 3
      · refine bool_at (v := true) (decide_eq_true ⟨H1, H2, by rw [hq]; exact h3⟩) ?_
        obtain ⟨q0, q1⟩ := h3
        clear hq
        go_enter Try.func86, Try.ntmps86
        go_wp2_with (first | (go_at_call 52; refine (swin_yes _ _ _ _ (by omega) (by omega)).mono ?_; rintro e w' ⟨rfl, rfl⟩) | (go_at_call 52; refine (swin_no _ _ _ _ (by omega)).mono ?_; rintro e w' ⟨rfl, rfl⟩) | (go_at_call 92; refine (sq_val HQ.out _ H1 (by omega) (by omega)).mono ?_; rintro e1 w1 ⟨rfl, b1⟩))
        go_ret
        exact ⟨rfl, by repeat (first | (with_reducible assumption) | (exact bel_undr (by with_reducible assumption)) | (with_reducible exact bel_refl _) | (with_reducible refine bel_dr ?_) | (with_reducible refine bel_drN ?_ _) | (with_reducible refine bel_al ?_ _) | (refine bel_set ?_ (by first | (simp; done) | (simp; exact Below.size (by assumption)) | (simp; omega)) _) | (with_reducible refine bel_tr ?_ (by assumption)))⟩
      · refine bool_at (v := false) (decide_eq_false (by rw [hq]; exact fun c => h3 c.2.2)) ?_
        have h4 : q < -3 ∨ 3 < q := by omega
        clear hq h3
        go_enter Try.func86, Try.ntmps86
        go_wp2_with (first | (go_at_call 52; refine (swin_yes _ _ _ _ (by omega) (by omega)).mono ?_; rintro e w' ⟨rfl, rfl⟩) | (go_at_call 52; refine (swin_no _ _ _ _ (by omega)).mono ?_; rintro e w' ⟨rfl, rfl⟩) | (go_at_call 92; refine (sq_val HQ.out _ H1 (by omega) (by omega)).mono ?_; rintro e1 w1 ⟨rfl, b1⟩))
        go_ret
        exact ⟨rfl, by repeat (first | (with_reducible assumption) | (exact bel_undr (by with_reducible assumption)) | (with_reducible exact bel_refl _) | (with_reducible refine bel_dr ?_) | (with_reducible refine bel_drN ?_ _) | (with_reducible refine bel_al ?_ _) | (refine bel_set ?_ (by first | (simp; done) | (simp; exact Below.size (by assumption)) | (simp; omega)) _) | (with_reducible refine bel_tr ?_ (by assumption)))⟩
    · refine bool_at (v := false) (decide_eq_false (fun c => h2 c.2.1)) ?_
      have h4 : ha < -60 ∨ 60 < ha := by omega
      obtain ⟨s0, s1⟩ := h1
      have HQ : Hid (quI st ha = 0 ∨ True) := .inr trivial
      clear h2
      go_enter Try.func86, Try.ntmps86
      go_wp2_with (first | (go_at_call 52; refine (swin_yes _ _ _ _ (by omega) (by omega)).mono ?_; rintro e w' ⟨rfl, rfl⟩) | (go_at_call 52; refine (swin_no _ _ _ _ (by omega)).mono ?_; rintro e w' ⟨rfl, rfl⟩) | (fail; go_at_call 92; refine (sh_any 0 _ (by omega) (by omega)).mono ?_; rintro e1 w1 ⟨rfl, b1⟩))
      go_ret
      exact ⟨rfl, by repeat (first | (with_reducible assumption) | (exact bel_undr (by with_reducible assumption)) | (with_reducible exact bel_refl _) | (with_reducible refine bel_dr ?_) | (with_reducible refine bel_drN ?_ _) | (with_reducible refine bel_al ?_ _) | (refine bel_set ?_ (by first | (simp; done) | (simp; exact Below.size (by assumption)) | (simp; omega)) _) | (with_reducible refine bel_tr ?_ (by assumption)))⟩
  · refine bool_at (v := false) (decide_eq_false (fun c => h1 c.1)) ?_
    have h4 : st < -21 ∨ 21 < st := by omega
    clear h1
    go_enter Try.func86, Try.ntmps86
    go_wp2_with (first | (go_at_call 52; refine (swin_yes _ _ _ _ (by omega) (by omega)).mono ?_; rintro e w' ⟨rfl, rfl⟩) | (go_at_call 52; refine (swin_no _ _ _ _ (by omega)).mono ?_; rintro e w' ⟨rfl, rfl⟩) | (fail; go_at_call 92; refine (sh_any 0 _ (by omega) (by omega)).mono ?_; rintro e1 w1 ⟨rfl, b1⟩))
    go_ret
    exact ⟨rfl, by repeat (first | (with_reducible assumption) | (exact bel_undr (by with_reducible assumption)) | (with_reducible exact bel_refl _) | (with_reducible refine bel_dr ?_) | (with_reducible refine bel_drN ?_ _) | (with_reducible refine bel_al ?_ _) | (refine bel_set ?_ (by first | (simp; done) | (simp; exact Below.size (by assumption)) | (simp; omega)) _) | (with_reducible refine bel_tr ?_ (by assumption)))⟩
theorem siv_val {st ha : Int} {v : Bool} (h : ivB st ha = v) (w : World) : Calls Try.prog 86 #[.agg #[.int .i64 st, .int .i64 ha]] w fun e w' => e = .returned (.bool v) ∧ Below w.heap.size w w' := by
  subst h; exact siv_any st ha w
end Go.Proofs.Ytpjakgnghpapmaa
