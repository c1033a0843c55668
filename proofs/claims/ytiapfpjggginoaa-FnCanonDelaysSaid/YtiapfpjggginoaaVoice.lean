/- Voices: when one is valid; of the program and of the reference. -/
import Derived.Test.YtiapfpjggginoaaNote
import Derived.Test.YtiapfpjggginoaaHidn
namespace Go.Proofs.Ytiapfpjggginoaa
set_option linter.unusedSimpArgs false
set_option linter.unusedVariables false
open Go.RowKit

def vOk (l : List Nt) (k : Nat) : Prop := nvB (atNt l k) = true ∧ ((atNt l k).tied = true → k + 1 < l.length ∧ (atNt l (k + 1)).rest = false ∧ (atNt l (k + 1)).step = (atNt l k).step ∧ (atNt l (k + 1)).alter = (atNt l k).alter ∧ (atNt l (k + 1)).octave = (atNt l k).octave)
instance (l : List Nt) (k : Nat) : Decidable (vOk l k) := by unfold vOk; infer_instance
def vvB (l : List Nt) : Bool := decide (l.length ≤ 60 ∧ ∀ k, k < l.length → vOk l k)
theorem vvB_no {l : List Nt} (h : ¬ l.length ≤ 60) : vvB l = false := by
  unfold vvB; apply decide_eq_false; rintro ⟨a, _⟩; exact h a
theorem vvB_bad {l : List Nt} (k : Nat) (hk : k < l.length) (h : ¬ vOk l k) : vvB l = false := by
  unfold vvB; apply decide_eq_false; rintro ⟨_, d⟩; exact h (d k hk)
theorem vvB_yes {l : List Nt} (h : l.length ≤ 60) (hk : ∀ k, k < l.length → vOk l k) : vvB l = true := by
  unfold vvB; exact decide_eq_true ⟨h, hk⟩
structure VvF (l : List Nt) : Prop where
  len : l.length ≤ 60
  ok : ∀ k, k < l.length → vOk l k
theorem vvB_of {l : List Nt} (h : vvB l = true) : VvF l := by
  unfold vvB at h
  obtain ⟨a, b⟩ := of_decide_eq_true h
  exact ⟨a, b⟩

set_option maxHeartbeats 8000000 in
theorem vv_any (A : Option Addr) (n c : Nat) (l : List Nt) (w : World) (hn : l.length = n) (hm : n ≤ 2000000) (h : RowNt w w.heap.size A l) :
    Calls Try.prog 39 #[.slice A n c] w fun e w' => e = .returned (.bool (vvB l)) ∧ Below w.heap.size w w' := by
  subst hn
  by_cases h60 : l.length ≤ 60
  · go_enter Try.func39, Try.ntmps39
    have h61 : (l.length : Int) ≤ 60 := by omega
    go_wp2
    go_loopw [10] (fun i wr => ∃ k : Nat, k ≤ l.length ∧ i = .int .i64 k ∧ Below w.heap.size w wr ∧ Hid (∀ j, j < k → vOk l j)) (fun i _ => l.length - (intOf i).toNat)
    case atStart => exact ⟨0, Nat.zero_le _, rfl, bel_refl _, fun j hj => by omega⟩
    case round =>
      obtain ⟨k, hk, rfl, hb, HV⟩ := hrel
      by_cases hlt : k < l.length
      · obtain ⟨b, off, rfl, hlb, hc⟩ := (h.below hb) (by omega)
        have hck := hc k hlt
        have hkl : (k : Int) < (l.length : Int) := by omega
        have hk0 : (0 : Int) ≤ (k : Int) := by omega
        have hk1 : (0 : Int) ≤ (k : Int) + 1 := by omega
        cases hv : nvB (atNt l k)
        · have HB : Hid (¬ vOk l k) := fun z => absurd (hv.symm.trans z.1) (by simp)
          generalize atNt l k = x at hck hv
          clear hc h
          obtain ⟨r, s, a, o, t, d⟩ := x
          obtain ⟨p0, p1, p2, p3, p4, p5⟩ := hck
          simp only at p0 p1 p2 p3 p4 p5
          have HV1 := Lib.hid hv
          clear hv
          have hX := World.block_lt_of_cell? wr _ p0
          simp only at hX
          have m0 : (wr.alloc (.cells #[.bool r, .int .i64 s, .int .i64 a, .int .i64 o, .int .i64 t, .bool d] 55)).cell? ⟨wr.heap.size, 0, none⟩ = some (.bool r) := by simp
          have m1 : (wr.alloc (.cells #[.bool r, .int .i64 s, .int .i64 a, .int .i64 o, .int .i64 t, .bool d] 55)).cell? ⟨wr.heap.size, 1, none⟩ = some (.int .i64 s) := by simp
          have m2 : (wr.alloc (.cells #[.bool r, .int .i64 s, .int .i64 a, .int .i64 o, .int .i64 t, .bool d] 55)).cell? ⟨wr.heap.size, 2, none⟩ = some (.int .i64 a) := by simp
          have m3 : (wr.alloc (.cells #[.bool r, .int .i64 s, .int .i64 a, .int .i64 o, .int .i64 t, .bool d] 55)).cell? ⟨wr.heap.size, 3, none⟩ = some (.int .i64 o) := by simp
          have m4 : (wr.alloc (.cells #[.bool r, .int .i64 s, .int .i64 a, .int .i64 o, .int .i64 t, .bool d] 55)).cell? ⟨wr.heap.size, 4, none⟩ = some (.int .i64 t) := by simp
          have m5 : (wr.alloc (.cells #[.bool r, .int .i64 s, .int .i64 a, .int .i64 o, .int .i64 t, .bool d] 55)).cell? ⟨wr.heap.size, 5, none⟩ = some (.bool d) := by simp
          have qb : Below w.heap.size w (wr.alloc (.cells #[.bool r, .int .i64 s, .int .i64 a, .int .i64 o, .int .i64 t, .bool d] 55)) := by repeat (first | (with_reducible assumption) | (exact bel_undr (by with_reducible assumption)) | (with_reducible exact bel_refl _) | (with_reducible refine bel_dr ?_) | (with_reducible refine bel_drN ?_ _) | (with_reducible refine bel_al ?_ _) | (refine bel_set ?_ (by first | (simp; done) | (simp; exact Below.size (by assumption)) | (simp; omega)) _) | (with_reducible refine bel_tr ?_ (by assumption)))
          go_wp2_with fail
          generalize (wr.alloc (.cells #[.bool r, .int .i64 s, .int .i64 a, .int .i64 o, .int .i64 t, .bool d] 55)) = v at *
          generalize wr.heap.size = X at *
          have x1 := IntWalk.i64_in ((k : Int) + 1) (by omega)
          have lf0 : ∀ xL : Later v, xL.world.cell? ⟨X, 0, none⟩ = some (.bool r) := fun xL => xL.at (m0)
          have lf1 : ∀ xL : Later v, xL.world.cell? ⟨X, 1, none⟩ = some (.int .i64 s) := fun xL => xL.at (m1)
          have lf2 : ∀ xL : Later v, xL.world.cell? ⟨X, 2, none⟩ = some (.int .i64 a) := fun xL => xL.at (m2)
          have lf3 : ∀ xL : Later v, xL.world.cell? ⟨X, 3, none⟩ = some (.int .i64 o) := fun xL => xL.at (m3)
          have lf4 : ∀ xL : Later v, xL.world.cell? ⟨X, 4, none⟩ = some (.int .i64 t) := fun xL => xL.at (m4)
          have lf5 : ∀ xL : Later v, xL.world.cell? ⟨X, 5, none⟩ = some (.bool d) := fun xL => xL.at (m5)
          refine region_later (w0 := v) (by kernel_rfl) (by kernel_rfl) (bel_refl _) ?_
          repeat (go_big_quiet_step ((go_at_call 61; exact later_call (nv_val HV1.out _))))
          refine wpQuiet_nil ?_
          rintro w' ⟨x, rfl⟩
          obtain ⟨w3, b3⟩ := x
          clear lf0 lf1 lf2 lf3 lf4 lf5
          clear x1
          go_wp2
          go_ret
          exact ⟨ret_bool (vvB_bad _ hlt HB).symm, by repeat (first | (with_reducible assumption) | (exact bel_undr (by with_reducible assumption)) | (with_reducible exact bel_refl _) | (with_reducible refine bel_dr ?_) | (with_reducible refine bel_drN ?_ _) | (with_reducible refine bel_al ?_ _) | (refine bel_set ?_ (by first | (simp; done) | (simp; exact Below.size (by assumption)) | (simp; omega)) _) | (with_reducible refine bel_tr ?_ (by assumption)))⟩
        · cases ht : (atNt l k).tied
          · have HB : Hid (vOk l k) := ⟨hv, fun z => absurd (z.symm.trans ht) (by simp)⟩
            generalize atNt l k = x at hck hv ht
            clear hc h
            obtain ⟨r, s, a, o, t, d⟩ := x
            obtain ⟨p0, p1, p2, p3, p4, p5⟩ := hck
            simp only at p0 p1 p2 p3 p4 p5
            simp only at ht
            subst ht
            have HV1 := Lib.hid hv
            clear hv
            have hX := World.block_lt_of_cell? wr _ p0
            simp only at hX
            have m0 : (wr.alloc (.cells #[.bool r, .int .i64 s, .int .i64 a, .int .i64 o, .int .i64 t, .bool false] 55)).cell? ⟨wr.heap.size, 0, none⟩ = some (.bool r) := by simp
            have m1 : (wr.alloc (.cells #[.bool r, .int .i64 s, .int .i64 a, .int .i64 o, .int .i64 t, .bool false] 55)).cell? ⟨wr.heap.size, 1, none⟩ = some (.int .i64 s) := by simp
            have m2 : (wr.alloc (.cells #[.bool r, .int .i64 s, .int .i64 a, .int .i64 o, .int .i64 t, .bool false] 55)).cell? ⟨wr.heap.size, 2, none⟩ = some (.int .i64 a) := by simp
            have m3 : (wr.alloc (.cells #[.bool r, .int .i64 s, .int .i64 a, .int .i64 o, .int .i64 t, .bool false] 55)).cell? ⟨wr.heap.size, 3, none⟩ = some (.int .i64 o) := by simp
            have m4 : (wr.alloc (.cells #[.bool r, .int .i64 s, .int .i64 a, .int .i64 o, .int .i64 t, .bool false] 55)).cell? ⟨wr.heap.size, 4, none⟩ = some (.int .i64 t) := by simp
            have m5 : (wr.alloc (.cells #[.bool r, .int .i64 s, .int .i64 a, .int .i64 o, .int .i64 t, .bool false] 55)).cell? ⟨wr.heap.size, 5, none⟩ = some (.bool false) := by simp
            have qb : Below w.heap.size w (wr.alloc (.cells #[.bool r, .int .i64 s, .int .i64 a, .int .i64 o, .int .i64 t, .bool false] 55)) := by repeat (first | (with_reducible assumption) | (exact bel_undr (by with_reducible assumption)) | (with_reducible exact bel_refl _) | (with_reducible refine bel_dr ?_) | (with_reducible refine bel_drN ?_ _) | (with_reducible refine bel_al ?_ _) | (refine bel_set ?_ (by first | (simp; done) | (simp; exact Below.size (by assumption)) | (simp; omega)) _) | (with_reducible refine bel_tr ?_ (by assumption)))
            go_wp2_with fail
            generalize (wr.alloc (.cells #[.bool r, .int .i64 s, .int .i64 a, .int .i64 o, .int .i64 t, .bool false] 55)) = v at *
            generalize wr.heap.size = X at *
            have x1 := IntWalk.i64_in ((k : Int) + 1) (by omega)
            have lf0 : ∀ xL : Later v, xL.world.cell? ⟨X, 0, none⟩ = some (.bool r) := fun xL => xL.at (m0)
            have lf1 : ∀ xL : Later v, xL.world.cell? ⟨X, 1, none⟩ = some (.int .i64 s) := fun xL => xL.at (m1)
            have lf2 : ∀ xL : Later v, xL.world.cell? ⟨X, 2, none⟩ = some (.int .i64 a) := fun xL => xL.at (m2)
            have lf3 : ∀ xL : Later v, xL.world.cell? ⟨X, 3, none⟩ = some (.int .i64 o) := fun xL => xL.at (m3)
            have lf4 : ∀ xL : Later v, xL.world.cell? ⟨X, 4, none⟩ = some (.int .i64 t) := fun xL => xL.at (m4)
            have lf5 : ∀ xL : Later v, xL.world.cell? ⟨X, 5, none⟩ = some (.bool false) := fun xL => xL.at (m5)
            refine region_later (w0 := v) (by kernel_rfl) (by kernel_rfl) (bel_refl _) ?_
            repeat (go_big_quiet_step ((go_at_call 61; exact later_call (nv_val HV1.out _))))
            refine wpQuiet_nil ?_
            rintro w' ⟨x, rfl⟩
            obtain ⟨w3, b3⟩ := x
            clear lf0 lf1 lf2 lf3 lf4 lf5
            clear x1
            go_wp2
            go_roundw
            case rel => exact ⟨k + 1, by omega, by go_num, by repeat (first | (with_reducible assumption) | (exact bel_undr (by with_reducible assumption)) | (with_reducible exact bel_refl _) | (with_reducible refine bel_dr ?_) | (with_reducible refine bel_drN ?_ _) | (with_reducible refine bel_al ?_ _) | (refine bel_set ?_ (by first | (simp; done) | (simp; exact Below.size (by assumption)) | (simp; omega)) _) | (with_reducible refine bel_tr ?_ (by assumption))), hid_snoc HV HB⟩
            case measure => simp [intOf]; omega
          · by_cases hnx : k + 1 < l.length
            · have hcn := hc (k + 1) hnx
              by_cases g0 : (atNt l (k + 1)).rest = false
              · by_cases g1 : (atNt l (k + 1)).step = (atNt l k).step
                · by_cases g2 : (atNt l (k + 1)).alter = (atNt l k).alter
                  · by_cases g3 : (atNt l (k + 1)).octave = (atNt l k).octave
                    · have HB : Hid (vOk l k) := ⟨hv, fun _ => ⟨hnx, g0, g1, g2, g3⟩⟩
                      have GG := And.intro g0 (And.intro g1 (And.intro g2 g3))
                      clear g0 g1 g2 g3
                      generalize atNt l k = x at hck hv ht GG
                      generalize atNt l (k + 1) = y at hcn GG
                      clear hc h
                      obtain ⟨r, s, a, o, t, d⟩ := x
                      obtain ⟨r2, s2, a2, o2, t2, d2⟩ := y
                      obtain ⟨p0, p1, p2, p3, p4, p5⟩ := hck
                      obtain ⟨q0, q1, q2, q3, q4, q5⟩ := hcn
                      simp only at p0 p1 p2 p3 p4 p5 q0 q1 q2 q3 q4 q5 ht GG
                      subst ht
                      have HV1 := Lib.hid hv
                      clear hv
                      obtain ⟨rfl, rfl, rfl, rfl⟩ := GG
                      have e1 : ((k : Int) + 1 == (l.length : Int)) = false := by simp; omega
                      have e2 : ((k : Int) == (l.length : Int) - 1) = false := by simp; omega
                      have e3 : ((k : Int) + 1).toNat = k + 1 := by omega
                      have e4 : (k : Int) + 1 < (l.length : Int) := by omega
                      have hX := World.block_lt_of_cell? wr _ p0
                      simp only at hX
                      have m0 : (wr.alloc (.cells #[.bool r, .int .i64 s2, .int .i64 a2, .int .i64 o2, .int .i64 t, .bool true] 55)).cell? ⟨wr.heap.size, 0, none⟩ = some (.bool r) := by simp
                      have m1 : (wr.alloc (.cells #[.bool r, .int .i64 s2, .int .i64 a2, .int .i64 o2, .int .i64 t, .bool true] 55)).cell? ⟨wr.heap.size, 1, none⟩ = some (.int .i64 s2) := by simp
                      have m2 : (wr.alloc (.cells #[.bool r, .int .i64 s2, .int .i64 a2, .int .i64 o2, .int .i64 t, .bool true] 55)).cell? ⟨wr.heap.size, 2, none⟩ = some (.int .i64 a2) := by simp
                      have m3 : (wr.alloc (.cells #[.bool r, .int .i64 s2, .int .i64 a2, .int .i64 o2, .int .i64 t, .bool true] 55)).cell? ⟨wr.heap.size, 3, none⟩ = some (.int .i64 o2) := by simp
                      have m4 : (wr.alloc (.cells #[.bool r, .int .i64 s2, .int .i64 a2, .int .i64 o2, .int .i64 t, .bool true] 55)).cell? ⟨wr.heap.size, 4, none⟩ = some (.int .i64 t) := by simp
                      have m5 : (wr.alloc (.cells #[.bool r, .int .i64 s2, .int .i64 a2, .int .i64 o2, .int .i64 t, .bool true] 55)).cell? ⟨wr.heap.size, 5, none⟩ = some (.bool true) := by simp
                      have q0 := keep_al q0 (.cells #[.bool r, .int .i64 s2, .int .i64 a2, .int .i64 o2, .int .i64 t, .bool true] 55)
                      have q1 := keep_al q1 (.cells #[.bool r, .int .i64 s2, .int .i64 a2, .int .i64 o2, .int .i64 t, .bool true] 55)
                      have q2 := keep_al q2 (.cells #[.bool r, .int .i64 s2, .int .i64 a2, .int .i64 o2, .int .i64 t, .bool true] 55)
                      have q3 := keep_al q3 (.cells #[.bool r, .int .i64 s2, .int .i64 a2, .int .i64 o2, .int .i64 t, .bool true] 55)
                      have q4 := keep_al q4 (.cells #[.bool r, .int .i64 s2, .int .i64 a2, .int .i64 o2, .int .i64 t, .bool true] 55)
                      have q5 := keep_al q5 (.cells #[.bool r, .int .i64 s2, .int .i64 a2, .int .i64 o2, .int .i64 t, .bool true] 55)
                      have qb : Below w.heap.size w (wr.alloc (.cells #[.bool r, .int .i64 s2, .int .i64 a2, .int .i64 o2, .int .i64 t, .bool true] 55)) := by repeat (first | (with_reducible assumption) | (exact bel_undr (by with_reducible assumption)) | (with_reducible exact bel_refl _) | (with_reducible refine bel_dr ?_) | (with_reducible refine bel_drN ?_ _) | (with_reducible refine bel_al ?_ _) | (refine bel_set ?_ (by first | (simp; done) | (simp; exact Below.size (by assumption)) | (simp; omega)) _) | (with_reducible refine bel_tr ?_ (by assumption)))
                      go_wp2_with fail
                      generalize (wr.alloc (.cells #[.bool r, .int .i64 s2, .int .i64 a2, .int .i64 o2, .int .i64 t, .bool true] 55)) = v at *
                      generalize wr.heap.size = X at *
                      have x1 := IntWalk.i64_in ((k : Int) + 1) (by omega)
                      have lf0 : ∀ xL : Later v, xL.world.cell? ⟨X, 0, none⟩ = some (.bool r) := fun xL => xL.at (m0)
                      have lf1 : ∀ xL : Later v, xL.world.cell? ⟨X, 1, none⟩ = some (.int .i64 s2) := fun xL => xL.at (m1)
                      have lf2 : ∀ xL : Later v, xL.world.cell? ⟨X, 2, none⟩ = some (.int .i64 a2) := fun xL => xL.at (m2)
                      have lf3 : ∀ xL : Later v, xL.world.cell? ⟨X, 3, none⟩ = some (.int .i64 o2) := fun xL => xL.at (m3)
                      have lf4 : ∀ xL : Later v, xL.world.cell? ⟨X, 4, none⟩ = some (.int .i64 t) := fun xL => xL.at (m4)
                      have lf5 : ∀ xL : Later v, xL.world.cell? ⟨X, 5, none⟩ = some (.bool true) := fun xL => xL.at (m5)
                      have lf6 : ∀ xL : Later v, xL.world.cell? ⟨b, off + (k + 1) * 6, none⟩ = some (.bool false) := fun xL => xL.at (q0)
                      have lf7 : ∀ xL : Later v, xL.world.cell? ⟨b, off + (k + 1) * 6 + 1, none⟩ = some (.int .i64 s2) := fun xL => xL.at (q1)
                      have lf8 : ∀ xL : Later v, xL.world.cell? ⟨b, off + (k + 1) * 6 + 2, none⟩ = some (.int .i64 a2) := fun xL => xL.at (q2)
                      have lf9 : ∀ xL : Later v, xL.world.cell? ⟨b, off + (k + 1) * 6 + 3, none⟩ = some (.int .i64 o2) := fun xL => xL.at (q3)
                      have lf10 : ∀ xL : Later v, xL.world.cell? ⟨b, off + (k + 1) * 6 + 4, none⟩ = some (.int .i64 t2) := fun xL => xL.at (q4)
                      have lf11 : ∀ xL : Later v, xL.world.cell? ⟨b, off + (k + 1) * 6 + 5, none⟩ = some (.bool d2) := fun xL => xL.at (q5)
                      refine region_later (w0 := v) (by kernel_rfl) (by kernel_rfl) (bel_refl _) ?_
                      repeat (go_big_quiet_step ((go_at_call 61; exact later_call (nv_val HV1.out _))))
                      refine wpQuiet_nil ?_
                      rintro w' ⟨x, rfl⟩
                      obtain ⟨w3, b3⟩ := x
                      clear lf0 lf1 lf2 lf3 lf4 lf5 lf6 lf7 lf8 lf9 lf10 lf11
                      clear x1
                      go_wp2
                      go_roundw
                      case rel => exact ⟨k + 1, by omega, by go_num, by repeat (first | (with_reducible assumption) | (exact bel_undr (by with_reducible assumption)) | (with_reducible exact bel_refl _) | (with_reducible refine bel_dr ?_) | (with_reducible refine bel_drN ?_ _) | (with_reducible refine bel_al ?_ _) | (refine bel_set ?_ (by first | (simp; done) | (simp; exact Below.size (by assumption)) | (simp; omega)) _) | (with_reducible refine bel_tr ?_ (by assumption))), hid_snoc HV HB⟩
                      case measure => simp [intOf]; omega
                    · have HB : Hid (¬ vOk l k) := fun z => g3 ((fun z => z.2.2.2.2) (z.2 ht))
                      have GG := And.intro g0 (And.intro g1 (And.intro g2 ((show ((atNt l (k + 1)).octave == (atNt l k).octave) = false from by simpa using g3))))
                      clear g0 g1 g2 g3
                      generalize atNt l k = x at hck hv ht GG
                      generalize atNt l (k + 1) = y at hcn GG
                      clear hc h
                      obtain ⟨r, s, a, o, t, d⟩ := x
                      obtain ⟨r2, s2, a2, o2, t2, d2⟩ := y
                      obtain ⟨p0, p1, p2, p3, p4, p5⟩ := hck
                      obtain ⟨q0, q1, q2, q3, q4, q5⟩ := hcn
                      simp only at p0 p1 p2 p3 p4 p5 q0 q1 q2 q3 q4 q5 ht GG
                      subst ht
                      have HV1 := Lib.hid hv
                      clear hv
                      obtain ⟨rfl, rfl, rfl, gg⟩ := GG
                      have e1 : ((k : Int) + 1 == (l.length : Int)) = false := by simp; omega
                      have e2 : ((k : Int) == (l.length : Int) - 1) = false := by simp; omega
                      have e3 : ((k : Int) + 1).toNat = k + 1 := by omega
                      have e4 : (k : Int) + 1 < (l.length : Int) := by omega
                      have hX := World.block_lt_of_cell? wr _ p0
                      simp only at hX
                      have m0 : (wr.alloc (.cells #[.bool r, .int .i64 s2, .int .i64 a2, .int .i64 o, .int .i64 t, .bool true] 55)).cell? ⟨wr.heap.size, 0, none⟩ = some (.bool r) := by simp
                      have m1 : (wr.alloc (.cells #[.bool r, .int .i64 s2, .int .i64 a2, .int .i64 o, .int .i64 t, .bool true] 55)).cell? ⟨wr.heap.size, 1, none⟩ = some (.int .i64 s2) := by simp
                      have m2 : (wr.alloc (.cells #[.bool r, .int .i64 s2, .int .i64 a2, .int .i64 o, .int .i64 t, .bool true] 55)).cell? ⟨wr.heap.size, 2, none⟩ = some (.int .i64 a2) := by simp
                      have m3 : (wr.alloc (.cells #[.bool r, .int .i64 s2, .int .i64 a2, .int .i64 o, .int .i64 t, .bool true] 55)).cell? ⟨wr.heap.size, 3, none⟩ = some (.int .i64 o) := by simp
                      have m4 : (wr.alloc (.cells #[.bool r, .int .i64 s2, .int .i64 a2, .int .i64 o, .int .i64 t, .bool true] 55)).cell? ⟨wr.heap.size, 4, none⟩ = some (.int .i64 t) := by simp
                      have m5 : (wr.alloc (.cells #[.bool r, .int .i64 s2, .int .i64 a2, .int .i64 o, .int .i64 t, .bool true] 55)).cell? ⟨wr.heap.size, 5, none⟩ = some (.bool true) := by simp
                      have q0 := keep_al q0 (.cells #[.bool r, .int .i64 s2, .int .i64 a2, .int .i64 o, .int .i64 t, .bool true] 55)
                      have q1 := keep_al q1 (.cells #[.bool r, .int .i64 s2, .int .i64 a2, .int .i64 o, .int .i64 t, .bool true] 55)
                      have q2 := keep_al q2 (.cells #[.bool r, .int .i64 s2, .int .i64 a2, .int .i64 o, .int .i64 t, .bool true] 55)
                      have q3 := keep_al q3 (.cells #[.bool r, .int .i64 s2, .int .i64 a2, .int .i64 o, .int .i64 t, .bool true] 55)
                      have q4 := keep_al q4 (.cells #[.bool r, .int .i64 s2, .int .i64 a2, .int .i64 o, .int .i64 t, .bool true] 55)
                      have q5 := keep_al q5 (.cells #[.bool r, .int .i64 s2, .int .i64 a2, .int .i64 o, .int .i64 t, .bool true] 55)
                      have qb : Below w.heap.size w (wr.alloc (.cells #[.bool r, .int .i64 s2, .int .i64 a2, .int .i64 o, .int .i64 t, .bool true] 55)) := by repeat (first | (with_reducible assumption) | (exact bel_undr (by with_reducible assumption)) | (with_reducible exact bel_refl _) | (with_reducible refine bel_dr ?_) | (with_reducible refine bel_drN ?_ _) | (with_reducible refine bel_al ?_ _) | (refine bel_set ?_ (by first | (simp; done) | (simp; exact Below.size (by assumption)) | (simp; omega)) _) | (with_reducible refine bel_tr ?_ (by assumption)))
                      go_wp2_with fail
                      generalize (wr.alloc (.cells #[.bool r, .int .i64 s2, .int .i64 a2, .int .i64 o, .int .i64 t, .bool true] 55)) = v at *
                      generalize wr.heap.size = X at *
                      have x1 := IntWalk.i64_in ((k : Int) + 1) (by omega)
                      have lf0 : ∀ xL : Later v, xL.world.cell? ⟨X, 0, none⟩ = some (.bool r) := fun xL => xL.at (m0)
                      have lf1 : ∀ xL : Later v, xL.world.cell? ⟨X, 1, none⟩ = some (.int .i64 s2) := fun xL => xL.at (m1)
                      have lf2 : ∀ xL : Later v, xL.world.cell? ⟨X, 2, none⟩ = some (.int .i64 a2) := fun xL => xL.at (m2)
                      have lf3 : ∀ xL : Later v, xL.world.cell? ⟨X, 3, none⟩ = some (.int .i64 o) := fun xL => xL.at (m3)
                      have lf4 : ∀ xL : Later v, xL.world.cell? ⟨X, 4, none⟩ = some (.int .i64 t) := fun xL => xL.at (m4)
                      have lf5 : ∀ xL : Later v, xL.world.cell? ⟨X, 5, none⟩ = some (.bool true) := fun xL => xL.at (m5)
                      have lf6 : ∀ xL : Later v, xL.world.cell? ⟨b, off + (k + 1) * 6, none⟩ = some (.bool false) := fun xL => xL.at (q0)
                      have lf7 : ∀ xL : Later v, xL.world.cell? ⟨b, off + (k + 1) * 6 + 1, none⟩ = some (.int .i64 s2) := fun xL => xL.at (q1)
                      have lf8 : ∀ xL : Later v, xL.world.cell? ⟨b, off + (k + 1) * 6 + 2, none⟩ = some (.int .i64 a2) := fun xL => xL.at (q2)
                      have lf9 : ∀ xL : Later v, xL.world.cell? ⟨b, off + (k + 1) * 6 + 3, none⟩ = some (.int .i64 o2) := fun xL => xL.at (q3)
                      have lf10 : ∀ xL : Later v, xL.world.cell? ⟨b, off + (k + 1) * 6 + 4, none⟩ = some (.int .i64 t2) := fun xL => xL.at (q4)
                      have lf11 : ∀ xL : Later v, xL.world.cell? ⟨b, off + (k + 1) * 6 + 5, none⟩ = some (.bool d2) := fun xL => xL.at (q5)
                      refine region_later (w0 := v) (by kernel_rfl) (by kernel_rfl) (bel_refl _) ?_
                      repeat (go_big_quiet_step ((go_at_call 61; exact later_call (nv_val HV1.out _))))
                      refine wpQuiet_nil ?_
                      rintro w' ⟨x, rfl⟩
                      obtain ⟨w3, b3⟩ := x
                      clear lf0 lf1 lf2 lf3 lf4 lf5 lf6 lf7 lf8 lf9 lf10 lf11
                      clear x1
                      go_wp2
                      go_ret
                      exact ⟨ret_bool (vvB_bad _ hlt HB).symm, by repeat (first | (with_reducible assumption) | (exact bel_undr (by with_reducible assumption)) | (with_reducible exact bel_refl _) | (with_reducible refine bel_dr ?_) | (with_reducible refine bel_drN ?_ _) | (with_reducible refine bel_al ?_ _) | (refine bel_set ?_ (by first | (simp; done) | (simp; exact Below.size (by assumption)) | (simp; omega)) _) | (with_reducible refine bel_tr ?_ (by assumption)))⟩
                  · have HB : Hid (¬ vOk l k) := fun z => g2 ((fun z => z.2.2.2.1) (z.2 ht))
                    have GG := And.intro g0 (And.intro g1 ((show ((atNt l (k + 1)).alter == (atNt l k).alter) = false from by simpa using g2)))
                    clear g0 g1 g2
                    generalize atNt l k = x at hck hv ht GG
                    generalize atNt l (k + 1) = y at hcn GG
                    clear hc h
                    obtain ⟨r, s, a, o, t, d⟩ := x
                    obtain ⟨r2, s2, a2, o2, t2, d2⟩ := y
                    obtain ⟨p0, p1, p2, p3, p4, p5⟩ := hck
                    obtain ⟨q0, q1, q2, q3, q4, q5⟩ := hcn
                    simp only at p0 p1 p2 p3 p4 p5 q0 q1 q2 q3 q4 q5 ht GG
                    subst ht
                    have HV1 := Lib.hid hv
                    clear hv
                    obtain ⟨rfl, rfl, gg⟩ := GG
                    have e1 : ((k : Int) + 1 == (l.length : Int)) = false := by simp; omega
                    have e2 : ((k : Int) == (l.length : Int) - 1) = false := by simp; omega
                    have e3 : ((k : Int) + 1).toNat = k + 1 := by omega
                    have e4 : (k : Int) + 1 < (l.length : Int) := by omega
                    have hX := World.block_lt_of_cell? wr _ p0
                    simp only at hX
                    have m0 : (wr.alloc (.cells #[.bool r, .int .i64 s2, .int .i64 a, .int .i64 o, .int .i64 t, .bool true] 55)).cell? ⟨wr.heap.size, 0, none⟩ = some (.bool r) := by simp
                    have m1 : (wr.alloc (.cells #[.bool r, .int .i64 s2, .int .i64 a, .int .i64 o, .int .i64 t, .bool true] 55)).cell? ⟨wr.heap.size, 1, none⟩ = some (.int .i64 s2) := by simp
                    have m2 : (wr.alloc (.cells #[.bool r, .int .i64 s2, .int .i64 a, .int .i64 o, .int .i64 t, .bool true] 55)).cell? ⟨wr.heap.size, 2, none⟩ = some (.int .i64 a) := by simp
                    have m3 : (wr.alloc (.cells #[.bool r, .int .i64 s2, .int .i64 a, .int .i64 o, .int .i64 t, .bool true] 55)).cell? ⟨wr.heap.size, 3, none⟩ = some (.int .i64 o) := by simp
                    have m4 : (wr.alloc (.cells #[.bool r, .int .i64 s2, .int .i64 a, .int .i64 o, .int .i64 t, .bool true] 55)).cell? ⟨wr.heap.size, 4, none⟩ = some (.int .i64 t) := by simp
                    have m5 : (wr.alloc (.cells #[.bool r, .int .i64 s2, .int .i64 a, .int .i64 o, .int .i64 t, .bool true] 55)).cell? ⟨wr.heap.size, 5, none⟩ = some (.bool true) := by simp
                    have q0 := keep_al q0 (.cells #[.bool r, .int .i64 s2, .int .i64 a, .int .i64 o, .int .i64 t, .bool true] 55)
                    have q1 := keep_al q1 (.cells #[.bool r, .int .i64 s2, .int .i64 a, .int .i64 o, .int .i64 t, .bool true] 55)
                    have q2 := keep_al q2 (.cells #[.bool r, .int .i64 s2, .int .i64 a, .int .i64 o, .int .i64 t, .bool true] 55)
                    have q3 := keep_al q3 (.cells #[.bool r, .int .i64 s2, .int .i64 a, .int .i64 o, .int .i64 t, .bool true] 55)
                    have q4 := keep_al q4 (.cells #[.bool r, .int .i64 s2, .int .i64 a, .int .i64 o, .int .i64 t, .bool true] 55)
                    have q5 := keep_al q5 (.cells #[.bool r, .int .i64 s2, .int .i64 a, .int .i64 o, .int .i64 t, .bool true] 55)
                    have qb : Below w.heap.size w (wr.alloc (.cells #[.bool r, .int .i64 s2, .int .i64 a, .int .i64 o, .int .i64 t, .bool true] 55)) := by repeat (first | (with_reducible assumption) | (exact bel_undr (by with_reducible assumption)) | (with_reducible exact bel_refl _) | (with_reducible refine bel_dr ?_) | (with_reducible refine bel_drN ?_ _) | (with_reducible refine bel_al ?_ _) | (refine bel_set ?_ (by first | (simp; done) | (simp; exact Below.size (by assumption)) | (simp; omega)) _) | (with_reducible refine bel_tr ?_ (by assumption)))
                    go_wp2_with fail
                    generalize (wr.alloc (.cells #[.bool r, .int .i64 s2, .int .i64 a, .int .i64 o, .int .i64 t, .bool true] 55)) = v at *
                    generalize wr.heap.size = X at *
                    have x1 := IntWalk.i64_in ((k : Int) + 1) (by omega)
                    have lf0 : ∀ xL : Later v, xL.world.cell? ⟨X, 0, none⟩ = some (.bool r) := fun xL => xL.at (m0)
                    have lf1 : ∀ xL : Later v, xL.world.cell? ⟨X, 1, none⟩ = some (.int .i64 s2) := fun xL => xL.at (m1)
                    have lf2 : ∀ xL : Later v, xL.world.cell? ⟨X, 2, none⟩ = some (.int .i64 a) := fun xL => xL.at (m2)
                    have lf3 : ∀ xL : Later v, xL.world.cell? ⟨X, 3, none⟩ = some (.int .i64 o) := fun xL => xL.at (m3)
                    have lf4 : ∀ xL : Later v, xL.world.cell? ⟨X, 4, none⟩ = some (.int .i64 t) := fun xL => xL.at (m4)
                    have lf5 : ∀ xL : Later v, xL.world.cell? ⟨X, 5, none⟩ = some (.bool true) := fun xL => xL.at (m5)
                    have lf6 : ∀ xL : Later v, xL.world.cell? ⟨b, off + (k + 1) * 6, none⟩ = some (.bool false) := fun xL => xL.at (q0)
                    have lf7 : ∀ xL : Later v, xL.world.cell? ⟨b, off + (k + 1) * 6 + 1, none⟩ = some (.int .i64 s2) := fun xL => xL.at (q1)
                    have lf8 : ∀ xL : Later v, xL.world.cell? ⟨b, off + (k + 1) * 6 + 2, none⟩ = some (.int .i64 a2) := fun xL => xL.at (q2)
                    have lf9 : ∀ xL : Later v, xL.world.cell? ⟨b, off + (k + 1) * 6 + 3, none⟩ = some (.int .i64 o2) := fun xL => xL.at (q3)
                    have lf10 : ∀ xL : Later v, xL.world.cell? ⟨b, off + (k + 1) * 6 + 4, none⟩ = some (.int .i64 t2) := fun xL => xL.at (q4)
                    have lf11 : ∀ xL : Later v, xL.world.cell? ⟨b, off + (k + 1) * 6 + 5, none⟩ = some (.bool d2) := fun xL => xL.at (q5)
                    refine region_later (w0 := v) (by kernel_rfl) (by kernel_rfl) (bel_refl _) ?_
                    repeat (go_big_quiet_step ((go_at_call 61; exact later_call (nv_val HV1.out _))))
                    refine wpQuiet_nil ?_
                    rintro w' ⟨x, rfl⟩
                    obtain ⟨w3, b3⟩ := x
                    clear lf0 lf1 lf2 lf3 lf4 lf5 lf6 lf7 lf8 lf9 lf10 lf11
                    clear x1
                    go_wp2
                    go_ret
                    exact ⟨ret_bool (vvB_bad _ hlt HB).symm, by repeat (first | (with_reducible assumption) | (exact bel_undr (by with_reducible assumption)) | (with_reducible exact bel_refl _) | (with_reducible refine bel_dr ?_) | (with_reducible refine bel_drN ?_ _) | (with_reducible refine bel_al ?_ _) | (refine bel_set ?_ (by first | (simp; done) | (simp; exact Below.size (by assumption)) | (simp; omega)) _) | (with_reducible refine bel_tr ?_ (by assumption)))⟩
                · have HB : Hid (¬ vOk l k) := fun z => g1 ((fun z => z.2.2.1) (z.2 ht))
                  have GG := And.intro g0 ((show ((atNt l (k + 1)).step == (atNt l k).step) = false from by simpa using g1))
                  clear g0 g1
                  generalize atNt l k = x at hck hv ht GG
                  generalize atNt l (k + 1) = y at hcn GG
                  clear hc h
                  obtain ⟨r, s, a, o, t, d⟩ := x
                  obtain ⟨r2, s2, a2, o2, t2, d2⟩ := y
                  obtain ⟨p0, p1, p2, p3, p4, p5⟩ := hck
                  obtain ⟨q0, q1, q2, q3, q4, q5⟩ := hcn
                  simp only at p0 p1 p2 p3 p4 p5 q0 q1 q2 q3 q4 q5 ht GG
                  subst ht
                  have HV1 := Lib.hid hv
                  clear hv
                  obtain ⟨rfl, gg⟩ := GG
                  have e1 : ((k : Int) + 1 == (l.length : Int)) = false := by simp; omega
                  have e2 : ((k : Int) == (l.length : Int) - 1) = false := by simp; omega
                  have e3 : ((k : Int) + 1).toNat = k + 1 := by omega
                  have e4 : (k : Int) + 1 < (l.length : Int) := by omega
                  have hX := World.block_lt_of_cell? wr _ p0
                  simp only at hX
                  have m0 : (wr.alloc (.cells #[.bool r, .int .i64 s, .int .i64 a, .int .i64 o, .int .i64 t, .bool true] 55)).cell? ⟨wr.heap.size, 0, none⟩ = some (.bool r) := by simp
                  have m1 : (wr.alloc (.cells #[.bool r, .int .i64 s, .int .i64 a, .int .i64 o, .int .i64 t, .bool true] 55)).cell? ⟨wr.heap.size, 1, none⟩ = some (.int .i64 s) := by simp
                  have m2 : (wr.alloc (.cells #[.bool r, .int .i64 s, .int .i64 a, .int .i64 o, .int .i64 t, .bool true] 55)).cell? ⟨wr.heap.size, 2, none⟩ = some (.int .i64 a) := by simp
                  have m3 : (wr.alloc (.cells #[.bool r, .int .i64 s, .int .i64 a, .int .i64 o, .int .i64 t, .bool true] 55)).cell? ⟨wr.heap.size, 3, none⟩ = some (.int .i64 o) := by simp
                  have m4 : (wr.alloc (.cells #[.bool r, .int .i64 s, .int .i64 a, .int .i64 o, .int .i64 t, .bool true] 55)).cell? ⟨wr.heap.size, 4, none⟩ = some (.int .i64 t) := by simp
                  have m5 : (wr.alloc (.cells #[.bool r, .int .i64 s, .int .i64 a, .int .i64 o, .int .i64 t, .bool true] 55)).cell? ⟨wr.heap.size, 5, none⟩ = some (.bool true) := by simp
                  have q0 := keep_al q0 (.cells #[.bool r, .int .i64 s, .int .i64 a, .int .i64 o, .int .i64 t, .bool true] 55)
                  have q1 := keep_al q1 (.cells #[.bool r, .int .i64 s, .int .i64 a, .int .i64 o, .int .i64 t, .bool true] 55)
                  have q2 := keep_al q2 (.cells #[.bool r, .int .i64 s, .int .i64 a, .int .i64 o, .int .i64 t, .bool true] 55)
                  have q3 := keep_al q3 (.cells #[.bool r, .int .i64 s, .int .i64 a, .int .i64 o, .int .i64 t, .bool true] 55)
                  have q4 := keep_al q4 (.cells #[.bool r, .int .i64 s, .int .i64 a, .int .i64 o, .int .i64 t, .bool true] 55)
                  have q5 := keep_al q5 (.cells #[.bool r, .int .i64 s, .int .i64 a, .int .i64 o, .int .i64 t, .bool true] 55)
                  have qb : Below w.heap.size w (wr.alloc (.cells #[.bool r, .int .i64 s, .int .i64 a, .int .i64 o, .int .i64 t, .bool true] 55)) := by repeat (first | (with_reducible assumption) | (exact bel_undr (by with_reducible assumption)) | (with_reducible exact bel_refl _) | (with_reducible refine bel_dr ?_) | (with_reducible refine bel_drN ?_ _) | (with_reducible refine bel_al ?_ _) | (refine bel_set ?_ (by first | (simp; done) | (simp; exact Below.size (by assumption)) | (simp; omega)) _) | (with_reducible refine bel_tr ?_ (by assumption)))
                  go_wp2_with fail
                  generalize (wr.alloc (.cells #[.bool r, .int .i64 s, .int .i64 a, .int .i64 o, .int .i64 t, .bool true] 55)) = v at *
                  generalize wr.heap.size = X at *
                  have x1 := IntWalk.i64_in ((k : Int) + 1) (by omega)
                  have lf0 : ∀ xL : Later v, xL.world.cell? ⟨X, 0, none⟩ = some (.bool r) := fun xL => xL.at (m0)
                  have lf1 : ∀ xL : Later v, xL.world.cell? ⟨X, 1, none⟩ = some (.int .i64 s) := fun xL => xL.at (m1)
                  have lf2 : ∀ xL : Later v, xL.world.cell? ⟨X, 2, none⟩ = some (.int .i64 a) := fun xL => xL.at (m2)
                  have lf3 : ∀ xL : Later v, xL.world.cell? ⟨X, 3, none⟩ = some (.int .i64 o) := fun xL => xL.at (m3)
                  have lf4 : ∀ xL : Later v, xL.world.cell? ⟨X, 4, none⟩ = some (.int .i64 t) := fun xL => xL.at (m4)
                  have lf5 : ∀ xL : Later v, xL.world.cell? ⟨X, 5, none⟩ = some (.bool true) := fun xL => xL.at (m5)
                  have lf6 : ∀ xL : Later v, xL.world.cell? ⟨b, off + (k + 1) * 6, none⟩ = some (.bool false) := fun xL => xL.at (q0)
                  have lf7 : ∀ xL : Later v, xL.world.cell? ⟨b, off + (k + 1) * 6 + 1, none⟩ = some (.int .i64 s2) := fun xL => xL.at (q1)
                  have lf8 : ∀ xL : Later v, xL.world.cell? ⟨b, off + (k + 1) * 6 + 2, none⟩ = some (.int .i64 a2) := fun xL => xL.at (q2)
                  have lf9 : ∀ xL : Later v, xL.world.cell? ⟨b, off + (k + 1) * 6 + 3, none⟩ = some (.int .i64 o2) := fun xL => xL.at (q3)
                  have lf10 : ∀ xL : Later v, xL.world.cell? ⟨b, off + (k + 1) * 6 + 4, none⟩ = some (.int .i64 t2) := fun xL => xL.at (q4)
                  have lf11 : ∀ xL : Later v, xL.world.cell? ⟨b, off + (k + 1) * 6 + 5, none⟩ = some (.bool d2) := fun xL => xL.at (q5)
                  refine region_later (w0 := v) (by kernel_rfl) (by kernel_rfl) (bel_refl _) ?_
                  repeat (go_big_quiet_step ((go_at_call 61; exact later_call (nv_val HV1.out _))))
                  refine wpQuiet_nil ?_
                  rintro w' ⟨x, rfl⟩
                  obtain ⟨w3, b3⟩ := x
                  clear lf0 lf1 lf2 lf3 lf4 lf5 lf6 lf7 lf8 lf9 lf10 lf11
                  clear x1
                  go_wp2
                  go_ret
                  exact ⟨ret_bool (vvB_bad _ hlt HB).symm, by repeat (first | (with_reducible assumption) | (exact bel_undr (by with_reducible assumption)) | (with_reducible exact bel_refl _) | (with_reducible refine bel_dr ?_) | (with_reducible refine bel_drN ?_ _) | (with_reducible refine bel_al ?_ _) | (refine bel_set ?_ (by first | (simp; done) | (simp; exact Below.size (by assumption)) | (simp; omega)) _) | (with_reducible refine bel_tr ?_ (by assumption)))⟩
              · have HB : Hid (¬ vOk l k) := fun z => g0 ((fun z => z.2.1) (z.2 ht))
                have GG : (atNt l (k + 1)).rest = true := by simpa using g0
                clear g0
                generalize atNt l k = x at hck hv ht GG
                generalize atNt l (k + 1) = y at hcn GG
                clear hc h
                obtain ⟨r, s, a, o, t, d⟩ := x
                obtain ⟨r2, s2, a2, o2, t2, d2⟩ := y
                obtain ⟨p0, p1, p2, p3, p4, p5⟩ := hck
                obtain ⟨q0, q1, q2, q3, q4, q5⟩ := hcn
                simp only at p0 p1 p2 p3 p4 p5 q0 q1 q2 q3 q4 q5 ht GG
                subst ht
                have HV1 := Lib.hid hv
                clear hv
                subst GG
                have e1 : ((k : Int) + 1 == (l.length : Int)) = false := by simp; omega
                have e2 : ((k : Int) == (l.length : Int) - 1) = false := by simp; omega
                have e3 : ((k : Int) + 1).toNat = k + 1 := by omega
                have e4 : (k : Int) + 1 < (l.length : Int) := by omega
                have hX := World.block_lt_of_cell? wr _ p0
                simp only at hX
                have m0 : (wr.alloc (.cells #[.bool r, .int .i64 s, .int .i64 a, .int .i64 o, .int .i64 t, .bool true] 55)).cell? ⟨wr.heap.size, 0, none⟩ = some (.bool r) := by simp
                have m1 : (wr.alloc (.cells #[.bool r, .int .i64 s, .int .i64 a, .int .i64 o, .int .i64 t, .bool true] 55)).cell? ⟨wr.heap.size, 1, none⟩ = some (.int .i64 s) := by simp
                have m2 : (wr.alloc (.cells #[.bool r, .int .i64 s, .int .i64 a, .int .i64 o, .int .i64 t, .bool true] 55)).cell? ⟨wr.heap.size, 2, none⟩ = some (.int .i64 a) := by simp
                have m3 : (wr.alloc (.cells #[.bool r, .int .i64 s, .int .i64 a, .int .i64 o, .int .i64 t, .bool true] 55)).cell? ⟨wr.heap.size, 3, none⟩ = some (.int .i64 o) := by simp
                have m4 : (wr.alloc (.cells #[.bool r, .int .i64 s, .int .i64 a, .int .i64 o, .int .i64 t, .bool true] 55)).cell? ⟨wr.heap.size, 4, none⟩ = some (.int .i64 t) := by simp
                have m5 : (wr.alloc (.cells #[.bool r, .int .i64 s, .int .i64 a, .int .i64 o, .int .i64 t, .bool true] 55)).cell? ⟨wr.heap.size, 5, none⟩ = some (.bool true) := by simp
                have q0 := keep_al q0 (.cells #[.bool r, .int .i64 s, .int .i64 a, .int .i64 o, .int .i64 t, .bool true] 55)
                have q1 := keep_al q1 (.cells #[.bool r, .int .i64 s, .int .i64 a, .int .i64 o, .int .i64 t, .bool true] 55)
                have q2 := keep_al q2 (.cells #[.bool r, .int .i64 s, .int .i64 a, .int .i64 o, .int .i64 t, .bool true] 55)
                have q3 := keep_al q3 (.cells #[.bool r, .int .i64 s, .int .i64 a, .int .i64 o, .int .i64 t, .bool true] 55)
                have q4 := keep_al q4 (.cells #[.bool r, .int .i64 s, .int .i64 a, .int .i64 o, .int .i64 t, .bool true] 55)
                have q5 := keep_al q5 (.cells #[.bool r, .int .i64 s, .int .i64 a, .int .i64 o, .int .i64 t, .bool true] 55)
                have qb : Below w.heap.size w (wr.alloc (.cells #[.bool r, .int .i64 s, .int .i64 a, .int .i64 o, .int .i64 t, .bool true] 55)) := by repeat (first | (with_reducible assumption) | (exact bel_undr (by with_reducible assumption)) | (with_reducible exact bel_refl _) | (with_reducible refine bel_dr ?_) | (with_reducible refine bel_drN ?_ _) | (with_reducible refine bel_al ?_ _) | (refine bel_set ?_ (by first | (simp; done) | (simp; exact Below.size (by assumption)) | (simp; omega)) _) | (with_reducible refine bel_tr ?_ (by assumption)))
                go_wp2_with fail
                generalize (wr.alloc (.cells #[.bool r, .int .i64 s, .int .i64 a, .int .i64 o, .int .i64 t, .bool true] 55)) = v at *
                generalize wr.heap.size = X at *
                have x1 := IntWalk.i64_in ((k : Int) + 1) (by omega)
                have lf0 : ∀ xL : Later v, xL.world.cell? ⟨X, 0, none⟩ = some (.bool r) := fun xL => xL.at (m0)
                have lf1 : ∀ xL : Later v, xL.world.cell? ⟨X, 1, none⟩ = some (.int .i64 s) := fun xL => xL.at (m1)
                have lf2 : ∀ xL : Later v, xL.world.cell? ⟨X, 2, none⟩ = some (.int .i64 a) := fun xL => xL.at (m2)
                have lf3 : ∀ xL : Later v, xL.world.cell? ⟨X, 3, none⟩ = some (.int .i64 o) := fun xL => xL.at (m3)
                have lf4 : ∀ xL : Later v, xL.world.cell? ⟨X, 4, none⟩ = some (.int .i64 t) := fun xL => xL.at (m4)
                have lf5 : ∀ xL : Later v, xL.world.cell? ⟨X, 5, none⟩ = some (.bool true) := fun xL => xL.at (m5)
                have lf6 : ∀ xL : Later v, xL.world.cell? ⟨b, off + (k + 1) * 6, none⟩ = some (.bool true) := fun xL => xL.at (q0)
                have lf7 : ∀ xL : Later v, xL.world.cell? ⟨b, off + (k + 1) * 6 + 1, none⟩ = some (.int .i64 s2) := fun xL => xL.at (q1)
                have lf8 : ∀ xL : Later v, xL.world.cell? ⟨b, off + (k + 1) * 6 + 2, none⟩ = some (.int .i64 a2) := fun xL => xL.at (q2)
                have lf9 : ∀ xL : Later v, xL.world.cell? ⟨b, off + (k + 1) * 6 + 3, none⟩ = some (.int .i64 o2) := fun xL => xL.at (q3)
                have lf10 : ∀ xL : Later v, xL.world.cell? ⟨b, off + (k + 1) * 6 + 4, none⟩ = some (.int .i64 t2) := fun xL => xL.at (q4)
                have lf11 : ∀ xL : Later v, xL.world.cell? ⟨b, off + (k + 1) * 6 + 5, none⟩ = some (.bool d2) := fun xL => xL.at (q5)
                refine region_later (w0 := v) (by kernel_rfl) (by kernel_rfl) (bel_refl _) ?_
                repeat (go_big_quiet_step ((go_at_call 61; exact later_call (nv_val HV1.out _))))
                refine wpQuiet_nil ?_
                rintro w' ⟨x, rfl⟩
                obtain ⟨w3, b3⟩ := x
                clear lf0 lf1 lf2 lf3 lf4 lf5 lf6 lf7 lf8 lf9 lf10 lf11
                clear x1
                go_wp2
                go_ret
                exact ⟨ret_bool (vvB_bad _ hlt HB).symm, by repeat (first | (with_reducible assumption) | (exact bel_undr (by with_reducible assumption)) | (with_reducible exact bel_refl _) | (with_reducible refine bel_dr ?_) | (with_reducible refine bel_drN ?_ _) | (with_reducible refine bel_al ?_ _) | (refine bel_set ?_ (by first | (simp; done) | (simp; exact Below.size (by assumption)) | (simp; omega)) _) | (with_reducible refine bel_tr ?_ (by assumption)))⟩
            · have HB : Hid (¬ vOk l k) := fun z => absurd (z.2 ht).1 (by omega)
              generalize atNt l k = x at hck hv ht
              clear hc h
              obtain ⟨r, s, a, o, t, d⟩ := x
              obtain ⟨p0, p1, p2, p3, p4, p5⟩ := hck
              simp only at p0 p1 p2 p3 p4 p5
              simp only at ht
              subst ht
              have HV1 := Lib.hid hv
              clear hv
              have e1 : ((k : Int) + 1 == (l.length : Int)) = true := by simp; omega
              have e2 : ((k : Int) == (l.length : Int) - 1) = true := by simp; omega
              have hX := World.block_lt_of_cell? wr _ p0
              simp only at hX
              have m0 : (wr.alloc (.cells #[.bool r, .int .i64 s, .int .i64 a, .int .i64 o, .int .i64 t, .bool true] 55)).cell? ⟨wr.heap.size, 0, none⟩ = some (.bool r) := by simp
              have m1 : (wr.alloc (.cells #[.bool r, .int .i64 s, .int .i64 a, .int .i64 o, .int .i64 t, .bool true] 55)).cell? ⟨wr.heap.size, 1, none⟩ = some (.int .i64 s) := by simp
              have m2 : (wr.alloc (.cells #[.bool r, .int .i64 s, .int .i64 a, .int .i64 o, .int .i64 t, .bool true] 55)).cell? ⟨wr.heap.size, 2, none⟩ = some (.int .i64 a) := by simp
              have m3 : (wr.alloc (.cells #[.bool r, .int .i64 s, .int .i64 a, .int .i64 o, .int .i64 t, .bool true] 55)).cell? ⟨wr.heap.size, 3, none⟩ = some (.int .i64 o) := by simp
              have m4 : (wr.alloc (.cells #[.bool r, .int .i64 s, .int .i64 a, .int .i64 o, .int .i64 t, .bool true] 55)).cell? ⟨wr.heap.size, 4, none⟩ = some (.int .i64 t) := by simp
              have m5 : (wr.alloc (.cells #[.bool r, .int .i64 s, .int .i64 a, .int .i64 o, .int .i64 t, .bool true] 55)).cell? ⟨wr.heap.size, 5, none⟩ = some (.bool true) := by simp
              have qb : Below w.heap.size w (wr.alloc (.cells #[.bool r, .int .i64 s, .int .i64 a, .int .i64 o, .int .i64 t, .bool true] 55)) := by repeat (first | (with_reducible assumption) | (exact bel_undr (by with_reducible assumption)) | (with_reducible exact bel_refl _) | (with_reducible refine bel_dr ?_) | (with_reducible refine bel_drN ?_ _) | (with_reducible refine bel_al ?_ _) | (refine bel_set ?_ (by first | (simp; done) | (simp; exact Below.size (by assumption)) | (simp; omega)) _) | (with_reducible refine bel_tr ?_ (by assumption)))
              go_wp2_with fail
              generalize (wr.alloc (.cells #[.bool r, .int .i64 s, .int .i64 a, .int .i64 o, .int .i64 t, .bool true] 55)) = v at *
              generalize wr.heap.size = X at *
              have x1 := IntWalk.i64_in ((k : Int) + 1) (by omega)
              have lf0 : ∀ xL : Later v, xL.world.cell? ⟨X, 0, none⟩ = some (.bool r) := fun xL => xL.at (m0)
              have lf1 : ∀ xL : Later v, xL.world.cell? ⟨X, 1, none⟩ = some (.int .i64 s) := fun xL => xL.at (m1)
              have lf2 : ∀ xL : Later v, xL.world.cell? ⟨X, 2, none⟩ = some (.int .i64 a) := fun xL => xL.at (m2)
              have lf3 : ∀ xL : Later v, xL.world.cell? ⟨X, 3, none⟩ = some (.int .i64 o) := fun xL => xL.at (m3)
              have lf4 : ∀ xL : Later v, xL.world.cell? ⟨X, 4, none⟩ = some (.int .i64 t) := fun xL => xL.at (m4)
              have lf5 : ∀ xL : Later v, xL.world.cell? ⟨X, 5, none⟩ = some (.bool true) := fun xL => xL.at (m5)
              refine region_later (w0 := v) (by kernel_rfl) (by kernel_rfl) (bel_refl _) ?_
              repeat (go_big_quiet_step ((go_at_call 61; exact later_call (nv_val HV1.out _))))
              refine wpQuiet_nil ?_
              rintro w' ⟨x, rfl⟩
              obtain ⟨w3, b3⟩ := x
              clear lf0 lf1 lf2 lf3 lf4 lf5
              clear x1
              go_wp2
              go_ret
              exact ⟨ret_bool (vvB_bad _ hlt HB).symm, by repeat (first | (with_reducible assumption) | (exact bel_undr (by with_reducible assumption)) | (with_reducible exact bel_refl _) | (with_reducible refine bel_dr ?_) | (with_reducible refine bel_drN ?_ _) | (with_reducible refine bel_al ?_ _) | (refine bel_set ?_ (by first | (simp; done) | (simp; exact Below.size (by assumption)) | (simp; omega)) _) | (with_reducible refine bel_tr ?_ (by assumption)))⟩
      · obtain rfl : k = l.length := by omega
        go_wp2
        go_ret
        exact ⟨ret_bool (vvB_yes h60 HV.out).symm, hb⟩
  · have h61 : (60 : Int) < (l.length : Int) := by omega
    go_enter Try.func39, Try.ntmps39
    go_wp2
    go_ret
    exact ⟨ret_bool (vvB_no h60).symm, bel_refl _⟩
theorem vv_val {l : List Nt} {v : Bool} (hv : vvB l = v) (A : Option Addr) (n c : Nat) (w : World) (hn : l.length = n) (hm : n ≤ 2000000) (h : RowNt w w.heap.size A l) :
    Calls Try.prog 39 #[.slice A n c] w fun e w' => e = .returned (.bool v) ∧ Below w.heap.size w w' := by
  subst hv; exact vv_any A n c l w hn hm h
end Go.Proofs.Ytiapfpjggginoaa
