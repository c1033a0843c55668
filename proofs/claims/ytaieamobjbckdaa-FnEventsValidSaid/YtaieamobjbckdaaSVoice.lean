/- Voices: when one is valid, of the reference. -/
import Derived.Test.YtaieamobjbckdaaVoice
namespace Go.Proofs.Ytaieamobjbckdaa
set_option linter.unusedSimpArgs false
set_option linter.unusedVariables false
open Go.RowKit

set_option maxHeartbeats 8000000 in
theorem svv_any (A : Option Addr) (n c : Nat) (l : List Nt) (w : World) (hn : l.length = n) (hm : n ≤ 2000000) (h : RowNt w w.heap.size A l) :
    Calls Try.prog 20 #[.slice A n c] w fun e w' => e = .returned (.bool (vvB l)) ∧ Below w.heap.size w w' := by
  subst hn
  go_enter Try.func20, Try.ntmps20
  go_wp2
  go_loopw [3] (fun i wr => ∃ k : Nat, k ≤ l.length ∧ i = .int .i64 k ∧ Below w.heap.size w wr ∧ Hid (∀ j, j < k → vOk l j)) (fun i _ => l.length - (intOf i).toNat)
  case atStart => exact ⟨0, Nat.zero_le _, rfl, bel_refl _, fun j hj => by omega⟩
  case round =>
    obtain ⟨k, hk, rfl, hb, HV⟩ := hrel
    by_cases hlt : k < l.length
    · obtain ⟨b, off, rfl, hlb, hc⟩ := (h.below hb) (by omega)
      have hck := hc k hlt
      have hkl : (k : Int) < (l.length : Int) := by omega
      have hk0 : (0 : Int) ≤ (k : Int) := by omega
      have hk1 : (0 : Int) ≤ (k : Int) + 1 := by omega
      cases hv : nvB (atNt l k)
      · have HB : Hid (¬ vOk l k) := fun z => absurd (hv.symm.trans z.1) (by simp)
        generalize atNt l k = x at hck hv
        clear hc h
        obtain ⟨r, s, a, o, t, d⟩ := x
        obtain ⟨p0, p1, p2, p3, p4, p5⟩ := hck
        simp only at p0 p1 p2 p3 p4 p5
        have HV1 := Lib.hid hv
        clear hv
        go_wp2_with fail
        refine (snv_val HV1.out _).mono ?_
        rintro e1 w1 ⟨rfl, b1⟩
        go_wp2
        go_ret
        exact ⟨ret_bool (vvB_bad _ hlt HB).symm, by repeat (first | (with_reducible assumption) | (exact bel_undr (by with_reducible assumption)) | (with_reducible exact bel_refl _) | (with_reducible refine bel_dr ?_) | (with_reducible refine bel_drN ?_ _) | (with_reducible refine bel_al ?_ _) | (refine bel_set ?_ (by first | (simp; done) | (simp; exact Below.size (by assumption)) | (simp; omega)) _) | (with_reducible refine bel_tr ?_ (by assumption)))⟩
      · cases ht : (atNt l k).tied
        · have HB : Hid (vOk l k) := ⟨hv, fun z => absurd (z.symm.trans ht) (by simp)⟩
          generalize atNt l k = x at hck hv ht
          clear hc h
          obtain ⟨r, s, a, o, t, d⟩ := x
          obtain ⟨p0, p1, p2, p3, p4, p5⟩ := hck
          simp only at p0 p1 p2 p3 p4 p5
          simp only at ht
          subst ht
          have HV1 := Lib.hid hv
          clear hv
          go_wp2_with fail
          refine (snv_val HV1.out _).mono ?_
          rintro e1 w1 ⟨rfl, b1⟩
          have p0 := keep_tr p0 b1
          have p1 := keep_tr p1 b1
          have p2 := keep_tr p2 b1
          have p3 := keep_tr p3 b1
          have p4 := keep_tr p4 b1
          have p5 := keep_tr p5 b1
          go_wp2_with fail
          have x1 := IntWalk.i64_in ((k : Int) + 1) (by omega)
          have x2 := IntWalk.i64_in ((l.length : Int) - 1) (by omega)
          have lf0 : ∀ xL : Later w1, xL.world.cell? ⟨b, off + k * 6, none⟩ = some (.bool r) := fun xL => xL.at (p0)
          have lf1 : ∀ xL : Later w1, xL.world.cell? ⟨b, off + k * 6 + 1, none⟩ = some (.int .i64 s) := fun xL => xL.at (p1)
          have lf2 : ∀ xL : Later w1, xL.world.cell? ⟨b, off + k * 6 + 2, none⟩ = some (.int .i64 a) := fun xL => xL.at (p2)
          have lf3 : ∀ xL : Later w1, xL.world.cell? ⟨b, off + k * 6 + 3, none⟩ = some (.int .i64 o) := fun xL => xL.at (p3)
          have lf4 : ∀ xL : Later w1, xL.world.cell? ⟨b, off + k * 6 + 4, none⟩ = some (.int .i64 t) := fun xL => xL.at (p4)
          have lf5 : ∀ xL : Later w1, xL.world.cell? ⟨b, off + k * 6 + 5, none⟩ = some (.bool false) := fun xL => xL.at (p5)
          refine region_later (w0 := w1) (by kernel_rfl) (by kernel_rfl) (bel_refl _) ?_
          repeat (go_big_quiet_step ((fail)))
          refine wpQuiet_nil ?_
          rintro w' ⟨x, rfl⟩
          obtain ⟨w3, b3⟩ := x
          clear lf0 lf1 lf2 lf3 lf4 lf5
          clear x1 x2
          go_wp2
          go_roundw
          case rel => exact ⟨k + 1, by omega, by go_num, by repeat (first | (with_reducible assumption) | (exact bel_undr (by with_reducible assumption)) | (with_reducible exact bel_refl _) | (with_reducible refine bel_dr ?_) | (with_reducible refine bel_drN ?_ _) | (with_reducible refine bel_al ?_ _) | (refine bel_set ?_ (by first | (simp; done) | (simp; exact Below.size (by assumption)) | (simp; omega)) _) | (with_reducible refine bel_tr ?_ (by assumption))), hid_snoc HV HB⟩
          case measure => simp [intOf]; omega
        · by_cases hnx : k + 1 < l.length
          · have hcn := hc (k + 1) hnx
            by_cases g0 : (atNt l (k + 1)).rest = false
            · by_cases g1 : (atNt l (k + 1)).step = (atNt l k).step
              · by_cases g2 : (atNt l (k + 1)).alter = (atNt l k).alter
                · by_cases g3 : (atNt l (k + 1)).octave = (atNt l k).octave
                  · have HB : Hid (vOk l k) := ⟨hv, fun _ => ⟨hnx, g0, g1, g2, g3⟩⟩
                    have GG := And.intro g0 (And.intro g1 (And.intro g2 g3))
                    clear g0 g1 g2 g3
                    generalize atNt l k = x at hck hv ht GG
                    generalize atNt l (k + 1) = y at hcn GG
                    clear hc h
                    obtain ⟨r, s, a, o, t, d⟩ := x
                    obtain ⟨r2, s2, a2, o2, t2, d2⟩ := y
                    obtain ⟨p0, p1, p2, p3, p4, p5⟩ := hck
                    obtain ⟨q0, q1, q2, q3, q4, q5⟩ := hcn
                    simp only at p0 p1 p2 p3 p4 p5 q0 q1 q2 q3 q4 q5 ht GG
                    subst ht
                    have HV1 := Lib.hid hv
                    clear hv
                    obtain ⟨rfl, rfl, rfl, rfl⟩ := GG
                    have e1 : ((k : Int) + 1 == (l.length : Int)) = false := by simp; omega
                    have e2 : ((k : Int) == (l.length : Int) - 1) = false := by simp; omega
                    have e3 : ((k : Int) + 1).toNat = k + 1 := by omega
                    have e4 : (k : Int) + 1 < (l.length : Int) := by omega
                    go_wp2_with fail
                    refine (snv_val HV1.out _).mono ?_
                    rintro e1 w1 ⟨rfl, b1⟩
                    have p0 := keep_tr p0 b1
                    have p1 := keep_tr p1 b1
                    have p2 := keep_tr p2 b1
                    have p3 := keep_tr p3 b1
                    have p4 := keep_tr p4 b1
                    have p5 := keep_tr p5 b1
                    have q0 := keep_tr q0 b1
                    have q1 := keep_tr q1 b1
                    have q2 := keep_tr q2 b1
                    have q3 := keep_tr q3 b1
                    have q4 := keep_tr q4 b1
                    have q5 := keep_tr q5 b1
                    go_wp2_with fail
                    have x1 := IntWalk.i64_in ((k : Int) + 1) (by omega)
                    have x2 := IntWalk.i64_in ((l.length : Int) - 1) (by omega)
                    have lf0 : ∀ xL : Later w1, xL.world.cell? ⟨b, off + k * 6, none⟩ = some (.bool r) := fun xL => xL.at (p0)
                    have lf1 : ∀ xL : Later w1, xL.world.cell? ⟨b, off + k * 6 + 1, none⟩ = some (.int .i64 s2) := fun xL => xL.at (p1)
                    have lf2 : ∀ xL : Later w1, xL.world.cell? ⟨b, off + k * 6 + 2, none⟩ = some (.int .i64 a2) := fun xL => xL.at (p2)
                    have lf3 : ∀ xL : Later w1, xL.world.cell? ⟨b, off + k * 6 + 3, none⟩ = some (.int .i64 o2) := fun xL => xL.at (p3)
                    have lf4 : ∀ xL : Later w1, xL.world.cell? ⟨b, off + k * 6 + 4, none⟩ = some (.int .i64 t) := fun xL => xL.at (p4)
                    have lf5 : ∀ xL : Later w1, xL.world.cell? ⟨b, off + k * 6 + 5, none⟩ = some (.bool true) := fun xL => xL.at (p5)
                    have lf6 : ∀ xL : Later w1, xL.world.cell? ⟨b, off + (k + 1) * 6, none⟩ = some (.bool false) := fun xL => xL.at (q0)
                    have lf7 : ∀ xL : Later w1, xL.world.cell? ⟨b, off + (k + 1) * 6 + 1, none⟩ = some (.int .i64 s2) := fun xL => xL.at (q1)
                    have lf8 : ∀ xL : Later w1, xL.world.cell? ⟨b, off + (k + 1) * 6 + 2, none⟩ = some (.int .i64 a2) := fun xL => xL.at (q2)
                    have lf9 : ∀ xL : Later w1, xL.world.cell? ⟨b, off + (k + 1) * 6 + 3, none⟩ = some (.int .i64 o2) := fun xL => xL.at (q3)
                    have lf10 : ∀ xL : Later w1, xL.world.cell? ⟨b, off + (k + 1) * 6 + 4, none⟩ = some (.int .i64 t2) := fun xL => xL.at (q4)
                    have lf11 : ∀ xL : Later w1, xL.world.cell? ⟨b, off + (k + 1) * 6 + 5, none⟩ = some (.bool d2) := fun xL => xL.at (q5)
                    refine region_later (w0 := w1) (by kernel_rfl) (by kernel_rfl) (bel_refl _) ?_
                    repeat (go_big_quiet_step ((fail)))
                    refine wpQuiet_nil ?_
                    rintro w' ⟨x, rfl⟩
                    obtain ⟨w3, b3⟩ := x
                    clear lf0 lf1 lf2 lf3 lf4 lf5 lf6 lf7 lf8 lf9 lf10 lf11
                    clear x1 x2
                    go_wp2
                    go_roundw
                    case rel => exact ⟨k + 1, by omega, by go_num, by repeat (first | (with_reducible assumption) | (exact bel_undr (by with_reducible assumption)) | (with_reducible exact bel_refl _) | (with_reducible refine bel_dr ?_) | (with_reducible refine bel_drN ?_ _) | (with_reducible refine bel_al ?_ _) | (refine bel_set ?_ (by first | (simp; done) | (simp; exact Below.size (by assumption)) | (simp; omega)) _) | (with_reducible refine bel_tr ?_ (by assumption))), hid_snoc HV HB⟩
                    case measure => simp [intOf]; omega
                  · have HB : Hid (¬ vOk l k) := fun z => g3 ((fun z => z.2.2.2.2) (z.2 ht))
                    have GG := And.intro g0 (And.intro g1 (And.intro g2 ((show ((atNt l (k + 1)).octave == (atNt l k).octave) = false from by simpa using g3))))
                    clear g0 g1 g2 g3
                    generalize atNt l k = x at hck hv ht GG
                    generalize atNt l (k + 1) = y at hcn GG
                    clear hc h
                    obtain ⟨r, s, a, o, t, d⟩ := x
                    obtain ⟨r2, s2, a2, o2, t2, d2⟩ := y
                    obtain ⟨p0, p1, p2, p3, p4, p5⟩ := hck
                    obtain ⟨q0, q1, q2, q3, q4, q5⟩ := hcn
                    simp only at p0 p1 p2 p3 p4 p5 q0 q1 q2 q3 q4 q5 ht GG
                    subst ht
                    have HV1 := Lib.hid hv
                    clear hv
                    obtain ⟨rfl, rfl, rfl, gg⟩ := GG
                    have e1 : ((k : Int) + 1 == (l.length : Int)) = false := by simp; omega
                    have e2 : ((k : Int) == (l.length : Int) - 1) = false := by simp; omega
                    have e3 : ((k : Int) + 1).toNat = k + 1 := by omega
                    have e4 : (k : Int) + 1 < (l.length : Int) := by omega
                    go_wp2_with fail
                    refine (snv_val HV1.out _).mono ?_
                    rintro e1 w1 ⟨rfl, b1⟩
                    have p0 := keep_tr p0 b1
                    have p1 := keep_tr p1 b1
                    have p2 := keep_tr p2 b1
                    have p3 := keep_tr p3 b1
                    have p4 := keep_tr p4 b1
                    have p5 := keep_tr p5 b1
                    have q0 := keep_tr q0 b1
                    have q1 := keep_tr q1 b1
                    have q2 := keep_tr q2 b1
                    have q3 := keep_tr q3 b1
                    have q4 := keep_tr q4 b1
                    have q5 := keep_tr q5 b1
                    go_wp2_with fail
                    have x1 := IntWalk.i64_in ((k : Int) + 1) (by omega)
                    have x2 := IntWalk.i64_in ((l.length : Int) - 1) (by omega)
                    have lf0 : ∀ xL : Later w1, xL.world.cell? ⟨b, off + k * 6, none⟩ = some (.bool r) := fun xL => xL.at (p0)
                    have lf1 : ∀ xL : Later w1, xL.world.cell? ⟨b, off + k * 6 + 1, none⟩ = some (.int .i64 s2) := fun xL => xL.at (p1)
                    have lf2 : ∀ xL : Later w1, xL.world.cell? ⟨b, off + k * 6 + 2, none⟩ = some (.int .i64 a2) := fun xL => xL.at (p2)
                    have lf3 : ∀ xL : Later w1, xL.world.cell? ⟨b, off + k * 6 + 3, none⟩ = some (.int .i64 o) := fun xL => xL.at (p3)
                    have lf4 : ∀ xL : Later w1, xL.world.cell? ⟨b, off + k * 6 + 4, none⟩ = some (.int .i64 t) := fun xL => xL.at (p4)
                    have lf5 : ∀ xL : Later w1, xL.world.cell? ⟨b, off + k * 6 + 5, none⟩ = some (.bool true) := fun xL => xL.at (p5)
                    have lf6 : ∀ xL : Later w1, xL.world.cell? ⟨b, off + (k + 1) * 6, none⟩ = some (.bool false) := fun xL => xL.at (q0)
                    have lf7 : ∀ xL : Later w1, xL.world.cell? ⟨b, off + (k + 1) * 6 + 1, none⟩ = some (.int .i64 s2) := fun xL => xL.at (q1)
                    have lf8 : ∀ xL : Later w1, xL.world.cell? ⟨b, off + (k + 1) * 6 + 2, none⟩ = some (.int .i64 a2) := fun xL => xL.at (q2)
                    have lf9 : ∀ xL : Later w1, xL.world.cell? ⟨b, off + (k + 1) * 6 + 3, none⟩ = some (.int .i64 o2) := fun xL => xL.at (q3)
                    have lf10 : ∀ xL : Later w1, xL.world.cell? ⟨b, off + (k + 1) * 6 + 4, none⟩ = some (.int .i64 t2) := fun xL => xL.at (q4)
                    have lf11 : ∀ xL : Later w1, xL.world.cell? ⟨b, off + (k + 1) * 6 + 5, none⟩ = some (.bool d2) := fun xL => xL.at (q5)
                    refine region_later (w0 := w1) (by kernel_rfl) (by kernel_rfl) (bel_refl _) ?_
                    repeat (go_big_quiet_step ((fail)))
                    refine wpQuiet_nil ?_
                    rintro w' ⟨x, rfl⟩
                    obtain ⟨w3, b3⟩ := x
                    clear lf0 lf1 lf2 lf3 lf4 lf5 lf6 lf7 lf8 lf9 lf10 lf11
                    clear x1 x2
                    go_wp2
                    go_ret
                    exact ⟨ret_bool (vvB_bad _ hlt HB).symm, by repeat (first | (with_reducible assumption) | (exact bel_undr (by with_reducible assumption)) | (with_reducible exact bel_refl _) | (with_reducible refine bel_dr ?_) | (with_reducible refine bel_drN ?_ _) | (with_reducible refine bel_al ?_ _) | (refine bel_set ?_ (by first | (simp; done) | (simp; exact Below.size (by assumption)) | (simp; omega)) _) | (with_reducible refine bel_tr ?_ (by assumption)))⟩
                · have HB : Hid (¬ vOk l k) := fun z => g2 ((fun z => z.2.2.2.1) (z.2 ht))
                  have GG := And.intro g0 (And.intro g1 ((show ((atNt l (k + 1)).alter == (atNt l k).alter) = false from by simpa using g2)))
                  clear g0 g1 g2
                  generalize atNt l k = x at hck hv ht GG
                  generalize atNt l (k + 1) = y at hcn GG
                  clear hc h
                  obtain ⟨r, s, a, o, t, d⟩ := x
                  obtain ⟨r2, s2, a2, o2, t2, d2⟩ := y
                  obtain ⟨p0, p1, p2, p3, p4, p5⟩ := hck
                  obtain ⟨q0, q1, q2, q3, q4, q5⟩ := hcn
                  simp only at p0 p1 p2 p3 p4 p5 q0 q1 q2 q3 q4 q5 ht GG
                  subst ht
                  have HV1 := Lib.hid hv
                  clear hv
                  obtain ⟨rfl, rfl, gg⟩ := GG
                  have e1 : ((k : Int) + 1 == (l.length : Int)) = false := by simp; omega
                  have e2 : ((k : Int) == (l.length : Int) - 1) = false := by simp; omega
                  have e3 : ((k : Int) + 1).toNat = k + 1 := by omega
                  have e4 : (k : Int) + 1 < (l.length : Int) := by omega
                  go_wp2_with fail
                  refine (snv_val HV1.out _).mono ?_
                  rintro e1 w1 ⟨rfl, b1⟩
                  have p0 := keep_tr p0 b1
                  have p1 := keep_tr p1 b1
                  have p2 := keep_tr p2 b1
                  have p3 := keep_tr p3 b1
                  have p4 := keep_tr p4 b1
                  have p5 := keep_tr p5 b1
                  have q0 := keep_tr q0 b1
                  have q1 := keep_tr q1 b1
                  have q2 := keep_tr q2 b1
                  have q3 := keep_tr q3 b1
                  have q4 := keep_tr q4 b1
                  have q5 := keep_tr q5 b1
                  go_wp2_with fail
                  have x1 := IntWalk.i64_in ((k : Int) + 1) (by omega)
                  have x2 := IntWalk.i64_in ((l.length : Int) - 1) (by omega)
                  have lf0 : ∀ xL : Later w1, xL.world.cell? ⟨b, off + k * 6, none⟩ = some (.bool r) := fun xL => xL.at (p0)
                  have lf1 : ∀ xL : Later w1, xL.world.cell? ⟨b, off + k * 6 + 1, none⟩ = some (.int .i64 s2) := fun xL => xL.at (p1)
                  have lf2 : ∀ xL : Later w1, xL.world.cell? ⟨b, off + k * 6 + 2, none⟩ = some (.int .i64 a) := fun xL => xL.at (p2)
                  have lf3 : ∀ xL : Later w1, xL.world.cell? ⟨b, off + k * 6 + 3, none⟩ = some (.int .i64 o) := fun xL => xL.at (p3)
                  have lf4 : ∀ xL : Later w1, xL.world.cell? ⟨b, off + k * 6 + 4, none⟩ = some (.int .i64 t) := fun xL => xL.at (p4)
                  have lf5 : ∀ xL : Later w1, xL.world.cell? ⟨b, off + k * 6 + 5, none⟩ = some (.bool true) := fun xL => xL.at (p5)
                  have lf6 : ∀ xL : Later w1, xL.world.cell? ⟨b, off + (k + 1) * 6, none⟩ = some (.bool false) := fun xL => xL.at (q0)
                  have lf7 : ∀ xL : Later w1, xL.world.cell? ⟨b, off + (k + 1) * 6 + 1, none⟩ = some (.int .i64 s2) := fun xL => xL.at (q1)
                  have lf8 : ∀ xL : Later w1, xL.world.cell? ⟨b, off + (k + 1) * 6 + 2, none⟩ = some (.int .i64 a2) := fun xL => xL.at (q2)
                  have lf9 : ∀ xL : Later w1, xL.world.cell? ⟨b, off + (k + 1) * 6 + 3, none⟩ = some (.int .i64 o2) := fun xL => xL.at (q3)
                  have lf10 : ∀ xL : Later w1, xL.world.cell? ⟨b, off + (k + 1) * 6 + 4, none⟩ = some (.int .i64 t2) := fun xL => xL.at (q4)
                  have lf11 : ∀ xL : Later w1, xL.world.cell? ⟨b, off + (k + 1) * 6 + 5, none⟩ = some (.bool d2) := fun xL => xL.at (q5)
                  refine region_later (w0 := w1) (by kernel_rfl) (by kernel_rfl) (bel_refl _) ?_
                  repeat (go_big_quiet_step ((fail)))
                  refine wpQuiet_nil ?_
                  rintro w' ⟨x, rfl⟩
                  obtain ⟨w3, b3⟩ := x
                  clear lf0 lf1 lf2 lf3 lf4 lf5 lf6 lf7 lf8 lf9 lf10 lf11
                  clear x1 x2
                  go_wp2
                  go_ret
                  exact ⟨ret_bool (vvB_bad _ hlt HB).symm, by repeat (first | (with_reducible assumption) | (exact bel_undr (by with_reducible assumption)) | (with_reducible exact bel_refl _) | (with_reducible refine bel_dr ?_) | (with_reducible refine bel_drN ?_ _) | (with_reducible refine bel_al ?_ _) | (refine bel_set ?_ (by first | (simp; done) | (simp; exact Below.size (by assumption)) | (simp; omega)) _) | (with_reducible refine bel_tr ?_ (by assumption)))⟩
              · have HB : Hid (¬ vOk l k) := fun z => g1 ((fun z => z.2.2.1) (z.2 ht))
                have GG := And.intro g0 ((show ((atNt l (k + 1)).step == (atNt l k).step) = false from by simpa using g1))
                clear g0 g1
                generalize atNt l k = x at hck hv ht GG
                generalize atNt l (k + 1) = y at hcn GG
                clear hc h
                obtain ⟨r, s, a, o, t, d⟩ := x
                obtain ⟨r2, s2, a2, o2, t2, d2⟩ := y
                obtain ⟨p0, p1, p2, p3, p4, p5⟩ := hck
                obtain ⟨q0, q1, q2, q3, q4, q5⟩ := hcn
                simp only at p0 p1 p2 p3 p4 p5 q0 q1 q2 q3 q4 q5 ht GG
                subst ht
                have HV1 := Lib.hid hv
                clear hv
                obtain ⟨rfl, gg⟩ := GG
                have e1 : ((k : Int) + 1 == (l.length : Int)) = false := by simp; omega
                have e2 : ((k : Int) == (l.length : Int) - 1) = false := by simp; omega
                have e3 : ((k : Int) + 1).toNat = k + 1 := by omega
                have e4 : (k : Int) + 1 < (l.length : Int) := by omega
                go_wp2_with fail
                refine (snv_val HV1.out _).mono ?_
                rintro e1 w1 ⟨rfl, b1⟩
                have p0 := keep_tr p0 b1
                have p1 := keep_tr p1 b1
                have p2 := keep_tr p2 b1
                have p3 := keep_tr p3 b1
                have p4 := keep_tr p4 b1
                have p5 := keep_tr p5 b1
                have q0 := keep_tr q0 b1
                have q1 := keep_tr q1 b1
                have q2 := keep_tr q2 b1
                have q3 := keep_tr q3 b1
                have q4 := keep_tr q4 b1
                have q5 := keep_tr q5 b1
                go_wp2_with fail
                have x1 := IntWalk.i64_in ((k : Int) + 1) (by omega)
                have x2 := IntWalk.i64_in ((l.length : Int) - 1) (by omega)
                have lf0 : ∀ xL : Later w1, xL.world.cell? ⟨b, off + k * 6, none⟩ = some (.bool r) := fun xL => xL.at (p0)
                have lf1 : ∀ xL : Later w1, xL.world.cell? ⟨b, off + k * 6 + 1, none⟩ = some (.int .i64 s) := fun xL => xL.at (p1)
                have lf2 : ∀ xL : Later w1, xL.world.cell? ⟨b, off + k * 6 + 2, none⟩ = some (.int .i64 a) := fun xL => xL.at (p2)
                have lf3 : ∀ xL : Later w1, xL.world.cell? ⟨b, off + k * 6 + 3, none⟩ = some (.int .i64 o) := fun xL => xL.at (p3)
                have lf4 : ∀ xL : Later w1, xL.world.cell? ⟨b, off + k * 6 + 4, none⟩ = some (.int .i64 t) := fun xL => xL.at (p4)
                have lf5 : ∀ xL : Later w1, xL.world.cell? ⟨b, off + k * 6 + 5, none⟩ = some (.bool true) := fun xL => xL.at (p5)
                have lf6 : ∀ xL : Later w1, xL.world.cell? ⟨b, off + (k + 1) * 6, none⟩ = some (.bool false) := fun xL => xL.at (q0)
                have lf7 : ∀ xL : Later w1, xL.world.cell? ⟨b, off + (k + 1) * 6 + 1, none⟩ = some (.int .i64 s2) := fun xL => xL.at (q1)
                have lf8 : ∀ xL : Later w1, xL.world.cell? ⟨b, off + (k + 1) * 6 + 2, none⟩ = some (.int .i64 a2) := fun xL => xL.at (q2)
                have lf9 : ∀ xL : Later w1, xL.world.cell? ⟨b, off + (k + 1) * 6 + 3, none⟩ = some (.int .i64 o2) := fun xL => xL.at (q3)
                have lf10 : ∀ xL : Later w1, xL.world.cell? ⟨b, off + (k + 1) * 6 + 4, none⟩ = some (.int .i64 t2) := fun xL => xL.at (q4)
                have lf11 : ∀ xL : Later w1, xL.world.cell? ⟨b, off + (k + 1) * 6 + 5, none⟩ = some (.bool d2) := fun xL => xL.at (q5)
                refine region_later (w0 := w1) (by kernel_rfl) (by kernel_rfl) (bel_refl _) ?_
                repeat (go_big_quiet_step ((fail)))
                refine wpQuiet_nil ?_
                rintro w' ⟨x, rfl⟩
                obtain ⟨w3, b3⟩ := x
                clear lf0 lf1 lf2 lf3 lf4 lf5 lf6 lf7 lf8 lf9 lf10 lf11
                clear x1 x2
                go_wp2
                go_ret
                exact ⟨ret_bool (vvB_bad _ hlt HB).symm, by repeat (first | (with_reducible assumption) | (exact bel_undr (by with_reducible assumption)) | (with_reducible exact bel_refl _) | (with_reducible refine bel_dr ?_) | (with_reducible refine bel_drN ?_ _) | (with_reducible refine bel_al ?_ _) | (refine bel_set ?_ (by first | (simp; done) | (simp; exact Below.size (by assumption)) | (simp; omega)) _) | (with_reducible refine bel_tr ?_ (by assumption)))⟩
            · have HB : Hid (¬ vOk l k) := fun z => g0 ((fun z => z.2.1) (z.2 ht))
              have GG : (atNt l (k + 1)).rest = true := by simpa using g0
              clear g0
              generalize atNt l k = x at hck hv ht GG
              generalize atNt l (k + 1) = y at hcn GG
              clear hc h
              obtain ⟨r, s, a, o, t, d⟩ := x
              obtain ⟨r2, s2, a2, o2, t2, d2⟩ := y
              obtain ⟨p0, p1, p2, p3, p4, p5⟩ := hck
              obtain ⟨q0, q1, q2, q3, q4, q5⟩ := hcn
              simp only at p0 p1 p2 p3 p4 p5 q0 q1 q2 q3 q4 q5 ht GG
              subst ht
              have HV1 := Lib.hid hv
              clear hv
              subst GG
              have e1 : ((k : Int) + 1 == (l.length : Int)) = false := by simp; omega
              have e2 : ((k : Int) == (l.length : Int) - 1) = false := by simp; omega
              have e3 : ((k : Int) + 1).toNat = k + 1 := by omega
              have e4 : (k : Int) + 1 < (l.length : Int) := by omega
              go_wp2_with fail
              refine (snv_val HV1.out _).mono ?_
              rintro e1 w1 ⟨rfl, b1⟩
              have p0 := keep_tr p0 b1
              have p1 := keep_tr p1 b1
              have p2 := keep_tr p2 b1
              have p3 := keep_tr p3 b1
              have p4 := keep_tr p4 b1
              have p5 := keep_tr p5 b1
              have q0 := keep_tr q0 b1
              have q1 := keep_tr q1 b1
              have q2 := keep_tr q2 b1
              have q3 := keep_tr q3 b1
              have q4 := keep_tr q4 b1
              have q5 := keep_tr q5 b1
              go_wp2_with fail
              have x1 := IntWalk.i64_in ((k : Int) + 1) (by omega)
              have x2 := IntWalk.i64_in ((l.length : Int) - 1) (by omega)
              have lf0 : ∀ xL : Later w1, xL.world.cell? ⟨b, off + k * 6, none⟩ = some (.bool r) := fun xL => xL.at (p0)
              have lf1 : ∀ xL : Later w1, xL.world.cell? ⟨b, off + k * 6 + 1, none⟩ = some (.int .i64 s) := fun xL => xL.at (p1)
              have lf2 : ∀ xL : Later w1, xL.world.cell? ⟨b, off + k * 6 + 2, none⟩ = some (.int .i64 a) := fun xL => xL.at (p2)
              have lf3 : ∀ xL : Later w1, xL.world.cell? ⟨b, off + k * 6 + 3, none⟩ = some (.int .i64 o) := fun xL => xL.at (p3)
              have lf4 : ∀ xL : Later w1, xL.world.cell? ⟨b, off + k * 6 + 4, none⟩ = some (.int .i64 t) := fun xL => xL.at (p4)
              have lf5 : ∀ xL : Later w1, xL.world.cell? ⟨b, off + k * 6 + 5, none⟩ = some (.bool true) := fun xL => xL.at (p5)
              have lf6 : ∀ xL : Later w1, xL.world.cell? ⟨b, off + (k + 1) * 6, none⟩ = some (.bool true) := fun xL => xL.at (q0)
              have lf7 : ∀ xL : Later w1, xL.world.cell? ⟨b, off + (k + 1) * 6 + 1, none⟩ = some (.int .i64 s2) := fun xL => xL.at (q1)
              have lf8 : ∀ xL : Later w1, xL.world.cell? ⟨b, off + (k + 1) * 6 + 2, none⟩ = some (.int .i64 a2) := fun xL => xL.at (q2)
              have lf9 : ∀ xL : Later w1, xL.world.cell? ⟨b, off + (k + 1) * 6 + 3, none⟩ = some (.int .i64 o2) := fun xL => xL.at (q3)
              have lf10 : ∀ xL : Later w1, xL.world.cell? ⟨b, off + (k + 1) * 6 + 4, none⟩ = some (.int .i64 t2) := fun xL => xL.at (q4)
              have lf11 : ∀ xL : Later w1, xL.world.cell? ⟨b, off + (k + 1) * 6 + 5, none⟩ = some (.bool d2) := fun xL => xL.at (q5)
              refine region_later (w0 := w1) (by kernel_rfl) (by kernel_rfl) (bel_refl _) ?_
              repeat (go_big_quiet_step ((fail)))
              refine wpQuiet_nil ?_
              rintro w' ⟨x, rfl⟩
              obtain ⟨w3, b3⟩ := x
              clear lf0 lf1 lf2 lf3 lf4 lf5 lf6 lf7 lf8 lf9 lf10 lf11
              clear x1 x2
              go_wp2
              go_ret
              exact ⟨ret_bool (vvB_bad _ hlt HB).symm, by repeat (first | (with_reducible assumption) | (exact bel_undr (by with_reducible assumption)) | (with_reducible exact bel_refl _) | (with_reducible refine bel_dr ?_) | (with_reducible refine bel_drN ?_ _) | (with_reducible refine bel_al ?_ _) | (refine bel_set ?_ (by first | (simp; done) | (simp; exact Below.size (by assumption)) | (simp; omega)) _) | (with_reducible refine bel_tr ?_ (by assumption)))⟩
          · have HB : Hid (¬ vOk l k) := fun z => absurd (z.2 ht).1 (by omega)
            generalize atNt l k = x at hck hv ht
            clear hc h
            obtain ⟨r, s, a, o, t, d⟩ := x
            obtain ⟨p0, p1, p2, p3, p4, p5⟩ := hck
            simp only at p0 p1 p2 p3 p4 p5
            simp only at ht
            subst ht
            have HV1 := Lib.hid hv
            clear hv
            have e1 : ((k : Int) + 1 == (l.length : Int)) = true := by simp; omega
            have e2 : ((k : Int) == (l.length : Int) - 1) = true := by simp; omega
            go_wp2_with fail
            refine (snv_val HV1.out _).mono ?_
            rintro e1 w1 ⟨rfl, b1⟩
            have p0 := keep_tr p0 b1
            have p1 := keep_tr p1 b1
            have p2 := keep_tr p2 b1
            have p3 := keep_tr p3 b1
            have p4 := keep_tr p4 b1
            have p5 := keep_tr p5 b1
            go_wp2_with fail
            have x1 := IntWalk.i64_in ((k : Int) + 1) (by omega)
            have x2 := IntWalk.i64_in ((l.length : Int) - 1) (by omega)
            have lf0 : ∀ xL : Later w1, xL.world.cell? ⟨b, off + k * 6, none⟩ = some (.bool r) := fun xL => xL.at (p0)
            have lf1 : ∀ xL : Later w1, xL.world.cell? ⟨b, off + k * 6 + 1, none⟩ = some (.int .i64 s) := fun xL => xL.at (p1)
            have lf2 : ∀ xL : Later w1, xL.world.cell? ⟨b, off + k * 6 + 2, none⟩ = some (.int .i64 a) := fun xL => xL.at (p2)
            have lf3 : ∀ xL : Later w1, xL.world.cell? ⟨b, off + k * 6 + 3, none⟩ = some (.int .i64 o) := fun xL => xL.at (p3)
            have lf4 : ∀ xL : Later w1, xL.world.cell? ⟨b, off + k * 6 + 4, none⟩ = some (.int .i64 t) := fun xL => xL.at (p4)
            have lf5 : ∀ xL : Later w1, xL.world.cell? ⟨b, off + k * 6 + 5, none⟩ = some (.bool true) := fun xL => xL.at (p5)
            refine region_later (w0 := w1) (by kernel_rfl) (by kernel_rfl) (bel_refl _) ?_
            repeat (go_big_quiet_step ((fail)))
            refine wpQuiet_nil ?_
            rintro w' ⟨x, rfl⟩
            obtain ⟨w3, b3⟩ := x
            clear lf0 lf1 lf2 lf3 lf4 lf5
            clear x1 x2
            go_wp2
            go_ret
            exact ⟨ret_bool (vvB_bad _ hlt HB).symm, by repeat (first | (with_reducible assumption) | (exact bel_undr (by with_reducible assumption)) | (with_reducible exact bel_refl _) | (with_reducible refine bel_dr ?_) | (with_reducible refine bel_drN ?_ _) | (with_reducible refine bel_al ?_ _) | (refine bel_set ?_ (by first | (simp; done) | (simp; exact Below.size (by assumption)) | (simp; omega)) _) | (with_reducible refine bel_tr ?_ (by assumption)))⟩
    · obtain rfl : k = l.length := by omega
      by_cases h60 : l.length ≤ 60
      · have h61 : (l.length : Int) ≤ 60 := by omega
        go_wp2
        go_ret
        exact ⟨ret_bool (by rw [vvB_yes h60 HV.out]), hb⟩
      · have h61 : (60 : Int) < (l.length : Int) := by omega
        have h62 : decide ((l.length : Int) ≤ 60) = false := by simp <;> omega
        go_wp2
        go_ret
        exact ⟨ret_bool (by rw [vvB_no h60]), hb⟩
theorem svv_val {l : List Nt} {v : Bool} (hv : vvB l = v) (A : Option Addr) (n c : Nat) (w : World) (hn : l.length = n) (hm : n ≤ 2000000) (h : RowNt w w.heap.size A l) :
    Calls Try.prog 20 #[.slice A n c] w fun e w' => e = .returned (.bool v) ∧ Below w.heap.size w w' := by
  subst hv; exact svv_any A n c l w hn hm h
end Go.Proofs.Ytaieamobjbckdaa
