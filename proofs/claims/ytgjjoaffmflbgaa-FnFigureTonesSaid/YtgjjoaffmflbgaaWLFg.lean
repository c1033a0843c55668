/- The walk of the law FnFigureTones: for every input it returns true and turns nothing that was there. -/
import Derived.Test.YtgjjoaffmflbgaaFgL
import Derived.Deep.DeepCutAuto
namespace Go.Proofs.Ytgjjoaffmflbgaa.FnFigureTones
set_option linter.unusedSimpArgs false
set_option linter.unusedVariables false
open Go.RowKit

set_option maxRecDepth 20000 in
set_option maxHeartbeats 4000000 in
theorem walk (A : Option Addr) (len cap : Nat) (w : World) (h : Cod w A len cap) :
    Calls Try.prog 4 #[.slice A len cap] w fun e w' => e = .returned (.bool true) ∧ Below w.heap.size w w' := by
  by_cases hl : len ≤ 1048576
  · go_enter Try.func4, Try.ntmps4
    go_wp2_with fail
    refine (DrawFigureTones_any w A len cap h).mono ?_
    rintro e1 w1 ⟨f, s, a, o, g, rfl, b1⟩
    have bP : Blk (w1.alloc (.cells #[.int .i64 s, .int .i64 a, .int .i64 o] 26)) w1.heap.size #[.int .i64 s, .int .i64 a, .int .i64 o] 26 := Blk.new w1 _ _
    have bw := bel_al b1 (.cells #[.int .i64 s, .int .i64 a, .int .i64 o] 26)
    clear b1
    obtain ⟨L, hL⟩ : ∃ L, fgL f ⟨s, a, o⟩ g = L := ⟨_, rfl⟩
    have hLn : L.length ≤ 4 := by rw [← hL]; exact fgL_len _ _ _
    go_upto_region 4 with fail
    generalize (w1.alloc (.cells #[.int .i64 s, .int .i64 a, .int .i64 o] 26)) = w2 at *
    generalize w1.heap.size = P at *
    by_cases hP : fgP f ⟨s, a, o⟩ g
    · have hstep := fun m (hm : m + 1 < L.length) => fg_step hP hL (m := m) hm
      obtain ⟨hx0, hfig⟩ := fg_head hP hL
      have HS := Lib.hid hstep
      have HX0 := Lib.hid hx0
      have HFIG := Lib.hid hfig
      have hz : 0 < L.length := by rcases hfig with ⟨_, e⟩ | ⟨_, e⟩ | ⟨_, e⟩ | ⟨_, e⟩ <;> omega
      have hzi : ¬ (L.length : Int) = 0 := by omega
      have hzb : ((L.length : Int) == 0) = false := by simpa using hzi
      clear hstep hx0 hfig hP
      have HL := Lib.hid hL
      clear hL
      have cP0 : w2.cell? ⟨P, 0, none⟩ = some (.int .i64 s) := by rw [Blk.cell bP]; rfl
      have cP1 : w2.cell? ⟨P, 1, none⟩ = some (.int .i64 a) := by rw [Blk.cell bP]; rfl
      have cP2 : w2.cell? ⟨P, 2, none⟩ = some (.int .i64 o) := by rw [Blk.cell bP]; rfl
      go_wp2_with fail
      refine (fg_val HL.out _).mono ?_
      rintro e3 w3 ⟨A3, c3, rfl, lc3, cm3, r3, o3, b3⟩
      have bP := bP.below b3
      have bw := bel_tr bw b3
      clear b3
      clear cP0 cP1 cP2
      clear o3
      have cP0 : w3.cell? ⟨P, 0, none⟩ = some (.int .i64 s) := by rw [Blk.cell bP]; rfl
      have cP1 : w3.cell? ⟨P, 1, none⟩ = some (.int .i64 a) := by rw [Blk.cell bP]; rfl
      have cP2 : w3.cell? ⟨P, 2, none⟩ = some (.int .i64 o) := by rw [Blk.cell bP]; rfl
      go_wp2_with fail
      refine (sfg_val HL.out _).mono ?_
      rintro e4 w4 ⟨A4, c4, rfl, lc4, cm4, r4, o4, b4⟩
      have bP := bP.below b4
      have r3 := r3.below b4
      have bw := bel_tr bw b4
      clear b4
      clear cP0 cP1 cP2
      clear o4
      go_wp2_with fail
      refine (sp_same _ _ _ _ _ _ _ rfl (by omega) r3 r4).mono ?_
      rintro e5 w5 ⟨rfl, b5⟩
      have bP := bP.below b5
      have r3 := r3.below b5
      have bw := bel_tr bw b5
      clear b5
      go_wp2_with fail
      go_loopw [7] (fun i wr => ∃ m : Nat, m + 1 ≤ L.length ∧ i = .int .i64 ((m : Int) + 1) ∧ Below w5.heap.size w5 wr) (fun i _ => L.length - (intOf i).toNat)
      case atStart => exact ⟨0, by omega, by rfl, bel_refl _⟩
      case round =>
        obtain ⟨m, hm, rfl, hb⟩ := hrel
        have bPr := bP.below hb
        have hbw := bel_tr bw hb
        obtain ⟨b, off, rfl, hlb, hc⟩ := (r3.below hb) (by omega)
        by_cases hlt : m + 1 < L.length
        · obtain ⟨g1, g2, g3, g4⟩ := HS.out m hlt
          have hc1 := hc (m + 1) hlt
          have hc0 := hc m (by omega)
          clear hc
          generalize atPi L (m + 1) = x at hc1 g1 g2 g4
          generalize atPi L m = y at hc0 g3 g4
          obtain ⟨xs, xa, xo⟩ := x
          obtain ⟨ys, ya, yo⟩ := y
          obtain ⟨p0, p1, p2⟩ := hc1
          obtain ⟨q0, q1, q2⟩ := hc0
          unfold pvQ at g2 g3
          unfold plT at g4
          simp only at p0 p1 p2 q0 q1 q2 g1 g2 g3 g4
          have G1 := Lib.hid g1
          have G2 := Lib.hid g2
          have G3 := Lib.hid g3
          have B2 := pvB_bd g2
          have B3 := pvB_bd g3
          obtain ⟨X, hX⟩ : ∃ X, 7 * xo + xs = X := ⟨_, rfl⟩
          obtain ⟨Y, hY⟩ : ∃ X, 7 * yo + ys = X := ⟨_, rfl⟩
          rw [hX, hY] at g4
          have g5 : ¬ X ≤ Y := by omega
          have HX := Lib.hid hX
          have HY := Lib.hid hY
          clear g1 g2 g3 hX hY B2 B3
          have hki : (m : Int) + 1 < (L.length : Int) := by omega
          have hk0 : (0 : Int) ≤ (m : Int) := by omega
          have hk1 : (0 : Int) ≤ (m : Int) + 1 := by omega
          have hk2 : (m : Int) < (L.length : Int) := by omega
          have hk3 : (m : Int) + 1 - 1 = (m : Int) := by omega
          have hk4 : ((m : Int) + 1).toNat = m + 1 := by omega
          have hk5 := IntWalk.i64_in (m : Int) (by omega)
          go_wp2_with fail
          have LA : ∀ xL : Later wr, Calls Try.prog 16 #[.int .i64 f, .agg #[.int .i64 xs, .int .i64 xa, .int .i64 xo]] xL.world fun e w'' => e = .returned (.bool true) ∧ ∃ z : Later wr, w'' = z.world := fun xL => later_call (ink_val G1.out _)
          have LB : ∀ xL : Later wr, Calls Try.prog 17 #[.agg #[.int .i64 xs, .int .i64 xa, .int .i64 xo]] xL.world fun e w'' => e = .returned (.int .i64 X) ∧ ∃ z : Later wr, w'' = z.world := fun xL => later_call (by have h := pp_yes xs xa xo xL.world G2.out; rw [HX.out] at h; exact h)
          have LC : ∀ xL : Later wr, Calls Try.prog 17 #[.agg #[.int .i64 ys, .int .i64 ya, .int .i64 yo]] xL.world fun e w'' => e = .returned (.int .i64 Y) ∧ ∃ z : Later wr, w'' = z.world := fun xL => later_call (by have h := pp_yes ys ya yo xL.world G3.out; rw [HY.out] at h; exact h)
          have lf0 : ∀ xL : Later wr, xL.world.cell? ⟨b, off + (m + 1) * 3, none⟩ = some (.int .i64 xs) := fun xL => xL.at (p0)
          have lf1 : ∀ xL : Later wr, xL.world.cell? ⟨b, off + (m + 1) * 3 + 1, none⟩ = some (.int .i64 xa) := fun xL => xL.at (p1)
          have lf2 : ∀ xL : Later wr, xL.world.cell? ⟨b, off + (m + 1) * 3 + 2, none⟩ = some (.int .i64 xo) := fun xL => xL.at (p2)
          have lf3 : ∀ xL : Later wr, xL.world.cell? ⟨b, off + m * 3, none⟩ = some (.int .i64 ys) := fun xL => xL.at (q0)
          have lf4 : ∀ xL : Later wr, xL.world.cell? ⟨b, off + m * 3 + 1, none⟩ = some (.int .i64 ya) := fun xL => xL.at (q1)
          have lf5 : ∀ xL : Later wr, xL.world.cell? ⟨b, off + m * 3 + 2, none⟩ = some (.int .i64 yo) := fun xL => xL.at (q2)
          refine region_later (w0 := wr) (by kernel_rfl) (by kernel_rfl) (bel_refl _) ?_
          repeat (go_big_quiet_step ((first | (go_at_call 16; with_reducible exact LA _) | (go_at_call 17; with_reducible exact LB _) | (go_at_call 17; with_reducible exact LC _))))
          refine wpQuiet_nil ?_
          rintro w' ⟨x, rfl⟩
          obtain ⟨w8, b8⟩ := x
          clear lf0 lf1 lf2 lf3 lf4 lf5
          clear LA LB LC
          go_wp2
          go_roundw
          case rel => exact ⟨m + 1, by omega, by go_num, by repeat (first | (with_reducible assumption) | (exact bel_undr (by with_reducible assumption)) | (with_reducible exact bel_refl _) | (with_reducible refine bel_dr ?_) | (with_reducible refine bel_drN ?_ _) | (with_reducible refine bel_al ?_ _) | (refine bel_set ?_ (by first | (simp; done) | (simp; exact Below.size (by assumption)) | (simp; omega)) _) | (with_reducible refine bel_tr ?_ (by assumption)))⟩
          case measure => simp [intOf]; omega
        · rcases HFIG.out with ⟨rfl, hn⟩ | ⟨rfl, hn⟩ | ⟨rfl, hn⟩ | ⟨rfl, hn⟩
          · have HN := Lib.hid hn
            have hni : (L.length : Int) = 3 := by omega
            have hc0 := hc 0 (by omega)
            clear hc hn
            rw [HX0.out] at hc0
            simp only [Nat.zero_mul, Nat.add_zero] at hc0
            obtain ⟨p0, p1, p2⟩ := hc0
            have hki : ¬ (m : Int) + 1 < (L.length : Int) := by omega
            have hzp : (0 : Int) < (L.length : Int) := by omega
            have cP0 : wr.cell? ⟨P, 0, none⟩ = some (.int .i64 s) := by rw [Blk.cell bPr]; rfl
            have cP1 : wr.cell? ⟨P, 1, none⟩ = some (.int .i64 a) := by rw [Blk.cell bPr]; rfl
            have cP2 : wr.cell? ⟨P, 2, none⟩ = some (.int .i64 o) := by rw [Blk.cell bPr]; rfl
            go_wp2_with fail
            have lf0 : ∀ xL : Later wr, xL.world.cell? ⟨b, off, none⟩ = some (.int .i64 s) := fun xL => xL.at (p0)
            have lf1 : ∀ xL : Later wr, xL.world.cell? ⟨b, off + 1, none⟩ = some (.int .i64 a) := fun xL => xL.at (p1)
            have lf2 : ∀ xL : Later wr, xL.world.cell? ⟨b, off + 2, none⟩ = some (.int .i64 o) := fun xL => xL.at (p2)
            have lf3 : ∀ xL : Later wr, xL.world.cell? ⟨P, 0, none⟩ = some (.int .i64 s) := fun xL => xL.at (cP0)
            have lf4 : ∀ xL : Later wr, xL.world.cell? ⟨P, 1, none⟩ = some (.int .i64 a) := fun xL => xL.at (cP1)
            have lf5 : ∀ xL : Later wr, xL.world.cell? ⟨P, 2, none⟩ = some (.int .i64 o) := fun xL => xL.at (cP2)
            refine region_later (w0 := wr) (by kernel_rfl) (by kernel_rfl) (bel_refl _) ?_
            repeat (go_big_quiet_step ((fail)))
            refine wpQuiet_nil ?_
            rintro w' ⟨x, rfl⟩
            obtain ⟨w8, b8⟩ := x
            clear lf0 lf1 lf2 lf3 lf4 lf5
            have hbw := bel_tr hbw b8
            go_wp2
            go_ret
            exact ⟨rfl, hbw⟩
          · have HN := Lib.hid hn
            have hni : (L.length : Int) = 3 := by omega
            have hc0 := hc 0 (by omega)
            clear hc hn
            rw [HX0.out] at hc0
            simp only [Nat.zero_mul, Nat.add_zero] at hc0
            obtain ⟨p0, p1, p2⟩ := hc0
            have hki : ¬ (m : Int) + 1 < (L.length : Int) := by omega
            have hzp : (0 : Int) < (L.length : Int) := by omega
            have cP0 : wr.cell? ⟨P, 0, none⟩ = some (.int .i64 s) := by rw [Blk.cell bPr]; rfl
            have cP1 : wr.cell? ⟨P, 1, none⟩ = some (.int .i64 a) := by rw [Blk.cell bPr]; rfl
            have cP2 : wr.cell? ⟨P, 2, none⟩ = some (.int .i64 o) := by rw [Blk.cell bPr]; rfl
            go_wp2_with fail
            have lf0 : ∀ xL : Later wr, xL.world.cell? ⟨b, off, none⟩ = some (.int .i64 s) := fun xL => xL.at (p0)
            have lf1 : ∀ xL : Later wr, xL.world.cell? ⟨b, off + 1, none⟩ = some (.int .i64 a) := fun xL => xL.at (p1)
            have lf2 : ∀ xL : Later wr, xL.world.cell? ⟨b, off + 2, none⟩ = some (.int .i64 o) := fun xL => xL.at (p2)
            have lf3 : ∀ xL : Later wr, xL.world.cell? ⟨P, 0, none⟩ = some (.int .i64 s) := fun xL => xL.at (cP0)
            have lf4 : ∀ xL : Later wr, xL.world.cell? ⟨P, 1, none⟩ = some (.int .i64 a) := fun xL => xL.at (cP1)
            have lf5 : ∀ xL : Later wr, xL.world.cell? ⟨P, 2, none⟩ = some (.int .i64 o) := fun xL => xL.at (cP2)
            refine region_later (w0 := wr) (by kernel_rfl) (by kernel_rfl) (bel_refl _) ?_
            repeat (go_big_quiet_step ((fail)))
            refine wpQuiet_nil ?_
            rintro w' ⟨x, rfl⟩
            obtain ⟨w8, b8⟩ := x
            clear lf0 lf1 lf2 lf3 lf4 lf5
            have hbw := bel_tr hbw b8
            go_wp2
            go_ret
            exact ⟨rfl, hbw⟩
          · have HN := Lib.hid hn
            have hni : (L.length : Int) = 3 := by omega
            have hc0 := hc 0 (by omega)
            clear hc hn
            rw [HX0.out] at hc0
            simp only [Nat.zero_mul, Nat.add_zero] at hc0
            obtain ⟨p0, p1, p2⟩ := hc0
            have hki : ¬ (m : Int) + 1 < (L.length : Int) := by omega
            have hzp : (0 : Int) < (L.length : Int) := by omega
            have cP0 : wr.cell? ⟨P, 0, none⟩ = some (.int .i64 s) := by rw [Blk.cell bPr]; rfl
            have cP1 : wr.cell? ⟨P, 1, none⟩ = some (.int .i64 a) := by rw [Blk.cell bPr]; rfl
            have cP2 : wr.cell? ⟨P, 2, none⟩ = some (.int .i64 o) := by rw [Blk.cell bPr]; rfl
            go_wp2_with fail
            have lf0 : ∀ xL : Later wr, xL.world.cell? ⟨b, off, none⟩ = some (.int .i64 s) := fun xL => xL.at (p0)
            have lf1 : ∀ xL : Later wr, xL.world.cell? ⟨b, off + 1, none⟩ = some (.int .i64 a) := fun xL => xL.at (p1)
            have lf2 : ∀ xL : Later wr, xL.world.cell? ⟨b, off + 2, none⟩ = some (.int .i64 o) := fun xL => xL.at (p2)
            have lf3 : ∀ xL : Later wr, xL.world.cell? ⟨P, 0, none⟩ = some (.int .i64 s) := fun xL => xL.at (cP0)
            have lf4 : ∀ xL : Later wr, xL.world.cell? ⟨P, 1, none⟩ = some (.int .i64 a) := fun xL => xL.at (cP1)
            have lf5 : ∀ xL : Later wr, xL.world.cell? ⟨P, 2, none⟩ = some (.int .i64 o) := fun xL => xL.at (cP2)
            refine region_later (w0 := wr) (by kernel_rfl) (by kernel_rfl) (bel_refl _) ?_
            repeat (go_big_quiet_step ((fail)))
            refine wpQuiet_nil ?_
            rintro w' ⟨x, rfl⟩
            obtain ⟨w8, b8⟩ := x
            clear lf0 lf1 lf2 lf3 lf4 lf5
            have hbw := bel_tr hbw b8
            go_wp2
            go_ret
            exact ⟨rfl, hbw⟩
          · have HN := Lib.hid hn
            have hni : (L.length : Int) = 4 := by omega
            have hc0 := hc 0 (by omega)
            clear hc hn
            rw [HX0.out] at hc0
            simp only [Nat.zero_mul, Nat.add_zero] at hc0
            obtain ⟨p0, p1, p2⟩ := hc0
            have hki : ¬ (m : Int) + 1 < (L.length : Int) := by omega
            have hzp : (0 : Int) < (L.length : Int) := by omega
            have cP0 : wr.cell? ⟨P, 0, none⟩ = some (.int .i64 s) := by rw [Blk.cell bPr]; rfl
            have cP1 : wr.cell? ⟨P, 1, none⟩ = some (.int .i64 a) := by rw [Blk.cell bPr]; rfl
            have cP2 : wr.cell? ⟨P, 2, none⟩ = some (.int .i64 o) := by rw [Blk.cell bPr]; rfl
            go_wp2_with fail
            have lf0 : ∀ xL : Later wr, xL.world.cell? ⟨b, off, none⟩ = some (.int .i64 s) := fun xL => xL.at (p0)
            have lf1 : ∀ xL : Later wr, xL.world.cell? ⟨b, off + 1, none⟩ = some (.int .i64 a) := fun xL => xL.at (p1)
            have lf2 : ∀ xL : Later wr, xL.world.cell? ⟨b, off + 2, none⟩ = some (.int .i64 o) := fun xL => xL.at (p2)
            have lf3 : ∀ xL : Later wr, xL.world.cell? ⟨P, 0, none⟩ = some (.int .i64 s) := fun xL => xL.at (cP0)
            have lf4 : ∀ xL : Later wr, xL.world.cell? ⟨P, 1, none⟩ = some (.int .i64 a) := fun xL => xL.at (cP1)
            have lf5 : ∀ xL : Later wr, xL.world.cell? ⟨P, 2, none⟩ = some (.int .i64 o) := fun xL => xL.at (cP2)
            refine region_later (w0 := wr) (by kernel_rfl) (by kernel_rfl) (bel_refl _) ?_
            repeat (go_big_quiet_step ((fail)))
            refine wpQuiet_nil ?_
            rintro w' ⟨x, rfl⟩
            obtain ⟨w8, b8⟩ := x
            clear lf0 lf1 lf2 lf3 lf4 lf5
            have hbw := bel_tr hbw b8
            go_wp2
            go_ret
            exact ⟨rfl, hbw⟩
    · obtain rfl : L = [] := by rw [← hL]; exact fg_no hP
      clear hLn hP
      have HL := Lib.hid hL
      clear hL
      have cP0 : w2.cell? ⟨P, 0, none⟩ = some (.int .i64 s) := by rw [Blk.cell bP]; rfl
      have cP1 : w2.cell? ⟨P, 1, none⟩ = some (.int .i64 a) := by rw [Blk.cell bP]; rfl
      have cP2 : w2.cell? ⟨P, 2, none⟩ = some (.int .i64 o) := by rw [Blk.cell bP]; rfl
      go_wp2_with fail
      refine (fg_val HL.out _).mono ?_
      rintro e3 w3 ⟨A3, c3, rfl, lc3, cm3, r3, o3, b3⟩
      have bP := bP.below b3
      have bw := bel_tr bw b3
      clear b3
      clear cP0 cP1 cP2
      clear o3
      have cP0 : w3.cell? ⟨P, 0, none⟩ = some (.int .i64 s) := by rw [Blk.cell bP]; rfl
      have cP1 : w3.cell? ⟨P, 1, none⟩ = some (.int .i64 a) := by rw [Blk.cell bP]; rfl
      have cP2 : w3.cell? ⟨P, 2, none⟩ = some (.int .i64 o) := by rw [Blk.cell bP]; rfl
      go_wp2_with fail
      refine (sfg_val HL.out _).mono ?_
      rintro e4 w4 ⟨A4, c4, rfl, lc4, cm4, r4, o4, b4⟩
      have bP := bP.below b4
      have r3 := r3.below b4
      have bw := bel_tr bw b4
      clear b4
      clear cP0 cP1 cP2
      clear o4
      go_wp2_with fail
      refine (sp_same _ _ _ _ _ _ _ rfl (by simp) r3 r4).mono ?_
      rintro e5 w5 ⟨rfl, b5⟩
      have bP := bP.below b5
      have r3 := r3.below b5
      have bw := bel_tr bw b5
      clear b5
      go_wp2_with fail
      refine (alive_any _).mono ?_
      rintro e6 w6 ⟨rfl, b6⟩
      have bw := bel_tr bw b6
      go_wp2
      go_ret
      exact ⟨rfl, bw⟩
  · have hl2 : (1048576 : Int) < (len : Int) := by omega
    go_enter Try.func4, Try.ntmps4
    go_wp2
    go_ret
    exact ⟨rfl, bel_refl _⟩

end Go.Proofs.Ytgjjoaffmflbgaa.FnFigureTones
