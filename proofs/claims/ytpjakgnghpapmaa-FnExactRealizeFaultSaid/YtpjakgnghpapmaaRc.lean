/- Whether a chord is right for its bass and its figure: the program. -/
import Derived.Test.YtpjakgnghpapmaaTons
import Derived.Test.YtpjakgnghpapmaaSFg
import Derived.Test.YtpjakgnghpapmaaBa
import Derived.Laws.StructEq
namespace Go.Proofs.Ytpjakgnghpapmaa
set_option linter.unusedSimpArgs false
set_option linter.unusedVariables false
open Go.RowKit

/-- where two pitches part -/
theorem pi_part (p q : Pi) : p = q ∨ ((p.step == q.step) = false) ∨ (p.step = q.step ∧ (p.alter == q.alter) = false) ∨ (p.step = q.step ∧ p.alter = q.alter ∧ (p.octave == q.octave) = false) := by
  by_cases h0 : p.step = q.step
  · by_cases h1 : p.alter = q.alter
    · by_cases h2 : p.octave = q.octave
      · left; cases p; cases q; simp_all
      · right; right; right; exact ⟨h0, h1, by simpa using h2⟩
    · right; right; left; exact ⟨h0, by simpa using h1⟩
  · right; left; simpa using h0
theorem piB_ne {p q : Pi} (h : ¬ p = q) : piB p q = false := by
  cases e : piB p q
  · rfl
  · exact absurd (piB_iff.1 e) h
set_option maxRecDepth 20000 in
set_option maxHeartbeats 4000000 in
theorem rc_any (f : Int) (b : Pi) (g : Int) (A : Option Addr) (c : Nat) (s : List Pi) (w : World) (hs4 : s.length = 4) (hs : pvAll s) (h : RowPi w w.heap.size A s) :
    Calls Try.prog 58 #[.int .i64 f, .agg #[.int .i64 b.step, .int .i64 b.alter, .int .i64 b.octave], .int .i64 g, .slice A s.length c] w fun e w' => e = .returned (.bool (rcB f b g s)) ∧ Below w.heap.size w w' := by
  obtain ⟨L, hL⟩ : ∃ L, fgL f b g = L := ⟨_, rfl⟩
  obtain ⟨v, hv⟩ : ∃ v, rcB f b g s = v := ⟨_, rfl⟩
  have hLp : pvAll L := by rw [← hL]; exact fgL_pv f b g
  have hL4 : L.length ≤ 4 := by rw [← hL]; exact fgL_len f b g
  have hv2 : ((decide (0 < L.length) && decide (0 < s.length)) && (piB (atPi s 0) b && smB s L)) = v := by rw [← hL, ← hv]; rfl
  rw [hv]
  obtain ⟨sb, so, rfl, hsb, hsc⟩ := h (by omega)
  obtain ⟨d0, d1, d2⟩ := hsc 0 (by omega)
  simp only [Nat.zero_mul, Nat.add_zero] at d0 d1 d2
  obtain ⟨p, hp⟩ : ∃ p, atPi s 0 = p := ⟨_, rfl⟩
  rw [hp] at d0 d1 d2 hv2
  obtain ⟨b0, b1, b2⟩ := b
  obtain ⟨p0, p1, p2⟩ := p
  simp only at d0 d1 d2
  have HL := Lib.hid hL
  have HV := Lib.hid hv2
  have HP := Lib.hid hp
  have HS := Lib.hid hs
  have HLP := Lib.hid hLp
  rw [hs4]
  have H4 := Lib.hid hs4
  have HPP := Lib.hid (pi_part ⟨p0, p1, p2⟩ ⟨b0, b1, b2⟩)
  clear hL hv hv2 hp hs hLp hsc hs4
  have b0w : Blk (w.alloc (.cells #[.int .i64 b0, .int .i64 b1, .int .i64 b2] 62)) w.heap.size #[.int .i64 b0, .int .i64 b1, .int .i64 b2] 62 := Blk.new w _ _
  have bw : Below w.heap.size w (w.alloc (.cells #[.int .i64 b0, .int .i64 b1, .int .i64 b2] 62)) := bel_al (bel_refl w) _
  go_enter Try.func58, Try.ntmps58
  go_wp2_with fail
  generalize (w.alloc (.cells #[.int .i64 b0, .int .i64 b1, .int .i64 b2] 62)) = w0 at *
  refine (fg_val HL.out _).mono ?_
  rintro e1 w1 ⟨A9, c9, rfl, lc9, cm9, r9, _, be1⟩
  have b0w := b0w.below be1
  have q0 : w1.cell? ⟨w.heap.size, 0, none⟩ = some (.int .i64 b0) := by rw [Blk.cell b0w]; rfl
  have q1 : w1.cell? ⟨w.heap.size, 1, none⟩ = some (.int .i64 b1) := by rw [Blk.cell b0w]; rfl
  have q2 : w1.cell? ⟨w.heap.size, 2, none⟩ = some (.int .i64 b2) := by rw [Blk.cell b0w]; rfl
  replace bw := bel_tr bw be1
  have hS := h.below bw
  replace d0 := keep_tr d0 bw
  replace d1 := keep_tr d1 bw
  replace d2 := keep_tr d2 bw
  clear h b0w be1
  go_upto_region 2 with fail
  by_cases hL0 : 0 < L.length
  · have i0 : (0 : Int) < (L.length : Int) := by omega
    have i1 : ¬ L.length = 0 := by omega
    have tl0 : decide (0 < L.length) = true := decide_eq_true hL0
    rcases HPP.out with he | h1 | ⟨h1, h2⟩ | ⟨h1, h2, h3⟩
    · cases he
      obtain ⟨sv, hsv⟩ : ∃ sv, smB s L = sv := ⟨_, rfl⟩
      have HSV := Lib.hid hsv
      clear hsv
      have HE := Lib.hid (show sv = v from by have q := HV.out; rw [HSV.out, decide_eq_true hL0, H4.out, piB_iff.2 rfl] at q; simpa using q)
      have LS : ∀ xL : Later w1, Calls Try.prog 79 #[.slice (some ⟨sb, so, none⟩) 4 c, .slice A9 L.length c9] xL.world fun e w'' => e = .returned (.bool sv) ∧ ∃ z : Later w1, w'' = z.world := fun xL => later_call (by have q := same_any (some ⟨sb, so, none⟩) A9 4 L.length c c9 s L xL.world H4.out rfl (by omega) (by omega) (hS.below xL.bel) (r9.below xL.bel) HS.out HLP.out; rw [HSV.out] at q; exact q)
      have lf0 : ∀ xL : Later w1, xL.world.cell? ⟨w.heap.size, 0, none⟩ = some (.int .i64 b0) := fun xL => xL.at (q0)
      have lf1 : ∀ xL : Later w1, xL.world.cell? ⟨w.heap.size, 1, none⟩ = some (.int .i64 b1) := fun xL => xL.at (q1)
      have lf2 : ∀ xL : Later w1, xL.world.cell? ⟨w.heap.size, 2, none⟩ = some (.int .i64 b2) := fun xL => xL.at (q2)
      have lf3 : ∀ xL : Later w1, xL.world.cell? ⟨sb, so, none⟩ = some (.int .i64 b0) := fun xL => xL.at (d0)
      have lf4 : ∀ xL : Later w1, xL.world.cell? ⟨sb, so + 1, none⟩ = some (.int .i64 b1) := fun xL => xL.at (d1)
      have lf5 : ∀ xL : Later w1, xL.world.cell? ⟨sb, so + 2, none⟩ = some (.int .i64 b2) := fun xL => xL.at (d2)
      refine region_later (w0 := w1) (by kernel_rfl) (by kernel_rfl) (bel_refl _) ?_
      repeat (go_big_quiet_step ((first | (go_at_call 79; with_reducible exact LS _))))
      refine wpQuiet_nil ?_
      rintro w' ⟨x, rfl⟩
      obtain ⟨w9, b9⟩ := x
      clear lf0 lf1 lf2 lf3 lf4 lf5
      clear LS
      go_wp2
      go_ret
      exact ⟨ret_bool (HE.out), bel_tr bw b9⟩
    · have HE := Lib.hid (show false = v from by have q := HV.out; rw [piB_ne (fun z => by cases z; simp at h1)] at q; simpa using q)
      have lf0 : ∀ xL : Later w1, xL.world.cell? ⟨w.heap.size, 0, none⟩ = some (.int .i64 b0) := fun xL => xL.at (q0)
      have lf1 : ∀ xL : Later w1, xL.world.cell? ⟨w.heap.size, 1, none⟩ = some (.int .i64 b1) := fun xL => xL.at (q1)
      have lf2 : ∀ xL : Later w1, xL.world.cell? ⟨w.heap.size, 2, none⟩ = some (.int .i64 b2) := fun xL => xL.at (q2)
      have lf3 : ∀ xL : Later w1, xL.world.cell? ⟨sb, so, none⟩ = some (.int .i64 p0) := fun xL => xL.at (d0)
      have lf4 : ∀ xL : Later w1, xL.world.cell? ⟨sb, so + 1, none⟩ = some (.int .i64 p1) := fun xL => xL.at (d1)
      have lf5 : ∀ xL : Later w1, xL.world.cell? ⟨sb, so + 2, none⟩ = some (.int .i64 p2) := fun xL => xL.at (d2)
      refine region_later (w0 := w1) (by kernel_rfl) (by kernel_rfl) (bel_refl _) ?_
      repeat (go_big_quiet_step ((fail)))
      refine wpQuiet_nil ?_
      rintro w' ⟨x, rfl⟩
      obtain ⟨w9, b9⟩ := x
      clear lf0 lf1 lf2 lf3 lf4 lf5
      go_wp2
      go_ret
      exact ⟨ret_bool (HE.out), bel_tr bw b9⟩
    · subst h1
      have HE := Lib.hid (show false = v from by have q := HV.out; rw [piB_ne (fun z => by cases z; simp at h2)] at q; simpa using q)
      have lf0 : ∀ xL : Later w1, xL.world.cell? ⟨w.heap.size, 0, none⟩ = some (.int .i64 p0) := fun xL => xL.at (q0)
      have lf1 : ∀ xL : Later w1, xL.world.cell? ⟨w.heap.size, 1, none⟩ = some (.int .i64 b1) := fun xL => xL.at (q1)
      have lf2 : ∀ xL : Later w1, xL.world.cell? ⟨w.heap.size, 2, none⟩ = some (.int .i64 b2) := fun xL => xL.at (q2)
      have lf3 : ∀ xL : Later w1, xL.world.cell? ⟨sb, so, none⟩ = some (.int .i64 p0) := fun xL => xL.at (d0)
      have lf4 : ∀ xL : Later w1, xL.world.cell? ⟨sb, so + 1, none⟩ = some (.int .i64 p1) := fun xL => xL.at (d1)
      have lf5 : ∀ xL : Later w1, xL.world.cell? ⟨sb, so + 2, none⟩ = some (.int .i64 p2) := fun xL => xL.at (d2)
      refine region_later (w0 := w1) (by kernel_rfl) (by kernel_rfl) (bel_refl _) ?_
      repeat (go_big_quiet_step ((fail)))
      refine wpQuiet_nil ?_
      rintro w' ⟨x, rfl⟩
      obtain ⟨w9, b9⟩ := x
      clear lf0 lf1 lf2 lf3 lf4 lf5
      go_wp2
      go_ret
      exact ⟨ret_bool (HE.out), bel_tr bw b9⟩
    · subst h1
      subst h2
      have HE := Lib.hid (show false = v from by have q := HV.out; rw [piB_ne (fun z => by cases z; simp at h3)] at q; simpa using q)
      have lf0 : ∀ xL : Later w1, xL.world.cell? ⟨w.heap.size, 0, none⟩ = some (.int .i64 p0) := fun xL => xL.at (q0)
      have lf1 : ∀ xL : Later w1, xL.world.cell? ⟨w.heap.size, 1, none⟩ = some (.int .i64 p1) := fun xL => xL.at (q1)
      have lf2 : ∀ xL : Later w1, xL.world.cell? ⟨w.heap.size, 2, none⟩ = some (.int .i64 b2) := fun xL => xL.at (q2)
      have lf3 : ∀ xL : Later w1, xL.world.cell? ⟨sb, so, none⟩ = some (.int .i64 p0) := fun xL => xL.at (d0)
      have lf4 : ∀ xL : Later w1, xL.world.cell? ⟨sb, so + 1, none⟩ = some (.int .i64 p1) := fun xL => xL.at (d1)
      have lf5 : ∀ xL : Later w1, xL.world.cell? ⟨sb, so + 2, none⟩ = some (.int .i64 p2) := fun xL => xL.at (d2)
      refine region_later (w0 := w1) (by kernel_rfl) (by kernel_rfl) (bel_refl _) ?_
      repeat (go_big_quiet_step ((fail)))
      refine wpQuiet_nil ?_
      rintro w' ⟨x, rfl⟩
      obtain ⟨w9, b9⟩ := x
      clear lf0 lf1 lf2 lf3 lf4 lf5
      go_wp2
      go_ret
      exact ⟨ret_bool (HE.out), bel_tr bw b9⟩
  · have hL9 : L.length = 0 := by omega
    have HE := Lib.hid (show false = v from by have q := HV.out; rw [decide_eq_false hL0] at q; simpa using q)
    rw [hL9]
    clear hL9
    refine region_later (w0 := w1) (by kernel_rfl) (by kernel_rfl) (bel_refl _) ?_
    repeat (go_big_quiet_step ((fail)))
    refine wpQuiet_nil ?_
    rintro w' ⟨x, rfl⟩
    obtain ⟨w9, b9⟩ := x
    go_wp2
    go_ret
    exact ⟨ret_bool (HE.out), bel_tr bw b9⟩
end Go.Proofs.Ytpjakgnghpapmaa
