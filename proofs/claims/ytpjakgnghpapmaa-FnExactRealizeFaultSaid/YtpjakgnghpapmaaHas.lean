/- Whether a list has a tone, whether a chord has all tones of a figure: the reference. -/
import Derived.Test.YtpjakgnghpapmaaBr
import Derived.Test.YtpjakgnghpapmaaBa
import Derived.Test.YtpjakgnghpapmaaBp
import Derived.Deep.DeepCutAuto
namespace Go.Proofs.Ytpjakgnghpapmaa
set_option linter.unusedSimpArgs false
set_option linter.unusedVariables false
open Go.RowKit

theorem clsB_1 {p q : Pi} (h : (p.step == q.step) = false) : clsB p q = false := by unfold clsB; rw [h]; rfl
theorem clsB_2 {p q : Pi} (h : (p.step == q.step) = true) : clsB p q = (p.alter == q.alter) := by unfold clsB; rw [h]; rfl
theorem fullB_take {s t : List Pi} {k : Nat} (h : k < t.length) : fullB s (t.take (k + 1)) = (fullB s (t.take k) && hasB s (atPi t k)) := by
  have e : t.take (k + 1) = t.take k ++ [atPi t k] := by
    rw [List.take_succ_eq_append_getElem h]
    unfold atPi
    rw [List.getD_eq_getElem?_getD, List.getElem?_eq_getElem h]
    rfl
  rw [e]
  unfold fullB
  rw [List.all_append]
  simp
set_option maxHeartbeats 2000000 in
theorem cls_any (p q : Pi) (w : World) : Calls Try.prog 78 #[.agg #[.int .i64 p.step, .int .i64 p.alter, .int .i64 p.octave], .agg #[.int .i64 q.step, .int .i64 q.alter, .int .i64 q.octave]] w fun e w' => e = .returned (.bool (clsB p q)) ∧ Below w.heap.size w w' := by
  obtain ⟨p0, p1, p2⟩ := p
  obtain ⟨q0, q1, q2⟩ := q
  simp only
  have bP : Blk ((w.alloc (.cells #[.int .i64 p0, .int .i64 p1, .int .i64 p2] 62)).alloc (.cells #[.int .i64 q0, .int .i64 q1, .int .i64 q2] 62)) w.heap.size #[.int .i64 p0, .int .i64 p1, .int .i64 p2] 62 := (Blk.new w _ _).alloc _
  have zP : (w.alloc (.cells #[.int .i64 p0, .int .i64 p1, .int .i64 p2] 62)).heap.size = w.heap.size + 1 := by simp
  have bQ : Blk ((w.alloc (.cells #[.int .i64 p0, .int .i64 p1, .int .i64 p2] 62)).alloc (.cells #[.int .i64 q0, .int .i64 q1, .int .i64 q2] 62)) (w.heap.size + 1) #[.int .i64 q0, .int .i64 q1, .int .i64 q2] 62 := by rw [← zP]; exact Blk.new (w.alloc (.cells #[.int .i64 p0, .int .i64 p1, .int .i64 p2] 62)) _ _
  have bw : Below w.heap.size w ((w.alloc (.cells #[.int .i64 p0, .int .i64 p1, .int .i64 p2] 62)).alloc (.cells #[.int .i64 q0, .int .i64 q1, .int .i64 q2] 62)) := bel_al (bel_al (bel_refl w) _) _
  have c0 : ((w.alloc (.cells #[.int .i64 p0, .int .i64 p1, .int .i64 p2] 62)).alloc (.cells #[.int .i64 q0, .int .i64 q1, .int .i64 q2] 62)).cell? ⟨w.heap.size, 0, none⟩ = some (.int .i64 p0) := by rw [Blk.cell bP]; rfl
  have d0 : ((w.alloc (.cells #[.int .i64 p0, .int .i64 p1, .int .i64 p2] 62)).alloc (.cells #[.int .i64 q0, .int .i64 q1, .int .i64 q2] 62)).cell? ⟨w.heap.size + 1, 0, none⟩ = some (.int .i64 q0) := by rw [Blk.cell bQ]; rfl
  have c1 : ((w.alloc (.cells #[.int .i64 p0, .int .i64 p1, .int .i64 p2] 62)).alloc (.cells #[.int .i64 q0, .int .i64 q1, .int .i64 q2] 62)).cell? ⟨w.heap.size, 1, none⟩ = some (.int .i64 p1) := by rw [Blk.cell bP]; rfl
  have d1 : ((w.alloc (.cells #[.int .i64 p0, .int .i64 p1, .int .i64 p2] 62)).alloc (.cells #[.int .i64 q0, .int .i64 q1, .int .i64 q2] 62)).cell? ⟨w.heap.size + 1, 1, none⟩ = some (.int .i64 q1) := by rw [Blk.cell bQ]; rfl
  clear bP bQ zP
  cases hs : (p0 == q0)
  · have HE := Lib.hid (clsB_1 (p := ⟨p0, p1, p2⟩) (q := ⟨q0, q1, q2⟩) hs)
    go_enter Try.func78, Try.ntmps78
    go_upto_region 1 with fail
    generalize ((w.alloc (.cells #[.int .i64 p0, .int .i64 p1, .int .i64 p2] 62)).alloc (.cells #[.int .i64 q0, .int .i64 q1, .int .i64 q2] 62)) = w0 at *
    go_wp2
    go_ret
    exact ⟨ret_bool HE.out.symm, bw⟩
  · have HE := Lib.hid (clsB_2 (p := ⟨p0, p1, p2⟩) (q := ⟨q0, q1, q2⟩) hs)
    go_enter Try.func78, Try.ntmps78
    go_upto_region 1 with fail
    generalize ((w.alloc (.cells #[.int .i64 p0, .int .i64 p1, .int .i64 p2] 62)).alloc (.cells #[.int .i64 q0, .int .i64 q1, .int .i64 q2] 62)) = w0 at *
    go_wp2
    go_ret
    exact ⟨ret_bool HE.out.symm, bw⟩
set_option maxRecDepth 20000 in
set_option maxHeartbeats 2000000 in
theorem has_any (A : Option Addr) (n c : Nat) (l : List Pi) (b : Pi) (w : World) (hn : l.length = n) (hm : n ≤ 2000000) (h : RowPi w w.heap.size A l) :
    Calls Try.prog 55 #[.slice A n c, .agg #[.int .i64 b.step, .int .i64 b.alter, .int .i64 b.octave]] w fun e w' => e = .returned (.bool (hasB l b)) ∧ Below w.heap.size w w' := by
  subst hn
  obtain ⟨b0, b1, b2⟩ := b
  have bP0 : Blk (w.alloc (.cells #[.int .i64 b0, .int .i64 b1, .int .i64 b2] 62)) w.heap.size #[.int .i64 b0, .int .i64 b1, .int .i64 b2] 62 := Blk.new w _ _
  have bw0 : Below w.heap.size w (w.alloc (.cells #[.int .i64 b0, .int .i64 b1, .int .i64 b2] 62)) := bel_al (bel_refl w) _
  go_enter Try.func55, Try.ntmps55
  go_wp2_with fail
  generalize (w.alloc (.cells #[.int .i64 b0, .int .i64 b1, .int .i64 b2] 62)) = w0 at *
  go_loopw [5] (fun i wr => ∃ k : Nat, k ≤ l.length ∧ i = .int .i64 k ∧ Blk wr w.heap.size #[.int .i64 b0, .int .i64 b1, .int .i64 b2] 62 ∧ Below w.heap.size w wr ∧ Hid (∀ j, j < k → clsB (atPi l j) ⟨b0, b1, b2⟩ = false)) (fun i _ => l.length - (intOf i).toNat)
  case atStart => exact ⟨0, Nat.zero_le _, rfl, bP0, bw0, fun _ h => absurd h (Nat.not_lt_zero _)⟩
  case round =>
    obtain ⟨k, hk, rfl, bP, hb, HK⟩ := hrel
    clear bP0 bw0
    by_cases hlt : k < l.length
    · obtain ⟨sb, so, rfl, hsb, hsc⟩ := (h.below hb) (by omega)
      obtain ⟨d0, d1, d2⟩ := hsc k hlt
      have hkl : (k : Int) < (l.length : Int) := by omega
      have hk0 : (0 : Int) ≤ (k : Int) := by omega
      obtain ⟨p, hp⟩ : ∃ p, atPi l k = p := ⟨_, rfl⟩
      rw [hp] at d0 d1 d2
      have HP := Lib.hid hp
      obtain ⟨p0, p1, p2⟩ := p
      simp only at d0 d1 d2
      have c0 : wr.cell? ⟨w.heap.size, 0, none⟩ = some (.int .i64 b0) := by rw [Blk.cell bP]; rfl
      have c1 : wr.cell? ⟨w.heap.size, 1, none⟩ = some (.int .i64 b1) := by rw [Blk.cell bP]; rfl
      have c2 : wr.cell? ⟨w.heap.size, 2, none⟩ = some (.int .i64 b2) := by rw [Blk.cell bP]; rfl
      obtain ⟨v, hv⟩ : ∃ v, clsB ⟨p0, p1, p2⟩ ⟨b0, b1, b2⟩ = v := ⟨_, rfl⟩
      have HV := Lib.hid hv
      clear hp hsc hv
      go_upto_region 4 with fail
      cases v
      · have LC : ∀ xL : Later wr, Calls Try.prog 78 #[.agg #[.int .i64 p0, .int .i64 p1, .int .i64 p2], .agg #[.int .i64 b0, .int .i64 b1, .int .i64 b2]] xL.world fun e w'' => e = .returned (.bool false) ∧ ∃ z : Later wr, w'' = z.world := fun xL => later_call (by have q := cls_any ⟨p0, p1, p2⟩ ⟨b0, b1, b2⟩ xL.world; rw [HV.out] at q; exact q)
        have lf0 : ∀ xL : Later wr, xL.world.cell? ⟨w.heap.size, 0, none⟩ = some (.int .i64 b0) := fun xL => xL.at (c0)
        have lf1 : ∀ xL : Later wr, xL.world.cell? ⟨w.heap.size, 1, none⟩ = some (.int .i64 b1) := fun xL => xL.at (c1)
        have lf2 : ∀ xL : Later wr, xL.world.cell? ⟨w.heap.size, 2, none⟩ = some (.int .i64 b2) := fun xL => xL.at (c2)
        have lf3 : ∀ xL : Later wr, xL.world.cell? ⟨sb, so + k * 3, none⟩ = some (.int .i64 p0) := fun xL => xL.at (d0)
        have lf4 : ∀ xL : Later wr, xL.world.cell? ⟨sb, so + k * 3 + 1, none⟩ = some (.int .i64 p1) := fun xL => xL.at (d1)
        have lf5 : ∀ xL : Later wr, xL.world.cell? ⟨sb, so + k * 3 + 2, none⟩ = some (.int .i64 p2) := fun xL => xL.at (d2)
        refine region_later (w0 := wr) (by kernel_rfl) (by kernel_rfl) (bel_refl _) ?_
        repeat (go_big_quiet_step ((first | (go_at_call 78; with_reducible exact LC _))))
        refine wpQuiet_nil ?_
        rintro w' ⟨x, rfl⟩
        obtain ⟨w9, b9⟩ := x
        clear lf0 lf1 lf2 lf3 lf4 lf5
        clear LC
        have hb9 := bel_tr hb b9
        replace bP := bP.below b9
        go_wp2
        go_roundw
        case rel => exact ⟨k + 1, by omega, by go_num, bP, hb9, hid_snoc HK (by rw [HP.out]; exact HV.out)⟩
        case measure => simp [intOf]; omega
      · have LC : ∀ xL : Later wr, Calls Try.prog 78 #[.agg #[.int .i64 p0, .int .i64 p1, .int .i64 p2], .agg #[.int .i64 b0, .int .i64 b1, .int .i64 b2]] xL.world fun e w'' => e = .returned (.bool true) ∧ ∃ z : Later wr, w'' = z.world := fun xL => later_call (by have q := cls_any ⟨p0, p1, p2⟩ ⟨b0, b1, b2⟩ xL.world; rw [HV.out] at q; exact q)
        have lf0 : ∀ xL : Later wr, xL.world.cell? ⟨w.heap.size, 0, none⟩ = some (.int .i64 b0) := fun xL => xL.at (c0)
        have lf1 : ∀ xL : Later wr, xL.world.cell? ⟨w.heap.size, 1, none⟩ = some (.int .i64 b1) := fun xL => xL.at (c1)
        have lf2 : ∀ xL : Later wr, xL.world.cell? ⟨w.heap.size, 2, none⟩ = some (.int .i64 b2) := fun xL => xL.at (c2)
        have lf3 : ∀ xL : Later wr, xL.world.cell? ⟨sb, so + k * 3, none⟩ = some (.int .i64 p0) := fun xL => xL.at (d0)
        have lf4 : ∀ xL : Later wr, xL.world.cell? ⟨sb, so + k * 3 + 1, none⟩ = some (.int .i64 p1) := fun xL => xL.at (d1)
        have lf5 : ∀ xL : Later wr, xL.world.cell? ⟨sb, so + k * 3 + 2, none⟩ = some (.int .i64 p2) := fun xL => xL.at (d2)
        refine region_later (w0 := wr) (by kernel_rfl) (by kernel_rfl) (bel_refl _) ?_
        repeat (go_big_quiet_step ((first | (go_at_call 78; with_reducible exact LC _))))
        refine wpQuiet_nil ?_
        rintro w' ⟨x, rfl⟩
        obtain ⟨w9, b9⟩ := x
        clear lf0 lf1 lf2 lf3 lf4 lf5
        clear LC
        have hb9 := bel_tr hb b9
        replace bP := bP.below b9
        have HE := Lib.hid (hasB_yes k hlt (by rw [HP.out]; exact HV.out))
        go_wp2
        go_ret
        exact ⟨ret_bool HE.out.symm, hb9⟩
    · obtain rfl : k = l.length := by omega
      have HE := Lib.hid (hasB_no HK.out)
      go_wp2
      go_ret
      exact ⟨ret_bool HE.out.symm, hb⟩
theorem has_val {l : List Pi} {b : Pi} {v : Bool} (hv : hasB l b = v) (A : Option Addr) (n c : Nat) (w : World) (hn : l.length = n) (hm : n ≤ 2000000) (h : RowPi w w.heap.size A l) :
    Calls Try.prog 55 #[.slice A n c, .agg #[.int .i64 b.step, .int .i64 b.alter, .int .i64 b.octave]] w fun e w' => e = .returned (.bool v) ∧ Below w.heap.size w w' := by
  subst hv; exact has_any A n c l b w hn hm h
set_option maxRecDepth 20000 in
set_option maxHeartbeats 2000000 in
theorem full_any (A1 A2 : Option Addr) (n1 n2 c1 c2 : Nat) (s t : List Pi) (w : World) (hn1 : s.length = n1) (hn2 : t.length = n2) (hm1 : n1 ≤ 2000000) (hm2 : n2 ≤ 2000000) (h1 : RowPi w w.heap.size A1 s) (h2 : RowPi w w.heap.size A2 t) :
    Calls Try.prog 54 #[.slice A1 n1 c1, .slice A2 n2 c2] w fun e w' => e = .returned (.bool (fullB s t)) ∧ Below w.heap.size w w' := by
  subst hn1
  subst hn2
  go_enter Try.func54, Try.ntmps54
  go_wp2
  go_loopw [5] (fun i wr => ∃ k : Nat, k ≤ t.length ∧ i = .int .i64 k ∧ Below w.heap.size w wr ∧ Hid (∀ j, j < k → hasB s (atPi t j) = true)) (fun i _ => t.length - (intOf i).toNat)
  case atStart => exact ⟨0, Nat.zero_le _, rfl, bel_refl _, fun _ h => absurd h (Nat.not_lt_zero _)⟩
  case round =>
    obtain ⟨k, hk, rfl, hb, HK⟩ := hrel
    by_cases hlt : k < t.length
    · obtain ⟨sb, so, rfl, hsb, hsc⟩ := (h2.below hb) (by omega)
      obtain ⟨d0, d1, d2⟩ := hsc k hlt
      have hs := h1.below hb
      have hkl : (k : Int) < (t.length : Int) := by omega
      have hk0 : (0 : Int) ≤ (k : Int) := by omega
      obtain ⟨p, hp⟩ : ∃ p, atPi t k = p := ⟨_, rfl⟩
      rw [hp] at d0 d1 d2
      have HP := Lib.hid hp
      obtain ⟨p0, p1, p2⟩ := p
      simp only at d0 d1 d2
      obtain ⟨v, hv⟩ : ∃ v, hasB s ⟨p0, p1, p2⟩ = v := ⟨_, rfl⟩
      have HV := Lib.hid hv
      clear hp hsc hv
      cases v
      · go_wp2_with fail
        refine (has_val HV.out _ _ _ _ rfl hm1 hs).mono ?_
        rintro e1 w1 ⟨rfl, b1⟩
        have hb1 := bel_tr hb b1
        have HE := Lib.hid (fullB_no k hlt (by rw [HP.out]; exact HV.out))
        go_wp2
        go_ret
        exact ⟨ret_bool HE.out.symm, hb1⟩
      · go_wp2_with fail
        refine (has_val HV.out _ _ _ _ rfl hm1 hs).mono ?_
        rintro e1 w1 ⟨rfl, b1⟩
        have hb1 := bel_tr hb b1
        go_wp2
        go_roundw
        case rel => exact ⟨k + 1, by omega, by go_num, hb1, hid_snoc HK (by rw [HP.out]; exact HV.out)⟩
        case measure => simp [intOf]; omega
    · obtain rfl : k = t.length := by omega
      have HE := Lib.hid (fullB_yes HK.out)
      go_wp2
      go_ret
      exact ⟨ret_bool HE.out.symm, hb⟩
theorem full_val {s t : List Pi} {v : Bool} (hv : fullB s t = v) (A1 A2 : Option Addr) (n1 n2 c1 c2 : Nat) (w : World) (hn1 : s.length = n1) (hn2 : t.length = n2) (hm1 : n1 ≤ 2000000) (hm2 : n2 ≤ 2000000) (h1 : RowPi w w.heap.size A1 s) (h2 : RowPi w w.heap.size A2 t) :
    Calls Try.prog 54 #[.slice A1 n1 c1, .slice A2 n2 c2] w fun e w' => e = .returned (.bool v) ∧ Below w.heap.size w w' := by
  subst hv; exact full_any A1 A2 n1 n2 c1 c2 s t w hn1 hn2 hm1 hm2 h1 h2
end Go.Proofs.Ytpjakgnghpapmaa
