/- The walk of the law FnBassFirst: for every input it returns true and turns nothing that was there. -/
import Derived.Test.YtpjakgnghpapmaaRzQ
import Derived.Test.YtpjakgnghpapmaaRbK
import Derived.Test.YtpjakgnghpapmaaBa
namespace Go.Proofs.Ytpjakgnghpapmaa.FnBassFirst
set_option linter.unusedSimpArgs false
set_option linter.unusedVariables false
open Go.RowKit

set_option maxRecDepth 20000 in
set_option maxHeartbeats 4000000 in
theorem walk (A : Option Addr) (len cap : Nat) (w : World) (h : Cod w A len cap) :
    Calls Try.prog 9 #[.slice A len cap] w fun e w' => e = .returned (.bool true) ∧ Below w.heap.size w w' := by
  by_cases hl : len ≤ 1048576
  · go_enter Try.func9, Try.ntmps9
    go_wp2_with fail
    refine (DrawRealizeBass_any w A len cap h).mono ?_
    rintro e1 w1 ⟨f, A1, c1, bs, A2, c2, gs, rfl, hf, hb3, hg4, hik, lc1, cm1, lc2, cm2, hr1, hr2, bw⟩
    unfold maxLen at cm1 cm2
    clear hf
    cases hO : rbI f bs gs with
    | none =>
      clear hik
      have HL := Lib.hid (show (rbI f bs gs).getD [] = [] from by rw [hO]; rfl)
      have HB := Lib.hid (show (rbI f bs gs).isSome = false from by rw [hO]; rfl)
      clear hO
      go_wp2_with fail
      refine (rbq_val HL.out HB.out _ _ _ _ _ _ _ rfl rfl (by omega) (by omega) hr1 hr2).mono ?_
      rintro e2 w2 ⟨A3, c3, rfl, lc3, cm3, hx, b2⟩
      replace hr1 := hr1.below b2
      replace hr2 := hr2.below b2
      replace bw := bel_tr bw b2
      clear b2
      have hx := hx.row
      go_wp2_with fail
      refine (srbw_val HL.out HB.out _ _ _ _ _ _ _ rfl rfl (by omega) (by omega) hr1 hr2).mono ?_
      rintro e3 w3 ⟨A4, c4, rfl, lc4, cm4, hy, b3⟩
      replace hr1 := hr1.below b3
      replace hr2 := hr2.below b3
      replace hx := hx.below b3
      replace bw := bel_tr bw b3
      clear b3
      rw [show ([] : List (List Pi)).length = 0 from rfl]
      go_wp2_with fail
      refine (alive_any _).mono ?_
      rintro e4 w4 ⟨rfl, b4⟩
      replace bw := bel_tr bw b4
      clear b4
      go_wp2
      go_ret
      exact ⟨rfl, bw⟩
    | some L =>
      have HO := Lib.hid hO
      obtain ⟨y, hy1, hy4, hylow⟩ := rb_alone hO hik
      have hbs1 : 1 ≤ bs.length := (rb_some hO).1.2.1.1
      have hgs1 : 1 ≤ gs.length := by rw [(rb_some hO).1.2.2]; exact hbs1
      have HL := Lib.hid (show (rbI f bs gs).getD [] = L from by rw [hO]; rfl)
      have HB := Lib.hid (show (rbI f bs gs).isSome = true from by rw [hO]; rfl)
      have HL1 := Lib.hid (show (rbI f (bs.take 1) (gs.take 1)).getD [] = [y] from by rw [hy1]; rfl)
      have HB1 := Lib.hid (show (rbI f (bs.take 1) (gs.take 1)).isSome = true from by rw [hy1]; rfl)
      have HK1 : Hid ((bs.take 1).length = 1) := by show _ = _; rw [List.length_take]; omega
      have HK2 : Hid ((gs.take 1).length = 1) := by show _ = _; rw [List.length_take]; omega
      have hL8 : L.length ≤ 8 := (rb_small HL.out).1
      have hL1 : 0 < L.length := by rw [rb_len hO]; omega
      have hx4 := rb_four hO 0 hL1
      obtain ⟨x, hX⟩ : ∃ x, atPP L 0 = x := ⟨_, rfl⟩
      rw [hX] at hx4 hylow
      have HX := Lib.hid hX
      have HX4 := Lib.hid hx4
      have HY4 := Lib.hid hy4
      have HLOW := Lib.hid hylow
      clear hO hy1 hylow hX hx4 hy4
      go_wp2_with fail
      refine (rbq_val HL.out HB.out _ _ _ _ _ _ _ rfl rfl (by omega) (by omega) hr1 hr2).mono ?_
      rintro e2 w2 ⟨A3, c3, rfl, lc3, cm3, hx, b2⟩
      replace hr1 := hr1.below b2
      replace hr2 := hr2.below b2
      replace bw := bel_tr bw b2
      clear b2
      have hx := hx.row
      go_wp2_with fail
      refine (srbw_val HL.out HB.out _ _ _ _ _ _ _ rfl rfl (by omega) (by omega) hr1 hr2).mono ?_
      rintro e3 w3 ⟨A4, c4, rfl, lc4, cm4, hy, b3⟩
      replace hr1 := hr1.below b3
      replace hr2 := hr2.below b3
      replace hx := hx.below b3
      replace bw := bel_tr bw b3
      clear b3
      unfold maxLen at cm3 cm4
      clear hy
      have hs1 : (1 : Int) ≤ (c1 : Int) := by omega
      have hs2 : (1 : Int) ≤ (c2 : Int) := by omega
      have hs3 : 1 ≤ c1 := by omega
      have hs4 : 1 ≤ c2 := by omega
      go_upto_region 10 with fail
      go_region_held3 (fun W => Below w3.heap.size w3 W) (((try go_split_ands); (repeat' (with_reducible refine And.intro ?_ ?_)) <;> (first | (with_reducible assumption) | ((repeat (first | (with_reducible assumption) | (exact keep_undr (by with_reducible assumption)) | (simp [go_sem]; done) | (with_reducible refine keep_dr ?_) | (with_reducible refine keep_drN ?_ _) | (with_reducible refine keep_al ?_ _) | (refine keep_set ?_ (by first | (simp; done) | (simp; omega) | omega)) | (with_reducible refine keep_tr ?_ (by assumption)))); done) | ((repeat (first | (with_reducible assumption) | (exact bel_undr (by with_reducible assumption)) | (with_reducible exact bel_refl _) | (with_reducible refine bel_dr ?_) | (with_reducible refine bel_drN ?_ _) | (with_reducible refine bel_al ?_ _) | (refine bel_set ?_ (by first | (simp; done) | (simp; exact Below.size (by assumption)) | (simp; omega)) _) | (with_reducible refine bel_tr ?_ (by assumption)))); done) | (simp [go_sem]; done) | go_keep))) (first | (go_at_call 32; have b4 : Below w3.heap.size w3 w3.drew := bel_dr (bel_refl w3); generalize w3.drew = w4 at *; replace hr1 := hr1.below b4; replace hr2 := hr2.below b4; replace hx := hx.below b4; replace bw := bel_tr bw b4; refine (rbq_val HL1.out HB1.out _ _ _ _ _ _ _ HK1.out HK2.out (by omega) (by omega) (hr1.take 1) (hr2.take 1)).mono ?_; rintro e5 w5 ⟨A5, c5, rfl, lc5, cm5, hz, b5⟩; replace hr1 := hr1.below b5; replace hx := hx.below b5; replace bw := bel_tr bw b5; have hz := hz.row; have b45 := bel_tr b4 b5))
      obtain ⟨xb, xo, rfl, hxb, hxc⟩ := hx (by omega)
      obtain ⟨Ax, cx, x0, xl, xm, xr⟩ := hxc 0 (by omega)
      obtain ⟨yb, yo, rfl, hyb, hyc⟩ := hz (by simp)
      obtain ⟨Ay, cy, y0, yl, ym, yr⟩ := hyc 0 (by simp)
      rw [show atPP [y] 0 = y from rfl] at y0 yl yr
      rw [HX.out] at x0 xl xr
      rw [HX4.out] at x0 xl
      rw [HY4.out] at y0 yl
      rw [Nat.add_zero] at x0 y0
      have hLi : (0 : Int) < (L.length : Int) := by omega
      have hLz : ((L.length : Int) == 0) = false := beq_eq_false_iff_ne.2 (by omega)
      clear hxc hyc hik
      go_wp2_with fail
      obtain ⟨wq, hwq⟩ : ∃ q : World, q = w5 := ⟨_, rfl⟩
      rw [← hwq] at x0 y0 xr yr bw ⊢
      clear hwq
      go_loopw [12] (fun i wr => ∃ k : Nat, 1 ≤ k ∧ k ≤ 4 ∧ i = .int .i64 k ∧ (∀ j, 1 ≤ j → j < k → kyP (atPi x j) = kyP (atPi y j)) ∧ Below wq.heap.size wq wr) (fun i _ => 4 - (intOf i).toNat)
      case atStart => exact ⟨1, by omega, by omega, rfl, fun j h1 h2 => absurd h2 (by omega), bel_refl _⟩
      case round =>
        obtain ⟨k, hk1, hk4, rfl, heq, hb⟩ := hrel
        by_cases hlt : k < 4
        · have hkl : (k : Int) < 4 := by omega
          have hk0 : (0 : Int) ≤ (k : Int) := by omega
          have hlow := HLOW.out k hk1 hlt heq
          have HEQ := Lib.hid heq
          obtain ⟨xpb, xpo, rfl, hxpb, hxpc⟩ := (xr.below hb) (by have := HX4.out; omega)
          obtain ⟨p_0, p_1, p_2⟩ := hxpc k (by have := HX4.out; omega)
          obtain ⟨ypb, ypo, rfl, hypb, hypc⟩ := (yr.below hb) (by have := HY4.out; omega)
          obtain ⟨q_0, q_1, q_2⟩ := hypc k (by have := HY4.out; omega)
          have x1 := keep_tr x0 hb
          have y1 := keep_tr y0 hb
          obtain ⟨p, hp⟩ : ∃ p, atPi x k = p := ⟨_, rfl⟩
          obtain ⟨q, hq⟩ : ∃ q, atPi y k = q := ⟨_, rfl⟩
          rw [hp] at p_0 p_1 p_2 hlow
          rw [hq] at q_0 q_1 q_2 hlow
          have HP := Lib.hid hp
          have HQ := Lib.hid hq
          obtain ⟨kp, hkp⟩ : ∃ z, kyP p = z := ⟨_, rfl⟩
          have kpb := pkI_bd p.step p.alter p.octave
          rw [show pkI p.step p.alter p.octave = kp from hkp] at kpb
          obtain ⟨kp0, kp1⟩ := kpb
          have Kp := Lib.hid hkp
          obtain ⟨kq, hkq⟩ : ∃ z, kyP q = z := ⟨_, rfl⟩
          have kqb := pkI_bd q.step q.alter q.octave
          rw [show pkI q.step q.alter q.octave = kq from hkq] at kqb
          obtain ⟨kq0, kq1⟩ := kqb
          have Kq := Lib.hid hkq
          rw [hkp, hkq] at hlow
          clear hp hq hkp hkq heq hxpc hypc
          go_upto_region 16 with fail
          have Lp : ∀ xL : Later wr, Calls Try.prog 38 #[.agg #[.int .i64 p.step, .int .i64 p.alter, .int .i64 p.octave]] xL.world fun e w'' => e = .returned (.int .i64 kp) ∧ ∃ z : Later wr, w'' = z.world := fun xL => later_call (pk_val Kp.out _)
          have Lq : ∀ xL : Later wr, Calls Try.prog 38 #[.agg #[.int .i64 q.step, .int .i64 q.alter, .int .i64 q.octave]] xL.world fun e w'' => e = .returned (.int .i64 kq) ∧ ∃ z : Later wr, w'' = z.world := fun xL => later_call (pk_val Kq.out _)
          have lf0 : ∀ xL : Later wr, xL.world.cell? ⟨xb, xo, none⟩ = some (.slice (some ⟨xpb, xpo, none⟩) 4 cx) := fun xL => xL.at (x1)
          have lf1 : ∀ xL : Later wr, xL.world.cell? ⟨yb, yo, none⟩ = some (.slice (some ⟨ypb, ypo, none⟩) 4 cy) := fun xL => xL.at (y1)
          have lf2 : ∀ xL : Later wr, xL.world.cell? ⟨xpb, xpo + k * 3, none⟩ = some (.int .i64 p.step) := fun xL => xL.at (p_0)
          have lf3 : ∀ xL : Later wr, xL.world.cell? ⟨xpb, xpo + k * 3 + 1, none⟩ = some (.int .i64 p.alter) := fun xL => xL.at (p_1)
          have lf4 : ∀ xL : Later wr, xL.world.cell? ⟨xpb, xpo + k * 3 + 2, none⟩ = some (.int .i64 p.octave) := fun xL => xL.at (p_2)
          have lf5 : ∀ xL : Later wr, xL.world.cell? ⟨ypb, ypo + k * 3, none⟩ = some (.int .i64 q.step) := fun xL => xL.at (q_0)
          have lf6 : ∀ xL : Later wr, xL.world.cell? ⟨ypb, ypo + k * 3 + 1, none⟩ = some (.int .i64 q.alter) := fun xL => xL.at (q_1)
          have lf7 : ∀ xL : Later wr, xL.world.cell? ⟨ypb, ypo + k * 3 + 2, none⟩ = some (.int .i64 q.octave) := fun xL => xL.at (q_2)
          refine region_later (w0 := wr) (by kernel_rfl) (by kernel_rfl) (bel_refl _) ?_
          repeat (go_big_quiet_step ((first | (go_at_call 38; with_reducible exact Lp _) | (go_at_call 38; with_reducible exact Lq _))))
          refine wpQuiet_nil ?_
          rintro w' ⟨x, rfl⟩
          obtain ⟨w9, b9⟩ := x
          clear lf0 lf1 lf2 lf3 lf4 lf5 lf6 lf7
          clear Lp Lq
          have hb9 := bel_tr hb b9
          by_cases he : kp = kq
          · have HKE := Lib.hid (show kyP (atPi x k) = kyP (atPi y k) from by rw [HP.out, HQ.out, Kp.out, Kq.out]; exact he)
            subst he
            have hdd : kp - kp = 0 := by omega
            rw [hdd]
            go_wp2
            go_roundw
            case rel => exact ⟨k + 1, by omega, by omega, by go_num, fun j h1 h2 => by
              rcases (show j < k ∨ j = k from by omega) with h | rfl
              · exact HEQ.out j h1 h
              · exact HKE.out, hb9⟩
            case measure => simp [intOf]; omega
          · obtain ⟨d, hd⟩ : ∃ d, kp - kq = d := ⟨_, rfl⟩
            have hd0 : 0 < d := by omega
            have hdn : (d != 0) = true := bne_iff_ne.2 (by omega)
            have hdd : decide (0 < d) = true := decide_eq_true hd0
            rw [hd]
            clear hd he
            have bwF := bel_tr bw hb9
            go_wp2
            go_ret
            exact ⟨rfl, bwF⟩
        · obtain rfl : k = 4 := by omega
          rw [show ((4 : Nat) : Int) = 4 from rfl]
          have bwF := bel_tr bw hb
          go_wp2
          go_ret
          exact ⟨rfl, bwF⟩
  · have hl2 : (1048576 : Int) < (len : Int) := by omega
    go_enter Try.func9, Try.ntmps9
    go_wp2
    go_ret
    exact ⟨rfl, bel_refl _⟩

end Go.Proofs.Ytpjakgnghpapmaa.FnBassFirst
