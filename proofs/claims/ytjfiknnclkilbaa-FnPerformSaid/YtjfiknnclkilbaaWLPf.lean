/- The walk of the law FnPerform: for every input it returns true and turns nothing that was there. -/
import Derived.Test.YtjfiknnclkilbaaPfP
import Derived.Test.YtjfiknnclkilbaaDrPf
import Derived.Test.YtjfiknnclkilbaaPrf
import Derived.Test.YtjfiknnclkilbaaSPrf
import Derived.Test.YtjfiknnclkilbaaTk
import Derived.Test.YtjfiknnclkilbaaEv
import Derived.Test.YtjfiknnclkilbaaAlive
namespace Go.Proofs.Ytjfiknnclkilbaa.FnPerform
open Go.RowKit

set_option maxHeartbeats 4000000 in
theorem walk (A : Option Addr) (len cap : Nat) (w : World) (h : Cod w A len cap) :
    Calls Try.prog 11 #[.slice A len cap] w fun e w' => e = .returned (.bool true) ∧ Below w.heap.size w w' := by
  by_cases hl : len ≤ 1048576
  · go_enter Try.func11, Try.ntmps11
    go_wp2_with fail
    refine (DrawPerform_any w A len cap h).mono ?_
    rintro e1 w1 ⟨A1, A2, c1, c2, l, T, loud, rfl, ⟨lc, cm, l7⟩, ⟨tc, tm, t4⟩, hr, ht, b1⟩
    unfold maxLen at cm tm
    go_wp2_with fail
    refine (prf_any _ _ _ _ _ _ l T loud _ rfl (by omega) rfl (by omega) hr ht).mono ?_
    rintro e2 w2 ⟨v2, rfl, own2, b2⟩
    have hr := hr.below b2
    have ht := ht.below b2
    go_wp2_with fail
    refine (sprf_any _ _ _ _ _ _ l T loud _ rfl (by omega) rfl (by omega) hr ht).mono ?_
    rintro e3 w3 ⟨v3, rfl, own3, b3⟩
    have hr3 := hr.below b3
    have ht3 := ht.below b3
    have own2 := own_below own2 b3
    have hlo := perL_loud l T loud
    have hall := @perL_all l T loud
    have hlen := perL_len l T loud
    generalize hL : perL l T loud = Lx at *
    clear hL hr ht
    obtain ⟨X2, d2, rfl, xc, xm, x2, _⟩ := own_rowEv own2
    obtain ⟨X3, d3, rfl, yc, ym, x3, _⟩ := own_rowEv own3
    unfold maxLen at xm ym
    have bw : Below w.heap.size w w3 := by repeat (first | (with_reducible assumption) | (exact bel_undr (by with_reducible assumption)) | (with_reducible exact bel_refl _) | (with_reducible refine bel_dr ?_) | (with_reducible refine bel_drN ?_ _) | (with_reducible refine bel_al ?_ _) | (refine bel_set ?_ (by first | (simp; done) | (simp; exact Below.size (by assumption)) | (simp; omega)) _) | (with_reducible refine bel_tr ?_ (by assumption)))
    clear own2 own3 b1 b2 b3
    have HLO := Lib.hid hlo
    have HALL := Lib.hid hall
    clear hlo hall
    go_wp2
    go_loopw [8, 9] (fun s i wr => ∃ k : Nat, k ≤ Lx.length ∧ i = .int .i64 k ∧ s = .int .i64 (dsum T Lx k) ∧ Below w3.heap.size w3 wr) (fun _ i _ => Lx.length - (intOf i).toNat)
    case atStart => exact ⟨0, Nat.zero_le _, rfl, rfl, bel_refl _⟩
    case round =>
      obtain ⟨k, hk, rfl, rfl, hb⟩ := hrel
      by_cases hlt : k < Lx.length
      · obtain ⟨b2, off2, rfl, hb2, hc2⟩ := (x2.below hb) (by omega)
        obtain ⟨b3, off3, rfl, hb3, hc3⟩ := (x3.below hb) (by omega)
        have htr := ht3.below hb
        have hlk := HLO.out k hlt
        have hkl : (k : Int) < (Lx.length : Int) := by omega
        have hk0 : (0 : Int) ≤ (k : Int) := by omega
        have hc2 := hc2 k hlt
        have hc3 := hc3 k hlt
        have hd := dsum_bd T Lx k
        have HD : Hid (dsum T Lx (k + 1) = dsum T Lx k + (tickOfI T (atEv Lx k).off - tickOfI T (atEv Lx k).on)) := by show _ = _; rfl
        generalize dsum T Lx k = D at *
        generalize atEv Lx k = x at hc2 hc3 hlk HD
        obtain ⟨on, off, key, ld⟩ := x
        obtain ⟨p0, p1, p2, p3⟩ := hc2
        obtain ⟨q0, q1, q2, q3⟩ := hc3
        simp only at p0 p1 p2 p3 q0 q1 q2 q3 hlk HD
        subst hlk
        have ta := tick_bd T off
        have tb := tick_bd T on
        obtain ⟨a, ha⟩ : ∃ a, tickOfI T off = a := ⟨_, rfl⟩
        obtain ⟨b, hb'⟩ : ∃ b, tickOfI T on = b := ⟨_, rfl⟩
        rw [ha] at ta HD
        rw [hb'] at tb HD
        have EA := Lib.hid ha
        have EB := Lib.hid hb'
        clear ha hb'
        have i1 := IntWalk.i64_in (D + a) (by omega)
        have i2 := IntWalk.i64_in (D + a - b) (by omega)
        have hTm : T.length ≤ 2000000 := by omega
        have hkc : (k : Int) < (d2 : Int) := by omega
        have hkd : (k : Int) < (d3 : Int) := by omega
        go_wp2_with fail
        have lf0 : ∀ xL : Later wr, xL.world.cell? ⟨b2, off2 + k * 4, none⟩ = some (.int .i64 on) := fun xL => xL.at (p0)
        have lf1 : ∀ xL : Later wr, xL.world.cell? ⟨b2, off2 + k * 4 + 1, none⟩ = some (.int .i64 off) := fun xL => xL.at (p1)
        have lf2 : ∀ xL : Later wr, xL.world.cell? ⟨b2, off2 + k * 4 + 2, none⟩ = some (.int .i64 key) := fun xL => xL.at (p2)
        have lf3 : ∀ xL : Later wr, xL.world.cell? ⟨b2, off2 + k * 4 + 3, none⟩ = some (.int .i64 ld) := fun xL => xL.at (p3)
        have lf4 : ∀ xL : Later wr, xL.world.cell? ⟨b3, off3 + k * 4, none⟩ = some (.int .i64 on) := fun xL => xL.at (q0)
        have lf5 : ∀ xL : Later wr, xL.world.cell? ⟨b3, off3 + k * 4 + 1, none⟩ = some (.int .i64 off) := fun xL => xL.at (q1)
        have lf6 : ∀ xL : Later wr, xL.world.cell? ⟨b3, off3 + k * 4 + 2, none⟩ = some (.int .i64 key) := fun xL => xL.at (q2)
        have lf7 : ∀ xL : Later wr, xL.world.cell? ⟨b3, off3 + k * 4 + 3, none⟩ = some (.int .i64 ld) := fun xL => xL.at (q3)
        refine region_later (w0 := wr) (by kernel_rfl) (by kernel_rfl) (bel_refl _) ?_
        repeat (go_big_quiet_step ((fail)))
        refine wpQuiet_nil ?_
        rintro w' ⟨x, rfl⟩
        obtain ⟨w5, b5⟩ := x
        clear lf0 lf1 lf2 lf3 lf4 lf5 lf6 lf7
        have htr := htr.below b5
        have p0 := keep_tr p0 b5
        have p1 := keep_tr p1 b5
        have p2 := keep_tr p2 b5
        have p3 := keep_tr p3 b5
        have hb5 : Below w3.heap.size w3 w5 := by repeat (first | (with_reducible assumption) | (exact bel_undr (by with_reducible assumption)) | (with_reducible exact bel_refl _) | (with_reducible refine bel_dr ?_) | (with_reducible refine bel_drN ?_ _) | (with_reducible refine bel_al ?_ _) | (refine bel_set ?_ (by first | (simp; done) | (simp; exact Below.size (by assumption)) | (simp; omega)) _) | (with_reducible refine bel_tr ?_ (by assumption)))
        go_wp2_with fail
        have LA : ∀ xL : Later w5, Calls Try.prog 27 #[.slice A2 T.length c2, .int .i64 off] xL.world fun e w'' => e = .returned (.int .i64 a) ∧ ∃ y : Later w5, w'' = y.world := fun xL => later_call (tk_val EA.out _ _ _ _ rfl hTm (htr.below xL.bel))
        have LB : ∀ xL : Later w5, Calls Try.prog 27 #[.slice A2 T.length c2, .int .i64 on] xL.world fun e w'' => e = .returned (.int .i64 b) ∧ ∃ y : Later w5, w'' = y.world := fun xL => later_call (tk_val EB.out _ _ _ _ rfl hTm (htr.below xL.bel))
        have lf0 : ∀ xL : Later w5, xL.world.cell? ⟨b2, off2 + k * 4, none⟩ = some (.int .i64 on) := fun xL => xL.at (p0)
        have lf1 : ∀ xL : Later w5, xL.world.cell? ⟨b2, off2 + k * 4 + 1, none⟩ = some (.int .i64 off) := fun xL => xL.at (p1)
        refine region_later (w0 := w5) (by kernel_rfl) (by kernel_rfl) (bel_refl _) ?_
        repeat (go_big_quiet_step ((first | (go_at_call_of 27 (Value.int IntKind.i64 off); exact LA _) | (go_at_call_of 27 (Value.int IntKind.i64 on); exact LB _))))
        refine wpQuiet_nil ?_
        rintro w' ⟨x, rfl⟩
        obtain ⟨w6, b6⟩ := x
        clear lf0 lf1
        go_wp2
        go_roundw
        case rel => exact ⟨k + 1, by omega, by go_num, by rw [HD.out, Int.add_sub_assoc], by repeat (first | (with_reducible assumption) | (exact bel_undr (by with_reducible assumption)) | (with_reducible exact bel_refl _) | (with_reducible refine bel_dr ?_) | (with_reducible refine bel_drN ?_ _) | (with_reducible refine bel_al ?_ _) | (refine bel_set ?_ (by first | (simp; done) | (simp; exact Below.size (by assumption)) | (simp; omega)) _) | (with_reducible refine bel_tr ?_ (by assumption)))⟩
        case measure => simp [intOf]; omega
      · obtain rfl : k = Lx.length := by omega
        rcases Nat.eq_zero_or_pos Lx.length with h0 | h0
        · have HZ := Lib.hid h0
          have hz1 : ((Lx.length : Int) == 0) = true := by rw [beq_iff_eq]; omega
          clear h0
          go_wp2_with fail
          refine (alive_any _).mono ?_
          rintro e7 w7 ⟨rfl, b7⟩
          go_wp2
          go_ret
          exact ⟨rfl, by repeat (first | (with_reducible assumption) | (exact bel_undr (by with_reducible assumption)) | (with_reducible exact bel_refl _) | (with_reducible refine bel_dr ?_) | (with_reducible refine bel_drN ?_ _) | (with_reducible refine bel_al ?_ _) | (refine bel_set ?_ (by first | (simp; done) | (simp; exact Below.size (by assumption)) | (simp; omega)) _) | (with_reducible refine bel_tr ?_ (by assumption)))⟩
        · obtain ⟨hf, hev, hds⟩ := HALL.out h0
          rw [hds]
          have h60 := hf.len
          have HEV := Lib.hid hev
          have hz1 : ((Lx.length : Int) == 0) = false := by rw [beq_eq_false_iff_ne]; omega
          clear hev hds
          go_wp2
          go_loopw [10, 11] (fun s i wx => ∃ k : Nat, k ≤ l.length ∧ i = .int .i64 k ∧ s = .int .i64 (nsum l k) ∧ Below w3.heap.size w3 wx) (fun _ i _ => l.length - (intOf i).toNat)
          case atStart => exact ⟨0, Nat.zero_le _, rfl, rfl, hb⟩
          case round =>
            obtain ⟨k, hk, rfl, rfl, hbx⟩ := hrel
            by_cases hlt : k < l.length
            · obtain ⟨b4, off4, rfl, hb4, hcc⟩ := (hr3.below hbx) (by omega)
              have hc4 := hcc k hlt
              clear hcc
              have hn := nsum_bd hf k (by omega)
              have htk := hf.tick k hlt
              have hkl : (k : Int) < (l.length : Int) := by omega
              have hk0 : (0 : Int) ≤ (k : Int) := by omega
              have HN : Hid (nsum l (k + 1) = nsum l k + (if (atNt l k).rest = true then 0 else (atNt l k).ticks)) := by show _ = _; rfl
              generalize nsum l k = N at hn HN ⊢
              generalize atNt l k = x at hc4 htk HN
              obtain ⟨r, s, a, o, t, d⟩ := x
              obtain ⟨p0, p1, p2, p3, p4, p5⟩ := hc4
              simp only at p0 p1 p2 p3 p4 p5 htk HN
              have i1 := IntWalk.i64_in (N + t) (by omega)
              cases r
              · go_wp2
                go_roundw
                case rel => exact ⟨k + 1, by omega, by go_num, by rw [HN.out, if_neg (by simp)], by repeat (first | (with_reducible assumption) | (exact bel_undr (by with_reducible assumption)) | (with_reducible exact bel_refl _) | (with_reducible refine bel_dr ?_) | (with_reducible refine bel_drN ?_ _) | (with_reducible refine bel_al ?_ _) | (refine bel_set ?_ (by first | (simp; done) | (simp; exact Below.size (by assumption)) | (simp; omega)) _) | (with_reducible refine bel_tr ?_ (by assumption)))⟩
                case measure => simp [intOf]; omega
              · go_wp2
                go_roundw
                case rel => exact ⟨k + 1, by omega, by go_num, by rw [HN.out]; simp, by repeat (first | (with_reducible assumption) | (exact bel_undr (by with_reducible assumption)) | (with_reducible exact bel_refl _) | (with_reducible refine bel_dr ?_) | (with_reducible refine bel_drN ?_ _) | (with_reducible refine bel_al ?_ _) | (refine bel_set ?_ (by first | (simp; done) | (simp; exact Below.size (by assumption)) | (simp; omega)) _) | (with_reducible refine bel_tr ?_ (by assumption)))⟩
                case measure => simp [intOf]; omega
            · obtain rfl : k = l.length := by omega
              have hlx : (Lx.length : Int) ≤ (l.length : Int) := by omega
              generalize nsum l l.length = N at *
              go_wp2_with fail
              refine (ev_any _ _ _ Lx _ rfl (by omega) (x2.below hbx)).mono ?_
              rintro e8 w8 ⟨rfl, b8⟩
              rw [HEV.out]
              go_wp2
              go_ret
              exact ⟨rfl, by repeat (first | (with_reducible assumption) | (exact bel_undr (by with_reducible assumption)) | (with_reducible exact bel_refl _) | (with_reducible refine bel_dr ?_) | (with_reducible refine bel_drN ?_ _) | (with_reducible refine bel_al ?_ _) | (refine bel_set ?_ (by first | (simp; done) | (simp; exact Below.size (by assumption)) | (simp; omega)) _) | (with_reducible refine bel_tr ?_ (by assumption)))⟩
  · have hl2 : (1048576 : Int) < (len : Int) := by omega
    go_enter Try.func11, Try.ntmps11
    go_wp2
    go_ret
    exact ⟨rfl, bel_refl _⟩

end Go.Proofs.Ytjfiknnclkilbaa.FnPerform
