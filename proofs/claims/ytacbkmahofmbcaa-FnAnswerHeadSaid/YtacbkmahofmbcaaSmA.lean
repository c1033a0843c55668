/- Two slices of notes, compared by the laws, whatever they are. -/
import Derived.Test.YtacbkmahofmbcaaRowNt
import Derived.Test.YtacbkmahofmbcaaLater
import Derived.Test.YtacbkmahofmbcaaAnsP
import Derived.Test.YtacbkmahofmbcaaHidn
import Derived.Test.YtacbkmahofmbcaaWin
namespace Go.Proofs.Ytacbkmahofmbcaa
set_option linter.unusedSimpArgs false
set_option linter.unusedVariables false
open Go.RowKit

set_option maxRecDepth 20000 in
set_option maxHeartbeats 2000000 in
theorem sma_any (A A' : Option Addr) (n n' c c' : Nat) (l l' : List Nt) (w : World) (hn : l.length = n) (hn' : l'.length = n') (hm : n ≤ 2000000) (hm' : n' ≤ 2000000) (h : RowNt w w.heap.size A l) (h' : RowNt w w.heap.size A' l') :
    Calls Try.prog 9 #[.slice A n c, .slice A' n' c'] w fun e w' => e = .returned (.bool (decide (l = l'))) ∧ Below w.heap.size w w' := by
  by_cases hl : l.length = l'.length
  · have hnn : n = n' := by omega
    clear hn'
    subst hnn hn
    clear hm'
    have HL := Lib.hid hl
    clear hl
    go_enter Try.func9, Try.ntmps9
    go_wp2
    go_loopw [5] (fun i wr => ∃ k : Nat, k ≤ l.length ∧ i = .int .i64 k ∧ Below w.heap.size w wr ∧ Hid (∀ j, j < k → atNt l j = atNt l' j)) (fun i _ => l.length - (intOf i).toNat)
    case atStart => exact ⟨0, Nat.zero_le _, rfl, bel_refl _, fun j hj => absurd hj (by omega)⟩
    case round =>
      obtain ⟨k, hk, rfl, hb, HK⟩ := hrel
      by_cases hlt : k < l.length
      · obtain ⟨b, off, rfl, hlb, hc⟩ := (h.below hb) (by omega)
        obtain ⟨b', off', rfl, hlb', hc'⟩ := (h'.below hb) (by have := HL.out; omega)
        have hck := hc k hlt
        have hck' := hc' k (by have := HL.out; omega)
        clear hc hc' h h'
        have hki : (k : Int) < (l.length : Int) := by omega
        have hk0 : (0 : Int) ≤ (k : Int) := by omega
        by_cases hx : atNt l k = atNt l' k
        · have HX := Lib.hid hx
          rw [← hx] at hck'
          clear hx
          generalize atNt l k = x at hck hck'
          obtain ⟨r, s, a, o, t, d⟩ := x
          obtain ⟨p0, p1, p2, p3, p4, p5⟩ := hck
          obtain ⟨q0, q1, q2, q3, q4, q5⟩ := hck'
          simp only at p0 p1 p2 p3 p4 p5 q0 q1 q2 q3 q4 q5
          go_wp2_with fail
          have lf0 : ∀ xL : Later wr, xL.world.cell? ⟨b, off + k * 6, none⟩ = some (.bool r) := fun xL => xL.at (p0)
          have lf1 : ∀ xL : Later wr, xL.world.cell? ⟨b, off + k * 6 + 1, none⟩ = some (.int .i64 s) := fun xL => xL.at (p1)
          have lf2 : ∀ xL : Later wr, xL.world.cell? ⟨b, off + k * 6 + 2, none⟩ = some (.int .i64 a) := fun xL => xL.at (p2)
          have lf3 : ∀ xL : Later wr, xL.world.cell? ⟨b, off + k * 6 + 3, none⟩ = some (.int .i64 o) := fun xL => xL.at (p3)
          have lf4 : ∀ xL : Later wr, xL.world.cell? ⟨b, off + k * 6 + 4, none⟩ = some (.int .i64 t) := fun xL => xL.at (p4)
          have lf5 : ∀ xL : Later wr, xL.world.cell? ⟨b, off + k * 6 + 5, none⟩ = some (.bool d) := fun xL => xL.at (p5)
          have lf6 : ∀ xL : Later wr, xL.world.cell? ⟨b', off' + k * 6, none⟩ = some (.bool r) := fun xL => xL.at (q0)
          have lf7 : ∀ xL : Later wr, xL.world.cell? ⟨b', off' + k * 6 + 1, none⟩ = some (.int .i64 s) := fun xL => xL.at (q1)
          have lf8 : ∀ xL : Later wr, xL.world.cell? ⟨b', off' + k * 6 + 2, none⟩ = some (.int .i64 a) := fun xL => xL.at (q2)
          have lf9 : ∀ xL : Later wr, xL.world.cell? ⟨b', off' + k * 6 + 3, none⟩ = some (.int .i64 o) := fun xL => xL.at (q3)
          have lf10 : ∀ xL : Later wr, xL.world.cell? ⟨b', off' + k * 6 + 4, none⟩ = some (.int .i64 t) := fun xL => xL.at (q4)
          have lf11 : ∀ xL : Later wr, xL.world.cell? ⟨b', off' + k * 6 + 5, none⟩ = some (.bool d) := fun xL => xL.at (q5)
          refine region_later (w0 := wr) (by kernel_rfl) (by kernel_rfl) (bel_refl _) ?_
          repeat (go_big_quiet_step ((fail)))
          refine wpQuiet_nil ?_
          rintro w' ⟨x, rfl⟩
          obtain ⟨w2, b2⟩ := x
          clear lf0 lf1 lf2 lf3 lf4 lf5 lf6 lf7 lf8 lf9 lf10 lf11
          go_wp2
          go_roundw
          case rel => exact ⟨k + 1, by omega, by go_num, by repeat (first | (with_reducible assumption) | (exact bel_undr (by with_reducible assumption)) | (with_reducible exact bel_refl _) | (with_reducible refine bel_dr ?_) | (with_reducible refine bel_drN ?_ _) | (with_reducible refine bel_al ?_ _) | (refine bel_set ?_ (by first | (simp; done) | (simp; exact Below.size (by assumption)) | (simp; omega)) _) | (with_reducible refine bel_tr ?_ (by assumption))), hid_snoc HK HX.out⟩
          case measure => simp [intOf]; omega
        · have HE := Lib.hid (show ¬ l = l' from fun e => hx (by rw [e]))
          generalize atNt l k = x at hck hx
          generalize atNt l' k = y at hck' hx
          obtain ⟨r, s, a, o, t, d⟩ := x
          obtain ⟨r1, s1, a1, o1, t1, d1⟩ := y
          obtain ⟨p0, p1, p2, p3, p4, p5⟩ := hck
          obtain ⟨q0, q1, q2, q3, q4, q5⟩ := hck'
          simp only at p0 p1 p2 p3 p4 p5 q0 q1 q2 q3 q4 q5
          by_cases c0 : r = r1
          · subst c0
            by_cases c1 : s = s1
            · subst c1
              by_cases c2 : a = a1
              · subst c2
                by_cases c3 : o = o1
                · subst c3
                  by_cases c4 : t = t1
                  · subst c4
                    have c5 : ¬ d = d1 := fun e => hx (by rw [e])
                    have e5 : (d == d1) = false := by simpa using c5
                    clear hx
                    go_wp2_with fail
                    have lf0 : ∀ xL : Later wr, xL.world.cell? ⟨b, off + k * 6, none⟩ = some (.bool r) := fun xL => xL.at (p0)
                    have lf1 : ∀ xL : Later wr, xL.world.cell? ⟨b, off + k * 6 + 1, none⟩ = some (.int .i64 s) := fun xL => xL.at (p1)
                    have lf2 : ∀ xL : Later wr, xL.world.cell? ⟨b, off + k * 6 + 2, none⟩ = some (.int .i64 a) := fun xL => xL.at (p2)
                    have lf3 : ∀ xL : Later wr, xL.world.cell? ⟨b, off + k * 6 + 3, none⟩ = some (.int .i64 o) := fun xL => xL.at (p3)
                    have lf4 : ∀ xL : Later wr, xL.world.cell? ⟨b, off + k * 6 + 4, none⟩ = some (.int .i64 t) := fun xL => xL.at (p4)
                    have lf5 : ∀ xL : Later wr, xL.world.cell? ⟨b, off + k * 6 + 5, none⟩ = some (.bool d) := fun xL => xL.at (p5)
                    have lf6 : ∀ xL : Later wr, xL.world.cell? ⟨b', off' + k * 6, none⟩ = some (.bool r) := fun xL => xL.at (q0)
                    have lf7 : ∀ xL : Later wr, xL.world.cell? ⟨b', off' + k * 6 + 1, none⟩ = some (.int .i64 s) := fun xL => xL.at (q1)
                    have lf8 : ∀ xL : Later wr, xL.world.cell? ⟨b', off' + k * 6 + 2, none⟩ = some (.int .i64 a) := fun xL => xL.at (q2)
                    have lf9 : ∀ xL : Later wr, xL.world.cell? ⟨b', off' + k * 6 + 3, none⟩ = some (.int .i64 o) := fun xL => xL.at (q3)
                    have lf10 : ∀ xL : Later wr, xL.world.cell? ⟨b', off' + k * 6 + 4, none⟩ = some (.int .i64 t) := fun xL => xL.at (q4)
                    have lf11 : ∀ xL : Later wr, xL.world.cell? ⟨b', off' + k * 6 + 5, none⟩ = some (.bool d1) := fun xL => xL.at (q5)
                    refine region_later (w0 := wr) (by kernel_rfl) (by kernel_rfl) (bel_refl _) ?_
                    repeat (go_big_quiet_step ((fail)))
                    refine wpQuiet_nil ?_
                    rintro w' ⟨x, rfl⟩
                    obtain ⟨w2, b2⟩ := x
                    clear lf0 lf1 lf2 lf3 lf4 lf5 lf6 lf7 lf8 lf9 lf10 lf11
                    go_wp2
                    go_ret
                    exact ⟨ret_bool' (a := false) (decide_eq_false HE.out).symm, by repeat (first | (with_reducible assumption) | (exact bel_undr (by with_reducible assumption)) | (with_reducible exact bel_refl _) | (with_reducible refine bel_dr ?_) | (with_reducible refine bel_drN ?_ _) | (with_reducible refine bel_al ?_ _) | (refine bel_set ?_ (by first | (simp; done) | (simp; exact Below.size (by assumption)) | (simp; omega)) _) | (with_reducible refine bel_tr ?_ (by assumption)))⟩
                  · have e4 : (t == t1) = false := by simpa using c4
                    clear hx
                    go_wp2_with fail
                    have lf0 : ∀ xL : Later wr, xL.world.cell? ⟨b, off + k * 6, none⟩ = some (.bool r) := fun xL => xL.at (p0)
                    have lf1 : ∀ xL : Later wr, xL.world.cell? ⟨b, off + k * 6 + 1, none⟩ = some (.int .i64 s) := fun xL => xL.at (p1)
                    have lf2 : ∀ xL : Later wr, xL.world.cell? ⟨b, off + k * 6 + 2, none⟩ = some (.int .i64 a) := fun xL => xL.at (p2)
                    have lf3 : ∀ xL : Later wr, xL.world.cell? ⟨b, off + k * 6 + 3, none⟩ = some (.int .i64 o) := fun xL => xL.at (p3)
                    have lf4 : ∀ xL : Later wr, xL.world.cell? ⟨b, off + k * 6 + 4, none⟩ = some (.int .i64 t) := fun xL => xL.at (p4)
                    have lf5 : ∀ xL : Later wr, xL.world.cell? ⟨b, off + k * 6 + 5, none⟩ = some (.bool d) := fun xL => xL.at (p5)
                    have lf6 : ∀ xL : Later wr, xL.world.cell? ⟨b', off' + k * 6, none⟩ = some (.bool r) := fun xL => xL.at (q0)
                    have lf7 : ∀ xL : Later wr, xL.world.cell? ⟨b', off' + k * 6 + 1, none⟩ = some (.int .i64 s) := fun xL => xL.at (q1)
                    have lf8 : ∀ xL : Later wr, xL.world.cell? ⟨b', off' + k * 6 + 2, none⟩ = some (.int .i64 a) := fun xL => xL.at (q2)
                    have lf9 : ∀ xL : Later wr, xL.world.cell? ⟨b', off' + k * 6 + 3, none⟩ = some (.int .i64 o) := fun xL => xL.at (q3)
                    have lf10 : ∀ xL : Later wr, xL.world.cell? ⟨b', off' + k * 6 + 4, none⟩ = some (.int .i64 t1) := fun xL => xL.at (q4)
                    have lf11 : ∀ xL : Later wr, xL.world.cell? ⟨b', off' + k * 6 + 5, none⟩ = some (.bool d1) := fun xL => xL.at (q5)
                    refine region_later (w0 := wr) (by kernel_rfl) (by kernel_rfl) (bel_refl _) ?_
                    repeat (go_big_quiet_step ((fail)))
                    refine wpQuiet_nil ?_
                    rintro w' ⟨x, rfl⟩
                    obtain ⟨w2, b2⟩ := x
                    clear lf0 lf1 lf2 lf3 lf4 lf5 lf6 lf7 lf8 lf9 lf10 lf11
                    go_wp2
                    go_ret
                    exact ⟨ret_bool' (a := false) (decide_eq_false HE.out).symm, by repeat (first | (with_reducible assumption) | (exact bel_undr (by with_reducible assumption)) | (with_reducible exact bel_refl _) | (with_reducible refine bel_dr ?_) | (with_reducible refine bel_drN ?_ _) | (with_reducible refine bel_al ?_ _) | (refine bel_set ?_ (by first | (simp; done) | (simp; exact Below.size (by assumption)) | (simp; omega)) _) | (with_reducible refine bel_tr ?_ (by assumption)))⟩
                · have e3 : (o == o1) = false := by simpa using c3
                  clear hx
                  go_wp2_with fail
                  have lf0 : ∀ xL : Later wr, xL.world.cell? ⟨b, off + k * 6, none⟩ = some (.bool r) := fun xL => xL.at (p0)
                  have lf1 : ∀ xL : Later wr, xL.world.cell? ⟨b, off + k * 6 + 1, none⟩ = some (.int .i64 s) := fun xL => xL.at (p1)
                  have lf2 : ∀ xL : Later wr, xL.world.cell? ⟨b, off + k * 6 + 2, none⟩ = some (.int .i64 a) := fun xL => xL.at (p2)
                  have lf3 : ∀ xL : Later wr, xL.world.cell? ⟨b, off + k * 6 + 3, none⟩ = some (.int .i64 o) := fun xL => xL.at (p3)
                  have lf4 : ∀ xL : Later wr, xL.world.cell? ⟨b, off + k * 6 + 4, none⟩ = some (.int .i64 t) := fun xL => xL.at (p4)
                  have lf5 : ∀ xL : Later wr, xL.world.cell? ⟨b, off + k * 6 + 5, none⟩ = some (.bool d) := fun xL => xL.at (p5)
                  have lf6 : ∀ xL : Later wr, xL.world.cell? ⟨b', off' + k * 6, none⟩ = some (.bool r) := fun xL => xL.at (q0)
                  have lf7 : ∀ xL : Later wr, xL.world.cell? ⟨b', off' + k * 6 + 1, none⟩ = some (.int .i64 s) := fun xL => xL.at (q1)
                  have lf8 : ∀ xL : Later wr, xL.world.cell? ⟨b', off' + k * 6 + 2, none⟩ = some (.int .i64 a) := fun xL => xL.at (q2)
                  have lf9 : ∀ xL : Later wr, xL.world.cell? ⟨b', off' + k * 6 + 3, none⟩ = some (.int .i64 o1) := fun xL => xL.at (q3)
                  have lf10 : ∀ xL : Later wr, xL.world.cell? ⟨b', off' + k * 6 + 4, none⟩ = some (.int .i64 t1) := fun xL => xL.at (q4)
                  have lf11 : ∀ xL : Later wr, xL.world.cell? ⟨b', off' + k * 6 + 5, none⟩ = some (.bool d1) := fun xL => xL.at (q5)
                  refine region_later (w0 := wr) (by kernel_rfl) (by kernel_rfl) (bel_refl _) ?_
                  repeat (go_big_quiet_step ((fail)))
                  refine wpQuiet_nil ?_
                  rintro w' ⟨x, rfl⟩
                  obtain ⟨w2, b2⟩ := x
                  clear lf0 lf1 lf2 lf3 lf4 lf5 lf6 lf7 lf8 lf9 lf10 lf11
                  go_wp2
                  go_ret
                  exact ⟨ret_bool' (a := false) (decide_eq_false HE.out).symm, by repeat (first | (with_reducible assumption) | (exact bel_undr (by with_reducible assumption)) | (with_reducible exact bel_refl _) | (with_reducible refine bel_dr ?_) | (with_reducible refine bel_drN ?_ _) | (with_reducible refine bel_al ?_ _) | (refine bel_set ?_ (by first | (simp; done) | (simp; exact Below.size (by assumption)) | (simp; omega)) _) | (with_reducible refine bel_tr ?_ (by assumption)))⟩
              · have e2 : (a == a1) = false := by simpa using c2
                clear hx
                go_wp2_with fail
                have lf0 : ∀ xL : Later wr, xL.world.cell? ⟨b, off + k * 6, none⟩ = some (.bool r) := fun xL => xL.at (p0)
                have lf1 : ∀ xL : Later wr, xL.world.cell? ⟨b, off + k * 6 + 1, none⟩ = some (.int .i64 s) := fun xL => xL.at (p1)
                have lf2 : ∀ xL : Later wr, xL.world.cell? ⟨b, off + k * 6 + 2, none⟩ = some (.int .i64 a) := fun xL => xL.at (p2)
                have lf3 : ∀ xL : Later wr, xL.world.cell? ⟨b, off + k * 6 + 3, none⟩ = some (.int .i64 o) := fun xL => xL.at (p3)
                have lf4 : ∀ xL : Later wr, xL.world.cell? ⟨b, off + k * 6 + 4, none⟩ = some (.int .i64 t) := fun xL => xL.at (p4)
                have lf5 : ∀ xL : Later wr, xL.world.cell? ⟨b, off + k * 6 + 5, none⟩ = some (.bool d) := fun xL => xL.at (p5)
                have lf6 : ∀ xL : Later wr, xL.world.cell? ⟨b', off' + k * 6, none⟩ = some (.bool r) := fun xL => xL.at (q0)
                have lf7 : ∀ xL : Later wr, xL.world.cell? ⟨b', off' + k * 6 + 1, none⟩ = some (.int .i64 s) := fun xL => xL.at (q1)
                have lf8 : ∀ xL : Later wr, xL.world.cell? ⟨b', off' + k * 6 + 2, none⟩ = some (.int .i64 a1) := fun xL => xL.at (q2)
                have lf9 : ∀ xL : Later wr, xL.world.cell? ⟨b', off' + k * 6 + 3, none⟩ = some (.int .i64 o1) := fun xL => xL.at (q3)
                have lf10 : ∀ xL : Later wr, xL.world.cell? ⟨b', off' + k * 6 + 4, none⟩ = some (.int .i64 t1) := fun xL => xL.at (q4)
                have lf11 : ∀ xL : Later wr, xL.world.cell? ⟨b', off' + k * 6 + 5, none⟩ = some (.bool d1) := fun xL => xL.at (q5)
                refine region_later (w0 := wr) (by kernel_rfl) (by kernel_rfl) (bel_refl _) ?_
                repeat (go_big_quiet_step ((fail)))
                refine wpQuiet_nil ?_
                rintro w' ⟨x, rfl⟩
                obtain ⟨w2, b2⟩ := x
                clear lf0 lf1 lf2 lf3 lf4 lf5 lf6 lf7 lf8 lf9 lf10 lf11
                go_wp2
                go_ret
                exact ⟨ret_bool' (a := false) (decide_eq_false HE.out).symm, by repeat (first | (with_reducible assumption) | (exact bel_undr (by with_reducible assumption)) | (with_reducible exact bel_refl _) | (with_reducible refine bel_dr ?_) | (with_reducible refine bel_drN ?_ _) | (with_reducible refine bel_al ?_ _) | (refine bel_set ?_ (by first | (simp; done) | (simp; exact Below.size (by assumption)) | (simp; omega)) _) | (with_reducible refine bel_tr ?_ (by assumption)))⟩
            · have e1 : (s == s1) = false := by simpa using c1
              clear hx
              go_wp2_with fail
              have lf0 : ∀ xL : Later wr, xL.world.cell? ⟨b, off + k * 6, none⟩ = some (.bool r) := fun xL => xL.at (p0)
              have lf1 : ∀ xL : Later wr, xL.world.cell? ⟨b, off + k * 6 + 1, none⟩ = some (.int .i64 s) := fun xL => xL.at (p1)
              have lf2 : ∀ xL : Later wr, xL.world.cell? ⟨b, off + k * 6 + 2, none⟩ = some (.int .i64 a) := fun xL => xL.at (p2)
              have lf3 : ∀ xL : Later wr, xL.world.cell? ⟨b, off + k * 6 + 3, none⟩ = some (.int .i64 o) := fun xL => xL.at (p3)
              have lf4 : ∀ xL : Later wr, xL.world.cell? ⟨b, off + k * 6 + 4, none⟩ = some (.int .i64 t) := fun xL => xL.at (p4)
              have lf5 : ∀ xL : Later wr, xL.world.cell? ⟨b, off + k * 6 + 5, none⟩ = some (.bool d) := fun xL => xL.at (p5)
              have lf6 : ∀ xL : Later wr, xL.world.cell? ⟨b', off' + k * 6, none⟩ = some (.bool r) := fun xL => xL.at (q0)
              have lf7 : ∀ xL : Later wr, xL.world.cell? ⟨b', off' + k * 6 + 1, none⟩ = some (.int .i64 s1) := fun xL => xL.at (q1)
              have lf8 : ∀ xL : Later wr, xL.world.cell? ⟨b', off' + k * 6 + 2, none⟩ = some (.int .i64 a1) := fun xL => xL.at (q2)
              have lf9 : ∀ xL : Later wr, xL.world.cell? ⟨b', off' + k * 6 + 3, none⟩ = some (.int .i64 o1) := fun xL => xL.at (q3)
              have lf10 : ∀ xL : Later wr, xL.world.cell? ⟨b', off' + k * 6 + 4, none⟩ = some (.int .i64 t1) := fun xL => xL.at (q4)
              have lf11 : ∀ xL : Later wr, xL.world.cell? ⟨b', off' + k * 6 + 5, none⟩ = some (.bool d1) := fun xL => xL.at (q5)
              refine region_later (w0 := wr) (by kernel_rfl) (by kernel_rfl) (bel_refl _) ?_
              repeat (go_big_quiet_step ((fail)))
              refine wpQuiet_nil ?_
              rintro w' ⟨x, rfl⟩
              obtain ⟨w2, b2⟩ := x
              clear lf0 lf1 lf2 lf3 lf4 lf5 lf6 lf7 lf8 lf9 lf10 lf11
              go_wp2
              go_ret
              exact ⟨ret_bool' (a := false) (decide_eq_false HE.out).symm, by repeat (first | (with_reducible assumption) | (exact bel_undr (by with_reducible assumption)) | (with_reducible exact bel_refl _) | (with_reducible refine bel_dr ?_) | (with_reducible refine bel_drN ?_ _) | (with_reducible refine bel_al ?_ _) | (refine bel_set ?_ (by first | (simp; done) | (simp; exact Below.size (by assumption)) | (simp; omega)) _) | (with_reducible refine bel_tr ?_ (by assumption)))⟩
          · have e0 : (r == r1) = false := by simpa using c0
            clear hx
            go_wp2_with fail
            have lf0 : ∀ xL : Later wr, xL.world.cell? ⟨b, off + k * 6, none⟩ = some (.bool r) := fun xL => xL.at (p0)
            have lf1 : ∀ xL : Later wr, xL.world.cell? ⟨b, off + k * 6 + 1, none⟩ = some (.int .i64 s) := fun xL => xL.at (p1)
            have lf2 : ∀ xL : Later wr, xL.world.cell? ⟨b, off + k * 6 + 2, none⟩ = some (.int .i64 a) := fun xL => xL.at (p2)
            have lf3 : ∀ xL : Later wr, xL.world.cell? ⟨b, off + k * 6 + 3, none⟩ = some (.int .i64 o) := fun xL => xL.at (p3)
            have lf4 : ∀ xL : Later wr, xL.world.cell? ⟨b, off + k * 6 + 4, none⟩ = some (.int .i64 t) := fun xL => xL.at (p4)
            have lf5 : ∀ xL : Later wr, xL.world.cell? ⟨b, off + k * 6 + 5, none⟩ = some (.bool d) := fun xL => xL.at (p5)
            have lf6 : ∀ xL : Later wr, xL.world.cell? ⟨b', off' + k * 6, none⟩ = some (.bool r1) := fun xL => xL.at (q0)
            have lf7 : ∀ xL : Later wr, xL.world.cell? ⟨b', off' + k * 6 + 1, none⟩ = some (.int .i64 s1) := fun xL => xL.at (q1)
            have lf8 : ∀ xL : Later wr, xL.world.cell? ⟨b', off' + k * 6 + 2, none⟩ = some (.int .i64 a1) := fun xL => xL.at (q2)
            have lf9 : ∀ xL : Later wr, xL.world.cell? ⟨b', off' + k * 6 + 3, none⟩ = some (.int .i64 o1) := fun xL => xL.at (q3)
            have lf10 : ∀ xL : Later wr, xL.world.cell? ⟨b', off' + k * 6 + 4, none⟩ = some (.int .i64 t1) := fun xL => xL.at (q4)
            have lf11 : ∀ xL : Later wr, xL.world.cell? ⟨b', off' + k * 6 + 5, none⟩ = some (.bool d1) := fun xL => xL.at (q5)
            refine region_later (w0 := wr) (by kernel_rfl) (by kernel_rfl) (bel_refl _) ?_
            repeat (go_big_quiet_step ((fail)))
            refine wpQuiet_nil ?_
            rintro w' ⟨x, rfl⟩
            obtain ⟨w2, b2⟩ := x
            clear lf0 lf1 lf2 lf3 lf4 lf5 lf6 lf7 lf8 lf9 lf10 lf11
            go_wp2
            go_ret
            exact ⟨ret_bool' (a := false) (decide_eq_false HE.out).symm, by repeat (first | (with_reducible assumption) | (exact bel_undr (by with_reducible assumption)) | (with_reducible exact bel_refl _) | (with_reducible refine bel_dr ?_) | (with_reducible refine bel_drN ?_ _) | (with_reducible refine bel_al ?_ _) | (refine bel_set ?_ (by first | (simp; done) | (simp; exact Below.size (by assumption)) | (simp; omega)) _) | (with_reducible refine bel_tr ?_ (by assumption)))⟩
      · obtain rfl : k = l.length := by omega
        have HE := Lib.hid (show l = l' from nt_ext HL.out HK.out)
        go_wp2
        go_ret
        exact ⟨ret_bool' (a := true) (decide_eq_true HE.out).symm, hb⟩
  · have HE := Lib.hid (show ¬ l = l' from fun e => hl (by rw [e]))
    have hnn : ¬ (n : Int) = (n' : Int) := by omega
    go_enter Try.func9, Try.ntmps9
    go_wp2
    go_ret
    exact ⟨ret_bool' (a := false) (decide_eq_false HE.out).symm, bel_refl _⟩
theorem sma_val {l l' : List Nt} {v : Bool} (hv : decide (l = l') = v) (A A' : Option Addr) (n n' c c' : Nat) (w : World) (hn : l.length = n) (hn' : l'.length = n') (hm : n ≤ 2000000) (hm' : n' ≤ 2000000) (h : RowNt w w.heap.size A l) (h' : RowNt w w.heap.size A' l') :
    Calls Try.prog 9 #[.slice A n c, .slice A' n' c'] w fun e w' => e = .returned (.bool v) ∧ Below w.heap.size w w' := by
  subst hv
  exact sma_any A A' n n' c c' l l' w hn hn' hm hm' h h'
end Go.Proofs.Ytacbkmahofmbcaa
