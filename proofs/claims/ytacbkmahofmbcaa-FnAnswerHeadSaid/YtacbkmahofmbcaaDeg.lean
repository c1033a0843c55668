/- Degrees of pitches in keys, of the program and of the reference. -/
import Derived.Test.YtacbkmahofmbcaaKey
import Derived.Test.YtacbkmahofmbcaaLater
import Derived.Test.YtacbkmahofmbcaaBlk
import Derived.Deep.DeepCutAuto
namespace Go.Proofs.Ytacbkmahofmbcaa
set_option linter.unusedSimpArgs false
set_option linter.unusedVariables false
open Go.RowKit

def tonI (f : Int) (m : Bool) : Int := if m = true then (4 * f % 7 + 5) % 7 else 4 * f % 7
theorem tonI_bd (f : Int) (m : Bool) : 0 ≤ tonI f m ∧ tonI f m ≤ 6 := by unfold tonI; split <;> omega
def deD (f : Int) (m : Bool) (s a o : Int) : Int := if (-7 ≤ f ∧ f ≤ 7) ∧ pvB s a o = true then (s - tonI f m) % 7 else -1
def deO (f s a o : Int) : Int := if (-7 ≤ f ∧ f ≤ 7) ∧ pvB s a o = true then a - alI f s else 0
theorem tm7 (n : Int) : ∃ m q, n.tmod 7 = m ∧ -6 ≤ m ∧ m ≤ 6 ∧ n = 7 * q + m := by
  by_cases h : n < 0
  · have e : n.tmod 7 = -((-n) % 7) := by rw [← Int.tmod_eq_emod_of_nonneg (by omega), Int.neg_tmod, Int.neg_neg]
    exact ⟨-((-n) % 7), -((-n) / 7), e, by omega, by omega, by omega⟩
  · exact ⟨n % 7, n / 7, Int.tmod_eq_emod_of_nonneg (by omega), by omega, by omega, by omega⟩
set_option maxHeartbeats 1000000 in
theorem mod7_any (n : Int) (w : World) (h0 : -100000 ≤ n) (h1 : n ≤ 100000) : Calls Try.prog 35 #[.int .i64 n, .int .i64 7] w fun e w' => e = .returned (.int .i64 (n % 7)) ∧ w = w' := by
  obtain ⟨m, q, ht, hm0, hm1, hq⟩ := tm7 n
  have hr : n % 7 = (m + 7) % 7 := by omega
  rw [hr]
  clear hr hq
  go_enter Try.func35, Try.ntmps35
  go_wp2
  go_ret
  exact ⟨rfl, rfl⟩
set_option maxHeartbeats 1000000 in
theorem ton_any (f : Int) (m : Bool) (w : World) (h0 : -7 ≤ f) (h1 : f ≤ 7) : Calls Try.prog 36 #[.int .i64 f, .bool m] w fun e w' => e = .returned (.int .i64 (28 + tonI f m)) ∧ w = w' := by
  have hx0 : 0 ≤ 4 * f % 7 := by omega
  have hx1 : 4 * f % 7 ≤ 6 := by omega
  cases m
  · have e : 28 + tonI f false = 28 + 4 * f % 7 := by unfold tonI; rw [if_neg (by simp)]
    rw [e]
    generalize hy : 4 * f % 7 = y at *
    have HY := Lib.hid hy
    clear hy e
    go_enter Try.func36, Try.ntmps36
    go_wp2_with (go_at_call 35; refine (mod7_any _ _ (by omega) (by omega)).mono ?_; rw [HY.out]; rintro e w' ⟨rfl, rfl⟩)
    go_ret
    exact ⟨rfl, rfl⟩
  · have e : 28 + tonI f true = 28 + (4 * f % 7 + 5) % 7 := by unfold tonI; rw [if_pos rfl]
    rw [e]
    generalize hy : 4 * f % 7 = y at *
    have HY := Lib.hid hy
    clear hy e
    go_enter Try.func36, Try.ntmps36
    go_wp2_with (go_at_call 35; refine (mod7_any _ _ (by omega) (by omega)).mono ?_; rw [HY.out]; rintro e w' ⟨rfl, rfl⟩)
    go_ret
    exact ⟨rfl, rfl⟩
set_option maxHeartbeats 1000000 in
theorem ston_any (f : Int) (m : Bool) (w : World) (h0 : -7 ≤ f) (h1 : f ≤ 7) : Calls Try.prog 45 #[.int .i64 f, .bool m] w fun e w' => e = .returned (.int .i64 (tonI f m)) ∧ w = w' := by
  have hx0 : 0 ≤ 4 * f + 70 := by omega
  cases m
  · have e : tonI f false = (4 * f + 70) % 7 := by unfold tonI; rw [if_neg (by simp)]; omega
    rw [e]
    go_enter Try.func45, Try.ntmps45
    go_wp2
    go_ret
    exact ⟨rfl, rfl⟩
  · have e : tonI f true = ((4 * f + 70) % 7 + 5) % 7 := by unfold tonI; rw [if_pos rfl]; omega
    rw [e]
    go_enter Try.func45, Try.ntmps45
    go_wp2
    go_ret
    exact ⟨rfl, rfl⟩
theorem tup2_to {P : Program} {f : FuncId} {args : Array Value} {w : World} {a b x y : Int} (h : a = x ∧ b = y) (H : Calls P f args w fun e w' => e = .returned (.tuple #[.int .i64 x, .int .i64 y]) ∧ Below w.heap.size w w') :
    Calls P f args w fun e w' => e = .returned (.tuple #[.int .i64 a, .int .i64 b]) ∧ Below w.heap.size w w' := by obtain ⟨rfl, rfl⟩ := h; exact H
set_option maxHeartbeats 2000000 in
theorem dg_any (f : Int) (m : Bool) (s a o : Int) (w : World) : Calls Try.prog 11 #[.int .i64 f, .bool m, .agg #[.int .i64 s, .int .i64 a, .int .i64 o]] w fun e w' => e = .returned (.tuple #[.int .i64 (deD f m s a o), .int .i64 (deO f s a o)]) ∧ Below w.heap.size w w' := by
  by_cases hf : -7 ≤ f ∧ f ≤ 7
  · cases hv : pvB s a o
    · refine tup2_to (x := -1) (y := 0) (by unfold deD deO; rw [if_neg (by rw [hv]; simp), if_neg (by rw [hv]; simp)]; exact ⟨rfl, rfl⟩) ?_
      have HV := Lib.hid hv
      obtain ⟨f0, f1⟩ := hf
      clear hv
      go_enter Try.func11, Try.ntmps11
      go_wp2_with (go_at_call 26; refine (ik_yes _ _ (by omega) (by omega)).mono ?_; rintro e w' ⟨rfl, rfl⟩)
      refine (pv_val HV.out _).mono ?_
      rintro e1 w1 ⟨rfl, b1⟩
      have bw := bel_tr (bel_al (bel_refl w) _) b1
      go_wp2
      exact bodyPost_ret (v := .tuple #[.int .i64 (-1), .int .i64 (0)]) (by simp [results, Try.results11, go_sem]) rfl ⟨rfl, by repeat (first | (with_reducible assumption) | (exact bel_undr (by with_reducible assumption)) | (with_reducible exact bel_refl _) | (with_reducible refine bel_dr ?_) | (with_reducible refine bel_drN ?_ _) | (with_reducible refine bel_al ?_ _) | (refine bel_set ?_ (by first | (simp; done) | (simp; exact Below.size (by assumption)) | (simp; omega)) _) | (with_reducible refine bel_tr ?_ (by assumption)))⟩

    · refine tup2_to (x := (s - tonI f m) % 7) (y := a - alI f s) (by unfold deD deO; rw [if_pos ⟨hf, hv⟩, if_pos ⟨hf, hv⟩]; exact ⟨rfl, rfl⟩) ?_
      have hb := pvB_bd hv
      have HV := Lib.hid hv
      obtain ⟨f0, f1⟩ := hf
      clear hv
      obtain ⟨t0, t1⟩ := tonI_bd f m
      obtain ⟨x0, x1⟩ := alI_bd f s
      have hk : kaI f s = alI f s := by unfold kaI; rw [if_pos ⟨⟨f0, f1⟩, by omega, by omega⟩]
      generalize hT : tonI f m = T at *
      generalize alI f s = x at *
      have HT := Lib.hid hT
      have HK := Lib.hid hk
      clear hT hk
      obtain ⟨s0, s1, a0, a1, o0, o1⟩ := hb
      have bP : Blk (w.alloc (.cells #[.int .i64 s, .int .i64 a, .int .i64 o] 31)) w.heap.size #[.int .i64 s, .int .i64 a, .int .i64 o] 31 := Blk.new w _ _
      have bw : Below w.heap.size w (w.alloc (.cells #[.int .i64 s, .int .i64 a, .int .i64 o] 31)) := bel_al (bel_refl w) _
      go_enter Try.func11, Try.ntmps11
      go_wp2_with (go_at_call 26; refine (ik_yes _ _ (by omega) (by omega)).mono ?_; rintro e w' ⟨rfl, rfl⟩)
      generalize (w.alloc (.cells #[.int .i64 s, .int .i64 a, .int .i64 o] 31)) = w0 at *
      refine (pv_val HV.out _).mono ?_
      rintro e1 w1 ⟨rfl, b1⟩
      have bP := bP.below b1
      have bw := bel_tr bw b1
      clear b1
      have cP0 : w1.cell? ⟨w.heap.size, 0, none⟩ = some (.int .i64 s) := by rw [Blk.cell bP]; rfl
      have cP1 : w1.cell? ⟨w.heap.size, 1, none⟩ = some (.int .i64 a) := by rw [Blk.cell bP]; rfl
      have lP := Blk.lt bP
      go_upto_region 3 with fail
      have LA : ∀ xL : Later w1, Calls Try.prog 36 #[.int .i64 f, .bool m] xL.world fun e w'' => e = .returned (.int .i64 (28 + T)) ∧ ∃ z : Later w1, w'' = z.world := fun xL => later_same (by have h := ton_any f m xL.world f0 f1; rw [HT.out] at h; exact h)
      have LB : ∀ xL : Later w1, Calls Try.prog 35 #[.int .i64 (s - (28 + T)), .int .i64 7] xL.world fun e w'' => e = .returned (.int .i64 ((s - (28 + T)) % 7)) ∧ ∃ z : Later w1, w'' = z.world := fun xL => later_same (mod7_any _ _ (by omega) (by omega))
      have LC : ∀ xL : Later w1, Calls Try.prog 37 #[.int .i64 f, .int .i64 s] xL.world fun e w'' => e = .returned (.int .i64 x) ∧ ∃ z : Later w1, w'' = z.world := fun xL => later_call (ka_val HK.out _)
      have lf0 : ∀ xL : Later w1, xL.world.cell? ⟨w.heap.size, 0, none⟩ = some (.int .i64 s) := fun xL => xL.at (cP0)
      have lf1 : ∀ xL : Later w1, xL.world.cell? ⟨w.heap.size, 1, none⟩ = some (.int .i64 a) := fun xL => xL.at (cP1)
      refine region_later (w0 := w1) (by kernel_rfl) (by kernel_rfl) (bel_refl _) ?_
      repeat (go_big_quiet_step ((first | (go_at_call 36; exact LA _) | (go_at_call 35; exact LB _) | (go_at_call 37; exact LC _))))
      refine wpQuiet_nil ?_
      rintro w' ⟨x, rfl⟩
      obtain ⟨wl, bl⟩ := x
      clear lf0 lf1
      have bw := bel_tr bw bl
      go_wp2
      have e9 : (s - (28 + T)) % 7 = (s - T) % 7 := by omega
      exact bodyPost_ret (v := .tuple #[.int .i64 ((s - (28 + T)) % 7), .int .i64 (a - x)]) (by simp [results, Try.results11, go_sem]) rfl ⟨by rw [e9], by repeat (first | (with_reducible assumption) | (exact bel_undr (by with_reducible assumption)) | (with_reducible exact bel_refl _) | (with_reducible refine bel_dr ?_) | (with_reducible refine bel_drN ?_ _) | (with_reducible refine bel_al ?_ _) | (refine bel_set ?_ (by first | (simp; done) | (simp; exact Below.size (by assumption)) | (simp; omega)) _) | (with_reducible refine bel_tr ?_ (by assumption)))⟩
  · refine tup2_to (x := -1) (y := 0) (by unfold deD deO; rw [if_neg (fun z => hf z.1), if_neg (fun z => hf z.1)]; exact ⟨rfl, rfl⟩) ?_
    go_enter Try.func11, Try.ntmps11
    go_wp2_with (go_at_call 26; refine (ik_no _ _ (by omega)).mono ?_; rintro e w' ⟨rfl, rfl⟩)
    exact bodyPost_ret (v := .tuple #[.int .i64 (-1), .int .i64 (0)]) (by simp [results, Try.results11, go_sem]) rfl ⟨rfl, by repeat (first | (with_reducible assumption) | (exact bel_undr (by with_reducible assumption)) | (with_reducible exact bel_refl _) | (with_reducible refine bel_dr ?_) | (with_reducible refine bel_drN ?_ _) | (with_reducible refine bel_al ?_ _) | (refine bel_set ?_ (by first | (simp; done) | (simp; exact Below.size (by assumption)) | (simp; omega)) _) | (with_reducible refine bel_tr ?_ (by assumption)))⟩
theorem dg_val {f : Int} {m : Bool} {s a o x y : Int} (h1 : deD f m s a o = x) (h2 : deO f s a o = y) (w : World) : Calls Try.prog 11 #[.int .i64 f, .bool m, .agg #[.int .i64 s, .int .i64 a, .int .i64 o]] w fun e w' => e = .returned (.tuple #[.int .i64 x, .int .i64 y]) ∧ Below w.heap.size w w' := by
  subst h1 h2; exact dg_any f m s a o w
set_option maxHeartbeats 2000000 in
theorem sdg_any (f : Int) (m : Bool) (s a o : Int) (w : World) : Calls Try.prog 31 #[.int .i64 f, .bool m, .agg #[.int .i64 s, .int .i64 a, .int .i64 o]] w fun e w' => e = .returned (.tuple #[.int .i64 (deD f m s a o), .int .i64 (deO f s a o)]) ∧ Below w.heap.size w w' := by
  by_cases hf : -7 ≤ f ∧ f ≤ 7
  · cases hv : pvB s a o
    · refine tup2_to (x := -1) (y := 0) (by unfold deD deO; rw [if_neg (by rw [hv]; simp), if_neg (by rw [hv]; simp)]; exact ⟨rfl, rfl⟩) ?_
      have HV := Lib.hid hv
      obtain ⟨f0, f1⟩ := hf
      clear hv
      go_enter Try.func31, Try.ntmps31
      go_wp2_with (go_at_call 29; refine (swin_yes _ _ _ _ (by omega) (by omega)).mono ?_; rintro e w' ⟨rfl, rfl⟩)
      refine (spv_val HV.out _).mono ?_
      rintro e1 w1 ⟨rfl, b1⟩
      have bw := bel_tr (bel_al (bel_refl w) _) b1
      go_wp2
      exact bodyPost_ret (v := .tuple #[.int .i64 (-1), .int .i64 (0)]) (by simp [results, Try.results31, go_sem]) rfl ⟨rfl, by repeat (first | (with_reducible assumption) | (exact bel_undr (by with_reducible assumption)) | (with_reducible exact bel_refl _) | (with_reducible refine bel_dr ?_) | (with_reducible refine bel_drN ?_ _) | (with_reducible refine bel_al ?_ _) | (refine bel_set ?_ (by first | (simp; done) | (simp; exact Below.size (by assumption)) | (simp; omega)) _) | (with_reducible refine bel_tr ?_ (by assumption)))⟩

    · refine tup2_to (x := (s - tonI f m) % 7) (y := a - alI f s) (by unfold deD deO; rw [if_pos ⟨hf, hv⟩, if_pos ⟨hf, hv⟩]; exact ⟨rfl, rfl⟩) ?_
      have hb := pvB_bd hv
      have HV := Lib.hid hv
      obtain ⟨f0, f1⟩ := hf
      clear hv
      obtain ⟨t0, t1⟩ := tonI_bd f m
      obtain ⟨x0, x1⟩ := alI_bd f s
      skip
      generalize hT : tonI f m = T at *
      generalize hk : alI f s = x at *
      have HT := Lib.hid hT
      have HK := Lib.hid hk
      clear hT hk
      obtain ⟨s0, s1, a0, a1, o0, o1⟩ := hb
      have bP : Blk (w.alloc (.cells #[.int .i64 s, .int .i64 a, .int .i64 o] 31)) w.heap.size #[.int .i64 s, .int .i64 a, .int .i64 o] 31 := Blk.new w _ _
      have bw : Below w.heap.size w (w.alloc (.cells #[.int .i64 s, .int .i64 a, .int .i64 o] 31)) := bel_al (bel_refl w) _
      go_enter Try.func31, Try.ntmps31
      go_wp2_with (go_at_call 29; refine (swin_yes _ _ _ _ (by omega) (by omega)).mono ?_; rintro e w' ⟨rfl, rfl⟩)
      generalize (w.alloc (.cells #[.int .i64 s, .int .i64 a, .int .i64 o] 31)) = w0 at *
      refine (spv_val HV.out _).mono ?_
      rintro e1 w1 ⟨rfl, b1⟩
      have bP := bP.below b1
      have bw := bel_tr bw b1
      clear b1
      have cP0 : w1.cell? ⟨w.heap.size, 0, none⟩ = some (.int .i64 s) := by rw [Blk.cell bP]; rfl
      have cP1 : w1.cell? ⟨w.heap.size, 1, none⟩ = some (.int .i64 a) := by rw [Blk.cell bP]; rfl
      have lP := Blk.lt bP
      go_upto_region 3 with fail
      have LA : ∀ xL : Later w1, Calls Try.prog 45 #[.int .i64 f, .bool m] xL.world fun e w'' => e = .returned (.int .i64 (T)) ∧ ∃ z : Later w1, w'' = z.world := fun xL => later_same (by have h := ston_any f m xL.world f0 f1; rw [HT.out] at h; exact h)
      have LC : ∀ xL : Later w1, Calls Try.prog 46 #[.int .i64 f, .int .i64 s] xL.world fun e w'' => e = .returned (.int .i64 x) ∧ ∃ z : Later w1, w'' = z.world := fun xL => later_call (sal_val HK.out _ (by omega) (by omega) (by omega) (by omega))
      have lf0 : ∀ xL : Later w1, xL.world.cell? ⟨w.heap.size, 0, none⟩ = some (.int .i64 s) := fun xL => xL.at (cP0)
      have lf1 : ∀ xL : Later w1, xL.world.cell? ⟨w.heap.size, 1, none⟩ = some (.int .i64 a) := fun xL => xL.at (cP1)
      refine region_later (w0 := w1) (by kernel_rfl) (by kernel_rfl) (bel_refl _) ?_
      repeat (go_big_quiet_step ((first | (go_at_call 45; exact LA _) | (go_at_call 46; exact LC _))))
      refine wpQuiet_nil ?_
      rintro w' ⟨x, rfl⟩
      obtain ⟨wl, bl⟩ := x
      clear lf0 lf1
      have bw := bel_tr bw bl
      go_wp2
      have e9 : (s - T + 7) % 7 = (s - T) % 7 := by omega
      exact bodyPost_ret (v := .tuple #[.int .i64 ((s - T + 7) % 7), .int .i64 (a - x)]) (by simp [results, Try.results31, go_sem]) rfl ⟨by rw [e9], by repeat (first | (with_reducible assumption) | (exact bel_undr (by with_reducible assumption)) | (with_reducible exact bel_refl _) | (with_reducible refine bel_dr ?_) | (with_reducible refine bel_drN ?_ _) | (with_reducible refine bel_al ?_ _) | (refine bel_set ?_ (by first | (simp; done) | (simp; exact Below.size (by assumption)) | (simp; omega)) _) | (with_reducible refine bel_tr ?_ (by assumption)))⟩
  · refine tup2_to (x := -1) (y := 0) (by unfold deD deO; rw [if_neg (fun z => hf z.1), if_neg (fun z => hf z.1)]; exact ⟨rfl, rfl⟩) ?_
    go_enter Try.func31, Try.ntmps31
    go_wp2_with (go_at_call 29; refine (swin_no _ _ _ _ (by omega)).mono ?_; rintro e w' ⟨rfl, rfl⟩)
    exact bodyPost_ret (v := .tuple #[.int .i64 (-1), .int .i64 (0)]) (by simp [results, Try.results31, go_sem]) rfl ⟨rfl, by repeat (first | (with_reducible assumption) | (exact bel_undr (by with_reducible assumption)) | (with_reducible exact bel_refl _) | (with_reducible refine bel_dr ?_) | (with_reducible refine bel_drN ?_ _) | (with_reducible refine bel_al ?_ _) | (refine bel_set ?_ (by first | (simp; done) | (simp; exact Below.size (by assumption)) | (simp; omega)) _) | (with_reducible refine bel_tr ?_ (by assumption)))⟩
theorem sdg_val {f : Int} {m : Bool} {s a o x y : Int} (h1 : deD f m s a o = x) (h2 : deO f s a o = y) (w : World) : Calls Try.prog 31 #[.int .i64 f, .bool m, .agg #[.int .i64 s, .int .i64 a, .int .i64 o]] w fun e w' => e = .returned (.tuple #[.int .i64 x, .int .i64 y]) ∧ Below w.heap.size w w' := by
  subst h1 h2; exact sdg_any f m s a o w
end Go.Proofs.Ytacbkmahofmbcaa
