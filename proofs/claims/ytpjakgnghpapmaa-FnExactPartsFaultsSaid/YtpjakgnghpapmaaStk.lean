/- Four voices: the faults of a stack; of the program and of the reference. -/
import Derived.Test.YtpjakgnghpapmaaCantus
import Derived.Test.YtpjakgnghpapmaaBt
import Derived.Test.YtpjakgnghpapmaaBa
import Derived.Test.YtpjakgnghpapmaaBl
import Derived.Deep.DeepCutAuto
namespace Go.Proofs.Ytpjakgnghpapmaa
set_option linter.unusedSimpArgs false
set_option linter.unusedVariables false
open Go.RowKit

def loR (k : Nat) : Int := ([28, 36, 43, 48] : List Int).getD k 0
def hiR (k : Nat) : Int := ([48, 55, 62, 67] : List Int).getD k 0
def crP (l : List Pi) (k : Nat) : Prop := kyP (atPi l k) < kyP (atPi l (k - 1))
def wdP (l : List Pi) (k : Nat) : Prop := 12 < kyP (atPi l k) - kyP (atPi l (k - 1))
def rgP (l : List Pi) (k : Nat) : Prop := ¬ (loR k ≤ kyP (atPi l k) ∧ kyP (atPi l k) ≤ hiR k)
instance (l : List Pi) (k : Nat) : Decidable (crP l k) := by unfold crP; infer_instance
instance (l : List Pi) (k : Nat) : Decidable (wdP l k) := by unfold wdP; infer_instance
instance (l : List Pi) (k : Nat) : Decidable (rgP l k) := by unfold rgP; infer_instance
def nocr (l : List Pi) : Prop := ∀ k, k < 4 → 1 ≤ k → ¬ crP l k
def nowd (l : List Pi) : Prop := ∀ k, k < 4 → 2 ≤ k → ¬ wdP l k
def norg (l : List Pi) : Prop := ∀ k, k < 4 → ¬ rgP l k
instance (l : List Pi) : Decidable (nocr l) := by unfold nocr; infer_instance
instance (l : List Pi) : Decidable (nowd l) := by unfold nowd; infer_instance
instance (l : List Pi) : Decidable (norg l) := by unfold norg; infer_instance
/-- the first fault of a stack -/
def stkF (l : List Pi) : Int := if apB l 4 4 = false then 1 else if ¬ nocr l then 2 else if ¬ nowd l then 3 else if ¬ norg l then 4 else 0
theorem stkF_1 {l : List Pi} (h : apB l 4 4 = false) : stkF l = 1 := by unfold stkF; rw [if_pos h]
theorem stkF_2 {l : List Pi} (h : apB l 4 4 = true) (k : Nat) (hk : k < 4) (h1 : 1 ≤ k) (c : crP l k) : stkF l = 2 := by unfold stkF; rw [if_neg (by rw [h]; simp), if_pos (fun z => z k hk h1 c)]
theorem stkF_3 {l : List Pi} (h : apB l 4 4 = true) (n : nocr l) (k : Nat) (hk : k < 4) (h1 : 2 ≤ k) (c : wdP l k) : stkF l = 3 := by unfold stkF; rw [if_neg (by rw [h]; simp), if_neg (fun z => z n), if_pos (fun z => z k hk h1 c)]
theorem stkF_4 {l : List Pi} (h : apB l 4 4 = true) (n : nocr l) (m : nowd l) (k : Nat) (hk : k < 4) (c : rgP l k) : stkF l = 4 := by unfold stkF; rw [if_neg (by rw [h]; simp), if_neg (fun z => z n), if_neg (fun z => z m), if_pos (fun z => z k hk c)]
theorem stkF_0 {l : List Pi} (h : apB l 4 4 = true) (n : nocr l) (m : nowd l) (o : norg l) : stkF l = 0 := by unfold stkF; rw [if_neg (by rw [h]; simp), if_neg (fun z => z n), if_neg (fun z => z m), if_neg (fun z => z o)]
theorem stkF_bd (l : List Pi) : 0 ≤ stkF l ∧ stkF l ≤ 4 := by
  unfold stkF; repeat (split <;> (try omega))
theorem loR_bd (k : Nat) : 0 ≤ loR k ∧ loR k ≤ 48 := by
  unfold loR
  rcases (show k = 0 ∨ k = 1 ∨ k = 2 ∨ k = 3 ∨ 4 ≤ k from by omega) with rfl | rfl | rfl | rfl | h
  · decide
  · decide
  · decide
  · decide
  · rw [List.getD_eq_getElem?_getD, List.getElem?_eq_none (by simpa using h)]; decide
theorem vix0 : ∀ w : World, (Instr.index 102 (.agg #[.int .i64 28, .int .i64 48, .int .i64 36, .int .i64 55, .int .i64 43, .int .i64 62, .int .i64 48, .int .i64 67]) (.int .i64 0)).run Try.prog w = .ok (.agg #[.int .i64 28, .int .i64 48]) w := fun _ => by kernel_rfl
theorem vix1 : ∀ w : World, (Instr.index 102 (.agg #[.int .i64 28, .int .i64 48, .int .i64 36, .int .i64 55, .int .i64 43, .int .i64 62, .int .i64 48, .int .i64 67]) (.int .i64 1)).run Try.prog w = .ok (.agg #[.int .i64 36, .int .i64 55]) w := fun _ => by kernel_rfl
theorem vix2 : ∀ w : World, (Instr.index 102 (.agg #[.int .i64 28, .int .i64 48, .int .i64 36, .int .i64 55, .int .i64 43, .int .i64 62, .int .i64 48, .int .i64 67]) (.int .i64 2)).run Try.prog w = .ok (.agg #[.int .i64 43, .int .i64 62]) w := fun _ => by kernel_rfl
theorem vix3 : ∀ w : World, (Instr.index 102 (.agg #[.int .i64 28, .int .i64 48, .int .i64 36, .int .i64 55, .int .i64 43, .int .i64 62, .int .i64 48, .int .i64 67]) (.int .i64 3)).run Try.prog w = .ok (.agg #[.int .i64 48, .int .i64 67]) w := fun _ => by kernel_rfl
set_option maxHeartbeats 1000000 in
theorem vr_any (k : Nat) (w : World) (hk : k < 4) : Calls Try.prog 48 #[.int .i64 k] w fun e w' => e = .returned (.tuple #[.int .i64 (loR k), .int .i64 (hiR k)]) ∧ Below w.heap.size w w' := by
  rcases (show k = 0 ∨ k = 1 ∨ k = 2 ∨ k = 3 from by omega) with rfl | rfl | rfl | rfl
  · have hix := vix0
    go_enter Try.func48, Try.ntmps48
    go_upto_region 2 with fail
    have bX : Blk (w.alloc (.cells #[.int .i64 28, .int .i64 48] 101)) w.heap.size #[.int .i64 28, .int .i64 48] 101 := Blk.new w _ _
    have hbX : Below w.heap.size w (w.alloc (.cells #[.int .i64 28, .int .i64 48] 101)) := bel_al (bel_refl w) _
    generalize (w.alloc (.cells #[.int .i64 28, .int .i64 48] 101)) = w1 at *
    have m0 : w1.cell? ⟨w.heap.size, 0, none⟩ = some (.int .i64 28) := by rw [Blk.cell bX]; rfl
    have m1 : w1.cell? ⟨w.heap.size, 1, none⟩ = some (.int .i64 48) := by rw [Blk.cell bX]; rfl
    have lf0 : ∀ xL : Later w1, xL.world.cell? ⟨w.heap.size, 0, none⟩ = some (.int .i64 28) := fun xL => xL.at (m0)
    have lf1 : ∀ xL : Later w1, xL.world.cell? ⟨w.heap.size, 1, none⟩ = some (.int .i64 48) := fun xL => xL.at (m1)
    refine region_later (w0 := w1) (by kernel_rfl) (by kernel_rfl) (bel_refl _) ?_
    repeat (go_big_quiet_step ((fail)))
    refine wpQuiet_nil ?_
    rintro w' ⟨x, rfl⟩
    obtain ⟨w2, b2⟩ := x
    clear lf0 lf1
    go_wp2
    exact bodyPost_ret (v := .tuple #[.int .i64 28, .int .i64 48]) (by simp [results, Try.results48, go_sem]) rfl ⟨rfl, bel_tr hbX b2⟩
  · have hix := vix1
    go_enter Try.func48, Try.ntmps48
    go_upto_region 2 with fail
    have bX : Blk (w.alloc (.cells #[.int .i64 36, .int .i64 55] 101)) w.heap.size #[.int .i64 36, .int .i64 55] 101 := Blk.new w _ _
    have hbX : Below w.heap.size w (w.alloc (.cells #[.int .i64 36, .int .i64 55] 101)) := bel_al (bel_refl w) _
    generalize (w.alloc (.cells #[.int .i64 36, .int .i64 55] 101)) = w1 at *
    have m0 : w1.cell? ⟨w.heap.size, 0, none⟩ = some (.int .i64 36) := by rw [Blk.cell bX]; rfl
    have m1 : w1.cell? ⟨w.heap.size, 1, none⟩ = some (.int .i64 55) := by rw [Blk.cell bX]; rfl
    have lf0 : ∀ xL : Later w1, xL.world.cell? ⟨w.heap.size, 0, none⟩ = some (.int .i64 36) := fun xL => xL.at (m0)
    have lf1 : ∀ xL : Later w1, xL.world.cell? ⟨w.heap.size, 1, none⟩ = some (.int .i64 55) := fun xL => xL.at (m1)
    refine region_later (w0 := w1) (by kernel_rfl) (by kernel_rfl) (bel_refl _) ?_
    repeat (go_big_quiet_step ((fail)))
    refine wpQuiet_nil ?_
    rintro w' ⟨x, rfl⟩
    obtain ⟨w2, b2⟩ := x
    clear lf0 lf1
    go_wp2
    exact bodyPost_ret (v := .tuple #[.int .i64 36, .int .i64 55]) (by simp [results, Try.results48, go_sem]) rfl ⟨rfl, bel_tr hbX b2⟩
  · have hix := vix2
    go_enter Try.func48, Try.ntmps48
    go_upto_region 2 with fail
    have bX : Blk (w.alloc (.cells #[.int .i64 43, .int .i64 62] 101)) w.heap.size #[.int .i64 43, .int .i64 62] 101 := Blk.new w _ _
    have hbX : Below w.heap.size w (w.alloc (.cells #[.int .i64 43, .int .i64 62] 101)) := bel_al (bel_refl w) _
    generalize (w.alloc (.cells #[.int .i64 43, .int .i64 62] 101)) = w1 at *
    have m0 : w1.cell? ⟨w.heap.size, 0, none⟩ = some (.int .i64 43) := by rw [Blk.cell bX]; rfl
    have m1 : w1.cell? ⟨w.heap.size, 1, none⟩ = some (.int .i64 62) := by rw [Blk.cell bX]; rfl
    have lf0 : ∀ xL : Later w1, xL.world.cell? ⟨w.heap.size, 0, none⟩ = some (.int .i64 43) := fun xL => xL.at (m0)
    have lf1 : ∀ xL : Later w1, xL.world.cell? ⟨w.heap.size, 1, none⟩ = some (.int .i64 62) := fun xL => xL.at (m1)
    refine region_later (w0 := w1) (by kernel_rfl) (by kernel_rfl) (bel_refl _) ?_
    repeat (go_big_quiet_step ((fail)))
    refine wpQuiet_nil ?_
    rintro w' ⟨x, rfl⟩
    obtain ⟨w2, b2⟩ := x
    clear lf0 lf1
    go_wp2
    exact bodyPost_ret (v := .tuple #[.int .i64 43, .int .i64 62]) (by simp [results, Try.results48, go_sem]) rfl ⟨rfl, bel_tr hbX b2⟩
  · have hix := vix3
    go_enter Try.func48, Try.ntmps48
    go_upto_region 2 with fail
    have bX : Blk (w.alloc (.cells #[.int .i64 48, .int .i64 67] 101)) w.heap.size #[.int .i64 48, .int .i64 67] 101 := Blk.new w _ _
    have hbX : Below w.heap.size w (w.alloc (.cells #[.int .i64 48, .int .i64 67] 101)) := bel_al (bel_refl w) _
    generalize (w.alloc (.cells #[.int .i64 48, .int .i64 67] 101)) = w1 at *
    have m0 : w1.cell? ⟨w.heap.size, 0, none⟩ = some (.int .i64 48) := by rw [Blk.cell bX]; rfl
    have m1 : w1.cell? ⟨w.heap.size, 1, none⟩ = some (.int .i64 67) := by rw [Blk.cell bX]; rfl
    have lf0 : ∀ xL : Later w1, xL.world.cell? ⟨w.heap.size, 0, none⟩ = some (.int .i64 48) := fun xL => xL.at (m0)
    have lf1 : ∀ xL : Later w1, xL.world.cell? ⟨w.heap.size, 1, none⟩ = some (.int .i64 67) := fun xL => xL.at (m1)
    refine region_later (w0 := w1) (by kernel_rfl) (by kernel_rfl) (bel_refl _) ?_
    repeat (go_big_quiet_step ((fail)))
    refine wpQuiet_nil ?_
    rintro w' ⟨x, rfl⟩
    obtain ⟨w2, b2⟩ := x
    clear lf0 lf1
    go_wp2
    exact bodyPost_ret (v := .tuple #[.int .i64 48, .int .i64 67]) (by simp [results, Try.results48, go_sem]) rfl ⟨rfl, bel_tr hbX b2⟩
set_option maxRecDepth 20000 in
set_option maxHeartbeats 8000000 in
theorem stk_any (A : Option Addr) (n c : Nat) (l : List Pi) (w : World) (hn : l.length = n) (hm : n ≤ 2000000) (h : RowPi w w.heap.size A l) :
    Calls Try.prog 21 #[.slice A n c] w fun e w' => e = .returned (.int .i64 (stkF l)) ∧ Below w.heap.size w w' := by
  cases hap : apB l 4 4
  · have HAP := Lib.hid hap
    have HS := Lib.hid (stkF_1 hap)
    clear hap
    go_enter Try.func21, Try.ntmps21
    go_wp2_with fail
    refine (ap_val HAP.out _ _ _ _ hn hm h).mono ?_
    rintro e1 w1 ⟨rfl, b1⟩
    go_wp2
    go_ret
    exact ⟨ret_int HS.out.symm, b1⟩
  · have h4 := (apB_of hap).1
    have hl4 : l.length = 4 := by omega
    obtain rfl : n = 4 := by omega
    have HLEN := Lib.hid hl4
    have HAP := Lib.hid hap
    have HN := Lib.hid hn
    clear hap h4 hl4 hn
    go_enter Try.func21, Try.ntmps21
    go_wp2_with fail
    refine (ap_val HAP.out _ _ _ _ HN.out (by omega) h).mono ?_
    rintro e1 w1 ⟨rfl, bw⟩
    replace h := h.below bw
    go_wp2
    go_loopw [3] (fun i wr => ∃ k : Nat, 1 ≤ k ∧ k ≤ 4 ∧ i = .int .i64 k ∧ Below w1.heap.size w1 wr ∧ Hid (∀ j, j < k → 1 ≤ j → ¬ crP l j)) (fun i _ => 4 - (intOf i).toNat)
    case atStart => exact ⟨1, by omega, by omega, rfl, bel_refl _, fun j hj h1 => absurd hj (by omega)⟩
    case round =>
      obtain ⟨k, hk1, hk4, rfl, hb, HK⟩ := hrel
      by_cases hlt : k < 4
      · have hc := (h.below hb)
        obtain ⟨b, off, rfl, hlb, hcc⟩ := hc (by have := HLEN.out; omega)
        obtain ⟨j, hj⟩ : ∃ j : Nat, k - 1 = j := ⟨_, rfl⟩
        have hx := hcc k (by have := HLEN.out; omega)
        have hy := hcc j (by have := HLEN.out; omega)
        have hkl : (k : Int) < 4 := by omega
        have hk0 : (0 : Int) ≤ (k : Int) := by omega
        have hkj : (k : Int) - 1 = (j : Int) := by omega
        have hj0 : (0 : Int) ≤ (j : Int) := by omega
        have hj4 : (j : Int) < 4 := by omega
        have hjk : j + 1 = k := by omega
        have HJ := Lib.hid hjk
        clear hcc hj hjk
        obtain ⟨x, hX⟩ : ∃ x, atPi l k = x := ⟨_, rfl⟩
        obtain ⟨y, hY⟩ : ∃ y, atPi l j = y := ⟨_, rfl⟩
        rw [hX] at hx
        rw [hY] at hy
        have HX := Lib.hid hX
        have HY := Lib.hid hY
        clear hX hY
        obtain ⟨x_0, x_1, x_2⟩ := hx
        obtain ⟨y_0, y_1, y_2⟩ := hy
        obtain ⟨kx, hkx⟩ : ∃ z, kyP x = z := ⟨_, rfl⟩
        have kxb := pkI_bd x.step x.alter x.octave
        rw [show pkI x.step x.alter x.octave = kx from hkx] at kxb
        obtain ⟨kx0, kx1⟩ := kxb
        have Kx := Lib.hid hkx
        obtain ⟨ky, hky⟩ : ∃ z, kyP y = z := ⟨_, rfl⟩
        have kyb := pkI_bd y.step y.alter y.octave
        rw [show pkI y.step y.alter y.octave = ky from hky] at kyb
        obtain ⟨ky0, ky1⟩ := kyb
        have Ky := Lib.hid hky
        clear hkx hky
        have Lx : ∀ xL : Later wr, Calls Try.prog 38 #[.agg #[.int .i64 x.step, .int .i64 x.alter, .int .i64 x.octave]] xL.world fun e w'' => e = .returned (.int .i64 kx) ∧ ∃ z : Later wr, w'' = z.world := fun xL => later_call (pk_val Kx.out _)
        have Ly : ∀ xL : Later wr, Calls Try.prog 38 #[.agg #[.int .i64 y.step, .int .i64 y.alter, .int .i64 y.octave]] xL.world fun e w'' => e = .returned (.int .i64 ky) ∧ ∃ z : Later wr, w'' = z.world := fun xL => later_call (pk_val Ky.out _)
        by_cases ht : kx < ky
        · have HT := Lib.hid (show crP l k from by unfold crP; rw [show kyP (atPi l k) = kx from by rw [HX.out]; exact Kx.out, show kyP (atPi l (k - 1)) = ky from by rw [show k - 1 = j from by have := HJ.out; omega, HY.out]; exact Ky.out]; exact ht)
          go_wp2_with fail
          have lf0 : ∀ xL : Later wr, xL.world.cell? ⟨b, off + k * 3, none⟩ = some (.int .i64 x.step) := fun xL => xL.at (x_0)
          have lf1 : ∀ xL : Later wr, xL.world.cell? ⟨b, off + k * 3 + 1, none⟩ = some (.int .i64 x.alter) := fun xL => xL.at (x_1)
          have lf2 : ∀ xL : Later wr, xL.world.cell? ⟨b, off + k * 3 + 2, none⟩ = some (.int .i64 x.octave) := fun xL => xL.at (x_2)
          have lf3 : ∀ xL : Later wr, xL.world.cell? ⟨b, off + j * 3, none⟩ = some (.int .i64 y.step) := fun xL => xL.at (y_0)
          have lf4 : ∀ xL : Later wr, xL.world.cell? ⟨b, off + j * 3 + 1, none⟩ = some (.int .i64 y.alter) := fun xL => xL.at (y_1)
          have lf5 : ∀ xL : Later wr, xL.world.cell? ⟨b, off + j * 3 + 2, none⟩ = some (.int .i64 y.octave) := fun xL => xL.at (y_2)
          refine region_later (w0 := wr) (by kernel_rfl) (by kernel_rfl) (bel_refl _) ?_
          repeat (go_big_quiet_step ((first | (go_at_call 38; with_reducible exact Lx _) | (go_at_call 38; with_reducible exact Ly _))))
          refine wpQuiet_nil ?_
          rintro w' ⟨x, rfl⟩
          obtain ⟨w5, b5⟩ := x
          clear lf0 lf1 lf2 lf3 lf4 lf5
          clear Lx Ly x_0 x_1 x_2 y_0 y_1 y_2 hkj
          have hb5 := bel_tr hb b5
          have HC := Lib.hid (stkF_2 HAP.out k hlt hk1 HT.out)
          go_wp2
          go_ret
          exact ⟨ret_int HC.out.symm, bel_tr bw hb5⟩
        · have HT := Lib.hid (show ¬ crP l k from by unfold crP; rw [show kyP (atPi l k) = kx from by rw [HX.out]; exact Kx.out, show kyP (atPi l (k - 1)) = ky from by rw [show k - 1 = j from by have := HJ.out; omega, HY.out]; exact Ky.out]; exact ht)
          go_wp2_with fail
          have lf0 : ∀ xL : Later wr, xL.world.cell? ⟨b, off + k * 3, none⟩ = some (.int .i64 x.step) := fun xL => xL.at (x_0)
          have lf1 : ∀ xL : Later wr, xL.world.cell? ⟨b, off + k * 3 + 1, none⟩ = some (.int .i64 x.alter) := fun xL => xL.at (x_1)
          have lf2 : ∀ xL : Later wr, xL.world.cell? ⟨b, off + k * 3 + 2, none⟩ = some (.int .i64 x.octave) := fun xL => xL.at (x_2)
          have lf3 : ∀ xL : Later wr, xL.world.cell? ⟨b, off + j * 3, none⟩ = some (.int .i64 y.step) := fun xL => xL.at (y_0)
          have lf4 : ∀ xL : Later wr, xL.world.cell? ⟨b, off + j * 3 + 1, none⟩ = some (.int .i64 y.alter) := fun xL => xL.at (y_1)
          have lf5 : ∀ xL : Later wr, xL.world.cell? ⟨b, off + j * 3 + 2, none⟩ = some (.int .i64 y.octave) := fun xL => xL.at (y_2)
          refine region_later (w0 := wr) (by kernel_rfl) (by kernel_rfl) (bel_refl _) ?_
          repeat (go_big_quiet_step ((first | (go_at_call 38; with_reducible exact Lx _) | (go_at_call 38; with_reducible exact Ly _))))
          refine wpQuiet_nil ?_
          rintro w' ⟨x, rfl⟩
          obtain ⟨w5, b5⟩ := x
          clear lf0 lf1 lf2 lf3 lf4 lf5
          clear Lx Ly x_0 x_1 x_2 y_0 y_1 y_2 hkj
          have hb5 := bel_tr hb b5
          go_wp2
          go_roundw
          case rel => exact ⟨k + 1, by omega, by omega, by go_num, hb5, hid_snoc HK (fun _ => HT.out)⟩
          case measure => simp [intOf]; omega
      · obtain rfl : k = 4 := by omega
        replace h := h.below hb
        replace bw := bel_tr bw hb
        have HN1 : Hid (nocr l) := fun j hj h1 => HK.out j hj h1
        clear hb
        obtain ⟨wA, rfl⟩ : ∃ z : World, z = wr := ⟨_, rfl⟩
        rw [show ((4 : Nat) : Int) = 4 from rfl]
        go_wp2
        go_loopw [4] (fun i wr => ∃ k : Nat, 2 ≤ k ∧ k ≤ 4 ∧ i = .int .i64 k ∧ Below wA.heap.size wA wr ∧ Hid (∀ j, j < k → 2 ≤ j → ¬ wdP l j)) (fun i _ => 4 - (intOf i).toNat)
        case atStart => exact ⟨2, by omega, by omega, rfl, bel_refl _, fun j hj h1 => absurd hj (by omega)⟩
        case round =>
          obtain ⟨k, hk1, hk4, rfl, hb, HK⟩ := hrel
          by_cases hlt : k < 4
          · have hc := (h.below hb)
            obtain ⟨b, off, rfl, hlb, hcc⟩ := hc (by have := HLEN.out; omega)
            obtain ⟨j, hj⟩ : ∃ j : Nat, k - 1 = j := ⟨_, rfl⟩
            have hx := hcc k (by have := HLEN.out; omega)
            have hy := hcc j (by have := HLEN.out; omega)
            have hkl : (k : Int) < 4 := by omega
            have hk0 : (0 : Int) ≤ (k : Int) := by omega
            have hkj : (k : Int) - 1 = (j : Int) := by omega
            have hj0 : (0 : Int) ≤ (j : Int) := by omega
            have hj4 : (j : Int) < 4 := by omega
            have hjk : j + 1 = k := by omega
            have HJ := Lib.hid hjk
            clear hcc hj hjk
            obtain ⟨x, hX⟩ : ∃ x, atPi l k = x := ⟨_, rfl⟩
            obtain ⟨y, hY⟩ : ∃ y, atPi l j = y := ⟨_, rfl⟩
            rw [hX] at hx
            rw [hY] at hy
            have HX := Lib.hid hX
            have HY := Lib.hid hY
            clear hX hY
            obtain ⟨x_0, x_1, x_2⟩ := hx
            obtain ⟨y_0, y_1, y_2⟩ := hy
            obtain ⟨kx, hkx⟩ : ∃ z, kyP x = z := ⟨_, rfl⟩
            have kxb := pkI_bd x.step x.alter x.octave
            rw [show pkI x.step x.alter x.octave = kx from hkx] at kxb
            obtain ⟨kx0, kx1⟩ := kxb
            have Kx := Lib.hid hkx
            obtain ⟨ky, hky⟩ : ∃ z, kyP y = z := ⟨_, rfl⟩
            have kyb := pkI_bd y.step y.alter y.octave
            rw [show pkI y.step y.alter y.octave = ky from hky] at kyb
            obtain ⟨ky0, ky1⟩ := kyb
            have Ky := Lib.hid hky
            clear hkx hky
            have Lx : ∀ xL : Later wr, Calls Try.prog 38 #[.agg #[.int .i64 x.step, .int .i64 x.alter, .int .i64 x.octave]] xL.world fun e w'' => e = .returned (.int .i64 kx) ∧ ∃ z : Later wr, w'' = z.world := fun xL => later_call (pk_val Kx.out _)
            have Ly : ∀ xL : Later wr, Calls Try.prog 38 #[.agg #[.int .i64 y.step, .int .i64 y.alter, .int .i64 y.octave]] xL.world fun e w'' => e = .returned (.int .i64 ky) ∧ ∃ z : Later wr, w'' = z.world := fun xL => later_call (pk_val Ky.out _)
            by_cases ht : 12 < kx - ky
            · have HT := Lib.hid (show wdP l k from by unfold wdP; rw [show kyP (atPi l k) = kx from by rw [HX.out]; exact Kx.out, show kyP (atPi l (k - 1)) = ky from by rw [show k - 1 = j from by have := HJ.out; omega, HY.out]; exact Ky.out]; exact ht)
              have ix := IntWalk.i64_in (kx - ky) (by omega)
              have hd1 : decide (12 < kx - ky) = true := decide_eq_true ht
              go_wp2_with fail
              have lf0 : ∀ xL : Later wr, xL.world.cell? ⟨b, off + k * 3, none⟩ = some (.int .i64 x.step) := fun xL => xL.at (x_0)
              have lf1 : ∀ xL : Later wr, xL.world.cell? ⟨b, off + k * 3 + 1, none⟩ = some (.int .i64 x.alter) := fun xL => xL.at (x_1)
              have lf2 : ∀ xL : Later wr, xL.world.cell? ⟨b, off + k * 3 + 2, none⟩ = some (.int .i64 x.octave) := fun xL => xL.at (x_2)
              have lf3 : ∀ xL : Later wr, xL.world.cell? ⟨b, off + j * 3, none⟩ = some (.int .i64 y.step) := fun xL => xL.at (y_0)
              have lf4 : ∀ xL : Later wr, xL.world.cell? ⟨b, off + j * 3 + 1, none⟩ = some (.int .i64 y.alter) := fun xL => xL.at (y_1)
              have lf5 : ∀ xL : Later wr, xL.world.cell? ⟨b, off + j * 3 + 2, none⟩ = some (.int .i64 y.octave) := fun xL => xL.at (y_2)
              refine region_later (w0 := wr) (by kernel_rfl) (by kernel_rfl) (bel_refl _) ?_
              repeat (go_big_quiet_step ((first | (go_at_call 38; with_reducible exact Lx _) | (go_at_call 38; with_reducible exact Ly _))))
              refine wpQuiet_nil ?_
              rintro w' ⟨x, rfl⟩
              obtain ⟨w5, b5⟩ := x
              clear lf0 lf1 lf2 lf3 lf4 lf5
              clear Lx Ly x_0 x_1 x_2 y_0 y_1 y_2 hkj
              have hb5 := bel_tr hb b5
              have HC := Lib.hid (stkF_3 HAP.out HN1.out k hlt hk1 HT.out)
              go_wp2
              go_ret
              exact ⟨ret_int HC.out.symm, bel_tr bw hb5⟩
            · have HT := Lib.hid (show ¬ wdP l k from by unfold wdP; rw [show kyP (atPi l k) = kx from by rw [HX.out]; exact Kx.out, show kyP (atPi l (k - 1)) = ky from by rw [show k - 1 = j from by have := HJ.out; omega, HY.out]; exact Ky.out]; exact ht)
              have ix := IntWalk.i64_in (kx - ky) (by omega)
              have hd1 : decide (12 < kx - ky) = false := decide_eq_false ht
              go_wp2_with fail
              have lf0 : ∀ xL : Later wr, xL.world.cell? ⟨b, off + k * 3, none⟩ = some (.int .i64 x.step) := fun xL => xL.at (x_0)
              have lf1 : ∀ xL : Later wr, xL.world.cell? ⟨b, off + k * 3 + 1, none⟩ = some (.int .i64 x.alter) := fun xL => xL.at (x_1)
              have lf2 : ∀ xL : Later wr, xL.world.cell? ⟨b, off + k * 3 + 2, none⟩ = some (.int .i64 x.octave) := fun xL => xL.at (x_2)
              have lf3 : ∀ xL : Later wr, xL.world.cell? ⟨b, off + j * 3, none⟩ = some (.int .i64 y.step) := fun xL => xL.at (y_0)
              have lf4 : ∀ xL : Later wr, xL.world.cell? ⟨b, off + j * 3 + 1, none⟩ = some (.int .i64 y.alter) := fun xL => xL.at (y_1)
              have lf5 : ∀ xL : Later wr, xL.world.cell? ⟨b, off + j * 3 + 2, none⟩ = some (.int .i64 y.octave) := fun xL => xL.at (y_2)
              refine region_later (w0 := wr) (by kernel_rfl) (by kernel_rfl) (bel_refl _) ?_
              repeat (go_big_quiet_step ((first | (go_at_call 38; with_reducible exact Lx _) | (go_at_call 38; with_reducible exact Ly _))))
              refine wpQuiet_nil ?_
              rintro w' ⟨x, rfl⟩
              obtain ⟨w5, b5⟩ := x
              clear lf0 lf1 lf2 lf3 lf4 lf5
              clear Lx Ly x_0 x_1 x_2 y_0 y_1 y_2 hkj
              have hb5 := bel_tr hb b5
              go_wp2
              go_roundw
              case rel => exact ⟨k + 1, by omega, by omega, by go_num, hb5, hid_snoc HK (fun _ => HT.out)⟩
              case measure => simp [intOf]; omega
          · obtain rfl : k = 4 := by omega
            replace h := h.below hb
            replace bw := bel_tr bw hb
            have HN2 : Hid (nowd l) := fun j hj h1 => HK.out j hj h1
            clear hb
            obtain ⟨wB, rfl⟩ : ∃ z : World, z = wr := ⟨_, rfl⟩
            rw [show ((4 : Nat) : Int) = 4 from rfl]
            go_wp2
            go_loopw [47, 5, 6, 7, 8] (fun i _ _ _ _ wr => ∃ k : Nat, k ≤ 4 ∧ i = .int .i64 k ∧ Below wB.heap.size wB wr ∧ Hid (∀ j, j < k → ¬ rgP l j)) (fun i _ _ _ _ _ => 4 - (intOf i).toNat)
            case atStart => exact ⟨0, by omega, rfl, bel_refl _, fun j hj => absurd hj (by omega)⟩
            case round =>
              obtain ⟨k, hk4, rfl, hb, HK⟩ := hrel
              by_cases hlt : k < 4
              · have hc := (h.below hb)
                obtain ⟨b, off, rfl, hlb, hcc⟩ := hc (by have := HLEN.out; omega)
                have hx := hcc k (by have := HLEN.out; omega)
                have hkl : (k : Int) < 4 := by omega
                have hk0 : (0 : Int) ≤ (k : Int) := by omega
                clear hcc
                obtain ⟨x, hX⟩ : ∃ x, atPi l k = x := ⟨_, rfl⟩
                obtain ⟨lo, hlo⟩ : ∃ z, loR k = z := ⟨_, rfl⟩
                obtain ⟨hi, hhi⟩ : ∃ z, hiR k = z := ⟨_, rfl⟩
                rw [hX] at hx
                have HX := Lib.hid hX
                have HLO := Lib.hid hlo
                have HHI := Lib.hid hhi
                clear hX hlo hhi
                obtain ⟨x_0, x_1, x_2⟩ := hx
                obtain ⟨kx, hkx⟩ : ∃ z, kyP x = z := ⟨_, rfl⟩
                have kxb := pkI_bd x.step x.alter x.octave
                rw [show pkI x.step x.alter x.octave = kx from hkx] at kxb
                obtain ⟨kx0, kx1⟩ := kxb
                have Kx := Lib.hid hkx
                clear hkx
                have n0 : (wr.alloc (.cells #[.int .i64 x.step, .int .i64 x.alter, .int .i64 x.octave] 62)).cell? ⟨wr.heap.size, 0, none⟩ = some (.int .i64 x.step) := by simp
                have n1 : (wr.alloc (.cells #[.int .i64 x.step, .int .i64 x.alter, .int .i64 x.octave] 62)).cell? ⟨wr.heap.size, 1, none⟩ = some (.int .i64 x.alter) := by simp
                have n2 : (wr.alloc (.cells #[.int .i64 x.step, .int .i64 x.alter, .int .i64 x.octave] 62)).cell? ⟨wr.heap.size, 2, none⟩ = some (.int .i64 x.octave) := by simp
                by_cases ht : lo ≤ kx ∧ kx ≤ hi
                · have HT := Lib.hid (show ¬ rgP l k from by unfold rgP; rw [show kyP (atPi l k) = kx from by rw [HX.out]; exact Kx.out, HLO.out, HHI.out]; exact fun z => z ht)
                  go_wp2_with fail
                  refine (vr_any k _ hlt).mono ?_
                  rintro e4 w4 ⟨he, b4⟩
                  rw [HLO.out, HHI.out] at he
                  subst he
                  have hb4 := bel_tr (bel_al hb (.cells #[.int .i64 x.step, .int .i64 x.alter, .int .i64 x.octave] 62)) b4
                  have m0 := keep_tr n0 b4
                  have m1 := keep_tr n1 b4
                  have m2 := keep_tr n2 b4
                  have hs4 := b4.size
                  clear b4 n0 n1 n2
                  go_wp2_with fail
                  refine (pk_val Kx.out _).mono ?_
                  rintro e5 w5 ⟨rfl, b5⟩
                  have hb5 := bel_tr hb4 b5
                  clear b5 m0 m1 m2
                  go_wp2_with fail
                  refine (win_yes kx lo hi _ ht.1 ht.2).mono ?_
                  rintro e6 w6 ⟨rfl, rfl⟩
                  go_wp2
                  go_roundw
                  case rel => exact ⟨k + 1, by omega, by go_num, hb5, hid_snoc HK HT.out⟩
                  case measure => simp [intOf]; omega
                · have HT := Lib.hid (show rgP l k from by unfold rgP; rw [show kyP (atPi l k) = kx from by rw [HX.out]; exact Kx.out, HLO.out, HHI.out]; exact ht)
                  have HC := Lib.hid (stkF_4 HAP.out HN1.out HN2.out k hlt HT.out)
                  have ho : kx < lo ∨ hi < kx := by omega
                  go_wp2_with fail
                  refine (vr_any k _ hlt).mono ?_
                  rintro e4 w4 ⟨he, b4⟩
                  rw [HLO.out, HHI.out] at he
                  subst he
                  have hb4 := bel_tr (bel_al hb (.cells #[.int .i64 x.step, .int .i64 x.alter, .int .i64 x.octave] 62)) b4
                  have m0 := keep_tr n0 b4
                  have m1 := keep_tr n1 b4
                  have m2 := keep_tr n2 b4
                  have hs4 := b4.size
                  clear b4 n0 n1 n2
                  go_wp2_with fail
                  refine (pk_val Kx.out _).mono ?_
                  rintro e5 w5 ⟨rfl, b5⟩
                  have hb5 := bel_tr hb4 b5
                  clear b5 m0 m1 m2
                  go_wp2_with fail
                  refine (win_no kx lo hi _ ho).mono ?_
                  rintro e6 w6 ⟨rfl, rfl⟩
                  go_wp2
                  go_ret
                  exact ⟨ret_int HC.out.symm, bel_tr bw hb5⟩
              · obtain rfl : k = 4 := by omega
                have HN3 : Hid (norg l) := fun j hj => HK.out j hj
                have HC := Lib.hid (stkF_0 HAP.out HN1.out HN2.out HN3.out)
                replace bw := bel_tr bw hb
                clear hb
                go_wp2
                go_ret
                exact ⟨ret_int HC.out.symm, bw⟩
theorem blk_lo {W : World} {b k : Nat} (h : Blk W b #[.int .i64 28, .int .i64 36, .int .i64 43, .int .i64 48] 3) (hk : k < 4) : W.cell? ⟨b, k, none⟩ = some (.int .i64 (loR k)) := by
  rw [Blk.cell h]
  rcases (show k = 0 ∨ k = 1 ∨ k = 2 ∨ k = 3 from by omega) with rfl | rfl | rfl | rfl <;> rfl
theorem blk_hi {W : World} {b k : Nat} (h : Blk W b #[.int .i64 48, .int .i64 55, .int .i64 62, .int .i64 67] 3) (hk : k < 4) : W.cell? ⟨b, k, none⟩ = some (.int .i64 (hiR k)) := by
  rw [Blk.cell h]
  rcases (show k = 0 ∨ k = 1 ∨ k = 2 ∨ k = 3 from by omega) with rfl | rfl | rfl | rfl <;> rfl
set_option maxRecDepth 20000 in
set_option maxHeartbeats 8000000 in
theorem sstk_any (A : Option Addr) (n c : Nat) (l : List Pi) (w : World) (hn : l.length = n) (hm : n ≤ 2000000) (h : RowPi w w.heap.size A l) :
    Calls Try.prog 39 #[.slice A n c] w fun e w' => e = .returned (.int .i64 (stkF l)) ∧ Below w.heap.size w w' := by
  have z1 : Blk ((w.alloc (.cells #[.int .i64 28, .int .i64 36, .int .i64 43, .int .i64 48] 3)).alloc (.cells #[.int .i64 48, .int .i64 55, .int .i64 62, .int .i64 67] 3)) w.heap.size #[.int .i64 28, .int .i64 36, .int .i64 43, .int .i64 48] 3 := (Blk.new w _ _).alloc _
  have z2 : Blk ((w.alloc (.cells #[.int .i64 28, .int .i64 36, .int .i64 43, .int .i64 48] 3)).alloc (.cells #[.int .i64 48, .int .i64 55, .int .i64 62, .int .i64 67] 3)) (w.heap.size + 1) #[.int .i64 48, .int .i64 55, .int .i64 62, .int .i64 67] 3 := by have := Blk.new (w.alloc (.cells #[.int .i64 28, .int .i64 36, .int .i64 43, .int .i64 48] 3)) #[.int .i64 48, .int .i64 55, .int .i64 62, .int .i64 67] 3; simpa using this
  have bw : Below w.heap.size w ((w.alloc (.cells #[.int .i64 28, .int .i64 36, .int .i64 43, .int .i64 48] 3)).alloc (.cells #[.int .i64 48, .int .i64 55, .int .i64 62, .int .i64 67] 3)) := bel_al (bel_al (bel_refl w) _) _
  go_enter Try.func39, Try.ntmps39
  go_wp2
  generalize ((w.alloc (.cells #[.int .i64 28, .int .i64 36, .int .i64 43, .int .i64 48] 3)).alloc (.cells #[.int .i64 48, .int .i64 55, .int .i64 62, .int .i64 67] 3)) = wq at *
  replace h := h.below bw
  generalize w.heap.size + 1 = g2 at *
  go_loopw [5] (fun i wr => ∃ k : Nat, k ≤ n ∧ i = .int .i64 k ∧ Below wq.heap.size wq wr ∧ Hid (∀ j, j < k → pvP (atPi l j))) (fun i _ => n - (intOf i).toNat)
  case atStart => exact ⟨0, by omega, rfl, bel_refl _, fun j hj => absurd hj (by omega)⟩
  case round =>
    obtain ⟨k, hkn, rfl, hb, HK⟩ := hrel
    by_cases hlt : k < n
    · have hc := (h.below hb)
      obtain ⟨b, off, rfl, hlb, hcc⟩ := hc (by omega)
      have hx := hcc k (by omega)
      have hkl : (k : Int) < (n : Int) := by omega
      have hk0 : (0 : Int) ≤ (k : Int) := by omega
      clear hcc
      obtain ⟨x, hX⟩ : ∃ x, atPi l k = x := ⟨_, rfl⟩
      rw [hX] at hx
      obtain ⟨v, hv⟩ : ∃ v, pvB x.step x.alter x.octave = v := ⟨_, rfl⟩
      have HX := Lib.hid hX
      have HV := Lib.hid hv
      obtain ⟨x_0, x_1, x_2⟩ := hx
      clear hv hX
      go_wp2_with fail
      refine (spv_val HV.out _).mono ?_
      rintro e4 w4 ⟨rfl, b4⟩
      have hb4 := bel_tr hb b4
      clear b4 x_0 x_1 x_2
      cases v
      · have HC := Lib.hid (stkF_1 (apB_bad (l := l) (lo := 4) (hi := 4) k (by omega) (fun z => by rw [HX.out] at z; exact absurd (HV.out.symm.trans z) (by simp))))
        go_wp2
        go_ret
        exact ⟨ret_int HC.out.symm, bel_tr bw hb4⟩
      · have HT := Lib.hid (show pvP (atPi l k) from by rw [HX.out]; exact HV.out)
        go_wp2
        go_roundw
        case rel => exact ⟨k + 1, by omega, by go_num, hb4, hid_snoc HK HT.out⟩
        case measure => simp [intOf]; omega
    · obtain rfl : k = n := by omega
      have HV : Hid (∀ j, j < l.length → pvP (atPi l j)) := fun j hj => HK.out j (by omega)
      replace h := h.below hb
      have G1 := z1.below hb
      have G2 := z2.below hb
      replace bw := bel_tr bw hb
      clear hb z1 z2
      obtain ⟨wZ, rfl⟩ : ∃ z : World, z = wr := ⟨_, rfl⟩
      have hnl : ¬ (k : Int) < (k : Int) := by omega
      by_cases hl4 : l.length = 4
      · obtain rfl : k = 4 := by omega
        have HLEN := Lib.hid hl4
        have HAP : Hid (apB l 4 4 = true) := apB_yes (by have := HLEN.out; omega) (fun j hj => HV.out j hj)
        have HN := Lib.hid hn
        clear hl4 hn
        go_wp2
        go_loopw [6] (fun i wr => ∃ k : Nat, 1 ≤ k ∧ k ≤ 4 ∧ i = .int .i64 k ∧ Below wZ.heap.size wZ wr ∧ Hid (∀ j, j < k → 1 ≤ j → ¬ crP l j)) (fun i _ => 4 - (intOf i).toNat)
        case atStart => exact ⟨1, by omega, by omega, rfl, bel_refl _, fun j hj h1 => absurd hj (by omega)⟩
        case round =>
          obtain ⟨k, hk1, hk4, rfl, hb, HK⟩ := hrel
          by_cases hlt : k < 4
          · have hc := (h.below hb)
            obtain ⟨b, off, rfl, hlb, hcc⟩ := hc (by have := HLEN.out; omega)
            obtain ⟨j, hj⟩ : ∃ j : Nat, k - 1 = j := ⟨_, rfl⟩
            have hx := hcc k (by have := HLEN.out; omega)
            have hy := hcc j (by have := HLEN.out; omega)
            have hkl : (k : Int) < 4 := by omega
            have hk0 : (0 : Int) ≤ (k : Int) := by omega
            have hkj : (k : Int) - 1 = (j : Int) := by omega
            have hj0 : (0 : Int) ≤ (j : Int) := by omega
            have hj4 : (j : Int) < 4 := by omega
            have hjk : j + 1 = k := by omega
            have HJ := Lib.hid hjk
            clear hcc hj hjk
            obtain ⟨x, hX⟩ : ∃ x, atPi l k = x := ⟨_, rfl⟩
            obtain ⟨y, hY⟩ : ∃ y, atPi l j = y := ⟨_, rfl⟩
            rw [hX] at hx
            rw [hY] at hy
            have HX := Lib.hid hX
            have HY := Lib.hid hY
            clear hX hY
            obtain ⟨x_0, x_1, x_2⟩ := hx
            obtain ⟨y_0, y_1, y_2⟩ := hy
            obtain ⟨kx, hkx⟩ : ∃ z, kyP x = z := ⟨_, rfl⟩
            have kxb := pkI_bd x.step x.alter x.octave
            rw [show pkI x.step x.alter x.octave = kx from hkx] at kxb
            obtain ⟨kx0, kx1⟩ := kxb
            have Kx := Lib.hid hkx
            obtain ⟨ky, hky⟩ : ∃ z, kyP y = z := ⟨_, rfl⟩
            have kyb := pkI_bd y.step y.alter y.octave
            rw [show pkI y.step y.alter y.octave = ky from hky] at kyb
            obtain ⟨ky0, ky1⟩ := kyb
            have Ky := Lib.hid hky
            clear hkx hky
            have Lx : ∀ xL : Later wr, Calls Try.prog 70 #[.agg #[.int .i64 x.step, .int .i64 x.alter, .int .i64 x.octave]] xL.world fun e w'' => e = .returned (.int .i64 kx) ∧ ∃ z : Later wr, w'' = z.world := fun xL => later_call (spk_val Kx.out _)
            have Ly : ∀ xL : Later wr, Calls Try.prog 70 #[.agg #[.int .i64 y.step, .int .i64 y.alter, .int .i64 y.octave]] xL.world fun e w'' => e = .returned (.int .i64 ky) ∧ ∃ z : Later wr, w'' = z.world := fun xL => later_call (spk_val Ky.out _)
            by_cases ht : kx < ky
            · have HT := Lib.hid (show crP l k from by unfold crP; rw [show kyP (atPi l k) = kx from by rw [HX.out]; exact Kx.out, show kyP (atPi l (k - 1)) = ky from by rw [show k - 1 = j from by have := HJ.out; omega, HY.out]; exact Ky.out]; exact ht)
              go_wp2_with fail
              have lf0 : ∀ xL : Later wr, xL.world.cell? ⟨b, off + k * 3, none⟩ = some (.int .i64 x.step) := fun xL => xL.at (x_0)
              have lf1 : ∀ xL : Later wr, xL.world.cell? ⟨b, off + k * 3 + 1, none⟩ = some (.int .i64 x.alter) := fun xL => xL.at (x_1)
              have lf2 : ∀ xL : Later wr, xL.world.cell? ⟨b, off + k * 3 + 2, none⟩ = some (.int .i64 x.octave) := fun xL => xL.at (x_2)
              have lf3 : ∀ xL : Later wr, xL.world.cell? ⟨b, off + j * 3, none⟩ = some (.int .i64 y.step) := fun xL => xL.at (y_0)
              have lf4 : ∀ xL : Later wr, xL.world.cell? ⟨b, off + j * 3 + 1, none⟩ = some (.int .i64 y.alter) := fun xL => xL.at (y_1)
              have lf5 : ∀ xL : Later wr, xL.world.cell? ⟨b, off + j * 3 + 2, none⟩ = some (.int .i64 y.octave) := fun xL => xL.at (y_2)
              refine region_later (w0 := wr) (by kernel_rfl) (by kernel_rfl) (bel_refl _) ?_
              repeat (go_big_quiet_step ((first | (go_at_call 70; with_reducible exact Lx _) | (go_at_call 70; with_reducible exact Ly _))))
              refine wpQuiet_nil ?_
              rintro w' ⟨x, rfl⟩
              obtain ⟨w5, b5⟩ := x
              clear lf0 lf1 lf2 lf3 lf4 lf5
              clear Lx Ly x_0 x_1 x_2 y_0 y_1 y_2 hkj
              have hb5 := bel_tr hb b5
              have HC := Lib.hid (stkF_2 HAP.out k hlt hk1 HT.out)
              go_wp2
              go_ret
              exact ⟨ret_int HC.out.symm, bel_tr bw hb5⟩
            · have HT := Lib.hid (show ¬ crP l k from by unfold crP; rw [show kyP (atPi l k) = kx from by rw [HX.out]; exact Kx.out, show kyP (atPi l (k - 1)) = ky from by rw [show k - 1 = j from by have := HJ.out; omega, HY.out]; exact Ky.out]; exact ht)
              go_wp2_with fail
              have lf0 : ∀ xL : Later wr, xL.world.cell? ⟨b, off + k * 3, none⟩ = some (.int .i64 x.step) := fun xL => xL.at (x_0)
              have lf1 : ∀ xL : Later wr, xL.world.cell? ⟨b, off + k * 3 + 1, none⟩ = some (.int .i64 x.alter) := fun xL => xL.at (x_1)
              have lf2 : ∀ xL : Later wr, xL.world.cell? ⟨b, off + k * 3 + 2, none⟩ = some (.int .i64 x.octave) := fun xL => xL.at (x_2)
              have lf3 : ∀ xL : Later wr, xL.world.cell? ⟨b, off + j * 3, none⟩ = some (.int .i64 y.step) := fun xL => xL.at (y_0)
              have lf4 : ∀ xL : Later wr, xL.world.cell? ⟨b, off + j * 3 + 1, none⟩ = some (.int .i64 y.alter) := fun xL => xL.at (y_1)
              have lf5 : ∀ xL : Later wr, xL.world.cell? ⟨b, off + j * 3 + 2, none⟩ = some (.int .i64 y.octave) := fun xL => xL.at (y_2)
              refine region_later (w0 := wr) (by kernel_rfl) (by kernel_rfl) (bel_refl _) ?_
              repeat (go_big_quiet_step ((first | (go_at_call 70; with_reducible exact Lx _) | (go_at_call 70; with_reducible exact Ly _))))
              refine wpQuiet_nil ?_
              rintro w' ⟨x, rfl⟩
              obtain ⟨w5, b5⟩ := x
              clear lf0 lf1 lf2 lf3 lf4 lf5
              clear Lx Ly x_0 x_1 x_2 y_0 y_1 y_2 hkj
              have hb5 := bel_tr hb b5
              go_wp2
              go_roundw
              case rel => exact ⟨k + 1, by omega, by omega, by go_num, hb5, hid_snoc HK (fun _ => HT.out)⟩
              case measure => simp [intOf]; omega
          · obtain rfl : k = 4 := by omega
            replace h := h.below hb
            replace G1 := G1.below hb
            replace G2 := G2.below hb
            replace bw := bel_tr bw hb
            have HN1 : Hid (nocr l) := fun j hj h1 => HK.out j hj h1
            clear hb
            obtain ⟨wA, rfl⟩ : ∃ z : World, z = wr := ⟨_, rfl⟩
            rw [show ((4 : Nat) : Int) = 4 from rfl]
            go_wp2
            go_loopw [7] (fun i wr => ∃ k : Nat, 2 ≤ k ∧ k ≤ 4 ∧ i = .int .i64 k ∧ Below wA.heap.size wA wr ∧ Hid (∀ j, j < k → 2 ≤ j → ¬ wdP l j)) (fun i _ => 4 - (intOf i).toNat)
            case atStart => exact ⟨2, by omega, by omega, rfl, bel_refl _, fun j hj h1 => absurd hj (by omega)⟩
            case round =>
              obtain ⟨k, hk1, hk4, rfl, hb, HK⟩ := hrel
              by_cases hlt : k < 4
              · have hc := (h.below hb)
                obtain ⟨b, off, rfl, hlb, hcc⟩ := hc (by have := HLEN.out; omega)
                obtain ⟨j, hj⟩ : ∃ j : Nat, k - 1 = j := ⟨_, rfl⟩
                have hx := hcc k (by have := HLEN.out; omega)
                have hy := hcc j (by have := HLEN.out; omega)
                have hkl : (k : Int) < 4 := by omega
                have hk0 : (0 : Int) ≤ (k : Int) := by omega
                have hkj : (k : Int) - 1 = (j : Int) := by omega
                have hj0 : (0 : Int) ≤ (j : Int) := by omega
                have hj4 : (j : Int) < 4 := by omega
                have hjk : j + 1 = k := by omega
                have HJ := Lib.hid hjk
                clear hcc hj hjk
                obtain ⟨x, hX⟩ : ∃ x, atPi l k = x := ⟨_, rfl⟩
                obtain ⟨y, hY⟩ : ∃ y, atPi l j = y := ⟨_, rfl⟩
                rw [hX] at hx
                rw [hY] at hy
                have HX := Lib.hid hX
                have HY := Lib.hid hY
                clear hX hY
                obtain ⟨x_0, x_1, x_2⟩ := hx
                obtain ⟨y_0, y_1, y_2⟩ := hy
                obtain ⟨kx, hkx⟩ : ∃ z, kyP x = z := ⟨_, rfl⟩
                have kxb := pkI_bd x.step x.alter x.octave
                rw [show pkI x.step x.alter x.octave = kx from hkx] at kxb
                obtain ⟨kx0, kx1⟩ := kxb
                have Kx := Lib.hid hkx
                obtain ⟨ky, hky⟩ : ∃ z, kyP y = z := ⟨_, rfl⟩
                have kyb := pkI_bd y.step y.alter y.octave
                rw [show pkI y.step y.alter y.octave = ky from hky] at kyb
                obtain ⟨ky0, ky1⟩ := kyb
                have Ky := Lib.hid hky
                clear hkx hky
                have Lx : ∀ xL : Later wr, Calls Try.prog 70 #[.agg #[.int .i64 x.step, .int .i64 x.alter, .int .i64 x.octave]] xL.world fun e w'' => e = .returned (.int .i64 kx) ∧ ∃ z : Later wr, w'' = z.world := fun xL => later_call (spk_val Kx.out _)
                have Ly : ∀ xL : Later wr, Calls Try.prog 70 #[.agg #[.int .i64 y.step, .int .i64 y.alter, .int .i64 y.octave]] xL.world fun e w'' => e = .returned (.int .i64 ky) ∧ ∃ z : Later wr, w'' = z.world := fun xL => later_call (spk_val Ky.out _)
                by_cases ht : 12 < kx - ky
                · have HT := Lib.hid (show wdP l k from by unfold wdP; rw [show kyP (atPi l k) = kx from by rw [HX.out]; exact Kx.out, show kyP (atPi l (k - 1)) = ky from by rw [show k - 1 = j from by have := HJ.out; omega, HY.out]; exact Ky.out]; exact ht)
                  have ix := IntWalk.i64_in (kx - ky) (by omega)
                  have hd1 : decide (12 < kx - ky) = true := decide_eq_true ht
                  go_wp2_with fail
                  have lf0 : ∀ xL : Later wr, xL.world.cell? ⟨b, off + k * 3, none⟩ = some (.int .i64 x.step) := fun xL => xL.at (x_0)
                  have lf1 : ∀ xL : Later wr, xL.world.cell? ⟨b, off + k * 3 + 1, none⟩ = some (.int .i64 x.alter) := fun xL => xL.at (x_1)
                  have lf2 : ∀ xL : Later wr, xL.world.cell? ⟨b, off + k * 3 + 2, none⟩ = some (.int .i64 x.octave) := fun xL => xL.at (x_2)
                  have lf3 : ∀ xL : Later wr, xL.world.cell? ⟨b, off + j * 3, none⟩ = some (.int .i64 y.step) := fun xL => xL.at (y_0)
                  have lf4 : ∀ xL : Later wr, xL.world.cell? ⟨b, off + j * 3 + 1, none⟩ = some (.int .i64 y.alter) := fun xL => xL.at (y_1)
                  have lf5 : ∀ xL : Later wr, xL.world.cell? ⟨b, off + j * 3 + 2, none⟩ = some (.int .i64 y.octave) := fun xL => xL.at (y_2)
                  refine region_later (w0 := wr) (by kernel_rfl) (by kernel_rfl) (bel_refl _) ?_
                  repeat (go_big_quiet_step ((first | (go_at_call 70; with_reducible exact Lx _) | (go_at_call 70; with_reducible exact Ly _))))
                  refine wpQuiet_nil ?_
                  rintro w' ⟨x, rfl⟩
                  obtain ⟨w5, b5⟩ := x
                  clear lf0 lf1 lf2 lf3 lf4 lf5
                  clear Lx Ly x_0 x_1 x_2 y_0 y_1 y_2 hkj
                  have hb5 := bel_tr hb b5
                  have HC := Lib.hid (stkF_3 HAP.out HN1.out k hlt hk1 HT.out)
                  go_wp2
                  go_ret
                  exact ⟨ret_int HC.out.symm, bel_tr bw hb5⟩
                · have HT := Lib.hid (show ¬ wdP l k from by unfold wdP; rw [show kyP (atPi l k) = kx from by rw [HX.out]; exact Kx.out, show kyP (atPi l (k - 1)) = ky from by rw [show k - 1 = j from by have := HJ.out; omega, HY.out]; exact Ky.out]; exact ht)
                  have ix := IntWalk.i64_in (kx - ky) (by omega)
                  have hd1 : decide (12 < kx - ky) = false := decide_eq_false ht
                  go_wp2_with fail
                  have lf0 : ∀ xL : Later wr, xL.world.cell? ⟨b, off + k * 3, none⟩ = some (.int .i64 x.step) := fun xL => xL.at (x_0)
                  have lf1 : ∀ xL : Later wr, xL.world.cell? ⟨b, off + k * 3 + 1, none⟩ = some (.int .i64 x.alter) := fun xL => xL.at (x_1)
                  have lf2 : ∀ xL : Later wr, xL.world.cell? ⟨b, off + k * 3 + 2, none⟩ = some (.int .i64 x.octave) := fun xL => xL.at (x_2)
                  have lf3 : ∀ xL : Later wr, xL.world.cell? ⟨b, off + j * 3, none⟩ = some (.int .i64 y.step) := fun xL => xL.at (y_0)
                  have lf4 : ∀ xL : Later wr, xL.world.cell? ⟨b, off + j * 3 + 1, none⟩ = some (.int .i64 y.alter) := fun xL => xL.at (y_1)
                  have lf5 : ∀ xL : Later wr, xL.world.cell? ⟨b, off + j * 3 + 2, none⟩ = some (.int .i64 y.octave) := fun xL => xL.at (y_2)
                  refine region_later (w0 := wr) (by kernel_rfl) (by kernel_rfl) (bel_refl _) ?_
                  repeat (go_big_quiet_step ((first | (go_at_call 70; with_reducible exact Lx _) | (go_at_call 70; with_reducible exact Ly _))))
                  refine wpQuiet_nil ?_
                  rintro w' ⟨x, rfl⟩
                  obtain ⟨w5, b5⟩ := x
                  clear lf0 lf1 lf2 lf3 lf4 lf5
                  clear Lx Ly x_0 x_1 x_2 y_0 y_1 y_2 hkj
                  have hb5 := bel_tr hb b5
                  go_wp2
                  go_roundw
                  case rel => exact ⟨k + 1, by omega, by omega, by go_num, hb5, hid_snoc HK (fun _ => HT.out)⟩
                  case measure => simp [intOf]; omega
              · obtain rfl : k = 4 := by omega
                replace h := h.below hb
                replace G1 := G1.below hb
                replace G2 := G2.below hb
                replace bw := bel_tr bw hb
                have HN2 : Hid (nowd l) := fun j hj h1 => HK.out j hj h1
                clear hb
                obtain ⟨wB, rfl⟩ : ∃ z : World, z = wr := ⟨_, rfl⟩
                rw [show ((4 : Nat) : Int) = 4 from rfl]
                go_wp2
                go_loopw [8] (fun i wr => ∃ k : Nat, k ≤ 4 ∧ i = .int .i64 k ∧ Below wB.heap.size wB wr ∧ Hid (∀ j, j < k → ¬ rgP l j)) (fun i _ => 4 - (intOf i).toNat)
                case atStart => exact ⟨0, by omega, rfl, bel_refl _, fun j hj => absurd hj (by omega)⟩
                case round =>
                  obtain ⟨k, hk4, rfl, hb, HK⟩ := hrel
                  by_cases hlt : k < 4
                  · have hc := (h.below hb)
                    obtain ⟨b, off, rfl, hlb, hcc⟩ := hc (by have := HLEN.out; omega)
                    have hx := hcc k (by have := HLEN.out; omega)
                    have hkl : (k : Int) < 4 := by omega
                    have hk0 : (0 : Int) ≤ (k : Int) := by omega
                    clear hcc
                    have q1 := blk_lo (G1.below hb) hlt
                    have q2 := blk_hi (G2.below hb) hlt
                    have lg1 := (G1.below hb).lt
                    have lg2 := (G2.below hb).lt
                    obtain ⟨x, hX⟩ : ∃ x, atPi l k = x := ⟨_, rfl⟩
                    obtain ⟨lo, hlo⟩ : ∃ z, loR k = z := ⟨_, rfl⟩
                    obtain ⟨hi, hhi⟩ : ∃ z, hiR k = z := ⟨_, rfl⟩
                    rw [hlo] at q1
                    rw [hhi] at q2
                    rw [hX] at hx
                    have HX := Lib.hid hX
                    have HLO := Lib.hid hlo
                    have HHI := Lib.hid hhi
                    clear hX hlo hhi
                    obtain ⟨x_0, x_1, x_2⟩ := hx
                    obtain ⟨kx, hkx⟩ : ∃ z, kyP x = z := ⟨_, rfl⟩
                    have kxb := pkI_bd x.step x.alter x.octave
                    rw [show pkI x.step x.alter x.octave = kx from hkx] at kxb
                    obtain ⟨kx0, kx1⟩ := kxb
                    have Kx := Lib.hid hkx
                    clear hkx
                    have Lx : ∀ xL : Later wr, Calls Try.prog 70 #[.agg #[.int .i64 x.step, .int .i64 x.alter, .int .i64 x.octave]] xL.world fun e w'' => e = .returned (.int .i64 kx) ∧ ∃ z : Later wr, w'' = z.world := fun xL => later_call (spk_val Kx.out _)
                    by_cases ht : lo ≤ kx ∧ kx ≤ hi
                    · have HT := Lib.hid (show ¬ rgP l k from by unfold rgP; rw [show kyP (atPi l k) = kx from by rw [HX.out]; exact Kx.out, HLO.out, HHI.out]; exact fun z => z ht)
                      have LW : ∀ xL : Later wr, Calls Try.prog 52 #[.int .i64 kx, .int .i64 lo, .int .i64 hi] xL.world fun e w'' => e = .returned (.bool true) ∧ ∃ z : Later wr, w'' = z.world := fun xL => later_same (swin_yes kx lo hi _ ht.1 ht.2)
                      go_wp2_with fail
                      have lf0 : ∀ xL : Later wr, xL.world.cell? ⟨b, off + k * 3, none⟩ = some (.int .i64 x.step) := fun xL => xL.at (x_0)
                      have lf1 : ∀ xL : Later wr, xL.world.cell? ⟨b, off + k * 3 + 1, none⟩ = some (.int .i64 x.alter) := fun xL => xL.at (x_1)
                      have lf2 : ∀ xL : Later wr, xL.world.cell? ⟨b, off + k * 3 + 2, none⟩ = some (.int .i64 x.octave) := fun xL => xL.at (x_2)
                      have lf3 : ∀ xL : Later wr, xL.world.cell? ⟨w.heap.size, k, none⟩ = some (.int .i64 lo) := fun xL => xL.at (q1)
                      have lf4 : ∀ xL : Later wr, xL.world.cell? ⟨g2, k, none⟩ = some (.int .i64 hi) := fun xL => xL.at (q2)
                      refine region_later (w0 := wr) (by kernel_rfl) (by kernel_rfl) (bel_refl _) ?_
                      repeat (go_big_quiet_step ((first | (go_at_call 70; with_reducible exact Lx _) | (go_at_call 52; with_reducible exact LW _))))
                      refine wpQuiet_nil ?_
                      rintro w' ⟨x, rfl⟩
                      obtain ⟨w5, b5⟩ := x
                      clear lf0 lf1 lf2 lf3 lf4
                      clear Lx LW x_0 x_1 x_2 q1 q2
                      have hb5 := bel_tr hb b5
                      go_wp2
                      go_roundw
                      case rel => exact ⟨k + 1, by omega, by go_num, hb5, hid_snoc HK HT.out⟩
                      case measure => simp [intOf]; omega
                    · have HT := Lib.hid (show rgP l k from by unfold rgP; rw [show kyP (atPi l k) = kx from by rw [HX.out]; exact Kx.out, HLO.out, HHI.out]; exact ht)
                      have HC := Lib.hid (stkF_4 HAP.out HN1.out HN2.out k hlt HT.out)
                      have ho : kx < lo ∨ hi < kx := by omega
                      have LW : ∀ xL : Later wr, Calls Try.prog 52 #[.int .i64 kx, .int .i64 lo, .int .i64 hi] xL.world fun e w'' => e = .returned (.bool false) ∧ ∃ z : Later wr, w'' = z.world := fun xL => later_same (swin_no kx lo hi _ ho)
                      go_wp2_with fail
                      have lf0 : ∀ xL : Later wr, xL.world.cell? ⟨b, off + k * 3, none⟩ = some (.int .i64 x.step) := fun xL => xL.at (x_0)
                      have lf1 : ∀ xL : Later wr, xL.world.cell? ⟨b, off + k * 3 + 1, none⟩ = some (.int .i64 x.alter) := fun xL => xL.at (x_1)
                      have lf2 : ∀ xL : Later wr, xL.world.cell? ⟨b, off + k * 3 + 2, none⟩ = some (.int .i64 x.octave) := fun xL => xL.at (x_2)
                      have lf3 : ∀ xL : Later wr, xL.world.cell? ⟨w.heap.size, k, none⟩ = some (.int .i64 lo) := fun xL => xL.at (q1)
                      have lf4 : ∀ xL : Later wr, xL.world.cell? ⟨g2, k, none⟩ = some (.int .i64 hi) := fun xL => xL.at (q2)
                      refine region_later (w0 := wr) (by kernel_rfl) (by kernel_rfl) (bel_refl _) ?_
                      repeat (go_big_quiet_step ((first | (go_at_call 70; with_reducible exact Lx _) | (go_at_call 52; with_reducible exact LW _))))
                      refine wpQuiet_nil ?_
                      rintro w' ⟨x, rfl⟩
                      obtain ⟨w5, b5⟩ := x
                      clear lf0 lf1 lf2 lf3 lf4
                      clear Lx LW x_0 x_1 x_2 q1 q2
                      have hb5 := bel_tr hb b5
                      go_wp2
                      go_ret
                      exact ⟨ret_int HC.out.symm, bel_tr bw hb5⟩
                  · obtain rfl : k = 4 := by omega
                    have HN3 : Hid (norg l) := fun j hj => HK.out j hj
                    have HC := Lib.hid (stkF_0 HAP.out HN1.out HN2.out HN3.out)
                    replace bw := bel_tr bw hb
                    clear hb
                    go_wp2
                    go_ret
                    exact ⟨ret_int HC.out.symm, bw⟩
      · have hb4 : ((k : Int) != 4) = true := by
          have : ¬ (k : Int) = 4 := by omega
          simpa using this
        have HC := Lib.hid (stkF_1 (apB_no (l := l) (lo := 4) (hi := 4) (by omega)))
        go_wp2
        go_ret
        exact ⟨ret_int HC.out.symm, bw⟩
end Go.Proofs.Ytpjakgnghpapmaa
