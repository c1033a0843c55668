/- Four voices: the faults of a move; of the program and of the reference. -/
import Derived.Test.YtpjakgnghpapmaaStk
namespace Go.Proofs.Ytpjakgnghpapmaa
set_option linter.unusedSimpArgs false
set_option linter.unusedVariables false
open Go.RowKit

def sgP (x y : Int) : Prop := (0 < x ∧ 0 < y) ∨ (x < 0 ∧ y < 0)
instance (x y : Int) : Decidable (sgP x y) := by unfold sgP; infer_instance
/-- voices i and k move in parallel, ap half tones apart -/
def parP (a b : List Pi) (ap : Int) (i k : Nat) : Prop := sgP (kyP (atPi b i) - kyP (atPi a i)) (kyP (atPi b k) - kyP (atPi a k)) ∧ (kyP (atPi a k) - kyP (atPi a i)) % 12 = ap ∧ (kyP (atPi b k) - kyP (atPi b i)) % 12 = ap
instance (a b : List Pi) (ap : Int) (i k : Nat) : Decidable (parP a b ap i k) := by unfold parP; infer_instance
def nopar (a b : List Pi) (ap : Int) : Prop := ∀ i, i < 4 → ∀ k, k < 4 → i < k → ¬ parP a b ap i k
instance (a b : List Pi) (ap : Int) : Decidable (nopar a b ap) := by unfold nopar; infer_instance
def lpP (a b : List Pi) (k : Nat) : Prop := 12 < dsI (kyP (atPi a k)) (kyP (atPi b k))
instance (a b : List Pi) (k : Nat) : Decidable (lpP a b k) := by unfold lpP; infer_instance
def nolp (a b : List Pi) : Prop := ∀ k, k < 4 → ¬ lpP a b k
instance (a b : List Pi) : Decidable (nolp a b) := by unfold nolp; infer_instance
/-- the first fault of a move -/
def mvF (a b : List Pi) : Int := if apB a 4 4 = false ∨ apB b 4 4 = false then 1 else if ¬ nopar a b 7 then 5 else if ¬ nopar a b 0 then 6 else if ¬ nolp a b then 7 else 0
theorem mvF_1 {a b : List Pi} (h : apB a 4 4 = false ∨ apB b 4 4 = false) : mvF a b = 1 := by unfold mvF; rw [if_pos h]
theorem mv_ok {a b : List Pi} (h : apB a 4 4 = true ∧ apB b 4 4 = true) : ¬ (apB a 4 4 = false ∨ apB b 4 4 = false) := by rw [h.1, h.2]; simp
theorem mvF_5 {a b : List Pi} (h : apB a 4 4 = true ∧ apB b 4 4 = true) (n : ¬ nopar a b 7) : mvF a b = 5 := by unfold mvF; rw [if_neg (mv_ok h), if_pos n]
theorem mvF_6 {a b : List Pi} (h : apB a 4 4 = true ∧ apB b 4 4 = true) (n : nopar a b 7) (m : ¬ nopar a b 0) : mvF a b = 6 := by unfold mvF; rw [if_neg (mv_ok h), if_neg (fun z => z n), if_pos m]
theorem mvF_7 {a b : List Pi} (h : apB a 4 4 = true ∧ apB b 4 4 = true) (n : nopar a b 7) (m : nopar a b 0) (k : Nat) (hk : k < 4) (c : lpP a b k) : mvF a b = 7 := by unfold mvF; rw [if_neg (mv_ok h), if_neg (fun z => z n), if_neg (fun z => z m), if_pos (fun z => z k hk c)]
theorem mvF_0 {a b : List Pi} (h : apB a 4 4 = true ∧ apB b 4 4 = true) (n : nopar a b 7) (m : nopar a b 0) (o : nolp a b) : mvF a b = 0 := by unfold mvF; rw [if_neg (mv_ok h), if_neg (fun z => z n), if_neg (fun z => z m), if_neg (fun z => z o)]
theorem mvF_bd (a b : List Pi) : 0 ≤ mvF a b ∧ mvF a b ≤ 7 := by
  unfold mvF; repeat (split <;> (try omega))
theorem mul_bd {x y : Int} (hx : -300 ≤ x ∧ x ≤ 300) (hy : -300 ≤ y ∧ y ≤ 300) : -90000 ≤ x * y ∧ x * y ≤ 90000 := by
  obtain ⟨n, hn⟩ : ∃ n : Nat, x.natAbs = n := ⟨_, rfl⟩
  obtain ⟨m, hm⟩ : ∃ m : Nat, y.natAbs = m := ⟨_, rfl⟩
  have h1 : (x * y).natAbs = n * m := by rw [Int.natAbs_mul, hn, hm]
  have h2 : n * m ≤ 300 * 300 := Nat.mul_le_mul (by omega) (by omega)
  omega
theorem mul_sg {x y : Int} : 0 < x * y ↔ sgP x y := by
  unfold sgP
  constructor
  · intro h
    rcases Int.lt_trichotomy x 0 with hx | hx | hx
    · rcases Int.lt_trichotomy y 0 with hy | hy | hy
      · exact .inr ⟨hx, hy⟩
      · rw [hy, Int.mul_zero] at h; omega
      · have := Int.mul_neg_of_neg_of_pos hx hy; omega
    · rw [hx, Int.zero_mul] at h; omega
    · rcases Int.lt_trichotomy y 0 with hy | hy | hy
      · have := Int.mul_neg_of_pos_of_neg hx hy; omega
      · rw [hy, Int.mul_zero] at h; omega
      · exact .inl ⟨hx, hy⟩
  · rintro (⟨a, b⟩ | ⟨a, b⟩)
    · exact Int.mul_pos a b
    · exact Int.mul_pos_of_neg_of_neg a b
theorem shift12 (x : Int) (h : -300 ≤ x ∧ x ≤ 300) : (x + 120) % 12 = x % 12 := by omega
set_option maxRecDepth 20000 in
set_option maxHeartbeats 8000000 in
theorem par_any (A A' : Option Addr) (c c' : Nat) (a b : List Pi) (ap : Int) (w : World) (hn : a.length = 4) (hn' : b.length = 4) (ha : RowPi w w.heap.size A a) (hb' : RowPi w w.heap.size A' b) :
    Calls Try.prog 50 #[.slice A 4 c, .slice A' 4 c', .int .i64 ap] w fun e w' => e = .returned (.bool (!decide (nopar a b ap))) ∧ Below w.heap.size w w' := by
  have HLA := Lib.hid hn
  have HLB := Lib.hid hn'
  clear hn hn'
  go_enter Try.func50, Try.ntmps50
  go_wp2
  go_loopw [12, 7, 8, 9, 10, 11] (fun p _ _ _ _ _ wr => ∃ i : Nat, i ≤ 4 ∧ p = .int .i64 i ∧ Below w.heap.size w wr ∧ Hid (∀ j, j < i → ∀ k, k < 4 → j < k → ¬ parP a b ap j k)) (fun p _ _ _ _ _ _ => 4 - (intOf p).toNat)
  case atStart => exact ⟨0, by omega, rfl, bel_refl _, fun j hj => absurd hj (by omega)⟩
  case round =>
    obtain ⟨i, hi4, rfl, hbo, HI⟩ := hrel
    by_cases hi : i < 4
    · have hil : (i : Int) < 4 := by omega
      have hi0 : (0 : Int) ≤ (i : Int) := by omega
      obtain ⟨wo, rfl⟩ : ∃ z : World, z = wr := ⟨_, rfl⟩
      replace ha := ha.below hbo
      replace hb' := hb'.below hbo
      have bw := hbo
      go_wp2
      go_loopw [8, 9, 10, 11] (fun q _ _ _ wr => ∃ k : Nat, i < k ∧ k ≤ 4 ∧ q = .int .i64 k ∧ Below wo.heap.size wo wr ∧ Hid (∀ j, j < k → i < j → ¬ parP a b ap i j)) (fun q _ _ _ _ => 4 - (intOf q).toNat)
      case atStart => exact ⟨i + 1, by omega, by omega, by go_num, bel_refl _, fun j hj h1 => absurd hj (by omega)⟩
      case round =>
        obtain ⟨k, hk1, hk4, rfl, hb, HK⟩ := hrel
        by_cases hlt : k < 4
        · have hkl : (k : Int) < 4 := by omega
          have hk0 : (0 : Int) ≤ (k : Int) := by omega
          obtain ⟨ba, oa, rfl, hla, hca⟩ := (ha.below hb) (by have := HLA.out; omega)
          obtain ⟨bb, ob, rfl, hlb, hcb⟩ := (hb'.below hb) (by have := HLB.out; omega)
          have cxi := hca i (by have := HLA.out; omega)
          have cyi := hcb i (by have := HLB.out; omega)
          have cxk := hca k (by have := HLA.out; omega)
          have cyk := hcb k (by have := HLB.out; omega)
          clear hca hcb
          obtain ⟨xi, hXxi⟩ : ∃ x, atPi a i = x := ⟨_, rfl⟩
          rw [hXxi] at cxi
          have Xxi := Lib.hid hXxi
          clear hXxi
          obtain ⟨xi_0, xi_1, xi_2⟩ := cxi
          obtain ⟨kxi, hkxi⟩ : ∃ z, kyP xi = z := ⟨_, rfl⟩
          have kxib := pkI_bd xi.step xi.alter xi.octave
          rw [show pkI xi.step xi.alter xi.octave = kxi from hkxi] at kxib
          obtain ⟨kxi0, kxi1⟩ := kxib
          have Kxi := Lib.hid hkxi
          clear hkxi
          obtain ⟨yi, hXyi⟩ : ∃ x, atPi b i = x := ⟨_, rfl⟩
          rw [hXyi] at cyi
          have Xyi := Lib.hid hXyi
          clear hXyi
          obtain ⟨yi_0, yi_1, yi_2⟩ := cyi
          obtain ⟨kyi, hkyi⟩ : ∃ z, kyP yi = z := ⟨_, rfl⟩
          have kyib := pkI_bd yi.step yi.alter yi.octave
          rw [show pkI yi.step yi.alter yi.octave = kyi from hkyi] at kyib
          obtain ⟨kyi0, kyi1⟩ := kyib
          have Kyi := Lib.hid hkyi
          clear hkyi
          obtain ⟨xk, hXxk⟩ : ∃ x, atPi a k = x := ⟨_, rfl⟩
          rw [hXxk] at cxk
          have Xxk := Lib.hid hXxk
          clear hXxk
          obtain ⟨xk_0, xk_1, xk_2⟩ := cxk
          obtain ⟨kxk, hkxk⟩ : ∃ z, kyP xk = z := ⟨_, rfl⟩
          have kxkb := pkI_bd xk.step xk.alter xk.octave
          rw [show pkI xk.step xk.alter xk.octave = kxk from hkxk] at kxkb
          obtain ⟨kxk0, kxk1⟩ := kxkb
          have Kxk := Lib.hid hkxk
          clear hkxk
          obtain ⟨yk, hXyk⟩ : ∃ x, atPi b k = x := ⟨_, rfl⟩
          rw [hXyk] at cyk
          have Xyk := Lib.hid hXyk
          clear hXyk
          obtain ⟨yk_0, yk_1, yk_2⟩ := cyk
          obtain ⟨kyk, hkyk⟩ : ∃ z, kyP yk = z := ⟨_, rfl⟩
          have kykb := pkI_bd yk.step yk.alter yk.octave
          rw [show pkI yk.step yk.alter yk.octave = kyk from hkyk] at kykb
          obtain ⟨kyk0, kyk1⟩ := kykb
          have Kyk := Lib.hid hkyk
          clear hkyk
          have bX0 : -300 ≤ kyi - kxi := by omega
          have bX1 : kyi - kxi ≤ 300 := by omega
          have bY0 : -300 ≤ kyk - kxk := by omega
          have bY1 : kyk - kxk ≤ 300 := by omega
          have i1 := IntWalk.i64_in (kyi - kxi) (by omega)
          have i2 := IntWalk.i64_in (kyk - kxk) (by omega)
          have HPP : Hid (parP a b ap i k ↔ (sgP (kyi - kxi) (kyk - kxk) ∧ (kxk - kxi) % 12 = ap ∧ (kyk - kyi) % 12 = ap)) := by
            show _ ↔ _
            unfold parP
            rw [show kyP (atPi a i) = kxi from by rw [Xxi.out]; exact Kxi.out, show kyP (atPi b i) = kyi from by rw [Xyi.out]; exact Kyi.out, show kyP (atPi a k) = kxk from by rw [Xxk.out]; exact Kxk.out, show kyP (atPi b k) = kyk from by rw [Xyk.out]; exact Kyk.out]
          have Lxi : ∀ xL : Later wr, Calls Try.prog 38 #[.agg #[.int .i64 xi.step, .int .i64 xi.alter, .int .i64 xi.octave]] xL.world fun e w'' => e = .returned (.int .i64 kxi) ∧ ∃ z : Later wr, w'' = z.world := fun xL => later_call (pk_val Kxi.out _)
          have Lyi : ∀ xL : Later wr, Calls Try.prog 38 #[.agg #[.int .i64 yi.step, .int .i64 yi.alter, .int .i64 yi.octave]] xL.world fun e w'' => e = .returned (.int .i64 kyi) ∧ ∃ z : Later wr, w'' = z.world := fun xL => later_call (pk_val Kyi.out _)
          have Lxk : ∀ xL : Later wr, Calls Try.prog 38 #[.agg #[.int .i64 xk.step, .int .i64 xk.alter, .int .i64 xk.octave]] xL.world fun e w'' => e = .returned (.int .i64 kxk) ∧ ∃ z : Later wr, w'' = z.world := fun xL => later_call (pk_val Kxk.out _)
          have Lyk : ∀ xL : Later wr, Calls Try.prog 38 #[.agg #[.int .i64 yk.step, .int .i64 yk.alter, .int .i64 yk.octave]] xL.world fun e w'' => e = .returned (.int .i64 kyk) ∧ ∃ z : Later wr, w'' = z.world := fun xL => later_call (pk_val Kyk.out _)
          go_wp2_with fail
          have lf0 : ∀ xL : Later wr, xL.world.cell? ⟨ba, oa + i * 3, none⟩ = some (.int .i64 xi.step) := fun xL => xL.at (xi_0)
          have lf1 : ∀ xL : Later wr, xL.world.cell? ⟨ba, oa + i * 3 + 1, none⟩ = some (.int .i64 xi.alter) := fun xL => xL.at (xi_1)
          have lf2 : ∀ xL : Later wr, xL.world.cell? ⟨ba, oa + i * 3 + 2, none⟩ = some (.int .i64 xi.octave) := fun xL => xL.at (xi_2)
          have lf3 : ∀ xL : Later wr, xL.world.cell? ⟨bb, ob + i * 3, none⟩ = some (.int .i64 yi.step) := fun xL => xL.at (yi_0)
          have lf4 : ∀ xL : Later wr, xL.world.cell? ⟨bb, ob + i * 3 + 1, none⟩ = some (.int .i64 yi.alter) := fun xL => xL.at (yi_1)
          have lf5 : ∀ xL : Later wr, xL.world.cell? ⟨bb, ob + i * 3 + 2, none⟩ = some (.int .i64 yi.octave) := fun xL => xL.at (yi_2)
          have lf6 : ∀ xL : Later wr, xL.world.cell? ⟨ba, oa + k * 3, none⟩ = some (.int .i64 xk.step) := fun xL => xL.at (xk_0)
          have lf7 : ∀ xL : Later wr, xL.world.cell? ⟨ba, oa + k * 3 + 1, none⟩ = some (.int .i64 xk.alter) := fun xL => xL.at (xk_1)
          have lf8 : ∀ xL : Later wr, xL.world.cell? ⟨ba, oa + k * 3 + 2, none⟩ = some (.int .i64 xk.octave) := fun xL => xL.at (xk_2)
          have lf9 : ∀ xL : Later wr, xL.world.cell? ⟨bb, ob + k * 3, none⟩ = some (.int .i64 yk.step) := fun xL => xL.at (yk_0)
          have lf10 : ∀ xL : Later wr, xL.world.cell? ⟨bb, ob + k * 3 + 1, none⟩ = some (.int .i64 yk.alter) := fun xL => xL.at (yk_1)
          have lf11 : ∀ xL : Later wr, xL.world.cell? ⟨bb, ob + k * 3 + 2, none⟩ = some (.int .i64 yk.octave) := fun xL => xL.at (yk_2)
          refine region_later (w0 := wr) (by kernel_rfl) (by kernel_rfl) (bel_refl _) ?_
          repeat (go_big_quiet_step ((first | (go_at_call 38; with_reducible exact Lxi _) | (go_at_call 38; with_reducible exact Lyi _) | (go_at_call 38; with_reducible exact Lxk _) | (go_at_call 38; with_reducible exact Lyk _))))
          refine wpQuiet_nil ?_
          rintro w' ⟨x, rfl⟩
          obtain ⟨w5, b5⟩ := x
          clear lf0 lf1 lf2 lf3 lf4 lf5 lf6 lf7 lf8 lf9 lf10 lf11
          clear Lxi Lyi Lxk Lyk i1 i2
          have hb5 := bel_tr hb b5
          have xi_0 := keep_tr xi_0 b5
          have xi_1 := keep_tr xi_1 b5
          have xi_2 := keep_tr xi_2 b5
          have yi_0 := keep_tr yi_0 b5
          have yi_1 := keep_tr yi_1 b5
          have yi_2 := keep_tr yi_2 b5
          have xk_0 := keep_tr xk_0 b5
          have xk_1 := keep_tr xk_1 b5
          have xk_2 := keep_tr xk_2 b5
          have yk_0 := keep_tr yk_0 b5
          have yk_1 := keep_tr yk_1 b5
          have yk_2 := keep_tr yk_2 b5
          generalize kyi - kxi = X at *
          generalize kyk - kxk = Y at *
          obtain ⟨sb, hsb⟩ : ∃ s, decide (sgP X Y) = s := ⟨_, rfl⟩
          have HSB := Lib.hid hsb
          go_upto_region 8 with fail
          go_cut [11] (fun u wx => u = .bool sb ∧ wx = w5)
          case first =>
            have HS : decide (sgP X Y) = sb := hsb
            rcases (show (0 < X ∧ 0 < Y) ∨ (0 < X ∧ ¬ 0 < Y) ∨ (¬ 0 < X ∧ X < 0 ∧ Y < 0) ∨ (¬ 0 < X ∧ X < 0 ∧ ¬ Y < 0) ∨ (¬ 0 < X ∧ ¬ X < 0) from by omega) with ⟨h1, h2⟩ | ⟨h1, h2⟩ | ⟨h1, h2, h3⟩ | ⟨h1, h2, h3⟩ | ⟨h1, h2⟩
            · obtain rfl : sb = true := by rw [← HS]; exact decide_eq_true (.inl ⟨h1, h2⟩)
              clear HS hsb
              go_wp2
              go_meet
              exact ⟨rfl, rfl⟩
            · obtain rfl : sb = false := by rw [← HS]; exact decide_eq_false (fun z => by rcases z with ⟨p, q⟩ | ⟨p, q⟩ <;> omega)
              clear HS hsb
              have h3 : ¬ X < 0 := by omega
              go_wp2
              go_meet
              exact ⟨rfl, rfl⟩
            · obtain rfl : sb = true := by rw [← HS]; exact decide_eq_true (.inr ⟨h2, h3⟩)
              clear HS hsb
              go_wp2
              go_meet
              exact ⟨rfl, rfl⟩
            · obtain rfl : sb = false := by rw [← HS]; exact decide_eq_false (fun z => by rcases z with ⟨p, q⟩ | ⟨p, q⟩ <;> omega)
              clear HS hsb
              go_wp2
              go_meet
              exact ⟨rfl, rfl⟩
            · obtain rfl : sb = false := by rw [← HS]; exact decide_eq_false (fun z => by rcases z with ⟨p, q⟩ | ⟨p, q⟩ <;> omega)
              clear HS hsb
              go_wp2
              go_meet
              exact ⟨rfl, rfl⟩
          case rest =>
            obtain ⟨rfl, rfl⟩ := hcut
            clear hsb bX0 bX1 bY0 bY1
            cases sb
            · have HT := Lib.hid (show ¬ parP a b ap i k from fun z => of_decide_eq_false HSB.out (HPP.out.1 z).1)
              go_wp2_with fail
              refine region_later (w0 := wc) (by kernel_rfl) (by kernel_rfl) (bel_refl _) ?_
              repeat (go_big_quiet_step ((fail)))
              refine wpQuiet_nil ?_
              rintro w' ⟨x, rfl⟩
              obtain ⟨w6, b6⟩ := x
              have hb6 := bel_tr hb5 b6
              go_wp2
              go_roundw
              case rel => exact ⟨k + 1, by omega, by omega, by go_num, hb6, hid_snoc HK (fun _ => HT.out)⟩
              case measure => simp [intOf]; omega
            · obtain ⟨m1, hm1⟩ : ∃ m, (kxk - kxi) % 12 = m := ⟨_, rfl⟩
              obtain ⟨m2, hm2⟩ : ∃ m, (kyk - kyi) % 12 = m := ⟨_, rfl⟩
              have HPQ : Hid (parP a b ap i k ↔ (m1 = ap ∧ m2 = ap)) := by
                show _ ↔ _
                rw [HPP.out, hm1, hm2]
                exact ⟨fun z => z.2, fun z => ⟨of_decide_eq_true HSB.out, z⟩⟩
              have M1 := Lib.hid hm1
              have M2 := Lib.hid hm2
              have i1 := IntWalk.i64_in (kxk - kxi) (by omega)
              have i2 := IntWalk.i64_in (kyk - kyi) (by omega)
              have j1 : -300 ≤ kxk - kxi ∧ kxk - kxi ≤ 300 := by omega
              have j2 : -300 ≤ kyk - kyi ∧ kyk - kyi ≤ 300 := by omega
              have J1 := Lib.hid j1
              have J2 := Lib.hid j2
              clear hm1 hm2 j1 j2
              have Lxi : ∀ xL : Later wc, Calls Try.prog 38 #[.agg #[.int .i64 xi.step, .int .i64 xi.alter, .int .i64 xi.octave]] xL.world fun e w'' => e = .returned (.int .i64 kxi) ∧ ∃ z : Later wc, w'' = z.world := fun xL => later_call (pk_val Kxi.out _)
              have Lyi : ∀ xL : Later wc, Calls Try.prog 38 #[.agg #[.int .i64 yi.step, .int .i64 yi.alter, .int .i64 yi.octave]] xL.world fun e w'' => e = .returned (.int .i64 kyi) ∧ ∃ z : Later wc, w'' = z.world := fun xL => later_call (pk_val Kyi.out _)
              have Lxk : ∀ xL : Later wc, Calls Try.prog 38 #[.agg #[.int .i64 xk.step, .int .i64 xk.alter, .int .i64 xk.octave]] xL.world fun e w'' => e = .returned (.int .i64 kxk) ∧ ∃ z : Later wc, w'' = z.world := fun xL => later_call (pk_val Kxk.out _)
              have Lyk : ∀ xL : Later wc, Calls Try.prog 38 #[.agg #[.int .i64 yk.step, .int .i64 yk.alter, .int .i64 yk.octave]] xL.world fun e w'' => e = .returned (.int .i64 kyk) ∧ ∃ z : Later wc, w'' = z.world := fun xL => later_call (pk_val Kyk.out _)
              have LM1 : ∀ xL : Later wc, Calls Try.prog 75 #[.int .i64 (kxk - kxi), .int .i64 12] xL.world fun e w'' => e = .returned (.int .i64 m1) ∧ ∃ z : Later wc, w'' = z.world := fun xL => later_call (md_val M1.out _ J1.out)
              have LM2 : ∀ xL : Later wc, Calls Try.prog 75 #[.int .i64 (kyk - kyi), .int .i64 12] xL.world fun e w'' => e = .returned (.int .i64 m2) ∧ ∃ z : Later wc, w'' = z.world := fun xL => later_call (md_val M2.out _ J2.out)
              by_cases e1 : m1 = ap
              · subst e1
                by_cases e2 : m2 = m1
                · subst e2
                  have HT := Lib.hid (HPQ.out.2 ⟨rfl, rfl⟩)
                  clear HPQ
                  go_wp2_with fail
                  have lf0 : ∀ xL : Later wc, xL.world.cell? ⟨ba, oa + i * 3, none⟩ = some (.int .i64 xi.step) := fun xL => xL.at (xi_0)
                  have lf1 : ∀ xL : Later wc, xL.world.cell? ⟨ba, oa + i * 3 + 1, none⟩ = some (.int .i64 xi.alter) := fun xL => xL.at (xi_1)
                  have lf2 : ∀ xL : Later wc, xL.world.cell? ⟨ba, oa + i * 3 + 2, none⟩ = some (.int .i64 xi.octave) := fun xL => xL.at (xi_2)
                  have lf3 : ∀ xL : Later wc, xL.world.cell? ⟨bb, ob + i * 3, none⟩ = some (.int .i64 yi.step) := fun xL => xL.at (yi_0)
                  have lf4 : ∀ xL : Later wc, xL.world.cell? ⟨bb, ob + i * 3 + 1, none⟩ = some (.int .i64 yi.alter) := fun xL => xL.at (yi_1)
                  have lf5 : ∀ xL : Later wc, xL.world.cell? ⟨bb, ob + i * 3 + 2, none⟩ = some (.int .i64 yi.octave) := fun xL => xL.at (yi_2)
                  have lf6 : ∀ xL : Later wc, xL.world.cell? ⟨ba, oa + k * 3, none⟩ = some (.int .i64 xk.step) := fun xL => xL.at (xk_0)
                  have lf7 : ∀ xL : Later wc, xL.world.cell? ⟨ba, oa + k * 3 + 1, none⟩ = some (.int .i64 xk.alter) := fun xL => xL.at (xk_1)
                  have lf8 : ∀ xL : Later wc, xL.world.cell? ⟨ba, oa + k * 3 + 2, none⟩ = some (.int .i64 xk.octave) := fun xL => xL.at (xk_2)
                  have lf9 : ∀ xL : Later wc, xL.world.cell? ⟨bb, ob + k * 3, none⟩ = some (.int .i64 yk.step) := fun xL => xL.at (yk_0)
                  have lf10 : ∀ xL : Later wc, xL.world.cell? ⟨bb, ob + k * 3 + 1, none⟩ = some (.int .i64 yk.alter) := fun xL => xL.at (yk_1)
                  have lf11 : ∀ xL : Later wc, xL.world.cell? ⟨bb, ob + k * 3 + 2, none⟩ = some (.int .i64 yk.octave) := fun xL => xL.at (yk_2)
                  refine region_later (w0 := wc) (by kernel_rfl) (by kernel_rfl) (bel_refl _) ?_
                  repeat (go_big_quiet_step ((first | (go_at_call 38; with_reducible exact Lxi _) | (go_at_call 38; with_reducible exact Lyi _) | (go_at_call 38; with_reducible exact Lxk _) | (go_at_call 38; with_reducible exact Lyk _) | (go_at_call 75; with_reducible exact LM1 _) | (go_at_call 75; with_reducible exact LM2 _))))
                  refine wpQuiet_nil ?_
                  rintro w' ⟨x, rfl⟩
                  obtain ⟨w6, b6⟩ := x
                  clear lf0 lf1 lf2 lf3 lf4 lf5 lf6 lf7 lf8 lf9 lf10 lf11
                  have hb6 := bel_tr hb5 b6
                  go_wp2
                  go_ret
                  exact ⟨ret_bool (by rw [decide_eq_false (fun z => z i hi k hlt hk1 HT.out)]; rfl), bel_tr bw hb6⟩
                · have f2 : (m2 == m1) = false := by simpa using e2
                  have HT := Lib.hid (show ¬ parP a b m1 i k from fun z => e2 (HPQ.out.1 z).2)
                  clear e2
                  go_wp2_with fail
                  have lf0 : ∀ xL : Later wc, xL.world.cell? ⟨ba, oa + i * 3, none⟩ = some (.int .i64 xi.step) := fun xL => xL.at (xi_0)
                  have lf1 : ∀ xL : Later wc, xL.world.cell? ⟨ba, oa + i * 3 + 1, none⟩ = some (.int .i64 xi.alter) := fun xL => xL.at (xi_1)
                  have lf2 : ∀ xL : Later wc, xL.world.cell? ⟨ba, oa + i * 3 + 2, none⟩ = some (.int .i64 xi.octave) := fun xL => xL.at (xi_2)
                  have lf3 : ∀ xL : Later wc, xL.world.cell? ⟨bb, ob + i * 3, none⟩ = some (.int .i64 yi.step) := fun xL => xL.at (yi_0)
                  have lf4 : ∀ xL : Later wc, xL.world.cell? ⟨bb, ob + i * 3 + 1, none⟩ = some (.int .i64 yi.alter) := fun xL => xL.at (yi_1)
                  have lf5 : ∀ xL : Later wc, xL.world.cell? ⟨bb, ob + i * 3 + 2, none⟩ = some (.int .i64 yi.octave) := fun xL => xL.at (yi_2)
                  have lf6 : ∀ xL : Later wc, xL.world.cell? ⟨ba, oa + k * 3, none⟩ = some (.int .i64 xk.step) := fun xL => xL.at (xk_0)
                  have lf7 : ∀ xL : Later wc, xL.world.cell? ⟨ba, oa + k * 3 + 1, none⟩ = some (.int .i64 xk.alter) := fun xL => xL.at (xk_1)
                  have lf8 : ∀ xL : Later wc, xL.world.cell? ⟨ba, oa + k * 3 + 2, none⟩ = some (.int .i64 xk.octave) := fun xL => xL.at (xk_2)
                  have lf9 : ∀ xL : Later wc, xL.world.cell? ⟨bb, ob + k * 3, none⟩ = some (.int .i64 yk.step) := fun xL => xL.at (yk_0)
                  have lf10 : ∀ xL : Later wc, xL.world.cell? ⟨bb, ob + k * 3 + 1, none⟩ = some (.int .i64 yk.alter) := fun xL => xL.at (yk_1)
                  have lf11 : ∀ xL : Later wc, xL.world.cell? ⟨bb, ob + k * 3 + 2, none⟩ = some (.int .i64 yk.octave) := fun xL => xL.at (yk_2)
                  refine region_later (w0 := wc) (by kernel_rfl) (by kernel_rfl) (bel_refl _) ?_
                  repeat (go_big_quiet_step ((first | (go_at_call 38; with_reducible exact Lxi _) | (go_at_call 38; with_reducible exact Lyi _) | (go_at_call 38; with_reducible exact Lxk _) | (go_at_call 38; with_reducible exact Lyk _) | (go_at_call 75; with_reducible exact LM1 _) | (go_at_call 75; with_reducible exact LM2 _))))
                  refine wpQuiet_nil ?_
                  rintro w' ⟨x, rfl⟩
                  obtain ⟨w6, b6⟩ := x
                  clear lf0 lf1 lf2 lf3 lf4 lf5 lf6 lf7 lf8 lf9 lf10 lf11
                  have hb6 := bel_tr hb5 b6
                  go_wp2
                  go_roundw
                  case rel => exact ⟨k + 1, by omega, by omega, by go_num, hb6, hid_snoc HK (fun _ => HT.out)⟩
                  case measure => simp [intOf]; omega
              · have f1 : (m1 == ap) = false := by simpa using e1
                have HT := Lib.hid (show ¬ parP a b ap i k from fun z => e1 (HPQ.out.1 z).1)
                clear e1
                go_wp2_with fail
                have lf0 : ∀ xL : Later wc, xL.world.cell? ⟨ba, oa + i * 3, none⟩ = some (.int .i64 xi.step) := fun xL => xL.at (xi_0)
                have lf1 : ∀ xL : Later wc, xL.world.cell? ⟨ba, oa + i * 3 + 1, none⟩ = some (.int .i64 xi.alter) := fun xL => xL.at (xi_1)
                have lf2 : ∀ xL : Later wc, xL.world.cell? ⟨ba, oa + i * 3 + 2, none⟩ = some (.int .i64 xi.octave) := fun xL => xL.at (xi_2)
                have lf3 : ∀ xL : Later wc, xL.world.cell? ⟨bb, ob + i * 3, none⟩ = some (.int .i64 yi.step) := fun xL => xL.at (yi_0)
                have lf4 : ∀ xL : Later wc, xL.world.cell? ⟨bb, ob + i * 3 + 1, none⟩ = some (.int .i64 yi.alter) := fun xL => xL.at (yi_1)
                have lf5 : ∀ xL : Later wc, xL.world.cell? ⟨bb, ob + i * 3 + 2, none⟩ = some (.int .i64 yi.octave) := fun xL => xL.at (yi_2)
                have lf6 : ∀ xL : Later wc, xL.world.cell? ⟨ba, oa + k * 3, none⟩ = some (.int .i64 xk.step) := fun xL => xL.at (xk_0)
                have lf7 : ∀ xL : Later wc, xL.world.cell? ⟨ba, oa + k * 3 + 1, none⟩ = some (.int .i64 xk.alter) := fun xL => xL.at (xk_1)
                have lf8 : ∀ xL : Later wc, xL.world.cell? ⟨ba, oa + k * 3 + 2, none⟩ = some (.int .i64 xk.octave) := fun xL => xL.at (xk_2)
                have lf9 : ∀ xL : Later wc, xL.world.cell? ⟨bb, ob + k * 3, none⟩ = some (.int .i64 yk.step) := fun xL => xL.at (yk_0)
                have lf10 : ∀ xL : Later wc, xL.world.cell? ⟨bb, ob + k * 3 + 1, none⟩ = some (.int .i64 yk.alter) := fun xL => xL.at (yk_1)
                have lf11 : ∀ xL : Later wc, xL.world.cell? ⟨bb, ob + k * 3 + 2, none⟩ = some (.int .i64 yk.octave) := fun xL => xL.at (yk_2)
                refine region_later (w0 := wc) (by kernel_rfl) (by kernel_rfl) (bel_refl _) ?_
                repeat (go_big_quiet_step ((first | (go_at_call 38; with_reducible exact Lxi _) | (go_at_call 38; with_reducible exact Lyi _) | (go_at_call 38; with_reducible exact Lxk _) | (go_at_call 38; with_reducible exact Lyk _) | (go_at_call 75; with_reducible exact LM1 _) | (go_at_call 75; with_reducible exact LM2 _))))
                refine wpQuiet_nil ?_
                rintro w' ⟨x, rfl⟩
                obtain ⟨w6, b6⟩ := x
                clear lf0 lf1 lf2 lf3 lf4 lf5 lf6 lf7 lf8 lf9 lf10 lf11
                have hb6 := bel_tr hb5 b6
                go_wp2
                go_roundw
                case rel => exact ⟨k + 1, by omega, by omega, by go_num, hb6, hid_snoc HK (fun _ => HT.out)⟩
                case measure => simp [intOf]; omega
        · have hkk : k = 4 := by omega
          have HT : Hid (∀ k, k < 4 → i < k → ¬ parP a b ap i k) := fun j hj hij => HK.out j (by omega) hij
          obtain rfl := hkk
          rw [show ((4 : Nat) : Int) = 4 from rfl]
          have hbo2 := bel_tr hbo hb
          go_wp2
          go_roundw
          case rel => exact ⟨i + 1, by omega, by go_num, hbo2, hid_snoc HI HT.out⟩
          case measure => simp [intOf]; omega
    · obtain rfl : i = 4 := by omega
      have HT := Lib.hid (show nopar a b ap from fun i hi => HI.out i hi)
      go_wp2
      go_ret
      exact ⟨ret_bool (by rw [decide_eq_true HT.out]; rfl), hbo⟩
theorem par_val {a b : List Pi} {ap : Int} {v : Bool} (hv : decide (nopar a b ap) = v) (A A' : Option Addr) (c c' : Nat) (w : World) (hn : a.length = 4) (hn' : b.length = 4) (ha : RowPi w w.heap.size A a) (hb' : RowPi w w.heap.size A' b) :
    Calls Try.prog 50 #[.slice A 4 c, .slice A' 4 c', .int .i64 ap] w fun e w' => e = .returned (.bool (!v)) ∧ Below w.heap.size w w' := by
  subst hv; exact par_any A A' c c' a b ap w hn hn' ha hb'
set_option maxRecDepth 20000 in
set_option maxHeartbeats 8000000 in
theorem mvf_any (A A' : Option Addr) (n n' c c' : Nat) (a b : List Pi) (w : World) (hn : a.length = n) (hn' : b.length = n') (hm : n ≤ 2000000) (hm' : n' ≤ 2000000) (ha : RowPi w w.heap.size A a) (hb' : RowPi w w.heap.size A' b) :
    Calls Try.prog 22 #[.slice A n c, .slice A' n' c'] w fun e w' => e = .returned (.int .i64 (mvF a b)) ∧ Below w.heap.size w w' := by
  have bw := bel_refl w
  go_enter Try.func22, Try.ntmps22
  cases hap : apB a 4 4
  · have HAP := Lib.hid hap
    have HC := Lib.hid (mvF_1 (a := a) (b := b) (.inl hap))
    clear hap
    go_wp2_with fail
    refine (ap_val HAP.out _ _ _ _ hn hm ha).mono ?_
    rintro e1 w1 ⟨rfl, b1⟩
    replace ha := ha.below b1
    replace hb' := hb'.below b1
    replace bw := bel_tr bw b1
    clear b1
    go_wp2
    go_ret
    exact ⟨ret_int HC.out.symm, bw⟩
  · cases hbp : apB b 4 4
    · have HAP := Lib.hid hap
      have HBP := Lib.hid hbp
      have HC := Lib.hid (mvF_1 (a := a) (b := b) (.inr hbp))
      clear hap hbp
      go_wp2_with fail
      refine (ap_val HAP.out _ _ _ _ hn hm ha).mono ?_
      rintro e1 w1 ⟨rfl, b1⟩
      replace ha := ha.below b1
      replace hb' := hb'.below b1
      replace bw := bel_tr bw b1
      clear b1
      go_wp2_with fail
      refine (ap_val HBP.out _ _ _ _ hn' hm' hb').mono ?_
      rintro e2 w2 ⟨rfl, b2⟩
      replace ha := ha.below b2
      replace hb' := hb'.below b2
      replace bw := bel_tr bw b2
      clear b2
      go_wp2
      go_ret
      exact ⟨ret_int HC.out.symm, bw⟩
    · have h4 := (apB_of hap).1
      have h4' := (apB_of hbp).1
      have hla : a.length = 4 := by omega
      have hlb : b.length = 4 := by omega
      obtain rfl : n = 4 := by omega
      obtain rfl : n' = 4 := by omega
      have HLA := Lib.hid hla
      have HLB := Lib.hid hlb
      have HAP := Lib.hid (And.intro hap hbp)
      obtain ⟨v7, hv7⟩ : ∃ v, decide (nopar a b 7) = v := ⟨_, rfl⟩
      obtain ⟨v0, hv0⟩ : ∃ v, decide (nopar a b 0) = v := ⟨_, rfl⟩
      have HV7 := Lib.hid hv7
      have HV0 := Lib.hid hv0
      clear hap hbp h4 h4' hla hlb hn hn' hv7 hv0
      go_wp2_with fail
      refine (ap_val HAP.out.1 _ _ _ _ HLA.out (by omega) ha).mono ?_
      rintro e1 w1 ⟨rfl, b1⟩
      replace ha := ha.below b1
      replace hb' := hb'.below b1
      replace bw := bel_tr bw b1
      clear b1
      go_wp2_with fail
      refine (ap_val HAP.out.2 _ _ _ _ HLB.out (by omega) hb').mono ?_
      rintro e2 w2 ⟨rfl, b2⟩
      replace ha := ha.below b2
      replace hb' := hb'.below b2
      replace bw := bel_tr bw b2
      clear b2
      go_wp2_with fail
      refine (par_val HV7.out _ _ _ _ _ HLA.out HLB.out ha hb').mono ?_
      rintro e3 w3 ⟨rfl, b3⟩
      replace ha := ha.below b3
      replace hb' := hb'.below b3
      replace bw := bel_tr bw b3
      clear b3
      cases v7
      · have HC := Lib.hid (mvF_5 HAP.out (of_decide_eq_false HV7.out))
        go_wp2
        go_ret
        exact ⟨ret_int HC.out.symm, bw⟩
      · have HN7 := Lib.hid (of_decide_eq_true HV7.out)
        go_wp2_with fail
        refine (par_val HV0.out _ _ _ _ _ HLA.out HLB.out ha hb').mono ?_
        rintro e4 w4 ⟨rfl, b4⟩
        replace ha := ha.below b4
        replace hb' := hb'.below b4
        replace bw := bel_tr bw b4
        clear b4
        cases v0
        · have HC := Lib.hid (mvF_6 HAP.out HN7.out (of_decide_eq_false HV0.out))
          go_wp2
          go_ret
          exact ⟨ret_int HC.out.symm, bw⟩
        · have HN0 := Lib.hid (of_decide_eq_true HV0.out)
          go_wp2
          go_loopw [23, 5] (fun q _ wr => ∃ k : Nat, k ≤ 4 ∧ q = .int .i64 k ∧ Below w4.heap.size w4 wr ∧ Hid (∀ j, j < k → ¬ lpP a b j)) (fun q _ _ => 4 - (intOf q).toNat)
          case atStart => exact ⟨0, by omega, rfl, bel_refl _, fun j hj => absurd hj (by omega)⟩
          case round =>
            obtain ⟨k, hk4, rfl, hb, HK⟩ := hrel
            by_cases hlt : k < 4
            · have hkl : (k : Int) < 4 := by omega
              have hk0 : (0 : Int) ≤ (k : Int) := by omega
              obtain ⟨ba, oa, rfl, hla, hca⟩ := (ha.below hb) (by have := HLA.out; omega)
              obtain ⟨bb, ob, rfl, hlb, hcb⟩ := (hb'.below hb) (by have := HLB.out; omega)
              have cx := hca k (by have := HLA.out; omega)
              have cy := hcb k (by have := HLB.out; omega)
              clear hca hcb
              obtain ⟨x, hXx⟩ : ∃ x, atPi a k = x := ⟨_, rfl⟩
              rw [hXx] at cx
              have Xx := Lib.hid hXx
              clear hXx
              obtain ⟨x_0, x_1, x_2⟩ := cx
              obtain ⟨kx, hkx⟩ : ∃ z, kyP x = z := ⟨_, rfl⟩
              have kxb := pkI_bd x.step x.alter x.octave
              rw [show pkI x.step x.alter x.octave = kx from hkx] at kxb
              obtain ⟨kx0, kx1⟩ := kxb
              have Kx := Lib.hid hkx
              clear hkx
              obtain ⟨y, hXy⟩ : ∃ x, atPi b k = x := ⟨_, rfl⟩
              rw [hXy] at cy
              have Xy := Lib.hid hXy
              clear hXy
              obtain ⟨y_0, y_1, y_2⟩ := cy
              obtain ⟨ky, hky⟩ : ∃ z, kyP y = z := ⟨_, rfl⟩
              have kyb := pkI_bd y.step y.alter y.octave
              rw [show pkI y.step y.alter y.octave = ky from hky] at kyb
              obtain ⟨ky0, ky1⟩ := kyb
              have Ky := Lib.hid hky
              clear hky
              obtain ⟨d, hd⟩ : ∃ d, dsI kx ky = d := ⟨_, rfl⟩
              have hdb := dsI_bd ⟨kx0, kx1⟩ ⟨ky0, ky1⟩
              rw [hd] at hdb
              obtain ⟨hd0, hd1⟩ := hdb
              have HD := Lib.hid hd
              clear hd
              have Lx : ∀ xL : Later wr, Calls Try.prog 38 #[.agg #[.int .i64 x.step, .int .i64 x.alter, .int .i64 x.octave]] xL.world fun e w'' => e = .returned (.int .i64 kx) ∧ ∃ z : Later wr, w'' = z.world := fun xL => later_call (pk_val Kx.out _)
              have Ly : ∀ xL : Later wr, Calls Try.prog 38 #[.agg #[.int .i64 y.step, .int .i64 y.alter, .int .i64 y.octave]] xL.world fun e w'' => e = .returned (.int .i64 ky) ∧ ∃ z : Later wr, w'' = z.world := fun xL => later_call (pk_val Ky.out _)
              have LD : ∀ xL : Later wr, Calls Try.prog 51 #[.int .i64 kx, .int .i64 ky] xL.world fun e w'' => e = .returned (.int .i64 d) ∧ ∃ z : Later wr, w'' = z.world := fun xL => later_call (ds_val HD.out _ ⟨kx0, kx1⟩ ⟨ky0, ky1⟩)
              by_cases ht : 12 < d
              · have HT := Lib.hid (show lpP a b k from by unfold lpP; rw [show kyP (atPi a k) = kx from by rw [Xx.out]; exact Kx.out, show kyP (atPi b k) = ky from by rw [Xy.out]; exact Ky.out, HD.out]; exact ht)
                have HC := Lib.hid (mvF_7 HAP.out HN7.out HN0.out k hlt HT.out)
                go_wp2_with fail
                have lf0 : ∀ xL : Later wr, xL.world.cell? ⟨ba, oa + k * 3, none⟩ = some (.int .i64 x.step) := fun xL => xL.at (x_0)
                have lf1 : ∀ xL : Later wr, xL.world.cell? ⟨ba, oa + k * 3 + 1, none⟩ = some (.int .i64 x.alter) := fun xL => xL.at (x_1)
                have lf2 : ∀ xL : Later wr, xL.world.cell? ⟨ba, oa + k * 3 + 2, none⟩ = some (.int .i64 x.octave) := fun xL => xL.at (x_2)
                have lf3 : ∀ xL : Later wr, xL.world.cell? ⟨bb, ob + k * 3, none⟩ = some (.int .i64 y.step) := fun xL => xL.at (y_0)
                have lf4 : ∀ xL : Later wr, xL.world.cell? ⟨bb, ob + k * 3 + 1, none⟩ = some (.int .i64 y.alter) := fun xL => xL.at (y_1)
                have lf5 : ∀ xL : Later wr, xL.world.cell? ⟨bb, ob + k * 3 + 2, none⟩ = some (.int .i64 y.octave) := fun xL => xL.at (y_2)
                refine region_later (w0 := wr) (by kernel_rfl) (by kernel_rfl) (bel_refl _) ?_
                repeat (go_big_quiet_step ((first | (go_at_call 38; with_reducible exact Lx _) | (go_at_call 38; with_reducible exact Ly _) | (go_at_call 51; with_reducible exact LD _))))
                refine wpQuiet_nil ?_
                rintro w' ⟨x, rfl⟩
                obtain ⟨w5, b5⟩ := x
                clear lf0 lf1 lf2 lf3 lf4 lf5
                clear Lx Ly LD x_0 x_1 x_2 y_0 y_1 y_2
                have hb5 := bel_tr hb b5
                go_wp2
                go_ret
                exact ⟨ret_int HC.out.symm, bel_tr bw hb5⟩
              · have HT := Lib.hid (show ¬ lpP a b k from by unfold lpP; rw [show kyP (atPi a k) = kx from by rw [Xx.out]; exact Kx.out, show kyP (atPi b k) = ky from by rw [Xy.out]; exact Ky.out, HD.out]; exact ht)
                go_wp2_with fail
                have lf0 : ∀ xL : Later wr, xL.world.cell? ⟨ba, oa + k * 3, none⟩ = some (.int .i64 x.step) := fun xL => xL.at (x_0)
                have lf1 : ∀ xL : Later wr, xL.world.cell? ⟨ba, oa + k * 3 + 1, none⟩ = some (.int .i64 x.alter) := fun xL => xL.at (x_1)
                have lf2 : ∀ xL : Later wr, xL.world.cell? ⟨ba, oa + k * 3 + 2, none⟩ = some (.int .i64 x.octave) := fun xL => xL.at (x_2)
                have lf3 : ∀ xL : Later wr, xL.world.cell? ⟨bb, ob + k * 3, none⟩ = some (.int .i64 y.step) := fun xL => xL.at (y_0)
                have lf4 : ∀ xL : Later wr, xL.world.cell? ⟨bb, ob + k * 3 + 1, none⟩ = some (.int .i64 y.alter) := fun xL => xL.at (y_1)
                have lf5 : ∀ xL : Later wr, xL.world.cell? ⟨bb, ob + k * 3 + 2, none⟩ = some (.int .i64 y.octave) := fun xL => xL.at (y_2)
                refine region_later (w0 := wr) (by kernel_rfl) (by kernel_rfl) (bel_refl _) ?_
                repeat (go_big_quiet_step ((first | (go_at_call 38; with_reducible exact Lx _) | (go_at_call 38; with_reducible exact Ly _) | (go_at_call 51; with_reducible exact LD _))))
                refine wpQuiet_nil ?_
                rintro w' ⟨x, rfl⟩
                obtain ⟨w5, b5⟩ := x
                clear lf0 lf1 lf2 lf3 lf4 lf5
                clear Lx Ly LD x_0 x_1 x_2 y_0 y_1 y_2
                have hb5 := bel_tr hb b5
                go_wp2
                go_roundw
                case rel => exact ⟨k + 1, by omega, by go_num, hb5, hid_snoc HK HT.out⟩
                case measure => simp [intOf]; omega
            · obtain rfl : k = 4 := by omega
              have HC := Lib.hid (mvF_0 HAP.out HN7.out HN0.out (fun j hj => HK.out j hj))
              replace bw := bel_tr bw hb
              clear hb
              go_wp2
              go_ret
              exact ⟨ret_int HC.out.symm, bw⟩
end Go.Proofs.Ytpjakgnghpapmaa
