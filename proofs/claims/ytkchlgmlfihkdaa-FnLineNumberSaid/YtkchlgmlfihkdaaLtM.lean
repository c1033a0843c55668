/- What may follow a tone, and how many ends there are behind it: the program's table. -/
import Derived.Test.YtkchlgmlfihkdaaKt
import Derived.Test.YtkchlgmlfihkdaaTab
import Derived.Deep.DeepCutAuto
namespace Go.Proofs.Ytkchlgmlfihkdaa
set_option linter.unusedSimpArgs false
set_option linter.unusedVariables false
open Go.RowKit

/-- the table of lines in block P -/
def LtB (w : World) (P : Nat) (f : Int) (A : Option Addr) (n c1 : Nat) (AT : Option Addr) (m cT : Nat) (v : Value) : Prop := Blk w P #[.int .i64 f, .slice A n c1, .slice AT m cT, v] 84
theorem LtB.below {w w' : World} {P : Nat} {f : Int} {A : Option Addr} {n c1 : Nat} {AT : Option Addr} {m cT : Nat} {v : Value} (h : LtB w P f A n c1 AT m cT v) (hb : Below w.heap.size w w') : LtB w' P f A n c1 AT m cT v := Blk.below h hb
theorem LtB.at {w : World} {P : Nat} {f : Int} {A : Option Addr} {n c1 : Nat} {AT : Option Addr} {m cT : Nat} {v : Value} (h : LtB w P f A n c1 AT m cT v) : w.cell? ⟨P, 0, none⟩ = some (.int .i64 f) ∧ w.cell? ⟨P, 1, none⟩ = some (.slice A n c1) ∧ w.cell? ⟨P, 2, none⟩ = some (.slice AT m cT) ∧ w.cell? ⟨P, 3, none⟩ = some v :=
  ⟨by rw [Blk.cell h]; rfl, by rw [Blk.cell h]; rfl, by rw [Blk.cell h]; rfl, by rw [Blk.cell h]; rfl⟩
set_option maxHeartbeats 4000000 in
theorem fo_any (f : Int) (c : List Pi) (A : Option Addr) (n c1 : Nat) (AT : Option Addr) (m cT : Nat) (v : Value) (P k : Nat) (q p : Pi) (w : World) (hk : 0 < k) (hk2 : k < n) (hn : c.length = n) (hm : n ≤ 2000000) (hc : RowPi w w.heap.size A c) (hP : LtB w P f A n c1 AT m cT v) :
    Calls Try.prog 63 #[.pointer (some ⟨P, 0, none⟩), .int .i64 k, .agg #[.int .i64 q.step, .int .i64 q.alter, .int .i64 q.octave], .agg #[.int .i64 p.step, .int .i64 p.alter, .int .i64 p.octave]] w fun e w' => e = .returned (.bool (stP c k q p == 0)) ∧ Below w.heap.size w w' := by
  subst hn
  obtain ⟨j, hj⟩ : ∃ j : Nat, k = j + 1 := ⟨k - 1, by omega⟩
  have hkj : (k : Int) - 1 = (j : Int) := by omega
  obtain ⟨x, hx⟩ : ∃ x, atPi c k = x := ⟨_, rfl⟩
  obtain ⟨y, hy⟩ : ∃ y, atPi c j = y := ⟨_, rfl⟩
  obtain ⟨la, hla⟩ : ∃ la, ((k : Int) == (c.length : Int) - 1) = la := ⟨_, rfl⟩
  obtain ⟨lb, hlb⟩ : ∃ lb, ((j : Int) == (c.length : Int) - 1) = lb := ⟨_, rfl⟩
  obtain ⟨t2, ht2⟩ : ∃ t2, stP c k q p = t2 := ⟨_, rfl⟩
  have HJ := Lib.hid hj
  have HX := Lib.hid hx
  have HY := Lib.hid hy
  have HLA := Lib.hid hla
  have HLB := Lib.hid hlb
  have HT2 := Lib.hid ht2
  clear hx hy hla hlb ht2
  have hjn : j < c.length := by omega
  clear hj
  go_enter Try.func63, Try.ntmps63
  go_upto_region 1 with fail
  have bQ : Blk ((w.alloc (.cells #[.int .i64 q.step, .int .i64 q.alter, .int .i64 q.octave] 43)).alloc (.cells #[.int .i64 p.step, .int .i64 p.alter, .int .i64 p.octave] 43)) w.heap.size #[.int .i64 q.step, .int .i64 q.alter, .int .i64 q.octave] 43 := (Blk.new w _ _).alloc _
  have bP : Blk ((w.alloc (.cells #[.int .i64 q.step, .int .i64 q.alter, .int .i64 q.octave] 43)).alloc (.cells #[.int .i64 p.step, .int .i64 p.alter, .int .i64 p.octave] 43)) (w.heap.size + 1) #[.int .i64 p.step, .int .i64 p.alter, .int .i64 p.octave] 43 := by have h := Blk.new (w.alloc (.cells #[.int .i64 q.step, .int .i64 q.alter, .int .i64 q.octave] 43)) #[.int .i64 p.step, .int .i64 p.alter, .int .i64 p.octave] 43; simpa using h
  have bw : Below w.heap.size w ((w.alloc (.cells #[.int .i64 q.step, .int .i64 q.alter, .int .i64 q.octave] 43)).alloc (.cells #[.int .i64 p.step, .int .i64 p.alter, .int .i64 p.octave] 43)) := bel_al (bel_al (bel_refl _) _) _
  generalize ((w.alloc (.cells #[.int .i64 q.step, .int .i64 q.alter, .int .i64 q.octave] 43)).alloc (.cells #[.int .i64 p.step, .int .i64 p.alter, .int .i64 p.octave] 43)) = w0 at *
  have hcX := hc.below bw
  obtain ⟨l0, l1, l2, l3⟩ := (hP.below bw).at
  have q0 : w0.cell? ⟨w.heap.size, 0, none⟩ = some (.int .i64 q.step) := by rw [Blk.cell bQ]; rfl
  have q1 : w0.cell? ⟨w.heap.size, 1, none⟩ = some (.int .i64 q.alter) := by rw [Blk.cell bQ]; rfl
  have q2 : w0.cell? ⟨w.heap.size, 2, none⟩ = some (.int .i64 q.octave) := by rw [Blk.cell bQ]; rfl
  have p0 : w0.cell? ⟨w.heap.size + 1, 0, none⟩ = some (.int .i64 p.step) := by rw [Blk.cell bP]; rfl
  have p1 : w0.cell? ⟨w.heap.size + 1, 1, none⟩ = some (.int .i64 p.alter) := by rw [Blk.cell bP]; rfl
  have p2 : w0.cell? ⟨w.heap.size + 1, 2, none⟩ = some (.int .i64 p.octave) := by rw [Blk.cell bP]; rfl
  have LA : ∀ xL : Later w0, Calls Try.prog 48 #[.int .i64 f, .slice A c.length c1, .int .i64 j, .agg #[.int .i64 q.step, .int .i64 q.alter, .int .i64 q.octave]] xL.world fun e w'' => e = .returned (.agg #[.int .i64 f, .int .i64 j, .bool lb, .int .i64 y.step, .int .i64 y.alter, .int .i64 y.octave, .int .i64 q.step, .int .i64 q.alter, .int .i64 q.octave]) ∧ ∃ z : Later w0, w'' = z.world := fun xL => later_call (by have h := ta_any f A c.length c1 c j q.step q.alter q.octave lb xL.world hjn rfl hm HLB.out (hcX.below xL.bel); rw [HY.out] at h; exact h)
  have LC : ∀ xL : Later w0, Calls Try.prog 48 #[.int .i64 f, .slice A c.length c1, .int .i64 k, .agg #[.int .i64 p.step, .int .i64 p.alter, .int .i64 p.octave]] xL.world fun e w'' => e = .returned (.agg #[.int .i64 f, .int .i64 k, .bool la, .int .i64 x.step, .int .i64 x.alter, .int .i64 x.octave, .int .i64 p.step, .int .i64 p.alter, .int .i64 p.octave]) ∧ ∃ z : Later w0, w'' = z.world := fun xL => later_call (by have h := ta_any f A c.length c1 c k p.step p.alter p.octave la xL.world hk2 rfl hm HLA.out (hcX.below xL.bel); rw [HX.out] at h; exact h)
  have LB : ∀ xL : Later w0, Calls Try.prog 50 #[.agg #[.int .i64 f, .int .i64 j, .bool lb, .int .i64 y.step, .int .i64 y.alter, .int .i64 y.octave, .int .i64 q.step, .int .i64 q.alter, .int .i64 q.octave], .agg #[.int .i64 f, .int .i64 k, .bool la, .int .i64 x.step, .int .i64 x.alter, .int .i64 x.octave, .int .i64 p.step, .int .i64 p.alter, .int .i64 p.octave]] xL.world fun e w'' => e = .returned (.int .i64 t2) ∧ ∃ z : Later w0, w'' = z.world := fun xL => later_call (by have h := sf_any f j lb y.step y.alter y.octave q.step q.alter q.octave f k la x.step x.alter x.octave p.step p.alter p.octave (kyP y) (kyP q) (kyP x) (kyP p) rfl rfl rfl rfl xL.world; rw [show stK (kyP y) (kyP q) (kyP x) (kyP p) = t2 from by rw [← HT2.out]; unfold stP; rw [show k - 1 = j from by have := HJ.out; omega, HX.out, HY.out]] at h; exact h)
  have hj0 : (0 : Int) ≤ (j : Int) := by omega
  have hk0 : (0 : Int) ≤ (k : Int) := by omega
  have lf0 : ∀ xL : Later w0, xL.world.cell? ⟨P, 0, none⟩ = some (.int .i64 f) := fun xL => xL.at (l0)
  have lf1 : ∀ xL : Later w0, xL.world.cell? ⟨P, 1, none⟩ = some (.slice A c.length c1) := fun xL => xL.at (l1)
  have lf2 : ∀ xL : Later w0, xL.world.cell? ⟨w.heap.size, 0, none⟩ = some (.int .i64 q.step) := fun xL => xL.at (q0)
  have lf3 : ∀ xL : Later w0, xL.world.cell? ⟨w.heap.size, 1, none⟩ = some (.int .i64 q.alter) := fun xL => xL.at (q1)
  have lf4 : ∀ xL : Later w0, xL.world.cell? ⟨w.heap.size, 2, none⟩ = some (.int .i64 q.octave) := fun xL => xL.at (q2)
  have lf5 : ∀ xL : Later w0, xL.world.cell? ⟨w.heap.size + 1, 0, none⟩ = some (.int .i64 p.step) := fun xL => xL.at (p0)
  have lf6 : ∀ xL : Later w0, xL.world.cell? ⟨w.heap.size + 1, 1, none⟩ = some (.int .i64 p.alter) := fun xL => xL.at (p1)
  have lf7 : ∀ xL : Later w0, xL.world.cell? ⟨w.heap.size + 1, 2, none⟩ = some (.int .i64 p.octave) := fun xL => xL.at (p2)
  refine region_later (w0 := w0) (by kernel_rfl) (by kernel_rfl) (bel_refl _) ?_
  repeat (go_big_quiet_step ((first | (go_at_call 48; with_reducible exact LA _) | (go_at_call 48; with_reducible exact LC _) | (go_at_call 50; with_reducible exact LB _))))
  refine wpQuiet_nil ?_
  rintro w' ⟨x, rfl⟩
  obtain ⟨w7, b7⟩ := x
  clear lf0 lf1 lf2 lf3 lf4 lf5 lf6 lf7
  clear LA LB LC l0 l1 l2 l3
  have bw7 := bel_tr bw b7
  go_wp2
  go_ret
  exact ⟨ret_bool (by rw [HT2.out]), bw7⟩
theorem fo_val {f : Int} {c : List Pi} {k : Nat} {q p : Pi} {B : Bool} (hB : (stP c k q p == 0) = B) (A : Option Addr) (n c1 : Nat) (AT : Option Addr) (m cT : Nat) (v : Value) (P : Nat) (w : World) (hk : 0 < k) (hk2 : k < n) (hn : c.length = n) (hm : n ≤ 2000000) (hc : RowPi w w.heap.size A c) (hP : LtB w P f A n c1 AT m cT v) :
    Calls Try.prog 63 #[.pointer (some ⟨P, 0, none⟩), .int .i64 k, .agg #[.int .i64 q.step, .int .i64 q.alter, .int .i64 q.octave], .agg #[.int .i64 p.step, .int .i64 p.alter, .int .i64 p.octave]] w fun e w' => e = .returned (.bool B) ∧ Below w.heap.size w w' := by
  have := fo_any f c A n c1 AT m cT v P k q p w hk hk2 hn hm hc hP
  rw [hB] at this
  exact this
set_option maxRecDepth 20000 in
set_option maxHeartbeats 8000000 in
theorem af_any (f : Int) (c T : List Pi) (A : Option Addr) (n c1 : Nat) (AT : Option Addr) (m cT : Nat) (P G base k : Nat) (p : Pi) (w : World) (hk : k < n) (hn : c.length = n) (hc10 : c.length ≤ 10) (hmT : T.length = m) (hT63 : T.length ≤ 63) (hc : RowPi w w.heap.size A c) (hT : RowPi w w.heap.size AT T)
    (hP : LtB w P f A n c1 AT m cT (.slice (some ⟨G, 0, none⟩) n n)) (hTab : Tab w base G n m (k + 1) (fun a b => cnI f c T a (atPi T b))) :
    Calls Try.prog 87 #[.pointer (some ⟨P, 0, none⟩), .int .i64 k, .agg #[.int .i64 p.step, .int .i64 p.alter, .int .i64 p.octave]] w fun e w' => e = .returned (.int .i64 (afI f c T k p)) ∧ Below w.heap.size w w' := by
  subst hn hmT
  obtain ⟨l0, l1, l2, l3⟩ := (hP.below (bel_al (bel_refl w) (.cells #[.int .i64 p.step, .int .i64 p.alter, .int .i64 p.octave] 43))).at
  by_cases hl : k + 1 = c.length
  · have hkb : ((k : Int) == (c.length : Int) - 1) = true := by simp only [beq_iff_eq]; omega
    have HL := Lib.hid (afI_last (f := f) (c := c) (T := T) (p := p) (show k + 1 = c.length from hl))
    have i1 := IntWalk.i64_in ((c.length : Int) - 1) (by omega)
    clear hl
    go_enter Try.func87, Try.ntmps87
    go_wp2
    go_ret
    exact ⟨ret_int HL.out.symm, bel_al (bel_refl _) _⟩
  · have hkb : ((k : Int) == (c.length : Int) - 1) = false := by simp only [beq_eq_false_iff_ne, ne_eq]; omega
    have HN := Lib.hid (afI_next (f := f) (c := c) (T := T) (k := k) (p := p) (by omega))
    have hk1 : k + 1 < c.length := by omega
    have i1 := IntWalk.i64_in ((c.length : Int) - 1) (by omega)
    have ik := IntWalk.i64_in ((k : Int) + 1) (by omega)
    have EK := Lib.hid (show (k : Int) + 1 = ((k + 1 : Nat) : Int) from by omega)
    clear hl
    have bP0 : Blk (w.alloc (.cells #[.int .i64 p.step, .int .i64 p.alter, .int .i64 p.octave] 43)) w.heap.size #[.int .i64 p.step, .int .i64 p.alter, .int .i64 p.octave] 43 := Blk.new w _ _
    have b0 : Below w.heap.size w (w.alloc (.cells #[.int .i64 p.step, .int .i64 p.alter, .int .i64 p.octave] 43)) := bel_al (bel_refl w) _
    go_enter Try.func87, Try.ntmps87
    go_wp2
    generalize (w.alloc (.cells #[.int .i64 p.step, .int .i64 p.alter, .int .i64 p.octave] 43)) = w0 at *
    go_loopw [7, 8, 9, 23] (fun o _ _ i wr => ∃ j : Nat, j ≤ T.length ∧ i = .int .i64 j ∧ o = .int .i64 (sumK (nxI f c T k p) T j) ∧ Blk wr w.heap.size #[.int .i64 p.step, .int .i64 p.alter, .int .i64 p.octave] 43 ∧ Below w.heap.size w wr) (fun _ _ _ i _ => T.length - (intOf i).toNat)
    case atStart => exact ⟨0, Nat.zero_le _, rfl, rfl, bP0, b0⟩
    case round =>
      obtain ⟨j, hj, rfl, rfl, bP, hb⟩ := hrel
      clear bP0 b0
      by_cases hlt : j < T.length
      · obtain ⟨tb, toff, rfl, htb, htc⟩ := (hT.below hb) (by omega)
        have htj := htc j hlt
        clear htc
        have hjl : (j : Int) < (T.length : Int) := by omega
        have hj0 : (0 : Int) ≤ (j : Int) := by omega
        have hS := sum_bd hT63 (nxI_bd (f := f) (c := c) hT63 hc10 k p) j (by omega)
        have hN1 := nxI_bd (f := f) (c := c) hT63 hc10 k p (atPi T j)
        have hss := sumK_s (nxI f c T k p) T j
        obtain ⟨r, hr1, hr2, hr3, hr4, hr5, hr6⟩ := (hTab.below hb).row (k + 1) (Nat.le_refl _) hk1
        have hr7 := hr6 j (by omega)
        clear hr6
        obtain ⟨S, hSe⟩ : ∃ S, sumK (nxI f c T k p) T j = S := ⟨_, rfl⟩
        obtain ⟨q, hq⟩ : ∃ q, atPi T j = q := ⟨_, rfl⟩
        rw [hq] at htj hr7 hN1 hss
        rw [hSe] at hS hss ⊢
        obtain ⟨N, hNe⟩ : ∃ N, nxI f c T k p q = N := ⟨_, rfl⟩
        rw [hNe] at hN1 hss
        have HS := Lib.hid hSe
        have HQ := Lib.hid hq
        have HNE := Lib.hid hNe
        have HSS := Lib.hid hss
        clear hSe hq hNe hss
        obtain ⟨q0, q1, q2⟩ := htj
        obtain ⟨l0, l1, l2, l3⟩ := (hP.below hb).at
        obtain ⟨S0, S1⟩ := hS
        obtain ⟨N0, N1⟩ := hN1
        have bX : Blk (wr.alloc (.cells #[.int .i64 q.step, .int .i64 q.alter, .int .i64 q.octave] 43)) wr.heap.size #[.int .i64 q.step, .int .i64 q.alter, .int .i64 q.octave] 43 := Blk.new wr _ _
        have hbl := bel_al (bel_refl wr) (.cells #[.int .i64 q.step, .int .i64 q.alter, .int .i64 q.octave] 43)
        have hcX := hc.below (bel_tr hb hbl)
        have hPX := hP.below (bel_tr hb hbl)
        have bP1 := bP.below hbl
        have hb1 := bel_tr hb hbl
        have hr1x := keep_tr hr1 hbl
        have hr7x := keep_tr hr7 hbl
        go_upto_region 7 with fail
        clear q0 q1 q2 l0 l1 l2 l3 hr1 hr7 hbl
        generalize (wr.alloc (.cells #[.int .i64 q.step, .int .i64 q.alter, .int .i64 q.octave] 43)) = v1 at *
        generalize wr.heap.size = X at *
        have m0 : v1.cell? ⟨X, 0, none⟩ = some (.int .i64 q.step) := by rw [Blk.cell bX]; rfl
        have m1 : v1.cell? ⟨X, 1, none⟩ = some (.int .i64 q.alter) := by rw [Blk.cell bX]; rfl
        have m2 : v1.cell? ⟨X, 2, none⟩ = some (.int .i64 q.octave) := by rw [Blk.cell bX]; rfl
        have p0 : v1.cell? ⟨w.heap.size, 0, none⟩ = some (.int .i64 p.step) := by rw [Blk.cell bP1]; rfl
        have p1 : v1.cell? ⟨w.heap.size, 1, none⟩ = some (.int .i64 p.alter) := by rw [Blk.cell bP1]; rfl
        have p2 : v1.cell? ⟨w.heap.size, 2, none⟩ = some (.int .i64 p.octave) := by rw [Blk.cell bP1]; rfl
        have hFO : ∀ B, (stP c (k + 1) p q == 0) = B → Calls Try.prog 63 #[.pointer (some ⟨P, 0, none⟩), .int .i64 ((k : Int) + 1), .agg #[.int .i64 p.step, .int .i64 p.alter, .int .i64 p.octave], .agg #[.int .i64 q.step, .int .i64 q.alter, .int .i64 q.octave]] v1 fun e w' => e = .returned (.bool B) ∧ Below v1.heap.size v1 w' := fun B hB => by rw [EK.out]; exact fo_val hB A c.length c1 _ T.length cT (.slice (some ⟨G, 0, none⟩) c.length c.length) P v1 (by omega) hk1 rfl (by omega) hcX hPX
        cases hst : (stP c (k + 1) p q == 0)
        · have hF := hFO _ hst
          clear hFO
          have hN0 : N = 0 := by rw [← HNE.out]; unfold nxI; rw [if_neg (by simpa using hst)]
          have HN0 := Lib.hid hN0
          clear hst hN0
          go_wp2_with fail
          refine hF.mono ?_
          rintro e5 w5 ⟨rfl, b5⟩
          clear m0 m1 m2 p0 p1 p2 hF
          replace bP1 := bP1.below b5
          replace hb1 := bel_tr hb1 b5
          go_wp2
          go_roundw
          case rel => exact ⟨j + 1, by omega, by go_num, by rw [HSS.out, HN0.out, Int.add_zero], bP1, hb1⟩
          case measure => simp [intOf]; omega
        · have hF := hFO _ hst
          clear hFO
          have hNc : N = cnI f c T (k + 1) q := by rw [← HNE.out]; unfold nxI; rw [if_pos (by simpa using hst)]
          rw [← hNc] at hr7x
          clear hst hNc
          go_wp2_with fail
          refine hF.mono ?_
          rintro e5 w5 ⟨rfl, b5⟩
          clear m0 m1 m2 p0 p1 p2 hF
          replace bP1 := bP1.below b5
          replace hb1 := bel_tr hb1 b5
          obtain ⟨l0, l1, l2, l3⟩ := (hPX.below b5).at
          replace hr1x := keep_tr hr1x b5
          replace hr7x := keep_tr hr7x b5
          have hk10 : (0 : Int) ≤ (k : Int) + 1 := by omega
          have hk11 : (k : Int) + 1 < (c.length : Int) := by omega
          have hk12 : ((k : Int) + 1).toNat = k + 1 := by omega
          go_wp2
          go_roundw
          case rel => exact ⟨j + 1, by omega, by go_num, by rw [HSS.out], bP1, hb1⟩
          case measure => simp [intOf]; omega
      · have hjl : j = T.length := by omega
        subst hjl
        go_wp2
        go_ret
        exact ⟨ret_int HN.out.symm, hb⟩
end Go.Proofs.Ytkchlgmlfihkdaa
