/- All chords of a bass pitch and its tones: the program's. Chords that can follow, and those that can be gone on from: the program's. Chords found for a bass, plain: what the program computes. -/
import Derived.Test.YtpjakgnghpapmaaBs
import Derived.Test.YtpjakgnghpapmaaBr
import Derived.Test.YtpjakgnghpapmaaBn
import Derived.Test.YtpjakgnghpapmaaMvf
namespace Go.Proofs.Ytpjakgnghpapmaa
set_option linter.unusedSimpArgs false
set_option linter.unusedVariables false
section
open Go.RowKit

theorem ins_memI (x : Pi) (S : List Pi) (y : Pi) (h : y ∈ ins x S) : y = x ∨ y ∈ S := ins_mem x S y h
theorem isort_mem : ∀ (l S : List Pi) (y : Pi), y ∈ isort S l → y ∈ S ∨ y ∈ l
  | [], _, _, h => .inl h
  | x :: r, S, y, h => by
    rcases isort_mem r (ins x S) y h with h | h
    · rcases ins_mem x S y h with h | h
      · exact .inr (by simp [h])
      · exact .inl h
    · exact .inr (by simp [h])
theorem optO_mem (t : Pi) (lo hi : Int) : ∀ (o : Nat) (y : Pi), y ∈ optO t lo hi o → ∃ i : Nat, i < o ∧ y = ⟨t.step, t.alter, i⟩
  | 0, _, h => by cases h
  | o + 1, y, h => by
    unfold optO at h
    split at h
    · rcases List.mem_append.1 h with h | h
      · obtain ⟨i, h1, h2⟩ := optO_mem t lo hi o y h
        exact ⟨i, by omega, h2⟩
      · exact ⟨o, by omega, List.mem_singleton.1 h⟩
    · obtain ⟨i, h1, h2⟩ := optO_mem t lo hi o y h
      exact ⟨i, by omega, h2⟩
theorem optL_mem (l : List Pi) (lo hi : Int) : ∀ (k : Nat) (y : Pi), y ∈ optL l lo hi k → ∃ j : Nat, j < k ∧ y ∈ optO (atPi l j) lo hi 9
  | 0, _, h => by cases h
  | k + 1, y, h => by
    unfold optL at h
    rcases List.mem_append.1 h with h | h
    · obtain ⟨j, h1, h2⟩ := optL_mem l lo hi k y h
      exact ⟨j, by omega, h2⟩
    · exact ⟨k, by omega, h⟩
theorem vp_pv {l : List Pi} (h : pvAll l) (v : Nat) : pvAll (vpL l v) := fun k hk => by
  have hm := at_mem hk
  unfold vpL at hm
  generalize atPi (isort [] (optL l (loR v) (hiR v) l.length)) k = y at hm
  have hm : atPi (vpL l v) k ∈ isort [] (optL l (loR v) (hiR v) l.length) := at_mem hk
  rcases isort_mem _ _ _ hm with hm | hm
  · cases hm
  obtain ⟨j, hj, hm⟩ := optL_mem _ _ _ _ _ hm
  obtain ⟨i, hi, e⟩ := optO_mem _ _ _ _ _ hm
  have hp := pvB_bd (h j hj)
  rw [e]
  exact decide_eq_true ⟨hp.1, hp.2.1, hp.2.2.1, hp.2.2.2.1, by simp only; omega, by simp only; omega⟩
theorem optO_oct (s a o : Int) (lo hi : Int) : ∀ k, optO ⟨s, a, o⟩ lo hi k = optO ⟨s, a, 0⟩ lo hi k
  | 0 => rfl
  | k + 1 => by simp only [optO]; rw [optO_oct s a o lo hi k]
theorem optO_two {t : Pi} (h : pvQ t) (v : Nat) (hv : v < 4) : (optO t (loR v) (hiR v) 9).length ≤ 2 := by
  have k : ∀ (s : Fin 7) (a : Fin 5) (v : Fin 4), (optO ⟨(s.1 : Int), (a.1 : Int) - 2, 0⟩ (loR v.1) (hiR v.1) 9).length ≤ 2 := by decide +kernel
  obtain ⟨h0, h1, h2, h3, _, _⟩ := pvB_bd h
  obtain ⟨s, a, o⟩ := t
  simp only at h0 h1 h2 h3
  have := k ⟨s.toNat, by omega⟩ ⟨(a + 2).toNat, by omega⟩ ⟨v, hv⟩
  simp only at this
  rw [show ((s.toNat : Nat) : Int) = s from by omega, show (((a + 2).toNat : Nat) : Int) - 2 = a from by omega] at this
  rw [optO_oct]
  exact this
theorem optL_two {l : List Pi} (h : pvAll l) (v : Nat) (hv : v < 4) : ∀ k, k ≤ l.length → (optL l (loR v) (hiR v) k).length ≤ 2 * k
  | 0, _ => Nat.le_refl _
  | k + 1, hk => by
    have h1 := optL_two h v hv k (by omega)
    have h2 := optO_two (h k (by omega)) v hv
    unfold optL
    rw [List.length_append]; omega
theorem vp_len (l : List Pi) (v : Nat) : (vpL l v).length = (optL l (loR v) (hiR v) l.length).length := by
  unfold vpL
  rw [isort_len]; simp
/-- chords that the program takes -/
def goodS (bs : Pi) (ts : List Pi) (a b c : Pi) : Bool := decide (stkF [bs, a, b, c] = 0) && smB [bs, a, b, c] ts
def stC (bs : Pi) (ts : List Pi) (a b : Pi) (V : List Pi) : Nat → List (List Pi)
  | 0 => []
  | k + 1 => if goodS bs ts a b (atPi V k) = true then stC bs ts a b V k ++ [[bs, a, b, atPi V k]] else stC bs ts a b V k
def stB (bs : Pi) (ts : List Pi) (a : Pi) (V2 V3 : List Pi) : Nat → List (List Pi)
  | 0 => []
  | k + 1 => stB bs ts a V2 V3 k ++ stC bs ts a (atPi V2 k) V3 V3.length
def stA (bs : Pi) (ts : List Pi) (V1 V2 V3 : List Pi) : Nat → List (List Pi)
  | 0 => []
  | k + 1 => stA bs ts V1 V2 V3 k ++ stB bs ts (atPi V1 k) V2 V3 V2.length
def stkL (bs : Pi) (ts : List Pi) : List (List Pi) := stA bs ts (vpL ts 1) (vpL ts 2) (vpL ts 3) (vpL ts 1).length
theorem stC_len (bs : Pi) (ts : List Pi) (a b : Pi) (V : List Pi) : ∀ k, (stC bs ts a b V k).length ≤ k
  | 0 => Nat.le_refl _
  | k + 1 => by
    have := stC_len bs ts a b V k
    unfold stC
    split
    · rw [List.length_append, List.length_singleton]; omega
    · omega
theorem stB_len (bs : Pi) (ts : List Pi) (a : Pi) (V2 V3 : List Pi) (h : V3.length ≤ 20) : ∀ k, (stB bs ts a V2 V3 k).length ≤ 20 * k
  | 0 => Nat.le_refl _
  | k + 1 => by
    have h1 := stB_len bs ts a V2 V3 h k
    have h2 := stC_len bs ts a (atPi V2 k) V3 V3.length
    unfold stB
    rw [List.length_append]; omega
theorem stA_len (bs : Pi) (ts : List Pi) (V1 V2 V3 : List Pi) (h2 : V2.length ≤ 20) (h3 : V3.length ≤ 20) : ∀ k, (stA bs ts V1 V2 V3 k).length ≤ 400 * k
  | 0 => Nat.le_refl _
  | k + 1 => by
    have k1 := stA_len bs ts V1 V2 V3 h2 h3 k
    have k2 := stB_len bs ts (atPi V1 k) V2 V3 h3 V2.length
    unfold stA
    rw [List.length_append]; omega
/-- what lies whole as pitches lies so on -/
def Kp (w w' : World) : Prop := ∀ b cs, Blk w b cs 62 → Blk w' b cs 62
theorem Kp.refl (w : World) : Kp w w := fun _ _ h => h
theorem Kp.trans {a b c : World} (h : Kp a b) (k : Kp b c) : Kp a c := fun _ _ x => k _ _ (h _ _ x)
theorem Kp.bel {w w' : World} (h : Below w.heap.size w w') : Kp w w' := fun _ _ x => x.below h
theorem Kp.row {w w' : World} {lo n : Nat} {v : Value} {xs : List Value} (h : w.ownsRow lo 37 1 v n xs) (hg : w.grownBy w' v.ownBlock) : Kp w w' := fun _ _ x => x.grown hg (own_ne h x (by decide))
theorem StP.kp {w w' : World} {lo : Nat} {A : Option Addr} {l : List Pi} (h : StP w lo A l) (k : Kp w w') : StP w' lo A l := fun hl => by
  obtain ⟨b, off, cs, e, h1, h2, h3⟩ := h hl
  exact ⟨b, off, cs, e, h1, k _ _ h2, h3⟩
theorem OwPV.below {w w' : World} {lo : Nat} {v : Value} {ll : List (List Pi)} {vs : List Value} (h : OwPV w lo v ll vs) (b : Below w.heap.size w w') : OwPV w' lo v ll vs :=
  ⟨own_below h.1 b, fun i hi => by obtain ⟨Ai, ci, h1, h2, h3, h4⟩ := h.2 i hi; exact ⟨Ai, ci, h1, h2, h3, h4.kp (Kp.bel b)⟩⟩
theorem stk_val {l : List Pi} {z : Int} (hz : stkF l = z) (A : Option Addr) (n c : Nat) (w : World) (hn : l.length = n) (hm : n ≤ 2000000) (h : RowPi w w.heap.size A l) :
    Calls Try.prog 21 #[.slice A n c] w fun e w' => e = .returned (.int .i64 z) ∧ Below w.heap.size w w' := by
  rw [← hz]; exact stk_any A n c l w hn hm h
theorem same_val {a b : List Pi} {z : Bool} (hz : smB a b = z) (A A' : Option Addr) (n n' c c' : Nat) (w : World) (hn : a.length = n) (hn' : b.length = n') (hm : n ≤ 2000000) (hm' : n' ≤ 2000000) (h : RowPi w w.heap.size A a) (h' : RowPi w w.heap.size A' b) (ha : pvAll a) (hb : pvAll b) :
    Calls Try.prog 79 #[.slice A n c, .slice A' n' c'] w fun e w' => e = .returned (.bool z) ∧ Below w.heap.size w w' := by
  rw [← hz]; exact same_any A A' n n' c c' a b w hn hn' hm hm' h h' ha hb
set_option maxRecDepth 20000 in
set_option maxHeartbeats 16000000 in
theorem sto_any (bs : Pi) (A : Option Addr) (c : Nat) (ts : List Pi) (w : World) (h : RowPi w w.heap.size A ts) (hl : ts.length ≤ 100) (hv : pvAll ts) (hb : pvQ bs) (hN : ∀ v, v < 4 → (optL ts (loR v) (hiR v) ts.length).length < 20) :
    Calls Try.prog 64 #[.agg #[.int .i64 bs.step, .int .i64 bs.alter, .int .i64 bs.octave], .slice A ts.length c] w fun e w' => ∃ v vs, e = .returned v ∧ OwPV w' w.heap.size v (stkL bs ts) vs ∧ Below w.heap.size w w' := by
  obtain ⟨i0, hi0, hz0, hz1, hz2⟩ := info_parts infoPS
  obtain ⟨V1, hV1⟩ : ∃ V, vpL ts 1 = V := ⟨_, rfl⟩
  have q1 : pvAll V1 := by rw [← hV1]; exact vp_pv hv _
  have n1 : V1.length < 20 := by rw [← hV1, vp_len]; exact hN 1 (by omega)
  obtain ⟨V2, hV2⟩ : ∃ V, vpL ts 2 = V := ⟨_, rfl⟩
  have q2 : pvAll V2 := by rw [← hV2]; exact vp_pv hv _
  have n2 : V2.length < 20 := by rw [← hV2, vp_len]; exact hN 2 (by omega)
  obtain ⟨V3, hV3⟩ : ∃ V, vpL ts 3 = V := ⟨_, rfl⟩
  have q3 : pvAll V3 := by rw [← hV3]; exact vp_pv hv _
  have n3 : V3.length < 20 := by rw [← hV3, vp_len]; exact hN 3 (by omega)
  have HLL : Hid (stkL bs ts = stA bs ts V1 V2 V3 V1.length) := Lib.hid (by unfold stkL; rw [hV1, hV2, hV3])
  have HV1 := Lib.hid hV1
  have HV2 := Lib.hid hV2
  have HV3 := Lib.hid hV3
  rw [HLL.out]
  clear hV1 hV2 hV3
  go_enter Try.func64, Try.ntmps64
  have bB0 : Blk (w.alloc (.cells #[.int .i64 bs.step, .int .i64 bs.alter, .int .i64 bs.octave] 62)) w.heap.size #[.int .i64 bs.step, .int .i64 bs.alter, .int .i64 bs.octave] 62 := Blk.new w _ _
  have bB0 := bB0.alloc (.cells #[] 37)
  have hown : OwPV ((w.alloc (.cells #[.int .i64 bs.step, .int .i64 bs.alter, .int .i64 bs.octave] 62)).alloc (.cells #[] 37)) w.heap.size (.slice (some ⟨w.heap.size + 1, 0, none⟩) 0 0) [] [] := ⟨by
    have := World.ownsRow_lit (base := w.heap.size) (e := 37) (size := 1) (w.alloc (.cells #[.int .i64 bs.step, .int .i64 bs.alter, .int .i64 bs.octave] 62)) #[] 0 (by simp) (by simp [maxLen]) rfl
    rw [show (w.alloc (.cells #[.int .i64 bs.step, .int .i64 bs.alter, .int .i64 bs.octave] 62)).heap.size = w.heap.size + 1 from by simp] at this
    exact this, fun i hi => absurd hi (by simp)⟩
  have bw : Below w.heap.size w ((w.alloc (.cells #[.int .i64 bs.step, .int .i64 bs.alter, .int .i64 bs.octave] 62)).alloc (.cells #[] 37)) := bel_al (bel_al (bel_refl w) _) _
  go_wp2_with fail
  refine (vp_any A c 1 ts _ (h.below bw) hl (by omega) (hN 1 (by omega))).mono ?_
  rintro e1 w1 ⟨g1, c1, rfl, b1, own⟩
  rw [HV1.out] at own ⊢
  obtain ⟨_, _, e, _, _, S1⟩ := StP.of own
  cases e
  clear own
  have bB0 := bB0.below b1
  have hown := hown.below b1
  have S1 := S1.lo (show w.heap.size ≤ _ from bw.size)
  have bw := bel_tr bw b1
  clear b1
  go_wp2_with fail
  go_loopw [5, 17] (fun v i wr => ∃ k : Nat, k ≤ V1.length ∧ i = .int .i64 k ∧ (∃ vs, OwPV wr w.heap.size v (stA bs ts V1 V2 V3 k) vs) ∧ Below w.heap.size w wr ∧ Kp w1 wr) (fun _ i _ => V1.length - (intOf i).toNat)
  case atStart => exact ⟨0, Nat.zero_le _, rfl, ⟨_, hown⟩, bw, Kp.refl _⟩
  case round =>
    clear hown bw
    obtain ⟨k1, hk1, rfl, ⟨vs, hown⟩, bw, K1⟩ := hrel
    have bB0 := K1 _ _ bB0
    by_cases hlt1 : k1 < V1.length
    · have hl1 : (k1 : Int) < (V1.length : Int) := by omega
      have hnn1 : (0 : Int) ≤ (k1 : Int) := by omega
      obtain ⟨b9, o9, e, _, hcc⟩ := (S1.kp K1).row (by omega)
      cases e
      have hx := hcc k1 hlt1
      clear hcc
      have px1 := q1 k1 hlt1
      obtain ⟨x1, hX⟩ : ∃ x, atPi V1 k1 = x := ⟨_, rfl⟩
      rw [hX] at hx px1
      simp only [Nat.zero_add] at hx
      obtain ⟨x_0, x_1, x_2⟩ := hx
      obtain ⟨M1, hM⟩ : ∃ M, stA bs ts V1 V2 V3 k1 = M := ⟨_, rfl⟩
      rw [hM] at hown
      have HM1 := Lib.hid (show stA bs ts V1 V2 V3 (k1 + 1) = M1 ++ stB bs ts x1 V2 V3 V2.length from by rw [← hM, stA, hX])
      have lM1 : M1.length ≤ 400 * k1 := by
        rw [← hM]
        exact stA_len _ _ _ _ _ (by omega) (by omega) _
      clear hM hX
      have bX1 : Blk (wr.alloc (.cells #[.int .i64 x1.step, .int .i64 x1.alter, .int .i64 x1.octave] 62)) wr.heap.size #[.int .i64 x1.step, .int .i64 x1.alter, .int .i64 x1.octave] 62 := Blk.new wr _ _
      have hown := hown.alloc (.cells #[.int .i64 x1.step, .int .i64 x1.alter, .int .i64 x1.octave] 62)
      have bB0 := bB0.alloc (.cells #[.int .i64 x1.step, .int .i64 x1.alter, .int .i64 x1.octave] 62)
      have Kv1 := K1.trans (Kp.bel (bel_al (bel_refl wr) (.cells #[.int .i64 x1.step, .int .i64 x1.alter, .int .i64 x1.octave] 62)))
      have S1 := S1.kp Kv1
      have bw := bel_al bw (.cells #[.int .i64 x1.step, .int .i64 x1.alter, .int .i64 x1.octave] 62)
      go_upto_region 5 with fail
      clear x_0 x_1 x_2
      generalize (wr.alloc (.cells #[.int .i64 x1.step, .int .i64 x1.alter, .int .i64 x1.octave] 62)) = v1 at *
      generalize wr.heap.size = X1 at *
      go_wp2_with fail
      refine (vp_any A c 2 ts _ (h.below bw) hl (by omega) (hN 2 (by omega))).mono ?_
      rintro e2 w2 ⟨g2, c2, rfl, b2, own⟩
      rw [HV2.out] at own ⊢
      obtain ⟨_, _, e, _, _, S2⟩ := StP.of own
      cases e
      clear own
      have bB0 := bB0.below b2
      have bX1 := bX1.below b2
      have S1 := S1.kp (Kp.bel b2)
      have hown := hown.below b2
      have Kc2 := Kv1.trans (Kp.bel b2)
      have S2 := S2.lo (show w.heap.size ≤ _ from bw.size)
      have bw := bel_tr bw b2
      clear b2
      go_wp2_with fail
      go_loopw [5, 24] (fun v i wr => ∃ k : Nat, k ≤ V2.length ∧ i = .int .i64 k ∧ (∃ vs, OwPV wr w.heap.size v (M1 ++ stB bs ts x1 V2 V3 k) vs) ∧ Below w.heap.size w wr ∧ Kp w2 wr) (fun _ i _ => V2.length - (intOf i).toNat)
      case atStart => exact ⟨0, Nat.zero_le _, rfl, ⟨_, by rw [show M1 ++ stB bs ts x1 V2 V3 0 = M1 from List.append_nil _]; exact hown⟩, bw, Kp.refl _⟩
      case round =>
        clear hown bw
        obtain ⟨k2, hk2, rfl, ⟨vs, hown⟩, bw, K2⟩ := hrel
        have bB0 := K2 _ _ bB0
        have bX1 := K2 _ _ bX1
        have S1 := S1.kp K2
        by_cases hlt2 : k2 < V2.length
        · have hl2 : (k2 : Int) < (V2.length : Int) := by omega
          have hnn2 : (0 : Int) ≤ (k2 : Int) := by omega
          obtain ⟨b9, o9, e, _, hcc⟩ := (S2.kp K2).row (by omega)
          cases e
          have hx := hcc k2 hlt2
          clear hcc
          have px2 := q2 k2 hlt2
          obtain ⟨x2, hX⟩ : ∃ x, atPi V2 k2 = x := ⟨_, rfl⟩
          rw [hX] at hx px2
          simp only [Nat.zero_add] at hx
          obtain ⟨x_0, x_1, x_2⟩ := hx
          obtain ⟨M2, hM⟩ : ∃ M, M1 ++ stB bs ts x1 V2 V3 k2 = M := ⟨_, rfl⟩
          rw [hM] at hown
          have HM2 := Lib.hid (show M1 ++ stB bs ts x1 V2 V3 (k2 + 1) = M2 ++ stC bs ts x1 x2 V3 V3.length from by rw [← hM, stB, hX, List.append_assoc])
          have lM2 : M2.length ≤ 8000 + 20 * k2 := by
            rw [← hM]
            have := stB_len bs ts x1 V2 V3 (by omega) k2; rw [List.length_append]; omega
          clear hM hX
          have bX2 : Blk (wr.alloc (.cells #[.int .i64 x2.step, .int .i64 x2.alter, .int .i64 x2.octave] 62)) wr.heap.size #[.int .i64 x2.step, .int .i64 x2.alter, .int .i64 x2.octave] 62 := Blk.new wr _ _
          have hown := hown.alloc (.cells #[.int .i64 x2.step, .int .i64 x2.alter, .int .i64 x2.octave] 62)
          have bB0 := bB0.alloc (.cells #[.int .i64 x2.step, .int .i64 x2.alter, .int .i64 x2.octave] 62)
          have bX1 := bX1.alloc (.cells #[.int .i64 x2.step, .int .i64 x2.alter, .int .i64 x2.octave] 62)
          have S1 := S1.kp (Kp.bel (bel_al (bel_refl wr) (.cells #[.int .i64 x2.step, .int .i64 x2.alter, .int .i64 x2.octave] 62)))
          have Kv2 := K2.trans (Kp.bel (bel_al (bel_refl wr) (.cells #[.int .i64 x2.step, .int .i64 x2.alter, .int .i64 x2.octave] 62)))
          have S2 := S2.kp Kv2
          have bw := bel_al bw (.cells #[.int .i64 x2.step, .int .i64 x2.alter, .int .i64 x2.octave] 62)
          go_upto_region 8 with fail
          clear x_0 x_1 x_2
          generalize (wr.alloc (.cells #[.int .i64 x2.step, .int .i64 x2.alter, .int .i64 x2.octave] 62)) = v2 at *
          generalize wr.heap.size = X2 at *
          go_wp2_with fail
          refine (vp_any A c 3 ts _ (h.below bw) hl (by omega) (hN 3 (by omega))).mono ?_
          rintro e3 w3 ⟨g3, c3, rfl, b3, own⟩
          rw [HV3.out] at own ⊢
          obtain ⟨_, _, e, _, _, S3⟩ := StP.of own
          cases e
          clear own
          have bB0 := bB0.below b3
          have bX1 := bX1.below b3
          have bX2 := bX2.below b3
          have S1 := S1.kp (Kp.bel b3)
          have S2 := S2.kp (Kp.bel b3)
          have hown := hown.below b3
          have Kc3 := Kv2.trans (Kp.bel b3)
          have S3 := S3.lo (show w.heap.size ≤ _ from bw.size)
          have bw := bel_tr bw b3
          clear b3
          go_wp2_with fail
          go_loopw [5, 31] (fun v i wr => ∃ k : Nat, k ≤ V3.length ∧ i = .int .i64 k ∧ (∃ vs, OwPV wr w.heap.size v (M2 ++ stC bs ts x1 x2 V3 k) vs) ∧ Below w.heap.size w wr ∧ Kp w3 wr) (fun _ i _ => V3.length - (intOf i).toNat)
          case atStart => exact ⟨0, Nat.zero_le _, rfl, ⟨_, by rw [show M2 ++ stC bs ts x1 x2 V3 0 = M2 from List.append_nil _]; exact hown⟩, bw, Kp.refl _⟩
          case round =>
            clear hown bw
            obtain ⟨k3, hk3, rfl, ⟨vs, hown⟩, bw, K3⟩ := hrel
            have bB0 := K3 _ _ bB0
            have bX1 := K3 _ _ bX1
            have bX2 := K3 _ _ bX2
            have S1 := S1.kp K3
            have S2 := S2.kp K3
            by_cases hlt3 : k3 < V3.length
            · have hl3 : (k3 : Int) < (V3.length : Int) := by omega
              have hnn3 : (0 : Int) ≤ (k3 : Int) := by omega
              obtain ⟨b9, o9, e, _, hcc⟩ := (S3.kp K3).row (by omega)
              cases e
              have hx := hcc k3 hlt3
              clear hcc
              have px3 := q3 k3 hlt3
              obtain ⟨x3, hX⟩ : ∃ x, atPi V3 k3 = x := ⟨_, rfl⟩
              rw [hX] at hx px3
              simp only [Nat.zero_add] at hx
              obtain ⟨x_0, x_1, x_2⟩ := hx
              obtain ⟨L, hL⟩ : ∃ L, M2 ++ stC bs ts x1 x2 V3 k3 = L := ⟨_, rfl⟩
              rw [hL] at hown
              have lL : L.length ≤ 9000 := by
                have := stC_len bs ts x1 x2 V3 k3
                rw [← hL, List.length_append]; omega
              have HX3 := Lib.hid hX
              have HL := Lib.hid hL
              clear hL hX
              have bX3 : Blk (wr.alloc (.cells #[.int .i64 x3.step, .int .i64 x3.alter, .int .i64 x3.octave] 62)) wr.heap.size #[.int .i64 x3.step, .int .i64 x3.alter, .int .i64 x3.octave] 62 := Blk.new wr _ _
              have hown := hown.alloc (.cells #[.int .i64 x3.step, .int .i64 x3.alter, .int .i64 x3.octave] 62)
              have bB0 := bB0.alloc (.cells #[.int .i64 x3.step, .int .i64 x3.alter, .int .i64 x3.octave] 62)
              have bX1 := bX1.alloc (.cells #[.int .i64 x3.step, .int .i64 x3.alter, .int .i64 x3.octave] 62)
              have bX2 := bX2.alloc (.cells #[.int .i64 x3.step, .int .i64 x3.alter, .int .i64 x3.octave] 62)
              have S1 := S1.kp (Kp.bel (bel_al (bel_refl wr) (.cells #[.int .i64 x3.step, .int .i64 x3.alter, .int .i64 x3.octave] 62)))
              have S2 := S2.kp (Kp.bel (bel_al (bel_refl wr) (.cells #[.int .i64 x3.step, .int .i64 x3.alter, .int .i64 x3.octave] 62)))
              have Kv3 := K3.trans (Kp.bel (bel_al (bel_refl wr) (.cells #[.int .i64 x3.step, .int .i64 x3.alter, .int .i64 x3.octave] 62)))
              have S3 := S3.kp Kv3
              have bw := bel_al bw (.cells #[.int .i64 x3.step, .int .i64 x3.alter, .int .i64 x3.octave] 62)
              go_upto_region 11 with fail
              clear x_0 x_1 x_2
              generalize (wr.alloc (.cells #[.int .i64 x3.step, .int .i64 x3.alter, .int .i64 x3.octave] 62)) = v3 at *
              generalize wr.heap.size = X3 at *
              have m00 : v3.cell? ⟨w.heap.size, 0, none⟩ = some (.int .i64 bs.step) := by rw [Blk.cell bB0]; rfl
              have m01 : v3.cell? ⟨w.heap.size, 1, none⟩ = some (.int .i64 bs.alter) := by rw [Blk.cell bB0]; rfl
              have m02 : v3.cell? ⟨w.heap.size, 2, none⟩ = some (.int .i64 bs.octave) := by rw [Blk.cell bB0]; rfl
              have m10 : v3.cell? ⟨X1, 0, none⟩ = some (.int .i64 x1.step) := by rw [Blk.cell bX1]; rfl
              have m11 : v3.cell? ⟨X1, 1, none⟩ = some (.int .i64 x1.alter) := by rw [Blk.cell bX1]; rfl
              have m12 : v3.cell? ⟨X1, 2, none⟩ = some (.int .i64 x1.octave) := by rw [Blk.cell bX1]; rfl
              have m20 : v3.cell? ⟨X2, 0, none⟩ = some (.int .i64 x2.step) := by rw [Blk.cell bX2]; rfl
              have m21 : v3.cell? ⟨X2, 1, none⟩ = some (.int .i64 x2.alter) := by rw [Blk.cell bX2]; rfl
              have m22 : v3.cell? ⟨X2, 2, none⟩ = some (.int .i64 x2.octave) := by rw [Blk.cell bX2]; rfl
              have m30 : v3.cell? ⟨X3, 0, none⟩ = some (.int .i64 x3.step) := by rw [Blk.cell bX3]; rfl
              have m31 : v3.cell? ⟨X3, 1, none⟩ = some (.int .i64 x3.alter) := by rw [Blk.cell bX3]; rfl
              have m32 : v3.cell? ⟨X3, 2, none⟩ = some (.int .i64 x3.octave) := by rw [Blk.cell bX3]; rfl
              have bC : Blk (v3.alloc (.cells #[.int .i64 bs.step, .int .i64 bs.alter, .int .i64 bs.octave, .int .i64 x1.step, .int .i64 x1.alter, .int .i64 x1.octave, .int .i64 x2.step, .int .i64 x2.alter, .int .i64 x2.octave, .int .i64 x3.step, .int .i64 x3.alter, .int .i64 x3.octave] 62)) v3.heap.size #[.int .i64 bs.step, .int .i64 bs.alter, .int .i64 bs.octave, .int .i64 x1.step, .int .i64 x1.alter, .int .i64 x1.octave, .int .i64 x2.step, .int .i64 x2.alter, .int .i64 x2.octave, .int .i64 x3.step, .int .i64 x3.alter, .int .i64 x3.octave] 62 := Blk.new v3 _ _
              have hown := hown.alloc (.cells #[.int .i64 bs.step, .int .i64 bs.alter, .int .i64 bs.octave, .int .i64 x1.step, .int .i64 x1.alter, .int .i64 x1.octave, .int .i64 x2.step, .int .i64 x2.alter, .int .i64 x2.octave, .int .i64 x3.step, .int .i64 x3.alter, .int .i64 x3.octave] 62)
              have Kv3 := Kv3.trans (Kp.bel (bel_al (bel_refl v3) (.cells #[.int .i64 bs.step, .int .i64 bs.alter, .int .i64 bs.octave, .int .i64 x1.step, .int .i64 x1.alter, .int .i64 x1.octave, .int .i64 x2.step, .int .i64 x2.alter, .int .i64 x2.octave, .int .i64 x3.step, .int .i64 x3.alter, .int .i64 x3.octave] 62)))
              have hsv := bw.size
              have bw := bel_al bw (.cells #[.int .i64 bs.step, .int .i64 bs.alter, .int .i64 bs.octave, .int .i64 x1.step, .int .i64 x1.alter, .int .i64 x1.octave, .int .i64 x2.step, .int .i64 x2.alter, .int .i64 x2.octave, .int .i64 x3.step, .int .i64 x3.alter, .int .i64 x3.octave] 62)
              have SC : StP (v3.alloc (.cells #[.int .i64 bs.step, .int .i64 bs.alter, .int .i64 bs.octave, .int .i64 x1.step, .int .i64 x1.alter, .int .i64 x1.octave, .int .i64 x2.step, .int .i64 x2.alter, .int .i64 x2.octave, .int .i64 x3.step, .int .i64 x3.alter, .int .i64 x3.octave] 62)) w.heap.size (some ⟨v3.heap.size, 0, none⟩) [bs, x1, x2, x3] := fun _ => ⟨_, 0, _, rfl, hsv, bC, fun i hi => by
                rcases (show i = 0 ∨ i = 1 ∨ i = 2 ∨ i = 3 from by simp only [List.length_cons, List.length_nil] at hi; omega) with rfl | rfl | rfl | rfl <;> exact ⟨rfl, rfl, rfl⟩⟩
              have qC : pvAll [bs, x1, x2, x3] := fun i hi => by
                rcases (show i = 0 ∨ i = 1 ∨ i = 2 ∨ i = 3 from by simp only [List.length_cons, List.length_nil] at hi; omega) with rfl | rfl | rfl | rfl
                · exact hb
                · exact px1
                · exact px2
                · exact px3
              go_wp2_with fail
              clear m00 m01 m02 m10 m11 m12 m20 m21 m22 m30 m31 m32 bC
              generalize (v3.alloc (.cells #[.int .i64 bs.step, .int .i64 bs.alter, .int .i64 bs.octave, .int .i64 x1.step, .int .i64 x1.alter, .int .i64 x1.octave, .int .i64 x2.step, .int .i64 x2.alter, .int .i64 x2.octave, .int .i64 x3.step, .int .i64 x3.alter, .int .i64 x3.octave] 62)) = v4 at *
              generalize v3.heap.size = C at *
              obtain ⟨z, hz⟩ : ∃ z, stkF [bs, x1, x2, x3] = z := ⟨_, rfl⟩
              obtain ⟨q, hq⟩ : ∃ q, smB [bs, x1, x2, x3] ts = q := ⟨_, rfl⟩
              refine (stk_val hz (some ⟨C, 0, none⟩) 4 4 _ rfl (by omega) SC.row).mono ?_
              rintro e5 w5 ⟨rfl, b5⟩
              have hown := hown.below b5
              have Kv3 := Kv3.trans (Kp.bel b5)
              have SC := SC.kp (Kp.bel b5)
              have bw := bel_tr bw b5
              clear b5
              have HZ := Lib.hid hz
              have HQ := Lib.hid hq
              clear hz hq
              by_cases z0 : z = 0
              · subst z0
                go_wp2_with fail
                refine (same_val HQ.out (some ⟨C, 0, none⟩) A 4 ts.length 4 c _ rfl rfl (by omega) (by omega) SC.row (h.below bw) qC hv).mono ?_
                rintro e6 w6 ⟨rfl, b6⟩
                have hown := hown.below b6
                have Kv3 := Kv3.trans (Kp.bel b6)
                have SC := SC.kp (Kp.bel b6)
                have bw := bel_tr bw b6
                clear b6
                cases q
                · have HG := Lib.hid (show M2 ++ stC bs ts x1 x2 V3 (k3 + 1) = L from by rw [stC, HX3.out, if_neg (by unfold goodS; rw [HZ.out, HQ.out]; simp), HL.out])
                  go_wp2
                  go_roundw
                  case rel => exact ⟨k3 + 1, by omega, by go_num, ⟨vs, by rw [HG.out]; exact hown⟩, bw, Kv3⟩
                  case measure => simp [intOf] <;> omega
                · have HG := Lib.hid (show M2 ++ stC bs ts x1 x2 V3 (k3 + 1) = L ++ [[bs, x1, x2, x3]] from by rw [stC, HX3.out, if_pos (by unfold goodS; rw [HZ.out, HQ.out]; rfl), ← List.append_assoc, HL.out])
                  have hw6 := bw.size
                  go_wp2_with (at_builtin; go_must (refine wpList_append_lies _ rfl _ _ 26 rfl w.heap.size 37 i0 _ 1 24 Try.underlying26 hi0 hz0 hz1 hz2 rfl (by omega) _ L.length vs rfl (hown.1.alloc _) ⟨w6.heap.size, 0, none⟩ 1 1 [.slice (some ⟨C, 0, none⟩) 4 4] rfl rfl (World.news_of_block (cs := #[.slice (some ⟨C, 0, none⟩) 4 4]) (t := 37) (fr := (0, 0)) (heap_alloc_new w6 _)) (by simp [Value.oneCell']) (by omega) (by unfold maxLen; omega) (by omega) (by simp; omega) _ rfl ?_; intro gg9 cp9 w9 hown9 hgrow9 hat9 hlt9))
                  have CP : Below w6.heap.size w6 (w6.alloc (.cells #[.slice (some ⟨C, 0, none⟩) 4 4] 37)) := bel_al (bel_refl w6) _
                  have oA := (hown.below CP).push (l := [bs, x1, x2, x3]) hgrow9 hown9 (by simp) (by simp [maxLen]) (SC.kp (Kp.bel CP))
                  have Kv3 := (Kv3.trans (Kp.bel CP)).trans (Kp.row (hown.below CP).1 hgrow9)
                  have bw := bel_grown (bel_tr bw CP) hgrow9 (fun k hk => own_ge (hown.below CP).1 k hk)
                  go_roundw
                  case rel => exact ⟨k3 + 1, by omega, by go_num, ⟨_, by rw [HG.out]; exact oA⟩, bw, Kv3⟩
                  case measure => simp [intOf] <;> omega
              · go_wp2
                have HG := Lib.hid (show M2 ++ stC bs ts x1 x2 V3 (k3 + 1) = L from by rw [stC, HX3.out, if_neg (by unfold goodS; rw [HZ.out, decide_eq_false z0]; simp), HL.out])
                go_roundw
                case rel => exact ⟨k3 + 1, by omega, by go_num, ⟨vs, by rw [HG.out]; exact hown⟩, bw, Kv3⟩
                case measure => simp [intOf] <;> omega
            · obtain rfl : k3 = V3.length := by omega
              go_wp2
              go_roundw
              case rel => exact ⟨k2 + 1, by omega, by go_num, ⟨vs, by rw [HM2.out]; exact hown⟩, bw, Kc3.trans K3⟩
              case measure => simp [intOf] <;> omega
        · obtain rfl : k2 = V2.length := by omega
          go_wp2
          go_roundw
          case rel => exact ⟨k1 + 1, by omega, by go_num, ⟨vs, by rw [HM1.out]; exact hown⟩, bw, Kc2.trans K2⟩
          case measure => simp [intOf] <;> omega
    · obtain rfl : k1 = V1.length := by omega
      go_wp2
      go_ret
      exact ⟨_, vs, rfl, hown, bw⟩
end
section
open Go.RowKit

theorem mvf_val {a b : List Pi} {z : Int} (hz : mvF a b = z) (A A' : Option Addr) (n n' c c' : Nat) (w : World) (hn : a.length = n) (hn' : b.length = n') (hm : n ≤ 2000000) (hm' : n' ≤ 2000000) (ha : RowPi w w.heap.size A a) (hb' : RowPi w w.heap.size A' b) :
    Calls Try.prog 22 #[.slice A n c, .slice A' n' c'] w fun e w' => e = .returned (.int .i64 z) ∧ Below w.heap.size w w' := by
  rw [← hz]; exact mvf_any A A' n n' c c' a b w hn hn' hm hm' ha hb'
/-- all chords have four voices -/
def four (LL : List (List Pi)) : Prop := ∀ i, i < LL.length → (atPP LL i).length = 4
/-- one of them can follow -/
def folB (a : List Pi) (LL : List (List Pi)) : Bool := LL.any fun y => decide (mvF a y = 0)
theorem folB_yes {a : List Pi} {LL : List (List Pi)} (i : Nat) (hi : i < LL.length) (h : mvF a (atPP LL i) = 0) : folB a LL = true := by
  unfold folB
  refine List.any_eq_true.2 ⟨atPP LL i, ?_, decide_eq_true h⟩
  unfold atPP
  rw [List.getD_eq_getElem?_getD, List.getElem?_eq_getElem hi]
  exact List.getElem_mem hi
theorem folB_no {a : List Pi} {LL : List (List Pi)} (h : ∀ j, j < LL.length → mvF a (atPP LL j) ≠ 0) : folB a LL = false := by
  cases e : folB a LL
  · rfl
  · unfold folB at e
    obtain ⟨y, hy, hd⟩ := List.any_eq_true.1 e
    obtain ⟨j, hj, rfl⟩ := List.getElem_of_mem hy
    refine absurd (of_decide_eq_true hd) ?_
    have := h j hj
    unfold atPP at this
    rw [List.getD_eq_getElem?_getD, List.getElem?_eq_getElem hj] at this
    exact this
theorem neq_none : ∀ w : World, (binOp BinOp.neq 37 (Value.slice none 0 0) (Value.slice none 0 0)).run Try.prog w = .ok (.bool false) w := fun _ => by kernel_rfl
theorem neq_some (b o c : Nat) : ∀ w : World, (binOp BinOp.neq 37 (Value.slice (some ⟨b, o, none⟩) 4 c) (Value.slice none 0 0)).run Try.prog w = .ok (.bool true) w := fun _ => by kernel_rfl
def FoR (a : List Pi) (LL : List (List Pi)) (w' : World) (v : Value) : Prop :=
  (∃ i, i < LL.length ∧ mvF a (atPP LL i) = 0 ∧ (∀ j, j < i → mvF a (atPP LL j) ≠ 0) ∧ ∃ b off ci, v = .slice (some ⟨b, off, none⟩) 4 ci ∧ 4 ≤ ci ∧ ci ≤ maxLen ∧ RowPi w' w'.heap.size (some ⟨b, off, none⟩) (atPP LL i)) ∨ (v = .slice none 0 0 ∧ ∀ j, j < LL.length → mvF a (atPP LL j) ≠ 0)
set_option maxRecDepth 20000 in
set_option maxHeartbeats 4000000 in
theorem fo_any (A A' : Option Addr) (c c' : Nat) (a : List Pi) (LL : List (List Pi)) (w : World) (ha : a.length = 4) (h : RowPi w w.heap.size A a) (h' : RowPP w w.heap.size A' LL) (h4 : four LL) (hm : LL.length ≤ 2000000) :
    Calls Try.prog 65 #[.slice A 4 c, .slice A' LL.length c'] w fun e w' => ∃ v, e = .returned v ∧ FoR a LL w' v ∧ Below w.heap.size w w' := by
  have HA := Lib.hid ha
  have H4 : Hid (four LL) := h4
  clear ha h4
  go_enter Try.func65, Try.ntmps65
  go_wp2_with fail
  go_loopw [9] (fun i wr => ∃ k : Nat, k ≤ LL.length ∧ i = .int .i64 k ∧ Below w.heap.size w wr ∧ Hid (∀ j, j < k → mvF a (atPP LL j) ≠ 0)) (fun i _ => LL.length - (intOf i).toNat)
  case atStart => exact ⟨0, Nat.zero_le _, rfl, bel_refl _, fun j hj => absurd hj (by omega)⟩
  case round =>
    obtain ⟨k, hk, rfl, bw, HK⟩ := hrel
    have h := h.below bw
    have h' := h'.below bw
    by_cases hlt : k < LL.length
    · have hkl : (k : Int) < (LL.length : Int) := by omega
      have hk0 : (0 : Int) ≤ (k : Int) := by omega
      obtain ⟨b, off, rfl, hb, hcc⟩ := h' (by omega)
      obtain ⟨Ai, ci, hx, hx1, hx2, hxr⟩ := hcc k hlt
      have hl4 := H4.out k hlt
      rw [hl4] at hx hx1
      obtain ⟨b9, off9, rfl, hb9, hcc9⟩ := hxr (by omega)
      have hxr : RowPi wr wr.heap.size (some ⟨b9, off9, none⟩) (atPP LL k) := fun _ => ⟨b9, off9, rfl, hb9, hcc9⟩
      clear hcc hcc9
      obtain ⟨z, hz⟩ : ∃ z, mvF a (atPP LL k) = z := ⟨_, rfl⟩
      have HZ := Lib.hid hz
      have HL4 := Lib.hid hl4
      clear hz hl4
      by_cases hz0 : z = 0
      · subst hz0
        go_wp2_with (go_at_call 22; refine (mvf_val HZ.out A (some ⟨b9, off9, none⟩) 4 4 c ci _ HA.out HL4.out (by omega) (by omega) h hxr).mono ?_; rintro e5 w5 ⟨rfl, b5⟩)
        go_ret
        exact ⟨_, rfl, .inl ⟨k, hlt, HZ.out, HK.out, b9, off9, ci, rfl, hx1, hx2, hxr.below b5⟩, bel_tr bw b5⟩
      · go_wp2_with (go_at_call 22; refine (mvf_val HZ.out A (some ⟨b9, off9, none⟩) 4 4 c ci _ HA.out HL4.out (by omega) (by omega) h hxr).mono ?_; rintro e5 w5 ⟨rfl, b5⟩)
        go_roundw
        case rel => exact ⟨k + 1, by omega, by go_num, bel_tr bw b5, Lib.hid (fun j hj => by
          rcases (show j < k ∨ j = k from by omega) with h9 | rfl
          · exact HK.out j h9
          · rw [HZ.out]; exact hz0)⟩
        case measure => simp [intOf] <;> omega
    · obtain rfl : k = LL.length := by omega
      go_wp2
      go_ret
      exact ⟨_, rfl, .inr ⟨rfl, HK.out⟩, bw⟩
/-- those of the first k chords from which one can go on -/
def coK (LL MM : List (List Pi)) : Nat → List (List Pi)
  | 0 => []
  | k + 1 => if folB (atPP LL k) MM = true then coK LL MM k ++ [atPP LL k] else coK LL MM k
theorem coK_len (LL MM : List (List Pi)) : ∀ k, (coK LL MM k).length ≤ k
  | 0 => Nat.le_refl _
  | k + 1 => by
    have := coK_len LL MM k
    unfold coK
    split
    · rw [List.length_append, List.length_singleton]; omega
    · omega
theorem co_last (v u : Value) (w : World) : Calls Try.prog 63 #[v, u, .bool true] w fun e w' => e = .returned v ∧ w = w' := by
  go_enter Try.func63, Try.ntmps63
  go_wp2
  go_ret
  exact ⟨rfl, rfl⟩
set_option maxRecDepth 20000 in
set_option maxHeartbeats 8000000 in
theorem co_any (lo : Nat) (v : Value) (A' : Option Addr) (c' : Nat) (LL MM : List (List Pi)) (vs : List Value) (w : World) (hlo : lo ≤ w.heap.size) (h : OwPV w lo v LL vs) (h' : RowPP w w.heap.size A' MM) (h4 : four LL) (h4' : four MM) (hm : LL.length ≤ 1000000) (hm' : MM.length ≤ 1000000) :
    Calls Try.prog 63 #[v, .slice A' MM.length c', .bool false] w fun e w' => ∃ v' vs', e = .returned v' ∧ OwPV w' lo v' (coK LL MM LL.length) vs' ∧ Below w.heap.size w w' := by
  obtain ⟨i0, hi0, hz0, hz1, hz2⟩ := info_parts infoPS
  have H4 : Hid (four LL) := h4
  have H4' : Hid (four MM) := h4'
  clear h4 h4'
  obtain ⟨A, c, rfl, _, _, _⟩ := h.row
  go_enter Try.func63, Try.ntmps63
  have hown : OwPV (w.alloc (.cells #[] 37)) lo (.slice (some ⟨w.heap.size, 0, none⟩) 0 0) [] [] := ⟨World.ownsRow_lit (base := lo) (e := 37) (size := 1) w #[] 0 hlo (by simp [maxLen]) rfl, fun i hi => absurd hi (by simp)⟩
  have bw : Below w.heap.size w (w.alloc (.cells #[] 37)) := bel_al (bel_refl w) _
  go_wp2_with fail
  go_loopw [7, 15] (fun v i wr => ∃ k : Nat, k ≤ LL.length ∧ i = .int .i64 k ∧ (∃ vs, OwPV wr lo v (coK LL MM k) vs) ∧ (∀ g, v.ownBlock = some g → w.heap.size ≤ g) ∧ Below w.heap.size w wr) (fun _ i _ => LL.length - (intOf i).toNat)
  case atStart => exact ⟨0, Nat.zero_le _, rfl, ⟨_, hown⟩, fun g e => by rw [← Option.some.inj e]; exact Nat.le_refl _, bw⟩
  case round =>
    clear hown bw
    obtain ⟨k, hk, rfl, ⟨us, hown⟩, hge, bw⟩ := hrel
    have h := h.below bw
    have h' := h'.below bw
    by_cases hlt : k < LL.length
    · have hkl : (k : Int) < (LL.length : Int) := by omega
      have hk0 : (0 : Int) ≤ (k : Int) := by omega
      obtain ⟨gb, cap, Ai, ci, e, _, hgb, _, _, hx, hx1, hx2, hS⟩ := h.at' k hlt
      cases e
      have hl4 := H4.out k hlt
      obtain ⟨b9, off9, cs9, rfl, hb9, hB9, hc9⟩ := hS (by omega)
      have hS : StP wr lo (some ⟨b9, off9, none⟩) (atPP LL k) := fun _ => ⟨b9, off9, cs9, rfl, hb9, hB9, hc9⟩
      clear hc9
      rw [hl4] at hx hx1
      obtain ⟨x, hX⟩ : ∃ x, atPP LL k = x := ⟨_, rfl⟩
      rw [hX] at hS hl4
      have HX := Lib.hid hX
      have HL4 := Lib.hid hl4
      obtain ⟨L, hL⟩ : ∃ L, coK LL MM k = L := ⟨_, rfl⟩
      rw [hL] at hown
      have lL : L.length ≤ 1000000 := by
        have := coK_len LL MM k
        rw [← hL]; omega
      have HL := Lib.hid hL
      clear hL hX hl4
      go_wp2_with fail
      refine (fo_any (some ⟨b9, off9, none⟩) A' ci c' x MM _ HL4.out hS.row h' H4'.out (by omega)).mono ?_
      rintro e5 w5 ⟨v5, rfl, hF, b5⟩
      have hown := hown.below b5
      have hS := hS.kp (Kp.bel b5)
      have bw := bel_tr bw b5
      have hwb := bw.size
      clear b5
      rcases hF with ⟨i, hi, hz, _, b7, off7, c7, rfl, _, _, _⟩ | ⟨rfl, hno⟩
      · have HC := Lib.hid (show coK LL MM (k + 1) = L ++ [x] from by rw [coK, HX.out, if_pos (folB_yes i hi hz), HL.out])
        clear hz
        have nB := neq_some b7 off7 c7
        go_wp2_with (at_builtin; go_must (refine wpList_append_lies _ rfl _ _ 26 rfl lo 37 i0 _ 1 24 Try.underlying26 hi0 hz0 hz1 hz2 rfl (by omega) _ L.length us rfl (hown.1.alloc _) ⟨w5.heap.size, 0, none⟩ 1 1 [.slice (some ⟨b9, off9, none⟩) 4 ci] rfl rfl (World.news_of_block (cs := #[.slice (some ⟨b9, off9, none⟩) 4 ci]) (t := 37) (fr := (0, 0)) (heap_alloc_new w5 _)) (by simp [Value.oneCell']) (by omega) (by unfold maxLen; omega) (by omega) (by simp; omega) _ rfl ?_; intro gg9 cp9 w9 hown9 hgrow9 hat9 hlt9))
        have CP : Below w5.heap.size w5 (w5.alloc (.cells #[.slice (some ⟨b9, off9, none⟩) 4 ci] 37)) := bel_al (bel_refl w5) _
        have h4x : x.length = 4 := HL4.out
        have oA := (hown.below CP).push (l := x) (Al := some ⟨b9, off9, none⟩) (cl := ci) hgrow9 (by rw [h4x]; exact hown9) (by rw [h4x]; exact hx1) hx2 (hS.kp (Kp.bel CP))
        have bw := bel_grown (bel_tr bw CP) hgrow9 hge
        have hwC := CP.size
        go_roundw
        case rel => exact ⟨k + 1, by omega, by go_num, ⟨_, by rw [HC.out]; exact oA⟩, fun g e => by
          rw [← Option.some.inj e]
          show w.heap.size ≤ gg9
          rcases hat9 with h9 | h9
          · exact hge _ h9
          · omega, bw⟩
        case measure => simp [intOf] <;> omega
      · have HC := Lib.hid (show coK LL MM (k + 1) = L from by rw [coK, HX.out, folB_no hno]; exact HL.out)
        clear hno
        have nB := neq_none
        go_wp2
        go_roundw
        case rel => exact ⟨k + 1, by omega, by go_num, ⟨us, by rw [HC.out]; exact hown⟩, hge, bw⟩
        case measure => simp [intOf] <;> omega
    · obtain rfl : k = LL.length := by omega
      go_wp2
      go_ret
      exact ⟨_, us, rfl, hown, bw⟩
end
section
open Go.RowKit

/-- the tones at place i -/
def tnI (f : Int) (bs : List Pi) (gs : List Int) (i : Nat) : List Pi := fgL f (atPi bs i) (gs.getD i 0)
/-- all chords at place i -/
def sksI (f : Int) (bs : List Pi) (gs : List Int) (i : Nat) : List (List Pi) := stkL (atPi bs i) (tnI f bs gs i)
/-- the chords at the place that has q places behind it, from which one can go on to the end -/
def chF (f : Int) (bs : List Pi) (gs : List Int) : Nat → List (List Pi)
  | 0 => sksI f bs gs (bs.length - 1)
  | q + 1 => coK (sksI f bs gs (bs.length - 1 - (q + 1))) (chF f bs gs q) (sksI f bs gs (bs.length - 1 - (q + 1))).length
/-- the first that can follow -/
def foF (a : List Pi) (LL : List (List Pi)) : List Pi := (LL.find? fun y => decide (mvF a y = 0)).getD []
def ouI (f : Int) (bs : List Pi) (gs : List Int) : Nat → List (List Pi)
  | 0 => [atPP (chF f bs gs (bs.length - 1)) 0]
  | k + 1 => ouI f bs gs k ++ [foF (atPP (ouI f bs gs k) k) (chF f bs gs (bs.length - 1 - (k + 1)))]
def rbG (f : Int) (bs : List Pi) (gs : List Int) : Prop := (-7 ≤ f ∧ f ≤ 7) ∧ (1 ≤ bs.length ∧ bs.length ≤ 8) ∧ gs.length = bs.length
instance (f : Int) (bs : List Pi) (gs : List Int) : Decidable (rbG f bs gs) := by unfold rbG; infer_instance
def rbI (f : Int) (bs : List Pi) (gs : List Int) : Option (List (List Pi)) :=
  if rbG f bs gs ∧ (∀ i, i < bs.length → tnI f bs gs i ≠ []) ∧ chF f bs gs (bs.length - 1) ≠ [] then some (ouI f bs gs (bs.length - 1)) else none

theorem four_mem {LL : List (List Pi)} : four LL ↔ ∀ x ∈ LL, x.length = 4 := by
  constructor
  · intro h x hx
    obtain ⟨i, hi, rfl⟩ := List.getElem_of_mem hx
    have := h i hi
    unfold atPP at this
    rw [List.getD_eq_getElem?_getD, List.getElem?_eq_getElem hi] at this
    exact this
  · intro h i hi
    unfold atPP
    rw [List.getD_eq_getElem?_getD, List.getElem?_eq_getElem hi]
    exact h _ (List.getElem_mem hi)
theorem atPP_mem {LL : List (List Pi)} {i : Nat} (hi : i < LL.length) : atPP LL i ∈ LL := by
  unfold atPP
  rw [List.getD_eq_getElem?_getD, List.getElem?_eq_getElem hi]
  exact List.getElem_mem hi
theorem stC_four (bs : Pi) (ts : List Pi) (a b : Pi) (V : List Pi) : ∀ k, ∀ x ∈ stC bs ts a b V k, x.length = 4
  | 0, _, h => by cases h
  | k + 1, x, h => by
    unfold stC at h
    split at h
    · rcases List.mem_append.1 h with h | h
      · exact stC_four bs ts a b V k x h
      · rw [List.mem_singleton.1 h]; rfl
    · exact stC_four bs ts a b V k x h
theorem stB_four (bs : Pi) (ts : List Pi) (a : Pi) (V2 V3 : List Pi) : ∀ k, ∀ x ∈ stB bs ts a V2 V3 k, x.length = 4
  | 0, _, h => by cases h
  | k + 1, x, h => by
    unfold stB at h
    rcases List.mem_append.1 h with h | h
    · exact stB_four bs ts a V2 V3 k x h
    · exact stC_four _ _ _ _ _ _ x h
theorem stA_four (bs : Pi) (ts : List Pi) (V1 V2 V3 : List Pi) : ∀ k, ∀ x ∈ stA bs ts V1 V2 V3 k, x.length = 4
  | 0, _, h => by cases h
  | k + 1, x, h => by
    unfold stA at h
    rcases List.mem_append.1 h with h | h
    · exact stA_four bs ts V1 V2 V3 k x h
    · exact stB_four _ _ _ _ _ _ x h
theorem al_four (f : Int) (bs : List Pi) (gs : List Int) (i : Nat) : four (sksI f bs gs i) := four_mem.2 (stA_four _ _ _ _ _ _)
theorem co_mem (LL MM : List (List Pi)) : ∀ k, k ≤ LL.length → ∀ x ∈ coK LL MM k, x ∈ LL ∧ folB x MM = true
  | 0, _, _, h => by cases h
  | k + 1, hk, x, h => by
    unfold coK at h
    split at h
    · rename_i hf
      rcases List.mem_append.1 h with h | h
      · exact co_mem LL MM k (by omega) x h
      · rw [List.mem_singleton.1 h]; exact ⟨atPP_mem (by omega), hf⟩
    · exact co_mem LL MM k (by omega) x h
theorem ch_four (f : Int) (bs : List Pi) (gs : List Int) : ∀ q, four (chF f bs gs q)
  | 0 => al_four f bs gs _
  | q + 1 => four_mem.2 fun x hx => four_mem.1 (al_four f bs gs _) x (co_mem (sksI f bs gs (bs.length - 1 - (q + 1))) (chF f bs gs q) _ (Nat.le_refl _) x hx).1
theorem ch_fol (f : Int) (bs : List Pi) (gs : List Int) (q : Nat) {x : List Pi} (h : x ∈ chF f bs gs (q + 1)) : folB x (chF f bs gs q) = true := (co_mem (sksI f bs gs (bs.length - 1 - (q + 1))) (chF f bs gs q) _ (Nat.le_refl _) x h).2
theorem fg_pvb {f : Int} {b : Pi} {g : Int} (h : fgL f b g ≠ []) : pvQ b := by
  by_cases hp : fgP f b g
  · exact hp.2.1
  · exact absurd (fg_no hp) h
theorem tn_all (f : Int) (bs : List Pi) (gs : List Int) (i : Nat) : pvAll (tnI f bs gs i) := fgL_pv _ _ _
theorem opt_small (f : Int) (bs : List Pi) (gs : List Int) (i v : Nat) (hv : v < 4) : (optL (tnI f bs gs i) (loR v) (hiR v) (tnI f bs gs i).length).length < 20 := by
  have h1 := optL_two (tn_all f bs gs i) v hv _ (Nat.le_refl _)
  have h2 := fgL_len f (atPi bs i) (gs.getD i 0)
  have h3 : (tnI f bs gs i).length ≤ 4 := h2
  omega
theorem al_len (f : Int) (bs : List Pi) (gs : List Int) (i : Nat) : (sksI f bs gs i).length ≤ 8000 := by
  have n1 := opt_small f bs gs i 1 (by omega)
  have n2 := opt_small f bs gs i 2 (by omega)
  have n3 := opt_small f bs gs i 3 (by omega)
  rw [← vp_len] at n1 n2 n3
  have := stA_len (atPi bs i) (tnI f bs gs i) (vpL (tnI f bs gs i) 1) (vpL (tnI f bs gs i) 2) (vpL (tnI f bs gs i) 3) (by omega) (by omega) (vpL (tnI f bs gs i) 1).length
  unfold sksI stkL
  omega
theorem ch_len (f : Int) (bs : List Pi) (gs : List Int) : ∀ q, (chF f bs gs q).length ≤ 8000
  | 0 => al_len f bs gs _
  | q + 1 => Nat.le_trans (coK_len _ _ _) (al_len f bs gs _)
theorem ou_len (f : Int) (bs : List Pi) (gs : List Int) : ∀ k, (ouI f bs gs k).length = k + 1
  | 0 => rfl
  | k + 1 => by unfold ouI; rw [List.length_append, ou_len f bs gs k]; rfl
theorem fo_first {a : List Pi} {LL : List (List Pi)} {i : Nat} (hi : i < LL.length) (h0 : mvF a (atPP LL i) = 0) (h : ∀ j, j < i → mvF a (atPP LL j) ≠ 0) : foF a LL = atPP LL i := by
  unfold foF
  have : (LL.find? fun y => decide (mvF a y = 0)) = some (atPP LL i) := by
    have e : atPP LL i = LL[i] := by
      unfold atPP
      rw [List.getD_eq_getElem?_getD, List.getElem?_eq_getElem hi]
      rfl
    rw [e]
    refine List.find?_eq_some_iff_getElem.2 ⟨by rw [← e]; exact decide_eq_true h0, i, hi, rfl, fun j hj => ?_⟩
    have e2 : atPP LL j = LL[j] := by
      unfold atPP
      rw [List.getD_eq_getElem?_getD, List.getElem?_eq_getElem (by omega)]
      rfl
    rw [← e2]
    simp only [decide_eq_false (h j hj)]
    rfl
  rw [this]
  rfl
theorem rb_noG {f : Int} {bs : List Pi} {gs : List Int} (h : ¬ rbG f bs gs) : rbI f bs gs = none := if_neg (fun z => h z.1)
theorem rb_noT {f : Int} {bs : List Pi} {gs : List Int} (i : Nat) (hi : i < bs.length) (h : tnI f bs gs i = []) : rbI f bs gs = none := if_neg (fun z => z.2.1 i hi h)
theorem rb_noC {f : Int} {bs : List Pi} {gs : List Int} (h : chF f bs gs (bs.length - 1) = []) : rbI f bs gs = none := if_neg (fun z => z.2.2 h)
theorem rb_yes {f : Int} {bs : List Pi} {gs : List Int} (hG : rbG f bs gs) (hT : ∀ i, i < bs.length → tnI f bs gs i ≠ []) (hC : chF f bs gs (bs.length - 1) ≠ []) : rbI f bs gs = some (ouI f bs gs (bs.length - 1)) := if_pos ⟨hG, hT, hC⟩
end
end Go.Proofs.Ytpjakgnghpapmaa
