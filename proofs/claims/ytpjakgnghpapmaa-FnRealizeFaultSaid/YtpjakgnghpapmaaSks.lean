/- All chords of a bass pitch and its tones: the reference's. -/
import Derived.Test.YtpjakgnghpapmaaBo
import Derived.Test.YtpjakgnghpapmaaSFg
import Derived.Test.YtpjakgnghpapmaaHas
import Derived.Test.YtpjakgnghpapmaaBp
namespace Go.Proofs.Ytpjakgnghpapmaa
set_option linter.unusedSimpArgs false
set_option linter.unusedVariables false
open Go.RowKit

theorem OwPV.lo' {w : World} {lo lo' : Nat} {v : Value} {ll : List (List Pi)} {vs : List Value} (h : OwPV w lo v ll vs) (hl : lo' ≤ lo) : OwPV w lo' v ll vs := by
  refine ⟨⟨h.1.1, ?_⟩, fun i hi => by obtain ⟨Ai, ci, h1, h2, h3, h4⟩ := h.2 i hi; exact ⟨Ai, ci, h1, h2, h3, h4.lo hl⟩⟩
  rcases h.1.2 with h2 | ⟨g, cap, cur, e1, h3, h4, h5⟩
  · exact .inl h2
  · exact .inr ⟨g, cap, cur, e1, by omega, h4, h5⟩
def plO (key : Int) (t : Pi) : Nat → List Pi
  | 0 => []
  | o + 1 => if kyP ⟨t.step, t.alter, o⟩ = key then plO key t o ++ [⟨t.step, t.alter, o⟩] else plO key t o
def plK (key : Int) (ts : List Pi) : Nat → List Pi
  | 0 => []
  | k + 1 => plK key ts k ++ plO key (atPi ts k) 9
/-- the pitches of some tones from 36 to 67, the lesser key first -/
def plL (ts : List Pi) : Nat → List Pi
  | 0 => []
  | j + 1 => plL ts j ++ plK (36 + (j : Int)) ts ts.length
theorem plO_len (key : Int) (t : Pi) : ∀ o, (plO key t o).length ≤ o
  | 0 => Nat.le_refl _
  | o + 1 => by
    have := plO_len key t o
    unfold plO
    split
    · rw [List.length_append, List.length_singleton]; omega
    · omega
theorem plK_len (key : Int) (ts : List Pi) : ∀ k, (plK key ts k).length ≤ 9 * k
  | 0 => Nat.le_refl _
  | k + 1 => by
    have h1 := plK_len key ts k
    have h2 := plO_len key (atPi ts k) 9
    unfold plK
    rw [List.length_append]; omega
theorem plL_len (ts : List Pi) (h : ts.length ≤ 4) : ∀ j, (plL ts j).length ≤ 36 * j
  | 0 => Nat.le_refl _
  | j + 1 => by
    have h1 := plL_len ts h j
    have h2 := plK_len (36 + (j : Int)) ts ts.length
    unfold plL
    rw [List.length_append]; omega
theorem plL_nil : ∀ j, plL [] j = []
  | 0 => rfl
  | j + 1 => by unfold plL; rw [plL_nil j]; rfl
def goodP (bs : Pi) (ts : List Pi) (a b c : Pi) : Bool := decide (stkF [bs, a, b, c] = 0) && fullB [bs, a, b, c] ts
def spC (bs : Pi) (ts : List Pi) (a b : Pi) (P : List Pi) (j : Nat) : Nat → List (List Pi)
  | 0 => []
  | d + 1 => if goodP bs ts a b (atPi P (j + d)) = true then spC bs ts a b P j d ++ [[bs, a, b, atPi P (j + d)]] else spC bs ts a b P j d
def spB (bs : Pi) (ts : List Pi) (a : Pi) (P : List Pi) (i : Nat) : Nat → List (List Pi)
  | 0 => []
  | d + 1 => spB bs ts a P i d ++ spC bs ts a (atPi P (i + d)) P (i + d) (P.length - (i + d))
def spA (bs : Pi) (ts : List Pi) (P : List Pi) : Nat → List (List Pi)
  | 0 => []
  | d + 1 => spA bs ts P d ++ spB bs ts (atPi P d) P d (P.length - d)
def spL (bs : Pi) (ts : List Pi) : List (List Pi) := spA bs ts (plL ts 32) (plL ts 32).length
theorem spC_len (bs : Pi) (ts : List Pi) (a b : Pi) (P : List Pi) (j : Nat) : ∀ d, (spC bs ts a b P j d).length ≤ d
  | 0 => Nat.le_refl _
  | d + 1 => by
    have := spC_len bs ts a b P j d
    unfold spC
    split
    · rw [List.length_append, List.length_singleton]; omega
    · omega
theorem spB_len (bs : Pi) (ts : List Pi) (a : Pi) (P : List Pi) (i : Nat) (h : P.length ≤ 1152) : ∀ d, (spB bs ts a P i d).length ≤ 1152 * d
  | 0 => Nat.le_refl _
  | d + 1 => by
    have h1 := spB_len bs ts a P i h d
    have h2 := spC_len bs ts a (atPi P (i + d)) P (i + d) (P.length - (i + d))
    unfold spB
    rw [List.length_append]; omega
theorem spA_len (bs : Pi) (ts : List Pi) (P : List Pi) (h : P.length ≤ 1152) : ∀ d, (spA bs ts P d).length ≤ 1327104 * d
  | 0 => Nat.le_refl _
  | d + 1 => by
    have h1 := spA_len bs ts P h d
    have h2 := spB_len bs ts (atPi P d) P d h (P.length - d)
    unfold spA
    rw [List.length_append]; omega
theorem sstk_val {l : List Pi} {z : Int} (hz : stkF l = z) (A : Option Addr) (n c : Nat) (w : World) (hn : l.length = n) (hm : n ≤ 2000000) (h : RowPi w w.heap.size A l) :
    Calls Try.prog 39 #[.slice A n c] w fun e w' => e = .returned (.int .i64 z) ∧ Below w.heap.size w w' := by
  rw [← hz]; exact sstk_any A n c l w hn hm h
def SkR (w : World) (bs : Pi) (ts : List Pi) (e : Ending) (w' : World) : Prop := ∃ v vs, e = .returned v ∧ OwPV w' w.heap.size v (spL bs ts) vs ∧ Below w.heap.size w w'
set_option maxRecDepth 20000 in
set_option maxHeartbeats 1600000 in
theorem sks_any (f g : Int) (bs : Pi) (ts : List Pi) (hts : fgL f bs g = ts) (w : World) :
    Calls Try.prog 61 #[.int .i64 f, .agg #[.int .i64 bs.step, .int .i64 bs.alter, .int .i64 bs.octave], .int .i64 g] w (SkR w bs ts) := by
  obtain ⟨i0, hi0, hz0, hz1, hz2⟩ := info_parts infoPi
  obtain ⟨j0, hj0, hy0, hy1, hy2⟩ := info_parts infoPS
  have ht4 : ts.length ≤ 4 := by rw [← hts]; exact fgL_len _ _ _
  obtain ⟨t, ht⟩ : ∃ t, ts = t := ⟨_, rfl⟩
  rw [ht] at hts ht4 ⊢
  have HT := Lib.hid hts
  clear ht hts
  go_enter Try.func61, Try.ntmps61
  have bB0 : Blk (w.alloc (.cells #[.int .i64 bs.step, .int .i64 bs.alter, .int .i64 bs.octave] 62)) w.heap.size #[.int .i64 bs.step, .int .i64 bs.alter, .int .i64 bs.octave] 62 := Blk.new w _ _
  have bw : Below w.heap.size w (w.alloc (.cells #[.int .i64 bs.step, .int .i64 bs.alter, .int .i64 bs.octave] 62)) := bel_al (bel_refl w) _
  have m0 : (w.alloc (.cells #[.int .i64 bs.step, .int .i64 bs.alter, .int .i64 bs.octave] 62)).cell? ⟨w.heap.size, 0, none⟩ = some (.int .i64 bs.step) := by rw [Blk.cell bB0]; rfl
  have m1 : (w.alloc (.cells #[.int .i64 bs.step, .int .i64 bs.alter, .int .i64 bs.octave] 62)).cell? ⟨w.heap.size, 1, none⟩ = some (.int .i64 bs.alter) := by rw [Blk.cell bB0]; rfl
  have m2 : (w.alloc (.cells #[.int .i64 bs.step, .int .i64 bs.alter, .int .i64 bs.octave] 62)).cell? ⟨w.heap.size, 2, none⟩ = some (.int .i64 bs.octave) := by rw [Blk.cell bB0]; rfl
  go_wp2_with fail
  refine (sfg_val HT.out _).mono ?_
  rintro e2 w2 ⟨A9, c9, rfl, lc9, cm9, r9, _, b2⟩
  have bB0 := bB0.below b2
  have bw2 := bel_tr bw b2
  clear m0 m1 m2 b2 bw
  have own : (w2.alloc (.cells #[] 62)).ownsRow w2.heap.size 62 3 (.slice (some ⟨w2.heap.size, 0, none⟩) 0 0) (([] : List Pi)).length (flat csPi (([] : List Pi))) := World.ownsRow_lit w2 #[] 0 (Nat.le_refl _) (by simp [maxLen]) rfl
  have bw : Below w2.heap.size w2 (w2.alloc (.cells #[] 62)) := bel_al (bel_refl w2) _
  by_cases ht0 : t.length = 0
  · obtain rfl : t = [] := List.eq_nil_of_length_eq_zero ht0
    have HN := Lib.hid (show spL bs [] = [] from by unfold spL; rw [plL_nil]; rfl)
    have hown : OwPV ((w2.alloc (.cells #[] 62)).alloc (.cells #[] 37)) w.heap.size (.slice (some ⟨(w2.alloc (.cells #[] 62)).heap.size, 0, none⟩) 0 0) [] [] := ⟨World.ownsRow_lit (base := w.heap.size) (e := 37) (size := 1) (w2.alloc (.cells #[] 62)) #[] 0 (Nat.le_trans bw2.size bw.size) (by simp [maxLen]) rfl, fun i hi => absurd hi (by simp)⟩
    have hz9 : (w2.alloc (.cells #[] 62)).heap.size = w2.heap.size + 1 := by simp
    rw [hz9] at hown
    rw [show ([] : List Pi).length = 0 from rfl]
    go_wp2
    refine wp_loop_rounds 1 ?_
    rw [rounds_succ]
    go_wp2
    refine wp_loop_rounds 1 ?_
    rw [rounds_succ]
    go_wp2
    go_ret
    exact ⟨_, [], rfl, by rw [HN.out]; exact hown, bel_al (bel_tr bw2 bw) _⟩
  · have hti : (0 : Int) < (t.length : Int) := by omega
    have htn : 0 < t.length := by omega
    go_wp2_with fail
    go_loopw [8, 9] (fun v i wr => ∃ j : Nat, j ≤ 32 ∧ i = .int .i64 (36 + (j : Int)) ∧ wr.ownsRow w2.heap.size 62 3 v (plL t j).length (flat csPi (plL t j)) ∧ Below w2.heap.size w2 wr) (fun _ i _ => 68 - (intOf i).toNat)
    case atStart => exact ⟨0, by omega, rfl, own, bw⟩
    case round =>
      clear own
      obtain ⟨j, hj, rfl, own, bw⟩ := hrel
      by_cases hlt : j < 32
      · have hjl : 36 + (j : Int) ≤ 67 := by omega
        obtain ⟨M, hM⟩ : ∃ M, plL t j = M := ⟨_, rfl⟩
        have lM : M.length ≤ 1152 := by
          have := plL_len t ht4 j
          rw [← hM]; omega
        rw [hM] at own
        have HM := Lib.hid hM
        clear hM
        go_wp2_with fail
        go_loopw [8, 10] (fun v i wr => ∃ k : Nat, k ≤ t.length ∧ i = .int .i64 k ∧ wr.ownsRow w2.heap.size 62 3 v (M ++ plK (36 + (j : Int)) t k).length (flat csPi (M ++ plK (36 + (j : Int)) t k)) ∧ Below w2.heap.size w2 wr) (fun _ i _ => t.length - (intOf i).toNat)
        case atStart => exact ⟨0, by omega, rfl, by rw [show M ++ plK (36 + (j : Int)) t 0 = M from List.append_nil _]; exact own, bw⟩
        case round =>
          clear own
          obtain ⟨k, hk, rfl, own, bw⟩ := hrel
          by_cases hlt : k < t.length
          · have hkl : (k : Int) < (t.length : Int) := by omega
            have hk0 : (0 : Int) ≤ (k : Int) := by omega
            obtain ⟨M2, hM2⟩ : ∃ M2, M ++ plK (36 + (j : Int)) t k = M2 := ⟨_, rfl⟩
            have lM2 : M2.length ≤ 2000 := by
              have := plK_len (36 + (j : Int)) t k
              rw [← hM2, List.length_append]; omega
            rw [hM2] at own
            have HM2 := Lib.hid hM2
            clear hM2
            go_wp2_with fail
            go_loopw [8, 11] (fun v i wr => ∃ o : Nat, o ≤ 9 ∧ i = .int .i64 o ∧ wr.ownsRow w2.heap.size 62 3 v (M2 ++ plO (36 + (j : Int)) (atPi t k) o).length (flat csPi (M2 ++ plO (36 + (j : Int)) (atPi t k) o)) ∧ Below w2.heap.size w2 wr) (fun _ i _ => 9 - (intOf i).toNat)
            case atStart => exact ⟨0, by omega, rfl, by rw [show M2 ++ plO (36 + (j : Int)) (atPi t k) 0 = M2 from List.append_nil _]; exact own, bw⟩
            case round =>
              clear own
              obtain ⟨o, ho9, rfl, own, bw⟩ := hrel
              by_cases hlo : o < 9
              · have hol : (o : Int) ≤ 8 := by omega
                have ho0 : (0 : Int) ≤ (o : Int) := by omega
                obtain ⟨bt9, of9, rfl, hbt, hct⟩ := (r9.below bw) (by omega)
                obtain ⟨x_0, x_1, x_2⟩ := hct k hlt
                obtain ⟨x, hX⟩ : ∃ x, atPi t k = x := ⟨_, rfl⟩
                obtain ⟨y, hy⟩ : ∃ y : Pi, (⟨x.step, x.alter, o⟩ : Pi) = y := ⟨_, rfl⟩
                rw [hX] at x_0 x_1 x_2
                rw [show x.step = y.step from by rw [← hy]] at x_0
                rw [show x.alter = y.alter from by rw [← hy]] at x_1
                obtain ⟨L, hL⟩ : ∃ L, M2 ++ plO (36 + (j : Int)) (atPi t k) o = L := ⟨_, rfl⟩
                rw [hL] at own
                have lL : L.length ≤ 3000 := by
                  have := plO_len (36 + (j : Int)) (atPi t k) o
                  rw [← hL, List.length_append]; omega
                obtain ⟨ky, hky⟩ : ∃ z, kyP y = z := ⟨_, rfl⟩
                have kyb := pkI_bd y.step y.alter y.octave
                rw [show pkI y.step y.alter y.octave = ky from hky] at kyb
                obtain ⟨ky0, ky1⟩ := kyb
                have Ky := Lib.hid hky
                clear hky
                have YO := Lib.hid (show (o : Int) = y.octave from by rw [← hy])
                have HP := Lib.hid (show M2 ++ plO (36 + (j : Int)) (atPi t k) (o + 1) = if ky = 36 + (j : Int) then L ++ [y] else L from by
                  rw [plO, hX, hy, Ky.out]
                  rw [hX] at hL
                  split
                  · rw [← List.append_assoc, hL]
                  · exact hL)
                clear hX hy hL hct x_2
                go_upto_region 12 with fail
                refine region_float (w0 := wr) (Z := #[.int .i64 0, .int .i64 0, .int .i64 0]) (T := 62) 12 12 (by kernel_rfl) (by kernel_rfl) (bel_refl _) (by intro a W oa hoa; simp at hoa; subst hoa; kernel_rfl) ?_
                intro wq hq
                have lf0 : ∀ xL : Later wq, xL.world.cell? ⟨bt9, of9 + k * 3, none⟩ = some (.int .i64 y.step) := fun xL => xL.at (keep_tr (x_0) hq)
                have lf1 : ∀ xL : Later wq, xL.world.cell? ⟨bt9, of9 + k * 3 + 1, none⟩ = some (.int .i64 y.alter) := fun xL => xL.at (keep_tr (x_1) hq)
                simp only [List.take_succ_cons, List.take_zero, List.drop_succ_cons, List.drop_zero]
                repeat (go_big_quiet_step ((fail)))
                refine wpQuiet_nil ?_
                rintro w' ⟨x, rfl⟩ Y hB hBw
                obtain ⟨wl, bl0⟩ := x
                have bl := bel_tr hq bl0
                clear lf0 lf1
                go_simp
                have cB0 : wl.cell? ⟨Y, 0, none⟩ = some (.int .i64 0) := by rw [Blk.cell hB]; rfl
                have cB1 : wl.cell? ⟨Y, 1, none⟩ = some (.int .i64 0) := by rw [Blk.cell hB]; rfl
                have cB2 : wl.cell? ⟨Y, 2, none⟩ = some (.int .i64 0) := by rw [Blk.cell hB]; rfl
                have fB0 := Blk.free hB 0
                have fB1 := Blk.free hB 1
                have fB2 := Blk.free hB 2
                have lB := hB.lt
                have bY : Blk (((wl.setCell ⟨Y, 0, none⟩ (.int .i64 y.step)).setCell ⟨Y, 1, none⟩ (.int .i64 y.alter)).setCell ⟨Y, 2, none⟩ (.int .i64 o)) Y #[.int .i64 y.step, .int .i64 y.alter, .int .i64 o] 62 := hB.set3
                have bS : Below wr.heap.size wr (((wl.setCell ⟨Y, 0, none⟩ (.int .i64 y.step)).setCell ⟨Y, 1, none⟩ (.int .i64 y.alter)).setCell ⟨Y, 2, none⟩ (.int .i64 o)) := bel_set (bel_set (bel_set bl hBw _) hBw _) hBw _
                have own := own_below own bS
                have bw := bel_tr bw bS
                go_upto_region 13 with fail
                clear x_0 x_1 bl cB0 cB1 cB2 fB0 fB1 fB2 lB hB bS
                generalize (((wl.setCell ⟨Y, 0, none⟩ (.int .i64 y.step)).setCell ⟨Y, 1, none⟩ (.int .i64 y.alter)).setCell ⟨Y, 2, none⟩ (.int .i64 o)) = v3 at *
                have m0 : v3.cell? ⟨Y, 0, none⟩ = some (.int .i64 y.step) := by rw [Blk.cell bY]; rfl
                have m1 : v3.cell? ⟨Y, 1, none⟩ = some (.int .i64 y.alter) := by rw [Blk.cell bY]; rfl
                have m2 : v3.cell? ⟨Y, 2, none⟩ = some (.int .i64 y.octave) := by rw [Blk.cell bY, ← YO.out]; rfl
                go_wp2_with fail
                refine (spk_val Ky.out _).mono ?_
                rintro e6 w6 ⟨rfl, b6⟩
                have bY := bY.below b6
                have own := own_below own b6
                have bw := bel_tr bw b6
                clear b6 m0 m1 m2
                have m0 : w6.cell? ⟨Y, 0, none⟩ = some (.int .i64 y.step) := by rw [Blk.cell bY]; rfl
                have m1 : w6.cell? ⟨Y, 1, none⟩ = some (.int .i64 y.alter) := by rw [Blk.cell bY]; rfl
                have m2 : w6.cell? ⟨Y, 2, none⟩ = some (.int .i64 y.octave) := by rw [Blk.cell bY, ← YO.out]; rfl
                by_cases hk : ky = 36 + (j : Int)
                · have HQ := Lib.hid (HP.out.trans (if_pos hk))
                  have hkb : (ky == 36 + (j : Int)) = true := beq_iff_eq.2 hk
                  have hw6 := bw.size
                  clear hk
                  go_wp2_with (at_builtin; go_must (refine wpList_append_lies _ rfl _ _ 37 rfl w2.heap.size 62 i0 _ 3 24 Try.underlying37 hi0 hz0 hz1 hz2 rfl (by omega) _ L.length (flat csPi L) rfl (own.alloc _) ⟨w6.heap.size, 0, none⟩ 1 1 [.int .i64 y.step, .int .i64 y.alter, .int .i64 y.octave] rfl rfl (World.news_of_block (cs := #[.int .i64 y.step, .int .i64 y.alter, .int .i64 y.octave]) (t := 62) (fr := (0, 0)) (heap_alloc_new w6 _)) (by simp [Value.oneCell']) (by omega) (by unfold maxLen; omega) (by omega) (by simp <;> omega) _ rfl ?_; intro gg9 cp9 w9 hown9 hgrow9 hat9 hlt9))
                  have hq := own_push (t := y) hown9 rfl
                  have bw9 := bel_grown (bel_al bw (.cells #[.int .i64 y.step, .int .i64 y.alter, .int .i64 y.octave] 62)) hgrow9 (fun k hk => own_ge own k hk)
                  go_roundw
                  case rel => exact ⟨o + 1, by omega, by go_num, by rw [HQ.out]; exact hq, bw9⟩
                  case measure => simp [intOf] <;> omega
                · have HQ := Lib.hid (HP.out.trans (if_neg hk))
                  have hkb : (ky == 36 + (j : Int)) = false := beq_eq_false_iff_ne.2 hk
                  clear hk
                  go_wp2
                  go_roundw
                  case rel => exact ⟨o + 1, by omega, by go_num, by rw [HQ.out]; exact own, bw⟩
                  case measure => simp [intOf] <;> omega
              · obtain rfl : o = 9 := by omega
                rw [show ((9 : Nat) : Int) = 9 from rfl]
                go_wp2
                go_roundw
                case rel => exact ⟨k + 1, by omega, by go_num, by rw [plK, ← List.append_assoc, HM2.out]; exact own, bw⟩
                case measure => simp [intOf] <;> omega
          · obtain rfl : k = t.length := by omega
            go_wp2
            go_roundw
            case rel => exact ⟨j + 1, by omega, by go_num, by rw [plL, HM.out]; exact own, bw⟩
            case measure => simp [intOf] <;> omega
      · obtain rfl : j = 32 := by omega
        rw [show (36 : Int) + ((32 : Nat) : Int) = 68 from rfl]
        obtain ⟨P, hP⟩ : ∃ P, plL t 32 = P := ⟨_, rfl⟩
        have lP : P.length ≤ 1152 := by
          have := plL_len t ht4 32
          rw [← hP]; omega
        have HPL := Lib.hid (show spL bs t = spA bs t P P.length from by unfold spL; rw [hP])
        rw [hP] at own
        clear hP
        obtain ⟨Ap, cp, rfl, _, _, SP⟩ := StP.of own
        have bB := bB0.below bw
        clear own
        have hwv := bw.size
        have hown : OwPV (wr.alloc (.cells #[] 37)) w2.heap.size (.slice (some ⟨wr.heap.size, 0, none⟩) 0 0) [] [] := ⟨World.ownsRow_lit (base := w2.heap.size) (e := 37) (size := 1) wr #[] 0 hwv (by simp [maxLen]) rfl, fun i hi => absurd hi (by simp)⟩
        have bv : Below w2.heap.size w2 (wr.alloc (.cells #[] 37)) := bel_al bw _
        have K1 : Kp wr (wr.alloc (.cells #[] 37)) := Kp.bel (bel_al (bel_refl _) _)
        clear bw
        go_wp2_with fail
        generalize (wr.alloc (.cells #[] 37)) = w3 at *
        go_loopw [13, 14] (fun v i wr => ∃ k : Nat, k ≤ P.length ∧ i = .int .i64 k ∧ (∃ vs, OwPV wr w2.heap.size v (spA bs t P k) vs) ∧ Below w2.heap.size w2 wr ∧ Kp w3 wr) (fun _ i _ => P.length - (intOf i).toNat)
        case atStart => exact ⟨0, Nat.zero_le _, rfl, ⟨_, hown⟩, bv, Kp.refl _⟩
        case round =>
          clear hown bv
          obtain ⟨k, hk, rfl, ⟨vs, hown⟩, bv, K2⟩ := hrel
          by_cases hlt1 : k < P.length
          · have hl1 : (k : Int) < (P.length : Int) := by omega
            have hk0 : (0 : Int) ≤ (k : Int) := by omega
            obtain ⟨x1, hX1⟩ : ∃ x, atPi P k = x := ⟨_, rfl⟩
            obtain ⟨M1, hM1⟩ : ∃ M, spA bs t P k = M := ⟨_, rfl⟩
            rw [hM1] at hown
            have lM1 : M1.length ≤ 1600000000 := by
              have := spA_len bs t P lP k
              rw [← hM1]; omega
            have HX1 := Lib.hid hX1
            have HM1 := Lib.hid hM1
            clear hX1 hM1
            obtain ⟨w4, hw4⟩ : ∃ q : World, q = wr := ⟨_, rfl⟩
            have K2' : Kp w3 w4 := by rw [hw4]; exact K2
            go_wp2_with fail
            go_loopw [13, 15] (fun v i wr => ∃ d p : Nat, p = k + d ∧ p ≤ P.length ∧ i = .int .i64 p ∧ (∃ vs, OwPV wr w2.heap.size v (M1 ++ spB bs t x1 P k d) vs) ∧ Below w2.heap.size w2 wr ∧ Kp w4 wr) (fun _ i _ => P.length - (intOf i).toNat)
            case atStart => exact ⟨0, k, rfl, by omega, rfl, ⟨vs, by rw [show M1 ++ spB bs t x1 P k 0 = M1 from List.append_nil _]; exact hown⟩, bv, by rw [hw4]; exact Kp.refl _⟩
            case round =>
              clear K2
              have K2 := K2'
              clear hown bv
              obtain ⟨d, p, hp, hpP, rfl, ⟨vs, hown⟩, bv, K3⟩ := hrel
              by_cases hlt2 : p < P.length
              · have hl2 : (p : Int) < (P.length : Int) := by omega
                have hp0 : (0 : Int) ≤ (p : Int) := by omega
                obtain ⟨x2, hX2⟩ : ∃ x, atPi P p = x := ⟨_, rfl⟩
                obtain ⟨M2, hM2⟩ : ∃ M, M1 ++ spB bs t x1 P k d = M := ⟨_, rfl⟩
                rw [hM2] at hown
                have lM2 : M2.length ≤ 1900000000 := by
                  have := spB_len bs t x1 P k lP d
                  rw [← hM2, List.length_append]; omega
                have HX2 := Lib.hid hX2
                have HM2 := Lib.hid hM2
                have HPE := Lib.hid hp
                clear hX2 hM2 hp
                obtain ⟨w5, hw5⟩ : ∃ q : World, q = wr := ⟨_, rfl⟩
                have K3' : Kp w4 w5 := by rw [hw5]; exact K3
                go_wp2_with fail
                go_loopw [13, 16] (fun v i wr => ∃ e z : Nat, z = p + e ∧ z ≤ P.length ∧ i = .int .i64 z ∧ (∃ vs, OwPV wr w2.heap.size v (M2 ++ spC bs t x1 x2 P p e) vs) ∧ Below w2.heap.size w2 wr ∧ Kp w5 wr) (fun _ i _ => P.length - (intOf i).toNat)
                case atStart => exact ⟨0, p, rfl, by omega, rfl, ⟨vs, by rw [show M2 ++ spC bs t x1 x2 P p 0 = M2 from List.append_nil _]; exact hown⟩, bv, by rw [hw5]; exact Kp.refl _⟩
                case round =>
                  clear K3
                  have K3 := K3'
                  clear hown bv
                  obtain ⟨e, z, hz, hzP, rfl, ⟨vs, hown⟩, bv, K⟩ := hrel
                  by_cases hlt3 : z < P.length
                  · have hl3 : (z : Int) < (P.length : Int) := by omega
                    have hz0 : (0 : Int) ≤ (z : Int) := by omega
                    have bB0 := (K1.trans (K2.trans (K3.trans K))) _ _ bB
                    have SP' := SP.kp (K1.trans (K2.trans (K3.trans K)))
                    have m0 : wr.cell? ⟨w.heap.size, 0, none⟩ = some (.int .i64 bs.step) := by rw [Blk.cell bB0]; rfl
                    have m1 : wr.cell? ⟨w.heap.size, 1, none⟩ = some (.int .i64 bs.alter) := by rw [Blk.cell bB0]; rfl
                    have m2 : wr.cell? ⟨w.heap.size, 2, none⟩ = some (.int .i64 bs.octave) := by rw [Blk.cell bB0]; rfl
                    obtain ⟨bp, op, rfl, hbp, hcp⟩ := SP'.row (by omega)
                    obtain ⟨a_0, a_1, a_2⟩ := hcp k (by omega)
                    obtain ⟨b_0, b_1, b_2⟩ := hcp p (by omega)
                    obtain ⟨c_0, c_1, c_2⟩ := hcp z (by omega)
                    rw [HX1.out] at a_0 a_1 a_2
                    rw [HX2.out] at b_0 b_1 b_2
                    obtain ⟨x3, hX3⟩ : ∃ x, atPi P z = x := ⟨_, rfl⟩
                    rw [hX3] at c_0 c_1 c_2
                    obtain ⟨L, hL⟩ : ∃ L, M2 ++ spC bs t x1 x2 P p e = L := ⟨_, rfl⟩
                    rw [hL] at hown
                    have lL : L.length ≤ 2000000000 := by
                      have := spC_len bs t x1 x2 P p e
                      rw [← hL, List.length_append]; omega
                    have HG : Hid (M2 ++ spC bs t x1 x2 P p (e + 1) = if goodP bs t x1 x2 x3 = true then L ++ [[bs, x1, x2, x3]] else L) := Lib.hid (by
                      rw [spC, show p + e = z from by omega, hX3]
                      split
                      · rw [← List.append_assoc, hL]
                      · exact hL)
                    have HZE := Lib.hid hz
                    clear hcp hX3 hL hz
                    go_upto_region 25 with fail
                    have lf0 : ∀ xL : Later wr, xL.world.cell? ⟨w.heap.size, 0, none⟩ = some (.int .i64 bs.step) := fun xL => xL.at (m0)
                    have lf1 : ∀ xL : Later wr, xL.world.cell? ⟨w.heap.size, 1, none⟩ = some (.int .i64 bs.alter) := fun xL => xL.at (m1)
                    have lf2 : ∀ xL : Later wr, xL.world.cell? ⟨w.heap.size, 2, none⟩ = some (.int .i64 bs.octave) := fun xL => xL.at (m2)
                    have lf3 : ∀ xL : Later wr, xL.world.cell? ⟨bp, op + k * 3, none⟩ = some (.int .i64 x1.step) := fun xL => xL.at (a_0)
                    have lf4 : ∀ xL : Later wr, xL.world.cell? ⟨bp, op + k * 3 + 1, none⟩ = some (.int .i64 x1.alter) := fun xL => xL.at (a_1)
                    have lf5 : ∀ xL : Later wr, xL.world.cell? ⟨bp, op + k * 3 + 2, none⟩ = some (.int .i64 x1.octave) := fun xL => xL.at (a_2)
                    have lf6 : ∀ xL : Later wr, xL.world.cell? ⟨bp, op + p * 3, none⟩ = some (.int .i64 x2.step) := fun xL => xL.at (b_0)
                    have lf7 : ∀ xL : Later wr, xL.world.cell? ⟨bp, op + p * 3 + 1, none⟩ = some (.int .i64 x2.alter) := fun xL => xL.at (b_1)
                    have lf8 : ∀ xL : Later wr, xL.world.cell? ⟨bp, op + p * 3 + 2, none⟩ = some (.int .i64 x2.octave) := fun xL => xL.at (b_2)
                    have lf9 : ∀ xL : Later wr, xL.world.cell? ⟨bp, op + z * 3, none⟩ = some (.int .i64 x3.step) := fun xL => xL.at (c_0)
                    have lf10 : ∀ xL : Later wr, xL.world.cell? ⟨bp, op + z * 3 + 1, none⟩ = some (.int .i64 x3.alter) := fun xL => xL.at (c_1)
                    have lf11 : ∀ xL : Later wr, xL.world.cell? ⟨bp, op + z * 3 + 2, none⟩ = some (.int .i64 x3.octave) := fun xL => xL.at (c_2)
                    refine region_tail (w0 := wr) 13 (by kernel_rfl) (by kernel_rfl) (bel_refl _) ?_
                    simp only [List.take_succ_cons, List.take_zero, List.drop_succ_cons, List.drop_zero]
                    repeat (go_big_quiet_step ((fail)))
                    refine wpQuiet_nil ?_
                    rintro w' ⟨x, rfl⟩
                    obtain ⟨wt, bt⟩ := x
                    clear lf0 lf1 lf2 lf3 lf4 lf5 lf6 lf7 lf8 lf9 lf10 lf11
                    have hown := hown.below bt
                    have K := K.trans (Kp.bel bt)
                    have bv := bel_tr bv bt
                    have hsv := bv.size
                    have bC : Blk (wt.alloc (.cells #[.int .i64 bs.step, .int .i64 bs.alter, .int .i64 bs.octave, .int .i64 x1.step, .int .i64 x1.alter, .int .i64 x1.octave, .int .i64 x2.step, .int .i64 x2.alter, .int .i64 x2.octave, .int .i64 x3.step, .int .i64 x3.alter, .int .i64 x3.octave] 62)) wt.heap.size #[.int .i64 bs.step, .int .i64 bs.alter, .int .i64 bs.octave, .int .i64 x1.step, .int .i64 x1.alter, .int .i64 x1.octave, .int .i64 x2.step, .int .i64 x2.alter, .int .i64 x2.octave, .int .i64 x3.step, .int .i64 x3.alter, .int .i64 x3.octave] 62 := Blk.new wt _ _
                    have hown := hown.alloc (.cells #[.int .i64 bs.step, .int .i64 bs.alter, .int .i64 bs.octave, .int .i64 x1.step, .int .i64 x1.alter, .int .i64 x1.octave, .int .i64 x2.step, .int .i64 x2.alter, .int .i64 x2.octave, .int .i64 x3.step, .int .i64 x3.alter, .int .i64 x3.octave] 62)
                    have K := K.trans (Kp.bel (bel_al (bel_refl wt) (.cells #[.int .i64 bs.step, .int .i64 bs.alter, .int .i64 bs.octave, .int .i64 x1.step, .int .i64 x1.alter, .int .i64 x1.octave, .int .i64 x2.step, .int .i64 x2.alter, .int .i64 x2.octave, .int .i64 x3.step, .int .i64 x3.alter, .int .i64 x3.octave] 62)))
                    have bv := bel_al bv (.cells #[.int .i64 bs.step, .int .i64 bs.alter, .int .i64 bs.octave, .int .i64 x1.step, .int .i64 x1.alter, .int .i64 x1.octave, .int .i64 x2.step, .int .i64 x2.alter, .int .i64 x2.octave, .int .i64 x3.step, .int .i64 x3.alter, .int .i64 x3.octave] 62)
                    have SC : StP (wt.alloc (.cells #[.int .i64 bs.step, .int .i64 bs.alter, .int .i64 bs.octave, .int .i64 x1.step, .int .i64 x1.alter, .int .i64 x1.octave, .int .i64 x2.step, .int .i64 x2.alter, .int .i64 x2.octave, .int .i64 x3.step, .int .i64 x3.alter, .int .i64 x3.octave] 62)) w2.heap.size (some ⟨wt.heap.size, 0, none⟩) [bs, x1, x2, x3] := fun _ => ⟨_, 0, _, rfl, hsv, bC, fun i hi => by
                      rcases (show i = 0 ∨ i = 1 ∨ i = 2 ∨ i = 3 from by simp only [List.length_cons, List.length_nil] at hi; omega) with rfl | rfl | rfl | rfl <;> exact ⟨rfl, rfl, rfl⟩⟩
                    go_wp2_with fail
                    clear m0 m1 m2 a_0 a_1 a_2 b_0 b_1 b_2 c_0 c_1 c_2 bC bt
                    generalize (wt.alloc (.cells #[.int .i64 bs.step, .int .i64 bs.alter, .int .i64 bs.octave, .int .i64 x1.step, .int .i64 x1.alter, .int .i64 x1.octave, .int .i64 x2.step, .int .i64 x2.alter, .int .i64 x2.octave, .int .i64 x3.step, .int .i64 x3.alter, .int .i64 x3.octave] 62)) = v4 at *
                    generalize wt.heap.size = C at *
                    obtain ⟨q, hq⟩ : ∃ q, stkF [bs, x1, x2, x3] = q := ⟨_, rfl⟩
                    obtain ⟨u, hu⟩ : ∃ q, fullB [bs, x1, x2, x3] t = q := ⟨_, rfl⟩
                    refine (sstk_val hq (some ⟨C, 0, none⟩) 4 4 _ rfl (by omega) SC.row).mono ?_
                    rintro e5 w5 ⟨rfl, b5⟩
                    have hown := hown.below b5
                    have K := K.trans (Kp.bel b5)
                    have SC := SC.kp (Kp.bel b5)
                    have bv := bel_tr bv b5
                    clear b5
                    have HQ := Lib.hid hq
                    have HU := Lib.hid hu
                    clear hq hu
                    by_cases q0 : q = 0
                    · subst q0
                      go_wp2_with fail
                      refine (full_val HU.out (some ⟨C, 0, none⟩) A9 4 t.length 4 c9 _ rfl rfl (by omega) (by omega) SC.row (r9.below bv)).mono ?_
                      rintro e6 w6 ⟨rfl, b6⟩
                      have hown := hown.below b6
                      have K := K.trans (Kp.bel b6)
                      have SC := SC.kp (Kp.bel b6)
                      have bv := bel_tr bv b6
                      clear b6
                      cases u
                      · have HE := Lib.hid (HG.out.trans (if_neg (by unfold goodP; rw [HU.out]; simp)))
                        go_wp2
                        go_roundw
                        case rel => exact ⟨e + 1, z + 1, by have := HZE.out; omega, by omega, by go_num, ⟨vs, by rw [HE.out]; exact hown⟩, bv, K⟩
                        case measure => simp [intOf] <;> omega
                      · have HE := Lib.hid (HG.out.trans (if_pos (by unfold goodP; rw [HQ.out, HU.out]; rfl)))
                        have hw6 := bv.size
                        go_wp2_with (at_builtin; go_must (refine wpList_append_lies _ rfl _ _ 26 rfl w2.heap.size 37 j0 _ 1 24 Try.underlying26 hj0 hy0 hy1 hy2 rfl (by omega) _ L.length vs rfl (hown.1.alloc _) ⟨w6.heap.size, 0, none⟩ 1 1 [.slice (some ⟨C, 0, none⟩) 4 4] rfl rfl (World.news_of_block (cs := #[.slice (some ⟨C, 0, none⟩) 4 4]) (t := 37) (fr := (0, 0)) (heap_alloc_new w6 _)) (by simp [Value.oneCell']) (by omega) (by unfold maxLen; omega) (by omega) (by simp; omega) _ rfl ?_; intro gg9 cp9 w9 hown9 hgrow9 hat9 hlt9))
                        have CP : Below w6.heap.size w6 (w6.alloc (.cells #[.slice (some ⟨C, 0, none⟩) 4 4] 37)) := bel_al (bel_refl w6) _
                        have oA := (hown.below CP).push (l := [bs, x1, x2, x3]) hgrow9 hown9 (by simp) (by simp [maxLen]) (SC.kp (Kp.bel CP))
                        have K := (K.trans (Kp.bel CP)).trans (Kp.row (hown.below CP).1 hgrow9)
                        have bv := bel_grown (bel_tr bv CP) hgrow9 (fun k hk => own_ge (hown.below CP).1 k hk)
                        go_roundw
                        case rel => exact ⟨e + 1, z + 1, by have := HZE.out; omega, by omega, by go_num, ⟨_, by rw [HE.out]; exact oA⟩, bv, K⟩
                        case measure => simp [intOf] <;> omega
                    · have HE := Lib.hid (HG.out.trans (if_neg (by unfold goodP; rw [HQ.out, decide_eq_false q0]; simp)))
                      go_wp2
                      go_roundw
                      case rel => exact ⟨e + 1, z + 1, by have := HZE.out; omega, by omega, by go_num, ⟨vs, by rw [HE.out]; exact hown⟩, bv, K⟩
                      case measure => simp [intOf] <;> omega
                  · obtain rfl : z = P.length := by omega
                    have HE := Lib.hid (show M1 ++ spB bs t x1 P k (d + 1) = M2 ++ spC bs t x1 x2 P p e from by rw [spB, ← List.append_assoc, HM2.out, show k + d = p from HPE.out.symm, HX2.out, show P.length - p = e from by omega])
                    go_wp2
                    go_roundw
                    case rel => exact ⟨d + 1, p + 1, by have := HPE.out; omega, by omega, by go_num, ⟨vs, by rw [HE.out]; exact hown⟩, bv, K3.trans K⟩
                    case measure => simp [intOf] <;> omega
              · obtain rfl : p = P.length := by omega
                have HE := Lib.hid (show spA bs t P (k + 1) = M1 ++ spB bs t x1 P k d from by rw [spA, HM1.out, HX1.out, show P.length - k = d from by omega])
                go_wp2
                go_roundw
                case rel => exact ⟨k + 1, by omega, by go_num, ⟨vs, by rw [HE.out]; exact hown⟩, bv, K2.trans K3⟩
                case measure => simp [intOf] <;> omega
          · obtain rfl : k = P.length := by omega
            go_wp2
            go_ret
            exact ⟨_, vs, rfl, by rw [HPL.out]; exact hown.lo' bw2.size, bel_tr bw2 bv⟩
end Go.Proofs.Ytpjakgnghpapmaa
