/- The delays of canons without a fault: CanonDelays of both. -/
import Derived.Test.YtiapfpjggginoaaMf
import Derived.Test.YtiapfpjggginoaaBc
import Derived.Deep.DeepCutAuto
namespace Go.Proofs.Ytiapfpjggginoaa
set_option linter.unusedSimpArgs false
set_option linter.unusedVariables false
open Go.RowKit

def mtF (a b : List Nt) : List Int := if vvB a = true ∧ vvB b = true then Lib.compact ((gathL a b).mergeSort fun x y => decide (x ≤ y)) else []
theorem mtF_ok (a b : List Nt) : MtL a b (mtF a b) := by
  by_cases h : vvB a = true ∧ vvB b = true
  · unfold mtF; rw [if_pos h]; exact mt_of_sorted h.1 h.2
  · unfold mtF MtL; rw [if_neg h, if_neg h]
def mfF (a b : List Nt) : Int := mfL a b (mtF a b)
theorem mfF_ok (a b : List Nt) : mfI a b (mfF a b) := ⟨mtF a b, mtF_ok a b, rfl⟩
theorem mfI_eq {a b : List Nt} {r : Int} (h : mfI a b r) : r = mfF a b := by
  obtain ⟨L, hL, rfl⟩ := h
  unfold mfF
  rw [(mtF_ok a b).eq hL]
theorem mfL_bd (a b : List Nt) : ∀ L : List Int, (∀ x ∈ L, 0 ≤ x ∧ x < 46080) → mfL a b L = -1 ∨ (0 ≤ mfL a b L ∧ mfL a b L < 46080)
  | [], _ => .inl rfl
  | t :: L, h => by
    unfold mfL
    by_cases e : mfB a b t = true
    · rw [if_pos e]; exact .inr (h t (by simp))
    · rw [if_neg e]; exact mfL_bd a b L fun x hx => h x (List.mem_cons_of_mem _ hx)
theorem mfF_bd (a b : List Nt) : mfF a b = -1 ∨ (0 ≤ mfF a b ∧ mfF a b < 46080) := mfL_bd a b _ fun _ hx => mt_bd (mtF_ok a b) hx
def cdB (l : List Nt) (st ha d : Int) : Bool := coB l d st ha && decide (mfF l (coL l d st ha) = -1)
def cdK (l : List Nt) (g st ha : Int) : Nat → List Int
  | 0 => []
  | n + 1 => cdK l g st ha n ++ (if cdB l st ha (g * ((n : Int) + 1)) = true then [g * ((n : Int) + 1)] else [])
def cdJ (T g : Int) : Nat := (min (T - 1) 768 / g).toNat
def cdL (l : List Nt) (g st ha : Int) : List Int := if vvB l = true ∧ 1 ≤ g ∧ g ≤ 768 then cdK l g st ha (cdJ (tsum l l.length) g) else []
theorem cd_in {T g : Int} (hg : 1 ≤ g) (j : Nat) : (g * ((j : Int) + 1) < T ∧ g * ((j : Int) + 1) ≤ 768) ↔ j < cdJ T g := by
  have h := Int.le_ediv_iff_mul_le (a := (j : Int) + 1) (b := min (T - 1) 768) (c := g) (by omega)
  rw [Int.mul_comm] at h
  unfold cdJ
  generalize g * ((j : Int) + 1) = D at *
  generalize min (T - 1) 768 / g = q at *
  constructor
  · intro hh; have := h.2 (by omega); omega
  · intro hh; have := h.1 (by omega); omega
theorem cdK_len (l : List Nt) (g st ha : Int) : ∀ n, (cdK l g st ha n).length ≤ n
  | 0 => Nat.le_refl _
  | n + 1 => by
    unfold cdK
    rw [List.length_append]
    have := cdK_len l g st ha n
    split <;> simp <;> omega
theorem cdJ_le {T g : Int} (hg : 1 ≤ g) : cdJ T g ≤ 768 := by
  rcases Nat.lt_or_ge 768 (cdJ T g) with h | h
  · have := ((cd_in (T := T) hg 768).2 h).2
    have h2 : (1 : Int) * ((768 : Nat) + 1) ≤ g * (((768 : Nat) : Int) + 1) := Int.mul_le_mul_of_nonneg_right hg (by omega)
    omega
  · exact h
theorem cdL_len (l : List Nt) (g st ha : Int) : (cdL l g st ha).length ≤ 768 := by
  unfold cdL
  split
  · next h => have := cdK_len l g st ha (cdJ (tsum l l.length) g); have := cdJ_le (T := tsum l l.length) h.2.1; omega
  · simp
theorem co_iv {l : List Nt} {d st ha : Int} (h : ivB st ha = false) : coB l d st ha = false := (co_no (fun z => by have := (sh_facts z.1).2.1; rw [h] at this; cases this)).1
theorem cdK_iv {l : List Nt} {g st ha : Int} (h : ivB st ha = false) : ∀ n, cdK l g st ha n = []
  | 0 => rfl
  | n + 1 => by unfold cdK cdB; rw [cdK_iv h n, co_iv h]; rfl
theorem cdL_iv {l : List Nt} {g st ha : Int} (h : ivB st ha = false) : cdL l g st ha = [] := by
  unfold cdL; rw [cdK_iv h]; split <;> rfl
theorem vts_val {l : List Nt} {T : Int} (hT : tsum l l.length = T) (A : Option Addr) (n c : Nat) (w : World) (hn : l.length = n) (hv : vvB l = true) (h : RowNt w w.heap.size A l) :
    Calls Try.prog 48 #[.slice A n c] w fun e w' => e = .returned (.int .i64 T) ∧ Below w.heap.size w w' := by
  have := vts_any A n c l w hn hv h
  rw [hT] at this; exact this
theorem dnext (g : Int) (j : Nat) : g * ((j : Int) + 1) + g = g * (((j + 1 : Nat) : Int) + 1) := by
  rw [Int.natCast_add, Int.mul_add, Int.mul_add, Int.mul_add]; simp
set_option maxRecDepth 20000 in
set_option maxHeartbeats 8000000 in
theorem cdi_val {l : List Nt} {g st ha : Int} {L : List Int} (hL : cdL l g st ha = L) (A : Option Addr) (n c : Nat) (w : World) (hn : l.length = n) (hm : n ≤ 2000000) (h : RowNt w w.heap.size A l) :
    Calls Try.prog 31 #[.slice A n c, .int .i64 g, .agg #[.int .i64 st, .int .i64 ha]] w (MtR w L) := by
  subst hn
  obtain ⟨i0, hi0, hz0, hz1, hz2⟩ := info_parts infoIn
  have h0 := h.below (bel_al (bel_refl w) (.cells #[.int .i64 st, .int .i64 ha] 44))
  have b0 : Below w.heap.size w (w.alloc (.cells #[.int .i64 st, .int .i64 ha] 44)) := bel_al (bel_refl w) _
  have bI0 : Blk (w.alloc (.cells #[.int .i64 st, .int .i64 ha] 44)) w.heap.size #[.int .i64 st, .int .i64 ha] 44 := Blk.new w _ _
  have HLL := Lib.hid hL
  cases hv : vvB l
  · have HN := Lib.hid (show cdL l g st ha = [] from if_neg (fun z => by rw [hv] at z; cases z.1))
    go_enter Try.func31, Try.ntmps31
    go_wp2_with fail
    have hz00 : (w.alloc (.cells #[.int .i64 st, .int .i64 ha] 44)).heap.size = w.heap.size + 1 := by simp
    generalize (w.alloc (.cells #[.int .i64 st, .int .i64 ha] 44)) = w0 at *
    have cI0 : w0.cell? ⟨w.heap.size, 0, none⟩ = some (.int .i64 st) := by rw [Blk.cell bI0]; rfl
    have cI1 : w0.cell? ⟨w.heap.size, 1, none⟩ = some (.int .i64 ha) := by rw [Blk.cell bI0]; rfl
    refine (vv_val hv _ _ _ _ rfl hm h0).mono ?_
    rintro e1 w1 ⟨rfl, b1⟩
    have bw := bel_tr b0 b1
    have cI0 := keep_tr cI0 b1
    have cI1 := keep_tr cI1 b1
    go_wp2
    exact bodyPost_ret (v := .slice none 0 0) (by simp [results, Try.results31, go_sem]) rfl ⟨_, rfl, by rw [← HLL.out, HN.out]; exact World.ownsRow_nil _ _ _ _, bw⟩
  · have hf := vvB_of hv
    have HV := Lib.hid hv
    by_cases hg : 1 ≤ g ∧ g ≤ 768
    · obtain ⟨hg1, hg2⟩ := hg
      cases hiv : ivB st ha
      · have HN := Lib.hid (cdL_iv (l := l) (g := g) hiv)
        have HIV := Lib.hid hiv
        clear hiv
        go_enter Try.func31, Try.ntmps31
        go_wp2_with fail
        have hz00 : (w.alloc (.cells #[.int .i64 st, .int .i64 ha] 44)).heap.size = w.heap.size + 1 := by simp
        generalize (w.alloc (.cells #[.int .i64 st, .int .i64 ha] 44)) = w0 at *
        have cI0 : w0.cell? ⟨w.heap.size, 0, none⟩ = some (.int .i64 st) := by rw [Blk.cell bI0]; rfl
        have cI1 : w0.cell? ⟨w.heap.size, 1, none⟩ = some (.int .i64 ha) := by rw [Blk.cell bI0]; rfl
        refine (vv_val HV.out _ _ _ _ rfl hm h0).mono ?_
        rintro e1 w1 ⟨rfl, b1⟩
        have bw := bel_tr b0 b1
        have cI0 := keep_tr cI0 b1
        have cI1 := keep_tr cI1 b1
        go_wp2_with (go_at_call 58; refine (win_yes _ _ _ _ (by omega) (by omega)).mono ?_; rintro e w' ⟨rfl, rfl⟩)
        refine (iv_val HIV.out _).mono ?_
        rintro e2 w2 ⟨rfl, b2⟩
        go_wp2
        exact bodyPost_ret (v := .slice none 0 0) (by simp [results, Try.results31, go_sem]) rfl ⟨_, rfl, by rw [← HLL.out, HN.out]; exact World.ownsRow_nil _ _ _ _, bel_tr bw b2⟩
      · have HIV := Lib.hid hiv
        clear hiv
        go_enter Try.func31, Try.ntmps31
        go_wp2_with fail
        have hz00 : (w.alloc (.cells #[.int .i64 st, .int .i64 ha] 44)).heap.size = w.heap.size + 1 := by simp
        generalize (w.alloc (.cells #[.int .i64 st, .int .i64 ha] 44)) = w0 at *
        have cI0 : w0.cell? ⟨w.heap.size, 0, none⟩ = some (.int .i64 st) := by rw [Blk.cell bI0]; rfl
        have cI1 : w0.cell? ⟨w.heap.size, 1, none⟩ = some (.int .i64 ha) := by rw [Blk.cell bI0]; rfl
        refine (vv_val HV.out _ _ _ _ rfl hm h0).mono ?_
        rintro e1 w1 ⟨rfl, b1⟩
        have bw := bel_tr b0 b1
        have cI0 := keep_tr cI0 b1
        have cI1 := keep_tr cI1 b1
        go_wp2_with (go_at_call 58; refine (win_yes _ _ _ _ (by omega) (by omega)).mono ?_; rintro e w' ⟨rfl, rfl⟩)
        refine (iv_val HIV.out _).mono ?_
        rintro e2 w2 ⟨rfl, b2⟩
        have bI := (bI0.below b1).below b2
        have bw := bel_tr bw b2
        obtain ⟨wq, rfl⟩ : ∃ z : World, z = w2 := ⟨_, rfl⟩
        obtain ⟨T, hT⟩ : ∃ z, tsum l l.length = z := ⟨_, rfl⟩
        have HT := Lib.hid hT
        have HE := Lib.hid (show L = cdK l g st ha (cdJ T g) from by rw [← HLL.out, ← hT]; exact if_pos ⟨hv, hg1, hg2⟩)
        have h60 := hf.len
        have hJ := cdJ_le (T := T) hg1
        clear hT hv
        have own0 : (wq.alloc (.cells #[] 3)).ownsRow w.heap.size 3 1 (.slice (some ⟨wq.heap.size, 0, none⟩) 0 0) (cdK l g st ha 0).length (flat csIn (cdK l g st ha 0)) := World.ownsRow_lit wq #[] 0 bw.size (by simp [maxLen]) rfl
        have bE : Below w.heap.size w (wq.alloc (.cells #[] 3)) := bel_al bw _
        have bIE : Blk (wq.alloc (.cells #[] 3)) w.heap.size #[.int .i64 st, .int .i64 ha] 44 := bI.alloc _
        clear bI bI0 b0 h0
        go_wp2
        go_loopw [7, 8, 9, 10] (fun o d _ _ wr => ∃ (j : Nat) (D : Int), d = .int .i64 D ∧ D = g * ((j : Int) + 1) ∧ (j : Int) + 1 ≤ D ∧ D ≤ 1536 ∧ j ≤ cdJ T g ∧ wr.ownsRow w.heap.size 3 1 o (cdK l g st ha j).length (flat csIn (cdK l g st ha j)) ∧ Blk wr w.heap.size #[.int .i64 st, .int .i64 ha] 44 ∧ Below w.heap.size w wr) (fun _ d _ _ _ => (4000 - intOf d).toNat)
        case atStart => exact ⟨0, g, rfl, by simp, by omega, by omega, Nat.zero_le _, own0, bIE, bE⟩
        case round =>
          obtain ⟨j, D, rfl, hD, hjD, hD2, hjJ0, hown, bI, hb⟩ := hrel
          clear own0 bE bIE
          have HD := Lib.hid hD
          have hin := cd_in (T := T) hg1 j
          rw [← hD] at hin
          clear hD
          have hln := cdK_len l g st ha j
          by_cases hlt : D < T ∧ D ≤ 768
          · have hjJ : j + 1 ≤ cdJ T g := hin.1 hlt
            obtain ⟨hlt1, hlt2⟩ := hlt
            clear hin
            have i1 := IntWalk.i64_in (D + g) (by omega)
            go_wp2_with fail
            refine (vts_val HT.out _ _ _ _ rfl HV.out (h.below hb)).mono ?_
            rintro e3 w3 ⟨rfl, b3⟩
            have ownX := own_below hown b3
            have bIX := bI.below b3
            have hbX := bel_tr hb b3
            have HS := Lib.hid (show cdK l g st ha (j + 1) = cdK l g st ha j ++ (if cdB l st ha D = true then [D] else []) from by rw [HD.out]; rfl)
            have cJ0 : w3.cell? ⟨w.heap.size, 0, none⟩ = some (.int .i64 st) := by rw [Blk.cell bIX]; rfl
            have cJ1 : w3.cell? ⟨w.heap.size, 1, none⟩ = some (.int .i64 ha) := by rw [Blk.cell bIX]; rfl
            have HM := Lib.hid (show cdK l g st ha j = cdK l g st ha j from rfl)
            obtain ⟨M, hM⟩ : ∃ z, cdK l g st ha j = z := ⟨_, rfl⟩
            rw [hM] at ownX hln
            have HMM := Lib.hid hM
            have HS := Lib.hid (show cdK l g st ha (j + 1) = M ++ (if cdB l st ha D = true then [D] else []) from by rw [← hM]; exact HS.out)
            clear HM hM hown b3 bI hb
            obtain ⟨L2, hL2⟩ : ∃ z, coL l D st ha = z := ⟨_, rfl⟩
            obtain ⟨B2, hB2⟩ : ∃ z, coB l D st ha = z := ⟨_, rfl⟩
            have hL61 : L2.length ≤ 61 := by rw [← hL2]; exact coL_len _ _ _ _
            have HL2 := Lib.hid hL2
            have HB2 := Lib.hid hB2
            clear hL2 hB2
            go_wp2_with fail
            refine (co_val HL2.out HB2.out _ _ _ _ rfl hm (h.below hbX)).mono ?_
            rintro e4 w4 ⟨A4, c4, rfl, lc4, cm4, r4, _, b4⟩
            have own4 := own_below ownX b4
            have bI4 := bIX.below b4
            have hb4 := bel_tr hbX b4
            clear ownX bIX cJ0 cJ1 hbX b4
            cases B2
            · have HC := Lib.hid (show ¬ cdB l st ha D = true from by unfold cdB; rw [HB2.out]; simp)
              go_wp2
              go_roundw
              case rel => exact ⟨j + 1, D + g, rfl, by rw [HD.out]; exact dnext _ _, by omega, by omega, hjJ, by rw [HS.out, if_neg HC.out]; exact by rw [List.append_nil]; exact own4, bI4, hb4⟩
              case measure => simp [intOf]; omega
            · obtain ⟨r, hr⟩ : ∃ z, mfF l L2 = z := ⟨_, rfl⟩
              have hri : mfI l L2 r := by rw [← hr]; exact mfF_ok _ _
              have hbd := mfF_bd l L2
              rw [hr] at hbd
              have HR := Lib.hid hr
              have HRI := Lib.hid hri
              clear hr hri
              go_wp2_with fail
              refine (mf_val HRI.out _ _ _ _ _ _ _ rfl hm (h.below hb4) rfl (by omega) r4).mono ?_
              rintro e5 w5 ⟨rfl, b5⟩
              have ownZ := own_below own4 b5
              have bIZ := bI4.below b5
              have hbZ := bel_tr hb4 b5
              clear own4 bI4 hb4 b5 r4
              obtain ⟨wz, rfl⟩ : ∃ z : World, z = w5 := ⟨_, rfl⟩
              have hsz := hbZ.size
              rcases hbd with rfl | ⟨hr0, hr1⟩
              · have HC := Lib.hid (show cdB l st ha D = true from by unfold cdB; rw [HB2.out, HL2.out, HR.out]; rfl)
                go_wp2_with (at_builtin; go_must (refine wpList_append_lies _ rfl _ _ 24 rfl w.heap.size 3 i0 _ 1 8 Try.underlying24 hi0 hz0 hz1 hz2 rfl (by omega) _ M.length (flat csIn M) rfl (ownZ.alloc _) ⟨wz.heap.size, 0, none⟩ 1 1 [.int .i64 D] rfl rfl (World.news_of_block (cs := #[.int .i64 D]) (t := 3) (fr := (0, 0)) (heap_alloc_new wz _)) (by simp [Value.oneCell']) (by first | (simp; done) | (simp; omega)) (by unfold maxLen; omega) (by omega) (by simp; omega) _ rfl ?_; intro gg9 cp9 w9 hown9 hgrow9 hat9 hlt9))
                have hownY : w9.ownsRow w.heap.size 3 1 (.slice (some ⟨gg9, 0, none⟩) (M.length + 1) cp9) (M ++ [D]).length (flat csIn (M ++ [D])) := by rw [List.length_append, List.length_singleton, ← flatIn_s]; exact hown9
                have hbY : Below w.heap.size w w9 := own_bel (ownZ.alloc _) (bel_al hbZ _) (Nat.le_refl _) hgrow9
                have bIY : Blk w9 w.heap.size #[.int .i64 st, .int .i64 ha] 44 := (bIZ.alloc (.cells #[.int .i64 D] 3)).grown hgrow9 (own_neQ (ownZ.alloc (.cells #[.int .i64 D] 3)) (bIZ.alloc (.cells #[.int .i64 D] 3)) (by decide))
                clear hown9 hgrow9 hat9 hlt9 ownZ bIZ hbZ
                go_roundw
                case rel => exact ⟨j + 1, D + g, rfl, by rw [HD.out]; exact dnext _ _, by omega, by omega, hjJ, by rw [HS.out, if_pos HC.out]; exact hownY, bIY, hbY⟩
                case measure => simp [intOf]; omega
              · have HC := Lib.hid (show ¬ cdB l st ha D = true from by unfold cdB; rw [HB2.out, HL2.out, HR.out]; simp; omega)
                have hr2 : ¬ r < 0 := by omega
                have hr3 : ¬ r = -1 := by omega
                go_wp2
                go_roundw
                case rel => exact ⟨j + 1, D + g, rfl, by rw [HD.out]; exact dnext _ _, by omega, by omega, hjJ, by rw [HS.out, if_neg HC.out]; exact by rw [List.append_nil]; exact ownZ, bIZ, hbZ⟩
                case measure => simp [intOf]; omega
          · have hjJ : j = cdJ T g := by have := (not_congr hin).1 hlt; omega
            have HJ := Lib.hid hjJ
            clear hin hjJ
            by_cases hlt1 : D < T
            · have hlt2 : ¬ D ≤ 768 := fun z => hlt ⟨hlt1, z⟩
              clear hlt
              go_wp2_with fail
              refine (vts_val HT.out _ _ _ _ rfl HV.out (h.below hb)).mono ?_
              rintro e3 w3 ⟨rfl, b3⟩
              have ownX := own_below hown b3
              have bIX := bI.below b3
              have hbX := bel_tr hb b3
              go_wp2
              exact bodyPost_ret (v := u7) (by simp [results, Try.results31, go_sem]) rfl ⟨u7, rfl, by rw [HE.out, ← HJ.out]; exact ownX, hbX⟩
            · clear hlt
              go_wp2_with fail
              refine (vts_val HT.out _ _ _ _ rfl HV.out (h.below hb)).mono ?_
              rintro e3 w3 ⟨rfl, b3⟩
              have ownX := own_below hown b3
              have bIX := bI.below b3
              have hbX := bel_tr hb b3
              go_wp2
              exact bodyPost_ret (v := u7) (by simp [results, Try.results31, go_sem]) rfl ⟨u7, rfl, by rw [HE.out, ← HJ.out]; exact ownX, hbX⟩
    · have HN := Lib.hid (show cdL l g st ha = [] from if_neg (fun z => hg z.2))
      go_enter Try.func31, Try.ntmps31
      go_wp2_with fail
      have hz00 : (w.alloc (.cells #[.int .i64 st, .int .i64 ha] 44)).heap.size = w.heap.size + 1 := by simp
      generalize (w.alloc (.cells #[.int .i64 st, .int .i64 ha] 44)) = w0 at *
      have cI0 : w0.cell? ⟨w.heap.size, 0, none⟩ = some (.int .i64 st) := by rw [Blk.cell bI0]; rfl
      have cI1 : w0.cell? ⟨w.heap.size, 1, none⟩ = some (.int .i64 ha) := by rw [Blk.cell bI0]; rfl
      refine (vv_val HV.out _ _ _ _ rfl hm h0).mono ?_
      rintro e1 w1 ⟨rfl, b1⟩
      have bw := bel_tr b0 b1
      have cI0 := keep_tr cI0 b1
      have cI1 := keep_tr cI1 b1
      go_wp2_with (go_at_call 58; refine (win_no _ _ _ _ (by omega)).mono ?_; rintro e w' ⟨rfl, rfl⟩)
      exact bodyPost_ret (v := .slice none 0 0) (by simp [results, Try.results31, go_sem]) rfl ⟨_, rfl, by rw [← HLL.out, HN.out]; exact World.ownsRow_nil _ _ _ _, bw⟩
set_option maxRecDepth 20000 in
set_option maxHeartbeats 8000000 in
theorem scd_val {l : List Nt} {g st ha : Int} {L : List Int} (hL : cdL l g st ha = L) (A : Option Addr) (n c : Nat) (w : World) (hn : l.length = n) (hm : n ≤ 2000000) (h : RowNt w w.heap.size A l) :
    Calls Try.prog 29 #[.slice A n c, .int .i64 g, .agg #[.int .i64 st, .int .i64 ha]] w (MtR w L) := by
  subst hn
  obtain ⟨i0, hi0, hz0, hz1, hz2⟩ := info_parts infoIn
  have h0 := h.below (bel_al (bel_refl w) (.cells #[.int .i64 st, .int .i64 ha] 44))
  have b0 : Below w.heap.size w (w.alloc (.cells #[.int .i64 st, .int .i64 ha] 44)) := bel_al (bel_refl w) _
  have bI0 : Blk (w.alloc (.cells #[.int .i64 st, .int .i64 ha] 44)) w.heap.size #[.int .i64 st, .int .i64 ha] 44 := Blk.new w _ _
  have HLL := Lib.hid hL
  cases hv : vvB l
  · have HN := Lib.hid (show cdL l g st ha = [] from if_neg (fun z => by rw [hv] at z; cases z.1))
    go_enter Try.func29, Try.ntmps29
    go_upto_region 3 with fail
    have hz00 : (w.alloc (.cells #[.int .i64 st, .int .i64 ha] 44)).heap.size = w.heap.size + 1 := by simp
    generalize (w.alloc (.cells #[.int .i64 st, .int .i64 ha] 44)) = w0 at *
    have cI0 : w0.cell? ⟨w.heap.size, 0, none⟩ = some (.int .i64 st) := by rw [Blk.cell bI0]; rfl
    have cI1 : w0.cell? ⟨w.heap.size, 1, none⟩ = some (.int .i64 ha) := by rw [Blk.cell bI0]; rfl
    have own0 : (w0.alloc (.cells #[] 3)).ownsRow w.heap.size 3 1 (.slice (some ⟨w.heap.size + 1, 0, none⟩) 0 0) (([] : List Int)).length (flat csIn (([] : List Int))) := by rw [← hz00]; exact World.ownsRow_lit w0 #[] 0 (by have := b0.size; omega) (by simp [maxLen]) rfl
    have bE : Below w.heap.size w (w0.alloc (.cells #[] 3)) := bel_al b0 _
    go_loopw [7, 8, 9, 10] (fun o d _ _ wr => wr.ownsRow w.heap.size 3 1 o (([] : List Int)).length (flat csIn (([] : List Int))) ∧ Below w.heap.size w wr ∧ d = .int .i64 g) (fun _ _ _ _ _ => 0)
    case atStart => exact ⟨own0, bE, rfl⟩
    case round =>
      obtain ⟨own9, hb, rfl⟩ := hrel
      clear own0 bE
      go_wp2_with fail
      refine (svv_val hv _ _ _ _ rfl hm (h.below hb)).mono ?_
      rintro e1 w1 ⟨rfl, b1⟩
      have own9 := own_below own9 b1
      have bw := bel_tr hb b1
      go_wp2
      exact bodyPost_ret (v := u7) (by simp [results, Try.results29, go_sem]) rfl ⟨u7, rfl, by rw [← HLL.out, HN.out]; exact own9, bw⟩
  · have hf := vvB_of hv
    have HV := Lib.hid hv
    by_cases hg : 1 ≤ g ∧ g ≤ 768
    · obtain ⟨hg1, hg2⟩ := hg
      go_enter Try.func29, Try.ntmps29
      go_upto_region 3 with fail
      have hz00 : (w.alloc (.cells #[.int .i64 st, .int .i64 ha] 44)).heap.size = w.heap.size + 1 := by simp
      generalize (w.alloc (.cells #[.int .i64 st, .int .i64 ha] 44)) = w0 at *
      have cI0 : w0.cell? ⟨w.heap.size, 0, none⟩ = some (.int .i64 st) := by rw [Blk.cell bI0]; rfl
      have cI1 : w0.cell? ⟨w.heap.size, 1, none⟩ = some (.int .i64 ha) := by rw [Blk.cell bI0]; rfl
      have bI := bI0
      have bw := b0
      obtain ⟨wq, rfl⟩ : ∃ z : World, z = w0 := ⟨_, rfl⟩
      obtain ⟨T, hT⟩ : ∃ z, tsum l l.length = z := ⟨_, rfl⟩
      have HT := Lib.hid hT
      have HE := Lib.hid (show L = cdK l g st ha (cdJ T g) from by rw [← HLL.out, ← hT]; exact if_pos ⟨hv, hg1, hg2⟩)
      have h60 := hf.len
      have hJ := cdJ_le (T := T) hg1
      clear hT hv
      have own0 : (wq.alloc (.cells #[] 3)).ownsRow w.heap.size 3 1 (.slice (some ⟨w.heap.size + 1, 0, none⟩) 0 0) (cdK l g st ha 0).length (flat csIn (cdK l g st ha 0)) := by rw [← hz00]; exact World.ownsRow_lit wq #[] 0 bw.size (by simp [maxLen]) rfl
      have bE : Below w.heap.size w (wq.alloc (.cells #[] 3)) := bel_al bw _
      have bIE : Blk (wq.alloc (.cells #[] 3)) w.heap.size #[.int .i64 st, .int .i64 ha] 44 := bI.alloc _
      clear bI bI0 b0 h0

      go_loopw [7, 8, 9, 10] (fun o d _ _ wr => ∃ (j : Nat) (D : Int), d = .int .i64 D ∧ D = g * ((j : Int) + 1) ∧ (j : Int) + 1 ≤ D ∧ D ≤ 1536 ∧ j ≤ cdJ T g ∧ wr.ownsRow w.heap.size 3 1 o (cdK l g st ha j).length (flat csIn (cdK l g st ha j)) ∧ Blk wr w.heap.size #[.int .i64 st, .int .i64 ha] 44 ∧ Below w.heap.size w wr) (fun _ d _ _ _ => (4000 - intOf d).toNat)
      case atStart => exact ⟨0, g, rfl, by simp, by omega, by omega, Nat.zero_le _, own0, bIE, bE⟩
      case round =>
        obtain ⟨j, D, rfl, hD, hjD, hD2, hjJ0, hown, bI, hb⟩ := hrel
        clear own0 bE bIE
        have HD := Lib.hid hD
        have hin := cd_in (T := T) hg1 j
        rw [← hD] at hin
        clear hD
        have hln := cdK_len l g st ha j
        by_cases hlt : D < T ∧ D ≤ 768
        · have hjJ : j + 1 ≤ cdJ T g := hin.1 hlt
          obtain ⟨hlt1, hlt2⟩ := hlt
          clear hin
          have i1 := IntWalk.i64_in (D + g) (by omega)
          go_wp2_with fail
          refine (svv_val HV.out _ _ _ _ rfl hm (h.below hb)).mono ?_
          rintro e2 w2 ⟨rfl, b2⟩
          go_wp2_with (go_at_call 56; refine (swin_yes _ _ _ _ (by omega) (by omega)).mono ?_; rintro e w' ⟨rfl, rfl⟩)
          refine (svts_val HT.out _ _ _ _ rfl HV.out (h.below (bel_tr hb b2))).mono ?_
          rintro e3 w3 ⟨rfl, b3⟩
          have ownX := own_below (own_below hown b2) b3
          have bIX := (bI.below b2).below b3
          have hbX := bel_tr (bel_tr hb b2) b3
          clear b2
          have HS := Lib.hid (show cdK l g st ha (j + 1) = cdK l g st ha j ++ (if cdB l st ha D = true then [D] else []) from by rw [HD.out]; rfl)
          have cJ0 : w3.cell? ⟨w.heap.size, 0, none⟩ = some (.int .i64 st) := by rw [Blk.cell bIX]; rfl
          have cJ1 : w3.cell? ⟨w.heap.size, 1, none⟩ = some (.int .i64 ha) := by rw [Blk.cell bIX]; rfl
          have HM := Lib.hid (show cdK l g st ha j = cdK l g st ha j from rfl)
          obtain ⟨M, hM⟩ : ∃ z, cdK l g st ha j = z := ⟨_, rfl⟩
          rw [hM] at ownX hln
          have HMM := Lib.hid hM
          have HS := Lib.hid (show cdK l g st ha (j + 1) = M ++ (if cdB l st ha D = true then [D] else []) from by rw [← hM]; exact HS.out)
          clear HM hM hown b3 bI hb
          obtain ⟨L2, hL2⟩ : ∃ z, coL l D st ha = z := ⟨_, rfl⟩
          obtain ⟨B2, hB2⟩ : ∃ z, coB l D st ha = z := ⟨_, rfl⟩
          have hL61 : L2.length ≤ 61 := by rw [← hL2]; exact coL_len _ _ _ _
          have HL2 := Lib.hid hL2
          have HB2 := Lib.hid hB2
          clear hL2 hB2
          go_wp2_with fail
          refine (sco_val HL2.out HB2.out _ _ _ _ rfl hm (h.below hbX)).mono ?_
          rintro e4 w4 ⟨A4, c4, rfl, lc4, cm4, r4, _, b4⟩
          have own4 := own_below ownX b4
          have bI4 := bIX.below b4
          have hb4 := bel_tr hbX b4
          clear ownX bIX cJ0 cJ1 hbX b4
          cases B2
          · have HC := Lib.hid (show ¬ cdB l st ha D = true from by unfold cdB; rw [HB2.out]; simp)
            go_wp2
            go_roundw
            case rel => exact ⟨j + 1, D + g, rfl, by rw [HD.out]; exact dnext _ _, by omega, by omega, hjJ, by rw [HS.out, if_neg HC.out]; exact by rw [List.append_nil]; exact own4, bI4, hb4⟩
            case measure => simp [intOf]; omega
          · obtain ⟨r, hr⟩ : ∃ z, mfF l L2 = z := ⟨_, rfl⟩
            have hri : mfI l L2 r := by rw [← hr]; exact mfF_ok _ _
            have hbd := mfF_bd l L2
            rw [hr] at hbd
            have HR := Lib.hid hr
            have HRI := Lib.hid hri
            clear hr hri
            go_wp2_with fail
            refine (smf_val HRI.out _ _ _ _ _ _ _ rfl hm (h.below hb4) rfl (by omega) r4).mono ?_
            rintro e5 w5 ⟨rfl, b5⟩
            have ownZ := own_below own4 b5
            have bIZ := bI4.below b5
            have hbZ := bel_tr hb4 b5
            clear own4 bI4 hb4 b5 r4
            obtain ⟨wz, rfl⟩ : ∃ z : World, z = w5 := ⟨_, rfl⟩
            have hsz := hbZ.size
            rcases hbd with rfl | ⟨hr0, hr1⟩
            · have HC := Lib.hid (show cdB l st ha D = true from by unfold cdB; rw [HB2.out, HL2.out, HR.out]; rfl)
              go_wp2_with (at_builtin; go_must (refine wpList_append_lies _ rfl _ _ 24 rfl w.heap.size 3 i0 _ 1 8 Try.underlying24 hi0 hz0 hz1 hz2 rfl (by omega) _ M.length (flat csIn M) rfl (ownZ.alloc _) ⟨wz.heap.size, 0, none⟩ 1 1 [.int .i64 D] rfl rfl (World.news_of_block (cs := #[.int .i64 D]) (t := 3) (fr := (0, 0)) (heap_alloc_new wz _)) (by simp [Value.oneCell']) (by first | (simp; done) | (simp; omega)) (by unfold maxLen; omega) (by omega) (by simp; omega) _ rfl ?_; intro gg9 cp9 w9 hown9 hgrow9 hat9 hlt9))
              have hownY : w9.ownsRow w.heap.size 3 1 (.slice (some ⟨gg9, 0, none⟩) (M.length + 1) cp9) (M ++ [D]).length (flat csIn (M ++ [D])) := by rw [List.length_append, List.length_singleton, ← flatIn_s]; exact hown9
              have hbY : Below w.heap.size w w9 := own_bel (ownZ.alloc _) (bel_al hbZ _) (Nat.le_refl _) hgrow9
              have bIY : Blk w9 w.heap.size #[.int .i64 st, .int .i64 ha] 44 := (bIZ.alloc (.cells #[.int .i64 D] 3)).grown hgrow9 (own_neQ (ownZ.alloc (.cells #[.int .i64 D] 3)) (bIZ.alloc (.cells #[.int .i64 D] 3)) (by decide))
              clear hown9 hgrow9 hat9 hlt9 ownZ bIZ hbZ
              go_roundw
              case rel => exact ⟨j + 1, D + g, rfl, by rw [HD.out]; exact dnext _ _, by omega, by omega, hjJ, by rw [HS.out, if_pos HC.out]; exact hownY, bIY, hbY⟩
              case measure => simp [intOf]; omega
            · have HC := Lib.hid (show ¬ cdB l st ha D = true from by unfold cdB; rw [HB2.out, HL2.out, HR.out]; simp; omega)
              have hr2 : ¬ r < 0 := by omega
              have hr3 : ¬ r = -1 := by omega
              go_wp2
              go_roundw
              case rel => exact ⟨j + 1, D + g, rfl, by rw [HD.out]; exact dnext _ _, by omega, by omega, hjJ, by rw [HS.out, if_neg HC.out]; exact by rw [List.append_nil]; exact ownZ, bIZ, hbZ⟩
              case measure => simp [intOf]; omega
        · have hjJ : j = cdJ T g := by have := (not_congr hin).1 hlt; omega
          have HJ := Lib.hid hjJ
          clear hin hjJ
          by_cases hlt1 : D < T
          · have hlt2 : ¬ D ≤ 768 := fun z => hlt ⟨hlt1, z⟩
            clear hlt
            go_wp2_with fail
            refine (svv_val HV.out _ _ _ _ rfl hm (h.below hb)).mono ?_
            rintro e2 w2 ⟨rfl, b2⟩
            go_wp2_with (go_at_call 56; refine (swin_yes _ _ _ _ (by omega) (by omega)).mono ?_; rintro e w' ⟨rfl, rfl⟩)
            refine (svts_val HT.out _ _ _ _ rfl HV.out (h.below (bel_tr hb b2))).mono ?_
            rintro e3 w3 ⟨rfl, b3⟩
            have ownX := own_below (own_below hown b2) b3
            have bIX := (bI.below b2).below b3
            have hbX := bel_tr (bel_tr hb b2) b3
            clear b2
            go_wp2
            exact bodyPost_ret (v := u7) (by simp [results, Try.results29, go_sem]) rfl ⟨u7, rfl, by rw [HE.out, ← HJ.out]; exact ownX, hbX⟩
          · clear hlt
            go_wp2_with fail
            refine (svv_val HV.out _ _ _ _ rfl hm (h.below hb)).mono ?_
            rintro e2 w2 ⟨rfl, b2⟩
            go_wp2_with (go_at_call 56; refine (swin_yes _ _ _ _ (by omega) (by omega)).mono ?_; rintro e w' ⟨rfl, rfl⟩)
            refine (svts_val HT.out _ _ _ _ rfl HV.out (h.below (bel_tr hb b2))).mono ?_
            rintro e3 w3 ⟨rfl, b3⟩
            have ownX := own_below (own_below hown b2) b3
            have bIX := (bI.below b2).below b3
            have hbX := bel_tr (bel_tr hb b2) b3
            clear b2
            go_wp2
            exact bodyPost_ret (v := u7) (by simp [results, Try.results29, go_sem]) rfl ⟨u7, rfl, by rw [HE.out, ← HJ.out]; exact ownX, hbX⟩
    · have HN := Lib.hid (show cdL l g st ha = [] from if_neg (fun z => hg z.2))
      go_enter Try.func29, Try.ntmps29
      go_upto_region 3 with fail
      have hz00 : (w.alloc (.cells #[.int .i64 st, .int .i64 ha] 44)).heap.size = w.heap.size + 1 := by simp
      generalize (w.alloc (.cells #[.int .i64 st, .int .i64 ha] 44)) = w0 at *
      have cI0 : w0.cell? ⟨w.heap.size, 0, none⟩ = some (.int .i64 st) := by rw [Blk.cell bI0]; rfl
      have cI1 : w0.cell? ⟨w.heap.size, 1, none⟩ = some (.int .i64 ha) := by rw [Blk.cell bI0]; rfl
      have own0 : (w0.alloc (.cells #[] 3)).ownsRow w.heap.size 3 1 (.slice (some ⟨w.heap.size + 1, 0, none⟩) 0 0) (([] : List Int)).length (flat csIn (([] : List Int))) := by rw [← hz00]; exact World.ownsRow_lit w0 #[] 0 (by have := b0.size; omega) (by simp [maxLen]) rfl
      have bE : Below w.heap.size w (w0.alloc (.cells #[] 3)) := bel_al b0 _
      go_loopw [7, 8, 9, 10] (fun o d _ _ wr => wr.ownsRow w.heap.size 3 1 o (([] : List Int)).length (flat csIn (([] : List Int))) ∧ Below w.heap.size w wr ∧ d = .int .i64 g) (fun _ _ _ _ _ => 0)
      case atStart => exact ⟨own0, bE, rfl⟩
      case round =>
        obtain ⟨own9, hb, rfl⟩ := hrel
        clear own0 bE
        go_wp2_with fail
        refine (svv_val HV.out _ _ _ _ rfl hm (h.below hb)).mono ?_
        rintro e1 w1 ⟨rfl, b1⟩
        have own9 := own_below own9 b1
        have bw := bel_tr hb b1
        go_wp2_with (go_at_call 56; refine (swin_no _ _ _ _ (by omega)).mono ?_; rintro e w' ⟨rfl, rfl⟩)
        exact bodyPost_ret (v := u7) (by simp [results, Try.results29, go_sem]) rfl ⟨u7, rfl, by rw [← HLL.out, HN.out]; exact own9, bw⟩
theorem cdi_q {l : List Nt} {g st ha : Int} {L : List Int} (hL : cdL l g st ha = L) (A : Option Addr) (n c : Nat) (w : World) (hn : l.length = n) (hm : n ≤ 2000000) (h : RowNt w w.heap.size A l) :
    Calls Try.prog 31 #[.slice A n c, .int .i64 g, .agg #[.int .i64 st, .int .i64 ha]] w (MtQ w L) := (cdi_val hL A n c w hn hm h).mono fun _ _ h => h.q
theorem scd_q {l : List Nt} {g st ha : Int} {L : List Int} (hL : cdL l g st ha = L) (A : Option Addr) (n c : Nat) (w : World) (hn : l.length = n) (hm : n ≤ 2000000) (h : RowNt w w.heap.size A l) :
    Calls Try.prog 29 #[.slice A n c, .int .i64 g, .agg #[.int .i64 st, .int .i64 ha]] w (MtQ w L) := (scd_val hL A n c w hn hm h).mono fun _ _ h => h.q
end Go.Proofs.Ytiapfpjggginoaa
