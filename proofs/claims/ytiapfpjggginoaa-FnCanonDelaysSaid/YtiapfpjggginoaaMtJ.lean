/- The ticks at which two voices are to be looked at: MeetTicks of the program. -/
import Derived.Test.YtiapfpjggginoaaMtI
namespace Go.Proofs.Ytiapfpjggginoaa
set_option linter.unusedSimpArgs false
set_option linter.unusedVariables false
open Go.RowKit

theorem own_lo {w : World} {base base' : Nat} {e : TypeId} {size : Nat} {v : Value} {n : Nat} {xs : List Value} (h : w.ownsRow base' e size v n xs) (hb : base ≤ base') : w.ownsRow base e size v n xs :=
  ⟨h.1, h.2.imp id (fun ⟨g, cap, cur, h1, h2, h3⟩ => ⟨g, cap, cur, h1, Nat.le_trans hb h2, h3⟩)⟩
theorem gathL_len (a b : List Nt) : (gathL a b).length ≤ a.length + b.length + 1 := by
  unfold gathL
  split <;> simp [bgK_len] <;> omega
theorem mt_ex (a b : List Nt) : ∃ L, MtL a b L ∧ L.length ≤ 121 := by
  by_cases h : vvB a = true ∧ vvB b = true
  · refine ⟨_, mt_of_sorted h.1 h.2, ?_⟩
    have h1 := Lib.compact_length_le ((gathL a b).mergeSort fun x y => decide (x ≤ y))
    rw [List.length_mergeSort] at h1
    have h2 := gathL_len a b
    have h3 := (vvB_of h.1).len
    have h4 := (vvB_of h.2).len
    omega
  · exact ⟨[], by unfold MtL; rw [if_neg h], by simp⟩
theorem mt_len121 {a b : List Nt} {L : List Int} (h : MtL a b L) : L.length ≤ 121 := by
  obtain ⟨M, hM, hl⟩ := mt_ex a b
  rw [h.eq hM]; exact hl
def MtR (w : World) (L : List Int) (e : Ending) (w' : World) : Prop :=
  ∃ v, e = .returned v ∧ w'.ownsRow w.heap.size 3 1 v (L).length (flat csIn (L)) ∧ Below w.heap.size w w'
set_option maxRecDepth 20000 in
set_option maxHeartbeats 2000000 in
theorem mti_val {a b : List Nt} {L : List Int} (hL : MtL a b L) (A : Option Addr) (n c : Nat) (A' : Option Addr) (n' c' : Nat) (w : World) (hn : a.length = n) (hm : n ≤ 2000000) (h : RowNt w w.heap.size A a) (hn' : b.length = n') (hm' : n' ≤ 2000000) (h' : RowNt w w.heap.size A' b) :
    Calls Try.prog 13 #[.slice A n c, .slice A' n' c'] w (MtR w L) := by
  subst hn hn'
  obtain ⟨i0, hi0, hz0, hz1, hz2⟩ := info_parts infoIn
  cases hva : vvB a
  · have HN := Lib.hid (show L = [] from by unfold MtL at hL; rw [if_neg (fun z => by rw [hva] at z; cases z.1)] at hL; exact hL)
    have HA := Lib.hid hva
    clear hva hL
    go_enter Try.func13, Try.ntmps13
    go_wp2_with fail
    refine (vv_val HA.out _ _ _ _ rfl hm h).mono ?_
    rintro e1 w1 ⟨rfl, b1⟩
    have bw := b1
    go_wp2_with fail
    exact bodyPost_ret (v := .slice none 0 0) (by simp [results, Try.results13, go_sem]) rfl ⟨_, rfl, by rw [HN.out]; exact World.ownsRow_nil _ _ _ _, bw⟩
  · cases hvb : vvB b
    · have HN := Lib.hid (show L = [] from by unfold MtL at hL; rw [if_neg (fun z => by rw [hvb] at z; cases z.2)] at hL; exact hL)
      have HA := Lib.hid hva
      have HB := Lib.hid hvb
      clear hva hvb hL
      go_enter Try.func13, Try.ntmps13
      go_wp2_with fail
      refine (vv_val HA.out _ _ _ _ rfl hm h).mono ?_
      rintro e1 w1 ⟨rfl, b1⟩
      go_wp2_with fail
      refine (vv_val HB.out _ _ _ _ rfl hm' (h'.below b1)).mono ?_
      rintro e2 w2 ⟨rfl, b2⟩
      have bw := bel_tr b1 b2
      go_wp2_with fail
      exact bodyPost_ret (v := .slice none 0 0) (by simp [results, Try.results13, go_sem]) rfl ⟨_, rfl, by rw [HN.out]; exact World.ownsRow_nil _ _ _ _, bw⟩
    · have hfa := vvB_of hva
      have hfb := vvB_of hvb
      have ha60 := hfa.len
      have hb60 := hfb.len
      have hta := hfa.tot
      have htb := hfb.tot
      have hta0 := hfa.nn _ (Nat.le_refl _)
      have htb0 := hfb.nn _ (Nat.le_refl _)
      have HA := Lib.hid hva
      have HB := Lib.hid hvb
      have HL := Lib.hid (hL.eq (mt_of_sorted hva hvb))
      clear hva hvb hL
      go_enter Try.func13, Try.ntmps13
      go_wp2_with fail
      refine (vv_val HA.out _ _ _ _ rfl hm h).mono ?_
      rintro e1 w1 ⟨rfl, b1⟩
      go_wp2_with fail
      refine (vv_val HB.out _ _ _ _ rfl hm' (h'.below b1)).mono ?_
      rintro e2 w2 ⟨rfl, b2⟩
      have bw := bel_tr b1 b2
      have bs2 : w.heap.size ≤ w2.heap.size := bw.size
      go_wp2_with fail
      refine (ons_any _ _ _ _ _ rfl hfa (h.below bw)).mono ?_
      rintro e3 w3 ⟨v3, rfl, own3, b3⟩
      have bw3 := bel_tr bw b3
      go_wp2_with fail
      refine (ons_any _ _ _ _ _ rfl hfb (h'.below bw3)).mono ?_
      rintro e4 w4 ⟨v4, rfl, own4, b4⟩
      have bw4 := bel_tr bw3 b4
      have bs3 := b3.size
      have bs4 := b4.size
      have own3' := own_below own3 b4
      clear own3 b1 b2 bw bw3
      obtain ⟨A4, c4, rfl, lc4, cm4, hc4⟩ := own_open csIn_len 0 own4
      obtain ⟨A3, c3, rfl, lc3, cm3, hc3⟩ := own_open csIn_len 0 own3'
      have HG : gathL a b = (bgK a a.length ++ bgK b b.length) ++ (if tsum a a.length = tsum b b.length then [] else [min (tsum a a.length) (tsum b b.length)]) := rfl
      clear hc3
      rw [bgK_len] at lc3 lc4 own3' own4
      generalize tsum a a.length = M at *
      generalize tsum b b.length = N at *
      rw [bgK_len, bgK_len]
      rw [bgK_len] at hc4
      by_cases hb0 : b.length = 0
      · have hS4 : bgK b b.length = [] := List.eq_nil_of_length_eq_zero (by rw [bgK_len]; exact hb0)
        rw [hS4, List.append_nil] at HG
        go_upto_region 6 with (at_builtin; go_must (refine wpList_append_none rfl _ _ 24 rfl 3 i0 Try.underlying24 hi0 A3 A4 a.length c3 c4 lc3 rfl (by rw [hb0] at *; rfl) ?_))
        have own8 : w4.ownsRow w2.heap.size 3 1 (.slice A3 a.length c3) (bgK a a.length).length (flat csIn (bgK a a.length)) := by rw [bgK_len]; exact own3'
        have b8 := bw4
        have hZl : (bgK a a.length).length ≤ 60 := by rw [bgK_len]; exact ha60
        generalize bgK a a.length = Z at *
        have hzl : (Z ++ [min M N]).length ≤ 2000000 := by rw [List.length_append, List.length_singleton]; omega
        have bs8 := b8.size
        by_cases hMN : M = N
        · have HZ := Lib.hid (show gathL a b = Z from by rw [HG, if_pos hMN, List.append_nil])
          have hzl : Z.length ≤ 2000000 := by omega
          go_wp2_with fail
          refine (srt_own _ (Z) _ _ hzl own8).mono ?_
          rintro e5 w5 ⟨rfl, own5, g5⟩
          have bw5 := own_bel own8 b8 bs2 g5
          go_wp2_with fail
          refine (cmp_own _ _ _ _ (by rw [List.length_mergeSort]; exact hzl) own5).mono ?_
          rintro e6 w6 ⟨u, rfl, own6, g6⟩
          have bw6 := own_bel own5 bw5 bs2 g6
          go_wp2_with fail
          rw [← HZ.out, ← HL.out] at own6
          exact bodyPost_ret (v := u) (by simp [results, Try.results13, go_sem]) rfl ⟨u, rfl, own_lo own6 bs2, bw6⟩
        · have HZ := Lib.hid (show gathL a b = Z ++ [min M N] from by rw [HG, if_neg hMN])
          go_upto_region 8 with (at_builtin; go_must (refine wpList_append_lies _ rfl _ _ 24 rfl w2.heap.size 3 i0 _ 1 8 Try.underlying24 hi0 hz0 hz1 hz2 rfl (by omega) _ Z.length (flat csIn Z) rfl (own8.alloc _) ⟨w4.heap.size, 0, none⟩ 1 1 [.int .i64 (min M N)] rfl rfl (World.news_of_block (cs := #[.int .i64 (min M N)]) (t := 3) (fr := (0, 0)) (heap_alloc_new w4 _)) (by simp [Value.oneCell']) (by first | (simp; done) | (simp; omega)) (by unfold maxLen; omega) (by omega) (by simp; omega) _ rfl ?_; intro gg7 cp7 w7 hown7 hgrow7 hat7 hlt7))
          have own7 : w7.ownsRow w2.heap.size 3 1 (.slice (some ⟨gg7, 0, none⟩) (Z.length + 1) cp7) (Z ++ [min M N]).length (flat csIn (Z ++ [min M N])) := by rw [List.length_append, List.length_singleton, ← flatIn_s]; exact hown7
          have b7 : Below w.heap.size w w7 := own_bel (own8.alloc _) (bel_al b8 _) bs2 hgrow7
          clear own8 b8 hown7 hgrow7 hat7 hlt7
          have own8 := own7
          have b8 := b7
          go_wp2_with fail
          refine (srt_own _ (Z ++ [min M N]) _ _ hzl own8).mono ?_
          rintro e5 w5 ⟨rfl, own5, g5⟩
          have bw5 := own_bel own8 b8 bs2 g5
          go_wp2_with fail
          refine (cmp_own _ _ _ _ (by rw [List.length_mergeSort]; exact hzl) own5).mono ?_
          rintro e6 w6 ⟨u, rfl, own6, g6⟩
          have bw6 := own_bel own5 bw5 bs2 g6
          go_wp2_with fail
          rw [← HZ.out, ← HL.out] at own6
          exact bodyPost_ret (v := u) (by simp [results, Try.results13, go_sem]) rfl ⟨u, rfl, own_lo own6 bs2, bw6⟩
      · obtain ⟨g4, rfl, hg4, hg4', _, hcell4⟩ := hc4 (by omega)
        have hnews : ∀ j u, (flat csIn (bgK b b.length))[j]? = some u → w4.cell? ((⟨g4, 0, none⟩ : Addr).add j) = some u := by
          intro j u hu
          have hj : j < b.length := by
            rcases Nat.lt_or_ge j (flat csIn (bgK b b.length)).length with hh | hh
            · rw [flatIn, List.length_map, bgK_len] at hh; exact hh
            · rw [List.getElem?_eq_none hh] at hu; cases hu
          have ha : (⟨g4, 0, none⟩ : Addr).add j = ⟨g4, j, none⟩ := by unfold Addr.add; by_cases e : j = 0 <;> simp [e]
          have h1 := hcell4 j 0 hj (by omega)
          rw [Nat.mul_one, Nat.add_zero] at h1
          rw [flatIn, List.getElem?_map] at hu
          rw [ha, h1, ← hu, List.getD_eq_getElem?_getD]
          have hjs : j < (bgK b b.length).length := by rw [bgK_len]; exact hj
          generalize bgK b b.length = Q at hjs
          rw [List.getElem?_eq_getElem hjs]
          rfl
        go_upto_region 6 with (at_builtin; go_must (refine wpList_append_lies _ rfl _ _ 24 rfl w2.heap.size 3 i0 _ 1 8 Try.underlying24 hi0 hz0 hz1 hz2 rfl (by omega) _ a.length (flat csIn (bgK a a.length)) rfl own3' ⟨g4, 0, none⟩ b.length c4 (flat csIn (bgK b b.length)) rfl (by rw [flatIn, List.length_map, bgK_len, Nat.mul_one]) hnews (flatIn_one _) (by omega) (by unfold maxLen; omega) (by omega) (by omega) _ rfl ?_; intro gg9 cp9 w9 hown9 hgrow9 hat9 hlt9))
        have own8 : w9.ownsRow w2.heap.size 3 1 (.slice (some ⟨gg9, 0, none⟩) (a.length + b.length) cp9) (bgK a a.length ++ bgK b b.length).length (flat csIn (bgK a a.length ++ bgK b b.length)) := by rw [List.length_append, bgK_len, bgK_len, ← flatIn_app]; exact hown9
        have b8 : Below w.heap.size w w9 := own_bel own3' bw4 bs2 hgrow9
        have hZl : (bgK a a.length ++ bgK b b.length).length ≤ 120 := by rw [List.length_append, bgK_len, bgK_len]; omega
        generalize bgK a a.length ++ bgK b b.length = Z at *
        have bs9 : w4.heap.size ≤ w9.heap.size := hgrow9.size
        clear hown9 hgrow9 own3' own4 hnews hcell4
        have hzl : (Z ++ [min M N]).length ≤ 2000000 := by rw [List.length_append, List.length_singleton]; omega
        have bs8 := b8.size
        by_cases hMN : M = N
        · have HZ := Lib.hid (show gathL a b = Z from by rw [HG, if_pos hMN, List.append_nil])
          have hzl : Z.length ≤ 2000000 := by omega
          go_wp2_with fail
          refine (srt_own _ (Z) _ _ hzl own8).mono ?_
          rintro e5 w5 ⟨rfl, own5, g5⟩
          have bw5 := own_bel own8 b8 bs2 g5
          go_wp2_with fail
          refine (cmp_own _ _ _ _ (by rw [List.length_mergeSort]; exact hzl) own5).mono ?_
          rintro e6 w6 ⟨u, rfl, own6, g6⟩
          have bw6 := own_bel own5 bw5 bs2 g6
          go_wp2_with fail
          rw [← HZ.out, ← HL.out] at own6
          exact bodyPost_ret (v := u) (by simp [results, Try.results13, go_sem]) rfl ⟨u, rfl, own_lo own6 bs2, bw6⟩
        · have HZ := Lib.hid (show gathL a b = Z ++ [min M N] from by rw [HG, if_neg hMN])
          go_upto_region 8 with (at_builtin; go_must (refine wpList_append_lies _ rfl _ _ 24 rfl w2.heap.size 3 i0 _ 1 8 Try.underlying24 hi0 hz0 hz1 hz2 rfl (by omega) _ Z.length (flat csIn Z) rfl (own8.alloc _) ⟨w9.heap.size, 0, none⟩ 1 1 [.int .i64 (min M N)] rfl rfl (World.news_of_block (cs := #[.int .i64 (min M N)]) (t := 3) (fr := (0, 0)) (heap_alloc_new w9 _)) (by simp [Value.oneCell']) (by first | (simp; done) | (simp; omega)) (by unfold maxLen; omega) (by omega) (by simp; omega) _ rfl ?_; intro gg7 cp7 w7 hown7 hgrow7 hat7 hlt7))
          have own7 : w7.ownsRow w2.heap.size 3 1 (.slice (some ⟨gg7, 0, none⟩) (Z.length + 1) cp7) (Z ++ [min M N]).length (flat csIn (Z ++ [min M N])) := by rw [List.length_append, List.length_singleton, ← flatIn_s]; exact hown7
          have b7 : Below w.heap.size w w7 := own_bel (own8.alloc _) (bel_al b8 _) bs2 hgrow7
          clear own8 b8 hown7 hgrow7 hat7 hlt7
          have own8 := own7
          have b8 := b7
          go_wp2_with fail
          refine (srt_own _ (Z ++ [min M N]) _ _ hzl own8).mono ?_
          rintro e5 w5 ⟨rfl, own5, g5⟩
          have bw5 := own_bel own8 b8 bs2 g5
          go_wp2_with fail
          refine (cmp_own _ _ _ _ (by rw [List.length_mergeSort]; exact hzl) own5).mono ?_
          rintro e6 w6 ⟨u, rfl, own6, g6⟩
          have bw6 := own_bel own5 bw5 bs2 g6
          go_wp2_with fail
          rw [← HZ.out, ← HL.out] at own6
          exact bodyPost_ret (v := u) (by simp [results, Try.results13, go_sem]) rfl ⟨u, rfl, own_lo own6 bs2, bw6⟩
end Go.Proofs.Ytiapfpjggginoaa
