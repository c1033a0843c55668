/- Canons: the second voice; contracts of both. -/
import Derived.Test.YtldgpgljapohiaaNtO
import Derived.Test.YtldgpgljapohiaaShR
import Derived.Deep.DeepCutAuto
namespace Go.Proofs.Ytldgpgljapohiaa
set_option linter.unusedSimpArgs false
set_option linter.unusedVariables false
open Go.RowKit

def coB (l : List Nt) (d st ha : Int) : Bool := decide (shB l st ha = true ∧ (1 ≤ d ∧ d ≤ 768) ∧ l.length < 60)
def coL (l : List Nt) (d st ha : Int) : List Nt := if coB l d st ha = true then ⟨true, 0, 0, 0, d, false⟩ :: shL l st ha else []
theorem co_no {l : List Nt} {d st ha : Int} (h : ¬ (shB l st ha = true ∧ (1 ≤ d ∧ d ≤ 768) ∧ l.length < 60)) : coB l d st ha = false ∧ coL l d st ha = [] := by
  have e : coB l d st ha = false := decide_eq_false h
  exact ⟨e, by unfold coL; rw [e]; rfl⟩
theorem co_yes {l : List Nt} {d st ha : Int} (h1 : shB l st ha = true) (h2 : 1 ≤ d ∧ d ≤ 768) (h3 : l.length < 60) : coB l d st ha = true ∧ coL l d st ha = ⟨true, 0, 0, 0, d, false⟩ :: shL l st ha := by
  have e : coB l d st ha = true := decide_eq_true ⟨h1, h2, h3⟩
  exact ⟨e, by unfold coL; rw [e]; rfl⟩
theorem coL_len (l : List Nt) (d st ha : Int) : (coL l d st ha).length ≤ 61 := by
  unfold coL
  by_cases h : coB l d st ha = true
  · rw [if_pos h, List.length_cons]; have := (shL_len l st ha).1; omega
  · rw [if_neg h]; simp
set_option maxRecDepth 20000 in
set_option maxHeartbeats 8000000 in
theorem co_any (A : Option Addr) (n c : Nat) (l : List Nt) (d st ha : Int) (w : World) (hn : l.length = n) (hm : n ≤ 2000000) (h : RowNt w w.heap.size A l) :
    Calls Try.prog 8 #[.slice A n c, .int .i64 d, .agg #[.int .i64 st, .int .i64 ha]] w (ShR w (coL l d st ha) (coB l d st ha)) := by
  subst hn
  obtain ⟨i0, hi0, hz0, hz1, hz2⟩ := info_parts infoNt
  have h0 := h.below (bel_al (bel_refl w) (.cells #[.int .i64 st, .int .i64 ha] 25))
  have b0 : Below w.heap.size w (w.alloc (.cells #[.int .i64 st, .int .i64 ha] 25)) := bel_al (bel_refl w) _
  have hln := shL_len l st ha
  cases hB : shB l st ha
  · have HN := Lib.hid (co_no (l := l) (d := d) (st := st) (ha := ha) (fun z => by rw [hB] at z; cases z.1))
    have HB := Lib.hid hB
    clear hB
    go_enter Try.func8, Try.ntmps8
    go_wp2_with fail
    generalize (w.alloc (.cells #[.int .i64 st, .int .i64 ha] 25)) = w0 at *
    refine (sh_val rfl HB.out _ _ _ _ rfl hm h0).mono ?_
    rintro e1 w1 ⟨A1, c1, rfl, lc, cm, r1, o1, b1⟩
    have bw := bel_tr b0 b1
    clear b1
    go_wp2_with fail
    exact bodyPost_ret (v := .tuple #[.slice none 0 0, .bool false]) (by simp [results, Try.results8, go_sem]) rfl ⟨none, 0, by rw [HN.out.1, HN.out.2]; rfl, by rw [HN.out.2]; exact Nat.le_refl _, by simp [maxLen], RowNt.nil _ _ _ (by rw [HN.out.2]; rfl), fun h => by rw [HN.out.2] at h; exact absurd h (by simp), bw⟩
  · have hLn : (shL l st ha).length = l.length := by obtain ⟨_, _, _, e⟩ := sh_facts hB; rw [e, mvK_len]
    by_cases hd : (1 ≤ d ∧ d ≤ 768) ∧ l.length < 60
    · have HY := Lib.hid (co_yes hB hd.1 hd.2)
      obtain ⟨⟨hd1, hd2⟩, hl6⟩ := hd
      have hl7 : (l.length : Int) < 60 := by omega
      have hl8 : ¬ (l.length : Int) = 60 := by omega
      have HB := Lib.hid hB
      clear hB
      generalize hL : shL l st ha = L at *
      have HL := Lib.hid hL
      clear hL
      go_enter Try.func8, Try.ntmps8
      go_wp2_with fail
      generalize (w.alloc (.cells #[.int .i64 st, .int .i64 ha] 25)) = w0 at *
      refine (sh_val HL.out HB.out _ _ _ _ rfl hm h0).mono ?_
      rintro e1 w1 ⟨A1, c1, rfl, lc, cm, r1, o1, b1⟩
      have bw := bel_tr b0 b1
      have hs1 := bw.size
      clear b1
      rw [hLn] at lc ⊢
      unfold maxLen at cm
      have own0 : (w1.alloc (.cells #[.bool true, .int .i64 0, .int .i64 0, .int .i64 0, .int .i64 d, .bool false] 37)).ownsRow w1.heap.size 37 6 (.slice (some ⟨w1.heap.size, 0, none⟩) 1 1) 1 (flat csNt [⟨true, 0, 0, 0, d, false⟩]) :=
        World.ownsRow_lit w1 #[.bool true, .int .i64 0, .int .i64 0, .int .i64 0, .int .i64 d, .bool false] 1 (Nat.le_refl _) (by simp [maxLen]) rfl
      have bB : Below w1.heap.size w1 (w1.alloc (.cells #[.bool true, .int .i64 0, .int .i64 0, .int .i64 0, .int .i64 d, .bool false] 37)) := bel_al (bel_refl w1) _
      by_cases hm0 : l.length = 0
      · have hL0 : L = [] := List.eq_nil_of_length_eq_zero (by omega)
        subst hL0
        have hl0 : ([] : List Nt).length = 0 := rfl
        go_upto_region 5 with (first | (go_at_call 30; refine (win_yes _ _ _ _ (by omega) (by omega)).mono ?_; rintro e w' ⟨rfl, rfl⟩) | (go_at_call 30; refine (win_no _ _ _ _ (by omega)).mono ?_; rintro e w' ⟨rfl, rfl⟩) | (at_builtin; go_must (refine wpList_append_none rfl _ _ 23 rfl 37 i0 Try.underlying23 hi0 (some ⟨w1.heap.size, 0, none⟩) A1 1 1 c1 (by omega) rfl (by rw [hm0] at *; rfl) ?_)))
        go_wp2_with fail
        obtain ⟨A2, c2, he, lc2, cm2, r2, o2⟩ := own_rowNt (l := [⟨true, 0, 0, 0, d, false⟩]) own0
        cases he
        exact bodyPost_ret (v := .tuple #[.slice (some ⟨w1.heap.size, 0, none⟩) 1 1, .bool true]) (by simp [results, Try.results8, go_sem]) rfl ⟨_, _, by rw [HY.out.1, HY.out.2]; rfl, by rw [HY.out.2]; exact lc2, cm2, by rw [HY.out.2]; exact r2, by rw [HY.out.2]; exact fun hh => by obtain ⟨b, off, e, g1, g2⟩ := o2 hh; exact ⟨b, off, e, by omega, g2⟩, bel_tr bw bB⟩

      · obtain ⟨b1, off1, rfl, hb1, _⟩ := r1 (by omega)
        have rB := r1.below bB
        go_upto_region 5 with (first | (go_at_call 30; refine (win_yes _ _ _ _ (by omega) (by omega)).mono ?_; rintro e w' ⟨rfl, rfl⟩) | (go_at_call 30; refine (win_no _ _ _ _ (by omega)).mono ?_; rintro e w' ⟨rfl, rfl⟩) | (at_builtin; go_must (refine wpList_append_lies _ rfl _ _ 23 rfl w1.heap.size 37 i0 _ 6 48 Try.underlying23 hi0 hz0 hz1 hz2 rfl (by omega) _ 1 (flat csNt [⟨true, 0, 0, 0, d, false⟩]) rfl own0 ⟨b1, off1, none⟩ l.length c1 (flat csNt L) rfl (by rw [flat_len csNt_len, hLn]) (rowNt_news rB) (flatNt_one L) (by omega) (by unfold maxLen; omega) (by omega) (by simp) _ rfl ?_; intro gg cp w9 hown9 hgrow9 hat9 hlt9)))
        have b9 : Below w1.heap.size w1 w9 := bel_grown (bel_al (bel_refl w1) _) hgrow9 (fun k hk => by have e2 : w1.heap.size = k := Option.some.inj hk; omega)
        have hown9 : w9.ownsRow w1.heap.size 37 6 (.slice (some ⟨gg, 0, none⟩) (1 + l.length) cp) (⟨true, 0, 0, 0, d, false⟩ :: L).length (flat csNt (⟨true, 0, 0, 0, d, false⟩ :: L)) := by
          rw [List.length_cons, hLn, Nat.add_comm]; simpa [flat, Nat.add_comm] using hown9
        clear hgrow9 own0 rB
        obtain ⟨A2, c2, he, lc2, cm2, r2, o2⟩ := own_rowNt hown9
        rw [List.length_cons, hLn, Nat.add_comm l.length 1] at he
        cases he
        go_wp2_with fail
        exact bodyPost_ret (v := .tuple #[.slice (some ⟨gg, 0, none⟩) (1 + l.length) cp, .bool true]) (by simp [results, Try.results8, go_sem]) rfl ⟨_, _, by rw [HY.out.1, HY.out.2, List.length_cons, hLn, Nat.add_comm], by rw [HY.out.2]; exact lc2, cm2, by rw [HY.out.2]; exact r2, by rw [HY.out.2]; exact fun hh => by obtain ⟨b, off, e, g1, g2⟩ := o2 hh; exact ⟨b, off, e, by omega, g2⟩, bel_tr bw b9⟩

    · have HN := Lib.hid (co_no (l := l) (d := d) (st := st) (ha := ha) (fun z => hd ⟨z.2.1, z.2.2⟩))
      have HB := Lib.hid hB
      have hl60 : l.length ≤ 60 := by have := hln.1; omega
      clear hB hln hLn
      by_cases hd1 : 1 ≤ d ∧ d ≤ 768
      · obtain ⟨hd2, hd3⟩ := hd1
        have HL6 := Lib.hid (show l.length = 60 from by omega)
        clear hl60 hd
        go_enter Try.func8, Try.ntmps8
        go_wp2_with fail
        generalize (w.alloc (.cells #[.int .i64 st, .int .i64 ha] 25)) = w0 at *
        refine (sh_val rfl HB.out _ _ _ _ rfl hm h0).mono ?_
        rintro e1 w1 ⟨A1, c1, rfl, lc, cm, r1, o1, b1⟩
        have bw := bel_tr b0 b1
        have hl61 : (l.length : Int) = 60 := by have := HL6.out; omega
        clear b1
        go_wp2_with (first | (go_at_call 30; refine (win_yes _ _ _ _ (by omega) (by omega)).mono ?_; rintro e w' ⟨rfl, rfl⟩) | (go_at_call 30; refine (win_no _ _ _ _ (by omega)).mono ?_; rintro e w' ⟨rfl, rfl⟩))
        exact bodyPost_ret (v := .tuple #[.slice none 0 0, .bool false]) (by simp [results, Try.results8, go_sem]) rfl ⟨none, 0, by rw [HN.out.1, HN.out.2]; rfl, by rw [HN.out.2]; exact Nat.le_refl _, by simp [maxLen], RowNt.nil _ _ _ (by rw [HN.out.2]; rfl), fun h => by rw [HN.out.2] at h; exact absurd h (by simp), bw⟩
      · go_enter Try.func8, Try.ntmps8
        go_wp2_with fail
        generalize (w.alloc (.cells #[.int .i64 st, .int .i64 ha] 25)) = w0 at *
        refine (sh_val rfl HB.out _ _ _ _ rfl hm h0).mono ?_
        rintro e1 w1 ⟨A1, c1, rfl, lc, cm, r1, o1, b1⟩
        have bw := bel_tr b0 b1
        clear b1 hd
        go_wp2_with (first | (go_at_call 30; refine (win_yes _ _ _ _ (by omega) (by omega)).mono ?_; rintro e w' ⟨rfl, rfl⟩) | (go_at_call 30; refine (win_no _ _ _ _ (by omega)).mono ?_; rintro e w' ⟨rfl, rfl⟩))
        exact bodyPost_ret (v := .tuple #[.slice none 0 0, .bool false]) (by simp [results, Try.results8, go_sem]) rfl ⟨none, 0, by rw [HN.out.1, HN.out.2]; rfl, by rw [HN.out.2]; exact Nat.le_refl _, by simp [maxLen], RowNt.nil _ _ _ (by rw [HN.out.2]; rfl), fun h => by rw [HN.out.2] at h; exact absurd h (by simp), bw⟩
set_option maxRecDepth 20000 in
set_option maxHeartbeats 8000000 in
theorem sco_any (A : Option Addr) (n c : Nat) (l : List Nt) (d st ha : Int) (w : World) (hn : l.length = n) (hm : n ≤ 2000000) (h : RowNt w w.heap.size A l) :
    Calls Try.prog 9 #[.slice A n c, .int .i64 d, .agg #[.int .i64 st, .int .i64 ha]] w (ShR w (coL l d st ha) (coB l d st ha)) := by
  subst hn
  obtain ⟨i0, hi0, hz0, hz1, hz2⟩ := info_parts infoNt
  have h0 := h.below (bel_al (bel_refl w) (.cells #[.int .i64 st, .int .i64 ha] 25))
  have b0 : Below w.heap.size w (w.alloc (.cells #[.int .i64 st, .int .i64 ha] 25)) := bel_al (bel_refl w) _
  have hln := shL_len l st ha
  cases hB : shB l st ha
  · have HN := Lib.hid (co_no (l := l) (d := d) (st := st) (ha := ha) (fun z => by rw [hB] at z; cases z.1))
    have HB := Lib.hid hB
    clear hB
    go_enter Try.func9, Try.ntmps9
    go_wp2_with fail
    generalize (w.alloc (.cells #[.int .i64 st, .int .i64 ha] 25)) = w0 at *
    refine (ssh_val rfl HB.out _ _ _ _ rfl hm h0).mono ?_
    rintro e1 w1 ⟨A1, c1, rfl, lc, cm, r1, o1, b1⟩
    have bw := bel_tr b0 b1
    clear b1
    go_wp2_with fail
    exact bodyPost_ret (v := .tuple #[.slice (some ⟨w1.heap.size, 0, none⟩) 0 0, .bool false]) (by simp [results, Try.results9, go_sem]) rfl ⟨_, 0, by rw [HN.out.1, HN.out.2]; rfl, by rw [HN.out.2]; exact Nat.le_refl _, by simp [maxLen], RowNt.nil _ _ _ (by rw [HN.out.2]; rfl), fun h => by rw [HN.out.2] at h; exact absurd h (by simp), bel_al bw _⟩
  · have hLn : (shL l st ha).length = l.length := by obtain ⟨_, _, _, e⟩ := sh_facts hB; rw [e, mvK_len]
    by_cases hd : (1 ≤ d ∧ d ≤ 768) ∧ l.length < 60
    · have HY := Lib.hid (co_yes hB hd.1 hd.2)
      obtain ⟨⟨hd1, hd2⟩, hl6⟩ := hd
      have hl7 : (l.length : Int) < 60 := by omega
      have hl8 : ¬ (l.length : Int) = 60 := by omega
      have HB := Lib.hid hB
      clear hB
      generalize hL : shL l st ha = L at *
      have HL := Lib.hid hL
      clear hL
      go_enter Try.func9, Try.ntmps9
      go_wp2_with fail
      generalize (w.alloc (.cells #[.int .i64 st, .int .i64 ha] 25)) = w0 at *
      refine (ssh_val HL.out HB.out _ _ _ _ rfl hm h0).mono ?_
      rintro e1 w1 ⟨A1, c1, rfl, lc, cm, r1, o1, b1⟩
      have bw := bel_tr b0 b1
      have hs1 := bw.size
      clear b1
      rw [hLn] at lc ⊢
      unfold maxLen at cm
      have own0 : (w1.alloc (.cells #[.bool true, .int .i64 0, .int .i64 0, .int .i64 0, .int .i64 d, .bool false] 37)).ownsRow w1.heap.size 37 6 (.slice (some ⟨w1.heap.size, 0, none⟩) 1 1) 1 (flat csNt [⟨true, 0, 0, 0, d, false⟩]) :=
        World.ownsRow_lit w1 #[.bool true, .int .i64 0, .int .i64 0, .int .i64 0, .int .i64 d, .bool false] 1 (Nat.le_refl _) (by simp [maxLen]) rfl
      have bB : Below w1.heap.size w1 (w1.alloc (.cells #[.bool true, .int .i64 0, .int .i64 0, .int .i64 0, .int .i64 d, .bool false] 37)) := bel_al (bel_refl w1) _
      by_cases hm0 : l.length = 0
      · have hL0 : L = [] := List.eq_nil_of_length_eq_zero (by omega)
        subst hL0
        have hl0 : ([] : List Nt).length = 0 := rfl
        go_upto_region 5 with (first | (go_at_call 32; refine (swin_yes _ _ _ _ (by omega) (by omega)).mono ?_; rintro e w' ⟨rfl, rfl⟩) | (go_at_call 32; refine (swin_no _ _ _ _ (by omega)).mono ?_; rintro e w' ⟨rfl, rfl⟩) | (at_builtin; go_must (refine wpList_append_none rfl _ _ 23 rfl 37 i0 Try.underlying23 hi0 (some ⟨w1.heap.size, 0, none⟩) A1 1 1 c1 (by omega) rfl (by rw [hm0] at *; rfl) ?_)))
        go_wp2_with fail
        obtain ⟨A2, c2, he, lc2, cm2, r2, o2⟩ := own_rowNt (l := [⟨true, 0, 0, 0, d, false⟩]) own0
        cases he
        exact bodyPost_ret (v := .tuple #[.slice (some ⟨w1.heap.size, 0, none⟩) 1 1, .bool true]) (by simp [results, Try.results9, go_sem]) rfl ⟨_, _, by rw [HY.out.1, HY.out.2]; rfl, by rw [HY.out.2]; exact lc2, cm2, by rw [HY.out.2]; exact r2, by rw [HY.out.2]; exact fun hh => by obtain ⟨b, off, e, g1, g2⟩ := o2 hh; exact ⟨b, off, e, by omega, g2⟩, bel_tr bw bB⟩

      · obtain ⟨b1, off1, rfl, hb1, _⟩ := r1 (by omega)
        have rB := r1.below bB
        go_upto_region 5 with (first | (go_at_call 32; refine (swin_yes _ _ _ _ (by omega) (by omega)).mono ?_; rintro e w' ⟨rfl, rfl⟩) | (go_at_call 32; refine (swin_no _ _ _ _ (by omega)).mono ?_; rintro e w' ⟨rfl, rfl⟩) | (at_builtin; go_must (refine wpList_append_lies _ rfl _ _ 23 rfl w1.heap.size 37 i0 _ 6 48 Try.underlying23 hi0 hz0 hz1 hz2 rfl (by omega) _ 1 (flat csNt [⟨true, 0, 0, 0, d, false⟩]) rfl own0 ⟨b1, off1, none⟩ l.length c1 (flat csNt L) rfl (by rw [flat_len csNt_len, hLn]) (rowNt_news rB) (flatNt_one L) (by omega) (by unfold maxLen; omega) (by omega) (by simp) _ rfl ?_; intro gg cp w9 hown9 hgrow9 hat9 hlt9)))
        have b9 : Below w1.heap.size w1 w9 := bel_grown (bel_al (bel_refl w1) _) hgrow9 (fun k hk => by have e2 : w1.heap.size = k := Option.some.inj hk; omega)
        have hown9 : w9.ownsRow w1.heap.size 37 6 (.slice (some ⟨gg, 0, none⟩) (1 + l.length) cp) (⟨true, 0, 0, 0, d, false⟩ :: L).length (flat csNt (⟨true, 0, 0, 0, d, false⟩ :: L)) := by
          rw [List.length_cons, hLn, Nat.add_comm]; simpa [flat, Nat.add_comm] using hown9
        clear hgrow9 own0 rB
        obtain ⟨A2, c2, he, lc2, cm2, r2, o2⟩ := own_rowNt hown9
        rw [List.length_cons, hLn, Nat.add_comm l.length 1] at he
        cases he
        go_wp2_with fail
        exact bodyPost_ret (v := .tuple #[.slice (some ⟨gg, 0, none⟩) (1 + l.length) cp, .bool true]) (by simp [results, Try.results9, go_sem]) rfl ⟨_, _, by rw [HY.out.1, HY.out.2, List.length_cons, hLn, Nat.add_comm], by rw [HY.out.2]; exact lc2, cm2, by rw [HY.out.2]; exact r2, by rw [HY.out.2]; exact fun hh => by obtain ⟨b, off, e, g1, g2⟩ := o2 hh; exact ⟨b, off, e, by omega, g2⟩, bel_tr bw b9⟩

    · have HN := Lib.hid (co_no (l := l) (d := d) (st := st) (ha := ha) (fun z => hd ⟨z.2.1, z.2.2⟩))
      have HB := Lib.hid hB
      have hl60 : l.length ≤ 60 := by have := hln.1; omega
      clear hB hln hLn
      by_cases hd1 : 1 ≤ d ∧ d ≤ 768
      · obtain ⟨hd2, hd3⟩ := hd1
        have HL6 := Lib.hid (show l.length = 60 from by omega)
        clear hl60 hd
        go_enter Try.func9, Try.ntmps9
        go_wp2_with fail
        generalize (w.alloc (.cells #[.int .i64 st, .int .i64 ha] 25)) = w0 at *
        refine (ssh_val rfl HB.out _ _ _ _ rfl hm h0).mono ?_
        rintro e1 w1 ⟨A1, c1, rfl, lc, cm, r1, o1, b1⟩
        have bw := bel_tr b0 b1
        have hl61 : (l.length : Int) = 60 := by have := HL6.out; omega
        clear b1
        go_wp2_with (first | (go_at_call 32; refine (swin_yes _ _ _ _ (by omega) (by omega)).mono ?_; rintro e w' ⟨rfl, rfl⟩) | (go_at_call 32; refine (swin_no _ _ _ _ (by omega)).mono ?_; rintro e w' ⟨rfl, rfl⟩))
        exact bodyPost_ret (v := .tuple #[.slice (some ⟨w1.heap.size, 0, none⟩) 0 0, .bool false]) (by simp [results, Try.results9, go_sem]) rfl ⟨_, 0, by rw [HN.out.1, HN.out.2]; rfl, by rw [HN.out.2]; exact Nat.le_refl _, by simp [maxLen], RowNt.nil _ _ _ (by rw [HN.out.2]; rfl), fun h => by rw [HN.out.2] at h; exact absurd h (by simp), bel_al bw _⟩
      · go_enter Try.func9, Try.ntmps9
        go_wp2_with fail
        generalize (w.alloc (.cells #[.int .i64 st, .int .i64 ha] 25)) = w0 at *
        refine (ssh_val rfl HB.out _ _ _ _ rfl hm h0).mono ?_
        rintro e1 w1 ⟨A1, c1, rfl, lc, cm, r1, o1, b1⟩
        have bw := bel_tr b0 b1
        clear b1 hd
        go_wp2_with (first | (go_at_call 32; refine (swin_yes _ _ _ _ (by omega) (by omega)).mono ?_; rintro e w' ⟨rfl, rfl⟩) | (go_at_call 32; refine (swin_no _ _ _ _ (by omega)).mono ?_; rintro e w' ⟨rfl, rfl⟩))
        exact bodyPost_ret (v := .tuple #[.slice (some ⟨w1.heap.size, 0, none⟩) 0 0, .bool false]) (by simp [results, Try.results9, go_sem]) rfl ⟨_, 0, by rw [HN.out.1, HN.out.2]; rfl, by rw [HN.out.2]; exact Nat.le_refl _, by simp [maxLen], RowNt.nil _ _ _ (by rw [HN.out.2]; rfl), fun h => by rw [HN.out.2] at h; exact absurd h (by simp), bel_al bw _⟩
theorem co_val {l L : List Nt} {d st ha : Int} {B : Bool} (hL : coL l d st ha = L) (hB : coB l d st ha = B) (A : Option Addr) (n c : Nat) (w : World) (hn : l.length = n) (hm : n ≤ 2000000) (h : RowNt w w.heap.size A l) :
    Calls Try.prog 8 #[.slice A n c, .int .i64 d, .agg #[.int .i64 st, .int .i64 ha]] w (ShR w L B) := by
  have := co_any A n c l d st ha w hn hm h
  rw [hL, hB] at this
  exact this
theorem sco_val {l L : List Nt} {d st ha : Int} {B : Bool} (hL : coL l d st ha = L) (hB : coB l d st ha = B) (A : Option Addr) (n c : Nat) (w : World) (hn : l.length = n) (hm : n ≤ 2000000) (h : RowNt w w.heap.size A l) :
    Calls Try.prog 9 #[.slice A n c, .int .i64 d, .agg #[.int .i64 st, .int .i64 ha]] w (ShR w L B) := by
  have := sco_any A n c l d st ha w hn hm h
  rw [hL, hB] at this
  exact this
end Go.Proofs.Ytldgpgljapohiaa
