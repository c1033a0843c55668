/- Two voices, drawn for the law of MeetFault. -/
import Derived.Test.YtiapfpjggginoaaDrMt
import Derived.Test.YtiapfpjggginoaaBc
namespace Go.Proofs.Ytiapfpjggginoaa
set_option linter.unusedSimpArgs false
set_option linter.unusedVariables false
open Go.RowKit

set_option maxRecDepth 20000 in
set_option maxHeartbeats 4000000 in
theorem DrawMeetFault_any (w : World) (A : Option Addr) (len cap : Nat) (h : Cod w A len cap) : Calls Try.prog 27 #[.slice A len cap] w (Dr2 w) := by
  go_enter Try.func27, Try.ntmps27
  go_wp2_with fail
  refine (open_eq _ A len cap h.lc h.cm).mono ?_
  rintro e w1 ⟨rfl, rfl⟩
  have r1 := h.rd (bel_refl w)
  have k1 : Onb w.heap.size w (w.alloc (.cells #[.slice A (min len 2000) cap, .int .i64 0] 86)) := Onb.of_bel (bel_al (bel_refl _) _)
  have hg1 := r1.gl
  have hs1 : (w.alloc (.cells #[.slice A (min len 2000) cap, .int .i64 0] 86)).heap.size = w.heap.size + 1 := by simp
  generalize hW1 : w.alloc (.cells #[.slice A (min len 2000) cap, .int .i64 0] 86) = w1 at *
  generalize hgg : w.heap.size = g at *
  clear hW1
  generalize min len 2000 = len' at *
  go_wp2_with fail
  refine (voice_any _ _ _ _ _ _ _ _ r1 (by omega)).mono ?_
  rintro e w2 ⟨vv, l, rfl, l7, own2, o2, p2, hp2, r2⟩
  have k2 := k1.trans o2
  have hs2 := o2.size
  go_wp2_with fail
  refine (pick_fr _ _ _ _ _ _ _ _ r2 (by omega)).mono ?_
  rintro e3 w3 ⟨v, rfl, ⟨v0, v1, _⟩, o3, r3⟩
  have v1 := v1 (by omega)
  have k3 := k2.trans (Onb.of_onl o3)
  have own3 := own_onb own2 (Onb.of_onl o3) (by omega)
  have hs3 := (Onb.of_onl o3).size
  clear own2 r2 k2 o3 r1 k1
  by_cases hv : v = 0
  · subst hv
    obtain ⟨A2, c2, rfl, _, _, _, _⟩ := own_rowNt own3
    have bP : Blk (w3.alloc (.cells #[.int .i64 2, .int .i64 4, .int .i64 4, .int .i64 7, .int .i64 0, .int .i64 0] 44)) w3.heap.size #[.int .i64 2, .int .i64 4, .int .i64 4, .int .i64 7, .int .i64 0, .int .i64 0] 44 := Blk.new w3 _ _
    have r4 := r3.alloc (.cells #[.int .i64 2, .int .i64 4, .int .i64 4, .int .i64 7, .int .i64 0, .int .i64 0] 44)
    have k4 := k3.alloc (.cells #[.int .i64 2, .int .i64 4, .int .i64 4, .int .i64 7, .int .i64 0, .int .i64 0] 44)
    have own4 := own3.alloc (.cells #[.int .i64 2, .int .i64 4, .int .i64 4, .int .i64 7, .int .i64 0, .int .i64 0] 44)
    have hs4 : (w3.alloc (.cells #[.int .i64 2, .int .i64 4, .int .i64 4, .int .i64 7, .int .i64 0, .int .i64 0] 44)).heap.size = w3.heap.size + 1 := by simp
    have gP : w3.heap.size ≠ g := by have := r3.gl; omega
    go_wp2_with fail
    generalize (w3.alloc (.cells #[.int .i64 2, .int .i64 4, .int .i64 4, .int .i64 7, .int .i64 0, .int .i64 0] 44)) = w4 at *
    generalize w3.heap.size = P at *
    refine (pick_fr _ _ _ _ _ _ _ _ r4 (by omega)).mono ?_
    rintro e5 w5 ⟨v, rfl, ⟨u0, u1, _⟩, o5, r5⟩
    have u1 := u1 (by omega)
    have k5 := k4.trans (Onb.of_onl o5)
    have own5 := own_onb own4 (Onb.of_onl o5) (by omega)
    have bP5 := bP.onl o5 gP
    have hs5 := (Onb.of_onl o5).size
    clear own3 own4 r3 r4 k3 k4 bP o5
    obtain ⟨A9, c9, e9, lc, cm, q2, _⟩ := own_rowNt own5
    cases e9
    rcases (show v = 0 ∨ v = 1 ∨ v = 2 from by omega) with rfl | rfl | rfl
    · have c0 : w5.cell? ⟨P, 0, none⟩ = some (.int .i64 2) := by rw [Blk.cell bP5]; rfl
      have c1 : w5.cell? ⟨P, 1, none⟩ = some (.int .i64 4) := by rw [Blk.cell bP5]; rfl
      go_wp2_with fail
      refine (ssh_val (l := l) (st := 2) (ha := 4) rfl rfl A2 l.length c2 w5 rfl (by omega) q2).mono ?_
      rintro e6 w6 ⟨A6, c6, rfl, lc6, cm6, q6, _, b6⟩
      have own6 := own_below own5 b6
      have k6 := k5.trans (Onb.of_bel b6)
      have hs6 := b6.size
      clear c0 c1
      cases hB : shB l 2 4
      · have r6 := r5.below b6
        have hL0 : shL l 2 4 = [] := by unfold shL; rw [hB]; rfl
        go_wp2_with fail
        refine (voice_any _ _ _ _ _ _ _ _ r6 (by omega)).mono ?_
        rintro e8 w8 ⟨vv8, l8, rfl, l78, own8, o8, p8, hp8, r8⟩
        have k8 := k6.trans o8
        have own2' := own_onb own6 o8 (by omega)
        obtain ⟨A7, c7, e7, lc, cm, q2, _⟩ := own_rowNt own2'
        cases e7
        obtain ⟨A3, c3, rfl, lc3, cm3, q3, _⟩ := own_rowNt own8
        go_wp2_with fail
        exact bodyPost_ret (v := .tuple #[.slice A2 l.length c2, .slice A3 l8.length c3]) (by simp [results, Try.results27, go_sem]) rfl ⟨A2, c2, l, A3, c3, l8, rfl, l7, l78, q2, q3, k8.below (by omega) (by omega)⟩
      · have hL6 := (shL_len l 2 4).1
        clear hB
        generalize shL l 2 4 = L6 at *
        obtain ⟨A9, c9, e9, lc9, cm9, q9, _⟩ := own_rowNt own6
        cases e9
        go_wp2_with fail
        exact bodyPost_ret (v := .tuple #[.slice A2 l.length c2, .slice A6 L6.length c6]) (by simp [results, Try.results27, go_sem]) rfl ⟨A2, c2, l, A6, c6, L6, rfl, l7, by omega, q9, q6, k6.below (by omega) (by omega)⟩
    · have c0 : w5.cell? ⟨P, 2, none⟩ = some (.int .i64 4) := by rw [Blk.cell bP5]; rfl
      have c1 : w5.cell? ⟨P, 3, none⟩ = some (.int .i64 7) := by rw [Blk.cell bP5]; rfl
      go_wp2_with fail
      refine (ssh_val (l := l) (st := 4) (ha := 7) rfl rfl A2 l.length c2 w5 rfl (by omega) q2).mono ?_
      rintro e6 w6 ⟨A6, c6, rfl, lc6, cm6, q6, _, b6⟩
      have own6 := own_below own5 b6
      have k6 := k5.trans (Onb.of_bel b6)
      have hs6 := b6.size
      clear c0 c1
      cases hB : shB l 4 7
      · have r6 := r5.below b6
        have hL0 : shL l 4 7 = [] := by unfold shL; rw [hB]; rfl
        go_wp2_with fail
        refine (voice_any _ _ _ _ _ _ _ _ r6 (by omega)).mono ?_
        rintro e8 w8 ⟨vv8, l8, rfl, l78, own8, o8, p8, hp8, r8⟩
        have k8 := k6.trans o8
        have own2' := own_onb own6 o8 (by omega)
        obtain ⟨A7, c7, e7, lc, cm, q2, _⟩ := own_rowNt own2'
        cases e7
        obtain ⟨A3, c3, rfl, lc3, cm3, q3, _⟩ := own_rowNt own8
        go_wp2_with fail
        exact bodyPost_ret (v := .tuple #[.slice A2 l.length c2, .slice A3 l8.length c3]) (by simp [results, Try.results27, go_sem]) rfl ⟨A2, c2, l, A3, c3, l8, rfl, l7, l78, q2, q3, k8.below (by omega) (by omega)⟩
      · have hL6 := (shL_len l 4 7).1
        clear hB
        generalize shL l 4 7 = L6 at *
        obtain ⟨A9, c9, e9, lc9, cm9, q9, _⟩ := own_rowNt own6
        cases e9
        go_wp2_with fail
        exact bodyPost_ret (v := .tuple #[.slice A2 l.length c2, .slice A6 L6.length c6]) (by simp [results, Try.results27, go_sem]) rfl ⟨A2, c2, l, A6, c6, L6, rfl, l7, by omega, q9, q6, k6.below (by omega) (by omega)⟩
    · have c0 : w5.cell? ⟨P, 4, none⟩ = some (.int .i64 0) := by rw [Blk.cell bP5]; rfl
      have c1 : w5.cell? ⟨P, 5, none⟩ = some (.int .i64 0) := by rw [Blk.cell bP5]; rfl
      go_wp2_with fail
      refine (ssh_val (l := l) (st := 0) (ha := 0) rfl rfl A2 l.length c2 w5 rfl (by omega) q2).mono ?_
      rintro e6 w6 ⟨A6, c6, rfl, lc6, cm6, q6, _, b6⟩
      have own6 := own_below own5 b6
      have k6 := k5.trans (Onb.of_bel b6)
      have hs6 := b6.size
      clear c0 c1
      cases hB : shB l 0 0
      · have r6 := r5.below b6
        have hL0 : shL l 0 0 = [] := by unfold shL; rw [hB]; rfl
        go_wp2_with fail
        refine (voice_any _ _ _ _ _ _ _ _ r6 (by omega)).mono ?_
        rintro e8 w8 ⟨vv8, l8, rfl, l78, own8, o8, p8, hp8, r8⟩
        have k8 := k6.trans o8
        have own2' := own_onb own6 o8 (by omega)
        obtain ⟨A7, c7, e7, lc, cm, q2, _⟩ := own_rowNt own2'
        cases e7
        obtain ⟨A3, c3, rfl, lc3, cm3, q3, _⟩ := own_rowNt own8
        go_wp2_with fail
        exact bodyPost_ret (v := .tuple #[.slice A2 l.length c2, .slice A3 l8.length c3]) (by simp [results, Try.results27, go_sem]) rfl ⟨A2, c2, l, A3, c3, l8, rfl, l7, l78, q2, q3, k8.below (by omega) (by omega)⟩
      · have hL6 := (shL_len l 0 0).1
        clear hB
        generalize shL l 0 0 = L6 at *
        obtain ⟨A9, c9, e9, lc9, cm9, q9, _⟩ := own_rowNt own6
        cases e9
        go_wp2_with fail
        exact bodyPost_ret (v := .tuple #[.slice A2 l.length c2, .slice A6 L6.length c6]) (by simp [results, Try.results27, go_sem]) rfl ⟨A2, c2, l, A6, c6, L6, rfl, l7, by omega, q9, q6, k6.below (by omega) (by omega)⟩
  · have hv1 : v = 1 := by omega
    subst hv1
    go_wp2_with fail
    refine (voice_any _ _ _ _ _ _ _ _ r3 (by omega)).mono ?_
    rintro e8 w8 ⟨vv8, l8, rfl, l78, own8, o8, p8, hp8, r8⟩
    have k8 := k3.trans o8
    have own2' := own_onb own3 o8 (by omega)
    obtain ⟨A2, c2, rfl, lc, cm, q2, _⟩ := own_rowNt own2'
    obtain ⟨A3, c3, rfl, lc3, cm3, q3, _⟩ := own_rowNt own8
    go_wp2_with fail
    exact bodyPost_ret (v := .tuple #[.slice A2 l.length c2, .slice A3 l8.length c3]) (by simp [results, Try.results27, go_sem]) rfl ⟨A2, c2, l, A3, c3, l8, rfl, l7, l78, q2, q3, k8.below (by omega) (by omega)⟩
end Go.Proofs.Ytiapfpjggginoaa
