/- The walk of the law FnCantusValid: for every input it returns true and turns nothing that was there. -/
import Derived.Test.YtjjegegljblliaaCtu
import Derived.Test.YtjjegegljblliaaCantus
import Derived.Deep.DeepCutAuto
namespace Go.Proofs.Ytjjegegljblliaa.FnCantusValid
open Go.RowKit

theorem cv_drop {f : Int} {l : List Pi} (h : cvB f l = true) (h3 : 3 ≤ l.length) : cvB f (l.drop 1) = true := by
  obtain ⟨h0, h1, h2⟩ := cvB_of h
  have hd : (l.drop 1).length = l.length - 1 := List.length_drop
  exact cvB_yes h0 (by omega) fun k hk => by rw [at_drop1]; exact h2 (k + 1) (by omega)
theorem cv_set {f : Int} {l : List Pi} (h : cvB f l = true) : cvB f (l.set 0 ⟨(atPi l 0).step, (atPi l 0).alter + 1, (atPi l 0).octave⟩) = false := by
  obtain ⟨_, h1, h2⟩ := cvB_of h
  refine cvB_bad 0 (by rw [List.length_set]; omega) ?_
  rw [at_set0 _ _ (by omega)]
  have a := h2 0 (by omega)
  unfold ikP ikB at a ⊢
  simp only [Bool.and_eq_true, beq_iff_eq] at a ⊢
  intro c
  have := a.2; have := c.2; omega
theorem cv_alter {f : Int} {l : List Pi} (h : cvB f l = true) : -1 ≤ (atPi l 0).alter ∧ (atPi l 0).alter ≤ 1 := by
  obtain ⟨_, h1, h2⟩ := cvB_of h
  have a := h2 0 (by omega)
  unfold ikP ikB at a
  simp only [Bool.and_eq_true, beq_iff_eq] at a
  have := alI_bd f (atPi l 0).step
  have := a.2; omega

set_option maxRecDepth 20000 in
set_option maxHeartbeats 4000000 in
theorem walk (A : Option Addr) (len cap : Nat) (w : World) (h : Cod w A len cap) :
    Calls Try.prog 4 #[.slice A len cap] w fun e w' => e = .returned (.bool true) ∧ Below w.heap.size w w' := by
  by_cases hl : len ≤ 1048576
  · go_enter Try.func4, Try.ntmps4
    go_wp2_with fail
    refine (DrawCantusValid_any w A len cap h).mono ?_
    rintro e1 w1 ⟨f, A1, c1, l, rfl, lc, cm, l6, hr, b1⟩
    unfold maxLen at cm
    cases hv : cvB f l
    · have HV := Lib.hid hv
      clear hv
      go_wp2_with fail
      refine (cv_val HV.out _ _ _ _ rfl (by omega) hr).mono ?_
      rintro e2 w2 ⟨rfl, b2⟩
      have hr := hr.below b2
      go_wp2_with fail
      refine (scv_val HV.out _ _ _ _ rfl (by omega) hr).mono ?_
      rintro e3 w3 ⟨rfl, b3⟩
      go_wp2_with fail
      refine (alive_any _).mono ?_
      rintro e4 w4 ⟨rfl, b4⟩
      go_wp2
      go_ret
      exact ⟨rfl, by repeat (first | (with_reducible assumption) | (exact bel_undr (by with_reducible assumption)) | (with_reducible exact bel_refl _) | (with_reducible refine bel_dr ?_) | (with_reducible refine bel_drN ?_ _) | (with_reducible refine bel_al ?_ _) | (refine bel_set ?_ (by first | (simp; done) | (simp; exact Below.size (by assumption)) | (simp; omega)) _) | (with_reducible refine bel_tr ?_ (by assumption)))⟩
    · have h2 := (cvB_of hv).2.1
      have ha := cv_alter hv
      have HS := Lib.hid (cv_set hv)
      have HD := Lib.hid (cv_drop hv)
      have HV := Lib.hid hv
      clear hv
      obtain ⟨i0, hi0, hz0, hz1, hz2⟩ := info_parts infoPi
      go_wp2_with fail
      refine (cv_val HV.out _ _ _ _ rfl (by omega) hr).mono ?_
      rintro e2 w2 ⟨rfl, b2⟩
      have hr := hr.below b2
      go_wp2_with fail
      refine (scv_val HV.out _ _ _ _ rfl (by omega) hr).mono ?_
      rintro e3 w3 ⟨rfl, b3⟩
      have hr := hr.below b3
      have bw : Below w.heap.size w w3 := by repeat (first | (with_reducible assumption) | (exact bel_undr (by with_reducible assumption)) | (with_reducible exact bel_refl _) | (with_reducible refine bel_dr ?_) | (with_reducible refine bel_drN ?_ _) | (with_reducible refine bel_al ?_ _) | (refine bel_set ?_ (by first | (simp; done) | (simp; exact Below.size (by assumption)) | (simp; omega)) _) | (with_reducible refine bel_tr ?_ (by assumption)))
      clear b1 b2 b3
      have hbw := bw.size
      have hr3 := hr
      obtain ⟨b, off, rfl, hb, _⟩ := hr (by omega)
      have own0 : (w3.alloc (.cells #[] 34)).ownsRow w3.heap.size 34 3 (.slice (some ⟨w3.heap.size, 0, none⟩) 0 0) ([] : List Pi).length (flat csPi []) :=
        World.ownsRow_lit w3 #[] 0 (Nat.le_refl _) (by simp [maxLen]) rfl
      have hrA := hr3.below (bel_al (bel_refl w3) (.cells #[] 34))
      go_upto_region 10 with (at_builtin; go_must (refine wpList_append_lies _ rfl _ _ 25 rfl w3.heap.size 34 i0 _ 3 24 Try.underlying25 hi0 hz0 hz1 hz2 rfl (by omega) _ 0 (flat csPi []) rfl own0 ⟨b, off, none⟩ l.length c1 (flat csPi l) rfl (flat_len csPi_len l) (rowPi_news hrA) (flatPi_one l) (by omega) (by unfold maxLen; omega) (by omega) (by simp) _ rfl ?_; intro gg cp w9 hown9 hgrow9 hat9 hlt9))
      have hr9 : RowPi w9 w3.heap.size (some ⟨b, off, none⟩) l := hr3.keep (Nat.le_refl _) (fun b' o hb' => ((grown_far hgrow9 b' o (by simp; omega) (by intro e; have e2 : w3.heap.size = b' := Option.some.inj e; omega))).trans (by rw [World.cell?_alloc_lt _ _ _ hb']))
      have hown9 : w9.ownsRow w3.heap.size 34 3 (.slice (some ⟨gg, 0, none⟩) l.length cp) l.length (flat csPi l) := by simpa [flat] using hown9
      have b9 : Below w3.heap.size w3 w9 := bel_grown (bel_al (bel_refl w3) _) hgrow9 (fun k hk => by have e2 : w3.heap.size = k := Option.some.inj hk; omega)
      have hs9 := b9.size
      clear hgrow9 own0 hrA hr3 hr
      obtain ⟨_, _, he, lc9, cm9, op9⟩ := own_open csPi_len ⟨0, 0, 0⟩ hown9
      cases he
      obtain ⟨g', he, gb, gl, gf, gc⟩ := op9 (by omega)
      cases he
      obtain ⟨y, hy⟩ : ∃ y, l.getD 0 ⟨0, 0, 0⟩ = y := ⟨_, rfl⟩
      have hy2 : atPi l 0 = y := hy
      rw [hy2] at ha HS
      obtain ⟨s0, a0, o0⟩ := y
      simp only at ha HS
      have g1 : w9.cell? ⟨gg, 1, none⟩ = some (.int .i64 a0) := by have hh := gc 0 1 (by omega) (by omega); rw [hy] at hh; simpa [csPi] using hh
      have f1 := gf 1
      have HY := Lib.hid hy
      clear hy hy2 gf gc op9
      have i1 := IntWalk.i64_in (a0 + 1) (by omega)
      have hl0 : (0 : Int) < (l.length : Int) := by omega
      have hl1 : (1 : Int) ≤ (l.length : Int) := by omega
      have hc1 : (l.length : Int) ≤ (c1 : Int) := by omega
      go_upto_region 11 with fail
      have hownA := own_stored csPi_len ⟨0, 0, 0⟩ hown9 0 1 (by omega) (by omega) ⟨s0, a0 + 1, o0⟩ (.int .i64 (a0 + 1)) (by rw [HY.out]; rfl)
      obtain ⟨_, _, he, _, _, hrB, _⟩ := own_rowPi hownA
      rw [List.length_set] at he
      cases he
      have hrC : RowPi (w9.setCell ⟨gg, 1, none⟩ (.int .i64 (a0 + 1))) w3.heap.size (some ⟨b, off, none⟩) l := hr9.keep (Nat.le_refl _) (fun b' o hb' => World.cell?_setCell_other _ _ _ _ (by intro e; have := congrArg Addr.block e; simp only at this; omega))
      have bwA : Below w.heap.size w (w9.setCell ⟨gg, 1, none⟩ (.int .i64 (a0 + 1))) := bel_set (bel_tr bw b9) (by simp only; omega) _
      have hsA : w3.heap.size ≤ (w9.setCell ⟨gg, 1, none⟩ (.int .i64 (a0 + 1))).heap.size := by simp [World.setCell]; exact hs9
      clear g1 f1 hown9 hr9 hownA b9 hs9 gl hlt9
      generalize (w9.setCell ⟨gg, 1, none⟩ (.int .i64 (a0 + 1))) = wA at *
      have hrD := hrC.keep (B' := wA.heap.size) hsA (fun b o h => rfl)
      by_cases h3 : l.length = 2
      · have HL := Lib.hid h3
        have e2 : ((l.length : Int) == 2) = true := by rw [beq_iff_eq]; omega
        clear h3
        go_wp2_with fail
        refine (cv_val HS.out _ l.length _ _ (by simp) (by omega) hrB).mono ?_
        rintro e5 w5 ⟨rfl, b5⟩
        go_wp2
        go_ret
        exact ⟨rfl, by repeat (first | (with_reducible assumption) | (exact bel_undr (by with_reducible assumption)) | (with_reducible exact bel_refl _) | (with_reducible refine bel_dr ?_) | (with_reducible refine bel_drN ?_ _) | (with_reducible refine bel_al ?_ _) | (refine bel_set ?_ (by first | (simp; done) | (simp; exact Below.size (by assumption)) | (simp; omega)) _) | (with_reducible refine bel_tr ?_ (by assumption)))⟩
      · have e2 : ((l.length : Int) == 2) = false := by rw [beq_eq_false_iff_ne]; omega
        have hc2 : ¬ (1 : Int) = (c1 : Int) := by omega
        have hc3 : ((c1 : Int) == 1) = false := by rw [beq_eq_false_iff_ne]; omega
        go_wp2_with fail
        refine (cv_val (HD.out (by omega)) _ (l.length - 1) _ _ List.length_drop (by omega) (rowPi_drop hrD)).mono ?_
        rintro e5 w5 ⟨rfl, b5⟩
        have hrB := hrB.below b5
        go_wp2_with fail
        refine (cv_val HS.out _ l.length _ _ (by simp) (by omega) hrB).mono ?_
        rintro e6 w6 ⟨rfl, b6⟩
        go_wp2
        go_ret
        exact ⟨rfl, by repeat (first | (with_reducible assumption) | (exact bel_undr (by with_reducible assumption)) | (with_reducible exact bel_refl _) | (with_reducible refine bel_dr ?_) | (with_reducible refine bel_drN ?_ _) | (with_reducible refine bel_al ?_ _) | (refine bel_set ?_ (by first | (simp; done) | (simp; exact Below.size (by assumption)) | (simp; omega)) _) | (with_reducible refine bel_tr ?_ (by assumption)))⟩
  · have hl2 : (1048576 : Int) < (len : Int) := by omega
    go_enter Try.func4, Try.ntmps4
    go_wp2
    go_ret
    exact ⟨rfl, bel_refl _⟩

end Go.Proofs.Ytjjegegljblliaa.FnCantusValid
