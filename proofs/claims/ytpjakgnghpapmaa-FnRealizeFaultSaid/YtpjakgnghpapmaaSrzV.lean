/- Chords found for a bass: the reference's function answers as the program's. -/
import Derived.Test.YtpjakgnghpapmaaSrz
namespace Go.Proofs.Ytpjakgnghpapmaa
set_option linter.unusedSimpArgs false
set_option linter.unusedVariables false
open Go.RowKit

set_option maxRecDepth 20000 in
set_option maxHeartbeats 2000000 in
theorem srb_any (f : Int) (A1 A2 : Option Addr) (n1 n2 c1 c2 : Nat) (bs : List Pi) (gs : List Int) (w : World) (hn1 : bs.length = n1) (hn2 : gs.length = n2) (hm1 : n1 ≤ 2000000) (hm2 : n2 ≤ 2000000) (h1 : RowPi w w.heap.size A1 bs) (h2 : RowIn w w.heap.size A2 gs) :
    Calls Try.prog 31 #[.int .i64 f, .slice A1 n1 c1, .slice A2 n2 c2] w (RzR w (rbI f bs gs)) := by
  subst hn1
  subst hn2
  by_cases hG : rbG f bs gs
  · have h := srb_yes f A1 A2 c1 c2 bs gs w h1 h2 hG
    rw [rb_rf, if_pos hG]
    rw [hG.2.2]
    exact h
  · have own0 : OwPV (w.alloc (.cells #[] 37)) w.heap.size (.slice (some ⟨w.heap.size, 0, none⟩) 0 0) [] [] := ⟨World.ownsRow_lit (base := w.heap.size) (e := 37) (size := 1) w #[] 0 (Nat.le_refl _) (by simp [maxLen]) rfl, fun i hi => absurd hi (by simp)⟩
    by_cases hn : 1 ≤ bs.length ∧ bs.length ≤ 8
    · by_cases hg : gs.length = bs.length
      · by_cases hf : -7 ≤ f ∧ f ≤ 7
        · exact absurd ⟨hf, hn, hg⟩ hG
        · clear hG
          obtain ⟨hn0, hn8⟩ := hn
          rw [hg]
          have HN := Lib.hid (show rbI f bs gs = none from rb_noG (fun z => hf z.1))
          go_enter Try.func31, Try.ntmps31
          go_wp2_with fail
          refine (swin_yes _ _ _ _ (by omega) (by omega)).mono ?_
          rintro e1 w1 ⟨rfl, rfl⟩
          go_wp2_with fail
          refine (swin_no _ _ _ _ (by omega)).mono ?_
          rintro e2 w2 ⟨rfl, rfl⟩
          go_wp2
          exact bodyPost_ret (v := .tuple #[.slice (some ⟨w.heap.size, 0, none⟩) 0 0, .bool false]) (by simp [results, Try.results31, go_sem]) rfl ⟨_, [], by rw [HN.out]; rfl, by rw [HN.out]; exact own0, bel_al (bel_refl _) _⟩
      · clear hG
        obtain ⟨hn0, hn8⟩ := hn
        have hgi : ((gs.length : Int) != (bs.length : Int)) = true := bne_iff_ne.2 (by omega)
        have hgj : ¬ ((gs.length : Int) = (bs.length : Int)) := by omega
        have HN := Lib.hid (show rbI f bs gs = none from rb_noG (fun z => hg z.2.2))
        go_enter Try.func31, Try.ntmps31
        go_wp2_with (first | (go_at_call 52; refine (swin_yes _ _ _ _ (by omega) (by omega)).mono ?_; rintro e w' ⟨rfl, rfl⟩))
        exact bodyPost_ret (v := .tuple #[.slice (some ⟨w.heap.size, 0, none⟩) 0 0, .bool false]) (by simp [results, Try.results31, go_sem]) rfl ⟨_, [], by rw [HN.out]; rfl, by rw [HN.out]; exact own0, bel_al (bel_refl _) _⟩
    · clear hG
      have HN := Lib.hid (show rbI f bs gs = none from rb_noG (fun z => hn z.2.1))
      go_enter Try.func31, Try.ntmps31
      go_wp2_with (first | (go_at_call 52; refine (swin_no _ _ _ _ (by omega)).mono ?_; rintro e w' ⟨rfl, rfl⟩))
      exact bodyPost_ret (v := .tuple #[.slice (some ⟨w.heap.size, 0, none⟩) 0 0, .bool false]) (by simp [results, Try.results31, go_sem]) rfl ⟨_, [], by rw [HN.out]; rfl, by rw [HN.out]; exact own0, bel_al (bel_refl _) _⟩
theorem rb_val {f : Int} {bs : List Pi} {gs : List Int} {o : Option (List (List Pi))} (ho : rbI f bs gs = o) (A1 A2 : Option Addr) (n1 n2 c1 c2 : Nat) (w : World) (hn1 : bs.length = n1) (hn2 : gs.length = n2) (hm1 : n1 ≤ 2000000) (hm2 : n2 ≤ 2000000) (h1 : RowPi w w.heap.size A1 bs) (h2 : RowIn w w.heap.size A2 gs) :
    Calls Try.prog 32 #[.int .i64 f, .slice A1 n1 c1, .slice A2 n2 c2] w (RzA w o) := by subst ho; exact rb_anyA f A1 A2 n1 n2 c1 c2 bs gs w hn1 hn2 hm1 hm2 h1 h2
theorem srb_val {f : Int} {bs : List Pi} {gs : List Int} {o : Option (List (List Pi))} (ho : rbI f bs gs = o) (A1 A2 : Option Addr) (n1 n2 c1 c2 : Nat) (w : World) (hn1 : bs.length = n1) (hn2 : gs.length = n2) (hm1 : n1 ≤ 2000000) (hm2 : n2 ≤ 2000000) (h1 : RowPi w w.heap.size A1 bs) (h2 : RowIn w w.heap.size A2 gs) :
    Calls Try.prog 31 #[.int .i64 f, .slice A1 n1 c1, .slice A2 n2 c2] w (RzR w o) := by subst ho; exact srb_any f A1 A2 n1 n2 c1 c2 bs gs w hn1 hn2 hm1 hm2 h1 h2
end Go.Proofs.Ytpjakgnghpapmaa
