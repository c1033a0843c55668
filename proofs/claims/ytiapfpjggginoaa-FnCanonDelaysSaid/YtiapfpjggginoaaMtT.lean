/- The ticks at which two voices are to be looked at: MeetTicks of both, in the form that the laws use. -/
import Derived.Test.YtiapfpjggginoaaMtS
namespace Go.Proofs.Ytiapfpjggginoaa
set_option linter.unusedSimpArgs false
set_option linter.unusedVariables false
open Go.RowKit

set_option maxHeartbeats 2000000 in
theorem smt_val {a b : List Nt} {L : List Int} (hL : MtL a b L) (A : Option Addr) (n c : Nat) (A' : Option Addr) (n' c' : Nat) (w : World) (hn : a.length = n) (hm : n ≤ 2000000) (h : RowNt w w.heap.size A a) (hn' : b.length = n') (hm' : n' ≤ 2000000) (h' : RowNt w w.heap.size A' b) :
    Calls Try.prog 11 #[.slice A n c, .slice A' n' c'] w (MtR w L) := by
  subst hn hn'
  cases hva : vvB a
  · have HN := Lib.hid (show L = [] from by unfold MtL at hL; rw [if_neg (fun z => by rw [hva] at z; cases z.1)] at hL; exact hL)
    have HA := Lib.hid hva
    clear hva hL
    go_enter Try.func11, Try.ntmps11
    go_wp2_with fail
    refine (svv_val HA.out _ _ _ _ rfl hm h).mono ?_
    rintro e1 w1 ⟨rfl, b1⟩
    go_wp2_with fail
    exact bodyPost_ret (v := .slice (some ⟨w1.heap.size, 0, none⟩) 0 0) (by simp [results, Try.results11, go_sem]) rfl ⟨_, rfl, by rw [HN.out]; exact World.ownsRow_lit _ #[] 0 b1.size (by simp [maxLen]) rfl, bel_al b1 _⟩
  · cases hvb : vvB b
    · have HN := Lib.hid (show L = [] from by unfold MtL at hL; rw [if_neg (fun z => by rw [hvb] at z; cases z.2)] at hL; exact hL)
      have HA := Lib.hid hva
      have HB := Lib.hid hvb
      clear hva hvb hL
      go_enter Try.func11, Try.ntmps11
      go_wp2_with fail
      refine (svv_val HA.out _ _ _ _ rfl hm h).mono ?_
      rintro e1 w1 ⟨rfl, b1⟩
      go_wp2_with fail
      refine (svv_val HB.out _ _ _ _ rfl hm' (h'.below b1)).mono ?_
      rintro e2 w2 ⟨rfl, b2⟩
      have bw := bel_tr b1 b2
      go_wp2_with fail
      exact bodyPost_ret (v := .slice (some ⟨w2.heap.size, 0, none⟩) 0 0) (by simp [results, Try.results11, go_sem]) rfl ⟨_, rfl, by rw [HN.out]; exact World.ownsRow_lit _ #[] 0 bw.size (by simp [maxLen]) rfl, bel_al bw _⟩
    · have HA := Lib.hid hva
      have HB := Lib.hid hvb
      have HL := Lib.hid hL
      clear hva hvb hL
      go_enter Try.func11, Try.ntmps11
      go_wp2_with fail
      refine (svv_val HA.out _ _ _ _ rfl hm h).mono ?_
      rintro e1 w1 ⟨rfl, b1⟩
      go_wp2_with fail
      refine (svv_val HB.out _ _ _ _ rfl hm' (h'.below b1)).mono ?_
      rintro e2 w2 ⟨rfl, b2⟩
      have bw := bel_tr b1 b2
      go_wp2_with fail
      refine (so_any HL.out _ _ _ _ _ HA.out HB.out (h.below bw) (h'.below bw)).mono ?_
      rintro e3 w3 ⟨v, rfl, own3, b3⟩
      go_wp2_with fail
      exact bodyPost_ret (v := v) (by simp [results, Try.results11, go_sem]) rfl ⟨v, rfl, own_lo own3 bw.size, bel_tr bw b3⟩

def MtQ (w : World) (L : List Int) (e : Ending) (w' : World) : Prop :=
  ∃ A c, e = .returned (.slice A L.length c) ∧ L.length ≤ c ∧ c ≤ maxLen ∧ RowIn w' w'.heap.size A L ∧ OwnIn w' w.heap.size A L.length ∧ Below w.heap.size w w'
theorem MtR.q {w w' : World} {L : List Int} {e : Ending} (h : MtR w L e w') : MtQ w L e w' := by
  obtain ⟨v, rfl, ho, hb⟩ := h
  obtain ⟨A, c, rfl, h1, h2, h3, h4⟩ := own_rowIn ho
  exact ⟨A, c, rfl, h1, h2, h3, h4, hb⟩
theorem mti_q {a b : List Nt} {L : List Int} (hL : MtL a b L) (A : Option Addr) (n c : Nat) (A' : Option Addr) (n' c' : Nat) (w : World) (hn : a.length = n) (hm : n ≤ 2000000) (h : RowNt w w.heap.size A a) (hn' : b.length = n') (hm' : n' ≤ 2000000) (h' : RowNt w w.heap.size A' b) :
    Calls Try.prog 13 #[.slice A n c, .slice A' n' c'] w (MtQ w L) := (mti_val hL A n c A' n' c' w hn hm h hn' hm' h').mono fun _ _ h => h.q
theorem smt_q {a b : List Nt} {L : List Int} (hL : MtL a b L) (A : Option Addr) (n c : Nat) (A' : Option Addr) (n' c' : Nat) (w : World) (hn : a.length = n) (hm : n ≤ 2000000) (h : RowNt w w.heap.size A a) (hn' : b.length = n') (hm' : n' ≤ 2000000) (h' : RowNt w w.heap.size A' b) :
    Calls Try.prog 11 #[.slice A n c, .slice A' n' c'] w (MtQ w L) := (smt_val hL A n c A' n' c' w hn hm h hn' hm' h').mono fun _ _ h => h.q
end Go.Proofs.Ytiapfpjggginoaa
