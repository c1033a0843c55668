/- Dissonances of two voices: the one way round and the other; a voice with itself, and with itself an octave up: plain. -/
import Derived.Test.YtiapfpjggginoaaCdL
import Derived.Test.YtiapfpjggginoaaCoV
namespace Go.Proofs.Ytiapfpjggginoaa
set_option linter.unusedSimpArgs false
set_option linter.unusedVariables false
open Go.RowKit

theorem ds_comm (x y : Int) : dsI x y = dsI y x := by unfold dsI; split <;> split <;> omega
theorem mfB_comm (a b : List Nt) (t : Int) : mfB a b t = mfB b a t := by
  unfold mfB; rw [ds_comm (skK a t), Bool.and_comm (skB a t)]
theorem mfL_comm (a b : List Nt) : ∀ L, mfL a b L = mfL b a L
  | [] => rfl
  | t :: L => by unfold mfL; rw [mfB_comm a b t, mfL_comm a b L]
theorem mfI.comm {a b : List Nt} {r : Int} (h : mfI a b r) : mfI b a r := by
  obtain ⟨L, hL, hr⟩ := h
  exact ⟨L, hL.comm, by rw [mfL_comm]; exact hr⟩
theorem mfL_none' {a b : List Nt} (h : ∀ t, mfB a b t = false) : ∀ L, mfL a b L = -1
  | [] => rfl
  | t :: L => by rw [mfL_no (h t)]; exact mfL_none' h L
theorem mf_self (a : List Nt) : mfI a a (-1) := ⟨_, mtF_ok _ _, mfL_none' (fun t => by
  unfold mfB
  rw [show dsI (skK a t) (skK a t) % 12 = 0 from by unfold dsI; split <;> omega]
  simp [disB]) _⟩
theorem key_mv {st ha : Int} {t : Nt} (hn : nvB t = true) (hr : t.rest = false) (ho : mvOk st ha t) : kyN (mvN st ha t) = kyN t + ha := by
  have hn2 := nv_mv hn ho
  have hr2 : (mvN st ha t).rest = false := (mvN_rest_eq st ha t).1.trans hr
  have had : adB t.step t.alter t.octave st ha = true := by
    rcases ho with h | h
    · rw [hr] at h; cases h
    · exact h
  unfold nvB at hn hn2
  rw [hr] at hn
  rw [hr2] at hn2
  simp only [Bool.and_eq_true, Bool.false_eq_true, if_false] at hn hn2
  unfold kyN pkI
  rw [if_pos hn.2, if_pos hn2.2, mvN_tone hr]
  simp only
  unfold adS adA adO
  rw [if_pos had, if_pos had, if_pos had]
  unfold natI
  omega
theorem mf_oct {l : List Nt} (h : shB l 7 12 = true) : mfI l (shL l 7 12) (-1) := by
  obtain ⟨f1, f2, f3, f4⟩ := sh_facts h
  have hv := vv_mv f1 f3
  have hl := mvK_len 7 12 l l.length
  have hat := fun j (hj : j < l.length) => at_mvK 7 12 l l.length j hj
  rw [f4]
  refine ⟨_, mtF_ok _ _, mfL_none' (fun t => ?_) _⟩
  have hts : ∀ m, m ≤ l.length → tsum (mvK 7 12 l l.length) m = tsum l m := fun m hm => tsum_cong m fun j hj => by rw [hat j (by omega)]; exact (mvN_rest_eq _ _ _).2.1
  rcases na_spec l t with ⟨e, _⟩ | ⟨j, hj, _, _, e, h1, h2⟩
  · unfold mfB; rw [sk_no e]; rfl
  · have e2 : naI (mvK 7 12 l l.length) t = (j : Int) := na_eq hv (by omega) (by rw [hts j (by omega)]; exact h1) (by rw [hts (j + 1) (by omega)]; exact h2)
    unfold mfB
    rw [(sk_at e).1, (sk_at e).2, (sk_at e2).2, hat j hj]
    cases hr : (atNt l j).rest
    · rw [key_mv ((vvB_of f1).ok j hj).1 hr (f3 j hj), show dsI (kyN (atNt l j)) (kyN (atNt l j) + 12) % 12 = 0 from by unfold dsI; split <;> omega]
      simp [disB]
    · simp
end Go.Proofs.Ytiapfpjggginoaa
