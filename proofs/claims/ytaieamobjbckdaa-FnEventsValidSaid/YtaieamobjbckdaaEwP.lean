/- Valid events: what their law says, plain. -/
import Derived.Test.YtaieamobjbckdaaSEv
import Derived.Test.YtaieamobjbckdaaPrC
namespace Go.Proofs.Ytaieamobjbckdaa
set_option linter.unusedSimpArgs false
set_option linter.unusedVariables false
open Go.RowKit

theorem wpOp_guard {P : Program} {ops : Array Oper} {Q : Exit → Act → World → Prop} {i : Nat} {o : Oper} {K : Act → World → Prop} {a : Act} {w : World} (ho : ops[i]? = some o) (hg : Region.wanted o (yielded ops a.tmps) = true)
    (h : ∀ K' : Act → World → Prop, (∀ a w, K a w → K' a w) → Oper.wp P o a w K' Q) : wpOp P ops Q i K a w :=
  wpOp_step ho fun K' hK => by rw [if_pos hg]; exact h K' hK
theorem atEv_drop (l : List Ev) (h k : Nat) : atEv (l.drop h) k = atEv l (h + k) := by
  unfold atEv
  rw [List.getD_eq_getElem?_getD, List.getD_eq_getElem?_getD, List.getElem?_drop]
theorem evB_drop {l : List Ev} (hl : evB l = true) (h : Nat) : evB (l.drop h) = true := by
  obtain ⟨h6, hk⟩ := of_decide_eq_true hl
  refine evB_yes (by rw [List.length_drop]; omega) fun k hkl => ?_
  rw [List.length_drop] at hkl
  have := hk (h + k) (by omega)
  obtain ⟨a, b, c, d, e, f⟩ := this
  unfold evOk
  rw [atEv_drop]
  refine ⟨a, b, c, d, e, fun h0 => ?_⟩
  rw [atEv_drop, show h + (k - 1) = h + k - 1 from by omega]
  exact f (by omega)
theorem atEv_app (l : List Ev) (x : Ev) (k : Nat) (hk : k < l.length) : atEv (l ++ [x]) k = atEv l k := by
  unfold atEv
  rw [List.getD_eq_getElem?_getD, List.getElem?_append_left hk, ← List.getD_eq_getElem?_getD]
theorem atEv_last (l : List Ev) (x : Ev) : atEv (l ++ [x]) l.length = x := by
  unfold atEv
  rw [List.getD_eq_getElem?_getD]; simp
theorem evB_twice {l : List Ev} (hl : evB l = true) (h0 : 0 < l.length) : evB (l ++ [atEv l (l.length - 1)]) = false := by
  obtain ⟨h6, hk⟩ := of_decide_eq_true hl
  obtain ⟨_, b, _⟩ := hk (l.length - 1) (by omega)
  refine evB_bad l.length (by rw [List.length_append, List.length_singleton]; omega) fun hc => ?_
  have := hc.2.2.2.2.2 h0
  rw [atEv_last, atEv_app _ _ _ (by omega)] at this
  omega
theorem rowEv_drop {w : World} {B b off : Nat} {l : List Ev} (h : RowEv w B (some ⟨b, off, none⟩) l) (k : Nat) : RowEv w B (some ⟨b, off + k * 4, none⟩) (l.drop k) := fun hl => by
  rw [List.length_drop] at hl
  obtain ⟨b', o', e, hb, hc⟩ := h (by omega)
  cases e
  refine ⟨b, off + k * 4, rfl, hb, fun i hi => ?_⟩
  rw [List.length_drop] at hi
  rw [atEv_drop, show off + k * 4 + i * 4 = off + (k + i) * 4 from by omega]
  exact hc (k + i) (by omega)
theorem rowEv_news {w : World} {B b off : Nat} {l : List Ev} (h : RowEv w B (some ⟨b, off, none⟩) l) : ∀ j u, (flat csEv l)[j]? = some u → w.cell? ((⟨b, off, none⟩ : Addr).add j) = some u := by
  intro j u hj
  have hjl : j < (flat csEv l).length := (List.getElem?_eq_some_iff.1 hj).1
  rw [flat_len csEv_len] at hjl
  obtain ⟨b', o', e, _, hc⟩ := h (by omega)
  cases e
  have hi : j / 4 < l.length := by omega
  have hd := flat_get csEv_len (⟨0, 0, 0, 0⟩ : Ev) l (j / 4) (j % 4) hi (by omega)
  rw [show j / 4 * 4 + j % 4 = j from by omega, hj] at hd
  obtain ⟨c0, c1, c2, c3⟩ := hc (j / 4) hi
  have ha : ∀ n : Nat, (⟨b, off, none⟩ : Addr).add n = ⟨b, off + n, none⟩ := fun n => by
    unfold Addr.add; by_cases e : n = 0 <;> simp [e]
  rw [ha, hd]
  have hm : j % 4 = 0 ∨ j % 4 = 1 ∨ j % 4 = 2 ∨ j % 4 = 3 := by omega
  have hj4 : off + j = off + j / 4 * 4 + j % 4 := by omega
  rw [hj4]
  rcases hm with e | e | e | e <;> rw [e]
  · exact c0
  · exact c1
  · exact c2
  · exact c3
theorem own_rowEvN {w' : World} {base : Nat} {n : Nat} {l : List Ev} {A : Option Addr} {c : Nat} (h : w'.ownsRow base 28 4 (.slice A n c) n (flat csEv l)) (hn : l.length = n) : RowEv w' w'.heap.size A l := by
  subst hn
  obtain ⟨A', c', e, _, _, h3⟩ := own_open csEv_len (⟨0, 0, 0, 0⟩ : Ev) h
  cases e
  intro hl
  obtain ⟨g, rfl, hb, hg, _, hc⟩ := h3 hl
  exact ⟨g, 0, rfl, hg, fun i hi => ⟨by simpa [csEv, atEv] using hc i 0 hi (by omega), by simpa [csEv, atEv] using hc i 1 hi (by omega), by simpa [csEv, atEv] using hc i 2 hi (by omega), by simpa [csEv, atEv] using hc i 3 hi (by omega)⟩⟩
theorem evd_val {l : List Ev} {b : Bool} (hb : evB l = b) (A : Option Addr) (n c : Nat) (w : World) (hn : l.length = n) (hm : n ≤ 2000000) (h : RowEv w w.heap.size A l) :
    Calls Try.prog 5 #[.slice A n c] w fun e w' => e = .returned (.bool b) ∧ Below w.heap.size w w' := by
  subst hb; exact ev_any A n c l w hn hm h
theorem flatEv_one (l : List Ev) : ∀ u ∈ flat csEv l, u.oneCell' = true := by
  intro u hu
  simp only [flat, List.mem_flatMap, csEv] at hu
  obtain ⟨t, _, h⟩ := hu
  simp only [List.mem_cons, List.not_mem_nil, or_false] at h
  rcases h with rfl | rfl | rfl | rfl <;> rfl
end Go.Proofs.Ytaieamobjbckdaa
