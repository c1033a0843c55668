/- A slice that the call itself makes and grows: what it owns, as a list of elements; how that lives on. -/
import Derived.Test.YtaieamobjbckdaaBel
import Derived.Deep.AppendLies
import Derived.Laws.OwnMore
import Derived.OwnWalk
namespace Go.Proofs.Ytaieamobjbckdaa
set_option linter.unusedSimpArgs false
set_option linter.unusedVariables false
open Go.RowKit

def flat {α : Type} (cs : α → List Value) (l : List α) : List Value := l.flatMap cs
theorem flat_len {α : Type} {cs : α → List Value} {k : Nat} (hk : ∀ t, (cs t).length = k) (l : List α) : (flat cs l).length = l.length * k := by
  induction l with
  | nil => simp [flat]
  | cons a l ih => simp only [flat, List.flatMap_cons, List.length_append, List.length_cons] at ih ⊢; rw [ih, hk, Nat.add_mul]; omega
theorem flat_snoc {α : Type} (cs : α → List Value) (l : List α) (t : α) : flat cs (l ++ [t]) = flat cs l ++ cs t := by simp [flat]
theorem flat_append {α : Type} (cs : α → List Value) (l m : List α) : flat cs (l ++ m) = flat cs l ++ flat cs m := by simp [flat]
theorem flat_get {α : Type} {cs : α → List Value} {k : Nat} (hk : ∀ t, (cs t).length = k) (d : α) (l : List α) : ∀ i j, i < l.length → j < k → (flat cs l)[i * k + j]? = (cs (l.getD i d))[j]? := by
  induction l with
  | nil => intro i j hi; simp at hi
  | cons a l ih =>
    intro i j hi hj
    have e : flat cs (a :: l) = cs a ++ flat cs l := by simp [flat]
    rw [e]
    cases i with
    | zero => rw [List.getElem?_append_left (by rw [hk]; omega)]; simp
    | succ i =>
      rw [List.getElem?_append_right (by rw [hk, Nat.add_mul]; omega), hk]
      have e2 : (i + 1) * k + j - k = i * k + j := by rw [Nat.add_mul]; omega
      rw [e2, ih i j (by simpa using hi) hj]
      simp
theorem flat_set {α : Type} {cs : α → List Value} {k : Nat} (hk : ∀ t, (cs t).length = k) (d : α) (l : List α) (i j : Nat) (hi : i < l.length) (hj : j < k) (t : α) (u : Value) (ht : cs t = (cs (l.getD i d)).set j u) :
    (flat cs l).set (i * k + j) u = flat cs (l.set i t) := by
  apply List.ext_getElem?
  intro m
  have lk := flat_len hk l
  by_cases hm : m < l.length * k
  · have hk0 : 0 < k := by omega
    obtain ⟨i', j', hi', hj', rfl⟩ : ∃ i' j', i' < l.length ∧ j' < k ∧ m = i' * k + j' :=
      ⟨m / k, m % k, (Nat.div_lt_iff_lt_mul hk0).2 hm, Nat.mod_lt _ hk0, by rw [Nat.mul_comm]; exact (Nat.div_add_mod m k).symm⟩
    rw [flat_get hk d (l.set i t) i' j' (by simpa using hi') hj']
    by_cases e : i = i'
    · subst e
      have e3 : (l.set i t).getD i d = t := by simp [List.getD_eq_getElem?_getD, hi]
      rw [e3, ht]
      by_cases ej : j = j'
      · subst ej
        rw [List.getElem?_set_self (by rw [lk]; exact hm), List.getElem?_set_self (by rw [hk]; exact hj)]
      · rw [List.getElem?_set_ne (by omega), List.getElem?_set_ne ej, flat_get hk d l i j' hi hj']
    · have e3 : (l.set i t).getD i' d = l.getD i' d := by simp [List.getD_eq_getElem?_getD, e]
      have ne : i * k + j ≠ i' * k + j' := by
        intro h
        apply e
        have h1 : (i * k + j) / k = i := by rw [Nat.mul_comm, Nat.mul_add_div hk0, Nat.div_eq_of_lt hj]; rfl
        have h2 : (i' * k + j') / k = i' := by rw [Nat.mul_comm, Nat.mul_add_div hk0, Nat.div_eq_of_lt hj']; rfl
        rw [← h1, ← h2, h]
      rw [List.getElem?_set_ne ne, e3, flat_get hk d l i' j' hi' hj']
  · rw [List.getElem?_eq_none (by rw [List.length_set, lk]; omega), List.getElem?_eq_none (by rw [flat_len hk, List.length_set]; omega)]

theorem own_push {α : Type} {cs : α → List Value} {w : World} {base : Nat} {e : TypeId} {k : Nat} {v : Value} {l : List α} {t : α} {news : List Value} (h : w.ownsRow base e k v (l.length + 1) (flat cs l ++ news)) (ht : cs t = news) : w.ownsRow base e k v (l ++ [t]).length (flat cs (l ++ [t])) := by
  rw [flat_snoc, ht]; simpa using h
theorem own_stored {α : Type} {cs : α → List Value} {k : Nat} (hk : ∀ t, (cs t).length = k) (d : α) {w : World} {base : Nat} {e : TypeId} {g cap : Nat} {l : List α} (h : w.ownsRow base e k (.slice (some ⟨g, 0, none⟩) l.length cap) l.length (flat cs l)) (i j : Nat) (hi : i < l.length) (hj : j < k) (t : α) (u : Value) (ht : cs t = (cs (l.getD i d)).set j u) :
    (w.setCell ⟨g, i * k + j, none⟩ u).ownsRow base e k (.slice (some ⟨g, 0, none⟩) l.length cap) (l.set i t).length (flat cs (l.set i t)) := by
  rw [← flat_set hk d l i j hi hj t u ht, List.length_set]; exact (h.stored _ _).1
theorem ownBlock_nil : (Value.slice none 0 0).ownBlock = none := rfl
theorem own_below {w w' : World} {base : Nat} {e : TypeId} {size : Nat} {v : Value} {n : Nat} {xs : List Value} (h : w.ownsRow base e size v n xs) (hb : Below w.heap.size w w') : w'.ownsRow base e size v n xs :=
  h.kept (row := none) ⟨hb.os, hb.tape, hb.output, hb.size, fun k hk _ => hb.block k hk⟩ (by
    rcases h.2 with ⟨rfl, _⟩ | ⟨g, cap, cur, rfl, _⟩
    · exact .inl rfl
    · exact .inr (by simp [Value.ownBlock]))
theorem own_drN {w : World} {base : Nat} {e : TypeId} {size : Nat} {v : Value} {n : Nat} {xs : List Value} (h : w.ownsRow base e size v n xs) (k : Nat) : (w.drewN k).ownsRow base e size v n xs := own_below h (bel_drN (bel_refl w) k)
theorem own_lt {w : World} {base : Nat} {e : TypeId} {size : Nat} {v : Value} {n : Nat} {xs : List Value} {g : Nat} (h : w.ownsRow base e size v n xs) (hg : v.ownBlock = some g) : base ≤ g ∧ g < w.heap.size := h.lt g hg
/-- a value that owns a list of elements, laid open -/
theorem own_open {α : Type} {cs : α → List Value} {k : Nat} (hk : ∀ t, (cs t).length = k) (d : α) {w : World} {base : Nat} {e : TypeId} {v : Value} {l : List α} (h : w.ownsRow base e k v l.length (flat cs l)) :
    ∃ A cap, v = .slice A l.length cap ∧ l.length ≤ cap ∧ cap ≤ maxLen ∧ (0 < l.length → ∃ g, A = some ⟨g, 0, none⟩ ∧ base ≤ g ∧ g < w.heap.size ∧ (∀ o, w.frozen? ⟨g, o, none⟩ = false) ∧ ∀ i j, i < l.length → j < k → w.cell? ⟨g, i * k + j, none⟩ = (cs (l.getD i d))[j]?) := by
  rcases h.2 with ⟨rfl, h0⟩ | ⟨g, cap, cur, rfl, hb, hg, hnc, hcm, hcs, ht⟩
  · exact ⟨none, 0, by rw [h0], by omega, by simp [maxLen], fun hl => by omega⟩
  · refine ⟨_, cap, rfl, hnc, hcm, fun hl => ⟨g, rfl, hb, (own_lt h rfl).2, fun o => h.frozenAt o, fun i j hi hj => ?_⟩⟩
    rw [h.cellAt _ ?_, flat_get hk d l i j hi hj]
    have h1 : (i + 1) * k ≤ l.length * k := Nat.mul_le_mul_right k (by omega)
    rw [Nat.add_mul] at h1
    omega
theorem bel_grown {W w w1 : World} {row : Option Nat} (h : Below W.heap.size W w) (hg : w.grownBy w1 row) (hr : ∀ k, row = some k → W.heap.size ≤ k) : Below W.heap.size W w1 := h.grown hg h.size hr
theorem grown_cell {w w1 : World} {row : Option Nat} (hg : w.grownBy w1 row) {a : Addr} {v : Value} (h : w.cell? a = some v) (hne : row ≠ some a.block) : w1.cell? a = some v := hg.cell h (Ne.symm hne)
theorem grown_far {w w1 : World} {row : Option Nat} (hg : w.grownBy w1 row) (b o : Nat) (h : b < w.heap.size) (hne : row ≠ some b) : w1.cell? ⟨b, o, none⟩ = w.cell? ⟨b, o, none⟩ := World.cell?_of_block (w := w) (a := ⟨b, o, none⟩) (hg.block b h (Ne.symm hne))
theorem grown_row {w w1 : World} {row : Option Nat} (hg : w.grownBy w1 row) {base : Nat} {e : TypeId} {size : Nat} {v : Value} {n : Nat} {xs : List Value} (h : w.ownsRow base e size v n xs) (hne : v.ownBlock = none ∨ v.ownBlock ≠ row) : w1.ownsRow base e size v n xs := h.kept hg hne
end Go.Proofs.Ytaieamobjbckdaa
