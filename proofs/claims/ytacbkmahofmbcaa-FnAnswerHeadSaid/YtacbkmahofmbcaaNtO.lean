/- Slices of notes that are appended whole; an append of nothing. -/
import Derived.Test.YtacbkmahofmbcaaShR
import Derived.Test.YtacbkmahofmbcaaAnsP
import Derived.Deep.Upon
import Derived.Deep.AppendSrc
import Derived.Deep.AppendLies
namespace Go.Proofs.Ytacbkmahofmbcaa
set_option linter.unusedSimpArgs false
set_option linter.unusedVariables false
open Go.RowKit

theorem wpList_append_none {P : Program} {ops : Array Oper} {rest : List Oper} {o : Oper} {a : Act} {w : World} {Q : Exit → Act → World → Prop} (hgd : o.guard = none) (s x : Operand) (t : TypeId)
    (ho : o.op = .call { callee := .builtin .append, args := #[s, x], argTypes := #[t, t] }) (e : TypeId) (i : TypeInfo) (ht : P.underlying t = some (.slice e)) (hi : P.info? e = some i)
    (base A : Option Addr) (n cap c : Nat) (hle : n ≤ cap) (hs : a.eval s = .slice base n cap) (hx : a.eval x = .slice A 0 c)
    (h : wpList P ops Q rest (a.put o.dst (.slice base n cap)) w) : wpList P ops Q (o :: rest) a w :=
  wpList_plain hgd fun _ hK => by
    have hsrc : Src P i.size t (.slice A 0 c) 0 [] w := by
      cases A with
      | none => exact Src.ofNil w ht c
      | some ad => exact Src.ofSlice w ht ad 0 c [] (by simp) (fun j u hu => by simp at hu) (fun u hu => by cases hu)
    have hr := run_append_nothing (P := P) w t t o.type e i ht hi base n cap hle _ hsrc
    unfold Oper.wp execOp
    simp only [ho, resolve, invoke, builtin, Sem.run_bind, Sem.run_pure, Result.andThen_ok, List.map_toArray, List.map_cons, List.map_nil, hs, hx, hr]
    exact hK _ _ h
theorem flatNt_one (l : List Nt) : ∀ u ∈ flat csNt l, u.oneCell' = true := by
  intro u hu
  simp only [flat, List.mem_flatMap, csNt, List.mem_cons, List.not_mem_nil, or_false] at hu
  obtain ⟨t, _, rfl | rfl | rfl | rfl | rfl | rfl⟩ := hu <;> rfl
theorem rowNt_news {w : World} {B b off : Nat} {l : List Nt} (h : RowNt w B (some ⟨b, off, none⟩) l) : ∀ j u, (flat csNt l)[j]? = some u → w.cell? ((⟨b, off, none⟩ : Addr).add j) = some u := by
  intro j u hu
  have hj : j < l.length * 6 := by
    rw [← flat_len csNt_len l]
    rcases Nat.lt_or_ge j (flat csNt l).length with h | h
    · exact h
    · rw [List.getElem?_eq_none h] at hu; cases hu
  obtain ⟨b', off', e, _, hc⟩ := h (by omega)
  simp only [Option.some.injEq, Addr.mk.injEq, and_true] at e
  obtain ⟨rfl, rfl⟩ := e
  have ha : (⟨b, off, none⟩ : Addr).add j = ⟨b, off + j, none⟩ := by unfold Addr.add; by_cases e : j = 0 <;> simp [e]
  obtain ⟨c0, c1, c2, c3, c4, c5⟩ := hc (j / 6) (by omega)
  have hg := flat_get csNt_len ⟨false, 0, 0, 0, 0, false⟩ l (j / 6) (j % 6) (by omega) (by omega)
  rw [show j / 6 * 6 + j % 6 = j from by omega, hu] at hg
  rw [ha]
  rcases (show j % 6 = 0 ∨ j % 6 = 1 ∨ j % 6 = 2 ∨ j % 6 = 3 ∨ j % 6 = 4 ∨ j % 6 = 5 from by omega) with e | e | e | e | e | e
  · rw [e] at hg; rw [show off + j = off + j / 6 * 6 from by omega, c0]; simpa [csNt, atNt] using hg.symm
  · rw [e] at hg; rw [show off + j = off + j / 6 * 6 + 1 from by omega, c1]; simpa [csNt, atNt] using hg.symm
  · rw [e] at hg; rw [show off + j = off + j / 6 * 6 + 2 from by omega, c2]; simpa [csNt, atNt] using hg.symm
  · rw [e] at hg; rw [show off + j = off + j / 6 * 6 + 3 from by omega, c3]; simpa [csNt, atNt] using hg.symm
  · rw [e] at hg; rw [show off + j = off + j / 6 * 6 + 4 from by omega, c4]; simpa [csNt, atNt] using hg.symm
  · rw [e] at hg; rw [show off + j = off + j / 6 * 6 + 5 from by omega, c5]; simpa [csNt, atNt] using hg.symm
theorem at_drop1Nt (l : List Nt) (i : Nat) : atNt (l.drop 1) i = atNt l (i + 1) := by unfold atNt; rw [List.getD_eq_getElem?_getD, List.getD_eq_getElem?_getD, List.getElem?_drop, Nat.add_comm]
theorem rowNt_drop {w : World} {B b off : Nat} {l : List Nt} (h : RowNt w B (some ⟨b, off, none⟩) l) : RowNt w B (some ⟨b, off + 6, none⟩) (l.drop 1) := by
  intro hl
  rw [List.length_drop] at hl
  obtain ⟨b', off', e, hb, hc⟩ := h (by omega)
  simp only [Option.some.injEq, Addr.mk.injEq, and_true] at e
  obtain ⟨rfl, rfl⟩ := e
  refine ⟨b, off + 6, rfl, hb, fun i hi => ?_⟩
  rw [List.length_drop] at hi
  rw [at_drop1Nt]
  have h2 := hc (i + 1) (by omega)
  rw [show off + (i + 1) * 6 = off + 6 + i * 6 from by omega] at h2
  exact h2
end Go.Proofs.Ytacbkmahofmbcaa
