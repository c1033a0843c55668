/- A slice of Note that came in reads as a list. -/
import Derived.Test.YtelbmiplmbgcdaaOpen
import Derived.Test.YtelbmiplmbgcdaaRowNt
namespace Go.Proofs.Ytelbmiplmbgcdaa
set_option linter.unusedSimpArgs false
set_option linter.unusedVariables false
open Go.ChangeShapes Go.WideShapes Go.Deep Go.RowKit

theorem list6_of {α : Type} {l : List α} (h : l.length = 6) : ∃ v0 v1 v2 v3 v4 v5, l = [v0, v1, v2, v3, v4, v5] := by
  match l, h with
  | [v0, v1, v2, v3, v4, v5], _ => exact ⟨v0, v1, v2, v3, v4, v5, rfl⟩
theorem rowNt_of {H : Type} {enc : TypeId × Value → H} {W : World} {a : Option Addr} {len cap : Nat} {d : DataW H} {p : List MemPlace}
    (h : DataW.Trod enc Try.prog W 0 (fun _ => true) true 22 (.slice a len cap) d p) :
    ∃ l : List Nt, l.length = len ∧ len ≤ cap ∧ cap ≤ maxLen ∧ RowNt W W.heap.size a l := by
  obtain ⟨fuel, hf⟩ := h
  have hC : Try.prog.cellsOf 65 = 6 := by kernel_rfl
  have hc_bool : Try.prog.cellsOf 4 = 1 := by kernel_rfl
  have hc_int : Try.prog.cellsOf 3 = 1 := by kernel_rfl
  have hc_Pitch : Try.prog.cellsOf 63 = 3 := by kernel_rfl
  rcases open_slice Try.underlying22 hf with ⟨hcs, _⟩ | ⟨x, len', cap', m, fu, D, Pl, hcs, hb, hl, hm, hmm, hx, hi⟩
  · simp [Value.cells] at hcs
    obtain ⟨rfl, rfl, rfl⟩ := hcs
    exact ⟨[], rfl, Nat.le_refl _, by simp [maxLen], fun h => absurd h (by simp)⟩
  · simp [Value.cells] at hcs
    obtain ⟨rfl, rfl, rfl⟩ := hcs
    have hmc : m = cap := by simpa using hmm
    subst hmc
    have hcell : ∀ i, i < len → ∃ t : Nt, W.cell? (x.add (i * 6 + 0)) = some (.bool t.rest) ∧ W.cell? (x.add (i * 6 + 1)) = some (.int .i64 t.step) ∧ W.cell? (x.add (i * 6 + 2)) = some (.int .i64 t.alter) ∧ W.cell? (x.add (i * 6 + 3)) = some (.int .i64 t.octave) ∧ W.cell? (x.add (i * 6 + 4)) = some (.int .i64 t.ticks) ∧ W.cell? (x.add (i * 6 + 5)) = some (.bool t.tied) := by
      intro i hil
      obtain ⟨cs', hc, ht⟩ := hi i (by omega)
      rw [hC] at hc
      obtain ⟨xs, n, _, _, hlen, hxl, hff⟩ := DataW.trod_struct Try.underlying65 ht
      obtain ⟨_, hcl, hat⟩ := World.cells?_some hc
      clear ht hi hf
      have hxl : xs.length = 4 := hxl
      obtain ⟨v0, v1, v2, v3, v4, v5, rfl⟩ : ∃ v0 v1 v2 v3 v4 v5, cs' = [v0, v1, v2, v3, v4, v5] := list6_of hcl
      have h0 := hff 0 _ rfl
      rw [List.getElem?_eq_getElem (show 0 < xs.length by omega)] at h0
      have h0 : DataW.trod enc Try.prog W 0 (fun _ => true) true n 4 (([v0, v1, v2, v3, v4, v5].drop 0).take (Try.prog.cellsOf 4)) = some _ := h0
      rw [hc_bool] at h0
      obtain ⟨n0, e0, _⟩ := DataW.trod_bool Try.underlying4 h0
      have e0 : v0 = .bool n0 := by simpa using e0
      subst e0
      have h1 := hff 1 _ rfl
      rw [List.getElem?_eq_getElem (show 1 < xs.length by omega)] at h1
      have h1 : DataW.trod enc Try.prog W 0 (fun _ => true) true n 63 (([(.bool n0), v1, v2, v3, v4, v5].drop 1).take (Try.prog.cellsOf 63)) = some _ := h1
      rw [hc_Pitch] at h1
      obtain ⟨ys, n', _, _, _, hyl, hg⟩ := DataW.trod_struct Try.underlying63 h1
      have hyl : ys.length = 3 := hyl
      have g0 := hg 0 _ rfl
      rw [List.getElem?_eq_getElem (show 0 < ys.length by omega)] at g0
      have g0 : DataW.trod enc Try.prog W 0 (fun _ => true) true n' 3 (((([(.bool n0), v1, v2, v3, v4, v5].drop 1).take 3).drop 0).take (Try.prog.cellsOf 3)) = some _ := g0
      rw [hc_int] at g0
      obtain ⟨n1, e1, _, _⟩ := DataW.trod_int Try.underlying3 g0
      have e1 : v1 = .int .i64 n1 := by simpa using e1
      subst e1
      have g1 := hg 1 _ rfl
      rw [List.getElem?_eq_getElem (show 1 < ys.length by omega)] at g1
      have g1 : DataW.trod enc Try.prog W 0 (fun _ => true) true n' 3 (((([(.bool n0), (.int .i64 n1), v2, v3, v4, v5].drop 1).take 3).drop 1).take (Try.prog.cellsOf 3)) = some _ := g1
      rw [hc_int] at g1
      obtain ⟨n2, e2, _, _⟩ := DataW.trod_int Try.underlying3 g1
      have e2 : v2 = .int .i64 n2 := by simpa using e2
      subst e2
      have g2 := hg 2 _ rfl
      rw [List.getElem?_eq_getElem (show 2 < ys.length by omega)] at g2
      have g2 : DataW.trod enc Try.prog W 0 (fun _ => true) true n' 3 (((([(.bool n0), (.int .i64 n1), (.int .i64 n2), v3, v4, v5].drop 1).take 3).drop 2).take (Try.prog.cellsOf 3)) = some _ := g2
      rw [hc_int] at g2
      obtain ⟨n3, e3, _, _⟩ := DataW.trod_int Try.underlying3 g2
      have e3 : v3 = .int .i64 n3 := by simpa using e3
      subst e3
      have h2 := hff 2 _ rfl
      rw [List.getElem?_eq_getElem (show 2 < xs.length by omega)] at h2
      have h2 : DataW.trod enc Try.prog W 0 (fun _ => true) true n 3 (([(.bool n0), (.int .i64 n1), (.int .i64 n2), (.int .i64 n3), v4, v5].drop 4).take (Try.prog.cellsOf 3)) = some _ := h2
      rw [hc_int] at h2
      obtain ⟨n4, e4, _, _⟩ := DataW.trod_int Try.underlying3 h2
      have e4 : v4 = .int .i64 n4 := by simpa using e4
      subst e4
      have h3 := hff 3 _ rfl
      rw [List.getElem?_eq_getElem (show 3 < xs.length by omega)] at h3
      have h3 : DataW.trod enc Try.prog W 0 (fun _ => true) true n 4 (([(.bool n0), (.int .i64 n1), (.int .i64 n2), (.int .i64 n3), (.int .i64 n4), v5].drop 5).take (Try.prog.cellsOf 4)) = some _ := h3
      rw [hc_bool] at h3
      obtain ⟨n5, e5, _⟩ := DataW.trod_bool Try.underlying4 h3
      have e5 : v5 = .bool n5 := by simpa using e5
      subst e5
      refine ⟨⟨n0, n1, n2, n3, n4, n5⟩, ?_, ?_, ?_, ?_, ?_, ?_⟩
      · have := hat 0 (by omega)
        rw [add_add] at this
        rw [this]; rfl
      · have := hat 1 (by omega)
        rw [add_add] at this
        rw [this]; rfl
      · have := hat 2 (by omega)
        rw [add_add] at this
        rw [this]; rfl
      · have := hat 3 (by omega)
        rw [add_add] at this
        rw [this]; rfl
      · have := hat 4 (by omega)
        rw [add_add] at this
        rw [this]; rfl
      · have := hat 5 (by omega)
        rw [add_add] at this
        rw [this]; rfl
    obtain ⟨l, hll, hq⟩ := list_of (⟨false, 0, 0, 0, 0, false⟩ : Nt) _ len hcell
    refine ⟨l, hll, hl, hm, fun h0 => ?_⟩
    obtain ⟨b, off, spot⟩ := x
    have hs : spot = none := by
      have := (hq 0 (by omega)).1
      simpa [Addr.add] using World.cell?_spot this
    subst hs
    have ha : ∀ n : Nat, (⟨b, off, none⟩ : Addr).add n = ⟨b, off + n, none⟩ := fun n => by
      unfold Addr.add; by_cases e : n = 0 <;> simp [e]
    simp only [ha] at hq
    refine ⟨b, off, rfl, by simpa using World.block_lt_of_cell? _ _ (hq 0 (by omega)).1, fun i hi => ?_⟩
    have := hq i (by omega)
    simpa [Nat.add_assoc, atNt] using this
end Go.Proofs.Ytelbmiplmbgcdaa
