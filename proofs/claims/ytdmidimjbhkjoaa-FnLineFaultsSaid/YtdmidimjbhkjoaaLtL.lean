/- The program's table of lines: it is made whole. -/
import Derived.Test.YtdmidimjbhkjoaaKt
import Derived.Test.YtdmidimjbhkjoaaTab
import Derived.Deep.DeepCutAuto
import Derived.Test.YtdmidimjbhkjoaaInv
namespace Go.Proofs.Ytdmidimjbhkjoaa
set_option linter.unusedSimpArgs false
set_option linter.unusedVariables false
open Go.RowKit

theorem infoI : (Try.prog.info? 3).map (fun i => (i.zero, i.size, i.bytes)) = some (some (.int .i64 0), 1, 8) := by kernel_rfl
theorem infoIS : (Try.prog.info? 55).map (fun i => (i.zero, i.size, i.bytes)) = some (some (.slice none 0 0), 1, 24) := by kernel_rfl
theorem made_one {z : Value} {n i : Nat} (hz : z.cells = #[z]) (hi : i < n) : (madeCells z.cells (n * 1)).toList[i]? = some z := by
  rw [hz]
  simp [madeCells, Nat.mod_one, hi]
theorem step_make {P : Program} {ops : Array Oper} {Q : Exit → Act → World → Prop} {i : Nat} {o : Oper} {K : Act → World → Prop} {a : Act} {w : World} (ho : ops[i]? = some o) (hg : o.guard = none) (l c : Operand) (t : TypeId) (hop : o.op = Op.makeSlice t l c) (e : TypeId) (inf : TypeInfo) (z : Value)
    (h1 : P.underlying t = some (.slice e)) (h2 : P.info? e = some inf) (h3 : inf.zero = some z) (h4 : inf.size = 1) (n : Nat) (hl : a.eval l = .int .i64 n) (hc : a.eval c = .int .i64 n) (b2 : inf.bytes * n ≤ 281474976710656) (b3 : n ≤ maxLen) (hz : z.cells = #[z])
    (h : ∀ K' : Act → World → Prop, (∀ a w, K a w → K' a w) → ∀ (w' : World) (r : Array Value), Below w.heap.size w w' → Blk w' w.heap.size r e → r.size = n → (∀ j, j < n → r[j]? = some z) → K' (a.put o.dst (.slice (some ⟨w.heap.size, 0, none⟩) n n)) w') : wpOp P ops Q i K a w := by
  refine wpOp_step ho (fun K' hK => ?_)
  have hw : Region.wanted o (yielded ops a.tmps) = true := by unfold Region.wanted; rw [hg]
  rw [if_pos hw]
  obtain ⟨w', hrun, r1, r2⟩ := run_make_full (P := P) (w := w) w.heap.size t e inf z 1 h1 h2 h3 h4 .i64 .i64 n b2 b3 (Nat.le_refl _)
  obtain ⟨_, r, hb, hs, hr⟩ := own_blk r1
  unfold Oper.wp
  simp [execOp, hop, hl, hc, hrun, Result.andThen]
  exact h K' hK w' r (bel_grown (bel_refl w) r2 (fun k e => by cases e)) hb hs (fun j hj => by rw [hr j hj]; exact made_one hz hj)
def FTn (lo : Nat) (T : List Pi) (W : World) (u : Value) : Prop := ∃ (AT : Option Addr) (cT : Nat), u = .slice AT T.length cT ∧ W.ownsRow lo 30 3 (.slice AT T.length cT) T.length (flat csPi T)
def FMs (lo n : Nat) (W : World) (u : Value) : Prop := ∃ (g : Nat) (r : Array Value), u = .slice (some ⟨g, 0, none⟩) n n ∧ lo ≤ g ∧ Blk W g r 55 ∧ r.size = n
def FMi (lo m : Nat) (W : World) (u : Value) : Prop := ∃ (g : Nat) (r : Array Value), u = .slice (some ⟨g, 0, none⟩) m m ∧ lo ≤ g ∧ Blk W g r 3 ∧ r.size = m ∧ ∀ j, j < m → r[j]? = some (.int .i64 0)
def FAg (f : Int) (A : Option Addr) (n c1 : Nat) (T : List Pi) (lo : Nat) (W : World) (u : Value) : Prop := ∃ (AT : Option Addr) (cT g : Nat) (r : Array Value), u = .agg #[.int .i64 f, .slice A n c1, .slice AT T.length cT, .slice (some ⟨g, 0, none⟩) n n] ∧ W.ownsRow lo 30 3 (.slice AT T.length cT) T.length (flat csPi T) ∧ lo ≤ g ∧ Blk W g r 55 ∧ r.size = n
theorem FTn.below {lo : Nat} {T : List Pi} {W W' : World} {u : Value} (h : FTn lo T W u) (hb : Below W.heap.size W W') : FTn lo T W' u := by obtain ⟨a, b, e, r⟩ := h; exact ⟨a, b, e, own_below r hb⟩
theorem FMs.below {lo n : Nat} {W W' : World} {u : Value} (h : FMs lo n W u) (hb : Below W.heap.size W W') : FMs lo n W' u := by obtain ⟨g, r, e, a, b, c⟩ := h; exact ⟨g, r, e, a, b.below hb, c⟩
theorem FMi.below {lo n : Nat} {W W' : World} {u : Value} (h : FMi lo n W u) (hb : Below W.heap.size W W') : FMi lo n W' u := by obtain ⟨g, r, e, a, b, c⟩ := h; exact ⟨g, r, e, a, b.below hb, c⟩
theorem FAg.below {f : Int} {A : Option Addr} {n c1 : Nat} {T : List Pi} {lo : Nat} {W W' : World} {u : Value} (h : FAg f A n c1 T lo W u) (hb : Below W.heap.size W W') : FAg f A n c1 T lo W' u := by obtain ⟨AT, cT, g, r, e, a, b, c, d⟩ := h; exact ⟨AT, cT, g, r, e, own_below a hb, b, c.below hb, d⟩
def opB (f : Int) (c : List Pi) (lo hi : Int) : Bool := cvB f c && decide ((0 ≤ lo ∧ lo ≤ 107) ∧ lo ≤ hi ∧ hi ≤ 107 ∧ hi - lo ≤ 30)
theorem opB_of {f : Int} {c : List Pi} {lo hi : Int} (h : opB f c lo hi = true) : cvB f c = true ∧ (0 ≤ lo ∧ lo ≤ 107) ∧ lo ≤ hi ∧ hi ≤ 107 ∧ hi - lo ≤ 30 := by
  unfold opB at h
  simp only [Bool.and_eq_true, decide_eq_true_eq] at h
  exact h
/-- a row so far: what stands at number i -/
def rowF (f : Int) (c T : List Pi) (k i0 : Nat) : Nat → Nat → Int := fun a b => if a = k ∧ i0 ≤ b then 0 else cnI f c T a (atPi T b)
theorem rowF_set {f : Int} {c T : List Pi} {k i : Nat} {v : Int} (hv : cnI f c T k (atPi T i) = v) : ∀ a b, (if a = k ∧ b = i then v else rowF f c T k i a b) = rowF f c T k (i + 1) a b := fun a b => by
  unfold rowF
  by_cases e : a = k
  · subst e
    by_cases e2 : b = i
    · subst e2
      rw [if_pos ⟨rfl, rfl⟩, if_neg (by omega)]
      exact hv.symm
    · rw [if_neg (fun h => e2 h.2)]
      by_cases e3 : i ≤ b
      · rw [if_pos ⟨rfl, e3⟩, if_pos ⟨rfl, by omega⟩]
      · rw [if_neg (fun h => e3 h.2), if_neg (fun h => by omega)]
  · rw [if_neg (fun h => e h.1), if_neg (fun h => e h.1), if_neg (fun h => e h.1)]
theorem own_rowT {w : World} {base : Nat} {e : TypeId} {AT : Option Addr} {cT : Nat} {T : List Pi} (h : w.ownsRow base e 3 (.slice AT T.length cT) T.length (flat csPi T)) : RowPi w w.heap.size AT T := by
  obtain ⟨A, c, e, _, _, h, _⟩ := own_rowPi h
  cases e
  exact h
theorem blk_ne {w : World} {P Q : Nat} {c d : Array Value} {T U : TypeId} (h : Blk w P c T) (k : Blk w Q d U) (hne : T ≠ U) : P ≠ Q := by
  intro e
  subst e
  unfold Blk at h k
  rw [h] at k
  simp only [Option.some.injEq, Obj.cells.injEq] at k
  exact hne k.2.1
theorem tab_rowblk {w : World} {base G n m lo : Nat} {F : Nat → Nat → Int} (h : Tab w base G n m lo F) (k : Nat) (hl : lo ≤ k) (hk : k < n) {r : Nat} (hr : w.cell? ⟨G, k, none⟩ = some (.slice (some ⟨r, 0, none⟩) m m)) : ∃ d : Array Value, Blk w r d 3 := by
  obtain ⟨h0, R, ⟨o, h1, h2, h3⟩, h4, h5⟩ := h
  rw [Blk.cell h1, h3 k hl hk] at hr
  simp only [Option.some.injEq, Value.slice.injEq, Addr.mk.injEq, and_true] at hr
  obtain ⟨x, y, rr, z, u, vv⟩ := h4 k hl hk
  have hr' : R k = r := hr
  subst hr'
  exact ⟨rr, z⟩
theorem rowF_skip {f : Int} {c T : List Pi} {k i : Nat} (hv : cnI f c T k (atPi T i) = 0) (a b : Nat) : rowF f c T k i a b = rowF f c T k (i + 1) a b := by
  have h := rowF_set (f := f) (c := c) (T := T) (k := k) (i := i) hv a b
  rw [← h]
  unfold rowF
  by_cases e : a = k ∧ b = i
  · rw [if_pos e, if_pos ⟨e.1, by omega⟩]
  · rw [if_neg e]
end Go.Proofs.Ytdmidimjbhkjoaa
