/- A table of numbers that the call itself has made: a slice of slices of int. How it lives on, what its cells hold. -/
import Derived.Test.YtdmidimjbhkjoaaBa
import Derived.OwnWalk
namespace Go.Proofs.Ytdmidimjbhkjoaa
set_option linter.unusedSimpArgs false
set_option linter.unusedVariables false
open Go.RowKit

/-- block G holds n slices of m numbers each; from row lo on they read as F -/
def Tab (w : World) (base G n m lo : Nat) (F : Nat → Nat → Int) : Prop :=
  base ≤ G ∧ ∃ R : Nat → Nat, (∃ o : Array Value, Blk w G o 55 ∧ n ≤ o.size ∧ ∀ k, lo ≤ k → k < n → o[k]? = some (.slice (some ⟨R k, 0, none⟩) m m)) ∧
    (∀ k, lo ≤ k → k < n → base ≤ R k ∧ R k ≠ G ∧ ∃ r : Array Value, Blk w (R k) r 3 ∧ r.size = m ∧ ∀ i, i < m → r[i]? = some (.int .i64 (F k i))) ∧
    (∀ j k, lo ≤ j → j < k → k < n → R j ≠ R k)
theorem Tab.below {w w' : World} {base G n m lo : Nat} {F : Nat → Nat → Int} (h : Tab w base G n m lo F) (hb : Below w.heap.size w w') : Tab w' base G n m lo F := by
  obtain ⟨h0, R, ⟨o, h1, h2, h3⟩, h4, h5⟩ := h
  exact ⟨h0, R, ⟨o, h1.below hb, h2, h3⟩, fun k a b => by obtain ⟨x, y, r, z, u⟩ := h4 k a b; exact ⟨x, y, r, z.below hb, u⟩, h5⟩
theorem Tab.cong {w : World} {base G n m lo : Nat} {F F' : Nat → Nat → Int} (h : Tab w base G n m lo F) (e : ∀ k i, lo ≤ k → k < n → i < m → F k i = F' k i) : Tab w base G n m lo F' := by
  obtain ⟨h0, R, h1, h4, h5⟩ := h
  exact ⟨h0, R, h1, fun k a b => by obtain ⟨x, y, r, z, u, v⟩ := h4 k a b; exact ⟨x, y, r, z, u, fun i hi => by rw [← e k i a b hi]; exact v i hi⟩, h5⟩
/-- a row and a number in it -/
theorem Tab.row {w : World} {base G n m lo : Nat} {F : Nat → Nat → Int} (h : Tab w base G n m lo F) (k : Nat) (hl : lo ≤ k) (hk : k < n) :
    ∃ r : Nat, w.cell? ⟨G, k, none⟩ = some (.slice (some ⟨r, 0, none⟩) m m) ∧ base ≤ r ∧ r < w.heap.size ∧ G < w.heap.size ∧ (∀ o, w.frozen? ⟨r, o, none⟩ = false) ∧ ∀ i, i < m → w.cell? ⟨r, i, none⟩ = some (.int .i64 (F k i)) := by
  obtain ⟨h0, R, ⟨o, h1, h2, h3⟩, h4, h5⟩ := h
  obtain ⟨x, y, r, z, u, v⟩ := h4 k hl hk
  exact ⟨R k, by rw [Blk.cell h1]; exact h3 k hl hk, x, z.lt, h1.lt, fun o => z.free o, fun i hi => by rw [Blk.cell z]; exact v i hi⟩
/-- a number is stored -/
theorem Tab.set {w : World} {base G n m lo : Nat} {F : Nat → Nat → Int} (h : Tab w base G n m lo F) (k i : Nat) (hl : lo ≤ k) (hk : k < n) (hi : i < m) (v : Int) {r : Nat} (hr : w.cell? ⟨G, k, none⟩ = some (.slice (some ⟨r, 0, none⟩) m m)) :
    Tab (w.setCell ⟨r, i, none⟩ (.int .i64 v)) base G n m lo (fun a b => if a = k ∧ b = i then v else F a b) := by
  obtain ⟨h0, R, ⟨o, h1, h2, h3⟩, h4, h5⟩ := h
  rw [Blk.cell h1, h3 k hl hk] at hr
  simp only [Option.some.injEq, Value.slice.injEq, Addr.mk.injEq, and_true] at hr
  obtain ⟨x, y, rr, z, u, vv⟩ := h4 k hl hk
  have hr' : R k = r := hr
  subst hr'
  refine ⟨h0, R, ⟨o, h1.off (fun e => y e.symm) _, h2, h3⟩, fun a ha hb => ?_, h5⟩
  by_cases e : a = k
  · subst e
    refine ⟨x, y, _, z.set i _, by simpa using u, fun j hj => ?_⟩
    by_cases ej : j = i
    · subst ej
      dsimp only
      rw [if_pos ⟨rfl, rfl⟩]
      simp [u, hi]
    · dsimp only
      rw [if_neg (fun c => ej c.2), Array.getElem?_setIfInBounds_ne (Ne.symm ej)]
      exact vv j hj
  · obtain ⟨x', y', r', z', u', v'⟩ := h4 a ha hb
    have hne : R a ≠ R k := by
      rcases Nat.lt_or_ge a k with hlt | hge
      · exact h5 a k ha hlt hk
      · exact (h5 k a hl (by omega) hb).symm
    refine ⟨x', y', r', z'.off hne _, u', fun j hj => ?_⟩
    dsimp only
    rw [if_neg (fun c => e c.1)]
    exact v' j hj
/-- a row is made and laid in -/
theorem Tab.lay {w : World} {base G n m lo : Nat} {F : Nat → Nat → Int} (h : Tab w base G n m (lo + 1) F) (hl : lo < n) {g : Nat} {r : Array Value} (hb : Blk w g r 3) (hg : base ≤ g) (hr : r.size = m) (hz : ∀ i, i < m → r[i]? = some (.int .i64 0))
    (hne : g ≠ G) (hnew : ∀ k q, lo < k → k < n → w.cell? ⟨G, k, none⟩ = some (.slice (some ⟨q, 0, none⟩) m m) → q ≠ g) :
    Tab (w.setCell ⟨G, lo, none⟩ (.slice (some ⟨g, 0, none⟩) m m)) base G n m lo (fun a b => if a = lo then 0 else F a b) := by
  obtain ⟨h0, R, ⟨o, h1, h2, h3⟩, h4, h5⟩ := h
  refine ⟨h0, fun k => if k = lo then g else R k, ⟨_, h1.set lo _, by simpa using h2, fun k ha hk => ?_⟩, fun k ha hk => ?_, fun j k hj hjk hk => ?_⟩
  · by_cases e : k = lo
    · subst e
      dsimp only
      rw [if_pos rfl]
      simp [show k < o.size from by omega]
    · dsimp only
      rw [if_neg e, Array.getElem?_setIfInBounds_ne (Ne.symm e)]
      exact h3 k (by omega) hk
  · show base ≤ (if k = lo then g else R k) ∧ (if k = lo then g else R k) ≠ G ∧ ∃ r : Array Value, Blk _ (if k = lo then g else R k) r _ ∧ _
    by_cases e : k = lo
    · rw [if_pos e]
      refine ⟨hg, hne, r, hb.off hne _, hr, fun i hi => ?_⟩
      dsimp only
      rw [if_pos e]
      exact hz i hi
    · rw [if_neg e]
      obtain ⟨x', y', r', z', u', v'⟩ := h4 k (by omega) hk
      refine ⟨x', y', r', z'.off y' _, u', fun i hi => ?_⟩
      dsimp only
      rw [if_neg e]
      exact v' i hi
  · show (if j = lo then g else R j) ≠ (if k = lo then g else R k)
    have hk' : k ≠ lo := by omega
    rw [if_neg hk']
    by_cases e : j = lo
    · rw [if_pos e]
      exact (hnew k (R k) (by omega) hk (by rw [Blk.cell h1]; exact h3 k (by omega) hk)).symm
    · rw [if_neg e]
      exact h5 j k (by omega) hjk hk
theorem Tab.up {w : World} {base G n m lo lo' : Nat} {F : Nat → Nat → Int} (h : Tab w base G n m lo F) (hl : lo ≤ lo') : Tab w base G n m lo' F := by
  obtain ⟨h0, R, ⟨o, h1, h2, h3⟩, h4, h5⟩ := h
  exact ⟨h0, R, ⟨o, h1, h2, fun k a b => h3 k (by omega) b⟩, fun k a b => h4 k (by omega) b, fun j k a b c => h5 j k (by omega) b c⟩
theorem own_lo {w : World} {base base' : Nat} {e : TypeId} {size : Nat} {v : Value} {n : Nat} {xs : List Value} (h : w.ownsRow base e size v n xs) (hb : base' ≤ base) : w.ownsRow base' e size v n xs :=
  ⟨h.1, h.2.imp id (fun ⟨g, cap, cur, e, hg, r⟩ => ⟨g, cap, cur, e, Nat.le_trans hb hg, r⟩)⟩
theorem Tab.blk {w : World} {base G n m lo : Nat} {F : Nat → Nat → Int} (h : Tab w base G n m lo F) : ∃ o : Array Value, Blk w G o 55 := by
  obtain ⟨_, R, ⟨o, h1, _⟩, _⟩ := h
  exact ⟨o, h1⟩
theorem Tab.lt {w : World} {base G n m lo : Nat} {F : Nat → Nat → Int} (h : Tab w base G n m lo F) : base ≤ G ∧ G < w.heap.size ∧ (∀ o, w.frozen? ⟨G, o, none⟩ = false) ∧ ∀ k, k < n → ∃ v, w.cell? ⟨G, k, none⟩ = some v := by
  obtain ⟨h0, R, ⟨o, h1, h2, h3⟩, _⟩ := h
  exact ⟨h0, h1.lt, fun o => h1.free o, fun k hk => by rw [Blk.cell h1]; exact ⟨_, Array.getElem?_eq_getElem (by omega)⟩⟩
/-- a row that owns its cells, as a block -/
theorem own_blk {w : World} {base : Nat} {e : TypeId} {g n : Nat} {xs : List Value} (h : w.ownsRow base e 1 (.slice (some ⟨g, 0, none⟩) n n) n xs) : base ≤ g ∧ ∃ r : Array Value, Blk w g r e ∧ r.size = n ∧ ∀ i, i < n → r[i]? = xs[i]? := by
  rcases h.2 with ⟨h, _⟩ | ⟨g', cap, cur, h1, hb, hg, _, _, hs, ht⟩
  · cases h
  · cases h1
    refine ⟨hb, cur, hg, by omega, fun i hi => ?_⟩
    rw [← ht, List.getElem?_take_of_lt (by omega)]
    simp
theorem tab_start {w : World} {base G n m : Nat} {o : Array Value} {F : Nat → Nat → Int} (hb : Blk w G o 55) (hg : base ≤ G) (hn : o.size = n) : Tab w base G n m n F :=
  ⟨hg, fun _ => 0, ⟨o, hb, by omega, fun k a b => by omega⟩, fun k a b => by omega, fun j k a b c => by omega⟩
end Go.Proofs.Ytdmidimjbhkjoaa
