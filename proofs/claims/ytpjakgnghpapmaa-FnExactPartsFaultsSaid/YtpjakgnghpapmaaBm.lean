/- Slices of slices of pitches that the laws copy, compare, mark and find again. Slices of slices of pitches: the functions of the laws that count, copy, compare and mark them. -/
import Derived.Test.YtpjakgnghpapmaaPtP
import Derived.Test.YtpjakgnghpapmaaBt
import Derived.Laws.MakeOwn
namespace Go.Proofs.Ytpjakgnghpapmaa
set_option linter.unusedSimpArgs false
set_option linter.unusedVariables false
section
open Go.RowKit

/-- only blocks from lo on and below hi have turned -/
structure Wnd (lo hi : Nat) (w w' : World) : Prop where
  os : w'.os = w.os
  tape : w'.tape = w.tape
  output : w'.output = w.output
  size : w'.heap.size = w.heap.size
  block : ∀ i, i < w.heap.size → (i < lo ∨ hi ≤ i) → w'.heap[i]? = w.heap[i]?
theorem Wnd.refl (lo hi : Nat) (w : World) : Wnd lo hi w w := ⟨rfl, rfl, rfl, rfl, fun _ _ _ => rfl⟩
theorem Wnd.trn {lo hi n : Nat} {A : Option Addr} {w a b : World} (h : Wnd lo hi w a) (t : Trn A n a b) (hA : ∀ x : Addr, 0 < n → A = some x → lo ≤ x.block ∧ x.block < hi) : Wnd lo hi w b :=
  ⟨t.os.trans h.os, t.tape.trans h.tape, t.output.trans h.output, t.size.trans h.size, fun i hi' hn => (t.block i (by rw [h.size]; exact hi') (fun h0 x hx e => by have := hA x h0 hx; omega)).trans (h.block i hi' hn)⟩
theorem Wnd.of_trn {lo hi n : Nat} {A : Option Addr} {w b : World} (t : Trn A n w b) (hA : ∀ x : Addr, 0 < n → A = some x → lo ≤ x.block ∧ x.block < hi) : Wnd lo hi w b := (Wnd.refl lo hi w).trn t hA
theorem Wnd.below {lo hi B : Nat} {w w' : World} (h : Wnd lo hi w w') (hB : B ≤ lo) (hs : B ≤ w.heap.size) : Below B w w' := ⟨h.os, h.tape, h.output, by rw [h.size]; exact Nat.le_refl _, fun i hi => h.block i (by omega) (.inl (by omega))⟩
theorem bel_wnd {lo hi : Nat} {W w w' : World} (h : Below W.heap.size W w) (t : Wnd lo hi w w') (hlo : W.heap.size ≤ lo) : Below W.heap.size W w' := h.trans (t.below hlo h.size)
theorem SLPi.wnd {w w' : World} {lo hi lo' hi' : Nat} {A : Option Addr} {l : List Pi} (h : SLPi w lo hi A l) (t : Wnd lo' hi' w w') (hd : hi ≤ lo' ∨ hi' ≤ lo) : SLPi w' lo hi A l :=
  h.keep (by rw [t.size]; exact Nat.le_refl _) fun i hi h1 h2 => t.block i hi (by omega)
theorem SLFa.wnd {w w' : World} {lo hi lo' hi' : Nat} {A : Option Addr} {l : List Fa} (h : SLFa w lo hi A l) (t : Wnd lo' hi' w w') (hd : hi ≤ lo' ∨ hi' ≤ lo) : SLFa w' lo hi A l :=
  h.keep (by rw [t.size]; exact Nat.le_refl _) fun i hi h1 h2 => t.block i hi (by omega)
theorem SLPi.off {w : World} {lo hi : Nat} {A : Option Addr} {l : List Pi} (h : SLPi w lo hi A l) {q : Addr} (hn : 0 < l.length → ∀ x, A = some x → x.block ≠ q.block) (u : Value) : SLPi (w.setCell q u) lo hi A l :=
  ⟨by simpa [World.setCell] using h.top, fun hl => by
    obtain ⟨b, off, e, h1, h2, hf, hc⟩ := h.at' hl
    have hne : b ≠ q.block := hn hl _ e
    refine ⟨b, off, e, h1, h2, fun o => fz_set (hf o), fun i hi => ?_⟩
    obtain ⟨c0, c1, c2⟩ := hc i hi
    exact ⟨keep_set c0 hne, keep_set c1 hne, keep_set c2 hne⟩⟩
theorem SLPi.wide {w : World} {lo hi lo' hi' : Nat} {A : Option Addr} {l : List Pi} (h : SLPi w lo hi A l) (h1 : lo' ≤ lo) (h2 : hi ≤ hi') (h3 : hi' ≤ w.heap.size) : SLPi w lo' hi' A l :=
  ⟨h3, fun hl => by
    obtain ⟨b, off, e, a1, a2, hf, hc⟩ := h.at' hl
    exact ⟨b, off, e, by omega, by omega, hf, hc⟩⟩
theorem SLPi.keep1 {w w' : World} {lo hi : Nat} {A : Option Addr} {l : List Pi} (h : SLPi w lo hi A l) (hs : w.heap.size ≤ w'.heap.size) (hb : 0 < l.length → ∀ x, A = some x → w'.heap[x.block]? = w.heap[x.block]?) : SLPi w' lo hi A l :=
  ⟨Nat.le_trans h.top hs, fun hl => by
    obtain ⟨b, off, e, h1, h2, hf, hc⟩ := h.at' hl
    have hbb : w'.heap[b]? = w.heap[b]? := hb hl _ e
    refine ⟨b, off, e, h1, h2, fun o => by rw [World.frozen?_of_block (w := w) (a := ⟨b, o, none⟩) hbb]; exact hf o, fun i hi => ?_⟩
    have hk : ∀ o, w'.cell? ⟨b, o, none⟩ = w.cell? ⟨b, o, none⟩ := fun o => World.cell?_of_block (w := w) (a := ⟨b, o, none⟩) hbb
    unfold CMPi
    simp only [hk]
    exact hc i hi⟩
/-- rows that lie apart from one another and from block g -/
def Apart (g : Nat) (R : Nat → Option Addr) (ll : List (List Pi)) (n : Nat) : Prop :=
  (∀ i, i < n → 0 < (atPP ll i).length → ∀ x, R i = some x → x.block ≠ g) ∧
  (∀ i j, i < j → j < n → 0 < (atPP ll i).length → 0 < (atPP ll j).length → ∀ x y, R i = some x → R j = some y → x.block ≠ y.block)
/-- a slice of slices that lies in blocks of its own, from lo on and below hi; from row k on the rows may be written -/
structure SLPQ (w : World) (lo hi : Nat) (A : Option Addr) (ll : List (List Pi)) (k : Nat) : Prop where
  top : hi ≤ w.heap.size
  at' : 0 < ll.length → ∃ b off, A = some ⟨b, off, none⟩ ∧ lo ≤ b ∧ b < hi ∧ ∃ R : Nat → Option Addr,
    (∀ i, i < ll.length → ∃ ci, w.cell? ⟨b, off + i, none⟩ = some (.slice (R i) (atPP ll i).length ci) ∧ (atPP ll i).length ≤ ci ∧ ci ≤ maxLen ∧ RowPi w hi (R i) (atPP ll i) ∧ (k ≤ i → SLPi w lo hi (R i) (atPP ll i))) ∧ Apart b R ll ll.length
abbrev SLPP (w : World) (lo hi : Nat) (A : Option Addr) (ll : List (List Pi)) : Prop := SLPQ w lo hi A ll 0
theorem SLPQ.row {w : World} {lo hi k : Nat} {A : Option Addr} {ll : List (List Pi)} (h : SLPQ w lo hi A ll k) : RowPP w w.heap.size A ll := fun hl => by
  obtain ⟨b, off, e, _, hb, R, hc, _⟩ := h.at' hl
  refine ⟨b, off, e, Nat.lt_of_lt_of_le hb h.top, fun i hi => ?_⟩
  obtain ⟨ci, h1, h2, h3, h4, _⟩ := hc i hi
  exact ⟨R i, ci, h1, h2, h3, h4.up h.top⟩
theorem SLPQ.keep {w w' : World} {lo hi k : Nat} {A : Option Addr} {ll : List (List Pi)} (h : SLPQ w lo hi A ll k) (hs : w.heap.size ≤ w'.heap.size) (hlo : k = 0) (hb : ∀ i, i < w.heap.size → lo ≤ i → i < hi → w'.heap[i]? = w.heap[i]?) : SLPQ w' lo hi A ll k :=
  ⟨Nat.le_trans h.top hs, fun hl => by
    obtain ⟨b, off, e, h1, h2, R, hc, hap⟩ := h.at' hl
    have hbb := hb b (Nat.lt_of_lt_of_le h2 h.top) h1 h2
    refine ⟨b, off, e, h1, h2, R, fun i hi => ?_, hap⟩
    obtain ⟨ci, c1, c2, c3, c4, c5⟩ := hc i hi
    have c6 := (c5 (by omega)).keep hs hb
    refine ⟨ci, by rw [World.cell?_of_block (w := w) (a := ⟨b, _, none⟩) hbb]; exact c1, c2, c3, fun h0 => ?_, fun _ => c6⟩
    obtain ⟨g, o, a1, _, a3, _, a4⟩ := c6.at' h0
    exact ⟨g, o, a1, a3, a4⟩⟩
theorem SLPQ.below {w w' : World} {lo hi : Nat} {A : Option Addr} {ll : List (List Pi)} (h : SLPQ w lo hi A ll 0) (hb : Below w.heap.size w w') : SLPQ w' lo hi A ll 0 := h.keep hb.size rfl fun i hi _ _ => hb.block i hi
theorem SLPQ.trn {w w' : World} {lo hi n : Nat} {A B : Option Addr} {ll : List (List Pi)} (h : SLPQ w lo hi A ll 0) (t : Trn B n w w') (hne : ∀ a : Addr, 0 < n → B = some a → a.block < lo ∨ hi ≤ a.block) : SLPQ w' lo hi A ll 0 :=
  h.keep (by rw [t.size]; exact Nat.le_refl _) rfl fun i hi h1 h2 => t.block i hi fun hn a ha => by have := hne a hn ha; omega
theorem SLPQ.wnd {w w' : World} {lo hi lo' hi' : Nat} {A : Option Addr} {ll : List (List Pi)} (h : SLPQ w lo hi A ll 0) (t : Wnd lo' hi' w w') (hd : hi ≤ lo' ∨ hi' ≤ lo) : SLPQ w' lo hi A ll 0 :=
  h.keep (by rw [t.size]; exact Nat.le_refl _) rfl fun i hi h1 h2 => t.block i hi (by omega)
theorem atPP_set {ll : List (List Pi)} {k : Nat} (hk : k < ll.length) (l : List Pi) (i : Nat) : atPP (ll.set k l) i = if i = k then l else atPP ll i := by
  unfold atPP
  by_cases e : i = k
  · rw [if_pos e, e, List.getD_eq_getElem?_getD, List.getElem?_set_self hk]; rfl
  · rw [if_neg e, List.getD_eq_getElem?_getD, List.getElem?_set_ne (Ne.symm e), ← List.getD_eq_getElem?_getD]
theorem atPP_set_len {ll : List (List Pi)} {k : Nat} (hk : k < ll.length) {l : List Pi} (hl : l.length = (atPP ll k).length) (i : Nat) : (atPP (ll.set k l) i).length = (atPP ll i).length := by
  rw [atPP_set hk]
  by_cases e : i = k
  · rw [if_pos e, hl, e]
  · rw [if_neg e]
/-- one row is written over -/
theorem SLPQ.wrote {w w' : World} {lo hi k : Nat} {A : Option Addr} {ll : List (List Pi)} (h : SLPQ w lo hi A ll k) (hk : k < ll.length) {b off ci : Nat} {Rk : Option Addr} (hA : A = some ⟨b, off, none⟩) (hcell : w.cell? ⟨b, off + k, none⟩ = some (.slice Rk (atPP ll k).length ci))
    (t : Trn Rk (atPP ll k).length w w') {l : List Pi} (hl : l.length = (atPP ll k).length) (hr : RowPi w' w'.heap.size Rk l) : SLPQ w' lo hi A (ll.set k l) (k + 1) :=
  ⟨by rw [t.size]; exact h.top, fun _ => by
    obtain ⟨b', off', e, h1, h2, R, hc, hap1, hap2⟩ := h.at' (by omega)
    rw [hA] at e
    simp only [Option.some.injEq, Addr.mk.injEq, and_true] at e
    obtain ⟨rfl, rfl⟩ := e
    have hRk : R k = Rk := by
      obtain ⟨c, c1, _⟩ := hc k hk
      rw [hcell] at c1
      simp only [Option.some.injEq, Value.slice.injEq] at c1
      exact c1.1.symm
    have hbs := Nat.lt_of_lt_of_le h2 h.top
    have hbb : w'.heap[b]? = w.heap[b]? := t.block b hbs (fun h0 x hx => hap1 k hk h0 x (by rw [hRk]; exact hx))
    refine ⟨b, off, hA, h1, h2, R, fun i hil => ?_, fun i hil => ?_, fun i j hij hjl => ?_⟩
    · rw [List.length_set] at hil
      obtain ⟨c, c1, c2, c3, c4, c5⟩ := hc i hil
      rw [atPP_set_len hk hl i]
      refine ⟨c, by rw [World.cell?_of_block (w := w) (a := ⟨b, _, none⟩) hbb]; exact c1, c2, c3, ?_⟩
      rw [atPP_set hk]
      by_cases e : i = k
      · subst e
        rw [if_pos rfl]
        refine ⟨fun h0 => ?_, fun hx => absurd hx (by omega)⟩
        obtain ⟨g, o, e1, a1, _⟩ := c4 (by omega)
        obtain ⟨g', o', e2, _, a4⟩ := hr h0
        rw [hRk] at e1 ⊢
        rw [e1] at e2
        simp only [Option.some.injEq, Addr.mk.injEq, and_true] at e2
        obtain ⟨rfl, rfl⟩ := e2
        exact ⟨g, o, e1, a1, a4⟩
      · rw [if_neg e]
        have hne : 0 < (atPP ll i).length → ∀ x, R i = some x → w'.heap[x.block]? = w.heap[x.block]? := fun h0 x hx => by
          obtain ⟨g, o, e1, a1, _⟩ := c4 h0
          have hx2 : x.block < hi := by rw [e1] at hx; cases hx; exact a1
          refine t.block _ (Nat.lt_of_lt_of_le hx2 h.top) fun h3 y hy e4 => ?_
          rcases Nat.lt_or_ge i k with hik | hik
          · exact hap2 i k hik hk h0 h3 x y hx (by rw [hRk]; exact hy) e4.symm
          · exact hap2 k i (by omega) hil h3 h0 y x (by rw [hRk]; exact hy) hx e4
        refine ⟨fun h0 => ?_, fun hx => (c5 (by omega)).keep1 (by rw [t.size]; exact Nat.le_refl _) hne⟩
        obtain ⟨g, o, e1, a1, a2⟩ := c4 h0
        have hg : w'.heap[g]? = w.heap[g]? := hne h0 _ e1
        refine ⟨g, o, e1, a1, fun q hq => ?_⟩
        have hkk : ∀ o, w'.cell? ⟨g, o, none⟩ = w.cell? ⟨g, o, none⟩ := fun o => World.cell?_of_block (w := w) (a := ⟨g, o, none⟩) hg
        simp only [hkk]
        exact a2 q hq
    · rw [List.length_set] at hil
      rw [atPP_set_len hk hl]
      exact hap1 i hil
    · rw [List.length_set] at hjl
      rw [atPP_set_len hk hl, atPP_set_len hk hl]
      exact hap2 i j hij hjl⟩
/-- while a slice of slices is being filled: k rows are laid in -/
structure PPs (w : World) (lo g n k : Nat) (ll : List (List Pi)) (R : Nat → Option Addr) : Prop where
  lt : lo ≤ g ∧ g < w.heap.size
  fr : ∀ o, w.frozen? ⟨g, o, none⟩ = false
  some' : ∀ o, o < n → (w.cell? ⟨g, o, none⟩).isSome = true
  row : ∀ i, i < k → w.cell? ⟨g, i, none⟩ = some (.slice (R i) (atPP ll i).length (atPP ll i).length) ∧ SLPi w lo w.heap.size (R i) (atPP ll i)
  ap : Apart g R ll k
theorem PPs.step {w w1 : World} {lo g n k : Nat} {ll : List (List Pi)} {R : Nat → Option Addr} (h : PPs w lo g n k ll R) (hk : k < n) (hb : Below w.heap.size w w1) {A : Option Addr} (hr : RowPi w1 w1.heap.size A (atPP ll k)) (ho : OwnPi w1 w.heap.size A (atPP ll k).length) :
    PPs (w1.setCell ⟨g, k, none⟩ (.slice A (atPP ll k).length (atPP ll k).length)) lo g n (k + 1) ll (fun i => if i = k then A else R i) := by
  have hs := hb.size
  have hgl := h.lt
  have hsz : (w1.setCell ⟨g, k, none⟩ (.slice A (atPP ll k).length (atPP ll k).length)).heap.size = w1.heap.size := by simp [World.setCell]
  have hsl : SLPi w1 w.heap.size w1.heap.size A (atPP ll k) := SLPi.of hr ho
  have hone : ∀ i, i < k → 0 < (atPP ll i).length → ∀ x, R i = some x → x.block < w.heap.size := fun i hi h0 x hx => ((h.row i hi).2.place h0 hx).2
  have hnew : 0 < (atPP ll k).length → ∀ x, A = some x → w.heap.size ≤ x.block := fun h0 x hx => (hsl.place h0 hx).1
  refine ⟨by rw [hsz]; omega, fun o => fz_set (by rw [hb.frozen (p := ⟨g, o, none⟩) (by simp only; omega)]; exact h.fr o), fun o ho => some_setx (by rw [hb.cell (p := ⟨g, o, none⟩) (by simp only; omega)]; exact h.some' o ho), fun i hi => ?_, fun i hi => ?_, fun i j hij hj => ?_⟩
  · by_cases e : i = k
    · subst e
      rw [if_pos rfl]
      refine ⟨set_same (by rw [hb.cell (p := ⟨g, i, none⟩) (by simp only; omega)]; exact h.some' i hk), ?_⟩
      exact ((hsl.wide (lo' := lo) (hi' := w1.heap.size) (by omega) (Nat.le_refl _) (Nat.le_refl _)).off (q := ⟨g, i, none⟩) (fun h0 x hx => by have := hnew h0 x hx; simp only; omega) _).wide (Nat.le_refl _) (by rw [hsz]; exact Nat.le_refl _) (Nat.le_refl _)
    · rw [if_neg e]
      obtain ⟨c1, c2⟩ := h.row i (by omega)
      refine ⟨keep_off (keep_tr c1 hb) (fun z => e (congrArg Addr.off z)), ?_⟩
      exact (((c2.below hb).wide (lo' := lo) (hi' := w1.heap.size) (Nat.le_refl _) hs (Nat.le_refl _)).off (q := ⟨g, k, none⟩) (fun h0 x hx => h.ap.1 i (by omega) h0 x hx) _).wide (Nat.le_refl _) (by rw [hsz]; exact Nat.le_refl _) (Nat.le_refl _)
  · intro h0 x hx
    dsimp only at hx
    by_cases e : i = k
    · subst e
      rw [if_pos rfl] at hx
      have := hnew h0 x hx; omega
    · rw [if_neg e] at hx
      exact h.ap.1 i (by omega) h0 x hx
  · intro h0 h3 x y hx hy
    dsimp only at hx hy
    rw [if_neg (by omega)] at hx
    by_cases e : j = k
    · subst e
      rw [if_pos rfl] at hy
      have := hnew h3 y hy
      have := hone i (by omega) h0 x hx
      omega
    · rw [if_neg e] at hy
      exact h.ap.2 i j hij (by omega) h0 h3 x y hx hy
theorem PPs.done {w : World} {lo g : Nat} {ll : List (List Pi)} {R : Nat → Option Addr} (h : PPs w lo g ll.length ll.length ll R) (hm : ∀ i, i < ll.length → (atPP ll i).length ≤ maxLen) : SLPP w lo w.heap.size (some ⟨g, 0, none⟩) ll :=
  ⟨Nat.le_refl _, fun _ => ⟨g, 0, rfl, h.lt.1, h.lt.2, R, fun i hi => by
    obtain ⟨c1, c2⟩ := h.row i hi
    refine ⟨_, by rw [Nat.zero_add]; exact c1, Nat.le_refl _, hm i hi, fun h0 => ?_, fun _ => c2⟩
    obtain ⟨b, o, a1, _, a3, _, a4⟩ := c2.at' h0
    exact ⟨b, o, a1, a3, a4⟩, h.ap⟩⟩
def totP (ll : List (List Pi)) : Nat → Nat
  | 0 => 0
  | k + 1 => totP ll k + (atPP ll k).length
theorem totP_mono (ll : List (List Pi)) (i : Nat) : ∀ k, i ≤ k → totP ll i ≤ totP ll k
  | 0, h => by obtain rfl : i = 0 := by omega
               exact Nat.le_refl _
  | k + 1, h => by
    by_cases e : i = k + 1
    · rw [e]; exact Nat.le_refl _
    · have := totP_mono ll i k (by omega)
      rw [show totP ll (k + 1) = totP ll k + (atPP ll k).length from rfl]; omega
theorem totP_ge (ll : List (List Pi)) {i k : Nat} (h : i < k) : totP ll i + (atPP ll i).length ≤ totP ll k := totP_mono ll (i + 1) k h
/-- the rows below k marked -/
def mkPPK (ll : List (List Pi)) (K : Int) : Nat → List (List Pi)
  | 0 => ll
  | k + 1 => (mkPPK ll K k).set k (mkLPi (atPP ll k).length (K + 3 * (totP ll k : Int)))
theorem mkPPK_len (ll : List (List Pi)) (K : Int) : ∀ k, (mkPPK ll K k).length = ll.length
  | 0 => rfl
  | k + 1 => by rw [mkPPK, List.length_set, mkPPK_len ll K k]
theorem mkPPK_at (ll : List (List Pi)) (K : Int) : ∀ k, k ≤ ll.length → ∀ i, atPP (mkPPK ll K k) i = if i < k then mkLPi (atPP ll i).length (K + 3 * (totP ll i : Int)) else atPP ll i
  | 0, _, i => by rw [if_neg (by omega)]; rfl
  | k + 1, h, i => by
    rw [mkPPK, atPP_set (by rw [mkPPK_len]; omega), mkPPK_at ll K k (by omega) i]
    by_cases e : i = k
    · subst e; rw [if_pos rfl, if_pos (by omega)]
    · rw [if_neg e]
      by_cases h2 : i < k
      · rw [if_pos h2, if_pos (by omega)]
      · rw [if_neg h2, if_neg (by omega)]
def OwnPP (w : World) (lo : Nat) (A : Option Addr) (ll : List (List Pi)) : Prop := SLPP w lo w.heap.size A ll
theorem SLPP.of {w : World} {lo : Nat} {A : Option Addr} {ll : List (List Pi)} (_ : RowPP w w.heap.size A ll) (h : OwnPP w lo A ll) : SLPP w lo w.heap.size A ll := h
theorem RowPP.bel {w w' : World} {B : Nat} {A : Option Addr} {ll : List (List Pi)} (h : RowPP w B A ll) (hb : Below w.heap.size w w') (hB : B ≤ w.heap.size) : RowPP w' B A ll :=
  h.keep (Nat.le_refl _) fun b o hh => hb.cell (p := ⟨b, o, none⟩) (by simp only; omega)
theorem RowPP.trn {w w' : World} {B n : Nat} {A A' : Option Addr} {ll : List (List Pi)} (h : RowPP w B A ll) (t : Trn A' n w w') (hne : ∀ a : Addr, 0 < n → A' = some a → B ≤ a.block) (hB : B ≤ w.heap.size) : RowPP w' B A ll :=
  h.keep (Nat.le_refl _) fun b o hb => World.cell?_of_block (w := w) (a := ⟨b, o, none⟩) (t.block b (by omega) fun hn a ha => by have := hne a hn ha; omega)
theorem RowPP.wnd {w w' : World} {B lo hi : Nat} {A : Option Addr} {ll : List (List Pi)} (h : RowPP w B A ll) (t : Wnd lo hi w w') (hB : B ≤ lo) (hs : B ≤ w.heap.size) : RowPP w' B A ll :=
  h.keep (Nat.le_refl _) fun b o hb => World.cell?_of_block (w := w) (a := ⟨b, o, none⟩) (t.block b (by omega) (.inl (by omega)))
theorem RowPi.wnd {w w' : World} {B lo hi : Nat} {A : Option Addr} {l : List Pi} (h : RowPi w B A l) (t : Wnd lo hi w w') (hB : B ≤ lo) (hs : B ≤ w.heap.size) : RowPi w' B A l :=
  h.keep (Nat.le_refl _) fun b o hb => World.cell?_of_block (w := w) (a := ⟨b, o, none⟩) (t.block b (by omega) (.inl (by omega)))
theorem RowPP.up {w : World} {B B' : Nat} {A : Option Addr} {ll : List (List Pi)} (h : RowPP w B A ll) (hB : B ≤ B') : RowPP w B' A ll := h.keep hB fun _ _ _ => rfl
end
section
open Go.RowKit

theorem szS_any (A : Option Addr) (n c : Nat) (left : Int) (w : World) (hn : n ≤ 9223372036854775807) (h0 : 0 ≤ left) (h1 : left ≤ 1048576) :
    Calls Try.prog 23 #[.slice A n c, .int .i64 left] w fun e w' => e = .returned (.int .i64 (if left < (n : Int) then -1 else left - n)) ∧ w = w' := by
  have i1 := IntWalk.i64_in (left - (n : Int)) (by omega)
  by_cases h : left < (n : Int)
  · have h2 : left - (n : Int) < 0 := by omega
    go_enter Try.func23, Try.ntmps23
    go_wp2
    go_ret
    exact ⟨rfl, rfl⟩
  · have h2 : ¬ left - (n : Int) < 0 := by omega
    go_enter Try.func23, Try.ntmps23
    go_wp2
    go_ret
    exact ⟨rfl, rfl⟩
/-- what is left of so much: -1 if it does not suffice -/
def SzR (ll : List (List Pi)) (left : Int) (w : World) (e : Ending) (w' : World) : Prop := ∃ x : Int, e = .returned (.int .i64 x) ∧ (x = -1 ∨ (0 ≤ x ∧ x + (ll.length : Int) + (totP ll ll.length : Int) = left)) ∧ Below w.heap.size w w'
set_option maxRecDepth 20000 in
set_option maxHeartbeats 4000000 in
theorem szPP_any (A : Option Addr) (n c : Nat) (ll : List (List Pi)) (left : Int) (w : World) (hn : ll.length = n) (hm : n ≤ 9223372036854775807) (h0 : 0 ≤ left) (h1 : left ≤ 1048576) (h : RowPP w w.heap.size A ll) :
    Calls Try.prog 10 #[.slice A n c, .int .i64 left] w (SzR ll left w) := by
  subst hn
  have i1 := IntWalk.i64_in (left - (ll.length : Int)) (by omega)
  by_cases hs : left < (ll.length : Int)
  · have h2 : left - (ll.length : Int) < 0 := by omega
    go_enter Try.func10, Try.ntmps10
    go_wp2
    go_ret
    exact ⟨-1, rfl, .inl rfl, bel_refl _⟩
  · have h2 : ¬ left - (ll.length : Int) < 0 := by omega
    go_enter Try.func10, Try.ntmps10
    go_wp2
    obtain ⟨left', hl'⟩ : ∃ z, left - (ll.length : Int) = z := ⟨_, rfl⟩
    rw [hl']
    have HL := Lib.hid hl'
    have hl0 : 0 ≤ left' := by omega
    clear hl' i1 h2
    go_loopw [1, 5] (fun x i wr => ∃ (k : Nat) (y : Int), k ≤ ll.length ∧ i = .int .i64 k ∧ x = .int .i64 y ∧ 0 ≤ y ∧ Hid (y + (totP ll k : Int) = left') ∧ y ≤ 1048576 ∧ Below w.heap.size w wr) (fun _ i _ => ll.length - (intOf i).toNat)
    case atStart => exact ⟨0, left', Nat.zero_le _, rfl, rfl, hl0, by show _ = _; simp [totP], by have := HL.out; omega, bel_refl _⟩
    case round =>
      obtain ⟨k, y, hk, rfl, rfl, hy0, HY, hy1, hb⟩ := hrel
      by_cases hlt : k < ll.length
      · obtain ⟨b, off, rfl, hlb, hc⟩ := (h.below hb) (by omega)
        obtain ⟨Ai, ci, c1, c2, c3, _⟩ := hc k hlt
        have hkl : (k : Int) < (ll.length : Int) := by omega
        have hk0 : (0 : Int) ≤ (k : Int) := by omega
        unfold maxLen at c3
        have HT := Lib.hid (show totP ll (k + 1) = totP ll k + (atPP ll k).length from rfl)
        clear hc
        obtain ⟨m, hmm⟩ : ∃ m, (atPP ll k).length = m := ⟨_, rfl⟩
        rw [hmm] at c1 c2 HT
        clear hmm
        go_wp2_with fail
        refine (szS_any _ _ _ _ _ (by omega) hy0 hy1).mono ?_
        rintro e1 w1 ⟨he, rfl⟩
        by_cases hz : y < (m : Int)
        · rw [if_pos hz] at he
          subst he
          go_wp2
          go_ret
          exact ⟨-1, rfl, .inl rfl, hb⟩
        · rw [if_neg hz] at he
          subst he
          have hz2 : ¬ y - (m : Int) < 0 := by omega
          have HY2 := Lib.hid (show y - (m : Int) + (totP ll (k + 1) : Int) = left' from by rw [HT.out, ← HY.out]; push_cast; omega)
          go_wp2
          go_roundw
          case rel => exact ⟨k + 1, y - m, by omega, by go_num, rfl, by omega, HY2.out, by omega, hb⟩
          case measure => simp [intOf]; omega
      · obtain rfl : k = ll.length := by omega
        go_wp2
        go_ret
        exact ⟨y, rfl, .inr ⟨hy0, by have := HY.out; have := HL.out; omega⟩, hb⟩
theorem infoLP : (Try.prog.info? 37).map (fun i => (i.zero, i.size, i.bytes)) = some (some (.slice none 0 0), 1, 24) := by kernel_rfl
theorem run_makePP (n : Nat) (h : n ≤ 2000000) (w : World) :
    (Instr.makeSlice 26 (.int .i64 (n : Int)) (.int .i64 (n : Int))).run Try.prog w = .ok (.slice (some ⟨w.heap.size, 0, none⟩) n n) (w.alloc (.cells (madeCells #[.slice none 0 0] (n * 1)) 37)) := by
  obtain ⟨i, hi, hz, hs, hb⟩ := info_parts infoLP
  have hr := run_make (P := Try.prog) w 26 37 i _ Try.underlying26 hi hz .i64 .i64 n n (by omega) (by omega) (by rw [hb]; omega) (by omega)
  simp only [Int.toNat_natCast, hs] at hr
  exact hr
def ToPP (w : World) (ll : List (List Pi)) (e : Ending) (w' : World) : Prop :=
  ∃ A, e = .returned (.slice A ll.length ll.length) ∧ RowPP w' w'.heap.size A ll ∧ OwnPP w' w.heap.size A ll ∧ Below w.heap.size w w'
set_option maxRecDepth 20000 in
set_option maxHeartbeats 4000000 in
theorem toSPP_any (A : Option Addr) (n c : Nat) (ll : List (List Pi)) (w : World) (hn : ll.length = n) (hm : n ≤ 2000000) (hbg : ∀ i, i < ll.length → (atPP ll i).length ≤ 2000000) (h : RowPP w w.heap.size A ll) :
    Calls Try.prog 12 #[.slice A n c] w (ToPP w ll) := by
  subst hn
  have HBG := Lib.hid hbg
  clear hbg
  have hmk := run_makePP ll.length hm
  go_enter Try.func12, Try.ntmps12
  go_wp2
  go_loopw [4] (fun i wr => ∃ (k : Nat) (R : Nat → Option Addr), k ≤ ll.length ∧ i = .int .i64 k ∧ Below w.heap.size w wr ∧ PPs wr w.heap.size w.heap.size ll.length k ll R) (fun i _ => ll.length - (intOf i).toNat)
  case atStart => exact ⟨0, fun _ => none, Nat.zero_le _, rfl, bel_al (bel_refl _) _, ⟨⟨Nat.le_refl _, by simp⟩, fun o => by simp, fun o ho => by rw [World.cell?_alloc_new]; simp [size_madeCells]; omega, fun i hi => absurd hi (by omega), fun i hi => absurd hi (by omega), fun i j hij hj => absurd hj (by omega)⟩⟩
  case round =>
    obtain ⟨k, R, hk, rfl, hb, hP⟩ := hrel
    by_cases hlt : k < ll.length
    · obtain ⟨b, off, rfl, hlb, hc⟩ := h (by omega)
      obtain ⟨Ai, ci, c1, c2, c3, c4⟩ := hc k hlt
      have g1 := keep_tr c1 hb
      have gr := c4.below hb
      have hkl : (k : Int) < (ll.length : Int) := by omega
      have hk0 : (0 : Int) ≤ (k : Int) := by omega
      have hgl := hP.lt
      have HP := Lib.hid hP
      have hbk := HBG.out k hlt
      clear hc c1 hP
      go_wp2_with fail
      refine (toSPi_any _ _ _ (atPP ll k) _ rfl hbk gr).mono ?_
      rintro e1 w1 ⟨A1, rfl, r1, o1, b1⟩
      have hs1 := b1.size
      have hb1 := bel_tr hb b1
      have HN := Lib.hid (HP.out.step hlt b1 r1 o1)
      have f1 : w1.frozen? ⟨w.heap.size, k, none⟩ = false := by rw [b1.frozen (p := ⟨w.heap.size, k, none⟩) (by simp only; omega)]; exact HP.out.fr k
      obtain ⟨o0, so0⟩ := Option.isSome_iff_exists.1 (HP.out.some' k hlt)
      have so1 := keep_tr so0 b1
      have hgl1 : w.heap.size < w1.heap.size := by omega
      clear so0 g1 gr r1 o1
      have HB1 := Lib.hid (bel_set hb1 (p := ⟨w.heap.size, k, none⟩) (Nat.le_refl _) (.slice A1 (atPP ll k).length (atPP ll k).length))
      go_wp2
      go_roundw
      case rel => exact ⟨k + 1, _, by omega, by go_num, HB1.out, HN.out⟩
      case measure => simp [intOf]; omega
    · obtain rfl : k = ll.length := by omega
      have HD := Lib.hid (hP.done (fun i hi => by have := HBG.out i hi; unfold maxLen; omega))
      clear hP
      go_wp2
      go_ret
      exact ⟨_, rfl, HD.out.row, HD.out, hb⟩
set_option maxRecDepth 20000 in
set_option maxHeartbeats 4000000 in
theorem eqSPP_same (A A' : Option Addr) (n c c' : Nat) (ll : List (List Pi)) (w : World) (hn : ll.length = n) (hm : n ≤ 2000000) (hbg : ∀ i, i < ll.length → (atPP ll i).length ≤ 2000000) (h : RowPP w w.heap.size A ll) (h' : RowPP w w.heap.size A' ll) :
    Calls Try.prog 15 #[.slice A n c, .slice A' n c'] w fun e w' => e = .returned (.bool true) ∧ Below w.heap.size w w' := by
  subst hn
  have HBG := Lib.hid hbg
  clear hbg
  go_enter Try.func15, Try.ntmps15
  go_wp2
  go_loopw [5] (fun i wr => ∃ k : Nat, k ≤ ll.length ∧ i = .int .i64 k ∧ Below w.heap.size w wr) (fun i _ => ll.length - (intOf i).toNat)
  case atStart => exact ⟨0, Nat.zero_le _, rfl, bel_refl _⟩
  case round =>
    obtain ⟨k, hk, rfl, hb⟩ := hrel
    by_cases hlt : k < ll.length
    · obtain ⟨b, off, rfl, hlb, hc⟩ := (h.below hb) (by omega)
      obtain ⟨b', off', rfl, hlb', hc'⟩ := (h'.below hb) (by omega)
      obtain ⟨Ai, ci, c1, c2, c3, c4⟩ := hc k hlt
      obtain ⟨Ai', ci', d1, d2, d3, d4⟩ := hc' k hlt
      have hbk := HBG.out k hlt
      have hkl : (k : Int) < (ll.length : Int) := by omega
      have hk0 : (0 : Int) ≤ (k : Int) := by omega
      clear hc hc'
      generalize atPP ll k = x at *
      have LE : ∀ xL : Later wr, Calls Try.prog 28 #[.slice Ai x.length ci, .slice Ai' x.length ci'] xL.world fun e w'' => e = .returned (.bool true) ∧ ∃ z : Later wr, w'' = z.world := fun xL => later_call (eqSPi_same Ai Ai' x.length ci ci' x xL.world rfl (by omega) (c4.below xL.bel) (d4.below xL.bel))
      go_wp2_with fail
      have lf0 : ∀ xL : Later wr, xL.world.cell? ⟨b, off + k, none⟩ = some (.slice Ai x.length ci) := fun xL => xL.at (c1)
      have lf1 : ∀ xL : Later wr, xL.world.cell? ⟨b', off' + k, none⟩ = some (.slice Ai' x.length ci') := fun xL => xL.at (d1)
      refine region_later (w0 := wr) (by kernel_rfl) (by kernel_rfl) (bel_refl _) ?_
      repeat (go_big_quiet_step ((first | (go_at_call 28; with_reducible exact LE _))))
      refine wpQuiet_nil ?_
      rintro w' ⟨x, rfl⟩
      obtain ⟨w5, b5⟩ := x
      clear lf0 lf1
      clear LE
      have hb5 := bel_tr hb b5
      clear c1 c4 d1 d4
      go_wp2
      go_roundw
      case rel => exact ⟨k + 1, by omega, by go_num, hb5⟩
      case measure => simp [intOf]; omega
    · obtain rfl : k = ll.length := by omega
      go_wp2
      go_ret
      exact ⟨rfl, hb⟩
set_option maxRecDepth 20000 in
set_option maxHeartbeats 4000000 in
theorem markSPP_any (A : Option Addr) (n c lo hi : Nat) (ll : List (List Pi)) (K : Int) (w : World) (hn : ll.length = n) (ht : totP ll ll.length ≤ 2000000) (h0 : 0 ≤ K) (h1 : K ≤ 50000000) (hm : n ≤ 2000000) (h : SLPP w lo hi A ll) :
    Calls Try.prog 16 #[.slice A n c, .int .i64 K] w fun e w' => e = .returned (.int .i64 (K + 3 * (totP ll ll.length : Int))) ∧ Wnd lo hi w w' ∧ RowPP w' w'.heap.size A (mkPPK ll K ll.length) := by
  subst hn
  go_enter Try.func16, Try.ntmps16
  go_wp2
  go_loopw [1, 5] (fun x i wr => ∃ (k : Nat) (y : Int), k ≤ ll.length ∧ i = .int .i64 k ∧ x = .int .i64 y ∧ Hid (y = K + 3 * (totP ll k : Int)) ∧ 0 ≤ y ∧ y ≤ 60000000 ∧ Wnd lo hi w wr ∧ SLPQ wr lo hi A (mkPPK ll K k) k) (fun _ i _ => ll.length - (intOf i).toNat)
  case atStart => exact ⟨0, K, Nat.zero_le _, rfl, rfl, by show _ = _; simp [totP], h0, by omega, Wnd.refl _ _ _, h⟩
  case round =>
    obtain ⟨k, y, hk, rfl, rfl, HY, hy0, hy1, hW, hS⟩ := hrel
    by_cases hlt : k < ll.length
    · have hlen := mkPPK_len ll K k
      obtain ⟨b, off, hA, _, _, R, hc, hap⟩ := hS.at' (by omega)
      obtain ⟨ci, c1, c2, c3, c4, c5⟩ := hc k (by omega)
      have hat : atPP (mkPPK ll K k) k = atPP ll k := by rw [mkPPK_at ll K k hk, if_neg (by omega)]
      have htg := totP_ge ll hlt
      have HS := Lib.hid hS
      have HC1 := Lib.hid c1
      have HA := Lib.hid hA
      rw [hat] at c1 c2 c5
      have hsl := c5 (Nat.le_refl _)
      have HT := Lib.hid (show totP ll (k + 1) = totP ll k + (atPP ll k).length from rfl)
      have HAT := Lib.hid hat
      have HW := Lib.hid hW
      have hn2 : (atPP ll k).length ≤ 2000000 := by omega
      have hkl : (k : Int) < (ll.length : Int) := by omega
      have hk0 : (0 : Int) ≤ (k : Int) := by omega
      generalize R k = Rk at *
      subst hA
      clear hc hap hS hat c4 c5 hW hlen
      go_wp2_with fail
      refine (markSPi_any Rk _ _ lo (atPP ll k) y _ rfl hn2 hy0 (by omega) hsl.row hsl.own).mono ?_
      rintro e1 w1 ⟨rfl, t1, r1⟩
      have HW1 := Lib.hid (HW.out.trn t1 (fun x h0 hx => hsl.place h0 hx))
      have HS1 := Lib.hid (HS.out.wrote (by rw [mkPPK_len]; exact hlt) rfl HC1.out (by rw [HAT.out]; exact t1) (l := mkLPi (atPP ll k).length (K + 3 * (totP ll k : Int))) (by rw [mkLPi_len, HAT.out]) (by rw [← HY.out]; exact r1))
      have HY1 := Lib.hid (show y + 3 * ((atPP ll k).length : Int) = K + 3 * (totP ll (k + 1) : Int) from by rw [HT.out, HY.out]; push_cast; omega)
      have htm := totP_mono ll (k + 1) ll.length (by omega)
      have hyb : y + 3 * ((atPP ll k).length : Int) ≤ 60000000 := by rw [HY1.out]; omega
      clear c1 hsl t1 r1
      go_wp2
      go_roundw
      case rel => exact ⟨k + 1, y + 3 * ((atPP ll k).length : Int), by omega, by go_num, rfl, HY1.out, by omega, hyb, HW1.out, HS1.out⟩
      case measure => simp [intOf]; omega
    · obtain rfl : k = ll.length := by omega
      have HR := Lib.hid hS.row
      have HW := Lib.hid hW
      clear hS hW
      go_wp2
      go_ret
      exact ⟨ret_int HY.out, HW.out, HR.out⟩
set_option maxRecDepth 20000 in
set_option maxHeartbeats 4000000 in
theorem heldSPP_any (A : Option Addr) (n c : Nat) (ll : List (List Pi)) (K : Int) (w : World) (hn : ll.length = n) (ht : totP ll ll.length ≤ 2000000) (h0 : 0 ≤ K) (h1 : K ≤ 50000000) (hm : n ≤ 2000000) (h : RowPP w w.heap.size A (mkPPK ll K ll.length)) :
    Calls Try.prog 35 #[.slice A n c, .int .i64 K] w fun e w' => e = .returned (.int .i64 (K + 3 * (totP ll ll.length : Int))) ∧ Below w.heap.size w w' := by
  subst hn
  go_enter Try.func35, Try.ntmps35
  go_wp2
  go_loopw [1, 5] (fun x i wr => ∃ (k : Nat) (y : Int), k ≤ ll.length ∧ i = .int .i64 k ∧ x = .int .i64 y ∧ Hid (y = K + 3 * (totP ll k : Int)) ∧ 0 ≤ y ∧ y ≤ 60000000 ∧ Below w.heap.size w wr) (fun _ i _ => ll.length - (intOf i).toNat)
  case atStart => exact ⟨0, K, Nat.zero_le _, rfl, rfl, by show _ = _; simp [totP], h0, by omega, bel_refl _⟩
  case round =>
    obtain ⟨k, y, hk, rfl, rfl, HY, hy0, hy1, hb⟩ := hrel
    by_cases hlt : k < ll.length
    · obtain ⟨b, off, rfl, hlb, hc⟩ := (h.below hb) (by rw [mkPPK_len]; omega)
      obtain ⟨ci, cc, c1, c2, c3, c4⟩ := hc k (by rw [mkPPK_len]; exact hlt)
      rw [mkPPK_at ll K _ (Nat.le_refl _), if_pos hlt, ← HY.out] at c1 c2 c4
      rw [mkLPi_len] at c1 c2
      have htg := totP_ge ll hlt
      have HT := Lib.hid (show totP ll (k + 1) = totP ll k + (atPP ll k).length from rfl)
      have htm := totP_mono ll (k + 1) ll.length (by omega)
      have HY1 := Lib.hid (show y + 3 * ((atPP ll k).length : Int) = K + 3 * (totP ll (k + 1) : Int) from by rw [HT.out, HY.out]; push_cast; omega)
      have hyb : y + 3 * ((atPP ll k).length : Int) ≤ 60000000 := by rw [HY1.out]; omega
      have hn2 : (atPP ll k).length ≤ 2000000 := by omega
      have hkl : (k : Int) < (ll.length : Int) := by omega
      have hk0 : (0 : Int) ≤ (k : Int) := by omega
      clear hc
      go_wp2_with fail
      refine (heldSPi_any _ (atPP ll k).length _ y _ hn2 hy0 (by omega) c4).mono ?_
      rintro e1 w1 ⟨rfl, b1⟩
      have hb1 := bel_tr hb b1
      have hnn : ¬ y + 3 * ((atPP ll k).length : Int) < 0 := by omega
      clear c1 c4 b1
      go_wp2
      go_roundw
      case rel => exact ⟨k + 1, y + 3 * ((atPP ll k).length : Int), by omega, by go_num, rfl, HY1.out, by omega, hyb, hb1⟩
      case measure => simp [intOf]; omega
    · obtain rfl : k = ll.length := by omega
      go_wp2
      go_ret
      exact ⟨ret_int HY.out, hb⟩
end
end Go.Proofs.Ytpjakgnghpapmaa
