/- RealizeBass as the laws hold it: slices of slices of one's own. -/
import Derived.Test.YtpjakgnghpapmaaSrzV
import Derived.Test.YtpjakgnghpapmaaBz
import Derived.Test.YtpjakgnghpapmaaBm
namespace Go.Proofs.Ytpjakgnghpapmaa
set_option linter.unusedSimpArgs false
set_option linter.unusedVariables false
open Go.RowKit

theorem SLIn.wnd {w w' : World} {lo hi lo' hi' : Nat} {A : Option Addr} {l : List Int} (h : SLIn w lo hi A l) (t : Wnd lo' hi' w w') (hd : hi ≤ lo' ∨ hi' ≤ lo) : SLIn w' lo hi A l :=
  h.keep (by rw [t.size]; exact Nat.le_refl _) fun i hi h1 h2 => t.block i hi (by omega)
theorem RowIn.wnd {w w' : World} {B lo hi : Nat} {A : Option Addr} {l : List Int} (h : RowIn w B A l) (t : Wnd lo hi w w') (hB : B ≤ lo) (hs : B ≤ w.heap.size) : RowIn w' B A l :=
  h.keep (Nat.le_refl _) fun b o hb => World.cell?_of_block (w := w) (a := ⟨b, o, none⟩) (t.block b (by omega) (.inl (by omega)))
def adrOf : Option Value → Option Addr
  | some (.slice A _ _) => A
  | _ => none
theorem slpp_of {w : World} {lo : Nat} {v : Value} {ll : List (List Pi)} {vs : List Value} (h : OwPV w lo v ll vs) (ha : Apv w vs) : ∃ A c, v = .slice A ll.length c ∧ ll.length ≤ c ∧ c ≤ maxLen ∧ SLPP w lo w.heap.size A ll := by
  obtain ⟨A, c, rfl, h1, h2, _⟩ := h.row
  refine ⟨A, c, rfl, h1, h2, Nat.le_refl _, fun hl => ?_⟩
  obtain ⟨g, gc, _, _, e, hg0, hg1, _⟩ := h.at' 0 hl
  cases e
  obtain ⟨cur, hcur⟩ : ∃ cur, Blk w g cur 37 := by
    rcases h.1.2 with ⟨e, _⟩ | ⟨g', cap', cur, e, _, hb, _⟩
    · cases e
    · cases e; exact ⟨cur, hb⟩
  have hvl : vs.length = ll.length := by have := h.1.1; omega
  have hstp : ∀ i, i < ll.length → StP w lo (adrOf vs[i]?) (atPP ll i) := fun i hi => by
    obtain ⟨Ai, ci, a1, _, _, a4⟩ := h.2 i hi
    rw [a1]; exact a4
  refine ⟨g, 0, rfl, hg0, hg1, fun i => adrOf vs[i]?, fun i hi => ?_, fun i hi h0 x hx => ?_, fun i j hij hj h0 h3 x y hx hy => ?_⟩
  · obtain ⟨Ai, ci, a1, a2, a3, a4⟩ := h.2 i hi
    have hs := hstp i hi
    refine ⟨ci, by simp only [Nat.zero_add, h.1.cellAt i (by omega), a1, adrOf], a2, a3, hs.row, fun _ => ⟨Nat.le_refl _, fun hp => ?_⟩⟩
    obtain ⟨b, off, cs, e, b1, b2, b3⟩ := hs hp
    exact ⟨b, off, e, b1, b2.lt, fun o => b2.free o, fun i hi => by unfold CMPi; rw [Blk.cell b2, Blk.cell b2, Blk.cell b2]; exact b3 i hi⟩
  · obtain ⟨b, off, cs, e, b1, b2, b3⟩ := hstp i hi h0
    have e2 : some x = some ⟨b, off, none⟩ := hx.symm.trans e
    rw [Option.some.inj e2]
    intro z
    have z2 : b = g := z
    subst z2
    have := b2.symm.trans hcur
    simp at this
  · have hi : i < vs.length := by omega
    have hjv : j < vs.length := by omega
    have hp := List.pairwise_iff_getElem.1 ha.2 i j hi hjv hij
    obtain ⟨Ai, ci, a1, _, _, _⟩ := h.2 i (by omega)
    obtain ⟨Aj, cj, b1, _, _, _⟩ := h.2 j (by omega)
    have hx2 : Ai = some x := by have := hx; simp only [a1, adrOf] at this; exact this
    have hy2 : Aj = some y := by have := hy; simp only [b1, adrOf] at this; exact this
    rw [List.getElem?_eq_getElem hi] at a1
    rw [List.getElem?_eq_getElem hjv] at b1
    rw [Option.some.inj a1, Option.some.inj b1, hx2, hy2] at hp
    exact hp x.block y.block rfl rfl
def RzQ (w : World) (L : List (List Pi)) (B : Bool) (e : Ending) (w' : World) : Prop := ∃ A c, e = .returned (.tuple #[.slice A L.length c, .bool B]) ∧ L.length ≤ c ∧ c ≤ maxLen ∧ SLPP w' w.heap.size w'.heap.size A L ∧ Below w.heap.size w w'
def RzW (w : World) (L : List (List Pi)) (B : Bool) (e : Ending) (w' : World) : Prop := ∃ A c, e = .returned (.tuple #[.slice A L.length c, .bool B]) ∧ L.length ≤ c ∧ c ≤ maxLen ∧ RowPP w' w'.heap.size A L ∧ Below w.heap.size w w'
theorem rzq_of {w : World} {o : Option (List (List Pi))} {L : List (List Pi)} {B : Bool} (hL : o.getD [] = L) (hB : o.isSome = B) {e : Ending} {w' : World} (h : RzA w o e w') : RzQ w L B e w' := by
  subst hL; subst hB
  obtain ⟨v, vs, rfl, h1, h2, h3⟩ := h
  obtain ⟨A, c, rfl, a1, a2, a3⟩ := slpp_of h1 h2
  exact ⟨A, c, rfl, a1, a2, a3, h3⟩
theorem rzw_of {w : World} {o : Option (List (List Pi))} {L : List (List Pi)} {B : Bool} (hL : o.getD [] = L) (hB : o.isSome = B) {e : Ending} {w' : World} (h : RzR w o e w') : RzW w L B e w' := by
  subst hL; subst hB
  obtain ⟨v, vs, rfl, h1, h3⟩ := h
  obtain ⟨A, c, rfl, a1, a2, a3⟩ := h1.row
  exact ⟨A, c, rfl, a1, a2, a3, h3⟩
theorem rb_small {f : Int} {bs : List Pi} {gs : List Int} {L : List (List Pi)} (hL : (rbI f bs gs).getD [] = L) : L.length ≤ 8 ∧ ∀ i, i < L.length → (atPP L i).length = 4 := by
  cases h : rbI f bs gs with
  | none =>
    rw [h] at hL
    subst hL
    exact ⟨by simp, fun i hi => absurd hi (by simp)⟩
  | some M =>
    rw [h] at hL
    have e : M = L := hL
    subst e
    exact ⟨by rw [rb_len h]; exact (rb_some h).1.2.1.2, fun i hi => rb_four h i hi⟩
theorem tot_small (ll : List (List Pi)) (h : ∀ i, i < ll.length → (atPP ll i).length = 4) : ∀ k, k ≤ ll.length → totP ll k = 4 * k
  | 0, _ => rfl
  | k + 1, hk => by rw [totP, tot_small ll h k (by omega), h k (by omega)]; omega
theorem rbq_val {f : Int} {bs : List Pi} {gs : List Int} {L : List (List Pi)} {B : Bool} (hL : (rbI f bs gs).getD [] = L) (hB : (rbI f bs gs).isSome = B) (A1 A2 : Option Addr) (n1 n2 c1 c2 : Nat) (w : World) (hn1 : bs.length = n1) (hn2 : gs.length = n2) (hm1 : n1 ≤ 2000000) (hm2 : n2 ≤ 2000000) (h1 : RowPi w w.heap.size A1 bs) (h2 : RowIn w w.heap.size A2 gs) :
    Calls Try.prog 32 #[.int .i64 f, .slice A1 n1 c1, .slice A2 n2 c2] w (RzQ w L B) := (rb_val rfl A1 A2 n1 n2 c1 c2 w hn1 hn2 hm1 hm2 h1 h2).mono fun _ _ h => rzq_of hL hB h
theorem srbw_val {f : Int} {bs : List Pi} {gs : List Int} {L : List (List Pi)} {B : Bool} (hL : (rbI f bs gs).getD [] = L) (hB : (rbI f bs gs).isSome = B) (A1 A2 : Option Addr) (n1 n2 c1 c2 : Nat) (w : World) (hn1 : bs.length = n1) (hn2 : gs.length = n2) (hm1 : n1 ≤ 2000000) (hm2 : n2 ≤ 2000000) (h1 : RowPi w w.heap.size A1 bs) (h2 : RowIn w w.heap.size A2 gs) :
    Calls Try.prog 31 #[.int .i64 f, .slice A1 n1 c1, .slice A2 n2 c2] w (RzW w L B) := (srb_val rfl A1 A2 n1 n2 c1 c2 w hn1 hn2 hm1 hm2 h1 h2).mono fun _ _ h => rzw_of hL hB h
end Go.Proofs.Ytpjakgnghpapmaa
