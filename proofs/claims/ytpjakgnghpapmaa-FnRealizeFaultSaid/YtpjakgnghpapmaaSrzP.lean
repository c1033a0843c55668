/- Chords found for a bass: the reference: what its tables hold. -/
import Derived.Test.YtpjakgnghpapmaaBz
import Derived.Test.YtpjakgnghpapmaaRzb
namespace Go.Proofs.Ytpjakgnghpapmaa
set_option linter.unusedSimpArgs false
set_option linter.unusedVariables false
open Go.RowKit

theorem spL_len (b : Pi) (ts : List Pi) (h : ts.length ≤ 4) : (spL b ts).length ≤ 1600000000 := by
  have hp := plL_len ts h 32
  have := spA_len b ts (plL ts 32) (by omega) (plL ts 32).length
  unfold spL
  omega
theorem spI_len (f : Int) (bs : List Pi) (gs : List Int) (i : Nat) : (spI f bs gs i).length ≤ 1600000000 := spL_len _ _ (by unfold tnI; exact fgL_len _ _ _)
theorem spC_four (b : Pi) (ts : List Pi) (a c : Pi) (P : List Pi) (j : Nat) : ∀ k, ∀ x ∈ spC b ts a c P j k, x.length = 4
  | 0, _, h => by cases h
  | k + 1, x, h => by
    unfold spC at h
    split at h
    · rcases List.mem_append.1 h with h | h
      · exact spC_four b ts a c P j k x h
      · rw [List.mem_singleton.1 h]; rfl
    · exact spC_four b ts a c P j k x h
theorem spB_four (b : Pi) (ts : List Pi) (a : Pi) (P : List Pi) (i : Nat) : ∀ k, ∀ x ∈ spB b ts a P i k, x.length = 4
  | 0, _, h => by cases h
  | k + 1, x, h => by
    unfold spB at h
    rcases List.mem_append.1 h with h | h
    · exact spB_four b ts a P i k x h
    · exact spC_four _ _ _ _ _ _ _ x h
theorem spA_four (b : Pi) (ts : List Pi) (P : List Pi) : ∀ k, ∀ x ∈ spA b ts P k, x.length = 4
  | 0, _, h => by cases h
  | k + 1, x, h => by
    unfold spA at h
    rcases List.mem_append.1 h with h | h
    · exact spA_four b ts P k x h
    · exact spB_four _ _ _ _ _ _ x h
theorem spI_four (f : Int) (bs : List Pi) (gs : List Int) (i : Nat) : four (spI f bs gs i) := four_mem.2 (spA_four _ _ _ _)
/-- blocks from lo on, of other types than T0, live on -/
def KtB (T0 : TypeId) (lo : Nat) (w w' : World) : Prop := ∀ b cs T, lo ≤ b → T ≠ T0 → Blk w b cs T → Blk w' b cs T
theorem KtB.below {T0 : TypeId} {lo : Nat} {w w' : World} (h : Below w.heap.size w w') : KtB T0 lo w w' := fun _ _ _ _ _ x => x.below h
theorem KtB.onb {T0 : TypeId} {g lo : Nat} {w w' : World} (h : Onb g w w') (hg : g < lo) : KtB T0 lo w w' := fun b _ _ hb _ x => x.onb h (by omega)
theorem KtB.grown {T0 : TypeId} {lo lo' n : Nat} {w w' : World} {v : Value} {xs : List Value} (h : w.ownsRow lo' T0 1 v n xs) (hg : w.grownBy w' v.ownBlock) : KtB T0 lo w w' := fun _ _ _ _ hT x => x.grown hg (own_ne h x hT)
theorem KtB.set {T0 : TypeId} {lo K : Nat} {w : World} {cs : Array Value} (h : Blk w K cs T0) (o : Nat) (u : Value) : KtB T0 lo w (w.setCell ⟨K, o, none⟩ u) := fun b cs' T _ hT hb => by
  refine hb.off (q := ⟨K, o, none⟩) (fun e => hT ?_) u
  subst e
  have := hb.symm.trans h
  simp at this
  exact this.2
theorem own_kt {T0 : TypeId} {w w' : World} {lo : Nat} {e : TypeId} {size : Nat} {v : Value} {n : Nat} {xs : List Value} (h : w.ownsRow lo e size v n xs) (k : KtB T0 lo w w') (he : e ≠ T0) : w'.ownsRow lo e size v n xs := by
  refine ⟨h.1, ?_⟩
  rcases h.2 with h2 | ⟨g, cap, cur, e1, h3, h4, h5⟩
  · exact .inl h2
  · exact .inr ⟨g, cap, cur, e1, h3, k g cur _ h3 he h4, h5⟩
theorem StP.kt {T0 : TypeId} {w w' : World} {lo : Nat} {A : Option Addr} {l : List Pi} (h : StP w lo A l) (k : KtB T0 lo w w') (he : 62 ≠ T0) : StP w' lo A l := fun hl => by
  obtain ⟨b, off, cs, e, h1, h2, h3⟩ := h hl
  exact ⟨b, off, cs, e, h1, k b cs _ h1 he h2, h3⟩
theorem OwPV.kt {T0 : TypeId} {w w' : World} {lo : Nat} {v : Value} {ll : List (List Pi)} {vs : List Value} (h : OwPV w lo v ll vs) (k : KtB T0 lo w w') (h1 : 37 ≠ T0) (h2 : 62 ≠ T0) : OwPV w' lo v ll vs :=
  ⟨own_kt h.1 k h1, fun i hi => by obtain ⟨Ai, ci, a1, a2, a3, a4⟩ := h.2 i hi; exact ⟨Ai, ci, a1, a2, a3, a4.kt k h2⟩⟩
/-- the rows of chords at the first k places -/
def AlS (f : Int) (bs : List Pi) (gs : List Int) (wr : World) (lo : Nat) (v : Value) (k : Nat) : Prop := ∃ vs, wr.ownsRow lo 26 1 v k vs ∧ ∀ j, j < k → ∃ A c us, vs[j]? = some (.slice A (spI f bs gs j).length c) ∧ OwPV wr lo (.slice A (spI f bs gs j).length c) (spI f bs gs j) us
theorem AlS.kt {T0 : TypeId} {f : Int} {bs : List Pi} {gs : List Int} {wr w' : World} {lo : Nat} {v : Value} {k : Nat} (h : AlS f bs gs wr lo v k) (kk : KtB T0 lo wr w') (h0 : 26 ≠ T0) (h1 : 37 ≠ T0) (h2 : 62 ≠ T0) : AlS f bs gs w' lo v k := by
  obtain ⟨vs, a1, a2⟩ := h
  exact ⟨vs, own_kt a1 kk h0, fun j hj => by obtain ⟨A, c, us, e, o⟩ := a2 j hj; exact ⟨A, c, us, e, o.kt kk h1 h2⟩⟩
theorem AlS.below {f : Int} {bs : List Pi} {gs : List Int} {wr w' : World} {lo : Nat} {v : Value} {k : Nat} (h : AlS f bs gs wr lo v k) (b : Below wr.heap.size wr w') : AlS f bs gs w' lo v k := h.kt (T0 := 85) (KtB.below b) (by decide) (by decide) (by decide)
theorem AlS.push {f : Int} {bs : List Pi} {gs : List Int} {w w' : World} {lo k : Nat} {v v' : Value} {vs us : List Value} {A : Option Addr} {c : Nat} (hv : w.ownsRow lo 26 1 v k vs) (h : ∀ j, j < k → ∃ A c us, vs[j]? = some (.slice A (spI f bs gs j).length c) ∧ OwPV w lo (.slice A (spI f bs gs j).length c) (spI f bs gs j) us)
    (hg : w.grownBy w' v.ownBlock) (ho : w'.ownsRow lo 26 1 v' (k + 1) (vs ++ [.slice A (spI f bs gs k).length c])) (hn : OwPV w lo (.slice A (spI f bs gs k).length c) (spI f bs gs k) us) : AlS f bs gs w' lo v' (k + 1) := by
  have hl : vs.length = k := by have := hv.1; omega
  have kk : KtB 26 lo w w' := KtB.grown hv hg
  refine ⟨_, ho, fun j hj => ?_⟩
  by_cases e : j = k
  · subst e
    exact ⟨A, c, us, by rw [List.getElem?_append_right (by omega), hl, Nat.sub_self]; rfl, hn.kt kk (by decide) (by decide)⟩
  · obtain ⟨A', c', us', e1, o⟩ := h j (by omega)
    exact ⟨A', c', us', by rw [List.getElem?_append_left (by omega)]; exact e1, o.kt kk (by decide) (by decide)⟩
theorem AlS.at' {f : Int} {bs : List Pi} {gs : List Int} {wr : World} {lo : Nat} {ga ca n : Nat} {k : Nat} (h : AlS f bs gs wr lo (.slice (some ⟨ga, 0, none⟩) n ca) k) (hn : n = k) (j : Nat) (hj : j < k) :
    ∃ A c us, wr.cell? ⟨ga, j, none⟩ = some (.slice A (spI f bs gs j).length c) ∧ OwPV wr lo (.slice A (spI f bs gs j).length c) (spI f bs gs j) us := by
  subst hn
  obtain ⟨vs, a1, a2⟩ := h
  obtain ⟨A, c, us, e, o⟩ := a2 j hj
  exact ⟨A, c, us, by rw [a1.cellAt j (by omega)]; exact e, o⟩
/-- the rows of marks at the first k places -/
structure GdS (wr : World) (lo : Nat) (v : Value) (k : Nat) (nn : Nat → Nat) (B : Nat → Nat) (vs : List Value) : Prop where
  own : wr.ownsRow lo 87 1 v k vs
  row : ∀ j, j < k → vs[j]? = some (.slice (some ⟨B j, 0, none⟩) (nn j) (nn j)) ∧ lo ≤ B j ∧ ∃ cs, Blk wr (B j) cs 4 ∧ cs.size = nn j
  ap : ∀ i j, i < j → j < k → B i < B j
theorem GdS.kt {T0 : TypeId} {wr w' : World} {lo : Nat} {v : Value} {k : Nat} {nn B : Nat → Nat} {vs : List Value} (h : GdS wr lo v k nn B vs) (kk : KtB T0 lo wr w') (h1 : 87 ≠ T0) (h2 : 4 ≠ T0) : GdS w' lo v k nn B vs :=
  ⟨own_kt h.own kk h1, fun j hj => by obtain ⟨a1, a2, cs, a3, a4⟩ := h.row j hj; exact ⟨a1, a2, cs, kk _ _ _ a2 h2 a3, a4⟩, h.ap⟩
theorem GdS.below {wr w' : World} {lo : Nat} {v : Value} {k : Nat} {nn B : Nat → Nat} {vs : List Value} (h : GdS wr lo v k nn B vs) (b : Below wr.heap.size wr w') : GdS w' lo v k nn B vs := h.kt (T0 := 85) (KtB.below b) (by decide) (by decide)
theorem GdS.push {w w' : World} {lo k b : Nat} {v v' : Value} {nn B : Nat → Nat} {vs : List Value} {cs : Array Value} (h : GdS w lo v k nn B vs) (hg : w.grownBy w' v.ownBlock) (ho : w'.ownsRow lo 87 1 v' (k + 1) (vs ++ [.slice (some ⟨b, 0, none⟩) (nn k) (nn k)])) (hb : Blk w b cs 4) (hc : cs.size = nn k) (hlo : lo ≤ b) (hlt : ∀ i, i < k → B i < b) :
    GdS w' lo v' (k + 1) nn (fun j => if j = k then b else B j) (vs ++ [.slice (some ⟨b, 0, none⟩) (nn k) (nn k)]) := by
  have hl : vs.length = k := by have := h.own.1; omega
  have kk : KtB 87 lo w w' := KtB.grown h.own hg
  refine ⟨ho, fun j hj => ?_, fun i j hij hj => ?_⟩
  · by_cases e : j = k
    · subst e
      simp only [if_pos]
      exact ⟨by rw [List.getElem?_append_right (by omega), hl, Nat.sub_self]; rfl, hlo, cs, kk _ _ _ hlo (by decide) hb, hc⟩
    · simp only [if_neg e]
      obtain ⟨a1, a2, cs', a3, a4⟩ := h.row j (by omega)
      exact ⟨by rw [List.getElem?_append_left (by omega)]; exact a1, a2, cs', kk _ _ _ a2 (by decide) a3, a4⟩
  · simp only [if_neg (show i ≠ k by omega)]
    by_cases e : j = k
    · simp only [if_pos e]; exact hlt i (by omega)
    · simp only [if_neg e]; exact h.ap i j hij (by omega)
/-- from the chord x at place j one can go on to the end -/
def gv (f : Int) (bs : List Pi) (gs : List Int) (j x : Nat) : Bool := gdR f bs gs (bs.length - 1 - j) (atPP (spI f bs gs j) x)
/-- both tables; the marks at the places D are laid -/
structure SzS (f : Int) (bs : List Pi) (gs : List Int) (wr : World) (lo ga ca gg cg : Nat) (B : Nat → Nat) (D : Nat → Nat → Prop) : Prop where
  all : AlS f bs gs wr lo (.slice (some ⟨ga, 0, none⟩) bs.length ca) bs.length
  gd : ∃ vs, GdS wr lo (.slice (some ⟨gg, 0, none⟩) bs.length cg) bs.length (fun j => (spI f bs gs j).length) B vs
  val : ∀ j x cs, j < bs.length → x < (spI f bs gs j).length → D j x → Blk wr (B j) cs 4 → cs[x]? = some (.bool (gv f bs gs j x))
section
variable {f : Int} {bs : List Pi} {gs : List Int} {wr w' : World} {lo ga ca gg cg : Nat} {B : Nat → Nat} {D D' : Nat → Nat → Prop}
theorem blk_one {w : World} {b : Nat} {cs cs' : Array Value} {T T' : TypeId} (h : Blk w b cs T) (h' : Blk w b cs' T') : cs = cs' := by
  have := h.symm.trans h'
  simp at this
  exact this.1
theorem SzS.blk (h : SzS f bs gs wr lo ga ca gg cg B D) {j : Nat} (hj : j < bs.length) : lo ≤ B j ∧ ∃ cs, Blk wr (B j) cs 4 ∧ cs.size = (spI f bs gs j).length := by
  obtain ⟨vs, hg⟩ := h.gd
  exact (hg.row j hj).2
theorem SzS.ne (h : SzS f bs gs wr lo ga ca gg cg B D) {i j : Nat} (hi : i < bs.length) (hj : j < bs.length) (hn : i ≠ j) : B i ≠ B j := by
  obtain ⟨vs, hg⟩ := h.gd
  rcases Nat.lt_or_gt_of_ne hn with h1 | h1
  · have := hg.ap i j h1 hj; omega
  · have := hg.ap j i h1 hi; omega
theorem SzS.kt {T0 : TypeId} (h : SzS f bs gs wr lo ga ca gg cg B D) (kk : KtB T0 lo wr w') (h0 : 26 ≠ T0) (h1 : 37 ≠ T0) (h2 : 62 ≠ T0) (h3 : 87 ≠ T0) (h4 : 4 ≠ T0) : SzS f bs gs w' lo ga ca gg cg B D := by
  refine ⟨h.all.kt kk h0 h1 h2, ?_, fun j x cs hj hx hD hb => ?_⟩
  · obtain ⟨vs, hg⟩ := h.gd
    exact ⟨vs, hg.kt kk h3 h4⟩
  · obtain ⟨hl, cs0, c1, c2⟩ := h.blk hj
    rw [blk_one hb (kk _ _ _ hl h4 c1)]
    exact h.val j x cs0 hj hx hD c1
theorem SzS.below (h : SzS f bs gs wr lo ga ca gg cg B D) (b : Below wr.heap.size wr w') : SzS f bs gs w' lo ga ca gg cg B D := h.kt (T0 := 85) (KtB.below b) (by decide) (by decide) (by decide) (by decide) (by decide)
theorem SzS.onb {g : Nat} (h : SzS f bs gs wr lo ga ca gg cg B D) (b : Onb g wr w') (hg : g < lo) : SzS f bs gs w' lo ga ca gg cg B D := h.kt (T0 := 85) (KtB.onb b hg) (by decide) (by decide) (by decide) (by decide) (by decide)
theorem SzS.put (h : SzS f bs gs wr lo ga ca gg cg B D) {k i : Nat} (hk : k < bs.length) (hD : ¬ D k i) (u : Value) : SzS f bs gs (wr.setCell ⟨B k, i, none⟩ u) lo ga ca gg cg B D := by
  obtain ⟨hl, cs0, c1, c2⟩ := h.blk hk
  have kk : KtB 4 lo wr (wr.setCell ⟨B k, i, none⟩ u) := KtB.set c1 i u
  refine ⟨h.all.kt kk (by decide) (by decide) (by decide), ?_, fun j x cs hj hx hDx hb => ?_⟩
  · obtain ⟨vs, hg⟩ := h.gd
    refine ⟨vs, own_kt hg.own kk (by decide), fun j hj => ?_, hg.ap⟩
    obtain ⟨a1, a2, cs, a3, a4⟩ := hg.row j hj
    by_cases e : j = k
    · subst e
      exact ⟨a1, a2, _, a3.set i u, by rw [Array.size_setIfInBounds]; exact a4⟩
    · exact ⟨a1, a2, cs, a3.off (h.ne hj hk e) u, a4⟩
  · by_cases e : j = k
    · subst e
      have hxi : i ≠ x := fun e => hD (by rw [e]; exact hDx)
      rw [blk_one hb (c1.set i u), Array.getElem?_setIfInBounds_ne hxi]
      exact h.val j x cs0 hj hx hDx c1
    · obtain ⟨_, cs1, d1, d2⟩ := h.blk hj
      rw [blk_one hb (d1.off (q := ⟨B k, i, none⟩) (h.ne hj hk e) u)]
      exact h.val j x cs1 hj hx hDx d1
theorem SzS.grow (h : SzS f bs gs wr lo ga ca gg cg B D) {k i : Nat} (hD : ∀ j x, D' j x → D j x ∨ (j = k ∧ x = i)) (hc : wr.cell? ⟨B k, i, none⟩ = some (.bool (gv f bs gs k i))) : SzS f bs gs wr lo ga ca gg cg B D' := by
  refine ⟨h.all, h.gd, fun j x cs hj hx hDx hb => ?_⟩
  rcases hD j x hDx with h1 | ⟨rfl, rfl⟩
  · exact h.val j x cs hj hx h1 hb
  · rw [← Blk.cell hb]; exact hc
theorem SzS.imp (h : SzS f bs gs wr lo ga ca gg cg B D) (hD : ∀ j x, j < bs.length → x < (spI f bs gs j).length → D' j x → D j x) : SzS f bs gs wr lo ga ca gg cg B D' :=
  ⟨h.all, h.gd, fun j x cs hj hx hDx hb => h.val j x cs hj hx (hD j x hj hx hDx) hb⟩
theorem SzS.gdAt (h : SzS f bs gs wr lo ga ca gg cg B D) {j : Nat} (hj : j < bs.length) : wr.cell? ⟨gg, j, none⟩ = some (.slice (some ⟨B j, 0, none⟩) (spI f bs gs j).length (spI f bs gs j).length) := by
  obtain ⟨vs, hg⟩ := h.gd
  rw [hg.own.cellAt j (by omega)]
  exact (hg.row j hj).1
theorem SzS.bl (h : SzS f bs gs wr lo ga ca gg cg B D) {j x : Nat} (hj : j < bs.length) (hx : x < (spI f bs gs j).length) : (∃ u, wr.cell? ⟨B j, x, none⟩ = some u) ∧ wr.frozen? ⟨B j, x, none⟩ = false ∧ B j < wr.heap.size ∧ lo ≤ B j := by
  obtain ⟨hl, cs, c1, c2⟩ := h.blk hj
  exact ⟨⟨cs[x]'(by omega), by rw [Blk.cell c1]; exact Array.getElem?_eq_getElem (by omega)⟩, c1.free x, c1.lt, hl⟩
theorem SzS.at' (h : SzS f bs gs wr lo ga ca gg cg B D) {j x : Nat} (hj : j < bs.length) (hx : x < (spI f bs gs j).length) (hD : D j x) : wr.cell? ⟨B j, x, none⟩ = some (.bool (gv f bs gs j x)) := by
  obtain ⟨_, cs, c1, _⟩ := h.blk hj
  rw [Blk.cell c1]
  exact h.val j x cs hj hx hD c1
end
/-- the marks that are laid: the last m rows whole, the one ahead of them up to i -/
def dn (N m i : Nat) (j x : Nat) : Prop := N ≤ j + m ∨ (j + m + 1 = N ∧ x < i)
theorem dn_z {N m j x : Nat} (h : dn N m 0 j x) : N ≤ j + m := by rcases h with h | ⟨_, h⟩ <;> omega
/-- over the first j chords of the next place p one can go on -/
def anK (f : Int) (bs : List Pi) (gs : List Int) (p : Nat) (x : List Pi) (j : Nat) : Bool := ((spI f bs gs p).take j).any fun y => gdR f bs gs (bs.length - 1 - p) y && decide (mvF x y = 0)
theorem anK_z (f : Int) (bs : List Pi) (gs : List Int) (p : Nat) (x : List Pi) : anK f bs gs p x 0 = false := rfl
theorem anK_s (f : Int) (bs : List Pi) (gs : List Int) (p : Nat) (x : List Pi) (j : Nat) (hj : j < (spI f bs gs p).length) : anK f bs gs p x (j + 1) = (anK f bs gs p x j || (gv f bs gs p j && decide (mvF x (atPP (spI f bs gs p) j) = 0))) := by
  unfold anK gv
  rw [take_snPP hj, List.any_append, List.any_cons, List.any_nil, Bool.or_false]
theorem anK_end (f : Int) (bs : List Pi) (gs : List Int) (k p i j : Nat) (hp : p = k + 1) (hk : k + 1 < bs.length) (h : (spI f bs gs p).length ≤ j ∨ anK f bs gs p (atPP (spI f bs gs k) i) j = true) : anK f bs gs p (atPP (spI f bs gs k) i) j = gv f bs gs k i := by
  subst hp
  unfold gv
  obtain ⟨q, hq⟩ : ∃ q, bs.length - 1 - (k + 1) = q := ⟨_, rfl⟩
  rw [show bs.length - 1 - k = q + 1 from by omega, gdR, show bs.length - 1 - q = k + 1 from by omega]
  rcases h with h | h
  · unfold anK
    rw [hq, List.take_of_length_le h]
  · rw [h]
    unfold anK at h
    rw [hq] at h
    symm
    obtain ⟨y, hy, h2⟩ := List.any_eq_true.1 h
    exact List.any_eq_true.2 ⟨y, List.mem_of_mem_take hy, h2⟩
theorem own_some {w : World} {base : Nat} {e : TypeId} {size : Nat} {v : Value} {n : Nat} {xs : List Value} (h : w.ownsRow base e size v n xs) (hn : 0 < n) : ∃ g c, v = .slice (some ⟨g, 0, none⟩) n c ∧ n ≤ c ∧ c ≤ maxLen ∧ base ≤ g ∧ g < w.heap.size := by
  rcases h.2 with ⟨_, h0⟩ | ⟨g, cap, cur, rfl, hb, hg, hnc, hcm, _, _⟩
  · omega
  · exact ⟨g, cap, rfl, hnc, hcm, hb, (own_lt h rfl).2⟩
theorem dn_step {N m i k j x : Nat} (hk : k + m + 1 = N) (h : dn N m (i + 1) j x) : dn N m i j x ∨ (j = k ∧ x = i) := by
  unfold dn at h ⊢; omega
theorem dn_not {N m i k : Nat} (hk : k + m + 1 = N) : ¬ dn N m i k i := by unfold dn; omega
theorem dn_row {N m i k j x : Nat} (hk : k + m + 1 = N) (hj : k < j) : dn N m i j x := by unfold dn; omega
theorem gv_last (f : Int) (bs : List Pi) (gs : List Int) (k i : Nat) (hk : k + 1 = bs.length) : gv f bs gs k i = true := by
  unfold gv
  rw [show bs.length - 1 - k = 0 from by omega]
  rfl
/-- the chords at the first k places -/
def rfQ (f : Int) (bs : List Pi) (gs : List Int) : Nat → Option (List (List Pi))
  | 0 => some []
  | k + 1 => rfO f bs gs k
/-- what the chord at place k must be -/
def prK (f : Int) (bs : List Pi) (gs : List Int) (L : List (List Pi)) (k : Nat) (x : List Pi) : Bool := gdR f bs gs (bs.length - 1 - k) x && (decide (k = 0) || decide (mvF (atPP L (k - 1)) x = 0))
theorem rfQ_s (f : Int) (bs : List Pi) (gs : List Int) (k : Nat) : rfQ f bs gs (k + 1) = (rfQ f bs gs k).bind fun L => ((spI f bs gs k).find? (prK f bs gs L k)).map fun x => L ++ [x] := by
  cases k with
  | zero =>
    show rfO f bs gs 0 = _
    rw [rfO, rfQ, Option.bind_some]
    refine congrArg _ (find_congr fun x _ => ?_)
    unfold prK
    rw [decide_eq_true rfl, Bool.true_or, Bool.and_true, Nat.sub_zero]
  | succ k =>
    show rfO f bs gs (k + 1) = _
    rw [rfO]
    show _ = (rfO f bs gs k).bind _
    refine congrArg _ (funext fun L => congrArg _ (find_congr fun x _ => ?_))
    unfold prK
    rw [decide_eq_false (show ¬ k + 1 = 0 by omega), Bool.false_or, Nat.add_sub_cancel]
theorem rfQ_none (f : Int) (bs : List Pi) (gs : List Int) (k : Nat) (h : rfQ f bs gs (k + 1) = none) : ∀ d, rfO f bs gs (k + d) = none
  | 0 => h
  | d + 1 => by show rfO f bs gs ((k + d) + 1) = none; rw [rfO, rfQ_none f bs gs k h d]; rfl
theorem rfQ_len (f : Int) (bs : List Pi) (gs : List Int) : ∀ (k : Nat) (L : List (List Pi)), rfQ f bs gs k = some L → L.length = k
  | 0, L, h => by cases h; rfl
  | k + 1, L, h => by
    rw [rfQ_s] at h
    obtain ⟨M, hM, h2⟩ := Option.bind_eq_some_iff.1 h
    obtain ⟨x, _, h3⟩ := Option.map_eq_some_iff.1 h2
    rw [← h3, List.length_append, rfQ_len f bs gs k M hM]
    rfl
theorem rfQ_four (f : Int) (bs : List Pi) (gs : List Int) : ∀ (k : Nat) (L : List (List Pi)), rfQ f bs gs k = some L → four L
  | 0, L, h => by cases h; intro i hi; cases hi
  | k + 1, L, h => by
    rw [rfQ_s] at h
    obtain ⟨M, hM, h2⟩ := Option.bind_eq_some_iff.1 h
    obtain ⟨x, hx, h3⟩ := Option.map_eq_some_iff.1 h2
    subst h3
    refine four_mem.2 fun y hy => ?_
    rcases List.mem_append.1 hy with hy | hy
    · exact four_mem.1 (rfQ_four f bs gs k M hM) y hy
    · rw [List.mem_singleton.1 hy]
      exact four_mem.1 (spI_four f bs gs k) x (List.mem_of_find?_eq_some hx)
theorem find_at {LL : List (List Pi)} {p : List Pi → Bool} {i : Nat} (hi : i < LL.length) (h : p (atPP LL i) = true) (hn : ∀ j, j < i → p (atPP LL j) = false) : LL.find? p = some (atPP LL i) := by
  have e : ∀ j (hj : j < LL.length), atPP LL j = LL[j] := fun j hj => by
    unfold atPP
    rw [List.getD_eq_getElem?_getD, List.getElem?_eq_getElem hj]
    rfl
  refine List.find?_eq_some_iff_getElem.2 ⟨h, i, hi, (e i hi).symm, fun j hj => ?_⟩
  rw [← e j (by omega), hn j hj]
  rfl
theorem find_no {LL : List (List Pi)} {p : List Pi → Bool} (hn : ∀ j, j < LL.length → p (atPP LL j) = false) : LL.find? p = none := by
  refine List.find?_eq_none.2 fun x hx => ?_
  obtain ⟨j, hj, rfl⟩ := List.getElem_of_mem hx
  have := hn j hj
  unfold atPP at this
  rw [List.getD_eq_getElem?_getD, List.getElem?_eq_getElem hj] at this
  simpa using this
theorem Onb.grown2 {g : Nat} {w a b : World} {row : Option Nat} (h : Onb g w a) (hg : a.grownBy b row) (hr : ∀ k, row = some k → k = g ∨ w.heap.size ≤ k) : Onb g w b :=
  ⟨hg.os.trans h.os, hg.tape.trans h.tape, hg.output.trans h.output, Nat.le_trans h.size hg.size, fun i hi hn => (hg.block i (Nat.lt_of_lt_of_le hi h.size) (fun e => by
    rcases hr i e.symm with h1 | h1
    · exact hn h1
    · omega)).trans (h.block i hi hn)⟩
end Go.Proofs.Ytpjakgnghpapmaa
