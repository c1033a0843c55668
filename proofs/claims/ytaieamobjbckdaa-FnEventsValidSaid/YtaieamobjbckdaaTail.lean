/- A region that draws its order, whose first operations only read or call what only makes memory, and whose last ones come up one by one behind them (an append, a store): the first walked once in whatever later world, the last in the order of the text. -/
import Derived.Test.YtaieamobjbckdaaLater
import Derived.StillTail
namespace Go.Proofs.Ytaieamobjbckdaa
set_option linter.unusedSimpArgs false
set_option linter.unusedVariables false
open Go.RowKit
section
variable {P : Program} {ops : Array Oper} {md : Region.Mode} {C : World → Prop}

/-- so long as the first n operations are not through, one of them comes up, and each is quiet in the class -/
def HeadQ (P : Program) (md : Region.Mode) (ops : Array Oper) (C : World → Prop) (n : Nat) (L : Array Bool → Act → Prop) : Nat → Array Bool → Act → Prop
  | 0, done, a => L done a
  | f + 1, done, a => Region.ready md ops done ≠ [] ∧ ∀ i, i ∈ Region.ready md ops done → i < n ∧ qOp P ops C i (HeadQ P md ops C n L f (done.setIfInBounds i true)) a

theorem HeadQ.any {n g : Nat} {L : Array Bool → Act → Prop} {Q' : Exit → Act → World → Prop} (hL : ∀ done a w, C w → L done a → wpAny P md ops Q' g done a w) (f : Nat) :
    ∀ done a w, C w → HeadQ P md ops C n L f done a → wpAny P md ops Q' (f + g) done a w := by
  induction f with
  | zero => intro done a w hw h; rw [Nat.zero_add]; exact hL _ _ _ hw h
  | succ f ih =>
    intro done a w hw h
    have e : f + 1 + g = (f + g) + 1 := by omega
    rw [e]
    exact ⟨fun h0 => absurd h0 h.1, fun i hi => wpOp_of_qOp hw (fun a' w' hw' h' => ih _ a' w' hw' h') (h.2 i hi).2⟩

theorem HeadQ.first {n i : Nat} {oi : Oper} {v : Value} {L : Array Bool → Act → Prop} (hi : ops[i]? = some oi) (nosel : ∀ (j : Nat) (o : Oper) cs b, ops[j]? = some o → o.op ≠ .select cs b)
    (I : Array Bool → Prop) (iset : ∀ done j, I done → j ∈ Region.ready md ops done → j < n → I (done.setIfInBounds j true)) (wait : ∀ done, I done → done.getD i true = false → ∀ t, n ≤ t → t ∉ Region.ready md ops done) (hin : i < n) (late : ∀ done a, L done a → ∀ j, j ∈ Region.ready md ops done → n ≤ j) (f : Nat) :
    ∀ done a, I done → (∀ j oj, ops[j]? = some oj → j ≠ i → done.getD j true = false → (∀ e ∈ oj.after, Region.binds md e = true → e.on ≠ i) → oi.apart ops oj = true) →
      i ∈ Region.ready md ops done → YieldsIn P ops C oi v a → HeadQ P md ops C n L f (done.setIfInBounds i true) (a.put oi.dst v) → HeadQ P md ops C n L (f + 1) done a := by
  induction f with
  | zero =>
    intro done a inv _ hr hy H
    have todo := (mem_ready.1 hr).1
    refine ⟨(fun h => by rw [h] at hr; cases hr), fun j hj => ?_⟩
    have hjn : j < n := Nat.lt_of_not_le fun h => wait done inv todo j h hj
    refine ⟨hjn, ?_⟩
    by_cases e : j = i
    · subst e; exact hy.qOp hi H
    · exact absurd (late _ _ H j (ready_mono hj e)) (by omega)
  | succ f ih =>
    intro done a inv fr hr hy H
    have todo := (mem_ready.1 hr).1
    refine ⟨(fun h => by rw [h] at hr; cases hr), fun j hj => ?_⟩
    have hjn : j < n := Nat.lt_of_not_le fun h => wait done inv todo j h hj
    refine ⟨hjn, ?_⟩
    by_cases e : j = i
    · subst e; exact hy.qOp hi H
    · obtain ⟨jtodo, oj, hoj, all⟩ := mem_ready.1 hj
      have hno : ∀ e ∈ oj.after, Region.binds md e = true → e.on ≠ i := fun e' he hb heq => by
        have := all e' he hb
        rw [heq, getD_both todo] at this
        cases this
      have swap := qOp_put hoj (fr j oj hoj e jtodo hno) (fun cs b => nosel i oi cs b hi) (fun cs b => nosel j oj cs b hoj) hy (H.2 j (ready_mono hj e)).2
      refine qOp_mono (fun a' h3 => ih (done.setIfInBounds j true) a' (iset _ _ inv hj hjn) (fun k ok hk hki un no => fr k ok hk hki ?_ no) (ready_mono hr (Ne.symm e)) h3.1 ?_) swap
      · by_cases jk : j = k
        · subst jk; exact jtodo
        · rw [getD_set_ne true jk] at un; exact un
      · rw [Array.setIfInBounds_comm _ _ e]; exact h3.2

theorem HeadQ.lex {n g : Nat} {Lq : Act → Prop} (nosel : Region.noSelect ops = true) (lo : Nat) (I : Array Bool → Prop) (iset : ∀ done j, I done → j ∈ Region.ready md ops done → j < n → I (done.setIfInBounds j true)) (wait : ∀ i, lo ≤ i → i < n → ∀ done, I done → done.getD i true = false → ∀ t, n ≤ t → t ∉ Region.ready md ops done) (l : List Oper) :
    ∀ (k : Nat) (done : Array Bool) (a : Act), lo ≤ k → (∀ j, j < l.length → l[j]? = ops[k + j]?) → k + l.length = n → I done → Region.lexHead md ops g l.length k done = true → wpQuiet P ops C Lq l a →
    HeadQ P md ops C n (fun d a' => Region.seqB md ops g n d = true ∧ Lq a') l.length done a := by
  induction l with
  | nil =>
    intro k done a _ _ hk _ hB h
    obtain rfl : k = n := by simpa using hk
    exact ⟨by simpa [Region.lexHead] using hB, h⟩
  | cons o l ih =>
    intro k done a hlo hl hk inv hB h
    have h0 : ops[k]? = some o := by simpa using (hl 0 (by simp)).symm
    simp only [List.length_cons, Region.lexHead, Bool.and_eq_true] at hB hk
    have hr : k ∈ Region.ready md ops done := by simpa using hB.1.1
    have hq : qOp P ops C k (wpQuiet P ops C Lq l) a := by unfold qOp; simp only [h0]; exact h
    obtain ⟨v, hy, hK⟩ := yieldsIn_of_qOp h0 hq
    refine HeadQ.first h0 (Region.noSelect_spec nosel) I iset (wait k hlo (by omega)) (by omega) (fun d a' hL => seqB_ready hL.1) l.length done a inv (Region.free_spec h0 hB.1.2) hr hy ?_
    exact ih (k + 1) _ _ (by omega) (fun j hj => by have := hl (j + 1) (by simp; omega); simpa [Nat.add_assoc, Nat.add_comm 1 j] using this) (by omega) (iset _ _ inv hr (by omega)) hB.2 hK
end

theorem region_tail {P : Program} {id : Nat} {Q : Exit → Act → World → Prop} {a : Act} {w0 w : World} {l : List Oper} (n : Nat) (hm : P.follows .mixedOrders = true) (hB : Region.lexTailB .any l.toArray n = true) (hb : Below w0.heap.size w0 w)
    (h : wpQuiet P l.toArray (fun W => ∃ x : Later w0, W = x.world) (fun a' => ∀ w' : World, (∃ x : Later w0, w' = x.world) → wpList P l.toArray Q (l.drop n) a' w') (l.take n) a) : (Code.region id l.toArray true).wp P Q a w := by
  simp only [Region.lexTailB, Bool.and_eq_true, decide_eq_true_eq] at hB
  obtain ⟨⟨⟨⟨nosel, hn⟩, sink⟩, chain⟩, hlex⟩ := hB
  have hn' : n < l.length := by simpa using hn
  have tl : (l.take n).length = n := by simp; omega
  have dl : (l.drop n).length = l.toArray.size - n := by simp
  have inv0 : HeadInv .any l.toArray n (Array.replicate l.toArray.size false) :=
    ⟨by simp, fun j oj _ hl => (by rw [getD_replicate_false] at hl; cases hl), fun t _ ht => getD_in (by simpa using ht) (getD_replicate_false _ _)⟩
  have H := HeadQ.lex (md := .any) (g := l.toArray.size - n) nosel 0 (HeadInv .any l.toArray n) (fun _ _ inv h1 h2 => inv.set h1 h2) (fun i _ hi done inv todo => tail_waits sink chain hn inv _ i rfl hi todo) (l.take n) 0 _ a (Nat.le_refl _) (fun j hj => by rw [tl] at hj; simp [hj]) (by simpa using tl) inv0 (by rw [tl]; exact hlex) h
  refine wp_region_any hm ?_
  have := HeadQ.any (Q' := Q) (g := l.toArray.size - n) (fun d a' w' hw' hL => by
    have := wpAny_of_seq (md := .any) (Q' := Q) (l.drop n) n d a' w' (fun j => by simp [List.getElem?_drop]) (by rw [dl]; exact hL.1) (hL.2 w' hw')
    rwa [dl] at this) _ _ _ { w with drawn := w.drawn + 1 } ⟨⟨_, bel_dr hb⟩, rfl⟩ H
  rwa [tl, show n + (l.toArray.size - n) = l.toArray.size by omega] at this
/-- as Region.sinkB, but the first operation may come up late -/
def sink1B (md : Region.Mode) (ops : Array Oper) (n : Nat) : Bool :=
  (List.range n).all fun i => i == 0 || (List.range (n + 1)).any fun j => decide (i < j) && Region.waitsFor md ops j i
theorem tail_waits1 {md : Region.Mode} {ops : Array Oper} {n : Nat} {listed : Array Bool} (hs : sink1B md ops n = true) (hc : Region.chainB md ops n = true) (hn : n < ops.size) (inv : HeadInv md ops n listed) :
    ∀ (d i : Nat), n - i = d → 1 ≤ i → i < n → listed.getD i true = false → ∀ t, n ≤ t → t ∉ Region.ready md ops listed := by
  intro d
  induction d using Nat.strongRecOn with
  | _ d ih =>
    intro i hd hi1 hi hun t ht hr
    obtain ⟨_, ot, hot, hall⟩ := mem_ready.1 hr
    have htlt : t < ops.size := (Array.getElem?_eq_some_iff.1 hot).1
    by_cases htn : t = n
    · subst htn
      have h0 := List.all_eq_true.1 hs i (List.mem_range.2 hi)
      have h1 : ((List.range (t + 1)).any fun j => decide (i < j) && Region.waitsFor md ops j i) = true := by
        simp only [Bool.or_eq_true, beq_iff_eq] at h0
        exact h0.resolve_left (by omega)
      obtain ⟨j, hj, hj2⟩ := List.any_eq_true.1 h1
      simp only [Bool.and_eq_true, decide_eq_true_eq] at hj2
      obtain ⟨oj, hoj, e, he, hb, hon⟩ := Region.waitsFor_spec hj2.2
      have hjle : j ≤ t := by have := List.mem_range.1 hj; omega
      by_cases hjt : j = t
      · subst hjt
        have : oj = ot := Option.some.inj (hoj.symm.trans hot)
        subst this
        have h2 := hall e he hb
        rw [hon, getD_both hun] at h2
        cases h2
      · cases hl : listed.getD j false with
        | true =>
          have h2 := inv.closed j oj hoj hl e he hb
          rw [hon, getD_both hun] at h2
          cases h2
        | false =>
          have hjs : j < listed.size := by rw [inv.size]; omega
          exact ih (t - j) (by omega) j rfl (by omega) (by omega) (getD_in hjs hl) t (Nat.le_refl _) hr
    · have h1 := List.all_eq_true.1 hc t (List.mem_range.2 htlt)
      simp only [Bool.or_eq_true, decide_eq_true_eq] at h1
      rcases h1 with h1 | h1
      · omega
      · obtain ⟨o', ho', e, he, hb, hon⟩ := Region.waitsFor_spec h1
        have : o' = ot := Option.some.inj (ho'.symm.trans hot)
        subst this
        have h2 := hall e he hb
        rw [hon, getD_both (inv.tail (t - 1) (by omega) (by omega))] at h2
        cases h2
def lexTail1B (md : Region.Mode) (ops : Array Oper) (n : Nat) : Bool :=
  Region.noSelect ops && decide (n < ops.size) && decide (0 < n) && sink1B md ops n && Region.chainB md ops n && Region.free md ops (Array.replicate ops.size false) 0 && (Region.ready md ops (Array.replicate ops.size false)).contains 0 &&
    Region.lexHead md ops (ops.size - n) (n - 1) 1 ((Array.replicate ops.size false).setIfInBounds 0 true)
/-- the first operation (a plain move, as the slice that is appended to) is taken first, though it may come up late -/
theorem region_tail1 {P : Program} {id : Nat} {Q : Exit → Act → World → Prop} {a : Act} {w0 w : World} {o0 : Oper} {l : List Oper} {v : Value} (n : Nat) (hm : P.follows .mixedOrders = true) (hB : lexTail1B .any (o0 :: l).toArray (n + 1) = true) (hb : Below w0.heap.size w0 w)
    (hQ : ∀ c a w, Q (.panic c) (a.put o0.dst v) w → Q (.panic c) a w) (hy : Yields P (o0 :: l).toArray o0 v a)
    (h : wpQuiet P (o0 :: l).toArray (fun W => ∃ x : Later w0, W = x.world) (fun a' => ∀ w' : World, (∃ x : Later w0, w' = x.world) → wpList P (o0 :: l).toArray Q (l.drop n) a' w') (l.take n) (a.put o0.dst v)) : (Code.region id (o0 :: l).toArray true).wp P Q a w := by
  simp only [lexTail1B, Bool.and_eq_true, decide_eq_true_eq] at hB
  obtain ⟨⟨⟨⟨⟨⟨⟨nosel, hn⟩, _⟩, sink⟩, chain⟩, free⟩, hr⟩, hlex⟩ := hB
  have hn' : n < l.length := by simpa using hn
  have tl : (l.take n).length = n := by simp; omega
  have dl : (l.drop n).length = (o0 :: l).toArray.size - (n + 1) := by simp
  have inv0 : HeadInv .any (o0 :: l).toArray (n + 1) (Array.replicate (o0 :: l).toArray.size false) :=
    ⟨by simp, fun j oj _ hl => (by rw [getD_replicate_false] at hl; cases hl), fun t _ ht => getD_in (by simpa using ht) (getD_replicate_false _ _)⟩
  have hr' : 0 ∈ Region.ready .any (o0 :: l).toArray (Array.replicate (o0 :: l).toArray.size false) := by simpa using hr
  have inv1 := inv0.set hr' (by omega)
  have H := HeadQ.lex (md := .any) (g := (o0 :: l).toArray.size - (n + 1)) nosel 1 (HeadInv .any (o0 :: l).toArray (n + 1)) (fun _ _ inv h1 h2 => inv.set h1 h2) (fun i h1 hi done inv todo => tail_waits1 sink chain hn inv _ i rfl h1 hi todo) (l.take n) 1 _ _ (Nat.le_refl _) (fun j hj => by rw [tl] at hj; simp [hj, Nat.add_comm 1 j]) (by rw [tl]; omega) inv1 (by rw [tl]; exact hlex) h
  refine wp_region_any hm ?_
  have hs : (o0 :: l).toArray.size = (n + ((o0 :: l).toArray.size - (n + 1))) + 1 := by omega
  have hs2 : (o0 :: l).toArray.size + 1 = ((o0 :: l).toArray.size) + 1 := rfl
  have F := HeadQ.any (Q' := Q) (g := (o0 :: l).toArray.size - (n + 1)) (fun d a' w' hw' hL => by
    have := wpAny_of_seq (md := .any) (Q' := Q) (l.drop n) (n + 1) d a' w' (fun j => by rw [List.getElem?_drop, List.getElem?_toArray, show n + 1 + j = (n + j) + 1 by omega, List.getElem?_cons_succ]) (by rw [dl]; exact hL.1) (hL.2 w' hw')
    rwa [dl] at this) _ _ _ { w with drawn := w.drawn + 1 } ⟨⟨_, bel_dr hb⟩, rfl⟩ H
  rw [tl] at F
  have G := wpAny_take (i := 0) (oi := o0) (by simp) nosel free hr hQ hy F
  rwa [← hs] at G
end Go.Proofs.Ytaieamobjbckdaa
