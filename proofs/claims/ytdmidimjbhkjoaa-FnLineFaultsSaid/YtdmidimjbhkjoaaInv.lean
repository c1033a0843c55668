/- A region that draws its order, walked operation by operation, once each, under an invariant that speaks of what is done. -/
import Derived.Test.YtdmidimjbhkjoaaBp
import Derived.RegionTactic
namespace Go.Proofs.Ytdmidimjbhkjoaa
set_option linter.unusedSimpArgs false
set_option linter.unusedVariables false
open Go.RowKit
section
variable {P : Program} {ops : Array Oper} {md : Region.Mode} {Q : Exit → Act → World → Prop}

def updD (D : Nat → Bool) (i : Nat) : Nat → Bool := fun j => if j = i then true else D j
theorem updD_of {D : Nat → Bool} {i j : Nat} (h : D j = true) : updD D i j = true := by unfold updD; split <;> first | rfl | exact h
def undone (n : Nat) (done : Array Bool) : Nat := (List.range n).countP fun i => !done.getD i true
theorem undone_zero {n : Nat} {done : Array Bool} (h : undone n done = 0) (i : Nat) (hi : i < n) : done.getD i true = true := by
  unfold undone at h
  rw [List.countP_eq_zero] at h
  have := h i (List.mem_range.2 hi)
  simpa using this
theorem done_set {done : Array Bool} {i : Nat} (hi : done.getD i true = false) : (fun j => (done.setIfInBounds i true).getD j true) = updD (fun j => done.getD j true) i := by
  have hlt : i < done.size := by
    rcases Nat.lt_or_ge i done.size with h | h
    · exact h
    · simp [Array.getD, Nat.not_lt.2 h] at hi
  funext j
  unfold updD
  by_cases e : j = i
  · subst e
    simp [Array.getD, hlt]
  · rw [if_neg e]
    exact getD_set_ne true (Ne.symm e)
theorem countP_upd (p q : Nat → Bool) (i : Nat) : ∀ n, i < n → p i = true → q i = false → (∀ j, j ≠ i → q j = p j) → (List.range n).countP q + 1 = (List.range n).countP p := by
  intro n
  induction n with
  | zero => intro h; omega
  | succ n ih =>
    intro h hp hq he
    rw [List.range_succ, List.countP_append, List.countP_append]
    rcases Nat.lt_or_ge i n with h1 | h1
    · have := ih h1 hp hq he
      have e : List.countP q [n] = List.countP p [n] := by simp [List.countP_cons, he n (by omega)]
      omega
    · obtain rfl : i = n := by omega
      have e : (List.range i).countP q = (List.range i).countP p := List.countP_congr (fun j hj => by rw [he j (by have := List.mem_range.1 hj; omega)])
      simp [List.countP_cons, hp, hq, e]
theorem undone_set {n : Nat} {done : Array Bool} {i : Nat} (hi : i < n) (hd : done.getD i true = false) : undone n (done.setIfInBounds i true) + 1 = undone n done := by
  unfold undone
  have e := done_set hd
  refine countP_upd _ _ i n hi (by simp [hd]) ?_ ?_
  · have := congrFun e i
    simp only [updD, if_true] at this
    simp only [this, Bool.not_true]
  · intro j hj
    have := congrFun e j
    simp only [updD, if_neg hj] at this
    simp only [this]
/-- every operation waits for earlier ones alone -/
def lowB (md : Region.Mode) (ops : Array Oper) : Bool := (List.range ops.size).all fun i => match ops[i]? with | some o => o.after.all fun e => !Region.binds md e || decide (e.on < i) | none => true
theorem lowB_ready (h : lowB md ops = true) {done : Array Bool} : ∀ n i, i < n → i < ops.size → done.getD i true = false → done.size = ops.size → Region.ready md ops done ≠ [] := by
  intro n
  induction n with
  | zero => intro i h; omega
  | succ n ih =>
    intro i hi hs hd hz
    by_cases hr : i ∈ Region.ready md ops done
    · intro e; rw [e] at hr; cases hr
    · have ho : ops[i]? = some (ops[i]'hs) := Array.getElem?_eq_getElem hs
      have hl := List.all_eq_true.1 h i (List.mem_range.2 hs)
      simp only [ho] at hl
      have : ∃ e ∈ (ops[i]'hs).after, Region.binds md e = true ∧ done.getD e.on false = false := by
        refine Classical.byContradiction fun hc => hr (mem_ready.2 ⟨hd, _, ho, fun e he hbd => ?_⟩)
        cases hb : done.getD e.on false with
        | true => rfl
        | false => exact absurd ⟨e, he, hbd, hb⟩ hc
      obtain ⟨e, he, hbd, hf⟩ := this
      have hlt : e.on < i := by
        have := Array.all_eq_true'.1 hl e he
        simpa [hbd] using this
      refine ih e.on (by omega) (by omega) ?_ hz
      have : e.on < done.size := by omega
      simpa [Array.getD, this] using hf
theorem wpAny_inv (low : lowB md ops = true) (I : (Nat → Bool) → Act → World → Prop)
    (hstep : ∀ i o, i < ops.size → ops[i]? = some o → ∀ (D : Nat → Bool) a w, D i = false → (∀ e, e ∈ o.after → Region.binds md e = true → D e.on = true) → I D a w → wpOp P ops Q i (I (updD D i)) a w)
    (hend : ∀ (D : Nat → Bool) a w, (∀ i, i < ops.size → D i = true) → I D a w → Q .normal a w) :
    ∀ fuel (done : Array Bool) a w, done.size = ops.size → undone ops.size done ≤ fuel → I (fun j => done.getD j true) a w → wpAny P md ops Q fuel done a w := by
  have fin : ∀ (done : Array Bool), done.size = ops.size → Region.ready md ops done = [] → ∀ i, i < ops.size → done.getD i true = true := fun done hz hr i hi => by
    cases hd : done.getD i true with
    | true => rfl
    | false => exact absurd hr (lowB_ready low (i + 1) i (by omega) hi hd hz)
  intro fuel
  induction fuel with
  | zero =>
    intro done a w hz hu hI
    have hall := undone_zero (Nat.le_zero.1 hu)
    refine ⟨?_, hend _ _ _ hall hI⟩
    cases hr : Region.ready md ops done with
    | nil => rfl
    | cons i r =>
      have hm : i ∈ Region.ready md ops done := by rw [hr]; exact List.mem_cons_self
      obtain ⟨hd, o, ho, _⟩ := mem_ready.1 hm
      have := hall i (Array.getElem?_eq_some_iff.1 ho).1
      rw [hd] at this; cases this
  | succ fuel ih =>
    intro done a w hz hu hI
    refine ⟨fun hr => hend _ _ _ (fin done hz hr) hI, fun i hi => ?_⟩
    obtain ⟨hd, o, ho, hdep⟩ := mem_ready.1 hi
    have hlt : i < ops.size := (Array.getElem?_eq_some_iff.1 ho).1
    refine wpOp_mono (fun a' w' h' => ?_) (hstep i o hlt ho (fun j => done.getD j true) a w hd (fun e he hb => ?_) hI)
    · rw [← done_set hd] at h'
      exact ih _ _ _ (by simpa using hz) (by have := undone_set hlt hd; omega) h'
    · have h1 := hdep e he hb
      have : e.on < done.size := by
        rcases Nat.lt_or_ge e.on done.size with h | h
        · exact h
        · simp [Array.getD, Nat.not_lt.2 h] at h1
      simpa [Array.getD, this] using h1
/-- an activation with new values in some of its slots -/
def puts (a : Act) : List (Nat × Value) → Act
  | [] => a
  | x :: r => (puts a r).put (some x.1) x.2
def updL (ps : List (Nat × Value)) (d : Nat) (v : Value) : List (Nat × Value) := ps.map fun x => if x.1 = d then (d, v) else x
theorem put_put (a : Act) (d : Nat) (u v : Value) : (a.put (some d) u).put (some d) v = a.put (some d) v := by
  simp [Act.put]
theorem puts_upd (a : Act) (d : Nat) (v : Value) : ∀ ps : List (Nat × Value), (puts a (updL ps d v)).put (some d) v = (puts a ps).put (some d) v
  | [] => rfl
  | x :: r => by
    show (puts a ((if x.1 = d then (d, v) else x) :: updL r d v)).put (some d) v = _
    by_cases e : x.1 = d
    · rw [if_pos e]
      show ((puts a (updL r d v)).put (some d) v).put (some d) v = ((puts a r).put (some x.1) x.2).put (some d) v
      rw [put_put, puts_upd a d v r, e, put_put]
    · rw [if_neg e]
      show ((puts a (updL r d v)).put (some x.1) x.2).put (some d) v = ((puts a r).put (some x.1) x.2).put (some d) v
      rw [Act.put_comm _ _ _ (fun d' h h' => e (by cases h; exact Option.some.inj h'.symm)), puts_upd a d v r, Act.put_comm _ _ _ (fun d' h h' => e (by cases h; exact (Option.some.inj h')))]
theorem puts_put (a : Act) (d : Nat) (v : Value) : ∀ ps : List (Nat × Value), d ∈ ps.map Prod.fst → (puts a ps).put (some d) v = puts a (updL ps d v)
  | [], h => by cases h
  | x :: r, h => by
    show ((puts a r).put (some x.1) x.2).put (some d) v = puts a ((if x.1 = d then (d, v) else x) :: updL r d v)
    by_cases e : x.1 = d
    · rw [if_pos e]
      show _ = (puts a (updL r d v)).put (some d) v
      rw [puts_upd, e, put_put]
    · rw [if_neg e]
      show _ = (puts a (updL r d v)).put (some x.1) x.2
      have hr : d ∈ r.map Prod.fst := by
        rcases List.mem_cons.1 h with h | h
        · exact absurd h.symm e
        · exact h
      rw [Act.put_comm _ _ _ (fun d' h h' => e (by cases h; exact Option.some.inj h'.symm)), puts_put a d v r hr]
theorem put_self (a : Act) (d : Nat) : a.put (some d) (a.eval (.tmp d)) = a := by
  obtain ⟨tmps, defers⟩ := a
  simp only [Act.put, Act.eval]
  congr 1
  apply Array.ext_getElem?
  intro j
  by_cases e : d = j
  · subst e
    by_cases h : d < tmps.size
    · simp [Array.getD, h]
    · simp [h]
  · rw [Array.getElem?_setIfInBounds_ne e]
theorem puts_self (a : Act) : ∀ ds : List Nat, puts a (ds.map fun d => (d, a.eval (.tmp d))) = a
  | [] => rfl
  | d :: r => by
    show (puts a (r.map fun d => (d, a.eval (.tmp d)))).put (some d) (a.eval (.tmp d)) = a
    rw [puts_self a r, put_self]
/-- a region that draws its order under an invariant on the slots ds and the memory -/
theorem region_slots {id : Nat} {a : Act} {w : World} {l : List Oper} (hm : P.follows .mixedOrders = true) (low : lowB .any l.toArray = true) (ds : List Nat) (R : (Nat → Bool) → List Value → World → Prop)
    (h0 : ∀ us, us.length = ds.length → R (fun j => decide (l.length ≤ j)) us w.drew)
    (hstep : ∀ i o, i < l.length → l[i]? = some o → ∀ (D : Nat → Bool) us W, us.length = ds.length → D i = false → (∀ e, e ∈ o.after → Region.binds .any e = true → D e.on = true) → R D us W →
      wpOp P l.toArray Q i (fun a' W' => ∃ us', us'.length = ds.length ∧ a' = puts a (ds.zip us') ∧ R (updD D i) us' W') (puts a (ds.zip us)) W)
    (hend : ∀ (D : Nat → Bool) us W, us.length = ds.length → (∀ i, i < l.length → D i = true) → R D us W → Q .normal (puts a (ds.zip us)) W) : (Code.region id l.toArray true).wp P Q a w := by
  refine wp_region_any hm (wpAny_inv (md := .any) low (fun D a' W => ∃ us : List Value, us.length = ds.length ∧ a' = puts a (ds.zip us) ∧ R D us W) ?_ ?_ _ _ _ _ (by simp) (by unfold undone; exact Nat.le_trans List.countP_le_length (by simp)) ?_)
  · rintro i o hi ho D a' W hd hdep ⟨us, hu, rfl, hR⟩
    exact hstep i o (by simpa using hi) (by simpa using ho) D us W hu hd hdep hR
  · rintro D a' W hall ⟨us, hu, rfl, hR⟩
    exact hend D us W hu (fun i hi => hall i (by simpa using hi)) hR
  · refine ⟨ds.map fun d => a.eval (.tmp d), by simp, ?_, ?_⟩
    · have e : ds.zip (ds.map fun d => a.eval (.tmp d)) = ds.map fun d => (d, a.eval (.tmp d)) := by
        generalize ds = k
        induction k with
        | nil => rfl
        | cons d r ih => simp [ih]
      rw [e, puts_self]
    · have h := h0 (ds.map fun d => a.eval (.tmp d)) (by simp)
      have e : (fun j => (Array.replicate l.toArray.size false).getD j true) = fun j => decide (l.length ≤ j) := by
        funext j
        by_cases hj : j < l.length
        · simp [Array.getD, hj]
        · simp [Array.getD, hj]; omega
      rw [e]
      exact h
end
end Go.Proofs.Ytdmidimjbhkjoaa
