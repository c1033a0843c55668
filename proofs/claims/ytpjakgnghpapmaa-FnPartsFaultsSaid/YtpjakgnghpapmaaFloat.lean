/- A region whose first operations read, or call what only makes memory, with an allocation that may come up anywhere among them, and a tail behind all. -/
import Derived.Test.YtpjakgnghpapmaaTail
import Derived.Test.YtpjakgnghpapmaaBa
import Derived.Control
namespace Go.Proofs.Ytpjakgnghpapmaa
set_option linter.unusedSimpArgs false
set_option linter.unusedVariables false
open Go.RowKit

def CL (w0 : World) (W : World) : Prop := ∃ x : Later w0, W = x.world
theorem CL.refl (w : World) : CL w w := ⟨⟨w, bel_refl w⟩, rfl⟩
theorem CL.bel {w0 W : World} (h : CL w0 W) : Below w0.heap.size w0 W := by obtain ⟨x, rfl⟩ := h; exact x.bel
theorem CL.of {w0 W : World} (h : Below w0.heap.size w0 W) : CL w0 W := ⟨⟨W, h⟩, rfl⟩
theorem CL.trans {a b c : World} (h : CL a b) (k : CL b c) : CL a c := CL.of (bel_tr h.bel k.bel)
theorem run_same {P : Program} {a b : Nat} {m : Machine} {o o' : Outcome} {w w' : World} (h : runN P a m = .ended o w) (h' : runN P b m = .ended o' w') : o = o' := by
  have k : ∀ (a : Nat) (o : Outcome) (w : World), runN P a m = .ended o w → ∀ c, runN P (a + c) m = .ended o w := fun a o w h c => by rw [runN_add, h]
  have h1 := k a o w h b
  have h2 := k b o' w' h' a
  rw [Nat.add_comm, h2] at h1
  cases h1; rfl
theorem calls_same {P : Program} {f : FuncId} {args : Array Value} {w : World} {v v' : Value} {C C' : World → Prop} (h : Calls P f args w fun e w' => e = .returned v ∧ C w') (h' : Calls P f args w fun e w' => e = .returned v' ∧ C' w') (hi : P.inits.idxOf? f = none) : v = v' := by
  obtain ⟨n, u, w1, r1, e1⟩ := Calls.done (R := fun u _ => u = v) (h.mono (by rintro e w' ⟨rfl, _⟩; exact rfl)) hi
  obtain ⟨m, u', w2, r2, e2⟩ := Calls.done (R := fun u _ => u = v') (h'.mono (by rintro e w' ⟨rfl, _⟩; exact rfl)) hi
  have := run_same r1 r2
  cases this
  exact e1.symm.trans e2
theorem v_enter {P : Program} {α : Type} {s : Sem α} {g : α → Value} {W W' : World} {f : FuncId} {args : Array Value} (h : (s >>= fun x => pure (Next.value (g x)) : Sem Next).run P W = .ok (.enter f args) W') : False := by
  rw [Sem.run_bind] at h
  cases hs : s.run P W with
  | ok u w1 => rw [hs] at h; simp [Result.andThen, Sem.run_pure] at h
  | halt x w1 => rw [hs] at h; simp [Result.andThen] at h
/-- an operation that enters no function but one with a body that is no initializer -/
def headOk (P : Program) (o : Oper) : Bool := match o.op with
  | .move _ | .assign _ | .pick .. | .load .. | .binOp .. | .unOp .. | .build .. | .fieldAddr .. | .field .. | .indexAddr .. | .index .. | .extract .. => true
  | .call c => match c.callee with
    | .value (.func k) => (P.inits.idxOf? k).isNone && (match P.funcs[k]? with | some fn => !fn.body.isNone | none => false)
    | _ => false
  | _ => false
theorem head_enter {P : Program} {o : Oper} {a : Act} {W W' : World} {f : FuncId} {args : Array Value} (h : headOk P o = true) (he : (execOp a.eval o).run P W = .ok (.enter f args) W') : P.inits.idxOf? f = none := by
  obtain ⟨dst, op, type, pos, after, guard⟩ := o
  unfold headOk at h
  cases op <;> simp only at h <;> (try cases h)
  case move x => simp [execOp] at he
  case assign x => simp [execOp] at he
  case pick c x y => exact (v_enter (s := asBool (a.eval c)) (g := fun b => if b then a.eval x else a.eval y) he).elim
  case load t x => exact (v_enter (g := id) he).elim
  case binOp b t x y t2 => exact (v_enter (g := id) he).elim
  case unOp b t x => exact (v_enter (g := id) he).elim
  case build t ps => exact (v_enter (g := id) he).elim
  case fieldAddr t x i => exact (v_enter (g := id) he).elim
  case field t x i => exact (v_enter (g := id) he).elim
  case indexAddr t x i => exact (v_enter (g := id) he).elim
  case index t x i => exact (v_enter (g := id) he).elim
  case extract t i => exact (v_enter (g := id) he).elim
  case call c =>
    obtain ⟨callee, argz, ats⟩ := c
    cases callee with
    | builtin b => cases h
    | invoke r m => cases h
    | value x =>
      cases x with
      | func k =>
        simp only [Bool.and_eq_true, Option.isNone_iff_eq_none] at h
        obtain ⟨h1, h2⟩ := h
        cases hf : P.funcs[k]? with
        | none => rw [hf] at h2; cases h2
        | some fn =>
          rw [hf] at h2
          have h3 : fn.body.isNone = false := by
            have h2' : (!fn.body.isNone) = true := h2
            cases hb : fn.body.isNone
            · rfl
            · rw [hb] at h2'; cases h2'
          simp [execOp, resolve, Deferred.ofValue, Act.eval, invoke, callFunc, hf, h3, Sem.run_bind, Result.andThen] at he
          have h4 : ¬ fn.body = none := by intro c; rw [c] at h3; cases h3
          split at he
          · cases he
          · first | (cases he; exact h1) | (rw [if_neg h4] at he; cases he; exact h1)
      | _ => cases h
theorem quiet_same {P : Program} {o : Oper} {a : Act} {w : World} {v v' : Value} {C C' : World → Prop} (h : o.quietAt P a C w v) (h' : o.quietAt P a C' w v') (hi : headOk P o = true) : v = v' := by
  unfold Oper.quietAt at h h'
  generalize hr : (execOp a.eval o).run P w = r at h h'
  cases r with
  | ok n w' =>
    cases n <;> simp only [Oper.quietUpon] at h h'
    case value u => exact h.2.symm.trans h'.2
    case skip => exact h.2.trans h'.2.symm
    case enter f args => exact calls_same h.2 h'.2 (head_enter hi hr)
  | halt x w' => simp only [Oper.quietUpon] at h
section
variable {P : Program} {ops : Array Oper} {md : Region.Mode} {w0 : World} {n g d : Nat} {oa : Oper} {Z : Array Value} {T : TypeId} {Q' : Exit → Act → World → Prop} {L : Array Bool → Act → Prop}

theorem yields_same {C C' : World → Prop} {o : Oper} {a : Act} {v v' : Value} {W : World} (h : YieldsIn P ops C o v a) (h' : YieldsIn P ops C' o v' a) (hC : C W) (hC' : C' W) (hi : headOk P o = true) : v' = v := by
  rcases h with ⟨w1, h⟩ | ⟨w1, rfl⟩ <;> rcases h' with ⟨w2, h'⟩ | ⟨w2, rfl⟩
  · exact quiet_same (h' W hC') (h W hC) hi
  · rw [w1] at w2; cases w2
  · rw [w1] at w2; cases w2
  · rfl
theorem float_any (hI : ∀ j oj, ops[j]? = some oj → j < n → headOk P oj = true) (ha : ops[n]? = some oa) (hoa : ∀ (a : Act) W, (execOp a.eval oa).run P W = .ok (.value (.pointer (some ⟨W.heap.size, 0, none⟩))) (W.alloc (.cells Z T)))
    (hg : oa.guard = none) (hd : oa.dst = some d) (free : ∀ done : Array Bool, done.getD n true = false → n ∈ Region.ready md ops done) (hsel : ∀ (j : Nat) (o : Oper) cs b, ops[j]? = some o → o.op ≠ .select cs b)
    (apart : ∀ j oj, ops[j]? = some oj → j < n → d ∉ oj.looksAt ops ∧ oj.dst ≠ some d) (late : ∀ done : Array Bool, done.getD n true = false → ∀ j, n < j → j ∉ Region.ready md ops done)
    (hL : ∀ done a W B, L done a → CL w0 W → Blk W B Z T → w0.heap.size ≤ B → wpAny P md ops Q' g done (a.put (some d) (.pointer (some ⟨B, 0, none⟩))) W) (hLl : ∀ done a, L done a → ∀ j, j ∈ Region.ready md ops done → n < j) :
    ∀ f (done : Array Bool) a, HeadQ P md ops (CL w0) n L f (done.setIfInBounds n true) a → (∀ W, CL w0 W → HeadQ P md ops (CL W) n (fun _ _ => True) f (done.setIfInBounds n true) a) →
      (∀ W B, CL w0 W → Blk W B Z T → w0.heap.size ≤ B → wpAny P md ops Q' (f + g) (done.setIfInBounds n true) (a.put (some d) (.pointer (some ⟨B, 0, none⟩))) W) ∧
      (done.getD n true = false → ∀ W, CL w0 W → wpAny P md ops Q' (f + 1 + g) done a W) := by
  have alloc : ∀ (f : Nat) (done : Array Bool) (a : Act) (W : World), CL w0 W → (∀ W B, CL w0 W → Blk W B Z T → w0.heap.size ≤ B → wpAny P md ops Q' (f + g) (done.setIfInBounds n true) (a.put (some d) (.pointer (some ⟨B, 0, none⟩))) W) →
      wpOp P ops Q' n (wpAny P md ops Q' (f + g) (done.setIfInBounds n true)) a W := by
    intro f done a W hW h
    unfold wpOp
    have hw : Region.wanted oa (yielded ops a.tmps) = true := by simp [Region.wanted, hg]
    simp only [ha, hw, if_true]
    refine .inl ?_
    unfold Oper.wp
    rw [hoa]
    simp only [Oper.upon, hd]
    exact h _ _ (CL.of (bel_al hW.bel _)) (Blk.new W _ _) hW.bel.size
  intro f
  induction f with
  | zero =>
    intro done a H _
    have p2 : ∀ W B, CL w0 W → Blk W B Z T → w0.heap.size ≤ B → wpAny P md ops Q' (0 + g) (done.setIfInBounds n true) (a.put (some d) (.pointer (some ⟨B, 0, none⟩))) W := fun W B hW hB hb => by rw [Nat.zero_add]; exact hL _ _ _ _ H hW hB hb
    refine ⟨p2, fun hn W hW => ?_⟩
    have e : 0 + 1 + g = (0 + g) + 1 := by omega
    rw [e]
    refine ⟨fun h0 => (by have := free done hn; rw [h0] at this; cases this), fun i hi => ?_⟩
    by_cases e : i = n
    · subst e; exact alloc 0 done a W hW p2
    · exact absurd hi (late done hn i (hLl _ _ H i (ready_mono hi e)))
  | succ f ih =>
    intro done a H HG
    have step : ∀ i, i ∈ Region.ready md ops (done.setIfInBounds n true) → i ≠ n → ∃ oi v, ops[i]? = some oi ∧ i < n ∧ YieldsIn P ops (CL w0) oi v a ∧ (∀ W, CL w0 W → YieldsIn P ops (CL W) oi v a) ∧
        HeadQ P md ops (CL w0) n L f ((done.setIfInBounds i true).setIfInBounds n true) (a.put oi.dst v) ∧ (∀ W, CL w0 W → HeadQ P md ops (CL W) n (fun _ _ => True) f ((done.setIfInBounds i true).setIfInBounds n true) (a.put oi.dst v)) := by
      intro i hi hne
      obtain ⟨_, oi, hoi, _⟩ := mem_ready.1 hi
      obtain ⟨hin, hq⟩ := H.2 i hi
      obtain ⟨v, hy, hK⟩ := yieldsIn_of_qOp hoi hq
      have comm : (done.setIfInBounds n true).setIfInBounds i true = (done.setIfInBounds i true).setIfInBounds n true := Array.setIfInBounds_comm _ _ (Ne.symm hne)
      refine ⟨oi, v, hoi, hin, hy, fun W hW => ?_, by rw [← comm]; exact hK, fun W hW => ?_⟩
      · obtain ⟨v', hy', _⟩ := yieldsIn_of_qOp hoi ((HG W hW).2 i hi).2
        obtain rfl := yields_same hy hy' hW (CL.refl W) (hI i oi hoi hin)
        exact hy'
      · obtain ⟨v', hy', hK'⟩ := yieldsIn_of_qOp hoi ((HG W hW).2 i hi).2
        obtain rfl := yields_same hy hy' hW (CL.refl W) (hI i oi hoi hin)
        rw [← comm]; exact hK'
    have p2 : ∀ W B, CL w0 W → Blk W B Z T → w0.heap.size ≤ B → wpAny P md ops Q' (f + 1 + g) (done.setIfInBounds n true) (a.put (some d) (.pointer (some ⟨B, 0, none⟩))) W := by
      intro W B hW hB hb
      have e : f + 1 + g = (f + g) + 1 := by omega
      rw [e]
      refine ⟨fun h0 => absurd h0 H.1, fun i hi => ?_⟩
      have hne : i ≠ n := by have := (H.2 i hi).1; omega
      obtain ⟨oi, v, hoi, hin, hy, hyW, H', HG'⟩ := step i hi hne
      obtain ⟨ap1, ap2⟩ := apart i oi hoi hin
      have hdd : ∀ x, (some d : Option Tmp) = some x → x ∉ oi.looksAt ops := fun x e => by cases e; exact ap1
      have hy2 : YieldsIn P ops (CL W) oi v (a.put (some d) (.pointer (some ⟨B, 0, none⟩))) :=
        (hyW W hW).of_same (execOp_put oi (fun cs b => hsel i oi cs b hoi) a _ _ hdd) (wanted_put oi a _ _ hdd)
      refine wpOp_of_qOp (C := CL W) (CL.refl W) (fun a' W' hW' e => ?_) (hy2.qOp (K := fun a' => a' = (a.put (some d) (.pointer (some ⟨B, 0, none⟩))).put oi.dst v) hoi rfl)
      subst e
      rw [Act.put_comm a (x := some d) (y := oi.dst) _ _ (fun x e => by cases e; exact ap2)]
      have comm : (done.setIfInBounds n true).setIfInBounds i true = (done.setIfInBounds i true).setIfInBounds n true := Array.setIfInBounds_comm _ _ (Ne.symm hne)
      rw [comm]
      exact (ih _ _ H' HG').1 W' B (hW.trans hW') (hB.below hW'.bel) hb
    refine ⟨p2, fun hn W hW => ?_⟩
    have e : f + 1 + 1 + g = (f + 1 + g) + 1 := by omega
    rw [e]
    refine ⟨fun h0 => (by have := free done hn; rw [h0] at this; cases this), fun i hi => ?_⟩
    by_cases e : i = n
    · subst e; exact alloc (f + 1) done a W hW p2
    · obtain ⟨oi, v, hoi, hin, hy, hyW, H', HG'⟩ := step i (ready_mono hi e) e
      refine wpOp_of_qOp (C := CL w0) hW (fun a' W' hW' e2 => ?_) (hy.qOp (K := fun a' => a' = a.put oi.dst v) hoi rfl)
      subst e2
      exact (ih _ _ H' HG').2 (by rw [getD_set_ne true e]; exact hn) W' hW'
end

theorem HeadQ.weaken {P : Program} {md : Region.Mode} {ops : Array Oper} {C : World → Prop} {n : Nat} {L : Array Bool → Act → Prop} : ∀ {f : Nat} {done : Array Bool} {a : Act}, HeadQ P md ops C n L f done a → HeadQ P md ops C n (fun _ _ => True) f done a
  | 0, _, _, _ => trivial
  | _ + 1, _, _, h => ⟨h.1, fun i hi => ⟨(h.2 i hi).1, qOp_mono (fun _ h' => HeadQ.weaken h') (h.2 i hi).2⟩⟩
def lexHead2 (md : Region.Mode) (ops : Array Oper) (g : Nat) : Nat → Nat → Array Bool → Bool
  | 0, k, listed => Region.seqB md ops g (k + 1) listed
  | f + 1, k, listed => (Region.ready md ops listed).contains k && Region.free md ops listed k && lexHead2 md ops g f (k + 1) (listed.setIfInBounds k true)
theorem HeadQ.lex2 {P : Program} {ops : Array Oper} {md : Region.Mode} {C : World → Prop} {n g : Nat} {Lq : Act → Prop} (nosel : Region.noSelect ops = true) (wait : ∀ i, i < n → ∀ done : Array Bool, (done.getD n true = true) → done.getD i true = false → ∀ t, n ≤ t → t ∉ Region.ready md ops done) (l : List Oper) :
    ∀ (k : Nat) (done : Array Bool) (a : Act), (∀ j, j < l.length → l[j]? = ops[k + j]?) → k + l.length = n → done.getD n true = true → lexHead2 md ops g l.length k done = true → wpQuiet P ops C Lq l a →
    HeadQ P md ops C n (fun d a' => Region.seqB md ops g (n + 1) d = true ∧ Lq a') l.length done a := by
  induction l with
  | nil =>
    intro k done a _ hk _ hB h
    obtain rfl : k = n := by simpa using hk
    exact ⟨by simpa [lexHead2] using hB, h⟩
  | cons o l ih =>
    intro k done a hl hk inv hB h
    have h0 : ops[k]? = some o := by simpa using (hl 0 (by simp)).symm
    simp only [List.length_cons, lexHead2, Bool.and_eq_true] at hB hk
    have hr : k ∈ Region.ready md ops done := by simpa using hB.1.1
    have hq : qOp P ops C k (wpQuiet P ops C Lq l) a := by unfold qOp; simp only [h0]; exact h
    obtain ⟨v, hy, hK⟩ := yieldsIn_of_qOp h0 hq
    have iset : ∀ (done : Array Bool) j, done.getD n true = true → j ∈ Region.ready md ops done → j < n → (done.setIfInBounds j true).getD n true = true := fun done j hd _ hj => by rw [getD_set_ne true (by omega)]; exact hd
    refine HeadQ.first h0 (Region.noSelect_spec nosel) (fun done => done.getD n true = true) iset (wait k (by omega)) (by omega) (fun d a' hL j hj => by have := seqB_ready hL.1 j hj; omega) l.length done a inv (Region.free_spec h0 hB.1.2) hr hy ?_
    exact ih (k + 1) _ _ (fun j hj => by have := hl (j + 1) (by simp; omega); simpa [Nat.add_assoc, Nat.add_comm 1 j] using this) (by omega) (iset _ _ inv hr (by omega)) hB.2 hK
def floatB (P : Program) (md : Region.Mode) (ops : Array Oper) (n d : Nat) : Bool :=
  ((List.range n).all fun j => match ops[j]? with | some oj => headOk P oj | none => true) && Region.noSelect ops && decide (n + 1 < ops.size) && (match ops[n]? with | some oa => oa.after.isEmpty && oa.guard.isNone && (oa.dst == some d) | none => false) &&
    ((List.range n).all fun j => match ops[j]? with | some oj => !((oj.looksAt ops).contains d) && (oj.dst != some d) | none => true) &&
    ((List.range ops.size).all fun t => decide (t ≤ n) || (List.range (n + 1)).all fun i => Region.waitsFor md ops t i) &&
    lexHead2 md ops (ops.size - (n + 1)) n 0 ((Array.replicate ops.size false).setIfInBounds n true)
theorem region_float {P : Program} {id : Nat} {Q : Exit → Act → World → Prop} {a : Act} {w0 w : World} {l : List Oper} {Z : Array Value} {T : TypeId} (n d : Nat) (hm : P.follows .mixedOrders = true) (hB : floatB P .any l.toArray n d = true) (hb : Below w0.heap.size w0 w)
    (hoa : ∀ (a : Act) W oa, l[n]? = some oa → (execOp a.eval oa).run P W = .ok (.value (.pointer (some ⟨W.heap.size, 0, none⟩))) (W.alloc (.cells Z T)))
    (h : ∀ w1, Below w0.heap.size w0 w1 → wpQuiet P l.toArray (fun W => ∃ x : Later w1, W = x.world) (fun a' => ∀ w' : World, (∃ x : Later w1, w' = x.world) → ∀ B, Blk w' B Z T → w0.heap.size ≤ B → wpList P l.toArray Q (l.drop (n + 1)) (a'.put (some d) (.pointer (some ⟨B, 0, none⟩))) w') (l.take n) a) : (Code.region id l.toArray true).wp P Q a w := by
  simp only [floatB, Bool.and_eq_true, decide_eq_true_eq] at hB
  obtain ⟨⟨⟨⟨⟨⟨hho, nosel⟩, hn⟩, hal⟩, hap⟩, hwt⟩, hlex⟩ := hB
  have hn' : n + 1 < l.length := by simpa using hn
  have tl : (l.take n).length = n := by simp; omega
  have dl : (l.drop (n + 1)).length = l.toArray.size - (n + 1) := by simp
  obtain ⟨oa, ha⟩ : ∃ oa, l.toArray[n]? = some oa := ⟨l[n]'(by omega), by simp⟩
  simp only [ha, Bool.and_eq_true, Array.isEmpty_iff, Option.isNone_iff_eq_none, beq_iff_eq] at hal
  obtain ⟨⟨haf, hgd⟩, hd⟩ := hal
  have hwait : ∀ t i, n < t → i ≤ n → ∀ done : Array Bool, done.getD i true = false → t ∉ Region.ready .any l.toArray done := by
    intro t i ht hi done hdn hr
    obtain ⟨_, ot, hot, hall⟩ := mem_ready.1 hr
    have htlt : t < l.toArray.size := (Array.getElem?_eq_some_iff.1 hot).1
    have h1 := List.all_eq_true.1 hwt t (List.mem_range.2 htlt)
    simp only [Bool.or_eq_true, decide_eq_true_eq] at h1
    have h2 := h1.resolve_left (by omega)
    have h3 := List.all_eq_true.1 h2 i (List.mem_range.2 (by omega))
    obtain ⟨o', ho', e, he, hb', hon⟩ := Region.waitsFor_spec h3
    have : o' = ot := Option.some.inj (ho'.symm.trans hot)
    subst this
    have h4 := hall e he hb'
    rw [hon, getD_both hdn] at h4
    cases h4
  have hidx : ∀ j oj, l.toArray[j]? = some oj → j < n → headOk P oj = true := fun j oj hj hjn => by
    have h1 := List.all_eq_true.1 hho j (List.mem_range.2 hjn)
    simp only [hj] at h1
    exact h1
  have hwq : ∀ i, i < n → ∀ done : Array Bool, done.getD n true = true → done.getD i true = false → ∀ t, n ≤ t → t ∉ Region.ready .any l.toArray done := by
    intro i hi done hdn hun t ht hr
    rcases Nat.lt_or_ge n t with h1 | h1
    · exact hwait t i h1 (by omega) done hun hr
    · obtain rfl : t = n := by omega
      have := (mem_ready.1 hr).1
      rw [hdn] at this; cases this
  have start : ((Array.replicate l.toArray.size false).setIfInBounds n true).getD n true = true := by
    simp [Array.getD, hn', Nat.lt_of_succ_lt hn']
  have HQ := fun w1 (hw1 : Below w0.heap.size w0 w1) => HeadQ.lex2 (md := .any) (g := l.toArray.size - (n + 1)) nosel hwq (l.take n) 0 _ a (fun j hj => by rw [tl] at hj; simp [hj]) (by rw [tl]; omega) start (by rw [tl]; exact hlex) (h w1 hw1)
  rw [tl] at HQ
  refine wp_region_any hm ?_
  have F := (float_any (md := .any) (Q' := Q) (g := l.toArray.size - (n + 1)) (w0 := w0) (Z := Z) (T := T) (L := fun d' a' => Region.seqB .any l.toArray (l.toArray.size - (n + 1)) (n + 1) d' = true ∧ ∀ w' : World, CL w0 w' → ∀ B, Blk w' B Z T → w0.heap.size ≤ B → wpList P l.toArray Q (l.drop (n + 1)) (a'.put (some d) (.pointer (some ⟨B, 0, none⟩))) w')
    hidx ha (fun a W => hoa a W oa (by simpa using ha)) hgd hd (fun done hdn => mem_ready.2 ⟨hdn, oa, ha, fun e he => by rw [haf] at he; simp at he⟩) (Region.noSelect_spec nosel)
    (fun j oj hj hjn => by
      have h1 := List.all_eq_true.1 hap j (List.mem_range.2 hjn)
      simp only [hj, Bool.and_eq_true, Bool.not_eq_true', bne_iff_ne] at h1
      exact ⟨by simpa using h1.1, h1.2⟩)
    (fun done hdn j hj => hwait j n hj (Nat.le_refl _) done hdn)
    (fun done a' W B hL hW hB hb' => by
      have := wpAny_of_seq (md := .any) (Q' := Q) (l.drop (n + 1)) (n + 1) done _ W (fun j => by simp [List.getElem?_drop]) (by rw [dl]; exact hL.1) (hL.2 W hW B hB hb')
      rwa [dl] at this)
    (fun done a' hL j hj => by have := seqB_ready hL.1 j hj; omega) n (Array.replicate l.toArray.size false) a (HQ w0 (bel_refl w0))
    (fun W hW => HeadQ.weaken (HQ W hW.bel))).2 (by simp [Array.getD]; omega) { w with drawn := w.drawn + 1 } (CL.of (bel_dr hb))
  rwa [show n + 1 + (l.toArray.size - (n + 1)) = l.toArray.size by omega] at F
end Go.Proofs.Ytpjakgnghpapmaa
