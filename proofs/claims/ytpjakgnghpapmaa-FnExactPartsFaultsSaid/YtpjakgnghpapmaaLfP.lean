/- The faults of a line: plain. -/
import Derived.Test.YtpjakgnghpapmaaBl
import Derived.Test.YtpjakgnghpapmaaBt
namespace Go.Proofs.Ytpjakgnghpapmaa
set_option linter.unusedSimpArgs false
set_option linter.unusedVariables false
open Go.RowKit

def csFa (t : Fa) : List Value := [.int .i64 t.pos, .int .i64 t.code]
theorem csFa_len (t : Fa) : (csFa t).length = 2 := rfl
theorem own_rowFa {w' : World} {base : Nat} {e : TypeId} {v : Value} {l : List Fa} (h : w'.ownsRow base e 2 v l.length (flat csFa l)) :
    ∃ A cap, v = .slice A l.length cap ∧ l.length ≤ cap ∧ cap ≤ maxLen ∧ RowFa w' w'.heap.size A l ∧ OwnFa w' base A l.length := by
  obtain ⟨A, cap, rfl, h1, h2, h3⟩ := own_open csFa_len ⟨0, 0⟩ h
  refine ⟨A, cap, rfl, h1, h2, fun hl => ?_, fun hl => ?_⟩
  · obtain ⟨g, rfl, hb, hg, _, hc⟩ := h3 hl
    exact ⟨g, 0, rfl, hg, fun i hi => ⟨by simpa [csFa, atFa] using hc i 0 hi (by omega), by simpa [csFa, atFa] using hc i 1 hi (by omega)⟩⟩
  · obtain ⟨g, rfl, hb, hg, hf, _⟩ := h3 hl
    exact ⟨g, 0, rfl, hb, hf⟩
theorem infoFa : (Try.prog.info? 40).map (fun i => (i.zero, i.size, i.bytes)) = some (some (.agg #[.int .i64 0, .int .i64 0]), 2, 16) := by kernel_rfl
/-- the fault of tone k by itself, and of the step to it -/
def tnF (f : Int) (c l : List Pi) (k : Nat) : Int := tnK (ikT f (atPi l k)) (kyP (atPi c k)) (kyP (atPi l k)) ((k : Int) == 0) ((k : Int) == (c.length : Int) - 1)
def sdF (c l : List Pi) (k : Nat) : Int := if k = 0 then 0 else stK (kyP (atPi c (k - 1))) (kyP (atPi l (k - 1))) (kyP (atPi c k)) (kyP (atPi l k))
theorem sdF_z (c l : List Pi) : sdF c l 0 = 0 := rfl
theorem sdF_s (c l : List Pi) (j : Nat) : sdF c l (j + 1) = stK (kyP (atPi c j)) (kyP (atPi l j)) (kyP (atPi c (j + 1))) (kyP (atPi l (j + 1))) := rfl
def oneF (k : Nat) (x : Int) : List Fa := if x = 0 then [] else [⟨k, x⟩]
theorem oneF_z (k : Nat) : oneF k 0 = [] := rfl
theorem oneF_n {k : Nat} {x : Int} (h : x ≠ 0) : oneF k x = [⟨k, x⟩] := if_neg h
def lfK (f : Int) (c l : List Pi) : Nat → List Fa
  | 0 => []
  | k + 1 => (lfK f c l k ++ oneF k (tnF f c l k)) ++ oneF k (sdF c l k)
theorem oneF_len (k : Nat) (x : Int) : (oneF k x).length ≤ 1 := by unfold oneF; split <;> simp
theorem lfK_len (f : Int) (c l : List Pi) : ∀ k, (lfK f c l k).length ≤ 2 * k
  | 0 => by simp [lfK]
  | k + 1 => by
    have a := lfK_len f c l k
    have b := oneF_len k (tnF f c l k)
    have d := oneF_len k (sdF c l k)
    unfold lfK
    rw [List.length_append, List.length_append]
    omega
def lfB (f : Int) (c l : List Pi) : Bool := cvB f c && apB l c.length c.length
def lfL (f : Int) (c l : List Pi) : List Fa := if lfB f c l = true then lfK f c l c.length else []
theorem lfB_facts {f : Int} {c l : List Pi} (h1 : cvB f c = true) (h2 : apB l c.length c.length = true) : (2 ≤ c.length ∧ c.length ≤ 10) ∧ l.length = c.length ∧ (∀ k, k < c.length → pvP (atPi c k)) ∧ (∀ k, k < l.length → pvP (atPi l k)) ∧ lfL f c l = lfK f c l c.length := by
  obtain ⟨a1, a2, a3⟩ := cvB_of h1
  obtain ⟨b1, b2⟩ := apB_of h2
  refine ⟨a2, by omega, fun k hk => ikP_pv (a3 k hk), b2, ?_⟩
  unfold lfL lfB
  rw [h1, h2]
  rfl
theorem lfL_no {f : Int} {c l : List Pi} (h : lfB f c l = false) : lfL f c l = [] := by unfold lfL; rw [h]; rfl
theorem lfL_len (f : Int) (c l : List Pi) : (lfL f c l).length ≤ 20 := by
  unfold lfL
  by_cases h : lfB f c l = true
  · rw [if_pos h]
    have a := lfK_len f c l c.length
    unfold lfB at h
    simp only [Bool.and_eq_true] at h
    have := (cvB_of h.1).2.1
    omega
  · rw [if_neg h]; simp
theorem own_ne {w : World} {base : Nat} {e : TypeId} {size : Nat} {v : Value} {n : Nat} {xs : List Value} {Q : Nat} {cs : Array Value} {T : TypeId} (h : w.ownsRow base e size v n xs) (b : Blk w Q cs T) (hne : T ≠ e) : v.ownBlock ≠ some Q := by
  rcases h.2 with ⟨rfl, _⟩ | ⟨g, cap, cur, rfl, _, hg, _⟩
  · simp [Value.ownBlock]
  · intro e'
    have e2 : g = Q := by simpa [Value.ownBlock] using e'
    subst e2
    unfold Blk at b
    rw [hg] at b
    simp only [Option.some.injEq, Obj.cells.injEq] at b
    exact hne b.2.1.symm
def Lf (w : World) (L : List Fa) (e : Ending) (w' : World) : Prop :=
  ∃ v, e = .returned v ∧ w'.ownsRow w.heap.size 40 2 v L.length (flat csFa L) ∧ Below w.heap.size w w'
def LfR (w : World) (L : List Fa) (e : Ending) (w' : World) : Prop :=
  ∃ A c, e = .returned (.slice A L.length c) ∧ L.length ≤ c ∧ c ≤ maxLen ∧ RowFa w' w'.heap.size A L ∧ OwnFa w' w.heap.size A L.length ∧ Below w.heap.size w w'
theorem lfR_of {w : World} {L : List Fa} {e : Ending} {w' : World} (h : Lf w L e w') : LfR w L e w' := by
  obtain ⟨v, rfl, h, b⟩ := h
  obtain ⟨A, c, rfl, h1, h2, h3, h4⟩ := own_rowFa h
  exact ⟨A, c, rfl, h1, h2, h3, h4, b⟩
end Go.Proofs.Ytpjakgnghpapmaa
