/- The program's table of lines: it is made whole. -/
import Derived.Test.YtkchlgmlfihkdaaLtM
import Derived.Test.YtkchlgmlfihkdaaInv
import Derived.Deep.DeepCutAuto
namespace Go.Proofs.Ytkchlgmlfihkdaa
set_option linter.unusedSimpArgs false
set_option linter.unusedVariables false
open Go.RowKit

theorem infoI : (Try.prog.info? 3).map (fun i => (i.zero, i.size, i.bytes)) = some (some (.int .i64 0), 1, 8) := by kernel_rfl
theorem infoIS : (Try.prog.info? 79).map (fun i => (i.zero, i.size, i.bytes)) = some (some (.slice none 0 0), 1, 24) := by kernel_rfl
theorem made_one {z : Value} {n i : Nat} (hz : z.cells = #[z]) (hi : i < n) : (madeCells z.cells (n * 1)).toList[i]? = some z := by
  rw [hz]
  simp [madeCells, Nat.mod_one, hi]
theorem step_make {P : Program} {ops : Array Oper} {Q : Exit → Act → World → Prop} {i : Nat} {o : Oper} {K : Act → World → Prop} {a : Act} {w : World} (ho : ops[i]? = some o) (hg : o.guard = none) (l c : Operand) (t : TypeId) (hop : o.op = Op.makeSlice t l c) (e : TypeId) (inf : TypeInfo) (z : Value)
    (h1 : P.underlying t = some (.slice e)) (h2 : P.info? e = some inf) (h3 : inf.zero = some z) (h4 : inf.size = 1) (n : Nat) (hl : a.eval l = .int .i64 n) (hc : a.eval c = .int .i64 n) (b2 : inf.bytes * n ≤ 281474976710656) (b3 : n ≤ maxLen) (hz : z.cells = #[z])
    (h : ∀ K' : Act → World → Prop, (∀ a w, K a w → K' a w) → ∀ (w' : World) (r : Array Value), Below w.heap.size w w' → Blk w' w.heap.size r e → r.size = n → (∀ j, j < n → r[j]? = some z) → K' (a.put o.dst (.slice (some ⟨w.heap.size, 0, none⟩) n n)) w') : wpOp P ops Q i K a w := by
  refine wpOp_step ho (fun K' hK => ?_)
  have hw : Region.wanted o (yielded ops a.tmps) = true := by unfold Region.wanted; rw [hg]
  rw [if_pos hw]
  obtain ⟨w', hrun, r1, r2⟩ := run_make_full (P := P) (w := w) w.heap.size t e inf z 1 h1 h2 h3 h4 .i64 .i64 n b2 b3 (Nat.le_refl _)
  obtain ⟨_, r, hb, hs, hr⟩ := own_blk r1
  unfold Oper.wp
  simp [execOp, hop, hl, hc, hrun, Result.andThen]
  exact h K' hK w' r (bel_grown (bel_refl w) r2 (fun k e => by cases e)) hb hs (fun j hj => by rw [hr j hj]; exact made_one hz hj)
def FTn (lo : Nat) (T : List Pi) (W : World) (u : Value) : Prop := ∃ (AT : Option Addr) (cT : Nat), u = .slice AT T.length cT ∧ W.ownsRow lo 43 3 (.slice AT T.length cT) T.length (flat csPi T)
def FMs (lo n : Nat) (W : World) (u : Value) : Prop := ∃ (g : Nat) (r : Array Value), u = .slice (some ⟨g, 0, none⟩) n n ∧ lo ≤ g ∧ Blk W g r 79 ∧ r.size = n
def FMi (lo m : Nat) (W : World) (u : Value) : Prop := ∃ (g : Nat) (r : Array Value), u = .slice (some ⟨g, 0, none⟩) m m ∧ lo ≤ g ∧ Blk W g r 3 ∧ r.size = m ∧ ∀ j, j < m → r[j]? = some (.int .i64 0)
def FAg (f : Int) (A : Option Addr) (n c1 : Nat) (T : List Pi) (lo : Nat) (W : World) (u : Value) : Prop := ∃ (AT : Option Addr) (cT g : Nat) (r : Array Value), u = .agg #[.int .i64 f, .slice A n c1, .slice AT T.length cT, .slice (some ⟨g, 0, none⟩) n n] ∧ W.ownsRow lo 43 3 (.slice AT T.length cT) T.length (flat csPi T) ∧ lo ≤ g ∧ Blk W g r 79 ∧ r.size = n
def FBx (f : Int) (A : Option Addr) (n c1 : Nat) (T : List Pi) (lo : Nat) (W : World) (u : Value) : Prop := ∃ (P : Nat) (AT : Option Addr) (cT g : Nat) (r : Array Value), u = .pointer (some ⟨P, 0, none⟩) ∧ lo ≤ P ∧ LtB W P f A n c1 AT T.length cT (.slice (some ⟨g, 0, none⟩) n n) ∧ W.ownsRow lo 43 3 (.slice AT T.length cT) T.length (flat csPi T) ∧ lo ≤ g ∧ Blk W g r 79 ∧ r.size = n
theorem FTn.below {lo : Nat} {T : List Pi} {W W' : World} {u : Value} (h : FTn lo T W u) (hb : Below W.heap.size W W') : FTn lo T W' u := by obtain ⟨a, b, e, r⟩ := h; exact ⟨a, b, e, own_below r hb⟩
theorem FMs.below {lo n : Nat} {W W' : World} {u : Value} (h : FMs lo n W u) (hb : Below W.heap.size W W') : FMs lo n W' u := by obtain ⟨g, r, e, a, b, c⟩ := h; exact ⟨g, r, e, a, b.below hb, c⟩
theorem FMi.below {lo n : Nat} {W W' : World} {u : Value} (h : FMi lo n W u) (hb : Below W.heap.size W W') : FMi lo n W' u := by obtain ⟨g, r, e, a, b, c⟩ := h; exact ⟨g, r, e, a, b.below hb, c⟩
theorem FAg.below {f : Int} {A : Option Addr} {n c1 : Nat} {T : List Pi} {lo : Nat} {W W' : World} {u : Value} (h : FAg f A n c1 T lo W u) (hb : Below W.heap.size W W') : FAg f A n c1 T lo W' u := by obtain ⟨AT, cT, g, r, e, a, b, c, d⟩ := h; exact ⟨AT, cT, g, r, e, own_below a hb, b, c.below hb, d⟩
theorem FBx.below {f : Int} {A : Option Addr} {n c1 : Nat} {T : List Pi} {lo : Nat} {W W' : World} {u : Value} (h : FBx f A n c1 T lo W u) (hb : Below W.heap.size W W') : FBx f A n c1 T lo W' u := by obtain ⟨P, AT, cT, g, r, e, a, l, b, c, d, x⟩ := h; exact ⟨P, AT, cT, g, r, e, a, l.below hb, own_below b hb, c, d.below hb, x⟩
def opB (f : Int) (c : List Pi) (lo hi : Int) : Bool := cvB f c && decide ((0 ≤ lo ∧ lo ≤ 107) ∧ lo ≤ hi ∧ hi ≤ 107 ∧ hi - lo ≤ 30)
theorem opB_of {f : Int} {c : List Pi} {lo hi : Int} (h : opB f c lo hi = true) : cvB f c = true ∧ (0 ≤ lo ∧ lo ≤ 107) ∧ lo ≤ hi ∧ hi ≤ 107 ∧ hi - lo ≤ 30 := by
  unfold opB at h
  simp only [Bool.and_eq_true, decide_eq_true_eq] at h
  exact h
/-- what linesOf hands back -/
def LtR (w : World) (f : Int) (c : List Pi) (A : Option Addr) (n c1 : Nat) (T : List Pi) (e : Ending) (w' : World) : Prop :=
  ∃ (P G : Nat) (AT : Option Addr) (cT : Nat), e = .returned (.tuple #[.pointer (some ⟨P, 0, none⟩), .bool true]) ∧ w.heap.size ≤ P ∧ LtB w' P f A n c1 AT T.length cT (.slice (some ⟨G, 0, none⟩) n n) ∧ RowPi w' w'.heap.size AT T ∧ Tab w' w.heap.size G n T.length 0 (fun a b => cnI f c T a (atPi T b)) ∧ Below w.heap.size w w'
/-- a row so far: what stands at number i -/
def rowF (f : Int) (c T : List Pi) (k i0 : Nat) : Nat → Nat → Int := fun a b => if a = k ∧ i0 ≤ b then 0 else cnI f c T a (atPi T b)
theorem rowF_set {f : Int} {c T : List Pi} {k i : Nat} {v : Int} (hv : cnI f c T k (atPi T i) = v) : ∀ a b, (if a = k ∧ b = i then v else rowF f c T k i a b) = rowF f c T k (i + 1) a b := fun a b => by
  unfold rowF
  by_cases e : a = k
  · subst e
    by_cases e2 : b = i
    · subst e2
      rw [if_pos ⟨rfl, rfl⟩, if_neg (by omega)]
      exact hv.symm
    · rw [if_neg (fun h => e2 h.2)]
      by_cases e3 : i ≤ b
      · rw [if_pos ⟨rfl, e3⟩, if_pos ⟨rfl, by omega⟩]
      · rw [if_neg (fun h => e3 h.2), if_neg (fun h => by omega)]
  · rw [if_neg (fun h => e h.1), if_neg (fun h => e h.1), if_neg (fun h => e h.1)]
set_option maxHeartbeats 4000000 in
theorem lo_no (f : Int) (c : List Pi) (A : Option Addr) (n c1 : Nat) (lo hi : Int) (w : World) (ho : opB f c lo hi = false) (hn : c.length = n) (hm : n ≤ 2000000) (hc : RowPi w w.heap.size A c) :
    Calls Try.prog 62 #[.int .i64 f, .slice A n c1, .int .i64 lo, .int .i64 hi] w fun e w' => e = .returned (.tuple #[.pointer none, .bool false]) ∧ Below w.heap.size w w' := by
  subst hn
  cases hcv : cvB f c
  · have HC := Lib.hid hcv
    clear hcv
    go_enter Try.func62, Try.ntmps62
    go_wp2_with fail
    refine (cv_val HC.out _ _ _ _ rfl hm hc).mono ?_
    rintro e1 w1 ⟨rfl, b1⟩
    go_wp2
    exact bodyPost_ret (v := .tuple #[.pointer none, .bool false]) (by simp [results, Try.results62, go_sem]) rfl ⟨rfl, b1⟩
  · have HC := Lib.hid hcv
    have hnop : ¬ ((0 ≤ lo ∧ lo ≤ 107) ∧ lo ≤ hi ∧ hi ≤ 107 ∧ hi - lo ≤ 30) := fun hh => by unfold opB at ho; rw [hcv, decide_eq_true hh] at ho; cases ho
    clear hcv ho
    by_cases h1 : 0 ≤ lo ∧ lo ≤ 107
    · have iw := IntWalk.i64_in (lo + 30) (by omega)
      have h2 : hi < lo ∨ 107 < hi ∨ lo + 30 < hi := by omega
      obtain ⟨l0, l1⟩ := h1
      clear hnop
      by_cases h3 : 107 ≤ lo + 30
      · have h4 : ¬ lo + 30 < 107 := by omega
        go_enter Try.func62, Try.ntmps62
        go_wp2_with fail
        refine (cv_val HC.out _ _ _ _ rfl hm hc).mono ?_
        rintro e1 w1 ⟨rfl, b1⟩
        go_wp2_with (first | (go_at_call 69; refine (win_yes _ _ _ _ (by omega) (by omega)).mono ?_; rintro e w' ⟨rfl, rfl⟩) | (go_at_call 69; refine (win_no _ _ _ _ (by omega)).mono ?_; rintro e w' ⟨rfl, rfl⟩))
        all_goals exact bodyPost_ret (v := .tuple #[.pointer none, .bool false]) (by simp [results, Try.results62, go_sem]) rfl ⟨rfl, b1⟩
      · have h4 : lo + 30 < 107 := by omega
        go_enter Try.func62, Try.ntmps62
        go_wp2_with fail
        refine (cv_val HC.out _ _ _ _ rfl hm hc).mono ?_
        rintro e1 w1 ⟨rfl, b1⟩
        go_wp2_with (first | (go_at_call 69; refine (win_yes _ _ _ _ (by omega) (by omega)).mono ?_; rintro e w' ⟨rfl, rfl⟩) | (go_at_call 69; refine (win_no _ _ _ _ (by omega)).mono ?_; rintro e w' ⟨rfl, rfl⟩))
        all_goals exact bodyPost_ret (v := .tuple #[.pointer none, .bool false]) (by simp [results, Try.results62, go_sem]) rfl ⟨rfl, b1⟩
    · have h2 : lo < 0 ∨ 107 < lo := by omega
      clear hnop h1
      go_enter Try.func62, Try.ntmps62
      go_wp2_with fail
      refine (cv_val HC.out _ _ _ _ rfl hm hc).mono ?_
      rintro e1 w1 ⟨rfl, b1⟩
      go_wp2_with (first | (go_at_call 69; refine (win_yes _ _ _ _ (by omega) (by omega)).mono ?_; rintro e w' ⟨rfl, rfl⟩) | (go_at_call 69; refine (win_no _ _ _ _ (by omega)).mono ?_; rintro e w' ⟨rfl, rfl⟩))
      exact bodyPost_ret (v := .tuple #[.pointer none, .bool false]) (by simp [results, Try.results62, go_sem]) rfl ⟨rfl, b1⟩
theorem tab_ne {w : World} {base G n m lo : Nat} {F : Nat → Nat → Int} {P : Nat} {f : Int} {A : Option Addr} {n' c1 : Nat} {AT : Option Addr} {m' cT : Nat} {v : Value} (h : Tab w base G n m lo F) (hP : LtB w P f A n' c1 AT m' cT v) : P ≠ G := by
  obtain ⟨_, R, ⟨o, h1, _⟩, _⟩ := h
  intro e
  subst e
  unfold LtB Blk at hP
  unfold Blk at h1
  rw [hP] at h1
  simp only [Option.some.injEq, Obj.cells.injEq] at h1
  exact absurd h1.2.1 (by decide)
theorem own_rowT {w : World} {base : Nat} {e : TypeId} {AT : Option Addr} {cT : Nat} {T : List Pi} (h : w.ownsRow base e 3 (.slice AT T.length cT) T.length (flat csPi T)) : RowPi w w.heap.size AT T := by
  obtain ⟨A, c, e, _, _, h, _⟩ := own_rowPi h
  cases e
  exact h
theorem blk_ne {w : World} {P Q : Nat} {c d : Array Value} {T U : TypeId} (h : Blk w P c T) (k : Blk w Q d U) (hne : T ≠ U) : P ≠ Q := by
  intro e
  subst e
  unfold Blk at h k
  rw [h] at k
  simp only [Option.some.injEq, Obj.cells.injEq] at k
  exact hne k.2.1
theorem tab_rowblk {w : World} {base G n m lo : Nat} {F : Nat → Nat → Int} (h : Tab w base G n m lo F) (k : Nat) (hl : lo ≤ k) (hk : k < n) {r : Nat} (hr : w.cell? ⟨G, k, none⟩ = some (.slice (some ⟨r, 0, none⟩) m m)) : ∃ d : Array Value, Blk w r d 3 := by
  obtain ⟨h0, R, ⟨o, h1, h2, h3⟩, h4, h5⟩ := h
  rw [Blk.cell h1, h3 k hl hk] at hr
  simp only [Option.some.injEq, Value.slice.injEq, Addr.mk.injEq, and_true] at hr
  obtain ⟨x, y, rr, z, u, vv⟩ := h4 k hl hk
  have hr' : R k = r := hr
  subst hr'
  exact ⟨rr, z⟩
theorem rowF_skip {f : Int} {c T : List Pi} {k i : Nat} (hv : cnI f c T k (atPi T i) = 0) (a b : Nat) : rowF f c T k i a b = rowF f c T k (i + 1) a b := by
  have h := rowF_set (f := f) (c := c) (T := T) (k := k) (i := i) hv a b
  rw [← h]
  unfold rowF
  by_cases e : a = k ∧ b = i
  · rw [if_pos e, if_pos ⟨e.1, by omega⟩]
  · rw [if_neg e]
set_option maxRecDepth 20000 in
set_option maxHeartbeats 8000000 in
theorem lo_yes (f : Int) (c : List Pi) (A : Option Addr) (n c1 : Nat) (lo hi : Int) (w : World) (ho : opB f c lo hi = true) (hn : c.length = n) (hm : n ≤ 2000000) (hc : RowPi w w.heap.size A c) :
    Calls Try.prog 62 #[.int .i64 f, .slice A n c1, .int .i64 lo, .int .i64 hi] w (LtR w f c A n c1 (tns f lo hi)) := by
  subst hn
  obtain ⟨i0, hi0, hz0, hz1, hz2⟩ := info_parts infoI
  obtain ⟨i1, hi1, hx0, hx1, hx2⟩ := info_parts infoIS
  obtain ⟨hcv, ⟨l0, l1⟩, l2, l3, l4⟩ := opB_of ho
  obtain ⟨⟨f0, f1⟩, ⟨n2, n10⟩, _⟩ := cvB_of hcv
  obtain ⟨T, hT⟩ : ∃ T, tns f lo hi = T := ⟨_, rfl⟩
  have hT63 : T.length ≤ 63 := by rw [← hT]; exact tns_len _ _ _
  rw [hT]
  have HT := Lib.hid hT
  have HC := Lib.hid hcv
  have iw := IntWalk.i64_in (lo + 30) (by omega)
  clear hT hcv ho
  go_enter Try.func62, Try.ntmps62
  go_upto_region 1 with fail
  go_cut [31] (fun u wx => u = .bool false ∧ Below w.heap.size w wx)
  case first =>
    by_cases h3 : 107 ≤ lo + 30
    · have h4 : ¬ lo + 30 < 107 := by omega
      go_wp2_with fail
      refine (cv_val HC.out _ _ _ _ rfl hm hc).mono ?_
      rintro e1 w1 ⟨rfl, b1⟩
      go_wp2_with (first | (go_at_call 69; refine (win_yes _ _ _ _ (by omega) (by omega)).mono ?_; rintro e w' ⟨rfl, rfl⟩) | (go_at_call 69; refine (win_no _ _ _ _ (by omega)).mono ?_; rintro e w' ⟨rfl, rfl⟩))
      go_meet
      exact ⟨rfl, b1⟩
    · have h4 : lo + 30 < 107 := by omega
      go_wp2_with fail
      refine (cv_val HC.out _ _ _ _ rfl hm hc).mono ?_
      rintro e1 w1 ⟨rfl, b1⟩
      go_wp2_with (first | (go_at_call 69; refine (win_yes _ _ _ _ (by omega) (by omega)).mono ?_; rintro e w' ⟨rfl, rfl⟩) | (go_at_call 69; refine (win_no _ _ _ _ (by omega)).mono ?_; rintro e w' ⟨rfl, rfl⟩))
      go_meet
      exact ⟨rfl, b1⟩
  case rest =>
    obtain ⟨rfl, b1⟩ := hcut
    clear iw
    obtain ⟨w1, hw1⟩ : ∃ w1, w1 = wc := ⟨_, rfl⟩
    subst hw1
    go_upto_region 3 with fail
    go_cut [10] (fun u wx => FBx f A c.length c1 T w1.heap.size wx u ∧ Below w1.heap.size w1 wx)
    case first =>
      refine region_slots (by kernel_rfl) (by kernel_rfl) [32, 33, 34, 35, 36, 37, 38, 39, 40, 41, 42, 10] (fun D us W => ∃ u32 u33 u34 u35 u36 u37 u38 u39 u40 u41 u42 u10 : Value, us = [u32, u33, u34, u35, u36, u37, u38, u39, u40, u41, u42, u10] ∧ Below w1.heap.size w1 W ∧ (D 0 = true → u32 = .int .i64 f) ∧ (D 1 = true → u33 = .slice A c.length c1) ∧ (D 2 = true → u34 = .int .i64 f) ∧ (D 3 = true → u35 = .int .i64 lo) ∧ (D 4 = true → u36 = .int .i64 hi) ∧ (D 5 = true → FTn w1.heap.size T W u37) ∧ (D 6 = true → u38 = .slice A c.length c1) ∧ (D 7 = true → u39 = .int .i64 c.length) ∧ (D 8 = true → FMs w1.heap.size c.length W u40) ∧ (D 9 = true → FAg f A c.length c1 T w1.heap.size W u41) ∧ (D 10 = true → FBx f A c.length c1 T w1.heap.size W u42) ∧ (D 11 = true → FBx f A c.length c1 T w1.heap.size W u10)) ?_ ?_ ?_
      · intro us hu
        obtain ⟨u32, u33, u34, u35, u36, u37, u38, u39, u40, u41, u42, u10, rfl⟩ : ∃ u32 u33 u34 u35 u36 u37 u38 u39 u40 u41 u42 u10, us = [u32, u33, u34, u35, u36, u37, u38, u39, u40, u41, u42, u10] := by
          match us, hu with
          | [u32, u33, u34, u35, u36, u37, u38, u39, u40, u41, u42, u10], _ => exact ⟨_, _, _, _, _, _, _, _, _, _, _, _, rfl⟩
        exact ⟨_, _, _, _, _, _, _, _, _, _, _, _, rfl, bel_dr (bel_refl w1), fun h => absurd h (by simp), fun h => absurd h (by simp), fun h => absurd h (by simp), fun h => absurd h (by simp), fun h => absurd h (by simp), fun h => absurd h (by simp), fun h => absurd h (by simp), fun h => absurd h (by simp), fun h => absurd h (by simp), fun h => absurd h (by simp), fun h => absurd h (by simp), fun h => absurd h (by simp)⟩
      · rintro i o hi ho D us W hu hd hdep ⟨u32, u33, u34, u35, u36, u37, u38, u39, u40, u41, u42, u10, rfl, hJ, f0, f1, f2, f3, f4, f5, f6, f7, f8, f9, f10, f11⟩
        have hi' : i < 12 := by simpa using hi
        clear hi hu
        rcases (show i = 0 ∨ i = 1 ∨ i = 2 ∨ i = 3 ∨ i = 4 ∨ i = 5 ∨ i = 6 ∨ i = 7 ∨ i = 8 ∨ i = 9 ∨ i = 10 ∨ i = 11 from by omega) with rfl | rfl | rfl | rfl | rfl | rfl | rfl | rfl | rfl | rfl | rfl | rfl
        · simp only [List.getElem?_cons_zero, List.getElem?_cons_succ, Option.some.injEq] at ho
          subst ho
          clear hi'
          clear hdep
          have hI := hJ
          refine wpOp_step rfl (fun K hK => ?_)
          simp only [List.zip_cons_cons, List.zip_nil_right, puts]
          have Hf0 := Lib.hid f0
          have Hf1 := Lib.hid f1
          have Hf2 := Lib.hid f2
          have Hf3 := Lib.hid f3
          have Hf4 := Lib.hid f4
          have Hf5 := Lib.hid f5
          have Hf6 := Lib.hid f6
          have Hf7 := Lib.hid f7
          have Hf8 := Lib.hid f8
          have Hf9 := Lib.hid f9
          have Hf10 := Lib.hid f10
          have Hf11 := Lib.hid f11
          have HhK := Lib.hid hK
          have Hhd := Lib.hid hd
          have HhJ := Lib.hid hJ
          clear hd hK hJ f0 f1 f2 f3 f4 f5 f6 f7 f8 f9 f10 f11
          go_simp
          have f0 := Hf0.out
          have f1 := Hf1.out
          have f2 := Hf2.out
          have f3 := Hf3.out
          have f4 := Hf4.out
          have f5 := Hf5.out
          have f6 := Hf6.out
          have f7 := Hf7.out
          have f8 := Hf8.out
          have f9 := Hf9.out
          have f10 := Hf10.out
          have f11 := Hf11.out
          have hK := HhK.out
          have hd := Hhd.out
          have hJ := HhJ.out
          exact hK _ _ ⟨[(.int .i64 f), u33, u34, u35, u36, u37, u38, u39, u40, u41, u42, u10], rfl, by kernel_rfl, _, _, _, _, _, _, _, _, _, _, _, _, rfl, hI, (fun _ => rfl), f1, f2, f3, f4, f5, f6, f7, f8, f9, f10, f11⟩
        · simp only [List.getElem?_cons_zero, List.getElem?_cons_succ, Option.some.injEq] at ho
          subst ho
          clear hi'
          clear hdep
          have hI := hJ
          refine wpOp_step rfl (fun K hK => ?_)
          simp only [List.zip_cons_cons, List.zip_nil_right, puts]
          have Hf0 := Lib.hid f0
          have Hf1 := Lib.hid f1
          have Hf2 := Lib.hid f2
          have Hf3 := Lib.hid f3
          have Hf4 := Lib.hid f4
          have Hf5 := Lib.hid f5
          have Hf6 := Lib.hid f6
          have Hf7 := Lib.hid f7
          have Hf8 := Lib.hid f8
          have Hf9 := Lib.hid f9
          have Hf10 := Lib.hid f10
          have Hf11 := Lib.hid f11
          have HhK := Lib.hid hK
          have Hhd := Lib.hid hd
          have HhJ := Lib.hid hJ
          clear hd hK hJ f0 f1 f2 f3 f4 f5 f6 f7 f8 f9 f10 f11
          go_simp
          have f0 := Hf0.out
          have f1 := Hf1.out
          have f2 := Hf2.out
          have f3 := Hf3.out
          have f4 := Hf4.out
          have f5 := Hf5.out
          have f6 := Hf6.out
          have f7 := Hf7.out
          have f8 := Hf8.out
          have f9 := Hf9.out
          have f10 := Hf10.out
          have f11 := Hf11.out
          have hK := HhK.out
          have hd := Hhd.out
          have hJ := HhJ.out
          exact hK _ _ ⟨[u32, (.slice A c.length c1), u34, u35, u36, u37, u38, u39, u40, u41, u42, u10], rfl, by kernel_rfl, _, _, _, _, _, _, _, _, _, _, _, _, rfl, hI, f0, (fun _ => rfl), f2, f3, f4, f5, f6, f7, f8, f9, f10, f11⟩
        · simp only [List.getElem?_cons_zero, List.getElem?_cons_succ, Option.some.injEq] at ho
          subst ho
          clear hi'
          clear hdep
          have hI := hJ
          refine wpOp_step rfl (fun K hK => ?_)
          simp only [List.zip_cons_cons, List.zip_nil_right, puts]
          have Hf0 := Lib.hid f0
          have Hf1 := Lib.hid f1
          have Hf2 := Lib.hid f2
          have Hf3 := Lib.hid f3
          have Hf4 := Lib.hid f4
          have Hf5 := Lib.hid f5
          have Hf6 := Lib.hid f6
          have Hf7 := Lib.hid f7
          have Hf8 := Lib.hid f8
          have Hf9 := Lib.hid f9
          have Hf10 := Lib.hid f10
          have Hf11 := Lib.hid f11
          have HhK := Lib.hid hK
          have Hhd := Lib.hid hd
          have HhJ := Lib.hid hJ
          clear hd hK hJ f0 f1 f2 f3 f4 f5 f6 f7 f8 f9 f10 f11
          go_simp
          have f0 := Hf0.out
          have f1 := Hf1.out
          have f2 := Hf2.out
          have f3 := Hf3.out
          have f4 := Hf4.out
          have f5 := Hf5.out
          have f6 := Hf6.out
          have f7 := Hf7.out
          have f8 := Hf8.out
          have f9 := Hf9.out
          have f10 := Hf10.out
          have f11 := Hf11.out
          have hK := HhK.out
          have hd := Hhd.out
          have hJ := HhJ.out
          exact hK _ _ ⟨[u32, u33, (.int .i64 f), u35, u36, u37, u38, u39, u40, u41, u42, u10], rfl, by kernel_rfl, _, _, _, _, _, _, _, _, _, _, _, _, rfl, hI, f0, f1, (fun _ => rfl), f3, f4, f5, f6, f7, f8, f9, f10, f11⟩
        · simp only [List.getElem?_cons_zero, List.getElem?_cons_succ, Option.some.injEq] at ho
          subst ho
          clear hi'
          clear hdep
          have hI := hJ
          refine wpOp_step rfl (fun K hK => ?_)
          simp only [List.zip_cons_cons, List.zip_nil_right, puts]
          have Hf0 := Lib.hid f0
          have Hf1 := Lib.hid f1
          have Hf2 := Lib.hid f2
          have Hf3 := Lib.hid f3
          have Hf4 := Lib.hid f4
          have Hf5 := Lib.hid f5
          have Hf6 := Lib.hid f6
          have Hf7 := Lib.hid f7
          have Hf8 := Lib.hid f8
          have Hf9 := Lib.hid f9
          have Hf10 := Lib.hid f10
          have Hf11 := Lib.hid f11
          have HhK := Lib.hid hK
          have Hhd := Lib.hid hd
          have HhJ := Lib.hid hJ
          clear hd hK hJ f0 f1 f2 f3 f4 f5 f6 f7 f8 f9 f10 f11
          go_simp
          have f0 := Hf0.out
          have f1 := Hf1.out
          have f2 := Hf2.out
          have f3 := Hf3.out
          have f4 := Hf4.out
          have f5 := Hf5.out
          have f6 := Hf6.out
          have f7 := Hf7.out
          have f8 := Hf8.out
          have f9 := Hf9.out
          have f10 := Hf10.out
          have f11 := Hf11.out
          have hK := HhK.out
          have hd := Hhd.out
          have hJ := HhJ.out
          exact hK _ _ ⟨[u32, u33, u34, (.int .i64 lo), u36, u37, u38, u39, u40, u41, u42, u10], rfl, by kernel_rfl, _, _, _, _, _, _, _, _, _, _, _, _, rfl, hI, f0, f1, f2, (fun _ => rfl), f4, f5, f6, f7, f8, f9, f10, f11⟩
        · simp only [List.getElem?_cons_zero, List.getElem?_cons_succ, Option.some.injEq] at ho
          subst ho
          clear hi'
          clear hdep
          have hI := hJ
          refine wpOp_step rfl (fun K hK => ?_)
          simp only [List.zip_cons_cons, List.zip_nil_right, puts]
          have Hf0 := Lib.hid f0
          have Hf1 := Lib.hid f1
          have Hf2 := Lib.hid f2
          have Hf3 := Lib.hid f3
          have Hf4 := Lib.hid f4
          have Hf5 := Lib.hid f5
          have Hf6 := Lib.hid f6
          have Hf7 := Lib.hid f7
          have Hf8 := Lib.hid f8
          have Hf9 := Lib.hid f9
          have Hf10 := Lib.hid f10
          have Hf11 := Lib.hid f11
          have HhK := Lib.hid hK
          have Hhd := Lib.hid hd
          have HhJ := Lib.hid hJ
          clear hd hK hJ f0 f1 f2 f3 f4 f5 f6 f7 f8 f9 f10 f11
          go_simp
          have f0 := Hf0.out
          have f1 := Hf1.out
          have f2 := Hf2.out
          have f3 := Hf3.out
          have f4 := Hf4.out
          have f5 := Hf5.out
          have f6 := Hf6.out
          have f7 := Hf7.out
          have f8 := Hf8.out
          have f9 := Hf9.out
          have f10 := Hf10.out
          have f11 := Hf11.out
          have hK := HhK.out
          have hd := Hhd.out
          have hJ := HhJ.out
          exact hK _ _ ⟨[u32, u33, u34, u35, (.int .i64 hi), u37, u38, u39, u40, u41, u42, u10], rfl, by kernel_rfl, _, _, _, _, _, _, _, _, _, _, _, _, rfl, hI, f0, f1, f2, f3, (fun _ => rfl), f5, f6, f7, f8, f9, f10, f11⟩
        · simp only [List.getElem?_cons_zero, List.getElem?_cons_succ, Option.some.injEq] at ho
          subst ho
          clear hi'
          have d2 : D 2 = true := hdep ⟨2, Ground.data⟩ (by simp) rfl
          have d3 : D 3 = true := hdep ⟨3, Ground.data⟩ (by simp) rfl
          have d4 : D 4 = true := hdep ⟨4, Ground.data⟩ (by simp) rfl
          clear hdep
          have hI := hJ
          obtain rfl := f2 d2
          obtain rfl := f3 d3
          obtain rfl := f4 d4
          refine wpOp_step rfl (fun K hK => ?_)
          simp only [List.zip_cons_cons, List.zip_nil_right, puts]
          have Hf0 := Lib.hid f0
          have Hf1 := Lib.hid f1
          have Hf2 := Lib.hid f2
          have Hf3 := Lib.hid f3
          have Hf4 := Lib.hid f4
          have Hf5 := Lib.hid f5
          have Hf6 := Lib.hid f6
          have Hf7 := Lib.hid f7
          have Hf8 := Lib.hid f8
          have Hf9 := Lib.hid f9
          have Hf10 := Lib.hid f10
          have Hf11 := Lib.hid f11
          have HhK := Lib.hid hK
          have Hhd := Lib.hid hd
          have HhJ := Lib.hid hJ
          clear hd hK hJ f0 f1 f2 f3 f4 f5 f6 f7 f8 f9 f10 f11
          go_simp
          go_wp2_with (go_at_call 86; refine (kt_any f lo hi _ f0 f1).mono ?_; rintro e w9 ⟨v9, rfl, o9, b9⟩)
          rw [HT.out] at o9
          obtain ⟨AT, cT, rfl, _, _, _, _⟩ := own_rowPi o9
          have f0 := Hf0.out
          have f1 := Hf1.out
          have f2 := Hf2.out
          have f3 := Hf3.out
          have f4 := Hf4.out
          have f5 := Hf5.out
          have f6 := Hf6.out
          have f7 := Hf7.out
          have f8 := Hf8.out
          have f9 := Hf9.out
          have f10 := Hf10.out
          have f11 := Hf11.out
          have hK := HhK.out
          have hd := Hhd.out
          have hJ := HhJ.out
          exact hK _ _ ⟨[u32, u33, (.int .i64 f), (.int .i64 lo), (.int .i64 hi), (.slice AT T.length cT), u38, u39, u40, u41, u42, u10], rfl, by kernel_rfl, _, _, _, _, _, _, _, _, _, _, _, _, rfl, bel_tr hI b9, f0, f1, (fun _ => rfl), (fun _ => rfl), (fun _ => rfl), (fun _ => ⟨_, _, rfl, own_lo o9 hI.size⟩), f6, f7, (fun h => ((f8 h)).below b9), (fun h => ((f9 h)).below b9), (fun h => ((f10 h)).below b9), (fun h => ((f11 h)).below b9)⟩
        · simp only [List.getElem?_cons_zero, List.getElem?_cons_succ, Option.some.injEq] at ho
          subst ho
          clear hi'
          clear hdep
          have hI := hJ
          refine wpOp_step rfl (fun K hK => ?_)
          simp only [List.zip_cons_cons, List.zip_nil_right, puts]
          have Hf0 := Lib.hid f0
          have Hf1 := Lib.hid f1
          have Hf2 := Lib.hid f2
          have Hf3 := Lib.hid f3
          have Hf4 := Lib.hid f4
          have Hf5 := Lib.hid f5
          have Hf6 := Lib.hid f6
          have Hf7 := Lib.hid f7
          have Hf8 := Lib.hid f8
          have Hf9 := Lib.hid f9
          have Hf10 := Lib.hid f10
          have Hf11 := Lib.hid f11
          have HhK := Lib.hid hK
          have Hhd := Lib.hid hd
          have HhJ := Lib.hid hJ
          clear hd hK hJ f0 f1 f2 f3 f4 f5 f6 f7 f8 f9 f10 f11
          go_simp
          have f0 := Hf0.out
          have f1 := Hf1.out
          have f2 := Hf2.out
          have f3 := Hf3.out
          have f4 := Hf4.out
          have f5 := Hf5.out
          have f6 := Hf6.out
          have f7 := Hf7.out
          have f8 := Hf8.out
          have f9 := Hf9.out
          have f10 := Hf10.out
          have f11 := Hf11.out
          have hK := HhK.out
          have hd := Hhd.out
          have hJ := HhJ.out
          exact hK _ _ ⟨[u32, u33, u34, u35, u36, u37, (.slice A c.length c1), u39, u40, u41, u42, u10], rfl, by kernel_rfl, _, _, _, _, _, _, _, _, _, _, _, _, rfl, hI, f0, f1, f2, f3, f4, f5, (fun _ => rfl), f7, f8, f9, f10, f11⟩
        · simp only [List.getElem?_cons_zero, List.getElem?_cons_succ, Option.some.injEq] at ho
          subst ho
          clear hi'
          have d6 : D 6 = true := hdep ⟨6, Ground.data⟩ (by simp) rfl
          clear hdep
          have hI := hJ
          obtain rfl := f6 d6
          refine wpOp_step rfl (fun K hK => ?_)
          simp only [List.zip_cons_cons, List.zip_nil_right, puts]
          have Hf0 := Lib.hid f0
          have Hf1 := Lib.hid f1
          have Hf2 := Lib.hid f2
          have Hf3 := Lib.hid f3
          have Hf4 := Lib.hid f4
          have Hf5 := Lib.hid f5
          have Hf6 := Lib.hid f6
          have Hf7 := Lib.hid f7
          have Hf8 := Lib.hid f8
          have Hf9 := Lib.hid f9
          have Hf10 := Lib.hid f10
          have Hf11 := Lib.hid f11
          have HhK := Lib.hid hK
          have Hhd := Lib.hid hd
          have HhJ := Lib.hid hJ
          clear hd hK hJ f0 f1 f2 f3 f4 f5 f6 f7 f8 f9 f10 f11
          go_simp
          have f0 := Hf0.out
          have f1 := Hf1.out
          have f2 := Hf2.out
          have f3 := Hf3.out
          have f4 := Hf4.out
          have f5 := Hf5.out
          have f6 := Hf6.out
          have f7 := Hf7.out
          have f8 := Hf8.out
          have f9 := Hf9.out
          have f10 := Hf10.out
          have f11 := Hf11.out
          have hK := HhK.out
          have hd := Hhd.out
          have hJ := HhJ.out
          exact hK _ _ ⟨[u32, u33, u34, u35, u36, u37, (.slice A c.length c1), (.int .i64 c.length), u40, u41, u42, u10], rfl, by kernel_rfl, _, _, _, _, _, _, _, _, _, _, _, _, rfl, hI, f0, f1, f2, f3, f4, f5, (fun _ => rfl), (fun _ => rfl), f8, f9, f10, f11⟩
        · simp only [List.getElem?_cons_zero, List.getElem?_cons_succ, Option.some.injEq] at ho
          subst ho
          clear hi'
          have d7 : D 7 = true := hdep ⟨7, Ground.data⟩ (by simp) rfl
          clear hdep
          have hI := hJ
          obtain rfl := f7 d7
          refine step_make rfl rfl _ _ _ rfl 79 i1 (.slice none 0 0) Try.underlying76 hi1 hx0 hx1 c.length (by kernel_rfl) (by kernel_rfl) (by rw [hx2]; omega) (by unfold maxLen; omega) rfl (fun K hK w9 r9 b9 bk9 rs9 rz9 => ?_)
          have Hf0 := Lib.hid f0
          have Hf1 := Lib.hid f1
          have Hf2 := Lib.hid f2
          have Hf3 := Lib.hid f3
          have Hf4 := Lib.hid f4
          have Hf5 := Lib.hid f5
          have Hf6 := Lib.hid f6
          have Hf7 := Lib.hid f7
          have Hf8 := Lib.hid f8
          have Hf9 := Lib.hid f9
          have Hf10 := Lib.hid f10
          have Hf11 := Lib.hid f11
          have HhK := Lib.hid hK
          have Hhd := Lib.hid hd
          have HhJ := Lib.hid hJ
          clear hd hK hJ f0 f1 f2 f3 f4 f5 f6 f7 f8 f9 f10 f11
          have f0 := Hf0.out
          have f1 := Hf1.out
          have f2 := Hf2.out
          have f3 := Hf3.out
          have f4 := Hf4.out
          have f5 := Hf5.out
          have f6 := Hf6.out
          have f7 := Hf7.out
          have f8 := Hf8.out
          have f9 := Hf9.out
          have f10 := Hf10.out
          have f11 := Hf11.out
          have hK := HhK.out
          have hd := Hhd.out
          have hJ := HhJ.out
          exact hK _ _ ⟨[u32, u33, u34, u35, u36, u37, u38, (.int .i64 c.length), (.slice (some ⟨W.heap.size, 0, none⟩) c.length c.length), u41, u42, u10], rfl, by kernel_rfl, _, _, _, _, _, _, _, _, _, _, _, _, rfl, bel_tr hI b9, f0, f1, f2, f3, f4, (fun h => ((f5 h)).below b9), f6, (fun _ => rfl), (fun _ => ⟨_, r9, rfl, hI.size, bk9, rs9⟩), (fun h => ((f9 h)).below b9), (fun h => ((f10 h)).below b9), (fun h => ((f11 h)).below b9)⟩
        · simp only [List.getElem?_cons_zero, List.getElem?_cons_succ, Option.some.injEq] at ho
          subst ho
          clear hi'
          have d0 : D 0 = true := hdep ⟨0, Ground.data⟩ (by simp) rfl
          have d1 : D 1 = true := hdep ⟨1, Ground.data⟩ (by simp) rfl
          have d5 : D 5 = true := hdep ⟨5, Ground.data⟩ (by simp) rfl
          have d8 : D 8 = true := hdep ⟨8, Ground.data⟩ (by simp) rfl
          clear hdep
          have hI := hJ
          obtain rfl := f0 d0
          obtain rfl := f1 d1
          obtain ⟨AT, cT, rfl, r5⟩ := f5 d5
          obtain ⟨g, r, rfl, hg, bk, rs⟩ := f8 d8
          refine wpOp_step rfl (fun K hK => ?_)
          simp only [List.zip_cons_cons, List.zip_nil_right, puts]
          have Hf0 := Lib.hid f0
          have Hf1 := Lib.hid f1
          have Hf2 := Lib.hid f2
          have Hf3 := Lib.hid f3
          have Hf4 := Lib.hid f4
          have Hf5 := Lib.hid f5
          have Hf6 := Lib.hid f6
          have Hf7 := Lib.hid f7
          have Hf8 := Lib.hid f8
          have Hf9 := Lib.hid f9
          have Hf10 := Lib.hid f10
          have Hf11 := Lib.hid f11
          have HhK := Lib.hid hK
          have Hhd := Lib.hid hd
          have HhJ := Lib.hid hJ
          clear hd hK hJ f0 f1 f2 f3 f4 f5 f6 f7 f8 f9 f10 f11
          go_simp
          have f0 := Hf0.out
          have f1 := Hf1.out
          have f2 := Hf2.out
          have f3 := Hf3.out
          have f4 := Hf4.out
          have f5 := Hf5.out
          have f6 := Hf6.out
          have f7 := Hf7.out
          have f8 := Hf8.out
          have f9 := Hf9.out
          have f10 := Hf10.out
          have f11 := Hf11.out
          have hK := HhK.out
          have hd := Hhd.out
          have hJ := HhJ.out
          exact hK _ _ ⟨[(.int .i64 f), (.slice A c.length c1), u34, u35, u36, (.slice AT T.length cT), u38, u39, (.slice (some ⟨g, 0, none⟩) c.length c.length), (.agg #[.int .i64 f, .slice A c.length c1, .slice AT T.length cT, .slice (some ⟨g, 0, none⟩) c.length c.length]), u42, u10], rfl, by kernel_rfl, _, _, _, _, _, _, _, _, _, _, _, _, rfl, hI, (fun _ => rfl), (fun _ => rfl), f2, f3, f4, f5, f6, f7, f8, (fun _ => ⟨_, _, _, r, rfl, r5, hg, bk, rs⟩), f10, f11⟩
        · simp only [List.getElem?_cons_zero, List.getElem?_cons_succ, Option.some.injEq] at ho
          subst ho
          clear hi'
          have d9 : D 9 = true := hdep ⟨9, Ground.data⟩ (by simp) rfl
          clear hdep
          have hI := hJ
          obtain ⟨AT, cT, g, r, rfl, r5, hg, bk, rs⟩ := f9 d9
          refine wpOp_step rfl (fun K hK => ?_)
          simp only [List.zip_cons_cons, List.zip_nil_right, puts]
          have Hf0 := Lib.hid f0
          have Hf1 := Lib.hid f1
          have Hf2 := Lib.hid f2
          have Hf3 := Lib.hid f3
          have Hf4 := Lib.hid f4
          have Hf5 := Lib.hid f5
          have Hf6 := Lib.hid f6
          have Hf7 := Lib.hid f7
          have Hf8 := Lib.hid f8
          have Hf9 := Lib.hid f9
          have Hf10 := Lib.hid f10
          have Hf11 := Lib.hid f11
          have HhK := Lib.hid hK
          have Hhd := Lib.hid hd
          have HhJ := Lib.hid hJ
          clear hd hK hJ f0 f1 f2 f3 f4 f5 f6 f7 f8 f9 f10 f11
          go_simp
          have f0 := Hf0.out
          have f1 := Hf1.out
          have f2 := Hf2.out
          have f3 := Hf3.out
          have f4 := Hf4.out
          have f5 := Hf5.out
          have f6 := Hf6.out
          have f7 := Hf7.out
          have f8 := Hf8.out
          have f9 := Hf9.out
          have f10 := Hf10.out
          have f11 := Hf11.out
          have hK := HhK.out
          have hd := Hhd.out
          have hJ := HhJ.out
          exact hK _ _ ⟨[u32, u33, u34, u35, u36, u37, u38, u39, u40, (.agg #[.int .i64 f, .slice A c.length c1, .slice AT T.length cT, .slice (some ⟨g, 0, none⟩) c.length c.length]), (.pointer (some ⟨W.heap.size, 0, none⟩)), u10], rfl, by kernel_rfl, _, _, _, _, _, _, _, _, _, _, _, _, rfl, bel_tr hI (bel_al (bel_refl W) (.cells #[.int .i64 f, .slice A c.length c1, .slice AT T.length cT, .slice (some ⟨g, 0, none⟩) c.length c.length] 84)), f0, f1, f2, f3, f4, (fun h => ((f5 h)).below (bel_al (bel_refl W) (.cells #[.int .i64 f, .slice A c.length c1, .slice AT T.length cT, .slice (some ⟨g, 0, none⟩) c.length c.length] 84))), f6, f7, (fun h => ((f8 h)).below (bel_al (bel_refl W) (.cells #[.int .i64 f, .slice A c.length c1, .slice AT T.length cT, .slice (some ⟨g, 0, none⟩) c.length c.length] 84))), (fun h => ((f9 h)).below (bel_al (bel_refl W) (.cells #[.int .i64 f, .slice A c.length c1, .slice AT T.length cT, .slice (some ⟨g, 0, none⟩) c.length c.length] 84))), (fun _ => ⟨_, _, _, _, r, rfl, hI.size, Blk.new W _ _, own_below r5 (bel_al (bel_refl W) (.cells #[.int .i64 f, .slice A c.length c1, .slice AT T.length cT, .slice (some ⟨g, 0, none⟩) c.length c.length] 84)), hg, bk.below (bel_al (bel_refl W) (.cells #[.int .i64 f, .slice A c.length c1, .slice AT T.length cT, .slice (some ⟨g, 0, none⟩) c.length c.length] 84)), rs⟩), (fun h => ((f11 h)).below (bel_al (bel_refl W) (.cells #[.int .i64 f, .slice A c.length c1, .slice AT T.length cT, .slice (some ⟨g, 0, none⟩) c.length c.length] 84)))⟩
        · simp only [List.getElem?_cons_zero, List.getElem?_cons_succ, Option.some.injEq] at ho
          subst ho
          clear hi'
          have d10 : D 10 = true := hdep ⟨10, Ground.data⟩ (by simp) rfl
          clear hdep
          have hI := hJ
          obtain ⟨P, AT, cT, g, r, rfl, x0, x1, x2, x3, x4, x5⟩ := f10 d10
          refine wpOp_step rfl (fun K hK => ?_)
          simp only [List.zip_cons_cons, List.zip_nil_right, puts]
          have Hf0 := Lib.hid f0
          have Hf1 := Lib.hid f1
          have Hf2 := Lib.hid f2
          have Hf3 := Lib.hid f3
          have Hf4 := Lib.hid f4
          have Hf5 := Lib.hid f5
          have Hf6 := Lib.hid f6
          have Hf7 := Lib.hid f7
          have Hf8 := Lib.hid f8
          have Hf9 := Lib.hid f9
          have Hf10 := Lib.hid f10
          have Hf11 := Lib.hid f11
          have HhK := Lib.hid hK
          have Hhd := Lib.hid hd
          have HhJ := Lib.hid hJ
          clear hd hK hJ f0 f1 f2 f3 f4 f5 f6 f7 f8 f9 f10 f11
          go_simp
          have f0 := Hf0.out
          have f1 := Hf1.out
          have f2 := Hf2.out
          have f3 := Hf3.out
          have f4 := Hf4.out
          have f5 := Hf5.out
          have f6 := Hf6.out
          have f7 := Hf7.out
          have f8 := Hf8.out
          have f9 := Hf9.out
          have f10 := Hf10.out
          have f11 := Hf11.out
          have hK := HhK.out
          have hd := Hhd.out
          have hJ := HhJ.out
          exact hK _ _ ⟨[u32, u33, u34, u35, u36, u37, u38, u39, u40, u41, (.pointer (some ⟨P, 0, none⟩)), (.pointer (some ⟨P, 0, none⟩))], rfl, by kernel_rfl, _, _, _, _, _, _, _, _, _, _, _, _, rfl, hI, f0, f1, f2, f3, f4, f5, f6, f7, f8, f9, f10, (fun _ => ⟨P, AT, cT, g, r, rfl, x0, x1, x2, x3, x4, x5⟩)⟩
      · rintro D us W hu hall ⟨u32, u33, u34, u35, u36, u37, u38, u39, u40, u41, u42, u10, rfl, hJ, f0, f1, f2, f3, f4, f5, f6, f7, f8, f9, f10, f11⟩
        have d0 : D 0 = true := hall 0 (by simp)
        have d1 : D 1 = true := hall 1 (by simp)
        have d2 : D 2 = true := hall 2 (by simp)
        have d3 : D 3 = true := hall 3 (by simp)
        have d4 : D 4 = true := hall 4 (by simp)
        have d5 : D 5 = true := hall 5 (by simp)
        have d6 : D 6 = true := hall 6 (by simp)
        have d7 : D 7 = true := hall 7 (by simp)
        have d8 : D 8 = true := hall 8 (by simp)
        have d9 : D 9 = true := hall 9 (by simp)
        have d10 : D 10 = true := hall 10 (by simp)
        have d11 : D 11 = true := hall 11 (by simp)
        have hI := hJ
        clear hJ
        obtain ⟨P, AT, cT, g, r, v11, x0, x1, x2, x3, x4, x5⟩ := f11 d11
        have bW := hI
        clear f0 f1 f2 f3 f4 f5 f6 f7 f8 f9 f10 f11 d0 d1 d2 d3 d4 d5 d6 d7 d8 d9 d10 d11 hall hu hI
        subst v11
        simp only [List.zip_cons_cons, List.zip_nil_right, puts]
        go_simp
        apply_assumption
        go_meet
        exact ⟨⟨P, AT, cT, g, r, rfl, x0, x1, x2, x3, x4, x5⟩, bW⟩
    case rest =>
      obtain ⟨⟨P, AT, cT, G, ro, rfl, x0, hP, hTr, x3, x4, x5⟩, bW⟩ := hcut
      have b2 := bel_tr b1 bW
      have hT0 : Tab wc w.heap.size G c.length T.length c.length (rowF f c T c.length 0) := tab_start x4 (by have := b1.size; omega) x5
      have hPw : w.heap.size ≤ P := by have := b1.size; omega
      have hTo := own_lo hTr b1.size
      clear bW x0 x3 x4 x5 l0 l1 l2 l3 l4 hTr
      have i9 := IntWalk.i64_in ((c.length : Int) - 1) (by omega)
      go_wp2
      go_loopw [11, 12, 13, 67] (fun a _ _ _ wr => ∃ k : Nat, k ≤ c.length ∧ a = .int .i64 ((k : Int) - 1) ∧ LtB wr P f A c.length c1 AT T.length cT (.slice (some ⟨G, 0, none⟩) c.length c.length) ∧ wr.ownsRow w.heap.size 43 3 (.slice AT T.length cT) T.length (flat csPi T) ∧ Tab wr w.heap.size G c.length T.length k (fun a b => cnI f c T a (atPi T b)) ∧ Below w.heap.size w wr) (fun a _ _ _ _ => (intOf a + 1).toNat)
      case atStart => exact ⟨c.length, Nat.le_refl _, rfl, hP, hTo, hT0.cong (fun k i h1 h2 => by omega), b2⟩
      case round =>
        obtain ⟨k1, hk1, rfl, hP, hTo, hTab, hb⟩ := hrel
        clear hT0 b2
        by_cases hk0 : k1 = 0
        · subst hk0
          have e0 : ((0 : Nat) : Int) - 1 = -1 := by decide
          go_wp2
          exact bodyPost_ret (v := .tuple #[.pointer (some ⟨P, 0, none⟩), .bool true]) (by simp [results, Try.results62, go_sem]) rfl ⟨P, G, AT, cT, rfl, hPw, hP, own_rowT hTo, hTab, hb⟩
        · obtain ⟨k, rfl⟩ : ∃ k, k1 = k + 1 := ⟨k1 - 1, by omega⟩
          have ek : (((k + 1 : Nat) : Int) - 1) = (k : Int) := by omega
          rw [ek]
          clear ek hk0
          have hkn : k < c.length := by omega
          have hk0 : (0 : Int) ≤ (k : Int) := by omega
          have hkl : (k : Int) < (c.length : Int) := by omega
          have ik := IntWalk.i64_in ((k : Int) - 1) (by omega)
          go_upto_region 7 with fail
          go_cut [] (fun wx => ∃ (wz : World) (g : Nat) (r : Array Value), wx = wz.setCell ⟨G, k, none⟩ (.slice (some ⟨g, 0, none⟩) T.length T.length) ∧ Below wr.heap.size wr wz ∧ wr.heap.size ≤ g ∧ Blk wz g r 3 ∧ r.size = T.length ∧ ∀ j, j < T.length → r[j]? = some (.int .i64 0))
          case first =>
            refine region_slots (by kernel_rfl) (by kernel_rfl) [50, 51, 52, 53, 54, 55, 56, 57, 58, 59, 60, 61] (fun D us W => ∃ u50 u51 u52 u53 u54 u55 u56 u57 u58 u59 u60 u61 : Value, us = [u50, u51, u52, u53, u54, u55, u56, u57, u58, u59, u60, u61] ∧ ((D 12 = false ∧ Below wr.heap.size wr W) ∨ (D 12 = true ∧ (∀ j, j < 12 → D j = true) ∧ ∃ (wz : World) (g : Nat) (r : Array Value), W = wz.setCell ⟨G, k, none⟩ (.slice (some ⟨g, 0, none⟩) T.length T.length) ∧ Below wr.heap.size wr wz ∧ wr.heap.size ≤ g ∧ Blk wz g r 3 ∧ r.size = T.length ∧ ∀ j, j < T.length → r[j]? = some (.int .i64 0))) ∧ (D 0 = true → u50 = .pointer (some ⟨P, 0, none⟩)) ∧ (D 1 = true → u51 = .pointer (some ⟨P, 0, none⟩)) ∧ (D 2 = true → u52 = .pointer (some ⟨P, 3, none⟩)) ∧ (D 3 = true → u53 = .slice (some ⟨G, 0, none⟩) c.length c.length) ∧ (D 4 = true → u54 = .int .i64 k) ∧ (D 5 = true → u55 = .pointer (some ⟨P, 0, none⟩)) ∧ (D 6 = true → u56 = .pointer (some ⟨P, 0, none⟩)) ∧ (D 7 = true → u57 = .pointer (some ⟨P, 2, none⟩)) ∧ (D 8 = true → u58 = .slice AT T.length cT) ∧ (D 9 = true → u59 = .int .i64 T.length) ∧ (D 10 = true → D 12 = false → FMi wr.heap.size T.length W u60) ∧ (D 11 = true → u61 = .pointer (some ⟨G, k, none⟩))) ?_ ?_ ?_
            · intro us hu
              obtain ⟨u50, u51, u52, u53, u54, u55, u56, u57, u58, u59, u60, u61, rfl⟩ : ∃ u50 u51 u52 u53 u54 u55 u56 u57 u58 u59 u60 u61, us = [u50, u51, u52, u53, u54, u55, u56, u57, u58, u59, u60, u61] := by
                match us, hu with
                | [u50, u51, u52, u53, u54, u55, u56, u57, u58, u59, u60, u61], _ => exact ⟨_, _, _, _, _, _, _, _, _, _, _, _, rfl⟩
              exact ⟨_, _, _, _, _, _, _, _, _, _, _, _, rfl, (.inl ⟨by simp, bel_dr (bel_refl wr)⟩), fun h => absurd h (by simp), fun h => absurd h (by simp), fun h => absurd h (by simp), fun h => absurd h (by simp), fun h => absurd h (by simp), fun h => absurd h (by simp), fun h => absurd h (by simp), fun h => absurd h (by simp), fun h => absurd h (by simp), fun h => absurd h (by simp), fun h => absurd h (by simp), fun h => absurd h (by simp)⟩
            · rintro i o hi ho D us W hu hd hdep ⟨u50, u51, u52, u53, u54, u55, u56, u57, u58, u59, u60, u61, rfl, hJ, f0, f1, f2, f3, f4, f5, f6, f7, f8, f9, f10, f11⟩
              have hi' : i < 13 := by simpa using hi
              clear hi hu
              rcases (show i = 0 ∨ i = 1 ∨ i = 2 ∨ i = 3 ∨ i = 4 ∨ i = 5 ∨ i = 6 ∨ i = 7 ∨ i = 8 ∨ i = 9 ∨ i = 10 ∨ i = 11 ∨ i = 12 from by omega) with rfl | rfl | rfl | rfl | rfl | rfl | rfl | rfl | rfl | rfl | rfl | rfl | rfl
              · simp only [List.getElem?_cons_zero, List.getElem?_cons_succ, Option.some.injEq] at ho
                subst ho
                clear hi'
                clear hdep
                have hI := (hJ.resolve_right (fun h => absurd ((h.2.1 0 (by decide)).symm.trans hd) (by simp)))
                obtain ⟨hz, hI⟩ := hI
                refine wpOp_step rfl (fun K hK => ?_)
                simp only [List.zip_cons_cons, List.zip_nil_right, puts]
                have Hf0 := Lib.hid f0
                have Hf1 := Lib.hid f1
                have Hf2 := Lib.hid f2
                have Hf3 := Lib.hid f3
                have Hf4 := Lib.hid f4
                have Hf5 := Lib.hid f5
                have Hf6 := Lib.hid f6
                have Hf7 := Lib.hid f7
                have Hf8 := Lib.hid f8
                have Hf9 := Lib.hid f9
                have Hf10 := Lib.hid f10
                have Hf11 := Lib.hid f11
                have HhK := Lib.hid hK
                have Hhd := Lib.hid hd
                have HhJ := Lib.hid hJ
                clear hd hK hJ f0 f1 f2 f3 f4 f5 f6 f7 f8 f9 f10 f11
                go_simp
                have f0 := Hf0.out
                have f1 := Hf1.out
                have f2 := Hf2.out
                have f3 := Hf3.out
                have f4 := Hf4.out
                have f5 := Hf5.out
                have f6 := Hf6.out
                have f7 := Hf7.out
                have f8 := Hf8.out
                have f9 := Hf9.out
                have f10 := Hf10.out
                have f11 := Hf11.out
                have hK := HhK.out
                have hd := Hhd.out
                have hJ := HhJ.out
                exact hK _ _ ⟨[(.pointer (some ⟨P, 0, none⟩)), u51, u52, u53, u54, u55, u56, u57, u58, u59, u60, u61], rfl, by kernel_rfl, _, _, _, _, _, _, _, _, _, _, _, _, rfl, (.inl ⟨hz, hI⟩), (fun _ => rfl), f1, f2, f3, f4, f5, f6, f7, f8, f9, f10, f11⟩
              · simp only [List.getElem?_cons_zero, List.getElem?_cons_succ, Option.some.injEq] at ho
                subst ho
                clear hi'
                have d0 : D 0 = true := hdep ⟨0, Ground.data⟩ (by simp) rfl
                clear hdep
                have hI := (hJ.resolve_right (fun h => absurd ((h.2.1 1 (by decide)).symm.trans hd) (by simp)))
                obtain ⟨hz, hI⟩ := hI
                obtain rfl := f0 d0
                have lP := (hP.below hI).lt
                refine wpOp_step rfl (fun K hK => ?_)
                simp only [List.zip_cons_cons, List.zip_nil_right, puts]
                have Hf0 := Lib.hid f0
                have Hf1 := Lib.hid f1
                have Hf2 := Lib.hid f2
                have Hf3 := Lib.hid f3
                have Hf4 := Lib.hid f4
                have Hf5 := Lib.hid f5
                have Hf6 := Lib.hid f6
                have Hf7 := Lib.hid f7
                have Hf8 := Lib.hid f8
                have Hf9 := Lib.hid f9
                have Hf10 := Lib.hid f10
                have Hf11 := Lib.hid f11
                have HhK := Lib.hid hK
                have Hhd := Lib.hid hd
                have HhJ := Lib.hid hJ
                clear hd hK hJ f0 f1 f2 f3 f4 f5 f6 f7 f8 f9 f10 f11
                go_simp
                have f0 := Hf0.out
                have f1 := Hf1.out
                have f2 := Hf2.out
                have f3 := Hf3.out
                have f4 := Hf4.out
                have f5 := Hf5.out
                have f6 := Hf6.out
                have f7 := Hf7.out
                have f8 := Hf8.out
                have f9 := Hf9.out
                have f10 := Hf10.out
                have f11 := Hf11.out
                have hK := HhK.out
                have hd := Hhd.out
                have hJ := HhJ.out
                exact hK _ _ ⟨[(.pointer (some ⟨P, 0, none⟩)), (.pointer (some ⟨P, 0, none⟩)), u52, u53, u54, u55, u56, u57, u58, u59, u60, u61], rfl, by kernel_rfl, _, _, _, _, _, _, _, _, _, _, _, _, rfl, (.inl ⟨hz, hI⟩), (fun _ => rfl), (fun _ => rfl), f2, f3, f4, f5, f6, f7, f8, f9, f10, f11⟩
              · simp only [List.getElem?_cons_zero, List.getElem?_cons_succ, Option.some.injEq] at ho
                subst ho
                clear hi'
                have d1 : D 1 = true := hdep ⟨1, Ground.data⟩ (by simp) rfl
                clear hdep
                have hI := (hJ.resolve_right (fun h => absurd ((h.2.1 2 (by decide)).symm.trans hd) (by simp)))
                obtain ⟨hz, hI⟩ := hI
                obtain rfl := f1 d1
                refine wpOp_step rfl (fun K hK => ?_)
                simp only [List.zip_cons_cons, List.zip_nil_right, puts]
                have Hf0 := Lib.hid f0
                have Hf1 := Lib.hid f1
                have Hf2 := Lib.hid f2
                have Hf3 := Lib.hid f3
                have Hf4 := Lib.hid f4
                have Hf5 := Lib.hid f5
                have Hf6 := Lib.hid f6
                have Hf7 := Lib.hid f7
                have Hf8 := Lib.hid f8
                have Hf9 := Lib.hid f9
                have Hf10 := Lib.hid f10
                have Hf11 := Lib.hid f11
                have HhK := Lib.hid hK
                have Hhd := Lib.hid hd
                have HhJ := Lib.hid hJ
                clear hd hK hJ f0 f1 f2 f3 f4 f5 f6 f7 f8 f9 f10 f11
                go_simp
                have f0 := Hf0.out
                have f1 := Hf1.out
                have f2 := Hf2.out
                have f3 := Hf3.out
                have f4 := Hf4.out
                have f5 := Hf5.out
                have f6 := Hf6.out
                have f7 := Hf7.out
                have f8 := Hf8.out
                have f9 := Hf9.out
                have f10 := Hf10.out
                have f11 := Hf11.out
                have hK := HhK.out
                have hd := Hhd.out
                have hJ := HhJ.out
                exact hK _ _ ⟨[u50, (.pointer (some ⟨P, 0, none⟩)), (.pointer (some ⟨P, 3, none⟩)), u53, u54, u55, u56, u57, u58, u59, u60, u61], rfl, by kernel_rfl, _, _, _, _, _, _, _, _, _, _, _, _, rfl, (.inl ⟨hz, hI⟩), f0, (fun _ => rfl), (fun _ => rfl), f3, f4, f5, f6, f7, f8, f9, f10, f11⟩
              · simp only [List.getElem?_cons_zero, List.getElem?_cons_succ, Option.some.injEq] at ho
                subst ho
                clear hi'
                have d2 : D 2 = true := hdep ⟨2, Ground.data⟩ (by simp) rfl
                clear hdep
                have hI := (hJ.resolve_right (fun h => absurd ((h.2.1 3 (by decide)).symm.trans hd) (by simp)))
                obtain ⟨hz, hI⟩ := hI
                obtain rfl := f2 d2
                obtain ⟨l0, l1, l2, l3⟩ := (hP.below hI).at
                refine wpOp_step rfl (fun K hK => ?_)
                simp only [List.zip_cons_cons, List.zip_nil_right, puts]
                have Hf0 := Lib.hid f0
                have Hf1 := Lib.hid f1
                have Hf2 := Lib.hid f2
                have Hf3 := Lib.hid f3
                have Hf4 := Lib.hid f4
                have Hf5 := Lib.hid f5
                have Hf6 := Lib.hid f6
                have Hf7 := Lib.hid f7
                have Hf8 := Lib.hid f8
                have Hf9 := Lib.hid f9
                have Hf10 := Lib.hid f10
                have Hf11 := Lib.hid f11
                have HhK := Lib.hid hK
                have Hhd := Lib.hid hd
                have HhJ := Lib.hid hJ
                clear hd hK hJ f0 f1 f2 f3 f4 f5 f6 f7 f8 f9 f10 f11
                go_simp
                have f0 := Hf0.out
                have f1 := Hf1.out
                have f2 := Hf2.out
                have f3 := Hf3.out
                have f4 := Hf4.out
                have f5 := Hf5.out
                have f6 := Hf6.out
                have f7 := Hf7.out
                have f8 := Hf8.out
                have f9 := Hf9.out
                have f10 := Hf10.out
                have f11 := Hf11.out
                have hK := HhK.out
                have hd := Hhd.out
                have hJ := HhJ.out
                exact hK _ _ ⟨[u50, u51, (.pointer (some ⟨P, 3, none⟩)), (.slice (some ⟨G, 0, none⟩) c.length c.length), u54, u55, u56, u57, u58, u59, u60, u61], rfl, by kernel_rfl, _, _, _, _, _, _, _, _, _, _, _, _, rfl, (.inl ⟨hz, hI⟩), f0, f1, (fun _ => rfl), (fun _ => rfl), f4, f5, f6, f7, f8, f9, f10, f11⟩
              · simp only [List.getElem?_cons_zero, List.getElem?_cons_succ, Option.some.injEq] at ho
                subst ho
                clear hi'
                clear hdep
                have hI := (hJ.resolve_right (fun h => absurd ((h.2.1 4 (by decide)).symm.trans hd) (by simp)))
                obtain ⟨hz, hI⟩ := hI
                refine wpOp_step rfl (fun K hK => ?_)
                simp only [List.zip_cons_cons, List.zip_nil_right, puts]
                have Hf0 := Lib.hid f0
                have Hf1 := Lib.hid f1
                have Hf2 := Lib.hid f2
                have Hf3 := Lib.hid f3
                have Hf4 := Lib.hid f4
                have Hf5 := Lib.hid f5
                have Hf6 := Lib.hid f6
                have Hf7 := Lib.hid f7
                have Hf8 := Lib.hid f8
                have Hf9 := Lib.hid f9
                have Hf10 := Lib.hid f10
                have Hf11 := Lib.hid f11
                have HhK := Lib.hid hK
                have Hhd := Lib.hid hd
                have HhJ := Lib.hid hJ
                clear hd hK hJ f0 f1 f2 f3 f4 f5 f6 f7 f8 f9 f10 f11
                go_simp
                have f0 := Hf0.out
                have f1 := Hf1.out
                have f2 := Hf2.out
                have f3 := Hf3.out
                have f4 := Hf4.out
                have f5 := Hf5.out
                have f6 := Hf6.out
                have f7 := Hf7.out
                have f8 := Hf8.out
                have f9 := Hf9.out
                have f10 := Hf10.out
                have f11 := Hf11.out
                have hK := HhK.out
                have hd := Hhd.out
                have hJ := HhJ.out
                exact hK _ _ ⟨[u50, u51, u52, u53, (.int .i64 k), u55, u56, u57, u58, u59, u60, u61], rfl, by kernel_rfl, _, _, _, _, _, _, _, _, _, _, _, _, rfl, (.inl ⟨hz, hI⟩), f0, f1, f2, f3, (fun _ => rfl), f5, f6, f7, f8, f9, f10, f11⟩
              · simp only [List.getElem?_cons_zero, List.getElem?_cons_succ, Option.some.injEq] at ho
                subst ho
                clear hi'
                clear hdep
                have hI := (hJ.resolve_right (fun h => absurd ((h.2.1 5 (by decide)).symm.trans hd) (by simp)))
                obtain ⟨hz, hI⟩ := hI
                refine wpOp_step rfl (fun K hK => ?_)
                simp only [List.zip_cons_cons, List.zip_nil_right, puts]
                have Hf0 := Lib.hid f0
                have Hf1 := Lib.hid f1
                have Hf2 := Lib.hid f2
                have Hf3 := Lib.hid f3
                have Hf4 := Lib.hid f4
                have Hf5 := Lib.hid f5
                have Hf6 := Lib.hid f6
                have Hf7 := Lib.hid f7
                have Hf8 := Lib.hid f8
                have Hf9 := Lib.hid f9
                have Hf10 := Lib.hid f10
                have Hf11 := Lib.hid f11
                have HhK := Lib.hid hK
                have Hhd := Lib.hid hd
                have HhJ := Lib.hid hJ
                clear hd hK hJ f0 f1 f2 f3 f4 f5 f6 f7 f8 f9 f10 f11
                go_simp
                have f0 := Hf0.out
                have f1 := Hf1.out
                have f2 := Hf2.out
                have f3 := Hf3.out
                have f4 := Hf4.out
                have f5 := Hf5.out
                have f6 := Hf6.out
                have f7 := Hf7.out
                have f8 := Hf8.out
                have f9 := Hf9.out
                have f10 := Hf10.out
                have f11 := Hf11.out
                have hK := HhK.out
                have hd := Hhd.out
                have hJ := HhJ.out
                exact hK _ _ ⟨[u50, u51, u52, u53, u54, (.pointer (some ⟨P, 0, none⟩)), u56, u57, u58, u59, u60, u61], rfl, by kernel_rfl, _, _, _, _, _, _, _, _, _, _, _, _, rfl, (.inl ⟨hz, hI⟩), f0, f1, f2, f3, f4, (fun _ => rfl), f6, f7, f8, f9, f10, f11⟩
              · simp only [List.getElem?_cons_zero, List.getElem?_cons_succ, Option.some.injEq] at ho
                subst ho
                clear hi'
                have d5 : D 5 = true := hdep ⟨5, Ground.data⟩ (by simp) rfl
                clear hdep
                have hI := (hJ.resolve_right (fun h => absurd ((h.2.1 6 (by decide)).symm.trans hd) (by simp)))
                obtain ⟨hz, hI⟩ := hI
                obtain rfl := f5 d5
                have lP := (hP.below hI).lt
                refine wpOp_step rfl (fun K hK => ?_)
                simp only [List.zip_cons_cons, List.zip_nil_right, puts]
                have Hf0 := Lib.hid f0
                have Hf1 := Lib.hid f1
                have Hf2 := Lib.hid f2
                have Hf3 := Lib.hid f3
                have Hf4 := Lib.hid f4
                have Hf5 := Lib.hid f5
                have Hf6 := Lib.hid f6
                have Hf7 := Lib.hid f7
                have Hf8 := Lib.hid f8
                have Hf9 := Lib.hid f9
                have Hf10 := Lib.hid f10
                have Hf11 := Lib.hid f11
                have HhK := Lib.hid hK
                have Hhd := Lib.hid hd
                have HhJ := Lib.hid hJ
                clear hd hK hJ f0 f1 f2 f3 f4 f5 f6 f7 f8 f9 f10 f11
                go_simp
                have f0 := Hf0.out
                have f1 := Hf1.out
                have f2 := Hf2.out
                have f3 := Hf3.out
                have f4 := Hf4.out
                have f5 := Hf5.out
                have f6 := Hf6.out
                have f7 := Hf7.out
                have f8 := Hf8.out
                have f9 := Hf9.out
                have f10 := Hf10.out
                have f11 := Hf11.out
                have hK := HhK.out
                have hd := Hhd.out
                have hJ := HhJ.out
                exact hK _ _ ⟨[u50, u51, u52, u53, u54, (.pointer (some ⟨P, 0, none⟩)), (.pointer (some ⟨P, 0, none⟩)), u57, u58, u59, u60, u61], rfl, by kernel_rfl, _, _, _, _, _, _, _, _, _, _, _, _, rfl, (.inl ⟨hz, hI⟩), f0, f1, f2, f3, f4, (fun _ => rfl), (fun _ => rfl), f7, f8, f9, f10, f11⟩
              · simp only [List.getElem?_cons_zero, List.getElem?_cons_succ, Option.some.injEq] at ho
                subst ho
                clear hi'
                have d6 : D 6 = true := hdep ⟨6, Ground.data⟩ (by simp) rfl
                clear hdep
                have hI := (hJ.resolve_right (fun h => absurd ((h.2.1 7 (by decide)).symm.trans hd) (by simp)))
                obtain ⟨hz, hI⟩ := hI
                obtain rfl := f6 d6
                refine wpOp_step rfl (fun K hK => ?_)
                simp only [List.zip_cons_cons, List.zip_nil_right, puts]
                have Hf0 := Lib.hid f0
                have Hf1 := Lib.hid f1
                have Hf2 := Lib.hid f2
                have Hf3 := Lib.hid f3
                have Hf4 := Lib.hid f4
                have Hf5 := Lib.hid f5
                have Hf6 := Lib.hid f6
                have Hf7 := Lib.hid f7
                have Hf8 := Lib.hid f8
                have Hf9 := Lib.hid f9
                have Hf10 := Lib.hid f10
                have Hf11 := Lib.hid f11
                have HhK := Lib.hid hK
                have Hhd := Lib.hid hd
                have HhJ := Lib.hid hJ
                clear hd hK hJ f0 f1 f2 f3 f4 f5 f6 f7 f8 f9 f10 f11
                go_simp
                have f0 := Hf0.out
                have f1 := Hf1.out
                have f2 := Hf2.out
                have f3 := Hf3.out
                have f4 := Hf4.out
                have f5 := Hf5.out
                have f6 := Hf6.out
                have f7 := Hf7.out
                have f8 := Hf8.out
                have f9 := Hf9.out
                have f10 := Hf10.out
                have f11 := Hf11.out
                have hK := HhK.out
                have hd := Hhd.out
                have hJ := HhJ.out
                exact hK _ _ ⟨[u50, u51, u52, u53, u54, u55, (.pointer (some ⟨P, 0, none⟩)), (.pointer (some ⟨P, 2, none⟩)), u58, u59, u60, u61], rfl, by kernel_rfl, _, _, _, _, _, _, _, _, _, _, _, _, rfl, (.inl ⟨hz, hI⟩), f0, f1, f2, f3, f4, f5, (fun _ => rfl), (fun _ => rfl), f8, f9, f10, f11⟩
              · simp only [List.getElem?_cons_zero, List.getElem?_cons_succ, Option.some.injEq] at ho
                subst ho
                clear hi'
                have d7 : D 7 = true := hdep ⟨7, Ground.data⟩ (by simp) rfl
                clear hdep
                have hI := (hJ.resolve_right (fun h => absurd ((h.2.1 8 (by decide)).symm.trans hd) (by simp)))
                obtain ⟨hz, hI⟩ := hI
                obtain rfl := f7 d7
                obtain ⟨l0, l1, l2, l3⟩ := (hP.below hI).at
                refine wpOp_step rfl (fun K hK => ?_)
                simp only [List.zip_cons_cons, List.zip_nil_right, puts]
                have Hf0 := Lib.hid f0
                have Hf1 := Lib.hid f1
                have Hf2 := Lib.hid f2
                have Hf3 := Lib.hid f3
                have Hf4 := Lib.hid f4
                have Hf5 := Lib.hid f5
                have Hf6 := Lib.hid f6
                have Hf7 := Lib.hid f7
                have Hf8 := Lib.hid f8
                have Hf9 := Lib.hid f9
                have Hf10 := Lib.hid f10
                have Hf11 := Lib.hid f11
                have HhK := Lib.hid hK
                have Hhd := Lib.hid hd
                have HhJ := Lib.hid hJ
                clear hd hK hJ f0 f1 f2 f3 f4 f5 f6 f7 f8 f9 f10 f11
                go_simp
                have f0 := Hf0.out
                have f1 := Hf1.out
                have f2 := Hf2.out
                have f3 := Hf3.out
                have f4 := Hf4.out
                have f5 := Hf5.out
                have f6 := Hf6.out
                have f7 := Hf7.out
                have f8 := Hf8.out
                have f9 := Hf9.out
                have f10 := Hf10.out
                have f11 := Hf11.out
                have hK := HhK.out
                have hd := Hhd.out
                have hJ := HhJ.out
                exact hK _ _ ⟨[u50, u51, u52, u53, u54, u55, u56, (.pointer (some ⟨P, 2, none⟩)), (.slice AT T.length cT), u59, u60, u61], rfl, by kernel_rfl, _, _, _, _, _, _, _, _, _, _, _, _, rfl, (.inl ⟨hz, hI⟩), f0, f1, f2, f3, f4, f5, f6, (fun _ => rfl), (fun _ => rfl), f9, f10, f11⟩
              · simp only [List.getElem?_cons_zero, List.getElem?_cons_succ, Option.some.injEq] at ho
                subst ho
                clear hi'
                have d8 : D 8 = true := hdep ⟨8, Ground.data⟩ (by simp) rfl
                clear hdep
                have hI := (hJ.resolve_right (fun h => absurd ((h.2.1 9 (by decide)).symm.trans hd) (by simp)))
                obtain ⟨hz, hI⟩ := hI
                obtain rfl := f8 d8
                refine wpOp_step rfl (fun K hK => ?_)
                simp only [List.zip_cons_cons, List.zip_nil_right, puts]
                have Hf0 := Lib.hid f0
                have Hf1 := Lib.hid f1
                have Hf2 := Lib.hid f2
                have Hf3 := Lib.hid f3
                have Hf4 := Lib.hid f4
                have Hf5 := Lib.hid f5
                have Hf6 := Lib.hid f6
                have Hf7 := Lib.hid f7
                have Hf8 := Lib.hid f8
                have Hf9 := Lib.hid f9
                have Hf10 := Lib.hid f10
                have Hf11 := Lib.hid f11
                have HhK := Lib.hid hK
                have Hhd := Lib.hid hd
                have HhJ := Lib.hid hJ
                clear hd hK hJ f0 f1 f2 f3 f4 f5 f6 f7 f8 f9 f10 f11
                go_simp
                have f0 := Hf0.out
                have f1 := Hf1.out
                have f2 := Hf2.out
                have f3 := Hf3.out
                have f4 := Hf4.out
                have f5 := Hf5.out
                have f6 := Hf6.out
                have f7 := Hf7.out
                have f8 := Hf8.out
                have f9 := Hf9.out
                have f10 := Hf10.out
                have f11 := Hf11.out
                have hK := HhK.out
                have hd := Hhd.out
                have hJ := HhJ.out
                exact hK _ _ ⟨[u50, u51, u52, u53, u54, u55, u56, u57, (.slice AT T.length cT), (.int .i64 T.length), u60, u61], rfl, by kernel_rfl, _, _, _, _, _, _, _, _, _, _, _, _, rfl, (.inl ⟨hz, hI⟩), f0, f1, f2, f3, f4, f5, f6, f7, (fun _ => rfl), (fun _ => rfl), f10, f11⟩
              · simp only [List.getElem?_cons_zero, List.getElem?_cons_succ, Option.some.injEq] at ho
                subst ho
                clear hi'
                have d9 : D 9 = true := hdep ⟨9, Ground.data⟩ (by simp) rfl
                clear hdep
                have hI := (hJ.resolve_right (fun h => absurd ((h.2.1 10 (by decide)).symm.trans hd) (by simp)))
                obtain ⟨hz, hI⟩ := hI
                obtain rfl := f9 d9
                refine step_make rfl rfl _ _ _ rfl 3 i0 (.int .i64 0) Try.underlying79 hi0 hz0 hz1 T.length (by kernel_rfl) (by kernel_rfl) (by rw [hz2]; omega) (by unfold maxLen; omega) rfl (fun K hK w9 r9 b9 bk9 rs9 rz9 => ?_)
                have Hf0 := Lib.hid f0
                have Hf1 := Lib.hid f1
                have Hf2 := Lib.hid f2
                have Hf3 := Lib.hid f3
                have Hf4 := Lib.hid f4
                have Hf5 := Lib.hid f5
                have Hf6 := Lib.hid f6
                have Hf7 := Lib.hid f7
                have Hf8 := Lib.hid f8
                have Hf9 := Lib.hid f9
                have Hf10 := Lib.hid f10
                have Hf11 := Lib.hid f11
                have HhK := Lib.hid hK
                have Hhd := Lib.hid hd
                have HhJ := Lib.hid hJ
                clear hd hK hJ f0 f1 f2 f3 f4 f5 f6 f7 f8 f9 f10 f11
                have f0 := Hf0.out
                have f1 := Hf1.out
                have f2 := Hf2.out
                have f3 := Hf3.out
                have f4 := Hf4.out
                have f5 := Hf5.out
                have f6 := Hf6.out
                have f7 := Hf7.out
                have f8 := Hf8.out
                have f9 := Hf9.out
                have f10 := Hf10.out
                have f11 := Hf11.out
                have hK := HhK.out
                have hd := Hhd.out
                have hJ := HhJ.out
                exact hK _ _ ⟨[u50, u51, u52, u53, u54, u55, u56, u57, u58, (.int .i64 T.length), (.slice (some ⟨W.heap.size, 0, none⟩) T.length T.length), u61], rfl, by kernel_rfl, _, _, _, _, _, _, _, _, _, _, _, _, rfl, (.inl ⟨hz, bel_tr hI b9⟩), f0, f1, f2, f3, f4, f5, f6, f7, f8, (fun _ => rfl), (fun _ _ => ⟨_, r9, rfl, hI.size, bk9, rs9, rz9⟩), f11⟩
              · simp only [List.getElem?_cons_zero, List.getElem?_cons_succ, Option.some.injEq] at ho
                subst ho
                clear hi'
                have d3 : D 3 = true := hdep ⟨3, Ground.data⟩ (by simp) rfl
                have d4 : D 4 = true := hdep ⟨4, Ground.data⟩ (by simp) rfl
                clear hdep
                have hI := (hJ.resolve_right (fun h => absurd ((h.2.1 11 (by decide)).symm.trans hd) (by simp)))
                obtain ⟨hz, hI⟩ := hI
                obtain rfl := f3 d3
                obtain rfl := f4 d4
                refine wpOp_step rfl (fun K hK => ?_)
                simp only [List.zip_cons_cons, List.zip_nil_right, puts]
                have Hf0 := Lib.hid f0
                have Hf1 := Lib.hid f1
                have Hf2 := Lib.hid f2
                have Hf3 := Lib.hid f3
                have Hf4 := Lib.hid f4
                have Hf5 := Lib.hid f5
                have Hf6 := Lib.hid f6
                have Hf7 := Lib.hid f7
                have Hf8 := Lib.hid f8
                have Hf9 := Lib.hid f9
                have Hf10 := Lib.hid f10
                have Hf11 := Lib.hid f11
                have HhK := Lib.hid hK
                have Hhd := Lib.hid hd
                have HhJ := Lib.hid hJ
                clear hd hK hJ f0 f1 f2 f3 f4 f5 f6 f7 f8 f9 f10 f11
                go_simp
                have f0 := Hf0.out
                have f1 := Hf1.out
                have f2 := Hf2.out
                have f3 := Hf3.out
                have f4 := Hf4.out
                have f5 := Hf5.out
                have f6 := Hf6.out
                have f7 := Hf7.out
                have f8 := Hf8.out
                have f9 := Hf9.out
                have f10 := Hf10.out
                have f11 := Hf11.out
                have hK := HhK.out
                have hd := Hhd.out
                have hJ := HhJ.out
                exact hK _ _ ⟨[u50, u51, u52, (.slice (some ⟨G, 0, none⟩) c.length c.length), (.int .i64 k), u55, u56, u57, u58, u59, u60, (.pointer (some ⟨G, k, none⟩))], rfl, by kernel_rfl, _, _, _, _, _, _, _, _, _, _, _, _, rfl, (.inl ⟨hz, hI⟩), f0, f1, f2, (fun _ => rfl), (fun _ => rfl), f5, f6, f7, f8, f9, f10, (fun _ => rfl)⟩
              · simp only [List.getElem?_cons_zero, List.getElem?_cons_succ, Option.some.injEq] at ho
                subst ho
                clear hi'
                have d10 : D 10 = true := hdep ⟨10, Ground.data⟩ (by simp) rfl
                have d11 : D 11 = true := hdep ⟨11, Ground.data⟩ (by simp) rfl
                have e0 : D 0 = true := hdep ⟨0, Ground.phase⟩ (by simp) rfl
                have e1 : D 1 = true := hdep ⟨1, Ground.phase⟩ (by simp) rfl
                have e2 : D 2 = true := hdep ⟨2, Ground.phase⟩ (by simp) rfl
                have e3 : D 3 = true := hdep ⟨3, Ground.phase⟩ (by simp) rfl
                have e4 : D 4 = true := hdep ⟨4, Ground.phase⟩ (by simp) rfl
                have e5 : D 5 = true := hdep ⟨5, Ground.phase⟩ (by simp) rfl
                have e6 : D 6 = true := hdep ⟨6, Ground.phase⟩ (by simp) rfl
                have e7 : D 7 = true := hdep ⟨7, Ground.phase⟩ (by simp) rfl
                have e8 : D 8 = true := hdep ⟨8, Ground.phase⟩ (by simp) rfl
                have e9 : D 9 = true := hdep ⟨9, Ground.phase⟩ (by simp) rfl
                have e10 : D 10 = true := d10
                have e11 : D 11 = true := d11
                clear hdep
                have hI := (hJ.resolve_right (fun h => absurd (h.1.symm.trans hd) (by simp))).2
                have hz := hd
                obtain ⟨g, r, rfl, g0, g1, g2, g3⟩ := f10 d10 hz
                obtain rfl := f11 d11
                obtain ⟨t0, t1, t2, t3⟩ := (hTab.below hI).lt
                obtain ⟨cv, hcv⟩ := t3 k hkn
                have fG := t2 k
                refine wpOp_step rfl (fun K hK => ?_)
                simp only [List.zip_cons_cons, List.zip_nil_right, puts]
                have Hf0 := Lib.hid f0
                have Hf1 := Lib.hid f1
                have Hf2 := Lib.hid f2
                have Hf3 := Lib.hid f3
                have Hf4 := Lib.hid f4
                have Hf5 := Lib.hid f5
                have Hf6 := Lib.hid f6
                have Hf7 := Lib.hid f7
                have Hf8 := Lib.hid f8
                have Hf9 := Lib.hid f9
                have Hf10 := Lib.hid f10
                have Hf11 := Lib.hid f11
                have HhK := Lib.hid hK
                have Hhd := Lib.hid hd
                have HhJ := Lib.hid hJ
                clear hd hK hJ f0 f1 f2 f3 f4 f5 f6 f7 f8 f9 f10 f11
                go_simp
                have f0 := Hf0.out
                have f1 := Hf1.out
                have f2 := Hf2.out
                have f3 := Hf3.out
                have f4 := Hf4.out
                have f5 := Hf5.out
                have f6 := Hf6.out
                have f7 := Hf7.out
                have f8 := Hf8.out
                have f9 := Hf9.out
                have f10 := Hf10.out
                have f11 := Hf11.out
                have hK := HhK.out
                have hd := Hhd.out
                have hJ := HhJ.out
                exact hK _ _ ⟨[u50, u51, u52, u53, u54, u55, u56, u57, u58, u59, (.slice (some ⟨g, 0, none⟩) T.length T.length), (.pointer (some ⟨G, k, none⟩))], rfl, by kernel_rfl, _, _, _, _, _, _, _, _, _, _, _, _, rfl, (.inr ⟨rfl, fun j hj => updD_of (by rcases (show j = 0 ∨ j = 1 ∨ j = 2 ∨ j = 3 ∨ j = 4 ∨ j = 5 ∨ j = 6 ∨ j = 7 ∨ j = 8 ∨ j = 9 ∨ j = 10 ∨ j = 11 from by omega) with rfl | rfl | rfl | rfl | rfl | rfl | rfl | rfl | rfl | rfl | rfl | rfl <;> assumption), ⟨W, g, r, rfl, hI, g0, g1, g2, g3⟩⟩), f0, f1, f2, f3, f4, f5, f6, f7, f8, f9, (fun _ h => Bool.noConfusion (show true = false from h)), (fun _ => rfl)⟩
            · rintro D us W hu hall ⟨u50, u51, u52, u53, u54, u55, u56, u57, u58, u59, u60, u61, rfl, hJ, f0, f1, f2, f3, f4, f5, f6, f7, f8, f9, f10, f11⟩
              have d0 : D 0 = true := hall 0 (by simp)
              have d1 : D 1 = true := hall 1 (by simp)
              have d2 : D 2 = true := hall 2 (by simp)
              have d3 : D 3 = true := hall 3 (by simp)
              have d4 : D 4 = true := hall 4 (by simp)
              have d5 : D 5 = true := hall 5 (by simp)
              have d6 : D 6 = true := hall 6 (by simp)
              have d7 : D 7 = true := hall 7 (by simp)
              have d8 : D 8 = true := hall 8 (by simp)
              have d9 : D 9 = true := hall 9 (by simp)
              have d10 : D 10 = true := hall 10 (by simp)
              have d11 : D 11 = true := hall 11 (by simp)
              have d12 : D 12 = true := hall 12 (by simp)
              have hI := (hJ.resolve_left (fun h => absurd (h.1.symm.trans d12) (by simp))).2.2
              clear hJ
              obtain ⟨wz, g, r, rfl, z0, z1, z2, z3, z4⟩ := hI
              clear f0 f1 f2 f3 f4 f5 f6 f7 f8 f9 f10 f11 d0 d1 d2 d3 d4 d5 d6 d7 d8 d9 d10 d11 d12 hall hu
              simp only [List.zip_cons_cons, List.zip_nil_right, puts]
              go_simp
              apply_assumption
              go_meet
              exact ⟨wz, g, r, rfl, z0, z1, z2, z3, z4⟩
          case rest =>
            obtain ⟨wz, g, r, rfl, z0, z1, z2, z3, z4⟩ := hcut
            have hsz := hb.size
            obtain ⟨t0, t1, t2, t3⟩ := hTab.lt
            obtain ⟨og, hog⟩ := (hTab.below z0).blk
            have hTab0 : Tab (wz.setCell ⟨G, k, none⟩ (.slice (some ⟨g, 0, none⟩) T.length T.length)) w.heap.size G c.length T.length k (rowF f c T k 0) := ((hTab.below z0).lay hkn z2 (by omega) z3 z4 (by omega) (fun a q ha hb hq => by
              obtain ⟨r', y1, y2, y3, _⟩ := hTab.row a (by omega) hb
              have e := keep_tr y1 z0
              rw [hq] at e
              simp only [Option.some.injEq, Value.slice.injEq, Addr.mk.injEq, and_true] at e
              omega)).cong (fun a b h1 h2 h3 => by
                show (if a = k then 0 else cnI f c T a (atPi T b)) = rowF f c T k 0 a b
                unfold rowF
                by_cases e : a = k
                · rw [if_pos e, if_pos ⟨e, Nat.zero_le _⟩]
                · rw [if_neg e, if_neg (fun h => e h.1)])
            have hP0 : LtB (wz.setCell ⟨G, k, none⟩ (.slice (some ⟨g, 0, none⟩) T.length T.length)) P f A c.length c1 AT T.length cT (.slice (some ⟨G, 0, none⟩) c.length c.length) := Blk.off (hP.below z0) (tab_ne hTab hP) _
            have hTo0 : (wz.setCell ⟨G, k, none⟩ (.slice (some ⟨g, 0, none⟩) T.length T.length)).ownsRow w.heap.size 43 3 (.slice AT T.length cT) T.length (flat csPi T) := own_off (q := ⟨G, k, none⟩) (own_below hTo z0) (own_ne (own_below hTo z0) hog (by decide)) _
            have hb0 : Below w.heap.size w (wz.setCell ⟨G, k, none⟩ (.slice (some ⟨g, 0, none⟩) T.length T.length)) := bel_set (bel_tr hb z0) (by simp only; omega) _
            clear hTab hP hTo hb z0 z1 z2 z3 z4 t0 t1 t2 t3 hog hsz
            generalize (wz.setCell ⟨G, k, none⟩ (.slice (some ⟨g, 0, none⟩) T.length T.length)) = wq at *
            obtain ⟨l0, l1, l2, l3⟩ := hP0.at
            go_wp2
            clear l0 l1 l2 l3
            go_loopw [12, 13, 67] (fun _ _ i wr => ∃ j : Nat, j ≤ T.length ∧ i = .int .i64 j ∧ LtB wr P f A c.length c1 AT T.length cT (.slice (some ⟨G, 0, none⟩) c.length c.length) ∧ wr.ownsRow w.heap.size 43 3 (.slice AT T.length cT) T.length (flat csPi T) ∧ Tab wr w.heap.size G c.length T.length k (rowF f c T k j) ∧ Below w.heap.size w wr) (fun _ _ i _ => T.length - (intOf i).toNat)
            case atStart => exact ⟨0, Nat.zero_le _, rfl, hP0, hTo0, hTab0, hb0⟩
            case round =>
              obtain ⟨j, hj, rfl, hP, hTo, hTab, hb⟩ := hrel
              clear hP0 hTo0 hTab0 hb0
              by_cases hlt : j < T.length
              · obtain ⟨wi, hwi⟩ : ∃ wi, wi = wr := ⟨_, rfl⟩
                subst hwi
                obtain ⟨tb, toff, rfl, htb, htc⟩ := (own_rowT hTo) (by omega)
                have htj := htc j hlt
                clear htc
                have hjl : (j : Int) < (T.length : Int) := by omega
                have hj0 : (0 : Int) ≤ (j : Int) := by omega
                obtain ⟨p, hp⟩ : ∃ p, atPi T j = p := ⟨_, rfl⟩
                obtain ⟨x, hx⟩ : ∃ x, atPi c k = x := ⟨_, rfl⟩
                obtain ⟨la, hla⟩ : ∃ la, ((k : Int) == (c.length : Int) - 1) = la := ⟨_, rfl⟩
                obtain ⟨t1, ht1⟩ : ∃ t1, tnP f c k p = t1 := ⟨_, rfl⟩
                rw [hp] at htj
                have HPJ := Lib.hid hp
                have HX := Lib.hid hx
                have HLA := Lib.hid hla
                have HT1 := Lib.hid ht1
                clear hp hx hla ht1
                obtain ⟨p0, p1, p2⟩ := htj
                have bX : Blk (wi.alloc (.cells #[.int .i64 p.step, .int .i64 p.alter, .int .i64 p.octave] 43)) wi.heap.size #[.int .i64 p.step, .int .i64 p.alter, .int .i64 p.octave] 43 := Blk.new wi _ _
                have hbl := bel_al (bel_refl wi) (.cells #[.int .i64 p.step, .int .i64 p.alter, .int .i64 p.octave] 43)
                replace hP := hP.below hbl
                replace hTo := own_below hTo hbl
                replace hTab := hTab.below hbl
                replace hb := bel_tr hb hbl
                go_upto_region 11 with fail
                clear p0 p1 p2 hbl
                generalize (wi.alloc (.cells #[.int .i64 p.step, .int .i64 p.alter, .int .i64 p.octave] 43)) = v at *
                generalize wi.heap.size = X at *
                have m0 : v.cell? ⟨X, 0, none⟩ = some (.int .i64 p.step) := by rw [Blk.cell bX]; rfl
                have m1 : v.cell? ⟨X, 1, none⟩ = some (.int .i64 p.alter) := by rw [Blk.cell bX]; rfl
                have m2 : v.cell? ⟨X, 2, none⟩ = some (.int .i64 p.octave) := by rw [Blk.cell bX]; rfl
                go_wp2_with fail
                refine (ta_any f A c.length c1 c k p.step p.alter p.octave la _ hkn rfl hm HLA.out (hc.below hb)).mono ?_
                rintro e3 w3 ⟨rfl, b3⟩
                rw [HX.out]
                go_wp2_with fail
                refine (tf_any f k la x.step x.alter x.octave p.step p.alter p.octave (kyP x) (kyP p) (ikT f p) ((k : Int) == 0) rfl rfl rfl rfl _).mono ?_
                rintro e5 w5 ⟨rfl, b5⟩
                have ht : tnK (ikT f p) (kyP x) (kyP p) ((k : Int) == 0) la = t1 := by rw [← HT1.out]; unfold tnP; rw [HX.out, HLA.out]
                rw [ht]
                clear ht m0 m1 m2
                have b35 := bel_tr b3 b5
                replace bX := bX.below b35
                replace hP := hP.below b35
                replace hTo := own_below hTo b35
                replace hTab := hTab.below b35
                replace hb := bel_tr hb b35
                clear b3 b5 b35
                by_cases hz : t1 = 0
                · have hzb : (t1 == 0) = true := by simp only [beq_iff_eq]; exact hz
                  obtain ⟨N, hN⟩ : ∃ N, afI f c T k p = N := ⟨_, rfl⟩
                  have HCN : Hid (cnI f c T k (atPi T j) = N) := by rw [HPJ.out]; unfold cnI; rw [if_pos (by rw [HT1.out]; exact hz)]; exact hN
                  have HN := Lib.hid hN
                  clear hz hN
                  obtain ⟨l0, l1, l2, l3⟩ := hP.at
                  obtain ⟨r, y1, y2, y3, y4, y5, y6⟩ := hTab.row k (Nat.le_refl _) hkn
                  have y7 := y6 j hlt
                  clear y6
                  have m0 : w5.cell? ⟨X, 0, none⟩ = some (.int .i64 p.step) := by rw [Blk.cell bX]; rfl
                  have m1 : w5.cell? ⟨X, 1, none⟩ = some (.int .i64 p.alter) := by rw [Blk.cell bX]; rfl
                  have m2 : w5.cell? ⟨X, 2, none⟩ = some (.int .i64 p.octave) := by rw [Blk.cell bX]; rfl
                  have hTabU : Tab w5 w.heap.size G c.length T.length (k + 1) (fun a b => cnI f c T a (atPi T b)) := (hTab.up (Nat.le_succ k)).cong (fun a b h1 h2 h3 => by unfold rowF; rw [if_neg (fun h => by omega)])
                  have LA : ∀ xL : Later w5, Calls Try.prog 87 #[.pointer (some ⟨P, 0, none⟩), .int .i64 k, .agg #[.int .i64 p.step, .int .i64 p.alter, .int .i64 p.octave]] xL.world fun e w'' => e = .returned (.int .i64 N) ∧ ∃ z : Later w5, w'' = z.world := fun xL => later_call (by have h := af_any f c T A c.length c1 _ T.length cT P G w.heap.size k p xL.world hkn rfl n10 rfl hT63 (hc.below (bel_tr hb xL.bel)) ((own_rowT hTo).below xL.bel) (hP.below xL.bel) (hTabU.below xL.bel); rw [HN.out] at h; exact h)
                  go_upto_region 12 with fail
                  have lf0 : ∀ xL : Later w5, xL.world.cell? ⟨P, 0, none⟩ = some (.int .i64 f) := fun xL => xL.at (l0)
                  have lf1 : ∀ xL : Later w5, xL.world.cell? ⟨P, 3, none⟩ = some (.slice (some ⟨G, 0, none⟩) c.length c.length) := fun xL => xL.at (l3)
                  have lf2 : ∀ xL : Later w5, xL.world.cell? ⟨G, k, none⟩ = some (.slice (some ⟨r, 0, none⟩) T.length T.length) := fun xL => xL.at (y1)
                  have lf3 : ∀ xL : Later w5, xL.world.cell? ⟨X, 0, none⟩ = some (.int .i64 p.step) := fun xL => xL.at (m0)
                  have lf4 : ∀ xL : Later w5, xL.world.cell? ⟨X, 1, none⟩ = some (.int .i64 p.alter) := fun xL => xL.at (m1)
                  have lf5 : ∀ xL : Later w5, xL.world.cell? ⟨X, 2, none⟩ = some (.int .i64 p.octave) := fun xL => xL.at (m2)
                  refine region_tail (w0 := w5) 13 (by kernel_rfl) (by kernel_rfl) (bel_refl _) ?_
                  simp only [List.take_succ_cons, List.take_zero, List.drop_succ_cons, List.drop_zero]
                  repeat (go_big_quiet_step (((go_at_call 87; with_reducible exact LA _))))
                  refine wpQuiet_nil ?_
                  rintro w' ⟨x, rfl⟩
                  obtain ⟨w7, b7⟩ := x
                  clear lf0 lf1 lf2 lf3 lf4 lf5
                  clear LA l0 l1 l2 l3 m0 m1 m2 hTabU bX
                  have y1b := keep_tr y1 b7
                  have y7b := keep_tr y7 b7
                  have y4b : w7.frozen? ⟨r, j, none⟩ = false := by rw [b7.frozen (p := ⟨r, j, none⟩) y3]; exact y5 j
                  have y3b : r < w7.heap.size := Nat.lt_of_lt_of_le y3 b7.size
                  obtain ⟨rb, hrb⟩ := tab_rowblk (hTab.below b7) k (Nat.le_refl _) hkn y1b
                  have hTabS : Tab (w7.setCell ⟨r, j, none⟩ (.int .i64 N)) w.heap.size G c.length T.length k (rowF f c T k (j + 1)) := ((hTab.below b7).set k j (Nat.le_refl _) hkn hlt N y1b).cong (fun a b _ _ _ => rowF_set HCN.out a b)
                  have hPS : LtB (w7.setCell ⟨r, j, none⟩ (.int .i64 N)) P f A c.length c1 (some ⟨tb, toff, none⟩) T.length cT (.slice (some ⟨G, 0, none⟩) c.length c.length) := Blk.off (hP.below b7) (blk_ne (hP.below b7) hrb (by decide)) _
                  have hToS : (w7.setCell ⟨r, j, none⟩ (.int .i64 N)).ownsRow w.heap.size 43 3 (.slice (some ⟨tb, toff, none⟩) T.length cT) T.length (flat csPi T) := own_off (q := ⟨r, j, none⟩) (own_below hTo b7) (own_ne (own_below hTo b7) hrb (by decide)) _
                  have hbS : Below w.heap.size w (w7.setCell ⟨r, j, none⟩ (.int .i64 N)) := bel_set (bel_tr hb b7) (by simp only; omega) _
                  clear y1 y2 y3 y4 y5 y7 y1b hrb hTab hP hTo hb
                  go_wp2
                  go_roundw
                  case rel => exact ⟨j + 1, by omega, by go_num, hPS, hToS, hTabS, hbS⟩
                  case measure => simp [intOf]; omega
                · have hzb : (t1 == 0) = false := by simp only [beq_eq_false_iff_ne, ne_eq]; exact hz
                  have HCN := Lib.hid (show cnI f c T k (atPi T j) = 0 from by rw [HPJ.out]; unfold cnI; rw [if_neg (by rw [HT1.out]; exact hz)])
                  clear hz
                  go_wp2
                  go_roundw
                  case rel => exact ⟨j + 1, by omega, by go_num, hP, hTo, hTab.cong (fun a b _ _ _ => rowF_skip HCN.out a b), hb⟩
                  case measure => simp [intOf]; omega
              · have hjl : j = T.length := by omega
                subst hjl
                go_wp2
                go_roundw
                case rel => exact ⟨k, by omega, rfl, hP, hTo, hTab.cong (fun a b h1 h2 h3 => by unfold rowF; rw [if_neg (fun h => by omega)]), hb⟩
                case measure => first | (simp [intOf]; done) | (simp [intOf]; omega)
end Go.Proofs.Ytkchlgmlfihkdaa
