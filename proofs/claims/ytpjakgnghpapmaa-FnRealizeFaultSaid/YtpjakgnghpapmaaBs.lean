/- Insertion of pitches by their keys, plain. Pitches put in the order of their keys by sort.SliceStable: at fewer than twenty. The pitches of some tones that a voice can take, the lesser key first: the program's. -/
import Derived.Test.YtpjakgnghpapmaaBl
import Derived.Test.YtpjakgnghpapmaaBt
import Derived.Test.YtpjakgnghpapmaaSpl
import Derived.Test.YtpjakgnghpapmaaBa
import Derived.Test.YtpjakgnghpapmaaDrS
import Derived.Lib.ReflectliteSlice
import Derived.Lib.ReflectliteSwap
import Derived.Laws.Externs
import Derived.Test.YtpjakgnghpapmaaStk
namespace Go.Proofs.Ytpjakgnghpapmaa
set_option linter.unusedSimpArgs false
set_option linter.unusedVariables false
section
open Go.RowKit

def ins (x : Pi) : List Pi → List Pi
  | [] => [x]
  | y :: r => if kyP x < kyP y then x :: y :: r else y :: ins x r
def isort : List Pi → List Pi → List Pi
  | S, [] => S
  | S, x :: r => isort (ins x S) r
def srtd (S : List Pi) : Prop := S.Pairwise (fun a b => kyP a ≤ kyP b)
theorem ins_len (x : Pi) : ∀ S : List Pi, (ins x S).length = S.length + 1
  | [] => rfl
  | y :: r => by
    unfold ins
    split
    · rfl
    · simp [ins_len x r]
theorem ins_mem (x : Pi) : ∀ (S : List Pi) (y : Pi), y ∈ ins x S → y = x ∨ y ∈ S
  | [], y, h => by unfold ins at h; simp at h; exact .inl h
  | z :: r, y, h => by
    unfold ins at h
    split at h
    · simp at h
      rcases h with h | h | h
      · exact .inl h
      · exact .inr (by simp [h])
      · exact .inr (by simp [h])
    · simp at h
      rcases h with h | h
      · exact .inr (by simp [h])
      · rcases ins_mem x r y h with h | h
        · exact .inl h
        · exact .inr (by simp [h])
theorem ins_srtd (x : Pi) : ∀ S : List Pi, srtd S → srtd (ins x S)
  | [], _ => List.pairwise_singleton _ _
  | y :: r, h => by
    obtain ⟨h1, h2⟩ := List.pairwise_cons.1 h
    unfold ins
    split
    · rename_i hlt
      refine List.pairwise_cons.2 ⟨fun z hz => ?_, h⟩
      rcases List.mem_cons.1 hz with rfl | hz
      · omega
      · have := h1 z hz; omega
    · rename_i hge
      refine List.pairwise_cons.2 ⟨fun z hz => ?_, ins_srtd x r h2⟩
      rcases ins_mem x r z hz with rfl | hz
      · omega
      · exact h1 z hz
theorem at_consS (y : Pi) (r : List Pi) (j : Nat) : atPi (y :: r) (j + 1) = atPi r j := rfl
theorem at_memS {l : List Pi} {k : Nat} (h : k < l.length) : atPi l k ∈ l := by
  unfold atPi
  rw [List.getD_eq_getElem?_getD, List.getElem?_eq_getElem h]
  exact List.getElem_mem h
theorem ins_at (x : Pi) : ∀ (S : List Pi) (j : Nat), srtd S → j ≤ S.length → (∀ y ∈ S.drop j, kyP x < kyP y) → (0 < j → ¬ kyP x < kyP (atPi S (j - 1))) → S.take j ++ x :: S.drop j = ins x S
  | [], j, _, hj, _, _ => by obtain rfl : j = 0 := by simpa using hj
                             rfl
  | y :: r, 0, _, _, h, _ => by
    unfold ins
    rw [if_pos (h y (by simp))]
    rfl
  | y :: r, j + 1, hs, hj, h, hp => by
    obtain ⟨h1, h2⟩ := List.pairwise_cons.1 hs
    have hjl : j ≤ r.length := by simpa using hj
    have hp1 := hp (by omega)
    rw [Nat.add_sub_cancel] at hp1
    have hy : ¬ kyP x < kyP y := by
      cases j with
      | zero => exact hp1
      | succ j =>
        rw [at_consS] at hp1
        have := h1 _ (at_memS (l := r) (k := j) (by omega))
        omega
    unfold ins
    rw [if_neg hy, ← ins_at x r j h2 hjl (fun z hz => h z (by simpa using hz)) (fun h0 => by
      obtain ⟨i, rfl⟩ : ∃ i, j = i + 1 := ⟨j - 1, by omega⟩
      rw [at_consS] at hp1
      simpa using hp1)]
    rfl
/-- the row while x goes down to place j -/
def rowJ (S : List Pi) (x : Pi) (R : List Pi) (j : Nat) : List Pi := S.take j ++ x :: (S.drop j ++ R)
theorem rowJ_len {S : List Pi} {x : Pi} {R : List Pi} {j : Nat} (hj : j ≤ S.length) : (rowJ S x R j).length = S.length + 1 + R.length := by
  unfold rowJ
  simp only [List.length_append, List.length_take, List.length_cons, List.length_drop]
  omega
theorem rowJ_x {S : List Pi} {x : Pi} {R : List Pi} {j : Nat} (hj : j ≤ S.length) : atPi (rowJ S x R j) j = x := by
  unfold rowJ atPi
  have hl : (S.take j).length = j := by rw [List.length_take]; omega
  rw [List.getD_eq_getElem?_getD, List.getElem?_append_right (by omega), hl, Nat.sub_self]
  rfl
theorem rowJ_p {S : List Pi} {x : Pi} {R : List Pi} {j : Nat} (h0 : 0 < j) (hj : j ≤ S.length) : atPi (rowJ S x R j) (j - 1) = atPi S (j - 1) := by
  unfold rowJ atPi
  have hl : (S.take j).length = j := by rw [List.length_take]; omega
  rw [List.getD_eq_getElem?_getD, List.getElem?_append_left (by omega), List.getElem?_take_of_lt (by omega), ← List.getD_eq_getElem?_getD]
theorem rowJ_swap {S : List Pi} {x : Pi} {R : List Pi} {j : Nat} (h0 : 0 < j) (hj : j ≤ S.length) : ((rowJ S x R j).set j (atPi S (j - 1))).set (j - 1) x = rowJ S x R (j - 1) := by
  obtain ⟨i, rfl⟩ : ∃ i, j = i + 1 := ⟨j - 1, by omega⟩
  rw [Nat.add_sub_cancel]
  have hi : i < S.length := by omega
  have hy : S[i]? = some (atPi S i) := by unfold atPi; rw [List.getD_eq_getElem?_getD, List.getElem?_eq_getElem hi]; rfl
  obtain ⟨y, hyy⟩ : ∃ y, atPi S i = y := ⟨_, rfl⟩
  rw [hyy] at hy ⊢
  have hl : (S.take i).length = i := by rw [List.length_take]; omega
  have e1 : S.take (i + 1) = S.take i ++ [y] := by rw [List.take_add_one, hy]; rfl
  have e2 : S.drop i = y :: S.drop (i + 1) := by
    rw [List.drop_eq_getElem_cons hi]
    congr 1
    have := List.getElem?_eq_getElem hi
    rw [hy] at this
    exact (Option.some.inj this).symm
  unfold rowJ
  rw [e1, e2, List.append_assoc]
  generalize hA : S.take i = A at hl
  subst hl
  rw [List.set_append_right _ _ (by omega), show A.length + 1 - A.length = 1 from by omega, List.set_append_right _ _ (by omega), Nat.sub_self]
  rfl
theorem isort_snoc : ∀ (l S : List Pi) (x : Pi), isort S (l ++ [x]) = ins x (isort S l)
  | [], S, x => rfl
  | y :: r, S, x => by
    show isort (ins y S) (r ++ [x]) = _
    rw [isort_snoc r (ins y S) x]
    rfl
theorem isort_len : ∀ (l S : List Pi), (isort S l).length = S.length + l.length
  | [], S => rfl
  | y :: r, S => by
    show (isort (ins y S) r).length = _
    rw [isort_len r, ins_len]
    simp only [List.length_cons]
    omega
theorem isort_srtd : ∀ (l S : List Pi), srtd S → srtd (isort S l)
  | [], _, h => h
  | y :: r, S, h => isort_srtd r (ins y S) (ins_srtd y S h)
theorem isort_step {l : List Pi} {i : Nat} (hi : i < l.length) : isort [] (l.take (i + 1)) = ins (atPi l i) (isort [] (l.take i)) := by
  have e : l.take (i + 1) = l.take i ++ [atPi l i] := by
    rw [List.take_succ_eq_append_getElem hi]
    unfold atPi
    rw [List.getD_eq_getElem?_getD, List.getElem?_eq_getElem hi]
    rfl
  rw [e, isort_snoc]
theorem drop_consS {l : List Pi} {i : Nat} (hi : i < l.length) : l.drop i = atPi l i :: l.drop (i + 1) := by
  rw [List.drop_eq_getElem_cons hi]
  unfold atPi
  rw [List.getD_eq_getElem?_getD, List.getElem?_eq_getElem hi]
  rfl
end
section
open Go.RowKit Go.Lib

theorem own_len3 {w : World} {lo : Nat} {v : Value} {n : Nat} {l : List Pi} (h : w.ownsRow lo 62 3 v n (flat csPi l)) : l.length = n := by
  have := h.1
  rw [flat_len csPi_len] at this
  omega
theorem own_cellS {w : World} {lo gb n c : Nat} {l : List Pi} (h : w.ownsRow lo 62 3 (.slice (some ⟨gb, 0, none⟩) n c) n (flat csPi l)) (i : Nat) (hi : i < n) : w.cell? ⟨gb, i * 3, none⟩ = some (.int .i64 (atPi l i).step) ∧ w.cell? ⟨gb, i * 3 + 1, none⟩ = some (.int .i64 (atPi l i).alter) ∧ w.cell? ⟨gb, i * 3 + 2, none⟩ = some (.int .i64 (atPi l i).octave) := by
  have hl := own_len3 h
  refine ⟨?_, ?_, ?_⟩
  · have e := h.cellAt (i * 3 + 0) (by omega)
    rw [flat_get csPi_len (⟨0, 0, 0⟩ : Pi) l i 0 (by omega) (by omega)] at e
    exact e
  · have e := h.cellAt (i * 3 + 1) (by omega)
    rw [flat_get csPi_len (⟨0, 0, 0⟩ : Pi) l i 1 (by omega) (by omega)] at e
    exact e
  · have e := h.cellAt (i * 3 + 2) (by omega)
    rw [flat_get csPi_len (⟨0, 0, 0⟩ : Pi) l i 2 (by omega) (by omega)] at e
    exact e
theorem own_setC {w : World} {lo gb n c : Nat} {l : List Pi} (h : w.ownsRow lo 62 3 (.slice (some ⟨gb, 0, none⟩) n c) n (flat csPi l)) (i : Nat) (hi : i < n) (t : Pi) : (w.setCells gb (i * 3) (csPi t)).ownsRow lo 62 3 (.slice (some ⟨gb, 0, none⟩) n c) n (flat csPi (l.set i t)) := by
  have hl := own_len3 h
  subst hl
  have := own_set3s h i hi t
  rw [List.length_set] at this
  exact this
theorem Onb.setg {g : Nat} {w w' : World} (h : Onb g w w') (o : Nat) (u : Value) : Onb g w (w'.setCell ⟨g, o, none⟩ u) := ⟨h.os, h.tape, h.output, by simpa [World.setCell] using h.size, fun i hi hn => (heap_setCell_other w' ⟨g, o, none⟩ i u hn).trans (h.block i hi hn)⟩
theorem set_onbC {w W : World} {g o : Nat} (h : Onb g w W) (vs : List Value) : Onb g w (W.setCells g o vs) := by
  induction vs generalizing W o with
  | nil => exact h
  | cons v r ih => exact ih (h.setg _ v)
theorem blk_setC {W : World} {P g : Nat} {cs : Array Value} {T : TypeId} (h : Blk W P cs T) (hn : P ≠ g) (o : Nat) (vs : List Value) : Blk (W.setCells g o vs) P cs T := by
  induction vs generalizing W o with
  | nil => exact h
  | cons v r ih => exact ih (h.off (q := ⟨g, o, none⟩) hn v) _
theorem setC_cell {W : World} {g b o x : Nat} (hb : b ≠ g) (vs : List Value) : (W.setCells g o vs).cell? ⟨b, x, none⟩ = W.cell? ⟨b, x, none⟩ := World.cell?_setCells_out g vs o W ⟨b, x, none⟩ (fun e => absurd e hb)
set_option maxHeartbeats 2000000 in
/-- which of two pitches has the lesser key -/
theorem less_any (LB LO gb n c i j : Nat) (l : List Pi) (W : World) (hi : i < n) (hj : j < n) (hm : n ≤ 2000000) (hb : W.cell? ⟨LB, 0, none⟩ = some (.slice (some ⟨gb, 0, none⟩) n c)) (ho : W.ownsRow LO 62 3 (.slice (some ⟨gb, 0, none⟩) n c) n (flat csPi (l))) :
    Calls Try.prog 91 #[.int .i64 i, .int .i64 j, .pointer (some ⟨LB, 0, none⟩)] W fun e w' => e = .returned (.bool (decide (kyP (atPi l i) < kyP (atPi l j)))) ∧ Below W.heap.size W w' := by
  obtain ⟨p0, p1, p2⟩ := own_cellS ho i hi
  obtain ⟨q0, q1, q2⟩ := own_cellS ho j hj
  obtain ⟨x, hx⟩ : ∃ x, atPi l i = x := ⟨_, rfl⟩
  obtain ⟨y, hy⟩ : ∃ y, atPi l j = y := ⟨_, rfl⟩
  rw [hx] at p0 p1 p2 ⊢
  rw [hy] at q0 q1 q2 ⊢
  clear hx hy ho
  have i0 : (0 : Int) ≤ (i : Int) := by omega
  have i1 : (i : Int) < (n : Int) := by omega
  have j0 : (0 : Int) ≤ (j : Int) := by omega
  have j1 : (j : Int) < (n : Int) := by omega
  obtain ⟨kx, hkx⟩ : ∃ z, kyP x = z := ⟨_, rfl⟩
  have kxb := pkI_bd x.step x.alter x.octave
  rw [show pkI x.step x.alter x.octave = kx from hkx] at kxb
  obtain ⟨kx0, kx1⟩ := kxb
  have Kx := Lib.hid hkx
  obtain ⟨ky, hky⟩ : ∃ z, kyP y = z := ⟨_, rfl⟩
  have kyb := pkI_bd y.step y.alter y.octave
  rw [show pkI y.step y.alter y.octave = ky from hky] at kyb
  obtain ⟨ky0, ky1⟩ := kyb
  have Ky := Lib.hid hky
  rw [hkx, hky]
  clear hkx hky
  go_enter Try.func91, Try.ntmps91
  go_upto_region 1 with fail
  have Lx : ∀ xL : Later W, Calls Try.prog 38 #[.agg #[.int .i64 x.step, .int .i64 x.alter, .int .i64 x.octave]] xL.world fun e w'' => e = .returned (.int .i64 kx) ∧ ∃ z : Later W, w'' = z.world := fun xL => later_call (pk_val Kx.out _)
  have Ly : ∀ xL : Later W, Calls Try.prog 38 #[.agg #[.int .i64 y.step, .int .i64 y.alter, .int .i64 y.octave]] xL.world fun e w'' => e = .returned (.int .i64 ky) ∧ ∃ z : Later W, w'' = z.world := fun xL => later_call (pk_val Ky.out _)
  have lf0 : ∀ xL : Later W, xL.world.cell? ⟨LB, 0, none⟩ = some (.slice (some ⟨gb, 0, none⟩) n c) := fun xL => xL.at (hb)
  have lf1 : ∀ xL : Later W, xL.world.cell? ⟨gb, i * 3, none⟩ = some (.int .i64 x.step) := fun xL => xL.at (p0)
  have lf2 : ∀ xL : Later W, xL.world.cell? ⟨gb, i * 3 + 1, none⟩ = some (.int .i64 x.alter) := fun xL => xL.at (p1)
  have lf3 : ∀ xL : Later W, xL.world.cell? ⟨gb, i * 3 + 2, none⟩ = some (.int .i64 x.octave) := fun xL => xL.at (p2)
  have lf4 : ∀ xL : Later W, xL.world.cell? ⟨gb, j * 3, none⟩ = some (.int .i64 y.step) := fun xL => xL.at (q0)
  have lf5 : ∀ xL : Later W, xL.world.cell? ⟨gb, j * 3 + 1, none⟩ = some (.int .i64 y.alter) := fun xL => xL.at (q1)
  have lf6 : ∀ xL : Later W, xL.world.cell? ⟨gb, j * 3 + 2, none⟩ = some (.int .i64 y.octave) := fun xL => xL.at (q2)
  refine region_later (w0 := W) (by kernel_rfl) (by kernel_rfl) (bel_refl _) ?_
  repeat (go_big_quiet_step ((first | (go_at_call 38; with_reducible exact Lx _) | (go_at_call 38; with_reducible exact Ly _))))
  refine wpQuiet_nil ?_
  rintro w' ⟨x, rfl⟩
  obtain ⟨w9, b9⟩ := x
  clear lf0 lf1 lf2 lf3 lf4 lf5 lf6
  clear Lx Ly
  go_wp2
  go_ret
  exact ⟨rfl, b9⟩
/-- what the literal that swaps does -/
def SwP (sf : Nat) (sb : Array Value) (LO gb n c : Nat) : Prop := 2 ≤ n → ∀ (W : World) (l : List Pi), W.ownsRow LO 62 3 (.slice (some ⟨gb, 0, none⟩) n c) n (flat csPi (l)) → ∀ i j : Nat, i < n → j < n → (callFunc sf (#[.int .i64 i, .int .i64 j] ++ sb)).run Try.prog W = .ok (.value (.tuple #[])) ((W.setCells gb (i * 3) (csPi (atPi l j))).setCells gb (j * 3) (csPi (atPi l i)))
set_option maxRecDepth 100000 in
set_option maxHeartbeats 4000000 in
/-- the insertion -/
theorem insf_any (LB LO gb n c sf : Nat) (sb : Array Value) (l : List Pi) (W : World) (hm : n ≤ 2000000) (hb : W.cell? ⟨LB, 0, none⟩ = some (.slice (some ⟨gb, 0, none⟩) n c)) (ho : W.ownsRow LO 62 3 (.slice (some ⟨gb, 0, none⟩) n c) n (flat csPi (l))) (hLB : LB < W.heap.size) (hgb : gb < W.heap.size) (hne : LB ≠ gb) (hsw : SwP sf sb LO gb n c) :
    Calls Try.prog 107 #[.agg #[.func (.func 91) #[] #[.pointer (some ⟨LB, 0, none⟩)], (.func (.func sf) #[] sb)], .int .i64 0, .int .i64 n] W fun e w' => e = .returned (.tuple #[]) ∧ Onb gb W w' ∧ w'.ownsRow LO 62 3 (.slice (some ⟨gb, 0, none⟩) n c) n (flat csPi (isort [] l)) := by
  have hl := own_len3 ho
  go_enter Try.func107, Try.ntmps107
  go_wp2
  have bP : Blk (W.alloc (.cells #[.func (.func 91) #[] #[.pointer (some ⟨LB, 0, none⟩)], (.func (.func sf) #[] sb)] 125)) W.heap.size #[.func (.func 91) #[] #[.pointer (some ⟨LB, 0, none⟩)], (.func (.func sf) #[] sb)] 125 := Blk.new W _ _
  have k1 : Onb gb W (W.alloc (.cells #[.func (.func 91) #[] #[.pointer (some ⟨LB, 0, none⟩)], (.func (.func sf) #[] sb)] 125)) := Onb.of_bel (bel_al (bel_refl W) _)
  have o1 := own_below ho (bel_al (bel_refl W) (.cells #[.func (.func 91) #[] #[.pointer (some ⟨LB, 0, none⟩)], (.func (.func sf) #[] sb)] 125))
  go_loopw [6] (fun vi wr => ∃ i : Nat, vi = .int .i64 i ∧ 1 ≤ i ∧ i ≤ n + 1 ∧ Onb gb W wr ∧ Blk wr W.heap.size #[.func (.func 91) #[] #[.pointer (some ⟨LB, 0, none⟩)], (.func (.func sf) #[] sb)] 125 ∧ wr.ownsRow LO 62 3 (.slice (some ⟨gb, 0, none⟩) n c) n (flat csPi (isort [] (l.take i) ++ l.drop i))) (fun vi _ => n + 1 - (intOf vi).toNat)
  case atStart =>
    refine ⟨1, by go_num, by omega, by omega, k1, bP, ?_⟩
    rw [show isort [] (l.take 1) ++ l.drop 1 = l from by cases l <;> rfl]
    exact o1
  case round =>
    clear k1 bP o1
    obtain ⟨i, rfl, i1, i2, k1, bP, o1⟩ := hrel
    by_cases hlt : i < n
    · have hli : (i : Int) < (n : Int) := by omega
      have hi0 : (0 : Int) ≤ (i : Int) := by omega
      obtain ⟨S, hS⟩ : ∃ S, isort [] (l.take i) = S := ⟨_, rfl⟩
      have sS : srtd S := by rw [← hS]; exact isort_srtd _ _ List.Pairwise.nil
      have lS : S.length = i := by rw [← hS, isort_len, List.length_take]; simp only [List.length_nil]; omega
      obtain ⟨x, hx⟩ : ∃ x, atPi l i = x := ⟨_, rfl⟩
      obtain ⟨R, hR⟩ : ∃ R, l.drop (i + 1) = R := ⟨_, rfl⟩
      have eN : isort [] (l.take (i + 1)) = ins x S := by rw [isort_step (by omega), hx, hS]
      rw [hS, drop_consS (by omega), hx, hR, show S ++ x :: R = rowJ S x R i from by unfold rowJ; rw [← lS, List.take_length, List.drop_length]; rfl] at o1
      have EN := Lib.hid eN
      have HR := Lib.hid hR
      clear hS hx eN hR
      go_wp2
      go_loopw [7] (fun vj wr2 => ∃ j : Nat, vj = .int .i64 j ∧ j ≤ i ∧ Onb gb W wr2 ∧ Blk wr2 W.heap.size #[.func (.func 91) #[] #[.pointer (some ⟨LB, 0, none⟩)], (.func (.func sf) #[] sb)] 125 ∧ wr2.ownsRow LO 62 3 (.slice (some ⟨gb, 0, none⟩) n c) n (flat csPi (rowJ S x R j)) ∧ Hid (∀ y ∈ S.drop j, kyP x < kyP y)) (fun vj _ => (intOf vj).toNat)
      case atStart => exact ⟨i, rfl, Nat.le_refl _, k1, bP, o1, Lib.hid (by rw [← lS, List.drop_length]; simp)⟩
      case round =>
        clear k1 bP o1
        obtain ⟨j, rfl, j1, k1, bP, o1, hy⟩ := hrel
        have cB : wr.cell? ⟨LB, 0, none⟩ = some (.slice (some ⟨gb, 0, none⟩) n c) := by rw [k1.cell LB 0 hLB hne]; exact hb
        have c0 : wr.cell? ⟨W.heap.size, 0, none⟩ = some (.func (.func 91) #[] #[.pointer (some ⟨LB, 0, none⟩)]) := by rw [Blk.cell bP]; rfl
        have c1 : wr.cell? ⟨W.heap.size, 1, none⟩ = some ((.func (.func sf) #[] sb)) := by rw [Blk.cell bP]; rfl
        have FIN : ∀ w9 : World, Below wr.heap.size wr w9 → (0 < j → ¬ kyP x < kyP (atPi S (j - 1))) → Onb gb W w9 ∧ Blk w9 W.heap.size #[.func (.func 91) #[] #[.pointer (some ⟨LB, 0, none⟩)], (.func (.func sf) #[] sb)] 125 ∧ w9.ownsRow LO 62 3 (.slice (some ⟨gb, 0, none⟩) n c) n (flat csPi (isort [] (l.take (i + 1)) ++ l.drop (i + 1))) := fun w9 b9 hp => by
          refine ⟨k1.trans (Onb.of_bel b9), bP.below b9, ?_⟩
          rw [EN.out, HR.out, ← ins_at x S j sS (by omega) hy.out hp]
          have := own_below o1 b9
          unfold rowJ at this
          rw [List.append_assoc]
          exact this
        by_cases hj : 0 < j
        · have hj0 : (0 : Int) < (j : Int) := by omega
          have hls := less_any LB LO gb n c j (j - 1) _ wr (by omega) (by omega) hm cB o1
          rw [rowJ_x (by omega), rowJ_p hj (by omega), show (((j - 1 : Nat)) : Int) = (j : Int) - 1 from by omega] at hls
          by_cases hk : kyP x < kyP (atPi S (j - 1))
          · rw [decide_eq_true hk] at hls
            have FIN := Lib.hid FIN
            go_wp2_with (go_at_call 91; refine hls.mono ?_; rintro e w9 ⟨rfl, b9⟩; have c1' : w9.cell? ⟨W.heap.size, 1, none⟩ = some ((.func (.func sf) #[] sb)) := by rw [Blk.cell (bP.below b9)]; rfl)
            have o9 := own_below o1 b9
            have hs := hsw (by omega) w9 _ o9 j (j - 1) (by omega) (by omega)
            have oA := own_setC o9 j (by omega) (atPi S (j - 1))
            have oB := own_setC oA (j - 1) (by omega) x
            rw [rowJ_swap hj (by omega)] at oB
            rw [rowJ_x (by omega), rowJ_p hj (by omega)] at hs
            rw [show (((j - 1 : Nat)) : Int) = (j : Int) - 1 from by omega] at hs
            try go_wp2
            rw [hs, Oper.upon_value]
            go_wp2
            go_roundw
            case rel => exact ⟨j - 1, by go_num, by omega, set_onbC (set_onbC (k1.trans (Onb.of_bel b9)) _) _, blk_setC (blk_setC (bP.below b9) (by omega) _ _) (by omega) _ _, oB, Lib.hid (fun y h => by
              rw [drop_consS (l := S) (i := j - 1) (by omega), show j - 1 + 1 = j from by omega] at h
              rcases List.mem_cons.1 h with rfl | h
              · exact hk
              · exact hy.out y h)⟩
            case measure => simp [intOf]; omega
          · rw [decide_eq_false hk] at hls
            have FIN := Lib.hid FIN
            go_wp2_with (go_at_call 91; refine hls.mono ?_; rintro e w9 ⟨rfl, b9⟩)
            go_roundw
            case rel => exact ⟨i + 1, by go_num, by omega, by omega, FIN.out w9 b9 (fun _ => hk)⟩
            case measure => simp [intOf]; omega
        · have hj0 : ¬ (0 : Int) < (j : Int) := by omega
          have FIN := Lib.hid FIN
          go_wp2
          go_roundw
          case rel => exact ⟨i + 1, by go_num, by omega, by omega, FIN.out wr (bel_refl _) (fun h => absurd h hj)⟩
          case measure => simp [intOf]; omega
    · have hli : ¬ (i : Int) < (n : Int) := by omega
      rw [List.take_of_length_le (by omega), List.drop_of_length_le (by omega), List.append_nil] at o1
      go_wp2
      go_end0
      exact ⟨rfl, k1, o1⟩
set_option maxRecDepth 100000 in
set_option maxHeartbeats 4000000 in
/-- one block of fewer than twenty -/
theorem stbl_any (LB LO gb n c sf : Nat) (sb : Array Value) (l : List Pi) (W : World) (hm : n < 20) (hb : W.cell? ⟨LB, 0, none⟩ = some (.slice (some ⟨gb, 0, none⟩) n c)) (ho : W.ownsRow LO 62 3 (.slice (some ⟨gb, 0, none⟩) n c) n (flat csPi (l))) (hLB : LB < W.heap.size) (hgb : gb < W.heap.size) (hne : LB ≠ gb) (hsw : SwP sf sb LO gb n c) :
    Calls Try.prog 96 #[.agg #[.func (.func 91) #[] #[.pointer (some ⟨LB, 0, none⟩)], (.func (.func sf) #[] sb)], .int .i64 n] W fun e w' => e = .returned (.tuple #[]) ∧ Onb gb W w' ∧ w'.ownsRow LO 62 3 (.slice (some ⟨gb, 0, none⟩) n c) n (flat csPi (isort [] l)) := by
  have hc : Calls Try.prog 107 #[.agg #[.func (.func 91) #[] #[.pointer (some ⟨LB, 0, none⟩)], (.func (.func sf) #[] sb)], .int .i64 0, .int .i64 n] (W.alloc (.cells #[.func (.func 91) #[] #[.pointer (some ⟨LB, 0, none⟩)], (.func (.func sf) #[] sb)] 125)) fun e w' => e = .returned (.tuple #[]) ∧ Onb gb W w' ∧ w'.ownsRow LO 62 3 (.slice (some ⟨gb, 0, none⟩) n c) n (flat csPi (isort [] l)) :=
    (insf_any LB LO gb n c sf sb l (W.alloc (.cells #[.func (.func 91) #[] #[.pointer (some ⟨LB, 0, none⟩)], (.func (.func sf) #[] sb)] 125)) (by omega) (((bel_al (bel_refl W) _).cell (p := ⟨LB, 0, none⟩) hLB).trans hb) (own_below ho (bel_al (bel_refl W) _)) (by rw [World.size_alloc]; omega) (by rw [World.size_alloc]; omega) hne hsw).mono
      (fun e w' h => ⟨h.1, (Onb.of_bel (bel_al (bel_refl W) _)).trans h.2.1, h.2.2⟩)
  have hN : (n : Int) < 20 := by omega
  have hN0 : ¬ (20 : Int) ≤ (n : Int) := by omega
  clear hb ho hsw
  go_enter Try.func96, Try.ntmps96
  go_wp2
  refine wp_loop_rounds 1 ?_
  rw [rounds_succ]
  go_wp2_with (go_at_call 107; refine hc.mono ?_; rintro e w1 ⟨rfl, k1, o1⟩)
  refine wp_loop_rounds 1 ?_
  rw [rounds_succ]
  go_wp2
  go_end0
  exact ⟨rfl, k1, o1⟩
noncomputable def tiL : TypeInfo := (Try.prog.info? 37).get (by kernel_rfl)
noncomputable def tiP : TypeInfo := (Try.prog.info? 62).get (by kernel_rfl)
theorem swK9 (n : Nat) (h2 : 2 ≤ n) : Lib.swapperK n tiP 25 = 9 := by
  have a : tiP.hasPointers = false := by kernel_rfl
  have b : tiP.bytes = 24 := by kernel_rfl
  have c : (n == 0) = false := by simp; omega
  have d : (n == 1) = false := by simp; omega
  simp [Lib.swapperK, a, b, c, d]
theorem csPi_one (t : Pi) : ∀ v ∈ csPi t, v.oneCell' = true := fun v hv => by
  unfold csPi at hv
  simp at hv
  rcases hv with rfl | rfl | rfl <;> rfl
theorem swp9 (LO gb n c : Nat) : SwP 106 #[.slice (some ⟨gb, 0, none⟩) n c, typeHandle Try.prog 62] LO gb n c := fun h2 W l ho i j hi hj => by
  have hl := own_len3 ho
  have hs : tiP.size = 3 := by kernel_rfl
  have cc : ∀ i, i < n → ∀ k v, (csPi (atPi l i))[k]? = some v → W.cell? ⟨gb, 0 + i * tiP.size + k, none⟩ = some v := fun i hi k v h => by
    have hk : k < 3 := by
      rcases Nat.lt_or_ge k 3 with h3 | h3
      · exact h3
      · rw [List.getElem?_eq_none (by rw [csPi_len]; exact h3)] at h; cases h
    rw [hs, Nat.zero_add, ho.cellAt (i * 3 + k) (by omega), flat_get csPi_len (⟨0, 0, 0⟩ : Pi) l i k (by omega) hk]
    exact h
  have := run_swap_cells (P := Try.prog) false 62 tiP (by kernel_rfl) (fun _ => by kernel_rfl) gb 0 n c i j hi hj (csPi (atPi l i)) (csPi (atPi l j)) (by rw [hs]; rfl) (by rw [hs]; rfl) (csPi_one _) (csPi_one _) W (cc i hi) (cc j hj) (fun k _ => ho.frozenAt _) (fun k _ => ho.frozenAt _)
  rw [hs, Nat.zero_add, Nat.zero_add] at this
  rw [run_callFunc_extern Try.func106 (by kernel_rfl) (by kernel_rfl) (by kernel_rfl) (e := Extern.ReflectliteSwapper.swap false) (by kernel_rfl)]
  show ((Extern.ReflectliteSwapper.swap false #[.int .i64 i, .int .i64 j, .slice (some ⟨gb, 0, none⟩) n c, typeHandle Try.prog 62]).run Try.prog W).andThen _ = _
  rw [this]
  rfl
theorem swp_ex (LO gb n c : Nat) : ∃ sf sb, (∀ w, (Extern.ReflectliteSwapper.swapper "internal/reflectlite" (Extern.ReflectliteValue.valueError "Swapper") #[.iface 37 (.slice (some ⟨gb, 0, none⟩) n c)]).run Try.prog w = .ok (.func (.func sf) #[] sb) w) ∧ SwP sf sb LO gb n c := by
  rcases (show n = 0 ∨ n = 1 ∨ 2 ≤ n from by omega) with rfl | rfl | h2
  · exact ⟨98, #[], fun w => run_swapper_slice (P := Try.prog) 37 62 tiL tiP (by kernel_rfl) (by kernel_rfl) (by kernel_rfl) 25 (fun _ => by kernel_rfl) (some ⟨gb, 0, none⟩) 0 c 98 (by kernel_rfl) w, fun h => absurd h (by omega)⟩
  · exact ⟨99, #[], fun w => run_swapper_slice (P := Try.prog) 37 62 tiL tiP (by kernel_rfl) (by kernel_rfl) (by kernel_rfl) 25 (fun _ => by kernel_rfl) (some ⟨gb, 0, none⟩) 1 c 99 (by kernel_rfl) w, fun h => absurd h (by omega)⟩
  · refine ⟨106, #[.slice (some ⟨gb, 0, none⟩) n c, typeHandle Try.prog 62], fun w => ?_, swp9 LO gb n c⟩
    have := run_swapper_slice (P := Try.prog) 37 62 tiL tiP (by kernel_rfl) (by kernel_rfl) (by kernel_rfl) 25 (fun _ => by kernel_rfl) (some ⟨gb, 0, none⟩) n c 106 (by rw [swK9 n h2]; kernel_rfl) w
    rw [swK9 n h2] at this
    exact this
set_option maxRecDepth 100000 in
set_option maxHeartbeats 4000000 in
/-- the sort of fewer than twenty pitches by their keys -/
theorem sst_any (LB LO gb n c : Nat) (l : List Pi) (W : World) (hm : n < 20) (hb : W.cell? ⟨LB, 0, none⟩ = some (.slice (some ⟨gb, 0, none⟩) n c)) (ho : W.ownsRow LO 62 3 (.slice (some ⟨gb, 0, none⟩) n c) n (flat csPi (l))) (hLB : LB < W.heap.size) (hgb : gb < W.heap.size) (hne : LB ≠ gb) :
    Calls Try.prog 90 #[.iface 37 (.slice (some ⟨gb, 0, none⟩) n c), .func (.func 91) #[] #[.pointer (some ⟨LB, 0, none⟩)]] W fun e w' => e = .returned (.tuple #[]) ∧ Onb gb W w' ∧ w'.ownsRow LO 62 3 (.slice (some ⟨gb, 0, none⟩) n c) n (flat csPi (isort [] l)) := by
  obtain ⟨sf, sb, hs, hsw⟩ := swp_ex LO gb n c
  have hp : ∀ w2, Below W.heap.size W w2 → Calls Try.prog 96 #[.agg #[.func (.func 91) #[] #[.pointer (some ⟨LB, 0, none⟩)], (.func (.func sf) #[] sb)], .int .i64 n] w2 fun e w' => e = .returned (.tuple #[]) ∧ Onb gb W w' ∧ w'.ownsRow LO 62 3 (.slice (some ⟨gb, 0, none⟩) n c) n (flat csPi (isort [] l)) := fun w2 b2 =>
    (stbl_any LB LO gb n c sf sb l w2 hm ((b2.cell (p := ⟨LB, 0, none⟩) hLB).trans hb) (own_below ho b2) (Nat.lt_of_lt_of_le hLB b2.size) (Nat.lt_of_lt_of_le hgb b2.size) hne hsw).mono (fun e w' h => ⟨h.1, (Onb.of_bel b2).trans h.2.1, h.2.2⟩)
  have hv := run_valueOf_slice (P := Try.prog) 37 62 tiL (by kernel_rfl) (by kernel_rfl) (some ⟨gb, 0, none⟩) n c W
  have hl := fun a w ha => run_valueLen_slice (P := Try.prog) 37 62 tiL (by kernel_rfl) (by kernel_rfl) (by kernel_rfl) a (some ⟨gb, 0, none⟩) n c w ha
  simp only [typeHandle] at hv hl
  have eG : Try.prog.globals.size = 0 := by kernel_rfl
  rw [eG] at hl
  clear hb ho hsw
  go_enter Try.func90, Try.ntmps90
  go_wp2
  rw [run_callFunc_extern Try.func94 (by kernel_rfl) (by kernel_rfl) (by kernel_rfl) (e := fun args => Extern.ReflectliteValue.unpack (args.getD 0 (.tuple #[]))) (by kernel_rfl),
    show Sem.run Try.prog ((fun args : Array Value => Extern.ReflectliteValue.unpack (args.getD 0 (.tuple #[]))) #[.iface 37 (.slice (some ⟨gb, 0, none⟩) n c)]) W = _ from hv]
  simp only [Result.andThen]
  rw [Oper.upon_value]
  go_wp2
  rw [run_callFunc_extern Try.func95 (by kernel_rfl) (by kernel_rfl) (by kernel_rfl) (e := Extern.ReflectliteSwapper.swapper "internal/reflectlite" (Extern.ReflectliteValue.valueError "Swapper")) (by kernel_rfl), hs]
  simp only [Result.andThen]
  rw [Oper.upon_value]
  go_wp2
  rw [run_callFunc_extern Try.func97 (by kernel_rfl) (by kernel_rfl) (by kernel_rfl) (e := Extern.ReflectliteValue.method (Extern.ReflectliteValue.valueError "reflectlite.Value.Len" 0) Extern.ReflectliteValue.len) (by kernel_rfl),
    hl _ _ (by simp)]
  simp only [Result.andThen]
  rw [Oper.upon_value]
  go_wp2_with (go_at_call 96; refine (hp _ (bel_al (bel_al (bel_refl W) _) _)).mono ?_; rintro e w' ⟨rfl, hR⟩)
  go_end0
  exact ⟨rfl, hR⟩
end
section
open Go.RowKit

def optB (lo hi : Int) (p : Pi) : Bool := decide (lo ≤ kyP p) && decide (kyP p ≤ hi)
def optO (t : Pi) (lo hi : Int) : Nat → List Pi
  | 0 => []
  | o + 1 => if optB lo hi ⟨t.step, t.alter, o⟩ = true then optO t lo hi o ++ [⟨t.step, t.alter, o⟩] else optO t lo hi o
def optL (l : List Pi) (lo hi : Int) : Nat → List Pi
  | 0 => []
  | k + 1 => optL l lo hi k ++ optO (atPi l k) lo hi 9
theorem optO_len (t : Pi) (lo hi : Int) : ∀ o, (optO t lo hi o).length ≤ o
  | 0 => Nat.le_refl _
  | o + 1 => by
    have := optO_len t lo hi o
    unfold optO
    split
    · rw [List.length_append, List.length_singleton]; omega
    · omega
theorem optL_len (l : List Pi) (lo hi : Int) : ∀ k, (optL l lo hi k).length ≤ 9 * k
  | 0 => Nat.le_refl _
  | k + 1 => by
    have h1 := optL_len l lo hi k
    have h2 := optO_len (atPi l k) lo hi 9
    unfold optL
    rw [List.length_append]; omega
/-- what a voice can take of some tones -/
def vpL (l : List Pi) (v : Nat) : List Pi := isort [] (optL l (loR v) (hiR v) l.length)
def VpS (w : World) (LB X : Nat) (wr : World) (L : List Pi) : Prop := ∃ g c : Nat, Blk wr LB #[.slice (some ⟨g, 0, none⟩) L.length c] 37 ∧ wr.ownsRow w.heap.size 62 3 (.slice (some ⟨g, 0, none⟩) (L).length c) (L).length (flat csPi (L)) ∧ Below w.heap.size w wr ∧ g ≠ LB ∧ g ≠ X
theorem VpS.below {w wr w9 : World} {LB X : Nat} {L : List Pi} (h : VpS w LB X wr L) (b : Below wr.heap.size wr w9) : VpS w LB X w9 L := by
  obtain ⟨g, c, h1, h2, h3, h4⟩ := h
  exact ⟨g, c, h1.below b, own_below h2 b, bel_tr h3 b, h4⟩
theorem VpS.bel {w wr : World} {LB X : Nat} {L : List Pi} (h : VpS w LB X wr L) : Below w.heap.size w wr := by
  obtain ⟨g, c, h1, h2, h3, h4⟩ := h
  exact h3
theorem VpS.lt {w wr : World} {LB X : Nat} {L : List Pi} (h : VpS w LB X wr L) : LB < wr.heap.size := by
  obtain ⟨g, c, h1, h2, h3, h4⟩ := h
  exact h1.lt
theorem VpS.fresh {w wr : World} {LB : Nat} {L : List Pi} (h : VpS w LB LB wr L) : VpS w LB wr.heap.size wr L := by
  obtain ⟨g, c, h1, h2, h3, h4, _⟩ := h
  have : g < wr.heap.size := (own_lt h2 rfl).2
  exact ⟨g, c, h1, h2, h3, h4, by omega⟩
theorem VpS.out {w wr : World} {LB X : Nat} {L : List Pi} (h : VpS w LB X wr L) : VpS w LB LB wr L := by
  obtain ⟨g, c, h1, h2, h3, h4, _⟩ := h
  exact ⟨g, c, h1, h2, h3, h4, h4⟩
theorem own_offS {w : World} {base : Nat} {e : TypeId} {size g cap n : Nat} {xs : List Value} (h : w.ownsRow base e size (.slice (some ⟨g, 0, none⟩) n cap) n xs) {q : Addr} (hn : g ≠ q.block) (u : Value) : (w.setCell q u).ownsRow base e size (.slice (some ⟨g, 0, none⟩) n cap) n xs := by
  refine ⟨h.1, ?_⟩
  rcases h.2 with h2 | ⟨g', cap', cur, e1, h3, h4, h5⟩
  · exact .inl h2
  · cases e1
    exact .inr ⟨g, cap, cur, rfl, h3, (heap_setCell_other w q g u hn).trans h4, h5⟩
set_option maxRecDepth 20000 in
set_option maxHeartbeats 8000000 in
theorem vp_any (A : Option Addr) (c v : Nat) (l : List Pi) (w : World) (h : RowPi w w.heap.size A l) (hl : l.length ≤ 100) (hv : v < 4) (hN : (optL l (loR v) (hiR v) l.length).length < 20) :
    Calls Try.prog 84 #[.slice A l.length c, .int .i64 v] w fun e w' => ∃ g cc, e = .returned (.slice (some ⟨g, 0, none⟩) (vpL l v).length cc) ∧ Below w.heap.size w w' ∧ w'.ownsRow w.heap.size 62 3 (.slice (some ⟨g, 0, none⟩) (vpL l v).length cc) (vpL l v).length (flat csPi (vpL l v)) := by
  obtain ⟨i0, hi0, hz0, hz1, hz2⟩ := info_parts infoPi
  obtain ⟨V, hV⟩ : ∃ V, vpL l v = V := ⟨_, rfl⟩
  obtain ⟨lo, hlo⟩ : ∃ lo, loR v = lo := ⟨_, rfl⟩
  obtain ⟨hi, hhi⟩ : ∃ hi, hiR v = hi := ⟨_, rfl⟩
  have HV : Hid (isort [] (optL l lo hi l.length) = V) := by rw [← hlo, ← hhi]; exact hV
  rw [hV]
  rw [hlo, hhi] at hN
  have HLO := Lib.hid hlo
  have HHI := Lib.hid hhi
  clear hV hlo hhi
  go_enter Try.func84, Try.ntmps84
  go_wp2_with fail
  refine (vr_any v _ hv).mono ?_
  rintro e1 w1 ⟨he, b1⟩
  rw [HLO.out, HHI.out] at he
  subst he
  have hs1 := b1.size
  have own0 := World.ownsRow_lit (base := w.heap.size) (e := 62) (size := 3) w1 #[] 0 hs1 (by simp [maxLen]) rfl
  have own1 := own0.alloc (.cells #[.slice (some ⟨w1.heap.size, 0, none⟩) 0 0] 37)
  have bL := Blk.new (w1.alloc (.cells #[] 62)) #[.slice (some ⟨w1.heap.size, 0, none⟩) 0 0] 37
  have bb : Below w.heap.size w ((w1.alloc (.cells #[] 62)).alloc (.cells #[.slice (some ⟨w1.heap.size, 0, none⟩) 0 0] 37)) := bel_al (bel_al b1 _) _
  rw [show (w1.alloc (.cells #[] 62)).heap.size = w1.heap.size + 1 from by simp] at bL
  have VS : VpS w (w1.heap.size + 1) (w1.heap.size + 1) ((w1.alloc (.cells #[] 62)).alloc (.cells #[.slice (some ⟨w1.heap.size, 0, none⟩) 0 0] 37)) [] := ⟨_, _, bL, own1, bb, by omega, by omega⟩
  clear own0 own1 bL bb
  go_wp2_with fail
  generalize ((w1.alloc (.cells #[] 62)).alloc (.cells #[.slice (some ⟨w1.heap.size, 0, none⟩) 0 0] 37)) = w2 at *
  generalize hLBe : w1.heap.size + 1 = LB at *
  have hLB : w.heap.size ≤ LB := by omega
  clear b1 hs1 hLBe
  go_loopw [20] (fun i wr => ∃ k : Nat, k ≤ l.length ∧ i = .int .i64 k ∧ VpS w LB LB wr (optL l lo hi k)) (fun i _ => l.length - (intOf i).toNat)
  case atStart => exact ⟨0, Nat.zero_le _, rfl, VS⟩
  case round =>
    clear VS
    obtain ⟨k, hk, rfl, VS⟩ := hrel
    by_cases hlt : k < l.length
    · have hkl : (k : Int) < (l.length : Int) := by omega
      have hk0 : (0 : Int) ≤ (k : Int) := by omega
      obtain ⟨b, off, rfl, hbl, hcc⟩ := (h.below VS.bel) (by omega)
      have hx := hcc k hlt
      obtain ⟨t, ht⟩ : ∃ t, atPi l k = t := ⟨_, rfl⟩
      rw [ht] at hx
      obtain ⟨x_0, x_1, x_2⟩ := hx
      obtain ⟨M, hM⟩ : ∃ M, optL l lo hi k = M := ⟨_, rfl⟩
      have hM9 := optL_len l lo hi k
      rw [hM] at hM9 VS
      have HM := Lib.hid (show optL l lo hi (k + 1) = M ++ optO t lo hi 9 from by rw [optL, hM, ht])
      clear hM ht hcc
      have bX : Blk (wr.alloc (.cells #[.int .i64 t.step, .int .i64 t.alter, .int .i64 t.octave] 62)) wr.heap.size #[.int .i64 t.step, .int .i64 t.alter, .int .i64 t.octave] 62 := Blk.new wr _ _
      have VX := VS.fresh.below (bel_al (bel_refl wr) (.cells #[.int .i64 t.step, .int .i64 t.alter, .int .i64 t.octave] 62))
      have hwX : w.heap.size ≤ wr.heap.size := VS.bel.size
      have hXL : LB < wr.heap.size := VS.lt
      go_wp2_with fail
      clear VS x_0 x_1 x_2
      generalize (wr.alloc (.cells #[.int .i64 t.step, .int .i64 t.alter, .int .i64 t.octave] 62)) = v2 at *
      generalize hX : wr.heap.size = X at *
      go_loopw [24] (fun i wr => ∃ o : Nat, o ≤ 9 ∧ i = .int .i64 o ∧ VpS w LB X wr (M ++ optO t lo hi o) ∧ Blk wr X #[.int .i64 t.step, .int .i64 t.alter, .int .i64 t.octave] 62) (fun i _ => 9 - (intOf i).toNat)
      case atStart => exact ⟨0, by omega, rfl, by rw [show M ++ optO t lo hi 0 = M from List.append_nil _]; exact VX, bX⟩
      case round =>
        clear VX bX
        obtain ⟨o, ho9, rfl, VS, bX⟩ := hrel
        by_cases hlo : o < 9
        · have hol : (o : Int) < 9 := by omega
          have ho0 : (0 : Int) ≤ (o : Int) := by omega
          obtain ⟨L, hL⟩ : ∃ L, M ++ optO t lo hi o = L := ⟨_, rfl⟩
          have hL9 : L.length ≤ 9 * k + 9 := by
            have := optO_len t lo hi o
            rw [← hL, List.length_append]; omega
          rw [hL] at VS
          have HL := Lib.hid hL
          clear hL
          obtain ⟨y, hy⟩ : ∃ y : Pi, (⟨t.step, t.alter, o⟩ : Pi) = y := ⟨_, rfl⟩
          have ys : t.step = y.step := by rw [← hy]
          have ya : t.alter = y.alter := by rw [← hy]
          have yo : (o : Int) = y.octave := by rw [← hy]
          have YS := Lib.hid ys
          have YA := Lib.hid ya
          have YO := Lib.hid yo
          have HYY := Lib.hid hy
          clear hy yo ys ya
          obtain ⟨ky, hky⟩ : ∃ z, kyP y = z := ⟨_, rfl⟩
          have kyb := pkI_bd y.step y.alter y.octave
          rw [show pkI y.step y.alter y.octave = ky from hky] at kyb
          obtain ⟨ky0, ky1⟩ := kyb
          have Ky := Lib.hid hky
          clear hky
          obtain ⟨g, cc, bL, own, bw, hne, hgX⟩ := VS
          have c0 : wr.cell? ⟨X, 0, none⟩ = some (.int .i64 y.step) := by rw [Blk.cell bX, ← YS.out]; rfl
          have c1 : wr.cell? ⟨X, 1, none⟩ = some (.int .i64 y.alter) := by rw [Blk.cell bX, ← YA.out]; rfl
          have bX' := bX
          have bY : Blk (wr.alloc (.cells #[.int .i64 y.step, .int .i64 y.alter, .int .i64 o] 62)) wr.heap.size #[.int .i64 y.step, .int .i64 y.alter, .int .i64 o] 62 := Blk.new wr _ _
          have hgY := (own_lt own rfl).2
          have hLY : LB < wr.heap.size := bL.lt
          have bX := bX.alloc (.cells #[.int .i64 y.step, .int .i64 y.alter, .int .i64 o] 62)
          have bL := bL.alloc (.cells #[.int .i64 y.step, .int .i64 y.alter, .int .i64 o] 62)
          have own := own.alloc (.cells #[.int .i64 y.step, .int .i64 y.alter, .int .i64 o] 62)
          have bwY := bel_al bw (.cells #[.int .i64 y.step, .int .i64 y.alter, .int .i64 o] 62)
          have hwY : X < wr.heap.size := bX'.lt
          have hwwY := bw.size
          go_upto_region 10 with fail
          clear c0 c1 bX'
          generalize (wr.alloc (.cells #[.int .i64 y.step, .int .i64 y.alter, .int .i64 o] 62)) = v3 at *
          generalize hY : wr.heap.size = Y at *
          have m0 : v3.cell? ⟨Y, 0, none⟩ = some (.int .i64 y.step) := by rw [Blk.cell bY]; rfl
          have m1 : v3.cell? ⟨Y, 1, none⟩ = some (.int .i64 y.alter) := by rw [Blk.cell bY]; rfl
          have m2 : v3.cell? ⟨Y, 2, none⟩ = some (.int .i64 y.octave) := by rw [Blk.cell bY, ← YO.out]; rfl
          go_wp2_with fail
          refine (pk_val Ky.out _).mono ?_
          rintro e6 w6 ⟨rfl, b6⟩
          have bX := bX.below b6
          have bY := bY.below b6
          have bL := bL.below b6
          have own := own_below own b6
          have bw6 := bel_tr bwY b6
          clear b6 m0 m1 m2 bwY bw
          by_cases hin : lo ≤ ky ∧ ky ≤ hi
          · obtain ⟨n0, n1⟩ := hin
            have HO := Lib.hid (show optO t lo hi (o + 1) = optO t lo hi o ++ [y] from by
              rw [optO, HYY.out, if_pos (by unfold optB; rw [show kyP y = ky from Ky.out, decide_eq_true n0, decide_eq_true n1]; rfl)])
            go_wp2_with fail
            refine (win_yes _ _ _ _ n0 n1).mono ?_
            rintro e7 w7 ⟨rfl, rfl⟩
            have m0 : w6.cell? ⟨Y, 0, none⟩ = some (.int .i64 y.step) := by rw [Blk.cell bY]; rfl
            have m1 : w6.cell? ⟨Y, 1, none⟩ = some (.int .i64 y.alter) := by rw [Blk.cell bY]; rfl
            have m2 : w6.cell? ⟨Y, 2, none⟩ = some (.int .i64 y.octave) := by rw [Blk.cell bY, ← YO.out]; rfl
            have cL : w6.cell? ⟨LB, 0, none⟩ = some (.slice (some ⟨g, 0, none⟩) L.length cc) := by rw [Blk.cell bL]; rfl
            have hw6 := bw6.size
            have hX6 := bX.lt
            have hL6 := bL.lt
            have hL1 : L.length ≤ 909 := by omega
            go_wp2_with (at_builtin; go_must (refine wpList_append_lies _ rfl _ _ 37 rfl w.heap.size 62 i0 _ 3 24 Try.underlying37 hi0 hz0 hz1 hz2 rfl (by omega) _ L.length (flat csPi L) rfl (own.alloc _) ⟨w6.heap.size, 0, none⟩ 1 1 [.int .i64 y.step, .int .i64 y.alter, .int .i64 y.octave] rfl rfl (World.news_of_block (cs := #[.int .i64 y.step, .int .i64 y.alter, .int .i64 y.octave]) (t := 62) (fr := (0, 0)) (heap_alloc_new w6 _)) (by simp [Value.oneCell']) (by omega) (by unfold maxLen; omega) (by omega) (by simp <;> omega) _ rfl ?_; intro gg9 cp9 w9 hown9 hgrow9 hat9 hlt9; have bL9 := (bL.alloc (.cells #[.int .i64 y.step, .int .i64 y.alter, .int .i64 y.octave] 62)).grown hgrow9 (fun e => hne (Option.some.inj e)); have cL9 : w9.cell? ⟨LB, 0, none⟩ = some (.slice (some ⟨g, 0, none⟩) L.length cc) := (Blk.cell bL9 0).trans rfl; have fL9 := Blk.free bL9 0; have lL9 := Blk.lt bL9))
            have hq := own_push (t := y) hown9 rfl
            have hgL : gg9 ≠ LB ∧ gg9 ≠ X := by
              have h6 : w6.heap.size ≤ (w6.alloc (.cells #[.int .i64 y.step, .int .i64 y.alter, .int .i64 y.octave] 62)).heap.size := (bel_al (bel_refl w6) _).size
              rcases hat9 with h9 | h9
              · rw [← show g = gg9 from Option.some.inj h9]; exact ⟨hne, hgX⟩
              · omega
            have bX9 := (bX.alloc (.cells #[.int .i64 y.step, .int .i64 y.alter, .int .i64 y.octave] 62)).grown hgrow9 (fun e => hgX (Option.some.inj e))
            have bw9 := bel_grown (bel_al bw6 (.cells #[.int .i64 y.step, .int .i64 y.alter, .int .i64 y.octave] 62)) hgrow9 (fun k hk => own_ge own k hk)
            go_roundw
            case rel => exact ⟨o + 1, by omega, by go_num, by rw [HO.out, ← List.append_assoc, HL.out]; exact ⟨gg9, cp9, by rw [List.length_append, List.length_singleton]; exact bL9.set 0 _, own_offS (by rw [List.length_append, List.length_singleton] at hq ⊢; exact hq) (q := ⟨LB, 0, none⟩) hgL.1 _, bel_set bw9 hLB _, hgL⟩, bX9.off (q := ⟨LB, 0, none⟩) (by simp only; omega) _⟩
            case measure => simp [intOf] <;> omega
          · have HO := Lib.hid (show optO t lo hi (o + 1) = optO t lo hi o from by
              rw [optO, HYY.out, if_neg (by unfold optB; rw [show kyP y = ky from Ky.out]; simp only [Bool.and_eq_true, decide_eq_true_eq]; exact hin)])
            have hno : ky < lo ∨ hi < ky := by omega
            go_wp2_with (go_at_call 49; refine (win_no _ _ _ _ hno).mono ?_; rintro e7 w7 ⟨rfl, rfl⟩)
            go_roundw
            case rel => exact ⟨o + 1, by omega, by go_num, by rw [HO.out, HL.out]; exact ⟨g, cc, bL, own, bw6, hne, hgX⟩, bX⟩
            case measure => simp [intOf] <;> omega
        · obtain rfl : o = 9 := by omega
          rw [show ((9 : Nat) : Int) = 9 from rfl]
          go_wp2
          go_roundw
          case rel => exact ⟨k + 1, by omega, by go_num, by rw [HM.out]; exact VS.out⟩
          case measure => simp [intOf] <;> omega
    · obtain rfl : k = l.length := by omega
      obtain ⟨L, hL⟩ : ∃ L, optL l lo hi l.length = L := ⟨_, rfl⟩
      rw [hL] at VS hN
      have HL := Lib.hid hL
      clear hL
      obtain ⟨g, cc, bL, own, bw, hne, hgX⟩ := VS
      have cL : wr.cell? ⟨LB, 0, none⟩ = some (.slice (some ⟨g, 0, none⟩) L.length cc) := by rw [Blk.cell bL]; rfl
      have hgb := (own_lt own rfl).2
      go_wp2_with fail
      refine (sst_any LB w.heap.size g L.length cc L wr hN cL own bL.lt hgb (Ne.symm hne)).mono ?_
      rintro e8 w8 ⟨rfl, k8, own8⟩
      have bL8 := bL.onb k8 (Ne.symm hne)
      have cL8 : w8.cell? ⟨LB, 0, none⟩ = some (.slice (some ⟨g, 0, none⟩) L.length cc) := by rw [Blk.cell bL8]; rfl
      have eV : isort [] L = V := by rw [← HL.out]; exact HV.out
      have hVl : V.length = L.length := by rw [← eV, isort_len]; simp
      rw [eV] at own8
      have hgw := (own_lt own rfl).1
      go_wp2
      go_ret
      exact ⟨g, cc, by rw [hVl]; rfl, ⟨k8.os.trans bw.os, k8.tape.trans bw.tape, k8.output.trans bw.output, Nat.le_trans bw.size k8.size, fun i hi => (k8.block i (by have := bw.size; omega) (by omega)).trans (bw.block i hi)⟩, by rw [hVl]; exact own8⟩
end
end Go.Proofs.Ytpjakgnghpapmaa
