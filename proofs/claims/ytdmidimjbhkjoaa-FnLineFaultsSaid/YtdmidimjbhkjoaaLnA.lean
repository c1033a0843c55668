/- Faults of a tone and of a step in a line: plain; and what the closures of the program's rules answer. -/
import Derived.Test.YtdmidimjbhkjoaaCantus
import Derived.Test.YtdmidimjbhkjoaaBa
import Derived.Laws.EntriesVeiled
namespace Go.Proofs.Ytdmidimjbhkjoaa
set_option linter.unusedSimpArgs false
set_option linter.unusedVariables false
open Go.RowKit

def disB (m : Int) : Bool := decide (m = 1 ∨ m = 2 ∨ m = 5 ∨ m = 6 ∨ m = 10 ∨ m = 11)
def dsI (x y : Int) : Int := if x ≤ y then y - x else x - y
theorem dsI_bd {x y : Int} (hx : -100 ≤ x ∧ x ≤ 109) (hy : -100 ≤ y ∧ y ≤ 109) : 0 ≤ dsI x y ∧ dsI x y ≤ 209 := by unfold dsI; split <;> omega
def e4B (m : Int) (z la : Bool) : Bool := decide ((z = true ∧ m ≠ 0 ∧ m ≠ 7) ∨ (la = true ∧ m ≠ 0))
/-- the fault of a tone of key y over one of key x: ik: it is in the key; z, la: it is the first, the last one -/
def tnK (ik : Bool) (x y : Int) (z la : Bool) : Int :=
  if ik = false then 1 else if ¬ (0 ≤ y - x ∧ y - x ≤ 16) then 3 else if disB (dsI x y % 12) = true then 2 else if e4B (dsI x y % 12) z la = true then 4 else 0
/-- the fault of the step from y (over x) to y' (over x') -/
def stK (x y x' y' : Int) : Int :=
  if dsI y y' = 0 then 7 else if 9 < dsI y y' then 6 else if (y - x) % 12 = (y' - x') % 12 ∧ ((y - x) % 12 = 0 ∨ (y - x) % 12 = 7) then 5 else 0
theorem disB_or {m : Int} (h : disB m = true) : m = 1 ∨ m = 2 ∨ m = 5 ∨ m = 6 ∨ m = 10 ∨ m = 11 := of_decide_eq_true h
theorem disB_not {m : Int} (h : disB m = false) : (m == 1) = false ∧ (m == 2) = false ∧ (m == 5) = false ∧ (m == 6) = false ∧ (m == 10) = false ∧ (m == 11) = false := by
  have h2 := of_decide_eq_false h
  simp only [beq_eq_false_iff_ne, ne_eq]
  refine ⟨?_, ?_, ?_, ?_, ?_, ?_⟩ <;> intro e <;> apply h2 <;> omega
theorem tmodE {d : Int} (h : 0 ≤ d) (n : Int) : Int.tmod d n = d % n := Int.tmod_eq_emod_of_nonneg h
set_option maxHeartbeats 1000000 in
theorem ds_any (x y : Int) (w : World) (hx : -100 ≤ x ∧ x ≤ 109) (hy : -100 ≤ y ∧ y ≤ 109) : Calls Try.prog 39 #[.int .i64 x, .int .i64 y] w fun e w' => e = .returned (.int .i64 (dsI x y)) ∧ Below w.heap.size w w' := by
  have i1 := IntWalk.i64_in (x - y) (by omega)
  have i2 := IntWalk.i64_in (y - x) (by omega)
  by_cases hle : x ≤ y
  · have e : dsI x y = y - x := if_pos hle
    rw [e]
    have h1 : x - y ≤ y - x := by omega
    have h2 : x - y < y - x ∨ x = y := by omega
    rcases h2 with h2 | rfl
    · have h3 : ¬ y - x < x - y := by omega
      go_enter Try.func39, Try.ntmps39
      go_wp2
      go_ret
      exact ⟨by first | rfl | (congr 3; omega), bel_refl _⟩
    · have e0 : x - x = 0 := by omega
      rw [e0] at i1 ⊢
      go_enter Try.func39, Try.ntmps39
      go_wp2
      go_ret
      exact ⟨by first | rfl | simp [e0], bel_refl _⟩
  · have e : dsI x y = x - y := if_neg hle
    rw [e]
    have h3 : y - x < x - y := by omega
    have h4 : ¬ x - y < y - x := by omega
    go_enter Try.func39, Try.ntmps39
    go_wp2
    go_ret
    exact ⟨by first | rfl | (congr 3; omega), bel_refl _⟩
theorem ds_val {x y v : Int} (h : dsI x y = v) (w : World) (hx : -100 ≤ x ∧ x ≤ 109) (hy : -100 ≤ y ∧ y ≤ 109) : Calls Try.prog 39 #[.int .i64 x, .int .i64 y] w fun e w' => e = .returned (.int .i64 v) ∧ Below w.heap.size w w' := by
  have := ds_any x y w hx hy
  rw [h] at this
  exact this
set_option maxHeartbeats 1000000 in
theorem md_any (x : Int) (w : World) (hx : -300 ≤ x ∧ x ≤ 300) : Calls Try.prog 46 #[.int .i64 x, .int .i64 12] w fun e w' => e = .returned (.int .i64 (x % 12)) ∧ Below w.heap.size w w' := by
  obtain ⟨r, hr⟩ : ∃ r, Int.tmod x 12 = r := ⟨_, rfl⟩
  have hb : -12 < r ∧ r < 12 ∧ ∃ q, x = 12 * q + r := by
    refine ⟨?_, ?_, Int.tdiv x 12, ?_⟩
    · rw [← hr]
      by_cases h0 : 0 ≤ x
      · rw [tmodE h0]; omega
      · have e := Int.neg_tmod x 12
        have e2 := tmodE (d := -x) (by omega) 12
        omega
    · rw [← hr]; exact Int.tmod_lt_of_pos x (by decide)
    · rw [← hr]; exact (Int.mul_tdiv_add_tmod x 12).symm
  obtain ⟨r1, r2, q, hq⟩ := hb
  have i1 := IntWalk.i64_in (r + 12) (by omega)
  have e2 : Int.tmod (r + 12) 12 = x % 12 := by rw [tmodE (by omega)]; omega
  clear r1 r2 hq
  generalize x % 12 = m at *
  go_enter Try.func46, Try.ntmps46
  go_wp2
  go_ret
  exact ⟨rfl, bel_refl _⟩
theorem md_val {x v : Int} (h : x % 12 = v) (w : World) (hx : -300 ≤ x ∧ x ≤ 300) : Calls Try.prog 46 #[.int .i64 x, .int .i64 12] w fun e w' => e = .returned (.int .i64 v) ∧ Below w.heap.size w w' := by
  have := md_any x w hx
  rw [h] at this
  exact this
set_option maxHeartbeats 2000000 in
theorem dis_val {x y m : Int} {v : Bool} (hm : dsI x y % 12 = m) (hv : disB m = v) (w : World) (hx : -100 ≤ x ∧ x ≤ 109) (hy : -100 ≤ y ∧ y ≤ 109) : Calls Try.prog 44 #[.int .i64 x, .int .i64 y] w fun e w' => e = .returned (.bool v) ∧ Below w.heap.size w w' := by
  have hd := dsI_bd hx hy
  have hM := tmodE hd.1 12
  rw [hm] at hM
  obtain ⟨d, hd1⟩ : ∃ d, dsI x y = d := ⟨_, rfl⟩
  rw [hd1] at hM
  cases v
  · obtain ⟨n1, n2, n3, n4, n5, n6⟩ := disB_not hv
    go_enter Try.func44, Try.ntmps44
    go_wp2_with fail
    refine (ds_val hd1 _ hx hy).mono ?_
    rintro e1 w1 ⟨rfl, b1⟩
    clear hm hv hd hd1 hx hy
    go_wp2
    go_ret
    exact ⟨rfl, b1⟩
  · have ho := disB_or hv
    go_enter Try.func44, Try.ntmps44
    go_wp2_with fail
    refine (ds_val hd1 _ hx hy).mono ?_
    rintro e1 w1 ⟨rfl, b1⟩
    clear hm hv hd hd1 hx hy
    rcases ho with rfl | rfl | rfl | rfl | rfl | rfl
    all_goals
      go_wp2
      go_ret
      exact ⟨rfl, b1⟩
set_option maxHeartbeats 1000000 in
theorem tc1_any (f p0 p1 p2 : Int) (v : Bool) (T : Nat) (w : World) (hv : ikB f p0 p1 p2 = v) (h0 : w.cell? ⟨T, 0, none⟩ = some (.int .i64 f)) (h1 : w.cell? ⟨T, 6, none⟩ = some (.int .i64 p0)) (h2 : w.cell? ⟨T, 7, none⟩ = some (.int .i64 p1)) (h3 : w.cell? ⟨T, 8, none⟩ = some (.int .i64 p2)) :
    Calls Try.prog 41 #[.pointer (some ⟨T, 0, none⟩)] w fun e w' => e = .returned (.bool (!v)) ∧ Below w.heap.size w w' := by
  have HV := Lib.hid hv
  clear hv
  go_enter Try.func41, Try.ntmps41
  go_wp2_with fail
  refine (ink_val HV.out _).mono ?_
  rintro e1 w1 ⟨rfl, b1⟩
  go_wp2
  go_ret
  exact ⟨rfl, b1⟩
set_option maxHeartbeats 1000000 in
theorem tc2_any (x y : Int) (hx : -100 ≤ x ∧ x ≤ 109) (hy : -100 ≤ y ∧ y ≤ 109) (X Y : Nat) (w : World) (h0 : w.cell? ⟨Y, 0, none⟩ = some (.int .i64 y)) (h1 : w.cell? ⟨X, 0, none⟩ = some (.int .i64 x)) :
    Calls Try.prog 42 #[.pointer (some ⟨Y, 0, none⟩), .pointer (some ⟨X, 0, none⟩)] w fun e w' => e = .returned (.bool (!decide (0 ≤ y - x ∧ y - x ≤ 16))) ∧ Below w.heap.size w w' := by
  have i1 := IntWalk.i64_in (y - x) (by omega)
  go_enter Try.func42, Try.ntmps42
  by_cases hd : 0 ≤ y - x ∧ y - x ≤ 16
  · rw [decide_eq_true hd]
    go_wp2_with fail
    refine (win_yes _ _ _ _ hd.1 hd.2).mono ?_
    rintro e1 w1 ⟨rfl, rfl⟩
    go_wp2
    go_ret
    exact ⟨rfl, bel_refl _⟩
  · rw [decide_eq_false hd]
    go_wp2_with fail
    refine (win_no _ _ _ _ (by omega)).mono ?_
    rintro e1 w1 ⟨rfl, rfl⟩
    go_wp2
    go_ret
    exact ⟨rfl, bel_refl _⟩
set_option maxHeartbeats 1000000 in
theorem tc3_any (x y m : Int) (v : Bool) (hx : -100 ≤ x ∧ x ≤ 109) (hy : -100 ≤ y ∧ y ≤ 109) (hm : dsI x y % 12 = m) (hv : disB m = v) (X Y : Nat) (w : World) (h0 : w.cell? ⟨Y, 0, none⟩ = some (.int .i64 y)) (h1 : w.cell? ⟨X, 0, none⟩ = some (.int .i64 x)) :
    Calls Try.prog 43 #[.pointer (some ⟨X, 0, none⟩), .pointer (some ⟨Y, 0, none⟩)] w fun e w' => e = .returned (.bool v) ∧ Below w.heap.size w w' := by
  go_enter Try.func43, Try.ntmps43
  go_wp2_with fail
  refine (dis_val hm hv _ hx hy).mono ?_
  rintro e1 w1 ⟨rfl, b1⟩
  go_wp2
  go_ret
  exact ⟨rfl, b1⟩
theorem e4_cases (m : Int) (z la : Bool) : (e4B m z la = true ∧ ((z = true ∧ (m != 0) = true ∧ (m != 7) = true) ∨ (z = false ∧ la = true ∧ (m != 0) = true) ∨ (z = true ∧ m = 7 ∧ la = true))) ∨ (e4B m z la = false ∧ ((z = true ∧ m = 0 ∧ la = true) ∨ (z = true ∧ m = 0 ∧ la = false) ∨ (z = true ∧ m = 7 ∧ la = false) ∨ (z = false ∧ la = false) ∨ (z = false ∧ la = true ∧ m = 0))) := by
  unfold e4B
  simp only [bne_iff_ne, ne_eq, decide_eq_true_eq, decide_eq_false_iff_not]
  cases z <;> cases la <;> simp <;> omega
set_option maxHeartbeats 2000000 in
theorem tc4_any (at0 m : Int) (z la : Bool) (hz : (at0 == 0) = z) (T D : Nat) (w : World) (h0 : w.cell? ⟨T, 1, none⟩ = some (.int .i64 at0)) (h2 : w.cell? ⟨T, 2, none⟩ = some (.bool la)) (h1 : w.cell? ⟨D, 0, none⟩ = some (.int .i64 m)) :
    Calls Try.prog 45 #[.pointer (some ⟨T, 0, none⟩), .pointer (some ⟨D, 0, none⟩)] w fun e w' => e = .returned (.bool (e4B m z la)) ∧ Below w.heap.size w w' := by
  rcases e4_cases m z la with ⟨he, ⟨rfl, n0, n7⟩ | ⟨rfl, rfl, n0⟩ | ⟨rfl, rfl, rfl⟩⟩ | ⟨he, ⟨rfl, rfl, rfl⟩ | ⟨rfl, rfl, rfl⟩ | ⟨rfl, rfl, rfl⟩ | ⟨rfl, rfl⟩ | ⟨rfl, rfl, rfl⟩⟩
  all_goals
    rw [he]
    clear he
    go_enter Try.func45, Try.ntmps45
    go_wp2
    go_ret
    exact ⟨rfl, bel_refl _⟩
set_option maxHeartbeats 1000000 in
theorem sc1_any (d : Int) (D : Nat) (w : World) (h0 : w.cell? ⟨D, 0, none⟩ = some (.int .i64 d)) :
    Calls Try.prog 47 #[.pointer (some ⟨D, 0, none⟩)] w fun e w' => e = .returned (.bool (d == 0)) ∧ Below w.heap.size w w' := by
  go_enter Try.func47, Try.ntmps47
  go_wp2
  go_ret
  exact ⟨rfl, bel_refl _⟩
set_option maxHeartbeats 1000000 in
theorem sc2_any (d : Int) (D : Nat) (w : World) (h0 : w.cell? ⟨D, 0, none⟩ = some (.int .i64 d)) :
    Calls Try.prog 48 #[.pointer (some ⟨D, 0, none⟩)] w fun e w' => e = .returned (.bool (decide (9 < d))) ∧ Below w.heap.size w w' := by
  go_enter Try.func48, Try.ntmps48
  go_wp2
  go_ret
  exact ⟨rfl, bel_refl _⟩
set_option maxHeartbeats 2000000 in
theorem sc3_any (a b : Int) (D E : Nat) (w : World) (h0 : w.cell? ⟨D, 0, none⟩ = some (.int .i64 a)) (h1 : w.cell? ⟨E, 0, none⟩ = some (.int .i64 b)) :
    Calls Try.prog 49 #[.pointer (some ⟨D, 0, none⟩), .pointer (some ⟨E, 0, none⟩)] w fun e w' => e = .returned (.bool (decide (a = b ∧ (a = 0 ∨ a = 7)))) ∧ Below w.heap.size w w' := by
  rcases (show (a = b ∧ a = 0) ∨ (a = b ∧ a = 7) ∨ (a = b ∧ (a == 0) = false ∧ (a == 7) = false) ∨ ((a == b) = false) from by simp only [beq_eq_false_iff_ne, ne_eq]; omega) with ⟨rfl, rfl⟩ | ⟨rfl, rfl⟩ | ⟨rfl, n0, n7⟩ | n
  · go_enter Try.func49, Try.ntmps49
    go_wp2
    go_ret
    exact ⟨rfl, bel_refl _⟩
  · go_enter Try.func49, Try.ntmps49
    go_wp2
    go_ret
    exact ⟨rfl, bel_refl _⟩
  · rw [show decide (a = a ∧ (a = 0 ∨ a = 7)) = false from by simp only [beq_eq_false_iff_ne, ne_eq] at n0 n7; exact decide_eq_false (by omega)]
    go_enter Try.func49, Try.ntmps49
    go_wp2
    go_ret
    exact ⟨rfl, bel_refl _⟩
  · rw [show decide (a = b ∧ (a = 0 ∨ a = 7)) = false from by simp only [beq_eq_false_iff_ne, ne_eq] at n; exact decide_eq_false (by omega)]
    go_enter Try.func49, Try.ntmps49
    go_wp2
    go_ret
    exact ⟨rfl, bel_refl _⟩
set_option maxHeartbeats 4000000 in
theorem fb4_any (R : Nat) (w : World) (b0 : Bool) (G0 : Array Value) (H0 : ∀ W, Below w.heap.size w W → Calls Try.prog 41 G0 W fun e w' => e = .returned (.bool b0) ∧ Below W.heap.size W w') (b1 : Bool) (G1 : Array Value) (H1 : ∀ W, Below w.heap.size w W → Calls Try.prog 42 G1 W fun e w' => e = .returned (.bool b1) ∧ Below W.heap.size W w') (b2 : Bool) (G2 : Array Value) (H2 : ∀ W, Below w.heap.size w W → Calls Try.prog 43 G2 W fun e w' => e = .returned (.bool b2) ∧ Below W.heap.size W w') (b3 : Bool) (G3 : Array Value) (H3 : ∀ W, Below w.heap.size w W → Calls Try.prog 45 G3 W fun e w' => e = .returned (.bool b3) ∧ Below W.heap.size W w') (k0 : w.cell? ⟨R, 0, none⟩ = some (.int .i64 1)) (g0 : w.cell? ⟨R, 1, none⟩ = some (.func (.func 41) #[] G0)) (k1 : w.cell? ⟨R, 2, none⟩ = some (.int .i64 3)) (g1 : w.cell? ⟨R, 3, none⟩ = some (.func (.func 42) #[] G1)) (k2 : w.cell? ⟨R, 4, none⟩ = some (.int .i64 2)) (g2 : w.cell? ⟨R, 5, none⟩ = some (.func (.func 43) #[] G2)) (k3 : w.cell? ⟨R, 6, none⟩ = some (.int .i64 4)) (g3 : w.cell? ⟨R, 7, none⟩ = some (.func (.func 45) #[] G3)) :
    Calls Try.prog 40 #[.slice (some ⟨R, 0, none⟩) 4 4] w fun e w' => e = .returned (.int .i64 (if b0 = true then 1 else (if b1 = true then 3 else (if b2 = true then 2 else (if b3 = true then 4 else 0))))) ∧ Below w.heap.size w w' := by
  go_enter Try.func40, Try.ntmps40
  go_wp2
  go_loopw [7] (fun i wr => ∃ k : Int, 0 ≤ k ∧ k ≤ 4 ∧ i = .int .i64 k ∧ Below w.heap.size w wr ∧ (0 < k → b0 = false) ∧ (1 < k → b1 = false) ∧ (2 < k → b2 = false) ∧ (3 < k → b3 = false)) (fun i _ => 4 - (intOf i).toNat)
  case atStart => exact ⟨0, by omega, by omega, rfl, bel_refl _, by omega, by omega, by omega, by omega⟩
  case round =>
    obtain ⟨k, hk0, hk, rfl, hb, q0, q1, q2, q3⟩ := hrel
    have k0 := keep_tr k0 hb
    have g0 := keep_tr g0 hb
    have k1 := keep_tr k1 hb
    have g1 := keep_tr g1 hb
    have k2 := keep_tr k2 hb
    have g2 := keep_tr g2 hb
    have k3 := keep_tr k3 hb
    have g3 := keep_tr g3 hb
    rcases (show k = 0 ∨ k = 1 ∨ k = 2 ∨ k = 3 ∨ k = 4 from by omega) with rfl | rfl | rfl | rfl | rfl
    · cases hb0 : b0
      · subst hb0
        go_wp2_with (go_at_call 41; refine (H0 _ ?_).mono ?_; (focus (repeat (first | (with_reducible assumption) | (exact bel_undr (by with_reducible assumption)) | (with_reducible exact bel_refl _) | (with_reducible refine bel_dr ?_) | (with_reducible refine bel_drN ?_ _) | (with_reducible refine bel_al ?_ _) | (refine bel_set ?_ (by first | (simp; done) | (simp; exact Below.size (by assumption)) | (simp; omega)) _) | (with_reducible refine bel_tr ?_ (by assumption))))); rintro e1 w1 ⟨rfl, b1⟩; have c0 : w1.cell? ⟨wr.heap.size, 0, none⟩ = some (.int .i64 1) := keep_tr (by simp [go_sem]) b1)
        go_roundw
        case rel => exact ⟨1, by omega, by omega, by go_num, by repeat (first | (with_reducible assumption) | (exact bel_undr (by with_reducible assumption)) | (with_reducible exact bel_refl _) | (with_reducible refine bel_dr ?_) | (with_reducible refine bel_drN ?_ _) | (with_reducible refine bel_al ?_ _) | (refine bel_set ?_ (by first | (simp; done) | (simp; exact Below.size (by assumption)) | (simp; omega)) _) | (with_reducible refine bel_tr ?_ (by assumption))), by simp [*], by intro h; omega, by intro h; omega, by intro h; omega⟩
        case measure => simp [intOf]
      · subst hb0
        go_wp2_with (go_at_call 41; refine (H0 _ ?_).mono ?_; (focus (repeat (first | (with_reducible assumption) | (exact bel_undr (by with_reducible assumption)) | (with_reducible exact bel_refl _) | (with_reducible refine bel_dr ?_) | (with_reducible refine bel_drN ?_ _) | (with_reducible refine bel_al ?_ _) | (refine bel_set ?_ (by first | (simp; done) | (simp; exact Below.size (by assumption)) | (simp; omega)) _) | (with_reducible refine bel_tr ?_ (by assumption))))); rintro e1 w1 ⟨rfl, b1⟩; have c0 : w1.cell? ⟨wr.heap.size, 0, none⟩ = some (.int .i64 1) := keep_tr (by simp [go_sem]) b1)
        go_ret
        exact ⟨by simp [], by repeat (first | (with_reducible assumption) | (exact bel_undr (by with_reducible assumption)) | (with_reducible exact bel_refl _) | (with_reducible refine bel_dr ?_) | (with_reducible refine bel_drN ?_ _) | (with_reducible refine bel_al ?_ _) | (refine bel_set ?_ (by first | (simp; done) | (simp; exact Below.size (by assumption)) | (simp; omega)) _) | (with_reducible refine bel_tr ?_ (by assumption)))⟩
    · cases hb1 : b1
      · subst hb1
        have q0 := q0 (by omega)
        go_wp2_with (go_at_call 42; refine (H1 _ ?_).mono ?_; (focus (repeat (first | (with_reducible assumption) | (exact bel_undr (by with_reducible assumption)) | (with_reducible exact bel_refl _) | (with_reducible refine bel_dr ?_) | (with_reducible refine bel_drN ?_ _) | (with_reducible refine bel_al ?_ _) | (refine bel_set ?_ (by first | (simp; done) | (simp; exact Below.size (by assumption)) | (simp; omega)) _) | (with_reducible refine bel_tr ?_ (by assumption))))); rintro e1 w1 ⟨rfl, b1⟩; have c0 : w1.cell? ⟨wr.heap.size, 0, none⟩ = some (.int .i64 3) := keep_tr (by simp [go_sem]) b1)
        go_roundw
        case rel => exact ⟨2, by omega, by omega, by go_num, by repeat (first | (with_reducible assumption) | (exact bel_undr (by with_reducible assumption)) | (with_reducible exact bel_refl _) | (with_reducible refine bel_dr ?_) | (with_reducible refine bel_drN ?_ _) | (with_reducible refine bel_al ?_ _) | (refine bel_set ?_ (by first | (simp; done) | (simp; exact Below.size (by assumption)) | (simp; omega)) _) | (with_reducible refine bel_tr ?_ (by assumption))), by simp [*], by simp [*], by intro h; omega, by intro h; omega⟩
        case measure => simp [intOf]
      · subst hb1
        have q0 := q0 (by omega)
        go_wp2_with (go_at_call 42; refine (H1 _ ?_).mono ?_; (focus (repeat (first | (with_reducible assumption) | (exact bel_undr (by with_reducible assumption)) | (with_reducible exact bel_refl _) | (with_reducible refine bel_dr ?_) | (with_reducible refine bel_drN ?_ _) | (with_reducible refine bel_al ?_ _) | (refine bel_set ?_ (by first | (simp; done) | (simp; exact Below.size (by assumption)) | (simp; omega)) _) | (with_reducible refine bel_tr ?_ (by assumption))))); rintro e1 w1 ⟨rfl, b1⟩; have c0 : w1.cell? ⟨wr.heap.size, 0, none⟩ = some (.int .i64 3) := keep_tr (by simp [go_sem]) b1)
        go_ret
        exact ⟨by simp [q0], by repeat (first | (with_reducible assumption) | (exact bel_undr (by with_reducible assumption)) | (with_reducible exact bel_refl _) | (with_reducible refine bel_dr ?_) | (with_reducible refine bel_drN ?_ _) | (with_reducible refine bel_al ?_ _) | (refine bel_set ?_ (by first | (simp; done) | (simp; exact Below.size (by assumption)) | (simp; omega)) _) | (with_reducible refine bel_tr ?_ (by assumption)))⟩
    · cases hb2 : b2
      · subst hb2
        have q0 := q0 (by omega)
        have q1 := q1 (by omega)
        go_wp2_with (go_at_call 43; refine (H2 _ ?_).mono ?_; (focus (repeat (first | (with_reducible assumption) | (exact bel_undr (by with_reducible assumption)) | (with_reducible exact bel_refl _) | (with_reducible refine bel_dr ?_) | (with_reducible refine bel_drN ?_ _) | (with_reducible refine bel_al ?_ _) | (refine bel_set ?_ (by first | (simp; done) | (simp; exact Below.size (by assumption)) | (simp; omega)) _) | (with_reducible refine bel_tr ?_ (by assumption))))); rintro e1 w1 ⟨rfl, b1⟩; have c0 : w1.cell? ⟨wr.heap.size, 0, none⟩ = some (.int .i64 2) := keep_tr (by simp [go_sem]) b1)
        go_roundw
        case rel => exact ⟨3, by omega, by omega, by go_num, by repeat (first | (with_reducible assumption) | (exact bel_undr (by with_reducible assumption)) | (with_reducible exact bel_refl _) | (with_reducible refine bel_dr ?_) | (with_reducible refine bel_drN ?_ _) | (with_reducible refine bel_al ?_ _) | (refine bel_set ?_ (by first | (simp; done) | (simp; exact Below.size (by assumption)) | (simp; omega)) _) | (with_reducible refine bel_tr ?_ (by assumption))), by simp [*], by simp [*], by simp [*], by intro h; omega⟩
        case measure => simp [intOf]
      · subst hb2
        have q0 := q0 (by omega)
        have q1 := q1 (by omega)
        go_wp2_with (go_at_call 43; refine (H2 _ ?_).mono ?_; (focus (repeat (first | (with_reducible assumption) | (exact bel_undr (by with_reducible assumption)) | (with_reducible exact bel_refl _) | (with_reducible refine bel_dr ?_) | (with_reducible refine bel_drN ?_ _) | (with_reducible refine bel_al ?_ _) | (refine bel_set ?_ (by first | (simp; done) | (simp; exact Below.size (by assumption)) | (simp; omega)) _) | (with_reducible refine bel_tr ?_ (by assumption))))); rintro e1 w1 ⟨rfl, b1⟩; have c0 : w1.cell? ⟨wr.heap.size, 0, none⟩ = some (.int .i64 2) := keep_tr (by simp [go_sem]) b1)
        go_ret
        exact ⟨by simp [q0, q1], by repeat (first | (with_reducible assumption) | (exact bel_undr (by with_reducible assumption)) | (with_reducible exact bel_refl _) | (with_reducible refine bel_dr ?_) | (with_reducible refine bel_drN ?_ _) | (with_reducible refine bel_al ?_ _) | (refine bel_set ?_ (by first | (simp; done) | (simp; exact Below.size (by assumption)) | (simp; omega)) _) | (with_reducible refine bel_tr ?_ (by assumption)))⟩
    · cases hb3 : b3
      · subst hb3
        have q0 := q0 (by omega)
        have q1 := q1 (by omega)
        have q2 := q2 (by omega)
        go_wp2_with (go_at_call 45; refine (H3 _ ?_).mono ?_; (focus (repeat (first | (with_reducible assumption) | (exact bel_undr (by with_reducible assumption)) | (with_reducible exact bel_refl _) | (with_reducible refine bel_dr ?_) | (with_reducible refine bel_drN ?_ _) | (with_reducible refine bel_al ?_ _) | (refine bel_set ?_ (by first | (simp; done) | (simp; exact Below.size (by assumption)) | (simp; omega)) _) | (with_reducible refine bel_tr ?_ (by assumption))))); rintro e1 w1 ⟨rfl, b1⟩; have c0 : w1.cell? ⟨wr.heap.size, 0, none⟩ = some (.int .i64 4) := keep_tr (by simp [go_sem]) b1)
        go_roundw
        case rel => exact ⟨4, by omega, by omega, by go_num, by repeat (first | (with_reducible assumption) | (exact bel_undr (by with_reducible assumption)) | (with_reducible exact bel_refl _) | (with_reducible refine bel_dr ?_) | (with_reducible refine bel_drN ?_ _) | (with_reducible refine bel_al ?_ _) | (refine bel_set ?_ (by first | (simp; done) | (simp; exact Below.size (by assumption)) | (simp; omega)) _) | (with_reducible refine bel_tr ?_ (by assumption))), by simp [*], by simp [*], by simp [*], by simp [*]⟩
        case measure => simp [intOf]
      · subst hb3
        have q0 := q0 (by omega)
        have q1 := q1 (by omega)
        have q2 := q2 (by omega)
        go_wp2_with (go_at_call 45; refine (H3 _ ?_).mono ?_; (focus (repeat (first | (with_reducible assumption) | (exact bel_undr (by with_reducible assumption)) | (with_reducible exact bel_refl _) | (with_reducible refine bel_dr ?_) | (with_reducible refine bel_drN ?_ _) | (with_reducible refine bel_al ?_ _) | (refine bel_set ?_ (by first | (simp; done) | (simp; exact Below.size (by assumption)) | (simp; omega)) _) | (with_reducible refine bel_tr ?_ (by assumption))))); rintro e1 w1 ⟨rfl, b1⟩; have c0 : w1.cell? ⟨wr.heap.size, 0, none⟩ = some (.int .i64 4) := keep_tr (by simp [go_sem]) b1)
        go_ret
        exact ⟨by simp [q0, q1, q2], by repeat (first | (with_reducible assumption) | (exact bel_undr (by with_reducible assumption)) | (with_reducible exact bel_refl _) | (with_reducible refine bel_dr ?_) | (with_reducible refine bel_drN ?_ _) | (with_reducible refine bel_al ?_ _) | (refine bel_set ?_ (by first | (simp; done) | (simp; exact Below.size (by assumption)) | (simp; omega)) _) | (with_reducible refine bel_tr ?_ (by assumption)))⟩
    · have nl : ¬ (4 : Int) < 4 := by omega
      go_wp2
      go_ret
      exact ⟨by simp [q0 (by omega), q1 (by omega), q2 (by omega), q3 (by omega)], by repeat (first | (with_reducible assumption) | (exact bel_undr (by with_reducible assumption)) | (with_reducible exact bel_refl _) | (with_reducible refine bel_dr ?_) | (with_reducible refine bel_drN ?_ _) | (with_reducible refine bel_al ?_ _) | (refine bel_set ?_ (by first | (simp; done) | (simp; exact Below.size (by assumption)) | (simp; omega)) _) | (with_reducible refine bel_tr ?_ (by assumption)))⟩
set_option maxHeartbeats 4000000 in
theorem fb3_any (R : Nat) (w : World) (b0 : Bool) (G0 : Array Value) (H0 : ∀ W, Below w.heap.size w W → Calls Try.prog 47 G0 W fun e w' => e = .returned (.bool b0) ∧ Below W.heap.size W w') (b1 : Bool) (G1 : Array Value) (H1 : ∀ W, Below w.heap.size w W → Calls Try.prog 48 G1 W fun e w' => e = .returned (.bool b1) ∧ Below W.heap.size W w') (b2 : Bool) (G2 : Array Value) (H2 : ∀ W, Below w.heap.size w W → Calls Try.prog 49 G2 W fun e w' => e = .returned (.bool b2) ∧ Below W.heap.size W w') (k0 : w.cell? ⟨R, 0, none⟩ = some (.int .i64 7)) (g0 : w.cell? ⟨R, 1, none⟩ = some (.func (.func 47) #[] G0)) (k1 : w.cell? ⟨R, 2, none⟩ = some (.int .i64 6)) (g1 : w.cell? ⟨R, 3, none⟩ = some (.func (.func 48) #[] G1)) (k2 : w.cell? ⟨R, 4, none⟩ = some (.int .i64 5)) (g2 : w.cell? ⟨R, 5, none⟩ = some (.func (.func 49) #[] G2)) :
    Calls Try.prog 40 #[.slice (some ⟨R, 0, none⟩) 3 3] w fun e w' => e = .returned (.int .i64 (if b0 = true then 7 else (if b1 = true then 6 else (if b2 = true then 5 else 0)))) ∧ Below w.heap.size w w' := by
  go_enter Try.func40, Try.ntmps40
  go_wp2
  go_loopw [7] (fun i wr => ∃ k : Int, 0 ≤ k ∧ k ≤ 3 ∧ i = .int .i64 k ∧ Below w.heap.size w wr ∧ (0 < k → b0 = false) ∧ (1 < k → b1 = false) ∧ (2 < k → b2 = false)) (fun i _ => 3 - (intOf i).toNat)
  case atStart => exact ⟨0, by omega, by omega, rfl, bel_refl _, by omega, by omega, by omega⟩
  case round =>
    obtain ⟨k, hk0, hk, rfl, hb, q0, q1, q2⟩ := hrel
    have k0 := keep_tr k0 hb
    have g0 := keep_tr g0 hb
    have k1 := keep_tr k1 hb
    have g1 := keep_tr g1 hb
    have k2 := keep_tr k2 hb
    have g2 := keep_tr g2 hb
    rcases (show k = 0 ∨ k = 1 ∨ k = 2 ∨ k = 3 from by omega) with rfl | rfl | rfl | rfl
    · cases hb0 : b0
      · subst hb0
        go_wp2_with (go_at_call 47; refine (H0 _ ?_).mono ?_; (focus (repeat (first | (with_reducible assumption) | (exact bel_undr (by with_reducible assumption)) | (with_reducible exact bel_refl _) | (with_reducible refine bel_dr ?_) | (with_reducible refine bel_drN ?_ _) | (with_reducible refine bel_al ?_ _) | (refine bel_set ?_ (by first | (simp; done) | (simp; exact Below.size (by assumption)) | (simp; omega)) _) | (with_reducible refine bel_tr ?_ (by assumption))))); rintro e1 w1 ⟨rfl, b1⟩; have c0 : w1.cell? ⟨wr.heap.size, 0, none⟩ = some (.int .i64 7) := keep_tr (by simp [go_sem]) b1)
        go_roundw
        case rel => exact ⟨1, by omega, by omega, by go_num, by repeat (first | (with_reducible assumption) | (exact bel_undr (by with_reducible assumption)) | (with_reducible exact bel_refl _) | (with_reducible refine bel_dr ?_) | (with_reducible refine bel_drN ?_ _) | (with_reducible refine bel_al ?_ _) | (refine bel_set ?_ (by first | (simp; done) | (simp; exact Below.size (by assumption)) | (simp; omega)) _) | (with_reducible refine bel_tr ?_ (by assumption))), by simp [*], by intro h; omega, by intro h; omega⟩
        case measure => simp [intOf]
      · subst hb0
        go_wp2_with (go_at_call 47; refine (H0 _ ?_).mono ?_; (focus (repeat (first | (with_reducible assumption) | (exact bel_undr (by with_reducible assumption)) | (with_reducible exact bel_refl _) | (with_reducible refine bel_dr ?_) | (with_reducible refine bel_drN ?_ _) | (with_reducible refine bel_al ?_ _) | (refine bel_set ?_ (by first | (simp; done) | (simp; exact Below.size (by assumption)) | (simp; omega)) _) | (with_reducible refine bel_tr ?_ (by assumption))))); rintro e1 w1 ⟨rfl, b1⟩; have c0 : w1.cell? ⟨wr.heap.size, 0, none⟩ = some (.int .i64 7) := keep_tr (by simp [go_sem]) b1)
        go_ret
        exact ⟨by simp [], by repeat (first | (with_reducible assumption) | (exact bel_undr (by with_reducible assumption)) | (with_reducible exact bel_refl _) | (with_reducible refine bel_dr ?_) | (with_reducible refine bel_drN ?_ _) | (with_reducible refine bel_al ?_ _) | (refine bel_set ?_ (by first | (simp; done) | (simp; exact Below.size (by assumption)) | (simp; omega)) _) | (with_reducible refine bel_tr ?_ (by assumption)))⟩
    · cases hb1 : b1
      · subst hb1
        have q0 := q0 (by omega)
        go_wp2_with (go_at_call 48; refine (H1 _ ?_).mono ?_; (focus (repeat (first | (with_reducible assumption) | (exact bel_undr (by with_reducible assumption)) | (with_reducible exact bel_refl _) | (with_reducible refine bel_dr ?_) | (with_reducible refine bel_drN ?_ _) | (with_reducible refine bel_al ?_ _) | (refine bel_set ?_ (by first | (simp; done) | (simp; exact Below.size (by assumption)) | (simp; omega)) _) | (with_reducible refine bel_tr ?_ (by assumption))))); rintro e1 w1 ⟨rfl, b1⟩; have c0 : w1.cell? ⟨wr.heap.size, 0, none⟩ = some (.int .i64 6) := keep_tr (by simp [go_sem]) b1)
        go_roundw
        case rel => exact ⟨2, by omega, by omega, by go_num, by repeat (first | (with_reducible assumption) | (exact bel_undr (by with_reducible assumption)) | (with_reducible exact bel_refl _) | (with_reducible refine bel_dr ?_) | (with_reducible refine bel_drN ?_ _) | (with_reducible refine bel_al ?_ _) | (refine bel_set ?_ (by first | (simp; done) | (simp; exact Below.size (by assumption)) | (simp; omega)) _) | (with_reducible refine bel_tr ?_ (by assumption))), by simp [*], by simp [*], by intro h; omega⟩
        case measure => simp [intOf]
      · subst hb1
        have q0 := q0 (by omega)
        go_wp2_with (go_at_call 48; refine (H1 _ ?_).mono ?_; (focus (repeat (first | (with_reducible assumption) | (exact bel_undr (by with_reducible assumption)) | (with_reducible exact bel_refl _) | (with_reducible refine bel_dr ?_) | (with_reducible refine bel_drN ?_ _) | (with_reducible refine bel_al ?_ _) | (refine bel_set ?_ (by first | (simp; done) | (simp; exact Below.size (by assumption)) | (simp; omega)) _) | (with_reducible refine bel_tr ?_ (by assumption))))); rintro e1 w1 ⟨rfl, b1⟩; have c0 : w1.cell? ⟨wr.heap.size, 0, none⟩ = some (.int .i64 6) := keep_tr (by simp [go_sem]) b1)
        go_ret
        exact ⟨by simp [q0], by repeat (first | (with_reducible assumption) | (exact bel_undr (by with_reducible assumption)) | (with_reducible exact bel_refl _) | (with_reducible refine bel_dr ?_) | (with_reducible refine bel_drN ?_ _) | (with_reducible refine bel_al ?_ _) | (refine bel_set ?_ (by first | (simp; done) | (simp; exact Below.size (by assumption)) | (simp; omega)) _) | (with_reducible refine bel_tr ?_ (by assumption)))⟩
    · cases hb2 : b2
      · subst hb2
        have q0 := q0 (by omega)
        have q1 := q1 (by omega)
        go_wp2_with (go_at_call 49; refine (H2 _ ?_).mono ?_; (focus (repeat (first | (with_reducible assumption) | (exact bel_undr (by with_reducible assumption)) | (with_reducible exact bel_refl _) | (with_reducible refine bel_dr ?_) | (with_reducible refine bel_drN ?_ _) | (with_reducible refine bel_al ?_ _) | (refine bel_set ?_ (by first | (simp; done) | (simp; exact Below.size (by assumption)) | (simp; omega)) _) | (with_reducible refine bel_tr ?_ (by assumption))))); rintro e1 w1 ⟨rfl, b1⟩; have c0 : w1.cell? ⟨wr.heap.size, 0, none⟩ = some (.int .i64 5) := keep_tr (by simp [go_sem]) b1)
        go_roundw
        case rel => exact ⟨3, by omega, by omega, by go_num, by repeat (first | (with_reducible assumption) | (exact bel_undr (by with_reducible assumption)) | (with_reducible exact bel_refl _) | (with_reducible refine bel_dr ?_) | (with_reducible refine bel_drN ?_ _) | (with_reducible refine bel_al ?_ _) | (refine bel_set ?_ (by first | (simp; done) | (simp; exact Below.size (by assumption)) | (simp; omega)) _) | (with_reducible refine bel_tr ?_ (by assumption))), by simp [*], by simp [*], by simp [*]⟩
        case measure => simp [intOf]
      · subst hb2
        have q0 := q0 (by omega)
        have q1 := q1 (by omega)
        go_wp2_with (go_at_call 49; refine (H2 _ ?_).mono ?_; (focus (repeat (first | (with_reducible assumption) | (exact bel_undr (by with_reducible assumption)) | (with_reducible exact bel_refl _) | (with_reducible refine bel_dr ?_) | (with_reducible refine bel_drN ?_ _) | (with_reducible refine bel_al ?_ _) | (refine bel_set ?_ (by first | (simp; done) | (simp; exact Below.size (by assumption)) | (simp; omega)) _) | (with_reducible refine bel_tr ?_ (by assumption))))); rintro e1 w1 ⟨rfl, b1⟩; have c0 : w1.cell? ⟨wr.heap.size, 0, none⟩ = some (.int .i64 5) := keep_tr (by simp [go_sem]) b1)
        go_ret
        exact ⟨by simp [q0, q1], by repeat (first | (with_reducible assumption) | (exact bel_undr (by with_reducible assumption)) | (with_reducible exact bel_refl _) | (with_reducible refine bel_dr ?_) | (with_reducible refine bel_drN ?_ _) | (with_reducible refine bel_al ?_ _) | (refine bel_set ?_ (by first | (simp; done) | (simp; exact Below.size (by assumption)) | (simp; omega)) _) | (with_reducible refine bel_tr ?_ (by assumption)))⟩
    · have nl : ¬ (3 : Int) < 3 := by omega
      go_wp2
      go_ret
      exact ⟨by simp [q0 (by omega), q1 (by omega), q2 (by omega)], by repeat (first | (with_reducible assumption) | (exact bel_undr (by with_reducible assumption)) | (with_reducible exact bel_refl _) | (with_reducible refine bel_dr ?_) | (with_reducible refine bel_drN ?_ _) | (with_reducible refine bel_al ?_ _) | (refine bel_set ?_ (by first | (simp; done) | (simp; exact Below.size (by assumption)) | (simp; omega)) _) | (with_reducible refine bel_tr ?_ (by assumption)))⟩
end Go.Proofs.Ytdmidimjbhkjoaa
