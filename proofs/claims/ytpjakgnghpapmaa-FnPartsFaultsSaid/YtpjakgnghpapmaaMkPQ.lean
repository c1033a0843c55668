/- Slices of slices of pitches: the functions of the laws that count, copy, compare and mark them. -/
import Derived.Test.YtpjakgnghpapmaaMkPP
import Derived.Test.YtpjakgnghpapmaaBt
import Derived.Laws.MakeOwn
namespace Go.Proofs.Ytpjakgnghpapmaa
set_option linter.unusedSimpArgs false
set_option linter.unusedVariables false
open Go.RowKit

theorem szS_any (A : Option Addr) (n c : Nat) (left : Int) (w : World) (hn : n ≤ 9223372036854775807) (h0 : 0 ≤ left) (h1 : left ≤ 1048576) :
    Calls Try.prog 23 #[.slice A n c, .int .i64 left] w fun e w' => e = .returned (.int .i64 (if left < (n : Int) then -1 else left - n)) ∧ w = w' := by
  have i1 := IntWalk.i64_in (left - (n : Int)) (by omega)
  by_cases h : left < (n : Int)
  · have h2 : left - (n : Int) < 0 := by omega
    go_enter Try.func23, Try.ntmps23
    go_wp2
    go_ret
    exact ⟨rfl, rfl⟩
  · have h2 : ¬ left - (n : Int) < 0 := by omega
    go_enter Try.func23, Try.ntmps23
    go_wp2
    go_ret
    exact ⟨rfl, rfl⟩
/-- what is left of so much: -1 if it does not suffice -/
def SzR (ll : List (List Pi)) (left : Int) (w : World) (e : Ending) (w' : World) : Prop := ∃ x : Int, e = .returned (.int .i64 x) ∧ (x = -1 ∨ (0 ≤ x ∧ x + (ll.length : Int) + (totP ll ll.length : Int) = left)) ∧ Below w.heap.size w w'
set_option maxRecDepth 20000 in
set_option maxHeartbeats 4000000 in
theorem szPP_any (A : Option Addr) (n c : Nat) (ll : List (List Pi)) (left : Int) (w : World) (hn : ll.length = n) (hm : n ≤ 9223372036854775807) (h0 : 0 ≤ left) (h1 : left ≤ 1048576) (h : RowPP w w.heap.size A ll) :
    Calls Try.prog 10 #[.slice A n c, .int .i64 left] w (SzR ll left w) := by
  subst hn
  have i1 := IntWalk.i64_in (left - (ll.length : Int)) (by omega)
  by_cases hs : left < (ll.length : Int)
  · have h2 : left - (ll.length : Int) < 0 := by omega
    go_enter Try.func10, Try.ntmps10
    go_wp2
    go_ret
    exact ⟨-1, rfl, .inl rfl, bel_refl _⟩
  · have h2 : ¬ left - (ll.length : Int) < 0 := by omega
    go_enter Try.func10, Try.ntmps10
    go_wp2
    obtain ⟨left', hl'⟩ : ∃ z, left - (ll.length : Int) = z := ⟨_, rfl⟩
    rw [hl']
    have HL := Lib.hid hl'
    have hl0 : 0 ≤ left' := by omega
    clear hl' i1 h2
    go_loopw [1, 5] (fun x i wr => ∃ (k : Nat) (y : Int), k ≤ ll.length ∧ i = .int .i64 k ∧ x = .int .i64 y ∧ 0 ≤ y ∧ Hid (y + (totP ll k : Int) = left') ∧ y ≤ 1048576 ∧ Below w.heap.size w wr) (fun _ i _ => ll.length - (intOf i).toNat)
    case atStart => exact ⟨0, left', Nat.zero_le _, rfl, rfl, hl0, by show _ = _; simp [totP], by have := HL.out; omega, bel_refl _⟩
    case round =>
      obtain ⟨k, y, hk, rfl, rfl, hy0, HY, hy1, hb⟩ := hrel
      by_cases hlt : k < ll.length
      · obtain ⟨b, off, rfl, hlb, hc⟩ := (h.below hb) (by omega)
        obtain ⟨Ai, ci, c1, c2, c3, _⟩ := hc k hlt
        have hkl : (k : Int) < (ll.length : Int) := by omega
        have hk0 : (0 : Int) ≤ (k : Int) := by omega
        unfold maxLen at c3
        have HT := Lib.hid (show totP ll (k + 1) = totP ll k + (atPP ll k).length from rfl)
        clear hc
        obtain ⟨m, hmm⟩ : ∃ m, (atPP ll k).length = m := ⟨_, rfl⟩
        rw [hmm] at c1 c2 HT
        clear hmm
        go_wp2_with fail
        refine (szS_any _ _ _ _ _ (by omega) hy0 hy1).mono ?_
        rintro e1 w1 ⟨he, rfl⟩
        by_cases hz : y < (m : Int)
        · rw [if_pos hz] at he
          subst he
          go_wp2
          go_ret
          exact ⟨-1, rfl, .inl rfl, hb⟩
        · rw [if_neg hz] at he
          subst he
          have hz2 : ¬ y - (m : Int) < 0 := by omega
          have HY2 := Lib.hid (show y - (m : Int) + (totP ll (k + 1) : Int) = left' from by rw [HT.out, ← HY.out]; push_cast; omega)
          go_wp2
          go_roundw
          case rel => exact ⟨k + 1, y - m, by omega, by go_num, rfl, by omega, HY2.out, by omega, hb⟩
          case measure => simp [intOf]; omega
      · obtain rfl : k = ll.length := by omega
        go_wp2
        go_ret
        exact ⟨y, rfl, .inr ⟨hy0, by have := HY.out; have := HL.out; omega⟩, hb⟩
theorem infoLP : (Try.prog.info? 37).map (fun i => (i.zero, i.size, i.bytes)) = some (some (.slice none 0 0), 1, 24) := by kernel_rfl
theorem run_makePP (n : Nat) (h : n ≤ 2000000) (w : World) :
    (Instr.makeSlice 26 (.int .i64 (n : Int)) (.int .i64 (n : Int))).run Try.prog w = .ok (.slice (some ⟨w.heap.size, 0, none⟩) n n) (w.alloc (.cells (madeCells #[.slice none 0 0] (n * 1)) 37)) := by
  obtain ⟨i, hi, hz, hs, hb⟩ := info_parts infoLP
  have hr := run_make (P := Try.prog) w 26 37 i _ Try.underlying26 hi hz .i64 .i64 n n (by omega) (by omega) (by rw [hb]; omega) (by omega)
  simp only [Int.toNat_natCast, hs] at hr
  exact hr
def ToPP (w : World) (ll : List (List Pi)) (e : Ending) (w' : World) : Prop :=
  ∃ A, e = .returned (.slice A ll.length ll.length) ∧ RowPP w' w'.heap.size A ll ∧ OwnPP w' w.heap.size A ll ∧ Below w.heap.size w w'
set_option maxRecDepth 20000 in
set_option maxHeartbeats 4000000 in
theorem toSPP_any (A : Option Addr) (n c : Nat) (ll : List (List Pi)) (w : World) (hn : ll.length = n) (hm : n ≤ 2000000) (hbg : ∀ i, i < ll.length → (atPP ll i).length ≤ 2000000) (h : RowPP w w.heap.size A ll) :
    Calls Try.prog 12 #[.slice A n c] w (ToPP w ll) := by
  subst hn
  have HBG := Lib.hid hbg
  clear hbg
  have hmk := run_makePP ll.length hm
  go_enter Try.func12, Try.ntmps12
  go_wp2
  go_loopw [4] (fun i wr => ∃ (k : Nat) (R : Nat → Option Addr), k ≤ ll.length ∧ i = .int .i64 k ∧ Below w.heap.size w wr ∧ PPs wr w.heap.size w.heap.size ll.length k ll R) (fun i _ => ll.length - (intOf i).toNat)
  case atStart => exact ⟨0, fun _ => none, Nat.zero_le _, rfl, bel_al (bel_refl _) _, ⟨⟨Nat.le_refl _, by simp⟩, fun o => by simp, fun o ho => by rw [World.cell?_alloc_new]; simp [size_madeCells]; omega, fun i hi => absurd hi (by omega), fun i hi => absurd hi (by omega), fun i j hij hj => absurd hj (by omega)⟩⟩
  case round =>
    obtain ⟨k, R, hk, rfl, hb, hP⟩ := hrel
    by_cases hlt : k < ll.length
    · obtain ⟨b, off, rfl, hlb, hc⟩ := h (by omega)
      obtain ⟨Ai, ci, c1, c2, c3, c4⟩ := hc k hlt
      have g1 := keep_tr c1 hb
      have gr := c4.below hb
      have hkl : (k : Int) < (ll.length : Int) := by omega
      have hk0 : (0 : Int) ≤ (k : Int) := by omega
      have hgl := hP.lt
      have HP := Lib.hid hP
      have hbk := HBG.out k hlt
      clear hc c1 hP
      go_wp2_with fail
      refine (toSPi_any _ _ _ (atPP ll k) _ rfl hbk gr).mono ?_
      rintro e1 w1 ⟨A1, rfl, r1, o1, b1⟩
      have hs1 := b1.size
      have hb1 := bel_tr hb b1
      have HN := Lib.hid (HP.out.step hlt b1 r1 o1)
      have f1 : w1.frozen? ⟨w.heap.size, k, none⟩ = false := by rw [b1.frozen (p := ⟨w.heap.size, k, none⟩) (by simp only; omega)]; exact HP.out.fr k
      obtain ⟨o0, so0⟩ := Option.isSome_iff_exists.1 (HP.out.some' k hlt)
      have so1 := keep_tr so0 b1
      have hgl1 : w.heap.size < w1.heap.size := by omega
      clear so0 g1 gr r1 o1
      have HB1 := Lib.hid (bel_set hb1 (p := ⟨w.heap.size, k, none⟩) (Nat.le_refl _) (.slice A1 (atPP ll k).length (atPP ll k).length))
      go_wp2
      go_roundw
      case rel => exact ⟨k + 1, _, by omega, by go_num, HB1.out, HN.out⟩
      case measure => simp [intOf]; omega
    · obtain rfl : k = ll.length := by omega
      have HD := Lib.hid (hP.done (fun i hi => by have := HBG.out i hi; unfold maxLen; omega))
      clear hP
      go_wp2
      go_ret
      exact ⟨_, rfl, HD.out.row, HD.out, hb⟩
set_option maxRecDepth 20000 in
set_option maxHeartbeats 4000000 in
theorem eqSPP_same (A A' : Option Addr) (n c c' : Nat) (ll : List (List Pi)) (w : World) (hn : ll.length = n) (hm : n ≤ 2000000) (hbg : ∀ i, i < ll.length → (atPP ll i).length ≤ 2000000) (h : RowPP w w.heap.size A ll) (h' : RowPP w w.heap.size A' ll) :
    Calls Try.prog 15 #[.slice A n c, .slice A' n c'] w fun e w' => e = .returned (.bool true) ∧ Below w.heap.size w w' := by
  subst hn
  have HBG := Lib.hid hbg
  clear hbg
  go_enter Try.func15, Try.ntmps15
  go_wp2
  go_loopw [5] (fun i wr => ∃ k : Nat, k ≤ ll.length ∧ i = .int .i64 k ∧ Below w.heap.size w wr) (fun i _ => ll.length - (intOf i).toNat)
  case atStart => exact ⟨0, Nat.zero_le _, rfl, bel_refl _⟩
  case round =>
    obtain ⟨k, hk, rfl, hb⟩ := hrel
    by_cases hlt : k < ll.length
    · obtain ⟨b, off, rfl, hlb, hc⟩ := (h.below hb) (by omega)
      obtain ⟨b', off', rfl, hlb', hc'⟩ := (h'.below hb) (by omega)
      obtain ⟨Ai, ci, c1, c2, c3, c4⟩ := hc k hlt
      obtain ⟨Ai', ci', d1, d2, d3, d4⟩ := hc' k hlt
      have hbk := HBG.out k hlt
      have hkl : (k : Int) < (ll.length : Int) := by omega
      have hk0 : (0 : Int) ≤ (k : Int) := by omega
      clear hc hc'
      generalize atPP ll k = x at *
      have LE : ∀ xL : Later wr, Calls Try.prog 28 #[.slice Ai x.length ci, .slice Ai' x.length ci'] xL.world fun e w'' => e = .returned (.bool true) ∧ ∃ z : Later wr, w'' = z.world := fun xL => later_call (eqSPi_same Ai Ai' x.length ci ci' x xL.world rfl (by omega) (c4.below xL.bel) (d4.below xL.bel))
      go_wp2_with fail
      have lf0 : ∀ xL : Later wr, xL.world.cell? ⟨b, off + k, none⟩ = some (.slice Ai x.length ci) := fun xL => xL.at (c1)
      have lf1 : ∀ xL : Later wr, xL.world.cell? ⟨b', off' + k, none⟩ = some (.slice Ai' x.length ci') := fun xL => xL.at (d1)
      refine region_later (w0 := wr) (by kernel_rfl) (by kernel_rfl) (bel_refl _) ?_
      repeat (go_big_quiet_step ((first | (go_at_call 28; with_reducible exact LE _))))
      refine wpQuiet_nil ?_
      rintro w' ⟨x, rfl⟩
      obtain ⟨w5, b5⟩ := x
      clear lf0 lf1
      clear LE
      have hb5 := bel_tr hb b5
      clear c1 c4 d1 d4
      go_wp2
      go_roundw
      case rel => exact ⟨k + 1, by omega, by go_num, hb5⟩
      case measure => simp [intOf]; omega
    · obtain rfl : k = ll.length := by omega
      go_wp2
      go_ret
      exact ⟨rfl, hb⟩
set_option maxRecDepth 20000 in
set_option maxHeartbeats 4000000 in
theorem markSPP_any (A : Option Addr) (n c lo hi : Nat) (ll : List (List Pi)) (K : Int) (w : World) (hn : ll.length = n) (ht : totP ll ll.length ≤ 2000000) (h0 : 0 ≤ K) (h1 : K ≤ 50000000) (hm : n ≤ 2000000) (h : SLPP w lo hi A ll) :
    Calls Try.prog 16 #[.slice A n c, .int .i64 K] w fun e w' => e = .returned (.int .i64 (K + 3 * (totP ll ll.length : Int))) ∧ Wnd lo hi w w' ∧ RowPP w' w'.heap.size A (mkPPK ll K ll.length) := by
  subst hn
  go_enter Try.func16, Try.ntmps16
  go_wp2
  go_loopw [1, 5] (fun x i wr => ∃ (k : Nat) (y : Int), k ≤ ll.length ∧ i = .int .i64 k ∧ x = .int .i64 y ∧ Hid (y = K + 3 * (totP ll k : Int)) ∧ 0 ≤ y ∧ y ≤ 60000000 ∧ Wnd lo hi w wr ∧ SLPQ wr lo hi A (mkPPK ll K k) k) (fun _ i _ => ll.length - (intOf i).toNat)
  case atStart => exact ⟨0, K, Nat.zero_le _, rfl, rfl, by show _ = _; simp [totP], h0, by omega, Wnd.refl _ _ _, h⟩
  case round =>
    obtain ⟨k, y, hk, rfl, rfl, HY, hy0, hy1, hW, hS⟩ := hrel
    by_cases hlt : k < ll.length
    · have hlen := mkPPK_len ll K k
      obtain ⟨b, off, hA, _, _, R, hc, hap⟩ := hS.at' (by omega)
      obtain ⟨ci, c1, c2, c3, c4, c5⟩ := hc k (by omega)
      have hat : atPP (mkPPK ll K k) k = atPP ll k := by rw [mkPPK_at ll K k hk, if_neg (by omega)]
      have htg := totP_ge ll hlt
      have HS := Lib.hid hS
      have HC1 := Lib.hid c1
      have HA := Lib.hid hA
      rw [hat] at c1 c2 c5
      have hsl := c5 (Nat.le_refl _)
      have HT := Lib.hid (show totP ll (k + 1) = totP ll k + (atPP ll k).length from rfl)
      have HAT := Lib.hid hat
      have HW := Lib.hid hW
      have hn2 : (atPP ll k).length ≤ 2000000 := by omega
      have hkl : (k : Int) < (ll.length : Int) := by omega
      have hk0 : (0 : Int) ≤ (k : Int) := by omega
      generalize R k = Rk at *
      subst hA
      clear hc hap hS hat c4 c5 hW hlen
      go_wp2_with fail
      refine (markSPi_any Rk _ _ lo (atPP ll k) y _ rfl hn2 hy0 (by omega) hsl.row hsl.own).mono ?_
      rintro e1 w1 ⟨rfl, t1, r1⟩
      have HW1 := Lib.hid (HW.out.trn t1 (fun x h0 hx => hsl.place h0 hx))
      have HS1 := Lib.hid (HS.out.wrote (by rw [mkPPK_len]; exact hlt) rfl HC1.out (by rw [HAT.out]; exact t1) (l := mkLPi (atPP ll k).length (K + 3 * (totP ll k : Int))) (by rw [mkLPi_len, HAT.out]) (by rw [← HY.out]; exact r1))
      have HY1 := Lib.hid (show y + 3 * ((atPP ll k).length : Int) = K + 3 * (totP ll (k + 1) : Int) from by rw [HT.out, HY.out]; push_cast; omega)
      have htm := totP_mono ll (k + 1) ll.length (by omega)
      have hyb : y + 3 * ((atPP ll k).length : Int) ≤ 60000000 := by rw [HY1.out]; omega
      clear c1 hsl t1 r1
      go_wp2
      go_roundw
      case rel => exact ⟨k + 1, y + 3 * ((atPP ll k).length : Int), by omega, by go_num, rfl, HY1.out, by omega, hyb, HW1.out, HS1.out⟩
      case measure => simp [intOf]; omega
    · obtain rfl : k = ll.length := by omega
      have HR := Lib.hid hS.row
      have HW := Lib.hid hW
      clear hS hW
      go_wp2
      go_ret
      exact ⟨ret_int HY.out, HW.out, HR.out⟩
set_option maxRecDepth 20000 in
set_option maxHeartbeats 4000000 in
theorem heldSPP_any (A : Option Addr) (n c : Nat) (ll : List (List Pi)) (K : Int) (w : World) (hn : ll.length = n) (ht : totP ll ll.length ≤ 2000000) (h0 : 0 ≤ K) (h1 : K ≤ 50000000) (hm : n ≤ 2000000) (h : RowPP w w.heap.size A (mkPPK ll K ll.length)) :
    Calls Try.prog 35 #[.slice A n c, .int .i64 K] w fun e w' => e = .returned (.int .i64 (K + 3 * (totP ll ll.length : Int))) ∧ Below w.heap.size w w' := by
  subst hn
  go_enter Try.func35, Try.ntmps35
  go_wp2
  go_loopw [1, 5] (fun x i wr => ∃ (k : Nat) (y : Int), k ≤ ll.length ∧ i = .int .i64 k ∧ x = .int .i64 y ∧ Hid (y = K + 3 * (totP ll k : Int)) ∧ 0 ≤ y ∧ y ≤ 60000000 ∧ Below w.heap.size w wr) (fun _ i _ => ll.length - (intOf i).toNat)
  case atStart => exact ⟨0, K, Nat.zero_le _, rfl, rfl, by show _ = _; simp [totP], h0, by omega, bel_refl _⟩
  case round =>
    obtain ⟨k, y, hk, rfl, rfl, HY, hy0, hy1, hb⟩ := hrel
    by_cases hlt : k < ll.length
    · obtain ⟨b, off, rfl, hlb, hc⟩ := (h.below hb) (by rw [mkPPK_len]; omega)
      obtain ⟨ci, cc, c1, c2, c3, c4⟩ := hc k (by rw [mkPPK_len]; exact hlt)
      rw [mkPPK_at ll K _ (Nat.le_refl _), if_pos hlt, ← HY.out] at c1 c2 c4
      rw [mkLPi_len] at c1 c2
      have htg := totP_ge ll hlt
      have HT := Lib.hid (show totP ll (k + 1) = totP ll k + (atPP ll k).length from rfl)
      have htm := totP_mono ll (k + 1) ll.length (by omega)
      have HY1 := Lib.hid (show y + 3 * ((atPP ll k).length : Int) = K + 3 * (totP ll (k + 1) : Int) from by rw [HT.out, HY.out]; push_cast; omega)
      have hyb : y + 3 * ((atPP ll k).length : Int) ≤ 60000000 := by rw [HY1.out]; omega
      have hn2 : (atPP ll k).length ≤ 2000000 := by omega
      have hkl : (k : Int) < (ll.length : Int) := by omega
      have hk0 : (0 : Int) ≤ (k : Int) := by omega
      clear hc
      go_wp2_with fail
      refine (heldSPi_any _ (atPP ll k).length _ y _ hn2 hy0 (by omega) c4).mono ?_
      rintro e1 w1 ⟨rfl, b1⟩
      have hb1 := bel_tr hb b1
      have hnn : ¬ y + 3 * ((atPP ll k).length : Int) < 0 := by omega
      clear c1 c4 b1
      go_wp2
      go_roundw
      case rel => exact ⟨k + 1, y + 3 * ((atPP ll k).length : Int), by omega, by go_num, rfl, HY1.out, by omega, hyb, hb1⟩
      case measure => simp [intOf]; omega
    · obtain rfl : k = ll.length := by omega
      go_wp2
      go_ret
      exact ⟨ret_int HY.out, hb⟩
end Go.Proofs.Ytpjakgnghpapmaa
