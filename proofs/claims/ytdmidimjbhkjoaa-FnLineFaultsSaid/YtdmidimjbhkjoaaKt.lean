/- The tones of a key within bounds, of the program and of the reference. -/
import Derived.Test.YtdmidimjbhkjoaaTnP
import Derived.Test.YtdmidimjbhkjoaaLfP
import Derived.Deep.AppendLies
import Derived.Deep.DeepCutAuto
namespace Go.Proofs.Ytdmidimjbhkjoaa
set_option linter.unusedSimpArgs false
set_option linter.unusedVariables false
open Go.RowKit

/-- a new slice that reads as L -/
def PiR (w : World) (L : List Pi) (e : Ending) (w' : World) : Prop :=
  ∃ v, e = .returned v ∧ w'.ownsRow w.heap.size 30 3 v L.length (flat csPi L) ∧ Below w.heap.size w w'
theorem inB_no {lo hi y : Int} (h : ¬ inB lo hi y) : y < lo ∨ hi < y := by
  by_cases h1 : lo ≤ y
  · exact .inr (by have : ¬ y ≤ hi := fun h2 => h ⟨h1, h2⟩
                   omega)
  · exact .inl (by omega)
set_option maxRecDepth 20000 in
set_option maxHeartbeats 4000000 in
theorem skt_any (f lo hi : Int) (w : World) (f0 : -7 ≤ f) (f1 : f ≤ 7) (h0 : 0 ≤ lo) (h1 : lo ≤ hi) (h2 : hi ≤ 107) :
    Calls Try.prog 54 #[.int .i64 f, .int .i64 lo, .int .i64 hi] w (PiR w (tns f lo hi)) := by
  obtain ⟨i0, hi0, hz0, hz1, hz2⟩ := info_parts infoPi
  have own0 : (w.alloc (.cells #[] 30)).ownsRow w.heap.size 30 3 (.slice (some ⟨w.heap.size, 0, none⟩) 0 0) ([] : List Pi).length (flat csPi []) := World.ownsRow_lit w #[] 0 (Nat.le_refl _) (by simp [maxLen]) rfl
  have b0 : Below w.heap.size w (w.alloc (.cells #[] 30)) := bel_al (bel_refl w) _
  go_enter Try.func54, Try.ntmps54
  go_wp2
  go_loopw [7, 8, 9, 10] (fun o h _ _ wr => ∃ y : Int, lo ≤ y ∧ y ≤ hi + 1 ∧ h = .int .i64 y ∧ wr.ownsRow w.heap.size 30 3 o (tns f lo (y - 1)).length (flat csPi (tns f lo (y - 1))) ∧ Below w.heap.size w wr) (fun _ h _ _ _ => (hi + 1 - intOf h).toNat)
  case atStart => exact ⟨lo, by omega, by omega, rfl, by rw [tns_none (show lo - 1 < lo from by omega)]; exact own0, b0⟩
  case round =>
    obtain ⟨y, hy0, hy1, rfl, hown, hb⟩ := hrel
    clear own0 b0
    by_cases hle : y ≤ hi
    · obtain ⟨B, hB⟩ : ∃ B, tns f lo (y - 1) = B := ⟨_, rfl⟩
      rw [hB] at hown
      have hBn : B.length ≤ 63 := by rw [← hB]; exact tns_len _ _ _
      have HB := Lib.hid hB
      clear hB
      have h0 := hown
      have hb0 := hb
      have hyw : IntKind.i64.wrap (y + 1) = y + 1 := IntWalk.i64_in _ (by omega)
      clear hown hb
      obtain ⟨wo, hwo⟩ : ∃ wo : World, wo = wr := ⟨_, rfl⟩
      subst hwo
      go_wp2
      go_loopw [7, 9, 10] (fun o i _ wr => ∃ k : Nat, k ≤ 63 ∧ i = .int .i64 k ∧ wr.ownsRow w.heap.size 30 3 o (B ++ eqK f y k).length (flat csPi (B ++ eqK f y k)) ∧ Below w.heap.size w wr) (fun _ i _ _ => 63 - (intOf i).toNat)
      case atStart => exact ⟨0, Nat.zero_le _, rfl, by rw [show B ++ eqK f y 0 = B from List.append_nil _]; exact h0, hb0⟩
      case round =>
        obtain ⟨k, hk, rfl, hown, hb⟩ := hrel
        clear h0 hb0
        by_cases hlt : k < 63
        · have hkl : (k : Int) < 63 := by omega
          have hk0 : (0 : Int) ≤ (k : Int) := by omega
          have hm0 : (0 : Int) ≤ (k : Int) % 7 := by omega
          have hm1 : (k : Int) % 7 ≤ 6 := by omega
          have hln := eqK_len (f := f) (h := y) k
          obtain ⟨p, hp⟩ : ∃ p, kpP f k = p := ⟨_, rfl⟩
          obtain ⟨x, hx⟩ : ∃ x, kyP p = x := ⟨_, rfl⟩
          obtain ⟨L, hLe⟩ : ∃ L, B ++ eqK f y k = L := ⟨_, rfl⟩
          rw [hLe] at hown
          have hLn : L.length ≤ 126 := by rw [← hLe, List.length_append]; omega
          have hyp : pkI p.step p.alter p.octave = x := hx
          have e1 : (k : Int) % 7 = p.step := by rw [← hp]; rfl
          have e2 : alI f p.step = p.alter := by rw [← hp]; rfl
          have e3 : (k : Int) / 7 = p.octave := by rw [← hp]; rfl
          rw [e1] at hm0 hm1
          have HP := Lib.hid hp
          have HY := Lib.hid hx
          have HYP := Lib.hid hyp
          have HLE := Lib.hid hLe
          have HE2 := Lib.hid e2
          clear hp hx hyp hLe e2
          clear hln
          have hs4 := hb.size
          go_wp2_with fail
          refine (sal_val HE2.out _ hm0 hm1 (by omega) (by omega)).mono ?_
          rintro e3 w3 ⟨rfl, b3⟩
          have hownX := own_below hown b3
          have hbX := bel_tr hb b3
          clear b3 hown
          go_upto_region 9 with fail
          have bX : Blk (w3.alloc (.cells #[.int .i64 p.step, .int .i64 p.alter, .int .i64 p.octave] 30)) w3.heap.size #[.int .i64 p.step, .int .i64 p.alter, .int .i64 p.octave] 30 := Blk.new w3 _ _
          have hbl := bel_al (bel_refl w3) (.cells #[.int .i64 p.step, .int .i64 p.alter, .int .i64 p.octave] 30)
          replace hownX := own_below hownX hbl
          replace hbX := bel_tr hbX hbl
          clear hbl
          generalize (w3.alloc (.cells #[.int .i64 p.step, .int .i64 p.alter, .int .i64 p.octave] 30)) = w4 at *
          generalize w3.heap.size = X at *
          clear e1 e3
          have m0 : w4.cell? ⟨X, 0, none⟩ = some (.int .i64 p.step) := by rw [Blk.cell bX]; rfl
          have m1 : w4.cell? ⟨X, 1, none⟩ = some (.int .i64 p.alter) := by rw [Blk.cell bX]; rfl
          have m2 : w4.cell? ⟨X, 2, none⟩ = some (.int .i64 p.octave) := by rw [Blk.cell bX]; rfl
          go_wp2_with fail
          refine (spk_val HYP.out _).mono ?_
          rintro e5 w5 ⟨rfl, b5⟩
          clear m0 m1 m2
          replace bX := bX.below b5
          replace hownX := own_below hownX b5
          replace hbX := bel_tr hbX b5
          clear b5
          by_cases hin : x = y
          · have hyx := hin.symm
            subst hyx
            have m0 : w5.cell? ⟨X, 0, none⟩ = some (.int .i64 p.step) := by rw [Blk.cell bX]; rfl
            have m1 : w5.cell? ⟨X, 1, none⟩ = some (.int .i64 p.alter) := by rw [Blk.cell bX]; rfl
            have m2 : w5.cell? ⟨X, 2, none⟩ = some (.int .i64 p.octave) := by rw [Blk.cell bX]; rfl
            have hs5 := hbX.size
            go_wp2_with (at_builtin; go_must (refine wpList_append_lies _ rfl _ _ 23 rfl w.heap.size 30 i0 _ 3 24 Try.underlying23 hi0 hz0 hz1 hz2 rfl (by omega) _ L.length (flat csPi L) rfl (hownX.alloc _) ⟨w5.heap.size, 0, none⟩ 1 1 [.int .i64 p.step, .int .i64 p.alter, .int .i64 p.octave] rfl rfl (World.news_of_block (cs := #[.int .i64 p.step, .int .i64 p.alter, .int .i64 p.octave]) (t := 30) (fr := (0, 0)) (heap_alloc_new w5 _)) (by simp [Value.oneCell']) (by omega) (by unfold maxLen; omega) (by omega) (by simp; omega) _ rfl ?_; intro gg9 cp9 w9 hown9 hgrow9 hat9 hlt9))
            have hbZ : Below w.heap.size w w9 := bel_grown (bel_al hbX (.cells #[.int .i64 p.step, .int .i64 p.alter, .int .i64 p.octave] 30)) hgrow9 (fun k hk => by have := own_ge hownX k hk; omega)
            have hqq := own_push (t := (p : Pi)) hown9 rfl
            go_wp2
            go_roundw
            case rel => exact ⟨k + 1, by omega, by go_num, by rw [show B ++ eqK f y (k + 1) = L ++ [p] from by rw [eqK, HP.out, HY.out, if_pos rfl, ← List.append_assoc, HLE.out]]; exact hqq, hbZ⟩
            case measure => simp [intOf]; omega
          · have HIN := Lib.hid hin
            have hib : (x == y) = false := by simpa using hin
            clear hin
            go_wp2
            go_roundw
            case rel => exact ⟨k + 1, by omega, by go_num, by rw [show B ++ eqK f y (k + 1) = L from by rw [eqK, HP.out, HY.out, if_neg HIN.out, HLE.out]]; exact hownX, hbX⟩
            case measure => simp [intOf]; omega
        · have hkl : k = 63 := by omega
          subst hkl
          go_wp2
          go_roundw
          case rel => exact ⟨y + 1, by omega, by omega, rfl, by rw [show tns f lo (y + 1 - 1) = B ++ eqK f y 63 from by rw [show y + 1 - 1 = y from by omega, tns_next (by omega), HB.out]]; exact hown, hb⟩
          case measure => simp [intOf]; omega
    · have hy : y = hi + 1 := by omega
      have e : y - 1 = hi := by omega
      rw [e] at hown
      clear e hy
      go_wp2
      go_ret
      exact ⟨_, rfl, hown, hb⟩
end Go.Proofs.Ytdmidimjbhkjoaa
