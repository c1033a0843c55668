/- The generator of cantus: a key and a list of one to six pitches, whatever they are. -/
import Derived.Test.YtdmidimjbhkjoaaBa
import Derived.Test.YtdmidimjbhkjoaaPiO
import Derived.Test.YtdmidimjbhkjoaaBp
import Derived.Deep.AppendLies
namespace Go.Proofs.Ytdmidimjbhkjoaa
set_option linter.unusedSimpArgs false
set_option linter.unusedVariables false
open Go.RowKit

set_option maxHeartbeats 1000000 in
theorem ska_any (f s : Int) (w : World) : Calls Try.prog 31 #[.int .i64 f, .int .i64 s] w fun e w' => e = .returned (.int .i64 (kaI f s)) ∧ Below w.heap.size w w' := by
  by_cases h : (-7 ≤ f ∧ f ≤ 7) ∧ 0 ≤ s ∧ s ≤ 6
  · refine intw_to (v := alI f s) (by unfold kaI; rw [if_pos h]) ?_
    obtain ⟨⟨f0, f1⟩, s0, s1⟩ := h
    go_enter Try.func31, Try.ntmps31
    go_wp2_with (first | (go_at_call 37; refine (swin_yes _ _ _ _ (by omega) (by omega)).mono ?_; rintro e w' ⟨rfl, rfl⟩) | (go_at_call 37; refine (swin_no _ _ _ _ (by omega)).mono ?_; rintro e w' ⟨rfl, rfl⟩) | (go_at_call 51; refine (sal_any _ _ _ (by omega) (by omega) (by omega) (by omega)).mono ?_; rintro e w' ⟨rfl, bw⟩))
    go_ret
    exact ⟨rfl, by repeat (first | (with_reducible assumption) | (exact bel_undr (by with_reducible assumption)) | (with_reducible exact bel_refl _) | (with_reducible refine bel_dr ?_) | (with_reducible refine bel_drN ?_ _) | (with_reducible refine bel_al ?_ _) | (refine bel_set ?_ (by first | (simp; done) | (simp; exact Below.size (by assumption)) | (simp; omega)) _) | (with_reducible refine bel_tr ?_ (by assumption)))⟩
  · refine intw_to (v := 0) (by unfold kaI; rw [if_neg h]) ?_
    rcases (show (f < -7 ∨ 7 < f) ∨ ((-7 ≤ f ∧ f ≤ 7) ∧ (s < 0 ∨ 6 < s)) from by omega) with h1 | ⟨⟨h1, h2⟩, h3⟩
    · go_enter Try.func31, Try.ntmps31
      go_wp2_with (first | (go_at_call 37; refine (swin_yes _ _ _ _ (by omega) (by omega)).mono ?_; rintro e w' ⟨rfl, rfl⟩) | (go_at_call 37; refine (swin_no _ _ _ _ (by omega)).mono ?_; rintro e w' ⟨rfl, rfl⟩) | (go_at_call 51; refine (sal_any _ _ _ (by omega) (by omega) (by omega) (by omega)).mono ?_; rintro e w' ⟨rfl, bw⟩))
      go_ret
      exact ⟨rfl, by repeat (first | (with_reducible assumption) | (exact bel_undr (by with_reducible assumption)) | (with_reducible exact bel_refl _) | (with_reducible refine bel_dr ?_) | (with_reducible refine bel_drN ?_ _) | (with_reducible refine bel_al ?_ _) | (refine bel_set ?_ (by first | (simp; done) | (simp; exact Below.size (by assumption)) | (simp; omega)) _) | (with_reducible refine bel_tr ?_ (by assumption)))⟩
    · go_enter Try.func31, Try.ntmps31
      go_wp2_with (first | (go_at_call 37; refine (swin_yes _ _ _ _ (by omega) (by omega)).mono ?_; rintro e w' ⟨rfl, rfl⟩) | (go_at_call 37; refine (swin_no _ _ _ _ (by omega)).mono ?_; rintro e w' ⟨rfl, rfl⟩) | (go_at_call 51; refine (sal_any _ _ _ (by omega) (by omega) (by omega) (by omega)).mono ?_; rintro e w' ⟨rfl, bw⟩))
      go_ret
      exact ⟨rfl, by repeat (first | (with_reducible assumption) | (exact bel_undr (by with_reducible assumption)) | (with_reducible exact bel_refl _) | (with_reducible refine bel_dr ?_) | (with_reducible refine bel_drN ?_ _) | (with_reducible refine bel_al ?_ _) | (refine bel_set ?_ (by first | (simp; done) | (simp; exact Below.size (by assumption)) | (simp; omega)) _) | (with_reducible refine bel_tr ?_ (by assumption)))⟩
/-- what the generator leaves -/
def Ctu (w : World) (g B p : Nat) (A : Option Addr) (len cap : Nat) (e : Ending) (w' : World) : Prop :=
  ∃ (f : Int) (v : Value) (l : List Pi), e = .returned (.tuple #[.int .i64 f, v]) ∧ 1 ≤ l.length ∧ l.length ≤ 6 ∧ w'.ownsRow w.heap.size 30 3 v l.length (flat csPi l) ∧ Onb g w w' ∧ ∃ p', p' ≤ p + 20 ∧ Rd w' g B A len cap p'
set_option maxHeartbeats 8000000 in
theorem cantus_any (w : World) (g B p : Nat) (A : Option Addr) (len cap : Nat) (m : Int) (h : Rd w g B A len cap p) (hp : p < 900000) :
    Calls Try.prog 29 #[.pointer (some ⟨g, 0, none⟩), .int .i64 m] w (Ctu w g B p A len cap) := by
  have hg := h.gl
  obtain ⟨i0, hi0, hz0, hz1, hz2⟩ := info_parts infoPi
  go_enter Try.func29, Try.ntmps29
  go_wp2_with fail
  refine (pick_fr _ _ _ _ _ _ _ _ h (by omega)).mono ?_
  rintro e w1 ⟨u, rfl, ⟨u0, u1, _⟩, o1, r1⟩
  have u1 := u1 (by omega)
  have k1 : Onb g w w1 := Onb.of_onl o1
  have hw1 : w.heap.size ≤ w1.heap.size := k1.size
  have hg1 := r1.gl
  clear o1
  go_wp2_with fail
  refine (pick_fr _ _ _ _ _ _ _ _ (r1.alloc _) (by omega)).mono ?_
  rintro e w2 ⟨v, rfl, ⟨v0, v1, _⟩, o2, r2⟩
  have v1 := v1 (by omega)
  have own2 : w2.ownsRow w.heap.size 30 3 (.slice (some ⟨w1.heap.size, 0, none⟩) 0 0) ([] : List Pi).length (flat csPi []) :=
    own_onl (World.ownsRow_lit w1 #[] 0 hw1 (by simp [maxLen]) rfl) o2 hg
  have k2 : Onb g w w2 := (k1.alloc _).trans (Onb.of_onl o2)
  clear o2 k1 r1
  go_wp2
  go_loopw [7, 8, 9] (fun o i _ wr => ∃ (l : List Pi) (k p' : Nat), l.length + k ≤ 6 ∧ 2 ≤ l.length + k ∧ p' ≤ p + 2 + l.length ∧ i = .int .i64 k ∧ wr.ownsRow w.heap.size 30 3 o l.length (flat csPi l) ∧ Onb g w wr ∧ Rd wr g B A len cap p') (fun _ i _ _ => (intOf i).toNat)
  case atStart => exact ⟨[], (2 + v).toNat, p + 2, by simp; omega, by simp; omega, by simp, by go_num, own2, k2, r2⟩
  case round =>
    obtain ⟨l, k, p', hl6, hl2, hp', rfl, hown, hk, hr⟩ := hrel
    clear own2 k2 r2
    by_cases hlt : 0 < k
    · have hlt1 : (0 : Int) < (k : Int) := by omega
      go_wp2_with fail
      refine (pick_fr _ _ _ _ _ _ _ _ hr (by omega)).mono ?_
      rintro e w3 ⟨s, rfl, ⟨s0, s1, _⟩, o3, r3⟩
      have s1 := s1 (by omega)
      have hown3 := own_onl hown o3 hg
      have k3 := hk.trans (Onb.of_onl o3)
      clear hown hk hr o3
      go_wp2_with fail
      refine (ska_any _ _ _).mono ?_
      rintro e w4 ⟨rfl, b4⟩
      generalize kaI (u - 3) s = a at *
      have hown4 := own_below hown3 b4
      have k4 := k3.trans (Onb.of_bel b4)
      have r4 := r3.below b4
      have hw4 := k4.size
      clear hown3 k3 r3 b4
      go_wp2_with (at_builtin; go_must (refine wpList_append_lies _ rfl _ _ 23 rfl w.heap.size 30 i0 _ 3 24 Try.underlying23 hi0 hz0 hz1 hz2 rfl (by omega) _ l.length (flat csPi l) rfl (hown4.alloc _) ⟨w4.heap.size, 0, none⟩ 1 1 [.int .i64 s, .int .i64 a, .int .i64 4] rfl rfl (World.news_of_block (cs := #[.int .i64 s, .int .i64 a, .int .i64 4]) (t := 30) (fr := (0, 0)) (heap_alloc_new w4 _)) (by simp [Value.oneCell']) (by omega) (by unfold maxLen; omega) (by omega) (by simp; omega) _ rfl ?_; intro gg9 cp9 w9 hown9 hgrow9 hat9 hlt9))
      have hr9 := (r4.alloc (.cells #[.int .i64 s, .int .i64 a, .int .i64 4] 30)).grown hgrow9 (own_gt hown4 hg)
      have hk9 := (k4.alloc (.cells #[.int .i64 s, .int .i64 a, .int .i64 4] 30)).grown hgrow9 (own_ge hown4)
      go_roundw
      case rel => exact ⟨l ++ [⟨s, a, 4⟩], k - 1, p' + 1, by simp; omega, by simp; omega, by simp; omega, by go_num, own_push (t := (⟨s, a, 4⟩ : Pi)) hown9 rfl, hk9, hr9⟩
      case measure => simp [intOf]; omega
    · obtain rfl : k = 0 := by omega
      go_wp2_with fail
      refine (odd_any _ _ _ _ _ _ _ _ hr (by omega)).mono ?_
      rintro e w2 ⟨b, rfl, _, o2, p2, hp2, r2⟩
      have hown2 := own_onl hown o2 hg
      have k2 := hk.trans (Onb.of_onl o2)
      clear hown hk hr o2
      cases b
      · go_wp2
        go_ret2
        exact ⟨_, _, l, rfl, by omega, by omega, hown2, k2, p2, by omega, r2⟩
      · go_wp2_with fail
        refine (pick_fr _ _ _ _ _ _ _ _ r2 (by omega)).mono ?_
        rintro e w3 ⟨x, rfl, ⟨x0, x1, _⟩, o3, r3⟩
        have x1 := x1 (by omega)
        have hown3 := own_onl hown2 o3 hg
        have k3 := k2.trans (Onb.of_onl o3)
        clear hown2 k2 r2 o3
        obtain ⟨A3, c3, rfl, lc3, cm3, op3⟩ := own_open csPi_len ⟨0, 0, 0⟩ hown3
        obtain ⟨gg, rfl, gb, gl, gf, gc⟩ := op3 (by omega)
        obtain ⟨y, hy⟩ : ∃ y, l.getD 0 ⟨0, 0, 0⟩ = y := ⟨_, rfl⟩
        obtain ⟨s0, a0, o0⟩ := y
        have g1 : w3.cell? ⟨gg, 1, none⟩ = some (.int .i64 a0) := by have hh := gc 0 1 (by omega) (by omega); rw [hy] at hh; simpa [csPi] using hh
        have HY := Lib.hid hy
        clear hy
        have f1 := gf 1
        have hl0 : (0 : Int) < (l.length : Int) := by omega
        have hl1 : (1 : Int) ≤ (l.length : Int) := by omega
        have hc1 : (1 : Int) ≤ (c3 : Int) := by omega
        clear gc gf op3
        rcases (show x = 0 ∨ x = 1 ∨ x = 2 from by omega) with rfl | rfl | rfl
        · have ht := own_take (k := 1) hown3 (by omega)
          rw [flat_take csPi_len] at ht
          have hl1' : (l.take 1).length = 1 := by rw [List.length_take]; omega
          go_wp2
          go_ret2
          exact ⟨_, _, l.take 1, rfl, by omega, by omega, by rw [hl1']; exact ht, k3, p2 + 1, by omega, r3⟩
        · go_wp2
          go_ret2
          exact ⟨_, _, l.set 0 ⟨s0, wrap64 (a0 + 1), o0⟩, rfl, by simp; omega, by simp; omega, own_stored csPi_len ⟨0, 0, 0⟩ hown3 0 1 (by omega) (by omega) _ _ (by rw [HY.out]; rfl), k3.set gb _, p2 + 1, by omega, r3.set (by have := r3.Bg; simp only; omega) (by simp only; omega) _⟩
        · go_wp2
          go_ret2
          exact ⟨_, _, l, rfl, by omega, by omega, hown3, k3, p2 + 1, by omega, r3⟩
/-- a key and a cantus that were drawn -/
def DrCv (w : World) (e : Ending) (w' : World) : Prop := ∃ (f : Int) (A : Option Addr) (cap : Nat) (l : List Pi), e = .returned (.tuple #[.int .i64 f, .slice A l.length cap]) ∧ l.length ≤ cap ∧ cap ≤ maxLen ∧ l.length ≤ 6 ∧ RowPi w' w'.heap.size A l ∧ Below w.heap.size w w'
end Go.Proofs.Ytdmidimjbhkjoaa
