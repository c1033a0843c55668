/- The chord on the fifth degree, as the draws ask for it; a key, a voice and a head, drawn for the law of TonalAnswer. -/
import Derived.Test.YtacbkmahofmbcaaDrF
import Derived.Test.YtacbkmahofmbcaaDrV
import Derived.Test.YtacbkmahofmbcaaDeg
import Derived.Test.YtacbkmahofmbcaaPiO
import Derived.Test.YtacbkmahofmbcaaAlive
import Derived.Deep.AppendLies
namespace Go.Proofs.Ytacbkmahofmbcaa
set_option linter.unusedSimpArgs false
set_option linter.unusedVariables false
open Go.RowKit

def ChR (w : World) (e : Ending) (w' : World) : Prop := ∃ (v : Value) (l : List Pi), e = .returned v ∧ l.length = 3 ∧ w'.ownsRow w.heap.size 31 3 v l.length (flat csPi l) ∧ Below w.heap.size w w'
set_option maxRecDepth 20000 in
set_option maxHeartbeats 4000000 in
theorem sch_any (f : Int) (m : Bool) (w : World) (f0 : -7 ≤ f) (f1 : f ≤ 7) :
    Calls Try.prog 25 #[.int .i64 f, .bool m, .int .i64 4, .bool false] w (ChR w) := by
  obtain ⟨i0, hi0, hz0, hz1, hz2⟩ := info_parts infoPi
  go_enter Try.func25, Try.ntmps25
  go_wp2_with fail
  have own0 : (w.alloc (.cells #[] 31)).ownsRow w.heap.size 31 3 (.slice (some ⟨w.heap.size, 0, none⟩) 0 0) ([] : List Pi).length (flat csPi []) := World.ownsRow_lit w #[] 0 (Nat.le_refl _) (by simp [maxLen]) rfl
  have b0 : Below w.heap.size w (w.alloc (.cells #[] 31)) := bel_al (bel_refl w) _
  generalize (w.alloc (.cells #[] 31)) = w0 at *
  refine (swin_yes f (-7) 7 _ f0 f1).mono ?_
  rintro e w1 ⟨rfl, rfl⟩
  go_wp2_with fail
  refine (swin_yes 4 0 6 _ (by omega) (by omega)).mono ?_
  rintro e w1 ⟨rfl, rfl⟩
  go_wp2
  go_loopw [9, 11, 12] (fun o i _ wr => ∃ (K : Int) (acc : List Pi), i = .int .i64 K ∧ 0 ≤ K ∧ K ≤ 6 ∧ K = 2 * (acc.length : Int) ∧ wr.ownsRow w.heap.size 31 3 o acc.length (flat csPi acc) ∧ Below w.heap.size w wr) (fun _ i _ _ => (6 - intOf i).toNat)
  case atStart => exact ⟨0, [], rfl, by omega, by omega, rfl, own0, b0⟩
  case round =>
    obtain ⟨K, acc, rfl, k0, k6, hka, hown, hb⟩ := hrel
    clear own0 b0
    have HKA := Lib.hid hka
    have hal : acc.length ≤ 3 := by omega
    clear hka
    by_cases hlt : K ≤ 4
    · have htb := tonI_bd f m
      obtain ⟨T, hT⟩ : ∃ T, tonI f m = T := ⟨_, rfl⟩
      rw [hT] at htb
      have HT := Lib.hid hT
      clear hT
      obtain ⟨t0, t1⟩ := htb
      go_wp2_with fail
      refine (ston_any f m _ f0 f1).mono ?_
      rintro e w1 ⟨he, rfl⟩
      rw [HT.out] at he
      subst he
      go_upto_region 11 with fail
      have P0 : 0 ≤ 28 + T + 4 + K := by omega
      have P1 : 28 + T + 4 + K ≤ 50 := by omega
      generalize 28 + T + 4 + K = P at *
      have q0 : 0 ≤ P % 7 := by omega
      have q1 : P % 7 ≤ 6 := by omega
      obtain ⟨Q, hQ⟩ : ∃ Q, P % 7 = Q := ⟨_, rfl⟩
      rw [hQ] at q0 q1
      obtain ⟨D, hD⟩ : ∃ D, P / 7 = D := ⟨_, rfl⟩
      obtain ⟨a, ha⟩ : ∃ a, alI f Q = a := ⟨_, rfl⟩
      have HA := Lib.hid ha
      clear ha
      go_wp2_with fail
      refine (sal_val HA.out _ q0 q1 (by omega) (by omega)).mono ?_
      rintro e w2 ⟨rfl, b2⟩
      replace hown := own_below hown b2
      replace hb := bel_tr hb b2
      have hs2 := hb.size
      clear b2
      go_wp2_with (at_builtin; go_must (refine wpList_append_lies _ rfl _ _ 53 rfl w.heap.size 31 i0 _ 3 24 Try.underlying53 hi0 hz0 hz1 hz2 rfl (by omega) _ acc.length (flat csPi acc) rfl (hown.alloc _) ⟨w2.heap.size, 0, none⟩ 1 1 [.int .i64 Q, .int .i64 a, .int .i64 D] rfl rfl (World.news_of_block (cs := #[.int .i64 Q, .int .i64 a, .int .i64 D]) (t := 31) (fr := (0, 0)) (heap_alloc_new w2 _)) (by simp [Value.oneCell']) (by omega) (by unfold maxLen; omega) (by omega) (by simp; omega) _ rfl ?_; intro gg9 cp9 w9 hown9 hgrow9 hat9 hlt9))
      have hbZ : Below w.heap.size w w9 := bel_grown (bel_al hb (.cells #[.int .i64 Q, .int .i64 a, .int .i64 D] 31)) hgrow9 (fun k hk => by have := own_ge hown k hk; omega)
      have hqq := own_push (t := (⟨Q, a, D⟩ : Pi)) hown9 rfl
      have HLN := Lib.hid (show K + 2 = 2 * ((acc ++ [(⟨Q, a, D⟩ : Pi)]).length : Int) from by rw [HKA.out, List.length_append, List.length_singleton]; omega)
      go_wp2
      go_roundw
      case rel => exact ⟨K + 2, acc ++ [⟨Q, a, D⟩], rfl, by omega, by omega, HLN.out, hqq, hbZ⟩
      case measure => simp [intOf]; omega
    · have hK : K = 6 := by have := HKA.out; omega
      have hL3 : Hid (acc.length = 3) := Lib.hid (by have := HKA.out; omega)
      go_wp2
      go_ret
      exact ⟨_, acc, rfl, hL3.out, hown, hb⟩
theorem own_set1N {w : World} {base : Nat} {e : TypeId} {g cap n : Nat} {l : List Nt} (h : w.ownsRow base e 6 (.slice (some ⟨g, 0, none⟩) n cap) n (flat csNt l)) (hn : l.length = n) (i j : Nat) (hi : i < n) (hj : j < 6) (t : Nt) (u : Value) (ht : csNt t = (csNt (l.getD i dNt)).set j u) :
    (w.setCell ⟨g, i * 6 + j, none⟩ u).ownsRow base e 6 (.slice (some ⟨g, 0, none⟩) n cap) n (flat csNt (l.set i t)) := by
  subst hn
  have := own_stored csNt_len dNt h i j hi hj t u ht
  rwa [List.length_set] at this
theorem own_tone {w : World} {base : Nat} {e : TypeId} {g cap n : Nat} {l : List Nt} (h : w.ownsRow base e 6 (.slice (some ⟨g, 0, none⟩) n cap) n (flat csNt l)) (hn : l.length = n) (i : Nat) (hi : i < n) (s a o : Int) :
    ∃ l' : List Nt, l'.length = n ∧ (((w.setCell ⟨g, i * 6 + 1, none⟩ (.int .i64 s)).setCell ⟨g, i * 6 + 2, none⟩ (.int .i64 a)).setCell ⟨g, i * 6 + 3, none⟩ (.int .i64 o)).ownsRow base e 6 (.slice (some ⟨g, 0, none⟩) n cap) n (flat csNt l') := by
  have e0 : ∀ (x : Nt) (m : List Nt), i < m.length → (m.set i x).getD i dNt = x := fun x m hm => by rw [List.getD_eq_getElem?_getD, List.getElem?_set_self hm]; rfl
  obtain ⟨y, hy⟩ : ∃ y, l.getD i dNt = y := ⟨_, rfl⟩
  have h1 := own_set1N h hn i 1 hi (by decide) ⟨y.rest, s, y.alter, y.octave, y.ticks, y.tied⟩ (.int .i64 s) (by rw [hy]; rfl)
  have h2 := own_set1N h1 (by rw [List.length_set]; exact hn) i 2 hi (by decide) ⟨y.rest, s, a, y.octave, y.ticks, y.tied⟩ (.int .i64 a) (by rw [e0 _ _ (by omega)]; rfl)
  have h3 := own_set1N h2 (by simp only [List.length_set]; exact hn) i 3 hi (by decide) ⟨y.rest, s, a, o, y.ticks, y.tied⟩ (.int .i64 o) (by rw [e0 _ _ (by rw [List.length_set]; omega)]; rfl)
  exact ⟨_, by simp only [List.length_set]; exact hn, h3⟩
theorem own_openN {w : World} {base : Nat} {e : TypeId} {v : Value} {n : Nat} {l : List Nt} (h : w.ownsRow base e 6 v n (flat csNt l)) (hn : l.length = n) :
    ∃ A cap, v = .slice A n cap ∧ n ≤ cap ∧ cap ≤ maxLen ∧ (0 < n → ∃ g, A = some ⟨g, 0, none⟩ ∧ base ≤ g ∧ g < w.heap.size ∧ (∀ o, w.frozen? ⟨g, o, none⟩ = false) ∧ ∀ i j, i < n → j < 6 → w.cell? ⟨g, i * 6 + j, none⟩ = (csNt (l.getD i dNt))[j]?) := by
  subst hn
  exact own_open csNt_len dNt h
theorem own_lo {w : World} {base base' : Nat} {e : TypeId} {size : Nat} {v : Value} {n : Nat} {xs : List Value} (h : w.ownsRow base e size v n xs) (hb : base' ≤ base) : w.ownsRow base' e size v n xs :=
  ⟨h.1, h.2.imp id (fun ⟨g, cap, cur, e, hg, r⟩ => ⟨g, cap, cur, e, Nat.le_trans hb hg, r⟩)⟩
def DrTa (w : World) (e : Ending) (w' : World) : Prop := ∃ (f : Int) (m : Bool) (A : Option Addr) (cap : Nat) (l : List Nt) (h : Int), e = .returned (.tuple #[.int .i64 f, .bool m, .slice A l.length cap, .int .i64 h]) ∧ l.length ≤ cap ∧ cap ≤ maxLen ∧ l.length ≤ 70 ∧ -1 ≤ h ∧ h ≤ 80 ∧ RowNt w' w'.heap.size A l ∧ Below w.heap.size w w'
set_option maxRecDepth 20000 in
set_option maxHeartbeats 8000000 in
theorem DrawTonalAnswer_any (w : World) (A : Option Addr) (len cap : Nat) (h : Cod w A len cap) : Calls Try.prog 6 #[.slice A len cap] w (DrTa w) := by
  go_enter Try.func6, Try.ntmps6
  have r1 := open_ok w A len cap w.heap.size (Nat.le_refl _) h.bt
  have k1 : Onb w.heap.size w (w.alloc (.cells #[.slice A (min len 2000) cap, .int .i64 0] 71)) := Onb.of_bel (bel_al (bel_refl _) _)
  go_wp2_with fail
  refine (open_eq _ A len cap h.lc h.cm).mono ?_
  rintro e w1 ⟨rfl, rfl⟩
  have hs1 : w.heap.size < (w.alloc (.cells #[.slice A (min len 2000) cap, .int .i64 0] 71)).heap.size := by simp
  go_wp2_with fail
  generalize (w.alloc (.cells #[.slice A (min len 2000) cap, .int .i64 0] 71)) = w1 at *
  generalize min len 2000 = len' at *
  refine (fifths_any _ _ _ _ _ _ _ _ r1 (by omega)).mono ?_
  rintro e w2 ⟨f, rfl, o2, p2, hp2, r2⟩
  have k2 := k1.trans o2
  have hs2 := o2.size
  clear k1 o2 r1
  go_wp2_with fail
  refine (pick_fr _ _ _ _ _ _ _ _ r2 (by omega)).mono ?_
  rintro e w3 ⟨x, rfl, _, o3, r3⟩
  have k3 := k2.trans (Onb.of_onl o3)
  have hs3 : w2.heap.size ≤ w3.heap.size := by rw [o3.size]; exact Nat.le_refl _
  obtain ⟨m, hm⟩ : ∃ m, (x == 0) = m := ⟨_, rfl⟩
  clear k2 o3 r2
  go_wp2_with fail
  refine (voice_any _ _ _ _ _ _ _ _ r3 (by omega)).mono ?_
  rintro e w4 ⟨v, l, rfl, l7, own4, o4, p4, hp4, r4⟩
  have own3 := own_lo own4 (show w1.heap.size ≤ w3.heap.size from by omega)
  have k4 := k3.trans o4
  clear o4 r3 k3 own4 hm
  obtain ⟨A9, c2, rfl, lc, cm, op9⟩ := own_open csNt_len dNt own3
  have hA9 : 0 < l.length → ∃ g9, A9 = some ⟨g9, 0, none⟩ ∧ w1.heap.size ≤ g9 := fun h0 => by
    obtain ⟨g9, e9, hb9, _⟩ := op9 h0
    exact ⟨g9, e9, hb9⟩
  clear op9
  unfold maxLen at cm
  obtain ⟨n, hn⟩ : ∃ n, l.length = n := ⟨_, rfl⟩
  rw [hn] at own3 hA9 lc l7
  rw [hn]
  have hl0 := hn
  clear hn
  have k3 := k4
  have r3 := r4
  clear k4 r4
  go_wp2
  go_loopw [10] (fun i wr => ∃ (k : Nat) (l' : List Nt) (pk : Nat), k ≤ n ∧ l'.length = n ∧ i = .int .i64 k ∧ wr.ownsRow w1.heap.size 33 6 (.slice A9 n c2) n (flat csNt l') ∧ Onb w.heap.size w wr ∧ pk ≤ 500 + 2 * k ∧ Rd wr w.heap.size w.heap.size A len' cap pk) (fun i _ => n - (intOf i).toNat)
  case atStart => exact ⟨0, l, p4, by omega, hl0, rfl, own3, k3, by omega, r3⟩
  case round =>
    obtain ⟨k, l', pk, hk, hl', rfl, hown, hkO, hpk, rk⟩ := hrel
    clear own3 k3 r3 hl0
    by_cases hlt : k < n
    · have hkl : (k : Int) < (n : Int) := by omega
      have hk0 : (0 : Int) ≤ (k : Int) := by omega
      obtain ⟨g9, rfl, hg9⟩ := hA9 (by omega)
      have hg9' : w.heap.size ≠ g9 := by omega
      obtain ⟨A6, c6, e6, _, _, op6⟩ := own_openN hown hl'
      cases e6
      obtain ⟨g6, e6, gb6, gl6, gf6, gc6⟩ := op6 (by omega)
      cases e6
      have d0 := gc6 k 0 hlt (by decide)
      have d5 := gc6 k 5 hlt (by decide)
      have hj : ∀ j : Nat, (k : Int) - 1 = (j : Int) → ∃ t : Bool, wr.cell? ⟨g9, j * 6 + 5, none⟩ = some (.bool t) := fun j hj => ⟨_, gc6 j 5 (by omega) (by decide)⟩
      generalize l'.getD k dNt = y at d0 d5
      obtain ⟨r, s0, a0, o0, tk, ti⟩ := y
      simp only [csNt, List.getElem?_cons_zero, List.getElem?_cons_succ, Nat.add_zero] at d0 d5
      clear gc6 gf6 op6
      have HJ := Lib.hid hj
      have HLL := Lib.hid hl'
      clear hj hl'
      go_upto_region 8 with fail
      go_cut [57] (fun u wx => ∃ b : Bool, u = .bool b ∧ Onb w.heap.size wr wx ∧ ∃ q, q ≤ pk + 1 ∧ Rd wx w.heap.size w.heap.size A len' cap q)
      case first =>
        cases r
        · go_wp2_with fail
          refine (pick_fr _ _ _ _ _ _ _ _ rk (by omega)).mono ?_
          rintro e w4 ⟨x, rfl, ⟨x0, x1, _⟩, o4, r4⟩
          have e5 := o4.at d5 (by simp only; omega)
          have hs4 := o4.size
          have gl4 : g9 < w4.heap.size := by omega
          have kk := Onb.of_onl o4
          by_cases hx : x = 0
          · subst hx
            cases ti
            · by_cases hz : k = 0
              · subst hz
                go_wp2
                go_meet
                exact ⟨true, rfl, kk, pk + 1, by omega, r4⟩
              · obtain ⟨j, rfl⟩ : ∃ j : Nat, k = j + 1 := ⟨k - 1, by omega⟩
                obtain ⟨t, ht⟩ := HJ.out j (by omega)
                have e6 := o4.at ht (by simp only; omega)
                have hkj : ((j + 1 : Nat) : Int) - 1 = (j : Int) := by omega
                have hjn : (j : Int) < (n : Int) := by omega
                have hj0 : (0 : Int) ≤ (j : Int) := by omega
                have hz2 : (((j + 1 : Nat) : Int) == 0) = false := by simp; omega
                clear o4 ht
                go_wp2
                go_meet
                exact ⟨_, rfl, kk, pk + 1, by omega, r4⟩
            · clear o4
              go_wp2
              go_meet
              exact ⟨false, rfl, kk, pk + 1, by omega, r4⟩
          · have hx2 : (x == 0) = false := by simpa using hx
            clear o4 hx
            go_wp2
            go_meet
            exact ⟨false, rfl, kk, pk + 1, by omega, r4⟩
        · go_wp2
          go_meet
          exact ⟨false, rfl, Onb.refl _ wr, pk, by omega, rk⟩
      case rest =>
        obtain ⟨b, rfl, kc, q, hq, rc⟩ := hcut
        obtain ⟨wy, rfl⟩ : ∃ z : World, z = wc := ⟨_, rfl⟩
        replace hown := own_onb hown kc (by omega)
        replace hkO := hkO.trans kc
        have rk := rc
        have hl' := HLL.out
        clear kc rc d0 d5
        cases b
        · have HLL := Lib.hid hl'
          clear hl'
          go_wp2
          go_roundw
          case rel => exact ⟨k + 1, l', q, by omega, HLL.out, by go_num, hown, hkO, by omega, rk⟩
          case measure => simp [intOf]; omega
        · rcases (show f ≤ -7 ∨ (-7 < f ∧ f < 7) ∨ 7 ≤ f from by omega) with hf | ⟨hf0, hf1⟩ | hf
          · have m1 : ¬ 7 < f := by omega
            go_wp2_with fail
            refine (sch_any (-7) m _ (by omega) (by omega)).mono ?_
            rintro e w5 ⟨v5, l5, rfl, l53, o5, b5⟩
            obtain ⟨A5, c5, rfl, lc5, cm5, op5⟩ := own_open csPi_len dPi o5
            obtain ⟨g5, rfl, gb5, gl5, gf5, gc5⟩ := op5 (by omega)
            have h50 := gc5 0 0 (by omega) (by decide)
            have h51 := gc5 0 1 (by omega) (by decide)
            have h52 := gc5 0 2 (by omega) (by decide)
            generalize l5.getD 0 dPi = y5 at h50 h51 h52
            obtain ⟨s, a, o⟩ := y5
            simp only [csPi, List.getElem?_cons_zero, List.getElem?_cons_succ, Nat.zero_mul, Nat.zero_add] at h50 h51 h52
            have l50 : 0 < l5.length := by omega
            have l51 : (0 : Int) < (l5.length : Int) := by omega
            clear gc5 gf5 op5 o5 l53
            replace hown := own_below hown b5
            replace hkO := hkO.trans (Onb.of_bel b5)
            have rk5 := rk.below b5
            clear b5 rk
            obtain ⟨A6, c6, e6, _, _, op6⟩ := own_openN hown hl'
            cases e6
            obtain ⟨g6, e6, gb6, gl6, gf6, gc6⟩ := op6 (by omega)
            cases e6
            have d1 := gc6 k 1 hlt (by decide)
            have d2 := gc6 k 2 hlt (by decide)
            have d3 := gc6 k 3 hlt (by decide)
            simp only [csNt, List.getElem?_cons_zero, List.getElem?_cons_succ] at d1 d2 d3
            have f1 := gf6 (k * 6 + 1)
            have f2 := gf6 (k * 6 + 2)
            have f3 := gf6 (k * 6 + 3)
            obtain ⟨L', hL', oL'⟩ := own_tone hown hl' k hlt s a o
            have kN : Onb w.heap.size w ((((w5).setCell ⟨g9, k * 6 + 1, none⟩ (.int .i64 s)).setCell ⟨g9, k * 6 + 2, none⟩ (.int .i64 a)).setCell ⟨g9, k * 6 + 3, none⟩ (.int .i64 o)) := ((hkO.set (by first | omega | (simp only; omega)) _).set (by first | omega | (simp only; omega)) _).set (by first | omega | (simp only; omega)) _
            have rN : Rd ((((w5).setCell ⟨g9, k * 6 + 1, none⟩ (.int .i64 s)).setCell ⟨g9, k * 6 + 2, none⟩ (.int .i64 a)).setCell ⟨g9, k * 6 + 3, none⟩ (.int .i64 o)) w.heap.size w.heap.size A len' cap q := ((rk5.set (by simp only; omega) (by first | omega | (simp only; omega)) _).set (by simp only; omega) (by first | omega | (simp only; omega)) _).set (by simp only; omega) (by first | omega | (simp only; omega)) _
            have HO := Lib.hid oL'
            have HK := Lib.hid kN
            have HR := Lib.hid rN
            have HL' := Lib.hid hL'
            clear gc6 gf6 op6 hown hkO rk5 oL' kN rN hL' hl'
            go_wp2
            go_roundw
            case rel => exact ⟨k + 1, L', q, by omega, HL'.out, by go_num, HO.out, HK.out, by omega, HR.out⟩
            case measure => simp [intOf]; omega
          · have m1 : ¬ 7 < f := by omega
            go_wp2_with fail
            refine (sch_any f m _ (by omega) (by omega)).mono ?_
            rintro e w5 ⟨v5, l5, rfl, l53, o5, b5⟩
            obtain ⟨A5, c5, rfl, lc5, cm5, op5⟩ := own_open csPi_len dPi o5
            obtain ⟨g5, rfl, gb5, gl5, gf5, gc5⟩ := op5 (by omega)
            have h50 := gc5 0 0 (by omega) (by decide)
            have h51 := gc5 0 1 (by omega) (by decide)
            have h52 := gc5 0 2 (by omega) (by decide)
            generalize l5.getD 0 dPi = y5 at h50 h51 h52
            obtain ⟨s, a, o⟩ := y5
            simp only [csPi, List.getElem?_cons_zero, List.getElem?_cons_succ, Nat.zero_mul, Nat.zero_add] at h50 h51 h52
            have l50 : 0 < l5.length := by omega
            have l51 : (0 : Int) < (l5.length : Int) := by omega
            clear gc5 gf5 op5 o5 l53
            replace hown := own_below hown b5
            replace hkO := hkO.trans (Onb.of_bel b5)
            have rk5 := rk.below b5
            clear b5 rk
            obtain ⟨A6, c6, e6, _, _, op6⟩ := own_openN hown hl'
            cases e6
            obtain ⟨g6, e6, gb6, gl6, gf6, gc6⟩ := op6 (by omega)
            cases e6
            have d1 := gc6 k 1 hlt (by decide)
            have d2 := gc6 k 2 hlt (by decide)
            have d3 := gc6 k 3 hlt (by decide)
            simp only [csNt, List.getElem?_cons_zero, List.getElem?_cons_succ] at d1 d2 d3
            have f1 := gf6 (k * 6 + 1)
            have f2 := gf6 (k * 6 + 2)
            have f3 := gf6 (k * 6 + 3)
            obtain ⟨L', hL', oL'⟩ := own_tone hown hl' k hlt s a o
            have kN : Onb w.heap.size w ((((w5).setCell ⟨g9, k * 6 + 1, none⟩ (.int .i64 s)).setCell ⟨g9, k * 6 + 2, none⟩ (.int .i64 a)).setCell ⟨g9, k * 6 + 3, none⟩ (.int .i64 o)) := ((hkO.set (by first | omega | (simp only; omega)) _).set (by first | omega | (simp only; omega)) _).set (by first | omega | (simp only; omega)) _
            have rN : Rd ((((w5).setCell ⟨g9, k * 6 + 1, none⟩ (.int .i64 s)).setCell ⟨g9, k * 6 + 2, none⟩ (.int .i64 a)).setCell ⟨g9, k * 6 + 3, none⟩ (.int .i64 o)) w.heap.size w.heap.size A len' cap q := ((rk5.set (by simp only; omega) (by first | omega | (simp only; omega)) _).set (by simp only; omega) (by first | omega | (simp only; omega)) _).set (by simp only; omega) (by first | omega | (simp only; omega)) _
            have HO := Lib.hid oL'
            have HK := Lib.hid kN
            have HR := Lib.hid rN
            have HL' := Lib.hid hL'
            clear gc6 gf6 op6 hown hkO rk5 oL' kN rN hL' hl'
            go_wp2
            go_roundw
            case rel => exact ⟨k + 1, L', q, by omega, HL'.out, by go_num, HO.out, HK.out, by omega, HR.out⟩
            case measure => simp [intOf]; omega
          · have m1 : ¬ f < 7 := by omega
            go_wp2_with fail
            refine (sch_any 7 m _ (by omega) (by omega)).mono ?_
            rintro e w5 ⟨v5, l5, rfl, l53, o5, b5⟩
            obtain ⟨A5, c5, rfl, lc5, cm5, op5⟩ := own_open csPi_len dPi o5
            obtain ⟨g5, rfl, gb5, gl5, gf5, gc5⟩ := op5 (by omega)
            have h50 := gc5 0 0 (by omega) (by decide)
            have h51 := gc5 0 1 (by omega) (by decide)
            have h52 := gc5 0 2 (by omega) (by decide)
            generalize l5.getD 0 dPi = y5 at h50 h51 h52
            obtain ⟨s, a, o⟩ := y5
            simp only [csPi, List.getElem?_cons_zero, List.getElem?_cons_succ, Nat.zero_mul, Nat.zero_add] at h50 h51 h52
            have l50 : 0 < l5.length := by omega
            have l51 : (0 : Int) < (l5.length : Int) := by omega
            clear gc5 gf5 op5 o5 l53
            replace hown := own_below hown b5
            replace hkO := hkO.trans (Onb.of_bel b5)
            have rk5 := rk.below b5
            clear b5 rk
            obtain ⟨A6, c6, e6, _, _, op6⟩ := own_openN hown hl'
            cases e6
            obtain ⟨g6, e6, gb6, gl6, gf6, gc6⟩ := op6 (by omega)
            cases e6
            have d1 := gc6 k 1 hlt (by decide)
            have d2 := gc6 k 2 hlt (by decide)
            have d3 := gc6 k 3 hlt (by decide)
            simp only [csNt, List.getElem?_cons_zero, List.getElem?_cons_succ] at d1 d2 d3
            have f1 := gf6 (k * 6 + 1)
            have f2 := gf6 (k * 6 + 2)
            have f3 := gf6 (k * 6 + 3)
            obtain ⟨L', hL', oL'⟩ := own_tone hown hl' k hlt s a o
            have kN : Onb w.heap.size w ((((w5).setCell ⟨g9, k * 6 + 1, none⟩ (.int .i64 s)).setCell ⟨g9, k * 6 + 2, none⟩ (.int .i64 a)).setCell ⟨g9, k * 6 + 3, none⟩ (.int .i64 o)) := ((hkO.set (by first | omega | (simp only; omega)) _).set (by first | omega | (simp only; omega)) _).set (by first | omega | (simp only; omega)) _
            have rN : Rd ((((w5).setCell ⟨g9, k * 6 + 1, none⟩ (.int .i64 s)).setCell ⟨g9, k * 6 + 2, none⟩ (.int .i64 a)).setCell ⟨g9, k * 6 + 3, none⟩ (.int .i64 o)) w.heap.size w.heap.size A len' cap q := ((rk5.set (by simp only; omega) (by first | omega | (simp only; omega)) _).set (by simp only; omega) (by first | omega | (simp only; omega)) _).set (by simp only; omega) (by first | omega | (simp only; omega)) _
            have HO := Lib.hid oL'
            have HK := Lib.hid kN
            have HR := Lib.hid rN
            have HL' := Lib.hid hL'
            clear gc6 gf6 op6 hown hkO rk5 oL' kN rN hL' hl'
            go_wp2
            go_roundw
            case rel => exact ⟨k + 1, L', q, by omega, HL'.out, by go_num, HO.out, HK.out, by omega, HR.out⟩
            case measure => simp [intOf]; omega
    · obtain rfl : k = n := by omega
      have hnl : ¬ (k : Int) < (k : Int) := by omega
      have HLL := Lib.hid hl'
      clear hl'
      have i1 := IntWalk.i64_in ((k : Int) + 2) (by omega)
      go_wp2_with fail
      refine (pick_fr _ _ _ _ _ _ _ _ rk (by omega)).mono ?_
      rintro e w4 ⟨x, rfl, ⟨x0, x1, _⟩, o4, r4⟩
      have x1 := x1 (by omega)
      replace hown := own_onl hown o4 (by omega)
      replace hkO := hkO.trans (Onb.of_onl o4)
      clear o4 rk
      go_wp2_with fail
      refine (pick_fr _ _ _ _ _ _ _ _ r4 (by omega)).mono ?_
      rintro e w5 ⟨y, rfl, ⟨y0, y1, _⟩, o5, r5⟩
      have y1 := y1 (by omega)
      replace hown := own_onl hown o5 (by omega)
      replace hkO := hkO.trans (Onb.of_onl o5)
      have hw2 := HLL.out
      obtain ⟨A8, c8, e8, _, _, hr8, _⟩ := own_rowNt (show w5.ownsRow w1.heap.size 33 6 (.slice A9 l'.length c2) l'.length (flat csNt l') from by rw [hw2]; exact hown)
      cases e8
      have hbz : Below w.heap.size w w5 := hkO.below (Nat.le_refl _) (Nat.le_refl _)
      clear o5 r4 hown hkO hw2 r5
      go_wp2
      exact bodyPost_ret (v := .tuple #[.int .i64 f, .bool m, .slice A9 k c2, .int .i64 (x - y / 8)]) (by simp [results, Try.results6, go_sem]) rfl ⟨f, m, A9, c2, l', x - y / 8, by rw [HLL.out], by rw [HLL.out]; exact lc, cm, by rw [HLL.out]; exact l7, by omega, by omega, hr8, hbz⟩
end Go.Proofs.Ytacbkmahofmbcaa
