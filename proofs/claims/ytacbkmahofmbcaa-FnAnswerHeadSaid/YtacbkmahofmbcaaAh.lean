/- The least head of a tonal answer: contracts of both. -/
import Derived.Test.YtacbkmahofmbcaaTa
import Derived.Test.YtacbkmahofmbcaaSTa
import Derived.Test.YtacbkmahofmbcaaSeq
namespace Go.Proofs.Ytacbkmahofmbcaa
set_option linter.unusedSimpArgs false
set_option linter.unusedVariables false
open Go.RowKit

def ahP (f : Int) (m : Bool) (l l' : List Nt) (j : Nat) : Prop := taB f m l (j : Int) = true ∧ taL f m l (j : Int) = l'
def AH (f : Int) (m : Bool) (l l' : List Nt) (x : Int) : Prop := (∃ h : Nat, x = (h : Int) ∧ h ≤ l.length ∧ ahP f m l l' h ∧ ∀ j, j < h → ¬ ahP f m l l' j) ∨ (x = -1 ∧ ∀ j, j ≤ l.length → ¬ ahP f m l l' j)
theorem AH_eq {f : Int} {m : Bool} {l l' : List Nt} {x y : Int} (h : AH f m l l' x) (g : AH f m l l' y) : x = y := by
  rcases h with ⟨a, rfl, ha, pa, qa⟩ | ⟨rfl, qa⟩ <;> rcases g with ⟨b, rfl, hb, pb, qb⟩ | ⟨rfl, qb⟩
  · rcases Nat.lt_trichotomy a b with c | c | c
    · exact absurd pa (qb a c)
    · rw [c]
    · exact absurd pb (qa b c)
  · exact absurd pa (qb a ha)
  · exact absurd pb (qa b hb)
  · rfl
theorem taB_big {f : Int} {m : Bool} {l : List Nt} {h : Int} (z : 60 < l.length) : taB f m l h = false := by
  cases hb : taB f m l h
  · rfl
  · have hp : taP f m l h := of_decide_eq_true hb
    have := (vvB_of hp.2.1).len
    omega
theorem seq_val {l l' : List Nt} {v : Bool} (hv : decide (l = l') = v) (A A' : Option Addr) (n n' c c' : Nat) (w : World) (hn : l.length = n) (hn' : l'.length = n') (hm : n ≤ 2000000) (hm' : n' ≤ 2000000) (h : RowNt w w.heap.size A l) (h' : RowNt w w.heap.size A' l') :
    Calls Try.prog 41 #[.slice A n c, .slice A' n' c'] w fun e w' => e = .returned (.bool v) ∧ Below w.heap.size w w' := by
  subst hv; exact seq_any A A' n n' c c' l l' w hn hn' hm hm' h h'
def AhR (f : Int) (m : Bool) (l l' : List Nt) (w : World) (e : Ending) (w' : World) : Prop := ∃ x, e = .returned (.int .i64 x) ∧ AH f m l l' x ∧ Below w.heap.size w w'
set_option maxRecDepth 20000 in
set_option maxHeartbeats 8000000 in
theorem ah_any (A A' : Option Addr) (n n' c c' : Nat) (l l' : List Nt) (f : Int) (m : Bool) (w : World) (hn : l.length = n) (hn' : l'.length = n') (hm : n ≤ 2000000) (hm' : n' ≤ 2000000) (h : RowNt w w.heap.size A l) (h' : RowNt w w.heap.size A' l') :
    Calls Try.prog 16 #[.int .i64 f, .bool m, .slice A n c, .slice A' n' c'] w (AhR f m l l' w) := by
  subst hn hn'
  go_enter Try.func16, Try.ntmps16
  go_wp2
  go_loopw [9, 10, 11] (fun i _ _ wr => ∃ k : Nat, k ≤ l.length + 1 ∧ i = .int .i64 k ∧ Below w.heap.size w wr ∧ Hid (∀ j, j < k → ¬ ahP f m l l' j)) (fun i _ _ _ => l.length + 1 - (intOf i).toNat)
  case atStart => exact ⟨0, Nat.zero_le _, rfl, bel_refl _, fun j hj => absurd hj (by omega)⟩
  case round =>
    obtain ⟨k, hk, rfl, hb, HK⟩ := hrel
    have hk0 : (0 : Int) ≤ (k : Int) := by omega
    by_cases hlt : k ≤ l.length ∧ k ≤ 60
    · by_cases h6 : (60 : Int) < (l.length : Int)
      · obtain ⟨k1, k2⟩ := hlt
        have k1i : (k : Int) ≤ (l.length : Int) := by omega
        have k2i : (k : Int) ≤ 60 := by omega
        obtain ⟨L, hL⟩ : ∃ L, taL f m l (k : Int) = L := ⟨_, rfl⟩
        have hLn : L.length ≤ 60 := by rw [← hL]; exact (taL_len _ _ _ _).1
        cases hB : taB f m l (k : Int)
        · have HL := Lib.hid hL
          have HB := Lib.hid hB
          clear hL hB
          go_wp2_with fail
          refine (ta_val HL.out HB.out _ _ _ _ rfl hm (h.below hb)).mono ?_
          rintro e5 w5 ⟨A5, c5, rfl, lc5, cm5, r5, o5, b5⟩
          have hb5 := bel_tr hb b5
          clear o5 b5
          have HN := Lib.hid (show ¬ ahP f m l l' k from fun z => by have := z.1; rw [HB.out] at this; cases this)
          go_wp2
          go_roundw
          case rel => exact ⟨k + 1, by omega, by go_num, hb5, hid_snoc HK HN.out⟩
          case measure => simp [intOf]; omega
        · by_cases hq : L = l'
          · have HQ := Lib.hid hq
            have hd : decide (L = l') = true := by simp [hq]
            have HD := Lib.hid hd
            clear hd hq
            have HL := Lib.hid hL
            have HB := Lib.hid hB
            clear hL hB
            go_wp2_with fail
            refine (ta_val HL.out HB.out _ _ _ _ rfl hm (h.below hb)).mono ?_
            rintro e5 w5 ⟨A5, c5, rfl, lc5, cm5, r5, o5, b5⟩
            have hb5 := bel_tr hb b5
            clear o5 b5
            go_wp2_with fail
            refine (seq_val HD.out _ _ _ _ _ _ _ rfl rfl (by omega) hm' r5 (h'.below hb5)).mono ?_
            rintro e6 w6 ⟨rfl, b6⟩
            have hb6 := bel_tr hb5 b6
            clear b6
            go_wp2
            exact bodyPost_ret (v := .int .i64 ((k : Int))) (by simp [results, Try.results16, go_sem]) rfl ⟨_, rfl, Or.inl ⟨k, rfl, k1, ⟨HB.out, HL.out.trans HQ.out⟩, HK.out⟩, hb6⟩
          · have HQ := Lib.hid hq
            have hd : decide (L = l') = false := by simp [hq]
            have HD := Lib.hid hd
            clear hd hq
            have HL := Lib.hid hL
            have HB := Lib.hid hB
            clear hL hB
            go_wp2_with fail
            refine (ta_val HL.out HB.out _ _ _ _ rfl hm (h.below hb)).mono ?_
            rintro e5 w5 ⟨A5, c5, rfl, lc5, cm5, r5, o5, b5⟩
            have hb5 := bel_tr hb b5
            clear o5 b5
            go_wp2_with fail
            refine (seq_val HD.out _ _ _ _ _ _ _ rfl rfl (by omega) hm' r5 (h'.below hb5)).mono ?_
            rintro e6 w6 ⟨rfl, b6⟩
            have hb6 := bel_tr hb5 b6
            clear b6
            have HN := Lib.hid (show ¬ ahP f m l l' k from fun z => HQ.out (HL.out.symm.trans z.2))
            go_wp2
            go_roundw
            case rel => exact ⟨k + 1, by omega, by go_num, hb6, hid_snoc HK HN.out⟩
            case measure => simp [intOf]; omega
      · obtain ⟨k1, k2⟩ := hlt
        have k1i : (k : Int) ≤ (l.length : Int) := by omega
        have k2i : (k : Int) ≤ 60 := by omega
        obtain ⟨L, hL⟩ : ∃ L, taL f m l (k : Int) = L := ⟨_, rfl⟩
        have hLn : L.length ≤ 60 := by rw [← hL]; exact (taL_len _ _ _ _).1
        cases hB : taB f m l (k : Int)
        · have HL := Lib.hid hL
          have HB := Lib.hid hB
          clear hL hB
          go_wp2_with fail
          refine (ta_val HL.out HB.out _ _ _ _ rfl hm (h.below hb)).mono ?_
          rintro e5 w5 ⟨A5, c5, rfl, lc5, cm5, r5, o5, b5⟩
          have hb5 := bel_tr hb b5
          clear o5 b5
          have HN := Lib.hid (show ¬ ahP f m l l' k from fun z => by have := z.1; rw [HB.out] at this; cases this)
          go_wp2
          go_roundw
          case rel => exact ⟨k + 1, by omega, by go_num, hb5, hid_snoc HK HN.out⟩
          case measure => simp [intOf]; omega
        · by_cases hq : L = l'
          · have HQ := Lib.hid hq
            have hd : decide (L = l') = true := by simp [hq]
            have HD := Lib.hid hd
            clear hd hq
            have HL := Lib.hid hL
            have HB := Lib.hid hB
            clear hL hB
            go_wp2_with fail
            refine (ta_val HL.out HB.out _ _ _ _ rfl hm (h.below hb)).mono ?_
            rintro e5 w5 ⟨A5, c5, rfl, lc5, cm5, r5, o5, b5⟩
            have hb5 := bel_tr hb b5
            clear o5 b5
            go_wp2_with fail
            refine (seq_val HD.out _ _ _ _ _ _ _ rfl rfl (by omega) hm' r5 (h'.below hb5)).mono ?_
            rintro e6 w6 ⟨rfl, b6⟩
            have hb6 := bel_tr hb5 b6
            clear b6
            go_wp2
            exact bodyPost_ret (v := .int .i64 ((k : Int))) (by simp [results, Try.results16, go_sem]) rfl ⟨_, rfl, Or.inl ⟨k, rfl, k1, ⟨HB.out, HL.out.trans HQ.out⟩, HK.out⟩, hb6⟩
          · have HQ := Lib.hid hq
            have hd : decide (L = l') = false := by simp [hq]
            have HD := Lib.hid hd
            clear hd hq
            have HL := Lib.hid hL
            have HB := Lib.hid hB
            clear hL hB
            go_wp2_with fail
            refine (ta_val HL.out HB.out _ _ _ _ rfl hm (h.below hb)).mono ?_
            rintro e5 w5 ⟨A5, c5, rfl, lc5, cm5, r5, o5, b5⟩
            have hb5 := bel_tr hb b5
            clear o5 b5
            go_wp2_with fail
            refine (seq_val HD.out _ _ _ _ _ _ _ rfl rfl (by omega) hm' r5 (h'.below hb5)).mono ?_
            rintro e6 w6 ⟨rfl, b6⟩
            have hb6 := bel_tr hb5 b6
            clear b6
            have HN := Lib.hid (show ¬ ahP f m l l' k from fun z => HQ.out (HL.out.symm.trans z.2))
            go_wp2
            go_roundw
            case rel => exact ⟨k + 1, by omega, by go_num, hb6, hid_snoc HK HN.out⟩
            case measure => simp [intOf]; omega
    · by_cases h6 : (60 : Int) < (l.length : Int)
      · have hmin : ¬ (k : Int) ≤ 60 := by omega
        go_wp2
        exact bodyPost_ret (v := .int .i64 (-1)) (by simp [results, Try.results16, go_sem]) rfl ⟨_, rfl, Or.inr ⟨rfl, fun j hj z => by by_cases c : j < k; exact HK.out j c z; have := z.1; rw [taB_big (by omega)] at this; cases this⟩, hb⟩
      · have hmin : ¬ (k : Int) ≤ (l.length : Int) := by omega
        go_wp2
        exact bodyPost_ret (v := .int .i64 (-1)) (by simp [results, Try.results16, go_sem]) rfl ⟨_, rfl, Or.inr ⟨rfl, fun j hj z => by by_cases c : j < k; exact HK.out j c z; have := z.1; rw [taB_big (by omega)] at this; cases this⟩, hb⟩
set_option maxRecDepth 20000 in
set_option maxHeartbeats 8000000 in
theorem sah_any (A A' : Option Addr) (n n' c c' : Nat) (l l' : List Nt) (f : Int) (m : Bool) (w : World) (hn : l.length = n) (hn' : l'.length = n') (hm : n ≤ 2000000) (hm' : n' ≤ 2000000) (h : RowNt w w.heap.size A l) (h' : RowNt w w.heap.size A' l') :
    Calls Try.prog 17 #[.int .i64 f, .bool m, .slice A n c, .slice A' n' c'] w (AhR f m l l' w) := by
  subst hn hn'
  go_enter Try.func17, Try.ntmps17
  go_wp2
  go_loopw [9, 10, 11, 12] (fun i _ _ _ wr => ∃ k : Nat, k ≤ l.length + 1 ∧ i = .int .i64 k ∧ Below w.heap.size w wr ∧ Hid (∀ j, j < k → ¬ ahP f m l l' j)) (fun i _ _ _ _ => l.length + 1 - (intOf i).toNat)
  case atStart => exact ⟨0, Nat.zero_le _, rfl, bel_refl _, fun j hj => absurd hj (by omega)⟩
  case round =>
    obtain ⟨k, hk, rfl, hb, HK⟩ := hrel
    have hk0 : (0 : Int) ≤ (k : Int) := by omega
    by_cases k1 : k ≤ l.length
    · have k2 : (k : Int) ≤ (l.length : Int) := by omega
      obtain ⟨L, hL⟩ : ∃ L, taL f m l (k : Int) = L := ⟨_, rfl⟩
      have hLn : L.length ≤ 60 := by rw [← hL]; exact (taL_len _ _ _ _).1
      cases hB : taB f m l (k : Int)
      · obtain rfl : L = [] := by rw [← hL]; unfold taL; rw [hB]; rfl
        clear hLn
        have HL := Lib.hid hL
        have HB := Lib.hid hB
        clear hL hB
        go_wp2_with fail
        refine (sta_val HL.out HB.out _ _ _ _ rfl hm (h.below hb)).mono ?_
        rintro e5 w5 ⟨A5, c5, rfl, lc5, cm5, r5, o5, b5⟩
        have hb5 := bel_tr hb b5
        clear o5 b5
        have HN := Lib.hid (show ¬ ahP f m l l' k from fun z => by have := z.1; rw [HB.out] at this; cases this)
        go_wp2_with fail
        refine wp_loop_rounds 1 ?_
        rw [rounds_succ]
        go_wp2
        go_roundw
        case rel => exact ⟨k + 1, by omega, by go_num, hb5, hid_snoc HK HN.out⟩
        case measure => simp [intOf]; omega
      · by_cases hq : L.length = l'.length
        · have HQ := Lib.hid hq
          have hqi : (L.length : Int) = (l'.length : Int) := by omega
          clear hq
          have HL := Lib.hid hL
          have HB := Lib.hid hB
          clear hL hB
          go_wp2_with fail
          refine (sta_val HL.out HB.out _ _ _ _ rfl hm (h.below hb)).mono ?_
          rintro e5 w5 ⟨A5, c5, rfl, lc5, cm5, r5, o5, b5⟩
          have hb5 := bel_tr hb b5
          clear o5 b5
          go_wp2_with fail
          clear hqi
          have r9 := h'.below hb5
          go_loopw [11, 12] (fun ok i wr => ∃ (q : Nat) (b : Bool), q ≤ L.length ∧ i = .int .i64 q ∧ ok = .bool b ∧ Below w5.heap.size w5 wr ∧ Hid (b = true → ∀ j, j < q → atNt L j = atNt l' j) ∧ Hid (b = false → ¬ L = l')) (fun _ i _ => L.length - (intOf i).toNat)
          case atStart => exact ⟨0, true, Nat.zero_le _, rfl, rfl, bel_refl _, fun _ j hj => absurd hj (by omega), fun z => by cases z⟩
          case round =>
            obtain ⟨q, b, hq, rfl, rfl, hb7, HT, HF⟩ := hrel
            have hq0 : (0 : Int) ≤ (q : Int) := by omega
            have hb8 := bel_tr hb5 hb7
            cases b
            · have HN := Lib.hid (show ¬ ahP f m l l' k from fun z => HF.out rfl (HL.out.symm.trans z.2))
              by_cases hql : q < L.length
              · have hqi : (q : Int) < (L.length : Int) := by omega
                go_wp2
                go_roundw
                case rel => exact ⟨k + 1, by omega, by go_num, hb8, hid_snoc HK HN.out⟩
                case measure => simp [intOf]; omega
              · have hqi : ¬ (q : Int) < (L.length : Int) := by omega
                go_wp2
                go_roundw
                case rel => exact ⟨k + 1, by omega, by go_num, hb8, hid_snoc HK HN.out⟩
                case measure => simp [intOf]; omega
            · by_cases hql : q < L.length
              · have hqi : (q : Int) < (L.length : Int) := by omega
                have hqi2 : (q : Int) < (l'.length : Int) := by have := HQ.out; omega
                obtain ⟨b, off, rfl, hlb, hc⟩ := (r5.below hb7) (by omega)
                obtain ⟨b', off', rfl, hlb', hc'⟩ := (r9.below hb7) (by omega)
                have hck := hc q hql
                have hck' := hc' q (by omega)
                clear hc hc' h h' r5 r9
                by_cases hx : atNt L q = atNt l' q
                · have HX := Lib.hid hx
                  rw [← hx] at hck'
                  clear hx
                  generalize atNt L q = x at hck hck'
                  obtain ⟨r, s, a, o, t, d⟩ := x
                  obtain ⟨p0, p1, p2, p3, p4, p5⟩ := hck
                  obtain ⟨q0, q1, q2, q3, q4, q5⟩ := hck'
                  simp only at p0 p1 p2 p3 p4 p5 q0 q1 q2 q3 q4 q5
                  go_wp2_with fail
                  have lf0 : ∀ xL : Later wr, xL.world.cell? ⟨b, off + q * 6, none⟩ = some (.bool r) := fun xL => xL.at (p0)
                  have lf1 : ∀ xL : Later wr, xL.world.cell? ⟨b, off + q * 6 + 1, none⟩ = some (.int .i64 s) := fun xL => xL.at (p1)
                  have lf2 : ∀ xL : Later wr, xL.world.cell? ⟨b, off + q * 6 + 2, none⟩ = some (.int .i64 a) := fun xL => xL.at (p2)
                  have lf3 : ∀ xL : Later wr, xL.world.cell? ⟨b, off + q * 6 + 3, none⟩ = some (.int .i64 o) := fun xL => xL.at (p3)
                  have lf4 : ∀ xL : Later wr, xL.world.cell? ⟨b, off + q * 6 + 4, none⟩ = some (.int .i64 t) := fun xL => xL.at (p4)
                  have lf5 : ∀ xL : Later wr, xL.world.cell? ⟨b, off + q * 6 + 5, none⟩ = some (.bool d) := fun xL => xL.at (p5)
                  have lf6 : ∀ xL : Later wr, xL.world.cell? ⟨b', off' + q * 6, none⟩ = some (.bool r) := fun xL => xL.at (q0)
                  have lf7 : ∀ xL : Later wr, xL.world.cell? ⟨b', off' + q * 6 + 1, none⟩ = some (.int .i64 s) := fun xL => xL.at (q1)
                  have lf8 : ∀ xL : Later wr, xL.world.cell? ⟨b', off' + q * 6 + 2, none⟩ = some (.int .i64 a) := fun xL => xL.at (q2)
                  have lf9 : ∀ xL : Later wr, xL.world.cell? ⟨b', off' + q * 6 + 3, none⟩ = some (.int .i64 o) := fun xL => xL.at (q3)
                  have lf10 : ∀ xL : Later wr, xL.world.cell? ⟨b', off' + q * 6 + 4, none⟩ = some (.int .i64 t) := fun xL => xL.at (q4)
                  have lf11 : ∀ xL : Later wr, xL.world.cell? ⟨b', off' + q * 6 + 5, none⟩ = some (.bool d) := fun xL => xL.at (q5)
                  refine region_later (w0 := wr) (by kernel_rfl) (by kernel_rfl) (bel_refl _) ?_
                  repeat (go_big_quiet_step ((fail)))
                  refine wpQuiet_nil ?_
                  rintro w' ⟨x, rfl⟩
                  obtain ⟨w8, b8⟩ := x
                  clear lf0 lf1 lf2 lf3 lf4 lf5 lf6 lf7 lf8 lf9 lf10 lf11
                  go_wp2
                  go_roundw
                  case rel => exact ⟨q + 1, true, by omega, by go_num, rfl, by repeat (first | (with_reducible assumption) | (exact bel_undr (by with_reducible assumption)) | (with_reducible exact bel_refl _) | (with_reducible refine bel_dr ?_) | (with_reducible refine bel_drN ?_ _) | (with_reducible refine bel_al ?_ _) | (refine bel_set ?_ (by first | (simp; done) | (simp; exact Below.size (by assumption)) | (simp; omega)) _) | (with_reducible refine bel_tr ?_ (by assumption))), fun _ => (hid_snoc (Lib.hid (HT.out (by simp))) HX.out).out, fun z => (by cases z)⟩
                  case measure => simp [intOf]; omega
                · have HE := Lib.hid (show ¬ L = l' from fun e => hx (by rw [e]))
                  generalize atNt L q = x at hck hx
                  generalize atNt l' q = y at hck' hx
                  obtain ⟨r, s, a, o, t, d⟩ := x
                  obtain ⟨r1, s1, a1, o1, t1, d1⟩ := y
                  obtain ⟨p0, p1, p2, p3, p4, p5⟩ := hck
                  obtain ⟨q0, q1, q2, q3, q4, q5⟩ := hck'
                  simp only at p0 p1 p2 p3 p4 p5 q0 q1 q2 q3 q4 q5
                  by_cases c0 : r = r1
                  · subst c0
                    by_cases c1 : s = s1
                    · subst c1
                      by_cases c2 : a = a1
                      · subst c2
                        by_cases c3 : o = o1
                        · subst c3
                          by_cases c4 : t = t1
                          · subst c4
                            have c5 : ¬ d = d1 := fun e => hx (by rw [e])
                            have e5 : (d == d1) = false := by simpa using c5
                            clear hx
                            go_wp2_with fail
                            have lf0 : ∀ xL : Later wr, xL.world.cell? ⟨b, off + q * 6, none⟩ = some (.bool r) := fun xL => xL.at (p0)
                            have lf1 : ∀ xL : Later wr, xL.world.cell? ⟨b, off + q * 6 + 1, none⟩ = some (.int .i64 s) := fun xL => xL.at (p1)
                            have lf2 : ∀ xL : Later wr, xL.world.cell? ⟨b, off + q * 6 + 2, none⟩ = some (.int .i64 a) := fun xL => xL.at (p2)
                            have lf3 : ∀ xL : Later wr, xL.world.cell? ⟨b, off + q * 6 + 3, none⟩ = some (.int .i64 o) := fun xL => xL.at (p3)
                            have lf4 : ∀ xL : Later wr, xL.world.cell? ⟨b, off + q * 6 + 4, none⟩ = some (.int .i64 t) := fun xL => xL.at (p4)
                            have lf5 : ∀ xL : Later wr, xL.world.cell? ⟨b, off + q * 6 + 5, none⟩ = some (.bool d) := fun xL => xL.at (p5)
                            have lf6 : ∀ xL : Later wr, xL.world.cell? ⟨b', off' + q * 6, none⟩ = some (.bool r) := fun xL => xL.at (q0)
                            have lf7 : ∀ xL : Later wr, xL.world.cell? ⟨b', off' + q * 6 + 1, none⟩ = some (.int .i64 s) := fun xL => xL.at (q1)
                            have lf8 : ∀ xL : Later wr, xL.world.cell? ⟨b', off' + q * 6 + 2, none⟩ = some (.int .i64 a) := fun xL => xL.at (q2)
                            have lf9 : ∀ xL : Later wr, xL.world.cell? ⟨b', off' + q * 6 + 3, none⟩ = some (.int .i64 o) := fun xL => xL.at (q3)
                            have lf10 : ∀ xL : Later wr, xL.world.cell? ⟨b', off' + q * 6 + 4, none⟩ = some (.int .i64 t) := fun xL => xL.at (q4)
                            have lf11 : ∀ xL : Later wr, xL.world.cell? ⟨b', off' + q * 6 + 5, none⟩ = some (.bool d1) := fun xL => xL.at (q5)
                            refine region_later (w0 := wr) (by kernel_rfl) (by kernel_rfl) (bel_refl _) ?_
                            repeat (go_big_quiet_step ((fail)))
                            refine wpQuiet_nil ?_
                            rintro w' ⟨x, rfl⟩
                            obtain ⟨w8, b8⟩ := x
                            clear lf0 lf1 lf2 lf3 lf4 lf5 lf6 lf7 lf8 lf9 lf10 lf11
                            go_wp2
                            go_roundw
                            case rel => exact ⟨q + 1, false, by omega, by go_num, rfl, by repeat (first | (with_reducible assumption) | (exact bel_undr (by with_reducible assumption)) | (with_reducible exact bel_refl _) | (with_reducible refine bel_dr ?_) | (with_reducible refine bel_drN ?_ _) | (with_reducible refine bel_al ?_ _) | (refine bel_set ?_ (by first | (simp; done) | (simp; exact Below.size (by assumption)) | (simp; omega)) _) | (with_reducible refine bel_tr ?_ (by assumption))), fun z => (by cases z), fun _ => HE.out⟩
                            case measure => simp [intOf]; omega
                          · have e4 : (t == t1) = false := by simpa using c4
                            clear hx
                            go_wp2_with fail
                            have lf0 : ∀ xL : Later wr, xL.world.cell? ⟨b, off + q * 6, none⟩ = some (.bool r) := fun xL => xL.at (p0)
                            have lf1 : ∀ xL : Later wr, xL.world.cell? ⟨b, off + q * 6 + 1, none⟩ = some (.int .i64 s) := fun xL => xL.at (p1)
                            have lf2 : ∀ xL : Later wr, xL.world.cell? ⟨b, off + q * 6 + 2, none⟩ = some (.int .i64 a) := fun xL => xL.at (p2)
                            have lf3 : ∀ xL : Later wr, xL.world.cell? ⟨b, off + q * 6 + 3, none⟩ = some (.int .i64 o) := fun xL => xL.at (p3)
                            have lf4 : ∀ xL : Later wr, xL.world.cell? ⟨b, off + q * 6 + 4, none⟩ = some (.int .i64 t) := fun xL => xL.at (p4)
                            have lf5 : ∀ xL : Later wr, xL.world.cell? ⟨b, off + q * 6 + 5, none⟩ = some (.bool d) := fun xL => xL.at (p5)
                            have lf6 : ∀ xL : Later wr, xL.world.cell? ⟨b', off' + q * 6, none⟩ = some (.bool r) := fun xL => xL.at (q0)
                            have lf7 : ∀ xL : Later wr, xL.world.cell? ⟨b', off' + q * 6 + 1, none⟩ = some (.int .i64 s) := fun xL => xL.at (q1)
                            have lf8 : ∀ xL : Later wr, xL.world.cell? ⟨b', off' + q * 6 + 2, none⟩ = some (.int .i64 a) := fun xL => xL.at (q2)
                            have lf9 : ∀ xL : Later wr, xL.world.cell? ⟨b', off' + q * 6 + 3, none⟩ = some (.int .i64 o) := fun xL => xL.at (q3)
                            have lf10 : ∀ xL : Later wr, xL.world.cell? ⟨b', off' + q * 6 + 4, none⟩ = some (.int .i64 t1) := fun xL => xL.at (q4)
                            have lf11 : ∀ xL : Later wr, xL.world.cell? ⟨b', off' + q * 6 + 5, none⟩ = some (.bool d1) := fun xL => xL.at (q5)
                            refine region_later (w0 := wr) (by kernel_rfl) (by kernel_rfl) (bel_refl _) ?_
                            repeat (go_big_quiet_step ((fail)))
                            refine wpQuiet_nil ?_
                            rintro w' ⟨x, rfl⟩
                            obtain ⟨w8, b8⟩ := x
                            clear lf0 lf1 lf2 lf3 lf4 lf5 lf6 lf7 lf8 lf9 lf10 lf11
                            go_wp2
                            go_roundw
                            case rel => exact ⟨q + 1, false, by omega, by go_num, rfl, by repeat (first | (with_reducible assumption) | (exact bel_undr (by with_reducible assumption)) | (with_reducible exact bel_refl _) | (with_reducible refine bel_dr ?_) | (with_reducible refine bel_drN ?_ _) | (with_reducible refine bel_al ?_ _) | (refine bel_set ?_ (by first | (simp; done) | (simp; exact Below.size (by assumption)) | (simp; omega)) _) | (with_reducible refine bel_tr ?_ (by assumption))), fun z => (by cases z), fun _ => HE.out⟩
                            case measure => simp [intOf]; omega
                        · have e3 : (o == o1) = false := by simpa using c3
                          clear hx
                          go_wp2_with fail
                          have lf0 : ∀ xL : Later wr, xL.world.cell? ⟨b, off + q * 6, none⟩ = some (.bool r) := fun xL => xL.at (p0)
                          have lf1 : ∀ xL : Later wr, xL.world.cell? ⟨b, off + q * 6 + 1, none⟩ = some (.int .i64 s) := fun xL => xL.at (p1)
                          have lf2 : ∀ xL : Later wr, xL.world.cell? ⟨b, off + q * 6 + 2, none⟩ = some (.int .i64 a) := fun xL => xL.at (p2)
                          have lf3 : ∀ xL : Later wr, xL.world.cell? ⟨b, off + q * 6 + 3, none⟩ = some (.int .i64 o) := fun xL => xL.at (p3)
                          have lf4 : ∀ xL : Later wr, xL.world.cell? ⟨b, off + q * 6 + 4, none⟩ = some (.int .i64 t) := fun xL => xL.at (p4)
                          have lf5 : ∀ xL : Later wr, xL.world.cell? ⟨b, off + q * 6 + 5, none⟩ = some (.bool d) := fun xL => xL.at (p5)
                          have lf6 : ∀ xL : Later wr, xL.world.cell? ⟨b', off' + q * 6, none⟩ = some (.bool r) := fun xL => xL.at (q0)
                          have lf7 : ∀ xL : Later wr, xL.world.cell? ⟨b', off' + q * 6 + 1, none⟩ = some (.int .i64 s) := fun xL => xL.at (q1)
                          have lf8 : ∀ xL : Later wr, xL.world.cell? ⟨b', off' + q * 6 + 2, none⟩ = some (.int .i64 a) := fun xL => xL.at (q2)
                          have lf9 : ∀ xL : Later wr, xL.world.cell? ⟨b', off' + q * 6 + 3, none⟩ = some (.int .i64 o1) := fun xL => xL.at (q3)
                          have lf10 : ∀ xL : Later wr, xL.world.cell? ⟨b', off' + q * 6 + 4, none⟩ = some (.int .i64 t1) := fun xL => xL.at (q4)
                          have lf11 : ∀ xL : Later wr, xL.world.cell? ⟨b', off' + q * 6 + 5, none⟩ = some (.bool d1) := fun xL => xL.at (q5)
                          refine region_later (w0 := wr) (by kernel_rfl) (by kernel_rfl) (bel_refl _) ?_
                          repeat (go_big_quiet_step ((fail)))
                          refine wpQuiet_nil ?_
                          rintro w' ⟨x, rfl⟩
                          obtain ⟨w8, b8⟩ := x
                          clear lf0 lf1 lf2 lf3 lf4 lf5 lf6 lf7 lf8 lf9 lf10 lf11
                          go_wp2
                          go_roundw
                          case rel => exact ⟨q + 1, false, by omega, by go_num, rfl, by repeat (first | (with_reducible assumption) | (exact bel_undr (by with_reducible assumption)) | (with_reducible exact bel_refl _) | (with_reducible refine bel_dr ?_) | (with_reducible refine bel_drN ?_ _) | (with_reducible refine bel_al ?_ _) | (refine bel_set ?_ (by first | (simp; done) | (simp; exact Below.size (by assumption)) | (simp; omega)) _) | (with_reducible refine bel_tr ?_ (by assumption))), fun z => (by cases z), fun _ => HE.out⟩
                          case measure => simp [intOf]; omega
                      · have e2 : (a == a1) = false := by simpa using c2
                        clear hx
                        go_wp2_with fail
                        have lf0 : ∀ xL : Later wr, xL.world.cell? ⟨b, off + q * 6, none⟩ = some (.bool r) := fun xL => xL.at (p0)
                        have lf1 : ∀ xL : Later wr, xL.world.cell? ⟨b, off + q * 6 + 1, none⟩ = some (.int .i64 s) := fun xL => xL.at (p1)
                        have lf2 : ∀ xL : Later wr, xL.world.cell? ⟨b, off + q * 6 + 2, none⟩ = some (.int .i64 a) := fun xL => xL.at (p2)
                        have lf3 : ∀ xL : Later wr, xL.world.cell? ⟨b, off + q * 6 + 3, none⟩ = some (.int .i64 o) := fun xL => xL.at (p3)
                        have lf4 : ∀ xL : Later wr, xL.world.cell? ⟨b, off + q * 6 + 4, none⟩ = some (.int .i64 t) := fun xL => xL.at (p4)
                        have lf5 : ∀ xL : Later wr, xL.world.cell? ⟨b, off + q * 6 + 5, none⟩ = some (.bool d) := fun xL => xL.at (p5)
                        have lf6 : ∀ xL : Later wr, xL.world.cell? ⟨b', off' + q * 6, none⟩ = some (.bool r) := fun xL => xL.at (q0)
                        have lf7 : ∀ xL : Later wr, xL.world.cell? ⟨b', off' + q * 6 + 1, none⟩ = some (.int .i64 s) := fun xL => xL.at (q1)
                        have lf8 : ∀ xL : Later wr, xL.world.cell? ⟨b', off' + q * 6 + 2, none⟩ = some (.int .i64 a1) := fun xL => xL.at (q2)
                        have lf9 : ∀ xL : Later wr, xL.world.cell? ⟨b', off' + q * 6 + 3, none⟩ = some (.int .i64 o1) := fun xL => xL.at (q3)
                        have lf10 : ∀ xL : Later wr, xL.world.cell? ⟨b', off' + q * 6 + 4, none⟩ = some (.int .i64 t1) := fun xL => xL.at (q4)
                        have lf11 : ∀ xL : Later wr, xL.world.cell? ⟨b', off' + q * 6 + 5, none⟩ = some (.bool d1) := fun xL => xL.at (q5)
                        refine region_later (w0 := wr) (by kernel_rfl) (by kernel_rfl) (bel_refl _) ?_
                        repeat (go_big_quiet_step ((fail)))
                        refine wpQuiet_nil ?_
                        rintro w' ⟨x, rfl⟩
                        obtain ⟨w8, b8⟩ := x
                        clear lf0 lf1 lf2 lf3 lf4 lf5 lf6 lf7 lf8 lf9 lf10 lf11
                        go_wp2
                        go_roundw
                        case rel => exact ⟨q + 1, false, by omega, by go_num, rfl, by repeat (first | (with_reducible assumption) | (exact bel_undr (by with_reducible assumption)) | (with_reducible exact bel_refl _) | (with_reducible refine bel_dr ?_) | (with_reducible refine bel_drN ?_ _) | (with_reducible refine bel_al ?_ _) | (refine bel_set ?_ (by first | (simp; done) | (simp; exact Below.size (by assumption)) | (simp; omega)) _) | (with_reducible refine bel_tr ?_ (by assumption))), fun z => (by cases z), fun _ => HE.out⟩
                        case measure => simp [intOf]; omega
                    · have e1 : (s == s1) = false := by simpa using c1
                      clear hx
                      go_wp2_with fail
                      have lf0 : ∀ xL : Later wr, xL.world.cell? ⟨b, off + q * 6, none⟩ = some (.bool r) := fun xL => xL.at (p0)
                      have lf1 : ∀ xL : Later wr, xL.world.cell? ⟨b, off + q * 6 + 1, none⟩ = some (.int .i64 s) := fun xL => xL.at (p1)
                      have lf2 : ∀ xL : Later wr, xL.world.cell? ⟨b, off + q * 6 + 2, none⟩ = some (.int .i64 a) := fun xL => xL.at (p2)
                      have lf3 : ∀ xL : Later wr, xL.world.cell? ⟨b, off + q * 6 + 3, none⟩ = some (.int .i64 o) := fun xL => xL.at (p3)
                      have lf4 : ∀ xL : Later wr, xL.world.cell? ⟨b, off + q * 6 + 4, none⟩ = some (.int .i64 t) := fun xL => xL.at (p4)
                      have lf5 : ∀ xL : Later wr, xL.world.cell? ⟨b, off + q * 6 + 5, none⟩ = some (.bool d) := fun xL => xL.at (p5)
                      have lf6 : ∀ xL : Later wr, xL.world.cell? ⟨b', off' + q * 6, none⟩ = some (.bool r) := fun xL => xL.at (q0)
                      have lf7 : ∀ xL : Later wr, xL.world.cell? ⟨b', off' + q * 6 + 1, none⟩ = some (.int .i64 s1) := fun xL => xL.at (q1)
                      have lf8 : ∀ xL : Later wr, xL.world.cell? ⟨b', off' + q * 6 + 2, none⟩ = some (.int .i64 a1) := fun xL => xL.at (q2)
                      have lf9 : ∀ xL : Later wr, xL.world.cell? ⟨b', off' + q * 6 + 3, none⟩ = some (.int .i64 o1) := fun xL => xL.at (q3)
                      have lf10 : ∀ xL : Later wr, xL.world.cell? ⟨b', off' + q * 6 + 4, none⟩ = some (.int .i64 t1) := fun xL => xL.at (q4)
                      have lf11 : ∀ xL : Later wr, xL.world.cell? ⟨b', off' + q * 6 + 5, none⟩ = some (.bool d1) := fun xL => xL.at (q5)
                      refine region_later (w0 := wr) (by kernel_rfl) (by kernel_rfl) (bel_refl _) ?_
                      repeat (go_big_quiet_step ((fail)))
                      refine wpQuiet_nil ?_
                      rintro w' ⟨x, rfl⟩
                      obtain ⟨w8, b8⟩ := x
                      clear lf0 lf1 lf2 lf3 lf4 lf5 lf6 lf7 lf8 lf9 lf10 lf11
                      go_wp2
                      go_roundw
                      case rel => exact ⟨q + 1, false, by omega, by go_num, rfl, by repeat (first | (with_reducible assumption) | (exact bel_undr (by with_reducible assumption)) | (with_reducible exact bel_refl _) | (with_reducible refine bel_dr ?_) | (with_reducible refine bel_drN ?_ _) | (with_reducible refine bel_al ?_ _) | (refine bel_set ?_ (by first | (simp; done) | (simp; exact Below.size (by assumption)) | (simp; omega)) _) | (with_reducible refine bel_tr ?_ (by assumption))), fun z => (by cases z), fun _ => HE.out⟩
                      case measure => simp [intOf]; omega
                  · have e0 : (r == r1) = false := by simpa using c0
                    clear hx
                    go_wp2_with fail
                    have lf0 : ∀ xL : Later wr, xL.world.cell? ⟨b, off + q * 6, none⟩ = some (.bool r) := fun xL => xL.at (p0)
                    have lf1 : ∀ xL : Later wr, xL.world.cell? ⟨b, off + q * 6 + 1, none⟩ = some (.int .i64 s) := fun xL => xL.at (p1)
                    have lf2 : ∀ xL : Later wr, xL.world.cell? ⟨b, off + q * 6 + 2, none⟩ = some (.int .i64 a) := fun xL => xL.at (p2)
                    have lf3 : ∀ xL : Later wr, xL.world.cell? ⟨b, off + q * 6 + 3, none⟩ = some (.int .i64 o) := fun xL => xL.at (p3)
                    have lf4 : ∀ xL : Later wr, xL.world.cell? ⟨b, off + q * 6 + 4, none⟩ = some (.int .i64 t) := fun xL => xL.at (p4)
                    have lf5 : ∀ xL : Later wr, xL.world.cell? ⟨b, off + q * 6 + 5, none⟩ = some (.bool d) := fun xL => xL.at (p5)
                    have lf6 : ∀ xL : Later wr, xL.world.cell? ⟨b', off' + q * 6, none⟩ = some (.bool r1) := fun xL => xL.at (q0)
                    have lf7 : ∀ xL : Later wr, xL.world.cell? ⟨b', off' + q * 6 + 1, none⟩ = some (.int .i64 s1) := fun xL => xL.at (q1)
                    have lf8 : ∀ xL : Later wr, xL.world.cell? ⟨b', off' + q * 6 + 2, none⟩ = some (.int .i64 a1) := fun xL => xL.at (q2)
                    have lf9 : ∀ xL : Later wr, xL.world.cell? ⟨b', off' + q * 6 + 3, none⟩ = some (.int .i64 o1) := fun xL => xL.at (q3)
                    have lf10 : ∀ xL : Later wr, xL.world.cell? ⟨b', off' + q * 6 + 4, none⟩ = some (.int .i64 t1) := fun xL => xL.at (q4)
                    have lf11 : ∀ xL : Later wr, xL.world.cell? ⟨b', off' + q * 6 + 5, none⟩ = some (.bool d1) := fun xL => xL.at (q5)
                    refine region_later (w0 := wr) (by kernel_rfl) (by kernel_rfl) (bel_refl _) ?_
                    repeat (go_big_quiet_step ((fail)))
                    refine wpQuiet_nil ?_
                    rintro w' ⟨x, rfl⟩
                    obtain ⟨w8, b8⟩ := x
                    clear lf0 lf1 lf2 lf3 lf4 lf5 lf6 lf7 lf8 lf9 lf10 lf11
                    go_wp2
                    go_roundw
                    case rel => exact ⟨q + 1, false, by omega, by go_num, rfl, by repeat (first | (with_reducible assumption) | (exact bel_undr (by with_reducible assumption)) | (with_reducible exact bel_refl _) | (with_reducible refine bel_dr ?_) | (with_reducible refine bel_drN ?_ _) | (with_reducible refine bel_al ?_ _) | (refine bel_set ?_ (by first | (simp; done) | (simp; exact Below.size (by assumption)) | (simp; omega)) _) | (with_reducible refine bel_tr ?_ (by assumption))), fun z => (by cases z), fun _ => HE.out⟩
                    case measure => simp [intOf]; omega
              · have hqi : ¬ (q : Int) < (L.length : Int) := by omega
                have HE := Lib.hid (show L = l' from nt_ext HQ.out (fun j hj => HT.out rfl j (by omega)))
                go_wp2
                exact bodyPost_ret (v := .int .i64 ((k : Int))) (by simp [results, Try.results17, go_sem]) rfl ⟨_, rfl, Or.inl ⟨k, rfl, k1, ⟨HB.out, HL.out.trans HE.out⟩, HK.out⟩, hb8⟩
        · have HQ := Lib.hid hq
          have hqi : ¬ (L.length : Int) = (l'.length : Int) := by omega
          clear hq
          have HN := Lib.hid (show ¬ ahP f m l l' k from fun z => HQ.out (by rw [← z.2, hL]))
          by_cases hz : L.length = 0
          · have hzi : ¬ (0 : Int) < (L.length : Int) := by omega
            have HL := Lib.hid hL
            have HB := Lib.hid hB
            clear hL hB
            go_wp2_with fail
            refine (sta_val HL.out HB.out _ _ _ _ rfl hm (h.below hb)).mono ?_
            rintro e5 w5 ⟨A5, c5, rfl, lc5, cm5, r5, o5, b5⟩
            have hb5 := bel_tr hb b5
            clear o5 b5
            go_wp2_with fail
            refine wp_loop_rounds 1 ?_
            rw [rounds_succ]
            go_wp2
            go_roundw
            case rel => exact ⟨k + 1, by omega, by go_num, hb5, hid_snoc HK HN.out⟩
            case measure => simp [intOf]; omega
          · have hzi : (0 : Int) < (L.length : Int) := by omega
            have HL := Lib.hid hL
            have HB := Lib.hid hB
            clear hL hB
            go_wp2_with fail
            refine (sta_val HL.out HB.out _ _ _ _ rfl hm (h.below hb)).mono ?_
            rintro e5 w5 ⟨A5, c5, rfl, lc5, cm5, r5, o5, b5⟩
            have hb5 := bel_tr hb b5
            clear o5 b5
            go_wp2_with fail
            refine wp_loop_rounds 1 ?_
            rw [rounds_succ]
            go_wp2
            go_roundw
            case rel => exact ⟨k + 1, by omega, by go_num, hb5, hid_snoc HK HN.out⟩
            case measure => simp [intOf]; omega
    · have k2 : ¬ (k : Int) ≤ (l.length : Int) := by omega
      go_wp2
      exact bodyPost_ret (v := .int .i64 (-1)) (by simp [results, Try.results17, go_sem]) rfl ⟨_, rfl, Or.inr ⟨rfl, fun j hj => HK.out j (by omega)⟩, hb⟩
end Go.Proofs.Ytacbkmahofmbcaa
