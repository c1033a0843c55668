/- The ticks at which two voices are to be looked at: of the reference. -/
import Derived.Test.YtiapfpjggginoaaMtJ
import Derived.Test.YtiapfpjggginoaaSVoice
namespace Go.Proofs.Ytiapfpjggginoaa
set_option linter.unusedSimpArgs false
set_option linter.unusedVariables false
open Go.RowKit

set_option maxHeartbeats 2000000 in
theorem svts_val {l : List Nt} {T : Int} (hT : tsum l l.length = T) (A : Option Addr) (n c : Nat) (w : World) (hn : l.length = n) (hv : vvB l = true) (h : RowNt w w.heap.size A l) :
    Calls Try.prog 57 #[.slice A n c] w fun e w' => e = .returned (.int .i64 T) ∧ Below w.heap.size w w' := by
  subst hn hT
  have hf := vvB_of hv
  have h60 := hf.len
  go_enter Try.func57, Try.ntmps57
  go_wp2_with fail
  refine (svv_val hv _ _ _ _ rfl (by omega) h).mono ?_
  rintro e1 w1 ⟨rfl, b1⟩
  clear hv
  go_wp2
  go_loopw [3, 4] (fun t i wr => ∃ k : Nat, k ≤ l.length ∧ i = .int .i64 k ∧ t = .int .i64 (tsum l k) ∧ Below w.heap.size w wr) (fun t i _ => l.length - (intOf i).toNat)
  case atStart => exact ⟨0, Nat.zero_le _, rfl, rfl, by repeat (first | (with_reducible assumption) | (exact bel_undr (by with_reducible assumption)) | (with_reducible exact bel_refl _) | (with_reducible refine bel_dr ?_) | (with_reducible refine bel_drN ?_ _) | (with_reducible refine bel_al ?_ _) | (refine bel_set ?_ (by first | (simp; done) | (simp; exact Below.size (by assumption)) | (simp; omega)) _) | (with_reducible refine bel_tr ?_ (by assumption)))⟩
  case round =>
    obtain ⟨k, hk, rfl, rfl, hb⟩ := hrel
    by_cases hlt : k < l.length
    · obtain ⟨b, off, rfl, hlb, hc⟩ := (h.below hb) (by omega)
      have hck := hc k hlt
      have hs0 := hf.tsum_bd k (by omega)
      have ht := hf.tickT k hlt
      have h60 := hf.len
      have hkl : (k : Int) < (l.length : Int) := by omega
      have hk0 : (0 : Int) ≤ (k : Int) := by omega
      have HS : Hid (tsum l (k + 1) = tsum l k + (atNt l k).ticks) := by show _ = _; rfl
      clear hc
      generalize tsum l k = V at *
      generalize atNt l k = x at hck ht HS
      obtain ⟨r, s, a, o, tk, d⟩ := x
      obtain ⟨p0, p1, p2, p3, p4, p5⟩ := hck
      simp only at p0 p1 p2 p3 p4 p5 ht
      have hV := IntWalk.i64_in (V + tk) (by omega)
      go_wp2
      go_roundw
      case rel => exact ⟨k + 1, by omega, by go_num, by rw [HS.out], by repeat (first | (with_reducible assumption) | (exact bel_undr (by with_reducible assumption)) | (with_reducible exact bel_refl _) | (with_reducible refine bel_dr ?_) | (with_reducible refine bel_drN ?_ _) | (with_reducible refine bel_al ?_ _) | (refine bel_set ?_ (by first | (simp; done) | (simp; exact Below.size (by assumption)) | (simp; omega)) _) | (with_reducible refine bel_tr ?_ (by assumption)))⟩
      case measure => simp [intOf]; omega
    · obtain rfl : k = l.length := by omega
      go_wp2
      go_ret
      exact ⟨rfl, by repeat (first | (with_reducible assumption) | (exact bel_undr (by with_reducible assumption)) | (with_reducible exact bel_refl _) | (with_reducible refine bel_dr ?_) | (with_reducible refine bel_drN ?_ _) | (with_reducible refine bel_al ?_ _) | (refine bel_set ?_ (by first | (simp; done) | (simp; exact Below.size (by assumption)) | (simp; omega)) _) | (with_reducible refine bel_tr ?_ (by assumption)))⟩
theorem OnI.le {a b : List Nt} {L : List Int} {t : Int} (h : OnI a b L t) (ha : VvF a) (hb : VvF b) : t ≤ 46080 := by
  rcases h.pt with e | e | e
  · omega
  · obtain ⟨j, hj, he⟩ := mem_enK.1 e
    have := ha.le (i := j + 1) (k := a.length) (by omega) (Nat.le_refl _); have := ha.tot; omega
  · obtain ⟨j, hj, he⟩ := mem_enK.1 e
    have := hb.le (i := j + 1) (k := b.length) (by omega) (Nat.le_refl _); have := hb.tot; omega
set_option maxRecDepth 20000 in
set_option maxHeartbeats 8000000 in
theorem so_any {a b : List Nt} {L : List Int} (hL : MtL a b L) (A : Option Addr) (c : Nat) (A' : Option Addr) (c' : Nat) (w : World) (hva : vvB a = true) (hvb : vvB b = true) (hra : RowNt w w.heap.size A a) (hrb : RowNt w w.heap.size A' b) :
    Calls Try.prog 37 #[.slice A a.length c, .slice A' b.length c'] w (MtR w L) := by
  obtain ⟨i0, hi0, hz0, hz1, hz2⟩ := info_parts infoIn
  have ha60 := (vvB_of hva).len
  have hb60 := (vvB_of hvb).len
  have hta := (vvB_of hva).tot
  have htb := (vvB_of hvb).tot
  have own0 : (w.alloc (.cells #[] 3)).ownsRow w.heap.size 3 1 (.slice (some ⟨w.heap.size, 0, none⟩) 0 0) (([] : List Int)).length (flat csIn (([] : List Int))) := World.ownsRow_lit w #[] 0 (Nat.le_refl _) (by simp [maxLen]) rfl
  have b0 : Below w.heap.size w (w.alloc (.cells #[] 3)) := bel_al (bel_refl w) _
  go_enter Try.func37, Try.ntmps37
  go_wp2
  go_loopw [5, 6, 7, 8, 9, 10, 11] (fun o t _ _ _ _ _ wr => ∃ (M : List Int) (T : Int), t = .int .i64 T ∧ OnI a b M T ∧ (M.length : Int) ≤ T ∧ wr.ownsRow w.heap.size 3 1 o (M).length (flat csIn (M)) ∧ Below w.heap.size w wr) (fun _ t _ _ _ _ _ _ => (46081 - intOf t).toNat)
  case atStart => exact ⟨[], 0, rfl, OnI.start (vvB_of hva) (vvB_of hvb), by simp, own0, b0⟩
  case round =>
    obtain ⟨M, T, rfl, hOI, hML, hown, hb⟩ := hrel
    clear own0 b0
    have T0 := hOI.nn
    have HT0 := Lib.hid T0
    have T1 := hOI.le (vvB_of hva) (vvB_of hvb)
    have HOI := Lib.hid hOI
    clear hOI
    obtain ⟨wo, rfl⟩ : ∃ z : World, z = wr := ⟨_, rfl⟩
    obtain ⟨TA, hTA⟩ : ∃ z, tsum a a.length = z := ⟨_, rfl⟩
    obtain ⟨TB, hTB⟩ : ∃ z, tsum b b.length = z := ⟨_, rfl⟩
    rw [hTA] at hta
    rw [hTB] at htb
    have HA := Lib.hid hTA
    have HB := Lib.hid hTB
    clear hTA hTB
    go_wp2_with fail
    refine (svts_val HA.out _ _ _ _ rfl hva (hra.below hb)).mono ?_
    rintro e1 w1 ⟨rfl, b1⟩
    have hb1 := bel_tr hb b1
    have hown1 := own_below hown b1
    clear hown hb b1
    by_cases hc1 : T < TA
    · have HTT := Lib.hid (show T < tsum a a.length ∨ T < tsum b b.length from .inl (by rw [HA.out]; exact hc1))
      obtain ⟨w2, rfl⟩ : ∃ z : World, z = w1 := ⟨_, rfl⟩
      have hown2 := hown1
      have hb2 := hb1
      have hs2 := hb2.size
      clear hown1 hb1
      go_upto_region 5 with (at_builtin; go_must (refine wpList_append_lies _ rfl _ _ 24 rfl w.heap.size 3 i0 _ 1 8 Try.underlying24 hi0 hz0 hz1 hz2 rfl (by omega) _ M.length (flat csIn M) rfl (hown2.alloc _) ⟨w2.heap.size, 0, none⟩ 1 1 [.int .i64 T] rfl rfl (World.news_of_block (cs := #[.int .i64 T]) (t := 3) (fr := (0, 0)) (heap_alloc_new w2 _)) (by simp [Value.oneCell']) (by first | (simp; done) | (simp; omega)) (by unfold maxLen; omega) (by omega) (by simp; omega) _ rfl ?_; intro gg9 cp9 w9 hown9 hgrow9 hat9 hlt9))
      have hown9' : w9.ownsRow w.heap.size 3 1 (.slice (some ⟨gg9, 0, none⟩) (M.length + 1) cp9) (M ++ [T]).length (flat csIn (M ++ [T])) := by rw [List.length_append, List.length_singleton, ← flatIn_s]; exact hown9
      have hb9 : Below w.heap.size w w9 := own_bel (hown2.alloc _) (bel_al hb2 _) (Nat.le_refl _) hgrow9
      clear hown9 hgrow9 hown2 hat9 hlt9 hb2
      go_wp2
      go_loopw [7, 8, 9, 10, 11] (fun x v _ _ _ wr => ∃ X : Int, x = .int .i64 X ∧ ((v = .int .i64 0 ∧ NxP T [] X) ∨ (v = .int .i64 1 ∧ NxP T (enK a a.length) X) ∨ (v = .int .i64 2 ∧ NxP T (enK a a.length ++ enK b b.length) X)) ∧ wr.ownsRow w.heap.size 3 1 (.slice (some ⟨gg9, 0, none⟩) (M.length + 1) cp9) (M ++ [T]).length (flat csIn (M ++ [T])) ∧ Below w.heap.size w wr) (fun _ v _ _ _ _ => 2 - (intOf v).toNat)
      case atStart => exact ⟨-1, rfl, .inl ⟨rfl, NxP.nil T⟩, hown9', hb9⟩
      case round =>
        clear hown9' hb9
        obtain ⟨X, rfl, hj, hownX, hbX⟩ := hrel
        rcases hj with ⟨rfl, hN⟩ | ⟨rfl, hN⟩ | ⟨rfl, hN⟩
        · go_wp2
          go_loopw [7, 10, 11] (fun x at' k wr => ∃ (i : Nat) (X : Int), i ≤ a.length ∧ k = .int .i64 i ∧ at' = .int .i64 (tsum a i) ∧ x = .int .i64 X ∧ NxP T (([] : List Int) ++ enK a i) X ∧ wr.ownsRow w.heap.size 3 1 (.slice (some ⟨gg9, 0, none⟩) (M.length + 1) cp9) (M ++ [T]).length (flat csIn (M ++ [T])) ∧ Below w.heap.size w wr) (fun _ _ k _ => a.length - (intOf k).toNat)
          case atStart => exact ⟨0, X, Nat.zero_le _, rfl, rfl, rfl, by have h9 := hN; simpa [enK] using h9, by first | exact hownX | exact own_below hownX (by repeat (first | (with_reducible assumption) | (exact bel_undr (by with_reducible assumption)) | (with_reducible exact bel_refl _) | (with_reducible refine bel_dr ?_) | (with_reducible refine bel_drN ?_ _) | (with_reducible refine bel_al ?_ _) | (refine bel_set ?_ (by first | (simp; done) | (simp; exact Below.size (by assumption)) | (simp; omega)) _) | (with_reducible refine bel_tr ?_ (by assumption)))), by repeat (first | (with_reducible assumption) | (exact bel_undr (by with_reducible assumption)) | (with_reducible exact bel_refl _) | (with_reducible refine bel_dr ?_) | (with_reducible refine bel_drN ?_ _) | (with_reducible refine bel_al ?_ _) | (refine bel_set ?_ (by first | (simp; done) | (simp; exact Below.size (by assumption)) | (simp; omega)) _) | (with_reducible refine bel_tr ?_ (by assumption)))⟩
          case round =>
            obtain ⟨i, X, hi, rfl, rfl, rfl, hN, hownX, hbX⟩ := hrel
            by_cases hlt : i < a.length
            · obtain ⟨b9, off, rfl, hlb, hc⟩ := (hra.below hbX) (by omega)
              have hck := hc i hlt
              clear hc
              have hs0 := (vvB_of hva).tsum_bd i (by omega)
              have h60 := (vvB_of hva).len
              have ht := (vvB_of hva).tickT i hlt
              have hkl : (i : Int) < (a.length : Int) := by omega
              have hk0 : (0 : Int) ≤ (i : Int) := by omega
              have HEN := Lib.hid (show ([] : List Int) ++ enK a (i + 1) = (([] : List Int) ++ enK a i) ++ [tsum a i + (atNt a i).ticks] from by rw [enK_s, List.append_assoc]; rfl)
              have HS : Hid (tsum a (i + 1) = tsum a i + (atNt a i).ticks) := by show _ = _; rfl
              have HNX := Lib.hid hN
              have HOW := Lib.hid hownX
              have XB : -1 ≤ X := by rcases hN with ⟨e, _⟩ | ⟨_, e, _⟩ <;> omega
              clear hN hownX
              generalize tsum a i = V at *
              generalize atNt a i = x at hck ht HS HEN
              obtain ⟨r, s, a', o', tk, d⟩ := x
              obtain ⟨p0, p1, p2, p3, p4, p5⟩ := hck
              simp only at p0 p1 p2 p3 p4 p5 ht HS HEN
              clear p0 p1 p2 p3 p5
              have hV := IntWalk.i64_in (V + tk) (by omega)
              by_cases c1 : T < V + tk
              · by_cases c2 : X < 0
                · have hP : T < V + tk ∧ (X < 0 ∨ V + tk < X) := ⟨c1, .inl c2⟩
                  have HP := Lib.hid hP
                  clear hP
                  go_wp2
                  go_roundw
                  case rel => exact ⟨i + 1, V + tk, by omega, by go_num, by rw [HS.out], rfl, by have h9 := HNX.out.step (y := V + tk) HT0.out; rw [if_pos HP.out] at h9; rw [HEN.out]; exact h9, by first | exact HOW.out | exact own_below HOW.out (by repeat (first | (with_reducible assumption) | (exact bel_undr (by with_reducible assumption)) | (with_reducible exact bel_refl _) | (with_reducible refine bel_dr ?_) | (with_reducible refine bel_drN ?_ _) | (with_reducible refine bel_al ?_ _) | (refine bel_set ?_ (by first | (simp; done) | (simp; exact Below.size (by assumption)) | (simp; omega)) _) | (with_reducible refine bel_tr ?_ (by assumption)))), by repeat (first | (with_reducible assumption) | (exact bel_undr (by with_reducible assumption)) | (with_reducible exact bel_refl _) | (with_reducible refine bel_dr ?_) | (with_reducible refine bel_drN ?_ _) | (with_reducible refine bel_al ?_ _) | (refine bel_set ?_ (by first | (simp; done) | (simp; exact Below.size (by assumption)) | (simp; omega)) _) | (with_reducible refine bel_tr ?_ (by assumption)))⟩
                  case measure => simp [intOf]; omega
                · by_cases c3 : V + tk < X
                  · have hP : T < V + tk ∧ (X < 0 ∨ V + tk < X) := ⟨c1, .inr c3⟩
                    have HP := Lib.hid hP
                    clear hP
                    go_wp2
                    go_roundw
                    case rel => exact ⟨i + 1, V + tk, by omega, by go_num, by rw [HS.out], rfl, by have h9 := HNX.out.step (y := V + tk) HT0.out; rw [if_pos HP.out] at h9; rw [HEN.out]; exact h9, by first | exact HOW.out | exact own_below HOW.out (by repeat (first | (with_reducible assumption) | (exact bel_undr (by with_reducible assumption)) | (with_reducible exact bel_refl _) | (with_reducible refine bel_dr ?_) | (with_reducible refine bel_drN ?_ _) | (with_reducible refine bel_al ?_ _) | (refine bel_set ?_ (by first | (simp; done) | (simp; exact Below.size (by assumption)) | (simp; omega)) _) | (with_reducible refine bel_tr ?_ (by assumption)))), by repeat (first | (with_reducible assumption) | (exact bel_undr (by with_reducible assumption)) | (with_reducible exact bel_refl _) | (with_reducible refine bel_dr ?_) | (with_reducible refine bel_drN ?_ _) | (with_reducible refine bel_al ?_ _) | (refine bel_set ?_ (by first | (simp; done) | (simp; exact Below.size (by assumption)) | (simp; omega)) _) | (with_reducible refine bel_tr ?_ (by assumption)))⟩
                    case measure => simp [intOf]; omega
                  · have hP : ¬ (T < V + tk ∧ (X < 0 ∨ V + tk < X)) := fun z => by rcases z.2 with z | z; exact c2 z; exact c3 z
                    have HP := Lib.hid hP
                    clear hP
                    go_wp2
                    go_roundw
                    case rel => exact ⟨i + 1, X, by omega, by go_num, by rw [HS.out], rfl, by have h9 := HNX.out.step (y := V + tk) HT0.out; rw [if_neg HP.out] at h9; rw [HEN.out]; exact h9, by first | exact HOW.out | exact own_below HOW.out (by repeat (first | (with_reducible assumption) | (exact bel_undr (by with_reducible assumption)) | (with_reducible exact bel_refl _) | (with_reducible refine bel_dr ?_) | (with_reducible refine bel_drN ?_ _) | (with_reducible refine bel_al ?_ _) | (refine bel_set ?_ (by first | (simp; done) | (simp; exact Below.size (by assumption)) | (simp; omega)) _) | (with_reducible refine bel_tr ?_ (by assumption)))), by repeat (first | (with_reducible assumption) | (exact bel_undr (by with_reducible assumption)) | (with_reducible exact bel_refl _) | (with_reducible refine bel_dr ?_) | (with_reducible refine bel_drN ?_ _) | (with_reducible refine bel_al ?_ _) | (refine bel_set ?_ (by first | (simp; done) | (simp; exact Below.size (by assumption)) | (simp; omega)) _) | (with_reducible refine bel_tr ?_ (by assumption)))⟩
                    case measure => simp [intOf]; omega
              · have hP : ¬ (T < V + tk ∧ (X < 0 ∨ V + tk < X)) := fun z => c1 z.1
                have HP := Lib.hid hP
                clear hP
                go_wp2
                go_roundw
                case rel => exact ⟨i + 1, X, by omega, by go_num, by rw [HS.out], rfl, by have h9 := HNX.out.step (y := V + tk) HT0.out; rw [if_neg HP.out] at h9; rw [HEN.out]; exact h9, by first | exact HOW.out | exact own_below HOW.out (by repeat (first | (with_reducible assumption) | (exact bel_undr (by with_reducible assumption)) | (with_reducible exact bel_refl _) | (with_reducible refine bel_dr ?_) | (with_reducible refine bel_drN ?_ _) | (with_reducible refine bel_al ?_ _) | (refine bel_set ?_ (by first | (simp; done) | (simp; exact Below.size (by assumption)) | (simp; omega)) _) | (with_reducible refine bel_tr ?_ (by assumption)))), by repeat (first | (with_reducible assumption) | (exact bel_undr (by with_reducible assumption)) | (with_reducible exact bel_refl _) | (with_reducible refine bel_dr ?_) | (with_reducible refine bel_drN ?_ _) | (with_reducible refine bel_al ?_ _) | (refine bel_set ?_ (by first | (simp; done) | (simp; exact Below.size (by assumption)) | (simp; omega)) _) | (with_reducible refine bel_tr ?_ (by assumption)))⟩
                case measure => simp [intOf]; omega
            · obtain rfl : i = a.length := by omega
              go_wp2
              go_roundw
              case rel => exact ⟨X, rfl, .inr (.inl ⟨rfl, by simpa using hN⟩), by first | exact hownX | exact own_below hownX (by repeat (first | (with_reducible assumption) | (exact bel_undr (by with_reducible assumption)) | (with_reducible exact bel_refl _) | (with_reducible refine bel_dr ?_) | (with_reducible refine bel_drN ?_ _) | (with_reducible refine bel_al ?_ _) | (refine bel_set ?_ (by first | (simp; done) | (simp; exact Below.size (by assumption)) | (simp; omega)) _) | (with_reducible refine bel_tr ?_ (by assumption)))), by repeat (first | (with_reducible assumption) | (exact bel_undr (by with_reducible assumption)) | (with_reducible exact bel_refl _) | (with_reducible refine bel_dr ?_) | (with_reducible refine bel_drN ?_ _) | (with_reducible refine bel_al ?_ _) | (refine bel_set ?_ (by first | (simp; done) | (simp; exact Below.size (by assumption)) | (simp; omega)) _) | (with_reducible refine bel_tr ?_ (by assumption)))⟩
              case measure => simp [intOf]
        · go_wp2
          go_loopw [7, 10, 11] (fun x at' k wr => ∃ (i : Nat) (X : Int), i ≤ b.length ∧ k = .int .i64 i ∧ at' = .int .i64 (tsum b i) ∧ x = .int .i64 X ∧ NxP T (enK a a.length ++ enK b i) X ∧ wr.ownsRow w.heap.size 3 1 (.slice (some ⟨gg9, 0, none⟩) (M.length + 1) cp9) (M ++ [T]).length (flat csIn (M ++ [T])) ∧ Below w.heap.size w wr) (fun _ _ k _ => b.length - (intOf k).toNat)
          case atStart => exact ⟨0, X, Nat.zero_le _, rfl, rfl, rfl, by have h9 := hN; simpa [enK] using h9, by first | exact hownX | exact own_below hownX (by repeat (first | (with_reducible assumption) | (exact bel_undr (by with_reducible assumption)) | (with_reducible exact bel_refl _) | (with_reducible refine bel_dr ?_) | (with_reducible refine bel_drN ?_ _) | (with_reducible refine bel_al ?_ _) | (refine bel_set ?_ (by first | (simp; done) | (simp; exact Below.size (by assumption)) | (simp; omega)) _) | (with_reducible refine bel_tr ?_ (by assumption)))), by repeat (first | (with_reducible assumption) | (exact bel_undr (by with_reducible assumption)) | (with_reducible exact bel_refl _) | (with_reducible refine bel_dr ?_) | (with_reducible refine bel_drN ?_ _) | (with_reducible refine bel_al ?_ _) | (refine bel_set ?_ (by first | (simp; done) | (simp; exact Below.size (by assumption)) | (simp; omega)) _) | (with_reducible refine bel_tr ?_ (by assumption)))⟩
          case round =>
            obtain ⟨i, X, hi, rfl, rfl, rfl, hN, hownX, hbX⟩ := hrel
            by_cases hlt : i < b.length
            · obtain ⟨b9, off, rfl, hlb, hc⟩ := (hrb.below hbX) (by omega)
              have hck := hc i hlt
              clear hc
              have hs0 := (vvB_of hvb).tsum_bd i (by omega)
              have h60 := (vvB_of hvb).len
              have ht := (vvB_of hvb).tickT i hlt
              have hkl : (i : Int) < (b.length : Int) := by omega
              have hk0 : (0 : Int) ≤ (i : Int) := by omega
              have HEN := Lib.hid (show enK a a.length ++ enK b (i + 1) = (enK a a.length ++ enK b i) ++ [tsum b i + (atNt b i).ticks] from by rw [enK_s, List.append_assoc]; rfl)
              have HS : Hid (tsum b (i + 1) = tsum b i + (atNt b i).ticks) := by show _ = _; rfl
              have HNX := Lib.hid hN
              have HOW := Lib.hid hownX
              have XB : -1 ≤ X := by rcases hN with ⟨e, _⟩ | ⟨_, e, _⟩ <;> omega
              clear hN hownX
              generalize tsum b i = V at *
              generalize atNt b i = x at hck ht HS HEN
              obtain ⟨r, s, a', o', tk, d⟩ := x
              obtain ⟨p0, p1, p2, p3, p4, p5⟩ := hck
              simp only at p0 p1 p2 p3 p4 p5 ht HS HEN
              clear p0 p1 p2 p3 p5
              have hV := IntWalk.i64_in (V + tk) (by omega)
              by_cases c1 : T < V + tk
              · by_cases c2 : X < 0
                · have hP : T < V + tk ∧ (X < 0 ∨ V + tk < X) := ⟨c1, .inl c2⟩
                  have HP := Lib.hid hP
                  clear hP
                  go_wp2
                  go_roundw
                  case rel => exact ⟨i + 1, V + tk, by omega, by go_num, by rw [HS.out], rfl, by have h9 := HNX.out.step (y := V + tk) HT0.out; rw [if_pos HP.out] at h9; rw [HEN.out]; exact h9, by first | exact HOW.out | exact own_below HOW.out (by repeat (first | (with_reducible assumption) | (exact bel_undr (by with_reducible assumption)) | (with_reducible exact bel_refl _) | (with_reducible refine bel_dr ?_) | (with_reducible refine bel_drN ?_ _) | (with_reducible refine bel_al ?_ _) | (refine bel_set ?_ (by first | (simp; done) | (simp; exact Below.size (by assumption)) | (simp; omega)) _) | (with_reducible refine bel_tr ?_ (by assumption)))), by repeat (first | (with_reducible assumption) | (exact bel_undr (by with_reducible assumption)) | (with_reducible exact bel_refl _) | (with_reducible refine bel_dr ?_) | (with_reducible refine bel_drN ?_ _) | (with_reducible refine bel_al ?_ _) | (refine bel_set ?_ (by first | (simp; done) | (simp; exact Below.size (by assumption)) | (simp; omega)) _) | (with_reducible refine bel_tr ?_ (by assumption)))⟩
                  case measure => simp [intOf]; omega
                · by_cases c3 : V + tk < X
                  · have hP : T < V + tk ∧ (X < 0 ∨ V + tk < X) := ⟨c1, .inr c3⟩
                    have HP := Lib.hid hP
                    clear hP
                    go_wp2
                    go_roundw
                    case rel => exact ⟨i + 1, V + tk, by omega, by go_num, by rw [HS.out], rfl, by have h9 := HNX.out.step (y := V + tk) HT0.out; rw [if_pos HP.out] at h9; rw [HEN.out]; exact h9, by first | exact HOW.out | exact own_below HOW.out (by repeat (first | (with_reducible assumption) | (exact bel_undr (by with_reducible assumption)) | (with_reducible exact bel_refl _) | (with_reducible refine bel_dr ?_) | (with_reducible refine bel_drN ?_ _) | (with_reducible refine bel_al ?_ _) | (refine bel_set ?_ (by first | (simp; done) | (simp; exact Below.size (by assumption)) | (simp; omega)) _) | (with_reducible refine bel_tr ?_ (by assumption)))), by repeat (first | (with_reducible assumption) | (exact bel_undr (by with_reducible assumption)) | (with_reducible exact bel_refl _) | (with_reducible refine bel_dr ?_) | (with_reducible refine bel_drN ?_ _) | (with_reducible refine bel_al ?_ _) | (refine bel_set ?_ (by first | (simp; done) | (simp; exact Below.size (by assumption)) | (simp; omega)) _) | (with_reducible refine bel_tr ?_ (by assumption)))⟩
                    case measure => simp [intOf]; omega
                  · have hP : ¬ (T < V + tk ∧ (X < 0 ∨ V + tk < X)) := fun z => by rcases z.2 with z | z; exact c2 z; exact c3 z
                    have HP := Lib.hid hP
                    clear hP
                    go_wp2
                    go_roundw
                    case rel => exact ⟨i + 1, X, by omega, by go_num, by rw [HS.out], rfl, by have h9 := HNX.out.step (y := V + tk) HT0.out; rw [if_neg HP.out] at h9; rw [HEN.out]; exact h9, by first | exact HOW.out | exact own_below HOW.out (by repeat (first | (with_reducible assumption) | (exact bel_undr (by with_reducible assumption)) | (with_reducible exact bel_refl _) | (with_reducible refine bel_dr ?_) | (with_reducible refine bel_drN ?_ _) | (with_reducible refine bel_al ?_ _) | (refine bel_set ?_ (by first | (simp; done) | (simp; exact Below.size (by assumption)) | (simp; omega)) _) | (with_reducible refine bel_tr ?_ (by assumption)))), by repeat (first | (with_reducible assumption) | (exact bel_undr (by with_reducible assumption)) | (with_reducible exact bel_refl _) | (with_reducible refine bel_dr ?_) | (with_reducible refine bel_drN ?_ _) | (with_reducible refine bel_al ?_ _) | (refine bel_set ?_ (by first | (simp; done) | (simp; exact Below.size (by assumption)) | (simp; omega)) _) | (with_reducible refine bel_tr ?_ (by assumption)))⟩
                    case measure => simp [intOf]; omega
              · have hP : ¬ (T < V + tk ∧ (X < 0 ∨ V + tk < X)) := fun z => c1 z.1
                have HP := Lib.hid hP
                clear hP
                go_wp2
                go_roundw
                case rel => exact ⟨i + 1, X, by omega, by go_num, by rw [HS.out], rfl, by have h9 := HNX.out.step (y := V + tk) HT0.out; rw [if_neg HP.out] at h9; rw [HEN.out]; exact h9, by first | exact HOW.out | exact own_below HOW.out (by repeat (first | (with_reducible assumption) | (exact bel_undr (by with_reducible assumption)) | (with_reducible exact bel_refl _) | (with_reducible refine bel_dr ?_) | (with_reducible refine bel_drN ?_ _) | (with_reducible refine bel_al ?_ _) | (refine bel_set ?_ (by first | (simp; done) | (simp; exact Below.size (by assumption)) | (simp; omega)) _) | (with_reducible refine bel_tr ?_ (by assumption)))), by repeat (first | (with_reducible assumption) | (exact bel_undr (by with_reducible assumption)) | (with_reducible exact bel_refl _) | (with_reducible refine bel_dr ?_) | (with_reducible refine bel_drN ?_ _) | (with_reducible refine bel_al ?_ _) | (refine bel_set ?_ (by first | (simp; done) | (simp; exact Below.size (by assumption)) | (simp; omega)) _) | (with_reducible refine bel_tr ?_ (by assumption)))⟩
                case measure => simp [intOf]; omega
            · obtain rfl : i = b.length := by omega
              go_wp2
              go_roundw
              case rel => exact ⟨X, rfl, .inr (.inr ⟨rfl, by simpa using hN⟩), by first | exact hownX | exact own_below hownX (by repeat (first | (with_reducible assumption) | (exact bel_undr (by with_reducible assumption)) | (with_reducible exact bel_refl _) | (with_reducible refine bel_dr ?_) | (with_reducible refine bel_drN ?_ _) | (with_reducible refine bel_al ?_ _) | (refine bel_set ?_ (by first | (simp; done) | (simp; exact Below.size (by assumption)) | (simp; omega)) _) | (with_reducible refine bel_tr ?_ (by assumption)))), by repeat (first | (with_reducible assumption) | (exact bel_undr (by with_reducible assumption)) | (with_reducible exact bel_refl _) | (with_reducible refine bel_dr ?_) | (with_reducible refine bel_drN ?_ _) | (with_reducible refine bel_al ?_ _) | (refine bel_set ?_ (by first | (simp; done) | (simp; exact Below.size (by assumption)) | (simp; omega)) _) | (with_reducible refine bel_tr ?_ (by assumption)))⟩
              case measure => simp [intOf]
        · obtain ⟨x1, x2, x3⟩ := HOI.out.next HTT.out hN
          have HX3 := Lib.hid x3
          have x4 := x3.le (vvB_of hva) (vvB_of hvb)
          clear x3
          have HN := Lib.hid hN
          clear hN
          have hx0 : ¬ X < 0 := by omega
          go_wp2
          go_roundw
          case rel => exact ⟨M ++ [T], X, rfl, HX3.out, by rw [List.length_append, List.length_singleton]; omega, by first | (rw [List.length_append, List.length_singleton] at hownX ⊢; exact hownX) | exact hownX, by repeat (first | (with_reducible assumption) | (exact bel_undr (by with_reducible assumption)) | (with_reducible exact bel_refl _) | (with_reducible refine bel_dr ?_) | (with_reducible refine bel_drN ?_ _) | (with_reducible refine bel_al ?_ _) | (refine bel_set ?_ (by first | (simp; done) | (simp; exact Below.size (by assumption)) | (simp; omega)) _) | (with_reducible refine bel_tr ?_ (by assumption)))⟩
          case measure => simp [intOf]; omega
    · go_wp2_with fail
      refine (svts_val HB.out _ _ _ _ rfl hvb (hrb.below hb1)).mono ?_
      rintro e2 w2 ⟨rfl, b2⟩
      have hb2 := bel_tr hb1 b2
      have hown2 := own_below hown1 b2
      have hs2 := hb2.size
      clear hown1 hb1 b2
      by_cases hc2 : T < TB
      · have HTT := Lib.hid (show T < tsum a a.length ∨ T < tsum b b.length from .inr (by rw [HB.out]; exact hc2))
        go_upto_region 5 with (at_builtin; go_must (refine wpList_append_lies _ rfl _ _ 24 rfl w.heap.size 3 i0 _ 1 8 Try.underlying24 hi0 hz0 hz1 hz2 rfl (by omega) _ M.length (flat csIn M) rfl (hown2.alloc _) ⟨w2.heap.size, 0, none⟩ 1 1 [.int .i64 T] rfl rfl (World.news_of_block (cs := #[.int .i64 T]) (t := 3) (fr := (0, 0)) (heap_alloc_new w2 _)) (by simp [Value.oneCell']) (by first | (simp; done) | (simp; omega)) (by unfold maxLen; omega) (by omega) (by simp; omega) _ rfl ?_; intro gg9 cp9 w9 hown9 hgrow9 hat9 hlt9))
        have hown9' : w9.ownsRow w.heap.size 3 1 (.slice (some ⟨gg9, 0, none⟩) (M.length + 1) cp9) (M ++ [T]).length (flat csIn (M ++ [T])) := by rw [List.length_append, List.length_singleton, ← flatIn_s]; exact hown9
        have hb9 : Below w.heap.size w w9 := own_bel (hown2.alloc _) (bel_al hb2 _) (Nat.le_refl _) hgrow9
        clear hown9 hgrow9 hown2 hat9 hlt9 hb2
        go_wp2
        go_loopw [7, 8, 9, 10, 11] (fun x v _ _ _ wr => ∃ X : Int, x = .int .i64 X ∧ ((v = .int .i64 0 ∧ NxP T [] X) ∨ (v = .int .i64 1 ∧ NxP T (enK a a.length) X) ∨ (v = .int .i64 2 ∧ NxP T (enK a a.length ++ enK b b.length) X)) ∧ wr.ownsRow w.heap.size 3 1 (.slice (some ⟨gg9, 0, none⟩) (M.length + 1) cp9) (M ++ [T]).length (flat csIn (M ++ [T])) ∧ Below w.heap.size w wr) (fun _ v _ _ _ _ => 2 - (intOf v).toNat)
        case atStart => exact ⟨-1, rfl, .inl ⟨rfl, NxP.nil T⟩, hown9', hb9⟩
        case round =>
          clear hown9' hb9
          obtain ⟨X, rfl, hj, hownX, hbX⟩ := hrel
          rcases hj with ⟨rfl, hN⟩ | ⟨rfl, hN⟩ | ⟨rfl, hN⟩
          · go_wp2
            go_loopw [7, 10, 11] (fun x at' k wr => ∃ (i : Nat) (X : Int), i ≤ a.length ∧ k = .int .i64 i ∧ at' = .int .i64 (tsum a i) ∧ x = .int .i64 X ∧ NxP T (([] : List Int) ++ enK a i) X ∧ wr.ownsRow w.heap.size 3 1 (.slice (some ⟨gg9, 0, none⟩) (M.length + 1) cp9) (M ++ [T]).length (flat csIn (M ++ [T])) ∧ Below w.heap.size w wr) (fun _ _ k _ => a.length - (intOf k).toNat)
            case atStart => exact ⟨0, X, Nat.zero_le _, rfl, rfl, rfl, by have h9 := hN; simpa [enK] using h9, by first | exact hownX | exact own_below hownX (by repeat (first | (with_reducible assumption) | (exact bel_undr (by with_reducible assumption)) | (with_reducible exact bel_refl _) | (with_reducible refine bel_dr ?_) | (with_reducible refine bel_drN ?_ _) | (with_reducible refine bel_al ?_ _) | (refine bel_set ?_ (by first | (simp; done) | (simp; exact Below.size (by assumption)) | (simp; omega)) _) | (with_reducible refine bel_tr ?_ (by assumption)))), by repeat (first | (with_reducible assumption) | (exact bel_undr (by with_reducible assumption)) | (with_reducible exact bel_refl _) | (with_reducible refine bel_dr ?_) | (with_reducible refine bel_drN ?_ _) | (with_reducible refine bel_al ?_ _) | (refine bel_set ?_ (by first | (simp; done) | (simp; exact Below.size (by assumption)) | (simp; omega)) _) | (with_reducible refine bel_tr ?_ (by assumption)))⟩
            case round =>
              obtain ⟨i, X, hi, rfl, rfl, rfl, hN, hownX, hbX⟩ := hrel
              by_cases hlt : i < a.length
              · obtain ⟨b9, off, rfl, hlb, hc⟩ := (hra.below hbX) (by omega)
                have hck := hc i hlt
                clear hc
                have hs0 := (vvB_of hva).tsum_bd i (by omega)
                have h60 := (vvB_of hva).len
                have ht := (vvB_of hva).tickT i hlt
                have hkl : (i : Int) < (a.length : Int) := by omega
                have hk0 : (0 : Int) ≤ (i : Int) := by omega
                have HEN := Lib.hid (show ([] : List Int) ++ enK a (i + 1) = (([] : List Int) ++ enK a i) ++ [tsum a i + (atNt a i).ticks] from by rw [enK_s, List.append_assoc]; rfl)
                have HS : Hid (tsum a (i + 1) = tsum a i + (atNt a i).ticks) := by show _ = _; rfl
                have HNX := Lib.hid hN
                have HOW := Lib.hid hownX
                have XB : -1 ≤ X := by rcases hN with ⟨e, _⟩ | ⟨_, e, _⟩ <;> omega
                clear hN hownX
                generalize tsum a i = V at *
                generalize atNt a i = x at hck ht HS HEN
                obtain ⟨r, s, a', o', tk, d⟩ := x
                obtain ⟨p0, p1, p2, p3, p4, p5⟩ := hck
                simp only at p0 p1 p2 p3 p4 p5 ht HS HEN
                clear p0 p1 p2 p3 p5
                have hV := IntWalk.i64_in (V + tk) (by omega)
                by_cases c1 : T < V + tk
                · by_cases c2 : X < 0
                  · have hP : T < V + tk ∧ (X < 0 ∨ V + tk < X) := ⟨c1, .inl c2⟩
                    have HP := Lib.hid hP
                    clear hP
                    go_wp2
                    go_roundw
                    case rel => exact ⟨i + 1, V + tk, by omega, by go_num, by rw [HS.out], rfl, by have h9 := HNX.out.step (y := V + tk) HT0.out; rw [if_pos HP.out] at h9; rw [HEN.out]; exact h9, by first | exact HOW.out | exact own_below HOW.out (by repeat (first | (with_reducible assumption) | (exact bel_undr (by with_reducible assumption)) | (with_reducible exact bel_refl _) | (with_reducible refine bel_dr ?_) | (with_reducible refine bel_drN ?_ _) | (with_reducible refine bel_al ?_ _) | (refine bel_set ?_ (by first | (simp; done) | (simp; exact Below.size (by assumption)) | (simp; omega)) _) | (with_reducible refine bel_tr ?_ (by assumption)))), by repeat (first | (with_reducible assumption) | (exact bel_undr (by with_reducible assumption)) | (with_reducible exact bel_refl _) | (with_reducible refine bel_dr ?_) | (with_reducible refine bel_drN ?_ _) | (with_reducible refine bel_al ?_ _) | (refine bel_set ?_ (by first | (simp; done) | (simp; exact Below.size (by assumption)) | (simp; omega)) _) | (with_reducible refine bel_tr ?_ (by assumption)))⟩
                    case measure => simp [intOf]; omega
                  · by_cases c3 : V + tk < X
                    · have hP : T < V + tk ∧ (X < 0 ∨ V + tk < X) := ⟨c1, .inr c3⟩
                      have HP := Lib.hid hP
                      clear hP
                      go_wp2
                      go_roundw
                      case rel => exact ⟨i + 1, V + tk, by omega, by go_num, by rw [HS.out], rfl, by have h9 := HNX.out.step (y := V + tk) HT0.out; rw [if_pos HP.out] at h9; rw [HEN.out]; exact h9, by first | exact HOW.out | exact own_below HOW.out (by repeat (first | (with_reducible assumption) | (exact bel_undr (by with_reducible assumption)) | (with_reducible exact bel_refl _) | (with_reducible refine bel_dr ?_) | (with_reducible refine bel_drN ?_ _) | (with_reducible refine bel_al ?_ _) | (refine bel_set ?_ (by first | (simp; done) | (simp; exact Below.size (by assumption)) | (simp; omega)) _) | (with_reducible refine bel_tr ?_ (by assumption)))), by repeat (first | (with_reducible assumption) | (exact bel_undr (by with_reducible assumption)) | (with_reducible exact bel_refl _) | (with_reducible refine bel_dr ?_) | (with_reducible refine bel_drN ?_ _) | (with_reducible refine bel_al ?_ _) | (refine bel_set ?_ (by first | (simp; done) | (simp; exact Below.size (by assumption)) | (simp; omega)) _) | (with_reducible refine bel_tr ?_ (by assumption)))⟩
                      case measure => simp [intOf]; omega
                    · have hP : ¬ (T < V + tk ∧ (X < 0 ∨ V + tk < X)) := fun z => by rcases z.2 with z | z; exact c2 z; exact c3 z
                      have HP := Lib.hid hP
                      clear hP
                      go_wp2
                      go_roundw
                      case rel => exact ⟨i + 1, X, by omega, by go_num, by rw [HS.out], rfl, by have h9 := HNX.out.step (y := V + tk) HT0.out; rw [if_neg HP.out] at h9; rw [HEN.out]; exact h9, by first | exact HOW.out | exact own_below HOW.out (by repeat (first | (with_reducible assumption) | (exact bel_undr (by with_reducible assumption)) | (with_reducible exact bel_refl _) | (with_reducible refine bel_dr ?_) | (with_reducible refine bel_drN ?_ _) | (with_reducible refine bel_al ?_ _) | (refine bel_set ?_ (by first | (simp; done) | (simp; exact Below.size (by assumption)) | (simp; omega)) _) | (with_reducible refine bel_tr ?_ (by assumption)))), by repeat (first | (with_reducible assumption) | (exact bel_undr (by with_reducible assumption)) | (with_reducible exact bel_refl _) | (with_reducible refine bel_dr ?_) | (with_reducible refine bel_drN ?_ _) | (with_reducible refine bel_al ?_ _) | (refine bel_set ?_ (by first | (simp; done) | (simp; exact Below.size (by assumption)) | (simp; omega)) _) | (with_reducible refine bel_tr ?_ (by assumption)))⟩
                      case measure => simp [intOf]; omega
                · have hP : ¬ (T < V + tk ∧ (X < 0 ∨ V + tk < X)) := fun z => c1 z.1
                  have HP := Lib.hid hP
                  clear hP
                  go_wp2
                  go_roundw
                  case rel => exact ⟨i + 1, X, by omega, by go_num, by rw [HS.out], rfl, by have h9 := HNX.out.step (y := V + tk) HT0.out; rw [if_neg HP.out] at h9; rw [HEN.out]; exact h9, by first | exact HOW.out | exact own_below HOW.out (by repeat (first | (with_reducible assumption) | (exact bel_undr (by with_reducible assumption)) | (with_reducible exact bel_refl _) | (with_reducible refine bel_dr ?_) | (with_reducible refine bel_drN ?_ _) | (with_reducible refine bel_al ?_ _) | (refine bel_set ?_ (by first | (simp; done) | (simp; exact Below.size (by assumption)) | (simp; omega)) _) | (with_reducible refine bel_tr ?_ (by assumption)))), by repeat (first | (with_reducible assumption) | (exact bel_undr (by with_reducible assumption)) | (with_reducible exact bel_refl _) | (with_reducible refine bel_dr ?_) | (with_reducible refine bel_drN ?_ _) | (with_reducible refine bel_al ?_ _) | (refine bel_set ?_ (by first | (simp; done) | (simp; exact Below.size (by assumption)) | (simp; omega)) _) | (with_reducible refine bel_tr ?_ (by assumption)))⟩
                  case measure => simp [intOf]; omega
              · obtain rfl : i = a.length := by omega
                go_wp2
                go_roundw
                case rel => exact ⟨X, rfl, .inr (.inl ⟨rfl, by simpa using hN⟩), by first | exact hownX | exact own_below hownX (by repeat (first | (with_reducible assumption) | (exact bel_undr (by with_reducible assumption)) | (with_reducible exact bel_refl _) | (with_reducible refine bel_dr ?_) | (with_reducible refine bel_drN ?_ _) | (with_reducible refine bel_al ?_ _) | (refine bel_set ?_ (by first | (simp; done) | (simp; exact Below.size (by assumption)) | (simp; omega)) _) | (with_reducible refine bel_tr ?_ (by assumption)))), by repeat (first | (with_reducible assumption) | (exact bel_undr (by with_reducible assumption)) | (with_reducible exact bel_refl _) | (with_reducible refine bel_dr ?_) | (with_reducible refine bel_drN ?_ _) | (with_reducible refine bel_al ?_ _) | (refine bel_set ?_ (by first | (simp; done) | (simp; exact Below.size (by assumption)) | (simp; omega)) _) | (with_reducible refine bel_tr ?_ (by assumption)))⟩
                case measure => simp [intOf]
          · go_wp2
            go_loopw [7, 10, 11] (fun x at' k wr => ∃ (i : Nat) (X : Int), i ≤ b.length ∧ k = .int .i64 i ∧ at' = .int .i64 (tsum b i) ∧ x = .int .i64 X ∧ NxP T (enK a a.length ++ enK b i) X ∧ wr.ownsRow w.heap.size 3 1 (.slice (some ⟨gg9, 0, none⟩) (M.length + 1) cp9) (M ++ [T]).length (flat csIn (M ++ [T])) ∧ Below w.heap.size w wr) (fun _ _ k _ => b.length - (intOf k).toNat)
            case atStart => exact ⟨0, X, Nat.zero_le _, rfl, rfl, rfl, by have h9 := hN; simpa [enK] using h9, by first | exact hownX | exact own_below hownX (by repeat (first | (with_reducible assumption) | (exact bel_undr (by with_reducible assumption)) | (with_reducible exact bel_refl _) | (with_reducible refine bel_dr ?_) | (with_reducible refine bel_drN ?_ _) | (with_reducible refine bel_al ?_ _) | (refine bel_set ?_ (by first | (simp; done) | (simp; exact Below.size (by assumption)) | (simp; omega)) _) | (with_reducible refine bel_tr ?_ (by assumption)))), by repeat (first | (with_reducible assumption) | (exact bel_undr (by with_reducible assumption)) | (with_reducible exact bel_refl _) | (with_reducible refine bel_dr ?_) | (with_reducible refine bel_drN ?_ _) | (with_reducible refine bel_al ?_ _) | (refine bel_set ?_ (by first | (simp; done) | (simp; exact Below.size (by assumption)) | (simp; omega)) _) | (with_reducible refine bel_tr ?_ (by assumption)))⟩
            case round =>
              obtain ⟨i, X, hi, rfl, rfl, rfl, hN, hownX, hbX⟩ := hrel
              by_cases hlt : i < b.length
              · obtain ⟨b9, off, rfl, hlb, hc⟩ := (hrb.below hbX) (by omega)
                have hck := hc i hlt
                clear hc
                have hs0 := (vvB_of hvb).tsum_bd i (by omega)
                have h60 := (vvB_of hvb).len
                have ht := (vvB_of hvb).tickT i hlt
                have hkl : (i : Int) < (b.length : Int) := by omega
                have hk0 : (0 : Int) ≤ (i : Int) := by omega
                have HEN := Lib.hid (show enK a a.length ++ enK b (i + 1) = (enK a a.length ++ enK b i) ++ [tsum b i + (atNt b i).ticks] from by rw [enK_s, List.append_assoc]; rfl)
                have HS : Hid (tsum b (i + 1) = tsum b i + (atNt b i).ticks) := by show _ = _; rfl
                have HNX := Lib.hid hN
                have HOW := Lib.hid hownX
                have XB : -1 ≤ X := by rcases hN with ⟨e, _⟩ | ⟨_, e, _⟩ <;> omega
                clear hN hownX
                generalize tsum b i = V at *
                generalize atNt b i = x at hck ht HS HEN
                obtain ⟨r, s, a', o', tk, d⟩ := x
                obtain ⟨p0, p1, p2, p3, p4, p5⟩ := hck
                simp only at p0 p1 p2 p3 p4 p5 ht HS HEN
                clear p0 p1 p2 p3 p5
                have hV := IntWalk.i64_in (V + tk) (by omega)
                by_cases c1 : T < V + tk
                · by_cases c2 : X < 0
                  · have hP : T < V + tk ∧ (X < 0 ∨ V + tk < X) := ⟨c1, .inl c2⟩
                    have HP := Lib.hid hP
                    clear hP
                    go_wp2
                    go_roundw
                    case rel => exact ⟨i + 1, V + tk, by omega, by go_num, by rw [HS.out], rfl, by have h9 := HNX.out.step (y := V + tk) HT0.out; rw [if_pos HP.out] at h9; rw [HEN.out]; exact h9, by first | exact HOW.out | exact own_below HOW.out (by repeat (first | (with_reducible assumption) | (exact bel_undr (by with_reducible assumption)) | (with_reducible exact bel_refl _) | (with_reducible refine bel_dr ?_) | (with_reducible refine bel_drN ?_ _) | (with_reducible refine bel_al ?_ _) | (refine bel_set ?_ (by first | (simp; done) | (simp; exact Below.size (by assumption)) | (simp; omega)) _) | (with_reducible refine bel_tr ?_ (by assumption)))), by repeat (first | (with_reducible assumption) | (exact bel_undr (by with_reducible assumption)) | (with_reducible exact bel_refl _) | (with_reducible refine bel_dr ?_) | (with_reducible refine bel_drN ?_ _) | (with_reducible refine bel_al ?_ _) | (refine bel_set ?_ (by first | (simp; done) | (simp; exact Below.size (by assumption)) | (simp; omega)) _) | (with_reducible refine bel_tr ?_ (by assumption)))⟩
                    case measure => simp [intOf]; omega
                  · by_cases c3 : V + tk < X
                    · have hP : T < V + tk ∧ (X < 0 ∨ V + tk < X) := ⟨c1, .inr c3⟩
                      have HP := Lib.hid hP
                      clear hP
                      go_wp2
                      go_roundw
                      case rel => exact ⟨i + 1, V + tk, by omega, by go_num, by rw [HS.out], rfl, by have h9 := HNX.out.step (y := V + tk) HT0.out; rw [if_pos HP.out] at h9; rw [HEN.out]; exact h9, by first | exact HOW.out | exact own_below HOW.out (by repeat (first | (with_reducible assumption) | (exact bel_undr (by with_reducible assumption)) | (with_reducible exact bel_refl _) | (with_reducible refine bel_dr ?_) | (with_reducible refine bel_drN ?_ _) | (with_reducible refine bel_al ?_ _) | (refine bel_set ?_ (by first | (simp; done) | (simp; exact Below.size (by assumption)) | (simp; omega)) _) | (with_reducible refine bel_tr ?_ (by assumption)))), by repeat (first | (with_reducible assumption) | (exact bel_undr (by with_reducible assumption)) | (with_reducible exact bel_refl _) | (with_reducible refine bel_dr ?_) | (with_reducible refine bel_drN ?_ _) | (with_reducible refine bel_al ?_ _) | (refine bel_set ?_ (by first | (simp; done) | (simp; exact Below.size (by assumption)) | (simp; omega)) _) | (with_reducible refine bel_tr ?_ (by assumption)))⟩
                      case measure => simp [intOf]; omega
                    · have hP : ¬ (T < V + tk ∧ (X < 0 ∨ V + tk < X)) := fun z => by rcases z.2 with z | z; exact c2 z; exact c3 z
                      have HP := Lib.hid hP
                      clear hP
                      go_wp2
                      go_roundw
                      case rel => exact ⟨i + 1, X, by omega, by go_num, by rw [HS.out], rfl, by have h9 := HNX.out.step (y := V + tk) HT0.out; rw [if_neg HP.out] at h9; rw [HEN.out]; exact h9, by first | exact HOW.out | exact own_below HOW.out (by repeat (first | (with_reducible assumption) | (exact bel_undr (by with_reducible assumption)) | (with_reducible exact bel_refl _) | (with_reducible refine bel_dr ?_) | (with_reducible refine bel_drN ?_ _) | (with_reducible refine bel_al ?_ _) | (refine bel_set ?_ (by first | (simp; done) | (simp; exact Below.size (by assumption)) | (simp; omega)) _) | (with_reducible refine bel_tr ?_ (by assumption)))), by repeat (first | (with_reducible assumption) | (exact bel_undr (by with_reducible assumption)) | (with_reducible exact bel_refl _) | (with_reducible refine bel_dr ?_) | (with_reducible refine bel_drN ?_ _) | (with_reducible refine bel_al ?_ _) | (refine bel_set ?_ (by first | (simp; done) | (simp; exact Below.size (by assumption)) | (simp; omega)) _) | (with_reducible refine bel_tr ?_ (by assumption)))⟩
                      case measure => simp [intOf]; omega
                · have hP : ¬ (T < V + tk ∧ (X < 0 ∨ V + tk < X)) := fun z => c1 z.1
                  have HP := Lib.hid hP
                  clear hP
                  go_wp2
                  go_roundw
                  case rel => exact ⟨i + 1, X, by omega, by go_num, by rw [HS.out], rfl, by have h9 := HNX.out.step (y := V + tk) HT0.out; rw [if_neg HP.out] at h9; rw [HEN.out]; exact h9, by first | exact HOW.out | exact own_below HOW.out (by repeat (first | (with_reducible assumption) | (exact bel_undr (by with_reducible assumption)) | (with_reducible exact bel_refl _) | (with_reducible refine bel_dr ?_) | (with_reducible refine bel_drN ?_ _) | (with_reducible refine bel_al ?_ _) | (refine bel_set ?_ (by first | (simp; done) | (simp; exact Below.size (by assumption)) | (simp; omega)) _) | (with_reducible refine bel_tr ?_ (by assumption)))), by repeat (first | (with_reducible assumption) | (exact bel_undr (by with_reducible assumption)) | (with_reducible exact bel_refl _) | (with_reducible refine bel_dr ?_) | (with_reducible refine bel_drN ?_ _) | (with_reducible refine bel_al ?_ _) | (refine bel_set ?_ (by first | (simp; done) | (simp; exact Below.size (by assumption)) | (simp; omega)) _) | (with_reducible refine bel_tr ?_ (by assumption)))⟩
                  case measure => simp [intOf]; omega
              · obtain rfl : i = b.length := by omega
                go_wp2
                go_roundw
                case rel => exact ⟨X, rfl, .inr (.inr ⟨rfl, by simpa using hN⟩), by first | exact hownX | exact own_below hownX (by repeat (first | (with_reducible assumption) | (exact bel_undr (by with_reducible assumption)) | (with_reducible exact bel_refl _) | (with_reducible refine bel_dr ?_) | (with_reducible refine bel_drN ?_ _) | (with_reducible refine bel_al ?_ _) | (refine bel_set ?_ (by first | (simp; done) | (simp; exact Below.size (by assumption)) | (simp; omega)) _) | (with_reducible refine bel_tr ?_ (by assumption)))), by repeat (first | (with_reducible assumption) | (exact bel_undr (by with_reducible assumption)) | (with_reducible exact bel_refl _) | (with_reducible refine bel_dr ?_) | (with_reducible refine bel_drN ?_ _) | (with_reducible refine bel_al ?_ _) | (refine bel_set ?_ (by first | (simp; done) | (simp; exact Below.size (by assumption)) | (simp; omega)) _) | (with_reducible refine bel_tr ?_ (by assumption)))⟩
                case measure => simp [intOf]
          · obtain ⟨x1, x2, x3⟩ := HOI.out.next HTT.out hN
            have HX3 := Lib.hid x3
            have x4 := x3.le (vvB_of hva) (vvB_of hvb)
            clear x3
            have HN := Lib.hid hN
            clear hN
            have hx0 : ¬ X < 0 := by omega
            go_wp2
            go_roundw
            case rel => exact ⟨M ++ [T], X, rfl, HX3.out, by rw [List.length_append, List.length_singleton]; omega, by first | (rw [List.length_append, List.length_singleton] at hownX ⊢; exact hownX) | exact hownX, by repeat (first | (with_reducible assumption) | (exact bel_undr (by with_reducible assumption)) | (with_reducible exact bel_refl _) | (with_reducible refine bel_dr ?_) | (with_reducible refine bel_drN ?_ _) | (with_reducible refine bel_al ?_ _) | (refine bel_set ?_ (by first | (simp; done) | (simp; exact Below.size (by assumption)) | (simp; omega)) _) | (with_reducible refine bel_tr ?_ (by assumption)))⟩
            case measure => simp [intOf]; omega
      · have HE := Lib.hid ((HOI.out.stop hva hvb (by rw [HA.out, HB.out]; omega)).eq hL)
        go_wp2
        exact bodyPost_ret (v := u5) (by simp [results, Try.results37, go_sem]) rfl ⟨u5, rfl, by rw [← HE.out]; exact hown2, hb2⟩
end Go.Proofs.Ytiapfpjggginoaa
