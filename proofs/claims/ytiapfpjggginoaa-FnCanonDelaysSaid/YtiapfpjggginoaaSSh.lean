/- Voices moved by an interval: the reference. -/
import Derived.Test.YtiapfpjggginoaaShC
namespace Go.Proofs.Ytiapfpjggginoaa
set_option linter.unusedSimpArgs false
set_option linter.unusedVariables false
open Go.RowKit

set_option maxRecDepth 20000 in
set_option maxHeartbeats 8000000 in
theorem sshv_any (A : Option Addr) (n c : Nat) (l : List Nt) (st ha : Int) (w : World) (hn : l.length = n) (hm : n ≤ 2000000) (h : RowNt w w.heap.size A l) :
    Calls Try.prog 53 #[.slice A n c, .agg #[.int .i64 st, .int .i64 ha]] w (Sh w l st ha) := by
  subst hn
  have h0 := (h.below (bel_al (bel_refl w) (.cells #[.int .i64 st, .int .i64 ha] 44))).below (bel_al (bel_refl _) (.cells #[] 55))
  have b0 : Below w.heap.size w ((w.alloc (.cells #[.int .i64 st, .int .i64 ha] 44)).alloc (.cells #[] 55)) := bel_al (bel_al (bel_refl w) _) _
  have bV : Blk ((w.alloc (.cells #[.int .i64 st, .int .i64 ha] 44)).alloc (.cells #[] 55)) w.heap.size #[.int .i64 st, .int .i64 ha] 44 := (Blk.new w _ _).alloc _
  obtain ⟨i0, hi0, hz0, hz1, hz2⟩ := info_parts infoNt
  have own0 : ((w.alloc (.cells #[.int .i64 st, .int .i64 ha] 44)).alloc (.cells #[] 55)).ownsRow (w.heap.size + 1) 55 6 (.slice (some ⟨w.heap.size + 1, 0, none⟩) 0 0) ([] : List Nt).length (flat csNt []) := by
    have h := World.ownsRow_lit (base := w.heap.size + 1) (e := 55) (size := 6) (w.alloc (.cells #[.int .i64 st, .int .i64 ha] 44)) #[] 0 (by simp) (by simp [maxLen]) rfl
    rw [World.size_alloc] at h
    exact h
  cases hv : vvB l
  · have HN := Lib.hid (sh_no (st := st) (ha := ha) (fun z => by rw [hv] at z; cases z.1))
    have HV := Lib.hid hv
    clear hv
    go_enter Try.func53, Try.ntmps53
    go_wp2_with fail
    generalize ((w.alloc (.cells #[.int .i64 st, .int .i64 ha] 44)).alloc (.cells #[] 55)) = w0 at *
    refine (svv_val HV.out _ _ _ _ rfl hm h0).mono ?_
    rintro e1 w1 ⟨rfl, b1⟩
    have bV := bV.below b1
    have b0 := bel_tr b0 b1
    have h0 := h0.below b1
    have own0 := own_below own0 b1
    clear b1
    have cV0 : w1.cell? ⟨w.heap.size, 0, none⟩ = some (.int .i64 st) := by rw [Blk.cell bV]; rfl
    have cV1 : w1.cell? ⟨w.heap.size, 1, none⟩ = some (.int .i64 ha) := by rw [Blk.cell bV]; rfl
    go_wp2
    exact bodyPost_ret (v := .tuple #[.slice (some ⟨w.heap.size + 1, 0, none⟩) 0 0, .bool false]) (by simp [results, Try.results53, go_sem]) rfl ⟨_, by rw [HN.out.1], by rw [HN.out.2]; exact own_base own0 (by omega), b0⟩
  · cases hi : ivB st ha
    · have HN := Lib.hid (sh_no (l := l) (fun z => by rw [hi] at z; cases z.2))
      have HV := Lib.hid hv
      have HI := Lib.hid hi
      clear hv hi
      go_enter Try.func53, Try.ntmps53
      go_wp2_with fail
      generalize ((w.alloc (.cells #[.int .i64 st, .int .i64 ha] 44)).alloc (.cells #[] 55)) = w0 at *
      refine (svv_val HV.out _ _ _ _ rfl hm h0).mono ?_
      rintro e1 w1 ⟨rfl, b1⟩
      have bV := bV.below b1
      have b0 := bel_tr b0 b1
      have h0 := h0.below b1
      have own0 := own_below own0 b1
      clear b1
      have cV0 : w1.cell? ⟨w.heap.size, 0, none⟩ = some (.int .i64 st) := by rw [Blk.cell bV]; rfl
      have cV1 : w1.cell? ⟨w.heap.size, 1, none⟩ = some (.int .i64 ha) := by rw [Blk.cell bV]; rfl
      go_wp2_with fail
      refine (siv_val HI.out _).mono ?_
      rintro e2 w2 ⟨rfl, b2⟩
      have bV := bV.below b2
      have b0 := bel_tr b0 b2
      have h0 := h0.below b2
      have own0 := own_below own0 b2
      clear b2
      have cV0 : w2.cell? ⟨w.heap.size, 0, none⟩ = some (.int .i64 st) := by rw [Blk.cell bV]; rfl
      have cV1 : w2.cell? ⟨w.heap.size, 1, none⟩ = some (.int .i64 ha) := by rw [Blk.cell bV]; rfl
      go_wp2
      exact bodyPost_ret (v := .tuple #[.slice (some ⟨w.heap.size + 1, 0, none⟩) 0 0, .bool false]) (by simp [results, Try.results53, go_sem]) rfl ⟨_, by rw [HN.out.1], by rw [HN.out.2]; exact own_base own0 (by omega), b0⟩
    · have HV := Lib.hid hv
      have HI := Lib.hid hi
      have h60 := (vvB_of hv).len
      clear hv hi
      go_enter Try.func53, Try.ntmps53
      go_wp2_with fail
      generalize ((w.alloc (.cells #[.int .i64 st, .int .i64 ha] 44)).alloc (.cells #[] 55)) = w0 at *
      refine (svv_val HV.out _ _ _ _ rfl hm h0).mono ?_
      rintro e1 w1 ⟨rfl, b1⟩
      have bV := bV.below b1
      have b0 := bel_tr b0 b1
      have h0 := h0.below b1
      have own0 := own_below own0 b1
      clear b1
      have cV0 : w1.cell? ⟨w.heap.size, 0, none⟩ = some (.int .i64 st) := by rw [Blk.cell bV]; rfl
      have cV1 : w1.cell? ⟨w.heap.size, 1, none⟩ = some (.int .i64 ha) := by rw [Blk.cell bV]; rfl
      go_wp2_with fail
      refine (siv_val HI.out _).mono ?_
      rintro e2 w2 ⟨rfl, b2⟩
      have bV := bV.below b2
      have b0 := bel_tr b0 b2
      have h0 := h0.below b2
      have own0 := own_below own0 b2
      clear b2
      have cV0 : w2.cell? ⟨w.heap.size, 0, none⟩ = some (.int .i64 st) := by rw [Blk.cell bV]; rfl
      have cV1 : w2.cell? ⟨w.heap.size, 1, none⟩ = some (.int .i64 ha) := by rw [Blk.cell bV]; rfl
      have hw2 := b0.size
      have lV := bV.lt
      clear h0
      clear cV0 cV1 hw2 lV
      go_wp2
      go_loopw [6, 7, 8, 9, 10] (fun o i _ _ _ wr => ∃ k : Nat, k ≤ l.length ∧ i = .int .i64 k ∧ wr.ownsRow (w.heap.size + 1) 55 6 o (mvK st ha l k).length (flat csNt (mvK st ha l k)) ∧ Blk wr w.heap.size #[.int .i64 st, .int .i64 ha] 44 ∧ Below w.heap.size w wr ∧ Hid (∀ j, j < k → mvOk st ha (atNt l j))) (fun _ i _ _ _ _ => l.length - (intOf i).toNat)
      case atStart => exact ⟨0, Nat.zero_le _, rfl, own0, bV, b0, fun j hj => absurd hj (by omega)⟩
      case round =>
        obtain ⟨k, hk, rfl, hown, bVr, hb, HK⟩ := hrel
        clear own0 bV b0
        by_cases hlt : k < l.length
        · obtain ⟨b, off, rfl, hlb, hc⟩ := (h.below hb) (by omega)
          have hck := hc k hlt
          have hkl : (k : Int) < (l.length : Int) := by omega
          have hk0 : (0 : Int) ≤ (k : Int) := by omega
          have hlen := mvK_len st ha l k
          have hw := hb.size
          have hXo0 : ∀ b, _ = some b → b < wr.heap.size := fun b e => (own_lt hown e).2
          clear hc
          generalize hX : atNt l k = x at hck
          have HX := Lib.hid hX
          clear hX
          generalize hL : mvK st ha l k = L at hown hlen
          have HL := Lib.hid hL
          have HLEN := Lib.hid hlen
          have hL60 : L.length ≤ 60 := by omega
          clear hL hlen
          obtain ⟨r, s, a, o, t, d⟩ := x
          obtain ⟨p0, p1, p2, p3, p4, p5⟩ := hck
          simp only at p0 p1 p2 p3 p4 p5
          have bX : Blk (wr.alloc (.cells #[.bool r, .int .i64 s, .int .i64 a, .int .i64 o, .int .i64 t, .bool d] 55)) wr.heap.size #[.bool r, .int .i64 s, .int .i64 a, .int .i64 o, .int .i64 t, .bool d] 55 := Blk.new wr _ _
          have hownX := hown.alloc (.cells #[.bool r, .int .i64 s, .int .i64 a, .int .i64 o, .int .i64 t, .bool d] 55)
          have bVX := bVr.alloc (.cells #[.bool r, .int .i64 s, .int .i64 a, .int .i64 o, .int .i64 t, .bool d] 55)
          have hbX : Below w.heap.size w (wr.alloc (.cells #[.bool r, .int .i64 s, .int .i64 a, .int .i64 o, .int .i64 t, .bool d] 55)) := bel_al hb _
          go_upto_region 8 with fail
          clear p0 p1 p2 p3 p4 p5 hown hb bVr
          generalize (wr.alloc (.cells #[.bool r, .int .i64 s, .int .i64 a, .int .i64 o, .int .i64 t, .bool d] 55)) = v at *
          generalize wr.heap.size = X at *
          have hXo : ∀ b, _ = some b → ¬ b = X := fun b e c => by have := hXo0 b e; omega
          clear hXo0
          have hXW : w.heap.size ≤ X := by omega
          have hXV : w.heap.size ≠ X := by have := hbX.size; have := bX.lt; have := bVX.lt; intro e; subst e; have e1 := bX; have e2 := bVX; unfold Blk at e1 e2; rw [e1] at e2; cases e2
          have lX := bX.lt
          cases r
          · have m0 : v.cell? ⟨X, 0, none⟩ = some (.bool false) := by rw [Blk.cell bX]; rfl
            have m1 : v.cell? ⟨X, 1, none⟩ = some (.int .i64 s) := by rw [Blk.cell bX]; rfl
            have m2 : v.cell? ⟨X, 2, none⟩ = some (.int .i64 a) := by rw [Blk.cell bX]; rfl
            have m3 : v.cell? ⟨X, 3, none⟩ = some (.int .i64 o) := by rw [Blk.cell bX]; rfl
            have m4 : v.cell? ⟨X, 4, none⟩ = some (.int .i64 t) := by rw [Blk.cell bX]; rfl
            have m5 : v.cell? ⟨X, 5, none⟩ = some (.bool d) := by rw [Blk.cell bX]; rfl
            have cV0 : v.cell? ⟨w.heap.size, 0, none⟩ = some (.int .i64 st) := by rw [Blk.cell bVX]; rfl
            have cV1 : v.cell? ⟨w.heap.size, 1, none⟩ = some (.int .i64 ha) := by rw [Blk.cell bVX]; rfl
            have lV := bVX.lt
            obtain ⟨a1, h1⟩ : ∃ x, adS s a o st ha = x := ⟨_, rfl⟩
            obtain ⟨a2, h2⟩ : ∃ x, adA s a o st ha = x := ⟨_, rfl⟩
            obtain ⟨a3, h3⟩ : ∃ x, adO s a o st ha = x := ⟨_, rfl⟩
            have H1 := Lib.hid h1
            have H2 := Lib.hid h2
            have H3 := Lib.hid h3
            clear h1 h2 h3
            cases hok : adB s a o st ha
            · have HB := Lib.hid hok
              clear hok
              have HN := Lib.hid (sh_bad (l := l) (st := st) (ha := ha) k hlt (by rw [HX.out]; rintro (c | c); cases c; simp only at c; rw [HB.out] at c; cases c))
              go_wp2_with fail
              refine (sad_val H1.out H2.out H3.out HB.out _).mono ?_
              rintro e5 w5 ⟨rfl, b5⟩
              have bX := bX.below b5
              have hownX := own_below hownX b5
              have bVX := bVX.below b5
              have hbX : Below w.heap.size w w5 := bel_tr hbX b5
              have lX := bX.lt
              have hw5 := hbX.size
              clear b5 cV0 cV1 m0 m1 m2 m3 m4 m5
              go_wp2
              exact bodyPost_ret (v := .tuple #[.slice (some ⟨w5.heap.size + 1, 0, none⟩) 0 0, .bool false]) (by simp [results, Try.results53, go_sem]) rfl ⟨_, by rw [HN.out.1], by rw [HN.out.2]; exact (by have hl := World.ownsRow_lit (w5.alloc (.cells #[.int .i64 a1, .int .i64 a2, .int .i64 a3] 53)) #[] 0 (base := w.heap.size) (e := 55) (size := 6) (by simp; omega) (by simp [maxLen]) rfl; rw [World.size_alloc] at hl; exact hl), bel_al (bel_al hbX _) _⟩
            · have HB := Lib.hid hok
              have HOK : Hid (mvOk st ha (atNt l k)) := by show mvOk _ _ _; rw [HX.out]; exact .inr hok
              clear hok
              go_wp2_with fail
              refine (sad_val H1.out H2.out H3.out HB.out _).mono ?_
              rintro e5 w5 ⟨rfl, b5⟩
              have bX := bX.below b5
              have hownX := own_below hownX b5
              have bVX := bVX.below b5
              have hbX : Below w.heap.size w w5 := bel_tr hbX b5
              have lX := bX.lt
              have hw5 := hbX.size
              clear b5 cV0 cV1 m0 m1 m2 m3 m4 m5
              have m0 : w5.cell? ⟨X, 0, none⟩ = some (.bool false) := by rw [Blk.cell bX]; rfl
              have m1 : w5.cell? ⟨X, 1, none⟩ = some (.int .i64 s) := by rw [Blk.cell bX]; rfl
              have m2 : w5.cell? ⟨X, 2, none⟩ = some (.int .i64 a) := by rw [Blk.cell bX]; rfl
              have m3 : w5.cell? ⟨X, 3, none⟩ = some (.int .i64 o) := by rw [Blk.cell bX]; rfl
              have m4 : w5.cell? ⟨X, 4, none⟩ = some (.int .i64 t) := by rw [Blk.cell bX]; rfl
              have m5 : w5.cell? ⟨X, 5, none⟩ = some (.bool d) := by rw [Blk.cell bX]; rfl
              have fX0 := bX.free 0
              have fX1 := bX.free 1
              have fX2 := bX.free 2
              have fX3 := bX.free 3
              have fX4 := bX.free 4
              have fX5 := bX.free 5
              go_upto_region 13 with fail
              have hownY := (own_off (q := ⟨X, 3, none⟩) (own_off (q := ⟨X, 2, none⟩) (own_off (q := ⟨X, 1, none⟩) (hownX) (fun e => hXo X e rfl) (.int .i64 a1)) (fun e => hXo X e rfl) (.int .i64 a2)) (fun e => hXo X e rfl) (.int .i64 a3)).alloc (.cells #[.int .i64 a1, .int .i64 a2, .int .i64 a3] 53)
              have bXY : Blk ((((w5.setCell ⟨X, 1, none⟩ (.int .i64 a1)).setCell ⟨X, 2, none⟩ (.int .i64 a2)).setCell ⟨X, 3, none⟩ (.int .i64 a3)).alloc (.cells #[.int .i64 a1, .int .i64 a2, .int .i64 a3] 53)) X #[.bool false, .int .i64 a1, .int .i64 a2, .int .i64 a3, .int .i64 t, .bool d] 55 := (((bX.s61).s62).s63).alloc _
              have bVY : Blk ((((w5.setCell ⟨X, 1, none⟩ (.int .i64 a1)).setCell ⟨X, 2, none⟩ (.int .i64 a2)).setCell ⟨X, 3, none⟩ (.int .i64 a3)).alloc (.cells #[.int .i64 a1, .int .i64 a2, .int .i64 a3] 53)) w.heap.size #[.int .i64 st, .int .i64 ha] 44 := ((((bVX).off (by simp only; exact hXV) _).off (by simp only; exact hXV) _).off (by simp only; exact hXV) _).alloc _
              have hX0 : w.heap.size ≤ X := hXW
              have hbY : Below w.heap.size w ((((w5.setCell ⟨X, 1, none⟩ (.int .i64 a1)).setCell ⟨X, 2, none⟩ (.int .i64 a2)).setCell ⟨X, 3, none⟩ (.int .i64 a3)).alloc (.cells #[.int .i64 a1, .int .i64 a2, .int .i64 a3] 53)) := bel_al (bel_set (bel_set (bel_set hbX hX0 _) hX0 _) hX0 _) _
              clear hownX bX bVX hbX m0 m1 m2 m3 m4 m5 lX hw5 fX0 fX1 fX2 fX3 fX4 fX5
              generalize ((((w5.setCell ⟨X, 1, none⟩ (.int .i64 a1)).setCell ⟨X, 2, none⟩ (.int .i64 a2)).setCell ⟨X, 3, none⟩ (.int .i64 a3)).alloc (.cells #[.int .i64 a1, .int .i64 a2, .int .i64 a3] 53)) = v6 at *
              have bX := bXY
              clear bXY
              have lX := bX.lt
              have hw6 := hbY.size
              have m0 : v6.cell? ⟨X, 0, none⟩ = some (.bool false) := by rw [Blk.cell bX]; rfl
              have m1 : v6.cell? ⟨X, 1, none⟩ = some (.int .i64 a1) := by rw [Blk.cell bX]; rfl
              have m2 : v6.cell? ⟨X, 2, none⟩ = some (.int .i64 a2) := by rw [Blk.cell bX]; rfl
              have m3 : v6.cell? ⟨X, 3, none⟩ = some (.int .i64 a3) := by rw [Blk.cell bX]; rfl
              have m4 : v6.cell? ⟨X, 4, none⟩ = some (.int .i64 t) := by rw [Blk.cell bX]; rfl
              have m5 : v6.cell? ⟨X, 5, none⟩ = some (.bool d) := by rw [Blk.cell bX]; rfl
              go_wp2_with (at_builtin; go_must (refine wpList_append_lies _ rfl _ _ 26 rfl (w.heap.size + 1) 55 i0 _ 6 48 Try.underlying26 hi0 hz0 hz1 hz2 rfl (by omega) _ L.length (flat csNt L) rfl (hownY.alloc _) ⟨v6.heap.size, 0, none⟩ 1 1 [.bool false, .int .i64 a1, .int .i64 a2, .int .i64 a3, .int .i64 t, .bool d] rfl rfl (World.news_of_block (cs := #[.bool false, .int .i64 a1, .int .i64 a2, .int .i64 a3, .int .i64 t, .bool d]) (t := 55) (fr := (0, 0)) (heap_alloc_new v6 _)) (by simp [Value.oneCell']) (by omega) (by unfold maxLen; omega) (by omega) (by simp; omega) _ rfl ?_; intro gg9 cp9 w9 hown9 hgrow9 hat9 hlt9))
              have hb9 : Below w.heap.size w w9 := bel_grown (bel_al hbY (.cells #[.bool false, .int .i64 a1, .int .i64 a2, .int .i64 a3, .int .i64 t, .bool d] 55)) hgrow9 (fun k hk => by have := own_ge hownY k hk; omega)
              have bV9 : Blk w9 w.heap.size #[.int .i64 st, .int .i64 ha] 44 := (bVY.alloc (.cells #[.bool false, .int .i64 a1, .int .i64 a2, .int .i64 a3, .int .i64 t, .bool d] 55)).grown hgrow9 (fun e => by have := own_ge hownY _ e; omega)
              have hq := own_push (t := (⟨false, a1, a2, a3, t, d⟩ : Nt)) hown9 rfl
              go_roundw
              case rel => exact ⟨k + 1, by omega, by go_num, by rw [mvK, HL.out, show mvN st ha (atNt l k) = (⟨false, a1, a2, a3, t, d⟩ : Nt) from by rw [HX.out]; unfold mvN; rw [if_neg (by simp)]; simp only; rw [H1.out, H2.out, H3.out]]; exact hq, bV9, hb9, hid_snoc HK HOK.out⟩
              case measure => simp [intOf]; omega
          · have m0 : v.cell? ⟨X, 0, none⟩ = some (.bool true) := by rw [Blk.cell bX]; rfl
            have m1 : v.cell? ⟨X, 1, none⟩ = some (.int .i64 s) := by rw [Blk.cell bX]; rfl
            have m2 : v.cell? ⟨X, 2, none⟩ = some (.int .i64 a) := by rw [Blk.cell bX]; rfl
            have m3 : v.cell? ⟨X, 3, none⟩ = some (.int .i64 o) := by rw [Blk.cell bX]; rfl
            have m4 : v.cell? ⟨X, 4, none⟩ = some (.int .i64 t) := by rw [Blk.cell bX]; rfl
            have m5 : v.cell? ⟨X, 5, none⟩ = some (.bool d) := by rw [Blk.cell bX]; rfl
            have HOK : Hid (mvOk st ha (atNt l k)) := by show mvOk _ _ _; rw [HX.out]; exact .inl rfl
            have hwv := hbX.size
            go_wp2_with (at_builtin; go_must (refine wpList_append_lies _ rfl _ _ 26 rfl (w.heap.size + 1) 55 i0 _ 6 48 Try.underlying26 hi0 hz0 hz1 hz2 rfl (by omega) _ L.length (flat csNt L) rfl (hownX.alloc _) ⟨v.heap.size, 0, none⟩ 1 1 [.bool true, .int .i64 s, .int .i64 a, .int .i64 o, .int .i64 t, .bool d] rfl rfl (World.news_of_block (cs := #[.bool true, .int .i64 s, .int .i64 a, .int .i64 o, .int .i64 t, .bool d]) (t := 55) (fr := (0, 0)) (heap_alloc_new v _)) (by simp [Value.oneCell']) (by omega) (by unfold maxLen; omega) (by omega) (by simp; omega) _ rfl ?_; intro gg9 cp9 w9 hown9 hgrow9 hat9 hlt9))
            have hb9 : Below w.heap.size w w9 := bel_grown (bel_al hbX (.cells #[.bool true, .int .i64 s, .int .i64 a, .int .i64 o, .int .i64 t, .bool d] 55)) hgrow9 (fun k hk => by have := own_ge hownX k hk; omega)
            have bV9 : Blk w9 w.heap.size #[.int .i64 st, .int .i64 ha] 44 := (bVX.alloc (.cells #[.bool true, .int .i64 s, .int .i64 a, .int .i64 o, .int .i64 t, .bool d] 55)).grown hgrow9 (fun e => by have := own_ge hownX _ e; omega)
            have hq := own_push (t := (⟨true, s, a, o, t, d⟩ : Nt)) hown9 rfl
            go_roundw
            case rel => exact ⟨k + 1, by omega, by go_num, by rw [mvK, HL.out, show mvN st ha (atNt l k) = (⟨true, s, a, o, t, d⟩ : Nt) from by rw [HX.out]; unfold mvN; rw [if_pos rfl]]; exact hq, bV9, hb9, hid_snoc HK HOK.out⟩
            case measure => simp [intOf]; omega
        · obtain rfl : k = l.length := by omega
          have HE := Lib.hid (sh_yes HV.out HI.out HK.out)
          obtain ⟨A9, c9, rfl, _, _, _⟩ := own_open csNt_len ⟨false, 0, 0, 0, 0, false⟩ hown
          go_wp2
          exact bodyPost_ret (v := .tuple #[.slice A9 (mvK st ha l l.length).length c9, .bool true]) (by simp [results, Try.results53, go_sem]) rfl ⟨_, by rw [HE.out.1], by rw [HE.out.2]; exact own_base hown (by omega), hb⟩
end Go.Proofs.Ytiapfpjggginoaa
