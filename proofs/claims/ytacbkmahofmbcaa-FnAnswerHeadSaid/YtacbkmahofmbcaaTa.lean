/- Tonal answers: the program. -/
import Derived.Test.YtacbkmahofmbcaaTaC
import Derived.Deep.AppendLies
namespace Go.Proofs.Ytacbkmahofmbcaa
set_option linter.unusedSimpArgs false
set_option linter.unusedVariables false
open Go.RowKit

set_option maxRecDepth 20000 in
set_option maxHeartbeats 8000000 in
theorem ta_any (A : Option Addr) (n c : Nat) (l : List Nt) (f : Int) (m : Bool) (hd : Int) (w : World) (hn : l.length = n) (hm : n ≤ 2000000) (h : RowNt w w.heap.size A l) :
    Calls Try.prog 7 #[.int .i64 f, .bool m, .slice A n c, .int .i64 hd] w (ShR w (taL f m l hd) (taB f m l hd)) := by
  subst hn
  obtain ⟨i0, hi0, hz0, hz1, hz2⟩ := info_parts infoNt
  have h0 := h
  have b0 : Below w.heap.size w w := bel_refl w
  by_cases hf : -7 ≤ f ∧ f ≤ 7
  · cases hv : vvB l
    · have HN := Lib.hid (ta_no (f := f) (m := m) (l := l) (h := hd) (fun z => by have := z.2.1; rw [hv] at this; cases this))
      have HV := Lib.hid hv
      obtain ⟨f0, f1⟩ := hf
      clear hv
      go_enter Try.func7, Try.ntmps7
      go_wp2_with (go_at_call 26; refine (ik_yes _ _ (by omega) (by omega)).mono ?_; rintro e w' ⟨rfl, rfl⟩)
      refine (vv_val HV.out _ _ _ _ rfl hm h0).mono ?_
      rintro e1 w1 ⟨rfl, b1⟩
      have b0 := bel_tr b0 b1
      have h0 := h0.below b1
      clear b1
      go_wp2
      exact bodyPost_ret (v := .tuple #[.slice none 0 0, .bool false]) (by simp [results, Try.results7, go_sem]) rfl ⟨_, 0, by rw [HN.out.1, HN.out.2]; rfl, by rw [HN.out.2]; exact Nat.le_refl _, by simp [maxLen], RowNt.nil _ _ _ (by rw [HN.out.2]; rfl), fun h => by rw [HN.out.2] at h; exact absurd h (by simp), b0⟩
    · by_cases hh : 0 ≤ hd ∧ hd ≤ (l.length : Int)
      · have HV := Lib.hid hv
        have HF := Lib.hid hf
        have HH := Lib.hid hh
        obtain ⟨f0, f1⟩ := hf
        obtain ⟨hd0, hd1⟩ := hh
        have h60 := (vvB_of hv).len
        clear hv
        go_enter Try.func7, Try.ntmps7
        go_wp2_with (go_at_call 26; refine (ik_yes _ _ (by omega) (by omega)).mono ?_; rintro e w' ⟨rfl, rfl⟩)
        refine (vv_val HV.out _ _ _ _ rfl hm h0).mono ?_
        rintro e1 w1 ⟨rfl, b1⟩
        have b0 := bel_tr b0 b1
        have h0 := h0.below b1
        clear b1
        have hw1 := b0.size
        have own0 : (w1.alloc (.cells #[] 33)).ownsRow w.heap.size 33 6 (.slice (some ⟨w1.heap.size, 0, none⟩) 0 0) ([] : List Nt).length (flat csNt []) := World.ownsRow_lit w1 #[] 0 (by omega) (by simp [maxLen]) rfl
        have b0 := bel_al b0 (.cells #[] 33)
        clear hw1
        clear h0
        go_wp2_with (go_at_call 27; refine (win_yes _ _ _ _ (by omega) (by omega)).mono ?_; rintro e w' ⟨rfl, rfl⟩)
        go_loopw [10, 11, 12, 13, 14, 15, 16, 17, 36] (fun o _ _ _ _ _ _ _ i wr => ∃ k : Nat, k ≤ l.length ∧ i = .int .i64 k ∧ wr.ownsRow w.heap.size 33 6 o (taK f m hd l k).length (flat csNt (taK f m hd l k)) ∧ Below w.heap.size w wr ∧ Hid (∀ j, j < k → taOk f m hd l j)) (fun _ _ _ _ _ _ _ _ i _ => l.length - (intOf i).toNat)
        case atStart => exact ⟨0, Nat.zero_le _, rfl, own0, b0, fun j hj => absurd hj (by omega)⟩
        case round =>
          obtain ⟨k, hk, rfl, hown, hb, HK⟩ := hrel
          clear own0 b0
          by_cases hlt : k < l.length
          · obtain ⟨b, off, rfl, hlb, hc⟩ := (h.below hb) (by omega)
            have hck := hc k hlt
            have hkl : (k : Int) < (l.length : Int) := by omega
            have hk0 : (0 : Int) ≤ (k : Int) := by omega
            have hlen := taK_len f m hd l k
            have hw := hb.size
            have hXo0 : ∀ b, _ = some b → b < wr.heap.size := fun b e => (own_lt hown e).2
            clear hc
            generalize hX : atNt l k = x at hck
            have HX := Lib.hid hX
            clear hX
            generalize hL : taK f m hd l k = L at hown hlen
            have HL := Lib.hid hL
            have HLEN := Lib.hid hlen
            have hL60 : L.length ≤ 60 := by omega
            clear hL hlen
            obtain ⟨r, s, a, o, t, d⟩ := x
            obtain ⟨p0, p1, p2, p3, p4, p5⟩ := hck
            simp only at p0 p1 p2 p3 p4 p5
            have hsz : (wr.alloc (.cells #[.bool r, .int .i64 s, .int .i64 a, .int .i64 o, .int .i64 t, .bool d] 33)).heap.size = wr.heap.size + 1 := by simp
            have bX : Blk ((wr.alloc (.cells #[.bool r, .int .i64 s, .int .i64 a, .int .i64 o, .int .i64 t, .bool d] 33)).alloc (.cells #[.int .i64 4, .int .i64 7] 58)) wr.heap.size #[.bool r, .int .i64 s, .int .i64 a, .int .i64 o, .int .i64 t, .bool d] 33 := (Blk.new wr _ _).alloc _
            have bY : Blk ((wr.alloc (.cells #[.bool r, .int .i64 s, .int .i64 a, .int .i64 o, .int .i64 t, .bool d] 33)).alloc (.cells #[.int .i64 4, .int .i64 7] 58)) (wr.heap.size + 1) #[.int .i64 4, .int .i64 7] 58 := by rw [← hsz]; exact Blk.new (wr.alloc (.cells #[.bool r, .int .i64 s, .int .i64 a, .int .i64 o, .int .i64 t, .bool d] 33)) _ _
            have hownX := (hown.alloc (.cells #[.bool r, .int .i64 s, .int .i64 a, .int .i64 o, .int .i64 t, .bool d] 33)).alloc (.cells #[.int .i64 4, .int .i64 7] 58)
            have hbX : Below w.heap.size w ((wr.alloc (.cells #[.bool r, .int .i64 s, .int .i64 a, .int .i64 o, .int .i64 t, .bool d] 33)).alloc (.cells #[.int .i64 4, .int .i64 7] 58)) := bel_al (bel_al hb _) _
            have hXW : w.heap.size ≤ wr.heap.size := hw
            go_upto_region 8 with fail
            clear p0 p1 p2 p3 p4 p5 hown hb hw hsz
            generalize ((wr.alloc (.cells #[.bool r, .int .i64 s, .int .i64 a, .int .i64 o, .int .i64 t, .bool d] 33)).alloc (.cells #[.int .i64 4, .int .i64 7] 58)) = v at *
            generalize hPX : wr.heap.size = X at *
            have hXo : ∀ b, _ = some b → ¬ b = X := fun b e c => by have := hXo0 b e; omega
            have hYo : ∀ b, _ = some b → ¬ b = X + 1 := fun b e c => by have := hXo0 b e; omega
            clear hXo0 hPX
            have lX := bX.lt
            have lY := bY.lt
            have m0 : v.cell? ⟨X, 0, none⟩ = some (.bool r) := by rw [Blk.cell bX]; rfl
            have m1 : v.cell? ⟨X, 1, none⟩ = some (.int .i64 s) := by rw [Blk.cell bX]; rfl
            have m2 : v.cell? ⟨X, 2, none⟩ = some (.int .i64 a) := by rw [Blk.cell bX]; rfl
            have m3 : v.cell? ⟨X, 3, none⟩ = some (.int .i64 o) := by rw [Blk.cell bX]; rfl
            have m4 : v.cell? ⟨X, 4, none⟩ = some (.int .i64 t) := by rw [Blk.cell bX]; rfl
            have m5 : v.cell? ⟨X, 5, none⟩ = some (.bool d) := by rw [Blk.cell bX]; rfl
            have y0 : v.cell? ⟨X + 1, 0, none⟩ = some (.int .i64 4) := by rw [Blk.cell bY]; rfl
            have y1 : v.cell? ⟨X + 1, 1, none⟩ = some (.int .i64 7) := by rw [Blk.cell bY]; rfl
            obtain ⟨D, hD⟩ : ∃ x, deD f m s a o = x := ⟨_, rfl⟩
            obtain ⟨O, hO⟩ : ∃ x, deO f s a o = x := ⟨_, rfl⟩
            have HD := Lib.hid hD
            have HO := Lib.hid hO
            clear hD hO
            go_wp2_with fail
            refine (dg_val HD.out HO.out _).mono ?_
            rintro e2 w2 ⟨rfl, b2⟩
            have bX := bX.below b2
            have bY := bY.below b2
            have hownX := own_below hownX b2
            have hbX : Below w.heap.size w w2 := bel_tr hbX b2
            have lX := bX.lt
            have lY := bY.lt
            clear m0 m1 m2 m3 m4 m5 y0 y1
            clear b2
            have m0 : w2.cell? ⟨X, 0, none⟩ = some (.bool r) := by rw [Blk.cell bX]; rfl
            have m1 : w2.cell? ⟨X, 1, none⟩ = some (.int .i64 s) := by rw [Blk.cell bX]; rfl
            have m2 : w2.cell? ⟨X, 2, none⟩ = some (.int .i64 a) := by rw [Blk.cell bX]; rfl
            have m3 : w2.cell? ⟨X, 3, none⟩ = some (.int .i64 o) := by rw [Blk.cell bX]; rfl
            have m4 : w2.cell? ⟨X, 4, none⟩ = some (.int .i64 t) := by rw [Blk.cell bX]; rfl
            have m5 : w2.cell? ⟨X, 5, none⟩ = some (.bool d) := by rw [Blk.cell bX]; rfl
            have y0 : w2.cell? ⟨X + 1, 0, none⟩ = some (.int .i64 4) := by rw [Blk.cell bY]; rfl
            have y1 : w2.cell? ⟨X + 1, 1, none⟩ = some (.int .i64 7) := by rw [Blk.cell bY]; rfl
            by_cases c1 : (k : Int) < hd
            · by_cases c2 : D = 4
              · by_cases c3 : O = 0
                · have HS : Hid (taS f m hd k (atNt l k) = 3) := by show _ = _; unfold taS; rw [if_pos (show taC f m hd k (atNt l k) from by unfold taC; rw [HX.out]; exact ⟨c1, HD.out.trans c2, HO.out.trans c3⟩)]
                  have HT : Hid (taH f m hd k (atNt l k) = 5) := by show _ = _; unfold taH; rw [if_pos (show taC f m hd k (atNt l k) from by unfold taC; rw [HX.out]; exact ⟨c1, HD.out.trans c2, HO.out.trans c3⟩)]
                  subst c2 c3
                  have fY0 := bY.free 0
                  have fY1 := bY.free 1
                  go_upto_region 11 with fail
                  have bX3 : Blk ((w2.setCell ⟨X + 1, 0, none⟩ (.int .i64 3)).setCell ⟨X + 1, 1, none⟩ (.int .i64 5)) X #[.bool r, .int .i64 s, .int .i64 a, .int .i64 o, .int .i64 t, .bool d] 33 := (bX.off (by simp) _).off (by simp) _
                  have bY3 : Blk ((w2.setCell ⟨X + 1, 0, none⟩ (.int .i64 3)).setCell ⟨X + 1, 1, none⟩ (.int .i64 5)) (X + 1) #[.int .i64 3, .int .i64 5] 58 := (bY.s20).s21
                  have hown3 := own_off (q := ⟨X + 1, 1, none⟩) (own_off (q := ⟨X + 1, 0, none⟩) hownX (fun e => hYo (X + 1) e rfl) (.int .i64 3)) (fun e => hYo (X + 1) e rfl) (.int .i64 5)
                  have hb3 : Below w.heap.size w ((w2.setCell ⟨X + 1, 0, none⟩ (.int .i64 3)).setCell ⟨X + 1, 1, none⟩ (.int .i64 5)) := bel_set (bel_set hbX (by simp only; omega) _) (by simp only; omega) _
                  clear m0 m1 m2 m3 m4 m5 y0 y1
                  clear hownX bX bY hbX lX lY fY0 fY1
                  generalize ((w2.setCell ⟨X + 1, 0, none⟩ (.int .i64 3)).setCell ⟨X + 1, 1, none⟩ (.int .i64 5)) = w3 at *
                  have bX := bX3
                  have bY := bY3
                  have hownX := hown3
                  have hbX := hb3
                  clear bX3 bY3 hown3 hb3
                  have lX := bX.lt
                  have lY := bY.lt
                  have m0 : w3.cell? ⟨X, 0, none⟩ = some (.bool r) := by rw [Blk.cell bX]; rfl
                  have m1 : w3.cell? ⟨X, 1, none⟩ = some (.int .i64 s) := by rw [Blk.cell bX]; rfl
                  have m2 : w3.cell? ⟨X, 2, none⟩ = some (.int .i64 a) := by rw [Blk.cell bX]; rfl
                  have m3 : w3.cell? ⟨X, 3, none⟩ = some (.int .i64 o) := by rw [Blk.cell bX]; rfl
                  have m4 : w3.cell? ⟨X, 4, none⟩ = some (.int .i64 t) := by rw [Blk.cell bX]; rfl
                  have m5 : w3.cell? ⟨X, 5, none⟩ = some (.bool d) := by rw [Blk.cell bX]; rfl
                  have y0 : w3.cell? ⟨X + 1, 0, none⟩ = some (.int .i64 3) := by rw [Blk.cell bY]; rfl
                  have y1 : w3.cell? ⟨X + 1, 1, none⟩ = some (.int .i64 5) := by rw [Blk.cell bY]; rfl
                  cases r
                  · obtain ⟨a1, h1⟩ : ∃ x, adS s a o 3 5 = x := ⟨_, rfl⟩
                    obtain ⟨a2, h2⟩ : ∃ x, adA s a o 3 5 = x := ⟨_, rfl⟩
                    obtain ⟨a3, h3⟩ : ∃ x, adO s a o 3 5 = x := ⟨_, rfl⟩
                    have H1 := Lib.hid h1
                    have H2 := Lib.hid h2
                    have H3 := Lib.hid h3
                    clear h1 h2 h3
                    cases hok : adB s a o 3 5
                    · have HB := Lib.hid hok
                      clear hok
                      have HN := Lib.hid (ta_no (f := f) (m := m) (l := l) (h := hd) (fun z => by have hz := z.2.2.2.1 k hlt; unfold taOk at hz; rw [HS.out, HT.out, HX.out] at hz; rcases hz with c | c; cases c; simp only at c; rw [HB.out] at c; cases c))
                      go_wp2_with fail
                      refine (ad_val H1.out H2.out H3.out HB.out _).mono ?_
                      rintro e5 w5 ⟨rfl, b5⟩
                      have bX := bX.below b5
                      have hownX := own_below hownX b5
                      have hbX : Below w.heap.size w w5 := bel_tr hbX b5
                      have lX := bX.lt
                      have hw5 := hbX.size
                      clear m0 m1 m2 m3 m4 m5 y0 y1
                      clear b5 bY
                      go_wp2
                      exact bodyPost_ret (v := .tuple #[.slice none 0 0, .bool false]) (by simp [results, Try.results7, go_sem]) rfl ⟨_, 0, by rw [HN.out.1, HN.out.2]; rfl, by rw [HN.out.2]; exact Nat.le_refl _, by simp [maxLen], RowNt.nil _ _ _ (by rw [HN.out.2]; rfl), fun h => by rw [HN.out.2] at h; exact absurd h (by simp), bel_al hbX _⟩
                    · have HB := Lib.hid hok
                      have HOK : Hid (taOk f m hd l k) := by show taOk f m hd l k; unfold taOk; rw [HS.out, HT.out, HX.out]; exact .inr hok
                      clear hok
                      go_wp2_with fail
                      refine (ad_val H1.out H2.out H3.out HB.out _).mono ?_
                      rintro e5 w5 ⟨rfl, b5⟩
                      have bX := bX.below b5
                      have hownX := own_below hownX b5
                      have hbX : Below w.heap.size w w5 := bel_tr hbX b5
                      have lX := bX.lt
                      have hw5 := hbX.size
                      clear m0 m1 m2 m3 m4 m5 y0 y1
                      clear b5 bY
                      have m0 : w5.cell? ⟨X, 0, none⟩ = some (.bool false) := by rw [Blk.cell bX]; rfl
                      have m1 : w5.cell? ⟨X, 1, none⟩ = some (.int .i64 s) := by rw [Blk.cell bX]; rfl
                      have m2 : w5.cell? ⟨X, 2, none⟩ = some (.int .i64 a) := by rw [Blk.cell bX]; rfl
                      have m3 : w5.cell? ⟨X, 3, none⟩ = some (.int .i64 o) := by rw [Blk.cell bX]; rfl
                      have m4 : w5.cell? ⟨X, 4, none⟩ = some (.int .i64 t) := by rw [Blk.cell bX]; rfl
                      have m5 : w5.cell? ⟨X, 5, none⟩ = some (.bool d) := by rw [Blk.cell bX]; rfl
                      have fX0 := bX.free 0
                      have fX1 := bX.free 1
                      have fX2 := bX.free 2
                      have fX3 := bX.free 3
                      have fX4 := bX.free 4
                      have fX5 := bX.free 5
                      go_upto_region 16 with fail
                      have hownY := (own_off (q := ⟨X, 3, none⟩) (own_off (q := ⟨X, 2, none⟩) (own_off (q := ⟨X, 1, none⟩) (hownX) (fun e => hXo X e rfl) (.int .i64 a1)) (fun e => hXo X e rfl) (.int .i64 a2)) (fun e => hXo X e rfl) (.int .i64 a3)).alloc (.cells #[.int .i64 a1, .int .i64 a2, .int .i64 a3] 31)
                      have bXY : Blk ((((w5.setCell ⟨X, 1, none⟩ (.int .i64 a1)).setCell ⟨X, 2, none⟩ (.int .i64 a2)).setCell ⟨X, 3, none⟩ (.int .i64 a3)).alloc (.cells #[.int .i64 a1, .int .i64 a2, .int .i64 a3] 31)) X #[.bool false, .int .i64 a1, .int .i64 a2, .int .i64 a3, .int .i64 t, .bool d] 33 := (((bX.s61).s62).s63).alloc _
                      have hbY : Below w.heap.size w ((((w5.setCell ⟨X, 1, none⟩ (.int .i64 a1)).setCell ⟨X, 2, none⟩ (.int .i64 a2)).setCell ⟨X, 3, none⟩ (.int .i64 a3)).alloc (.cells #[.int .i64 a1, .int .i64 a2, .int .i64 a3] 31)) := bel_al (bel_set (bel_set (bel_set hbX hXW _) hXW _) hXW _) _
                      clear hownX bX hbX m0 m1 m2 m3 m4 m5 lX hw5 fX0 fX1 fX2 fX3 fX4 fX5
                      generalize ((((w5.setCell ⟨X, 1, none⟩ (.int .i64 a1)).setCell ⟨X, 2, none⟩ (.int .i64 a2)).setCell ⟨X, 3, none⟩ (.int .i64 a3)).alloc (.cells #[.int .i64 a1, .int .i64 a2, .int .i64 a3] 31)) = v6 at *
                      have bX := bXY
                      clear bXY
                      have lX := bX.lt
                      have hw6 := hbY.size
                      have m0 : v6.cell? ⟨X, 0, none⟩ = some (.bool false) := by rw [Blk.cell bX]; rfl
                      have m1 : v6.cell? ⟨X, 1, none⟩ = some (.int .i64 a1) := by rw [Blk.cell bX]; rfl
                      have m2 : v6.cell? ⟨X, 2, none⟩ = some (.int .i64 a2) := by rw [Blk.cell bX]; rfl
                      have m3 : v6.cell? ⟨X, 3, none⟩ = some (.int .i64 a3) := by rw [Blk.cell bX]; rfl
                      have m4 : v6.cell? ⟨X, 4, none⟩ = some (.int .i64 t) := by rw [Blk.cell bX]; rfl
                      have m5 : v6.cell? ⟨X, 5, none⟩ = some (.bool d) := by rw [Blk.cell bX]; rfl
                      go_wp2_with (at_builtin; go_must (refine wpList_append_lies _ rfl _ _ 23 rfl w.heap.size 33 i0 _ 6 48 Try.underlying23 hi0 hz0 hz1 hz2 rfl (by omega) _ L.length (flat csNt L) rfl (hownY.alloc _) ⟨v6.heap.size, 0, none⟩ 1 1 [.bool false, .int .i64 a1, .int .i64 a2, .int .i64 a3, .int .i64 t, .bool d] rfl rfl (World.news_of_block (cs := #[.bool false, .int .i64 a1, .int .i64 a2, .int .i64 a3, .int .i64 t, .bool d]) (t := 33) (fr := (0, 0)) (heap_alloc_new v6 _)) (by simp [Value.oneCell']) (by omega) (by unfold maxLen; omega) (by omega) (by simp; omega) _ rfl ?_; intro gg9 cp9 w9 hown9 hgrow9 hat9 hlt9))
                      have hb9 : Below w.heap.size w w9 := bel_grown (bel_al hbY (.cells #[.bool false, .int .i64 a1, .int .i64 a2, .int .i64 a3, .int .i64 t, .bool d] 33)) hgrow9 (fun k hk => by have := own_ge hownY k hk; omega)
                      have hq := own_push (t := (⟨false, a1, a2, a3, t, d⟩ : Nt)) hown9 rfl
                      go_roundw
                      case rel => exact ⟨k + 1, by omega, by go_num, by rw [taK, HL.out, HS.out, HT.out, show mvN 3 5 (atNt l k) = (⟨false, a1, a2, a3, t, d⟩ : Nt) from by rw [HX.out]; unfold mvN; rw [if_neg (by simp)]; simp only; rw [H1.out, H2.out, H3.out]]; exact hq, hb9, hid_snoc HK HOK.out⟩
                      case measure => simp [intOf]; omega
                  · have HOK : Hid (taOk f m hd l k) := by show taOk f m hd l k; unfold taOk; rw [HX.out]; exact .inl rfl
                    have hwv := hbX.size
                    go_wp2_with (at_builtin; go_must (refine wpList_append_lies _ rfl _ _ 23 rfl w.heap.size 33 i0 _ 6 48 Try.underlying23 hi0 hz0 hz1 hz2 rfl (by omega) _ L.length (flat csNt L) rfl (hownX.alloc _) ⟨w3.heap.size, 0, none⟩ 1 1 [.bool true, .int .i64 s, .int .i64 a, .int .i64 o, .int .i64 t, .bool d] rfl rfl (World.news_of_block (cs := #[.bool true, .int .i64 s, .int .i64 a, .int .i64 o, .int .i64 t, .bool d]) (t := 33) (fr := (0, 0)) (heap_alloc_new w3 _)) (by simp [Value.oneCell']) (by omega) (by unfold maxLen; omega) (by omega) (by simp; omega) _ rfl ?_; intro gg9 cp9 w9 hown9 hgrow9 hat9 hlt9))
                    have hb9 : Below w.heap.size w w9 := bel_grown (bel_al hbX (.cells #[.bool true, .int .i64 s, .int .i64 a, .int .i64 o, .int .i64 t, .bool d] 33)) hgrow9 (fun k hk => by have := own_ge hownX k hk; omega)
                    have hq := own_push (t := (⟨true, s, a, o, t, d⟩ : Nt)) hown9 rfl
                    go_roundw
                    case rel => exact ⟨k + 1, by omega, by go_num, by rw [taK, HL.out, HS.out, HT.out, show mvN 3 5 (atNt l k) = (⟨true, s, a, o, t, d⟩ : Nt) from by rw [HX.out]; unfold mvN; rw [if_pos rfl]]; exact hq, hb9, hid_snoc HK HOK.out⟩
                    case measure => simp [intOf]; omega
                · have HS : Hid (taS f m hd k (atNt l k) = 4) := by show _ = _; unfold taS; rw [if_neg (show ¬ taC f m hd k (atNt l k) from by unfold taC; rw [HX.out]; exact fun z => c3 (HO.out.symm.trans z.2.2))]
                  have HT : Hid (taH f m hd k (atNt l k) = 7) := by show _ = _; unfold taH; rw [if_neg (show ¬ taC f m hd k (atNt l k) from by unfold taC; rw [HX.out]; exact fun z => c3 (HO.out.symm.trans z.2.2))]
                  subst c2
                  go_upto_region 11 with fail
                  cases r
                  · obtain ⟨a1, h1⟩ : ∃ x, adS s a o 4 7 = x := ⟨_, rfl⟩
                    obtain ⟨a2, h2⟩ : ∃ x, adA s a o 4 7 = x := ⟨_, rfl⟩
                    obtain ⟨a3, h3⟩ : ∃ x, adO s a o 4 7 = x := ⟨_, rfl⟩
                    have H1 := Lib.hid h1
                    have H2 := Lib.hid h2
                    have H3 := Lib.hid h3
                    clear h1 h2 h3
                    cases hok : adB s a o 4 7
                    · have HB := Lib.hid hok
                      clear hok
                      have HN := Lib.hid (ta_no (f := f) (m := m) (l := l) (h := hd) (fun z => by have hz := z.2.2.2.1 k hlt; unfold taOk at hz; rw [HS.out, HT.out, HX.out] at hz; rcases hz with c | c; cases c; simp only at c; rw [HB.out] at c; cases c))
                      go_wp2_with fail
                      refine (ad_val H1.out H2.out H3.out HB.out _).mono ?_
                      rintro e5 w5 ⟨rfl, b5⟩
                      have bX := bX.below b5
                      have hownX := own_below hownX b5
                      have hbX : Below w.heap.size w w5 := bel_tr hbX b5
                      have lX := bX.lt
                      have hw5 := hbX.size
                      clear m0 m1 m2 m3 m4 m5 y0 y1
                      clear b5 bY
                      go_wp2
                      exact bodyPost_ret (v := .tuple #[.slice none 0 0, .bool false]) (by simp [results, Try.results7, go_sem]) rfl ⟨_, 0, by rw [HN.out.1, HN.out.2]; rfl, by rw [HN.out.2]; exact Nat.le_refl _, by simp [maxLen], RowNt.nil _ _ _ (by rw [HN.out.2]; rfl), fun h => by rw [HN.out.2] at h; exact absurd h (by simp), bel_al hbX _⟩
                    · have HB := Lib.hid hok
                      have HOK : Hid (taOk f m hd l k) := by show taOk f m hd l k; unfold taOk; rw [HS.out, HT.out, HX.out]; exact .inr hok
                      clear hok
                      go_wp2_with fail
                      refine (ad_val H1.out H2.out H3.out HB.out _).mono ?_
                      rintro e5 w5 ⟨rfl, b5⟩
                      have bX := bX.below b5
                      have hownX := own_below hownX b5
                      have hbX : Below w.heap.size w w5 := bel_tr hbX b5
                      have lX := bX.lt
                      have hw5 := hbX.size
                      clear m0 m1 m2 m3 m4 m5 y0 y1
                      clear b5 bY
                      have m0 : w5.cell? ⟨X, 0, none⟩ = some (.bool false) := by rw [Blk.cell bX]; rfl
                      have m1 : w5.cell? ⟨X, 1, none⟩ = some (.int .i64 s) := by rw [Blk.cell bX]; rfl
                      have m2 : w5.cell? ⟨X, 2, none⟩ = some (.int .i64 a) := by rw [Blk.cell bX]; rfl
                      have m3 : w5.cell? ⟨X, 3, none⟩ = some (.int .i64 o) := by rw [Blk.cell bX]; rfl
                      have m4 : w5.cell? ⟨X, 4, none⟩ = some (.int .i64 t) := by rw [Blk.cell bX]; rfl
                      have m5 : w5.cell? ⟨X, 5, none⟩ = some (.bool d) := by rw [Blk.cell bX]; rfl
                      have fX0 := bX.free 0
                      have fX1 := bX.free 1
                      have fX2 := bX.free 2
                      have fX3 := bX.free 3
                      have fX4 := bX.free 4
                      have fX5 := bX.free 5
                      go_upto_region 16 with fail
                      have hownY := (own_off (q := ⟨X, 3, none⟩) (own_off (q := ⟨X, 2, none⟩) (own_off (q := ⟨X, 1, none⟩) (hownX) (fun e => hXo X e rfl) (.int .i64 a1)) (fun e => hXo X e rfl) (.int .i64 a2)) (fun e => hXo X e rfl) (.int .i64 a3)).alloc (.cells #[.int .i64 a1, .int .i64 a2, .int .i64 a3] 31)
                      have bXY : Blk ((((w5.setCell ⟨X, 1, none⟩ (.int .i64 a1)).setCell ⟨X, 2, none⟩ (.int .i64 a2)).setCell ⟨X, 3, none⟩ (.int .i64 a3)).alloc (.cells #[.int .i64 a1, .int .i64 a2, .int .i64 a3] 31)) X #[.bool false, .int .i64 a1, .int .i64 a2, .int .i64 a3, .int .i64 t, .bool d] 33 := (((bX.s61).s62).s63).alloc _
                      have hbY : Below w.heap.size w ((((w5.setCell ⟨X, 1, none⟩ (.int .i64 a1)).setCell ⟨X, 2, none⟩ (.int .i64 a2)).setCell ⟨X, 3, none⟩ (.int .i64 a3)).alloc (.cells #[.int .i64 a1, .int .i64 a2, .int .i64 a3] 31)) := bel_al (bel_set (bel_set (bel_set hbX hXW _) hXW _) hXW _) _
                      clear hownX bX hbX m0 m1 m2 m3 m4 m5 lX hw5 fX0 fX1 fX2 fX3 fX4 fX5
                      generalize ((((w5.setCell ⟨X, 1, none⟩ (.int .i64 a1)).setCell ⟨X, 2, none⟩ (.int .i64 a2)).setCell ⟨X, 3, none⟩ (.int .i64 a3)).alloc (.cells #[.int .i64 a1, .int .i64 a2, .int .i64 a3] 31)) = v6 at *
                      have bX := bXY
                      clear bXY
                      have lX := bX.lt
                      have hw6 := hbY.size
                      have m0 : v6.cell? ⟨X, 0, none⟩ = some (.bool false) := by rw [Blk.cell bX]; rfl
                      have m1 : v6.cell? ⟨X, 1, none⟩ = some (.int .i64 a1) := by rw [Blk.cell bX]; rfl
                      have m2 : v6.cell? ⟨X, 2, none⟩ = some (.int .i64 a2) := by rw [Blk.cell bX]; rfl
                      have m3 : v6.cell? ⟨X, 3, none⟩ = some (.int .i64 a3) := by rw [Blk.cell bX]; rfl
                      have m4 : v6.cell? ⟨X, 4, none⟩ = some (.int .i64 t) := by rw [Blk.cell bX]; rfl
                      have m5 : v6.cell? ⟨X, 5, none⟩ = some (.bool d) := by rw [Blk.cell bX]; rfl
                      go_wp2_with (at_builtin; go_must (refine wpList_append_lies _ rfl _ _ 23 rfl w.heap.size 33 i0 _ 6 48 Try.underlying23 hi0 hz0 hz1 hz2 rfl (by omega) _ L.length (flat csNt L) rfl (hownY.alloc _) ⟨v6.heap.size, 0, none⟩ 1 1 [.bool false, .int .i64 a1, .int .i64 a2, .int .i64 a3, .int .i64 t, .bool d] rfl rfl (World.news_of_block (cs := #[.bool false, .int .i64 a1, .int .i64 a2, .int .i64 a3, .int .i64 t, .bool d]) (t := 33) (fr := (0, 0)) (heap_alloc_new v6 _)) (by simp [Value.oneCell']) (by omega) (by unfold maxLen; omega) (by omega) (by simp; omega) _ rfl ?_; intro gg9 cp9 w9 hown9 hgrow9 hat9 hlt9))
                      have hb9 : Below w.heap.size w w9 := bel_grown (bel_al hbY (.cells #[.bool false, .int .i64 a1, .int .i64 a2, .int .i64 a3, .int .i64 t, .bool d] 33)) hgrow9 (fun k hk => by have := own_ge hownY k hk; omega)
                      have hq := own_push (t := (⟨false, a1, a2, a3, t, d⟩ : Nt)) hown9 rfl
                      go_roundw
                      case rel => exact ⟨k + 1, by omega, by go_num, by rw [taK, HL.out, HS.out, HT.out, show mvN 4 7 (atNt l k) = (⟨false, a1, a2, a3, t, d⟩ : Nt) from by rw [HX.out]; unfold mvN; rw [if_neg (by simp)]; simp only; rw [H1.out, H2.out, H3.out]]; exact hq, hb9, hid_snoc HK HOK.out⟩
                      case measure => simp [intOf]; omega
                  · have HOK : Hid (taOk f m hd l k) := by show taOk f m hd l k; unfold taOk; rw [HX.out]; exact .inl rfl
                    have hwv := hbX.size
                    go_wp2_with (at_builtin; go_must (refine wpList_append_lies _ rfl _ _ 23 rfl w.heap.size 33 i0 _ 6 48 Try.underlying23 hi0 hz0 hz1 hz2 rfl (by omega) _ L.length (flat csNt L) rfl (hownX.alloc _) ⟨w2.heap.size, 0, none⟩ 1 1 [.bool true, .int .i64 s, .int .i64 a, .int .i64 o, .int .i64 t, .bool d] rfl rfl (World.news_of_block (cs := #[.bool true, .int .i64 s, .int .i64 a, .int .i64 o, .int .i64 t, .bool d]) (t := 33) (fr := (0, 0)) (heap_alloc_new w2 _)) (by simp [Value.oneCell']) (by omega) (by unfold maxLen; omega) (by omega) (by simp; omega) _ rfl ?_; intro gg9 cp9 w9 hown9 hgrow9 hat9 hlt9))
                    have hb9 : Below w.heap.size w w9 := bel_grown (bel_al hbX (.cells #[.bool true, .int .i64 s, .int .i64 a, .int .i64 o, .int .i64 t, .bool d] 33)) hgrow9 (fun k hk => by have := own_ge hownX k hk; omega)
                    have hq := own_push (t := (⟨true, s, a, o, t, d⟩ : Nt)) hown9 rfl
                    go_roundw
                    case rel => exact ⟨k + 1, by omega, by go_num, by rw [taK, HL.out, HS.out, HT.out, show mvN 4 7 (atNt l k) = (⟨true, s, a, o, t, d⟩ : Nt) from by rw [HX.out]; unfold mvN; rw [if_pos rfl]]; exact hq, hb9, hid_snoc HK HOK.out⟩
                    case measure => simp [intOf]; omega
              · have HS : Hid (taS f m hd k (atNt l k) = 4) := by show _ = _; unfold taS; rw [if_neg (show ¬ taC f m hd k (atNt l k) from by unfold taC; rw [HX.out]; exact fun z => c2 (HD.out.symm.trans z.2.1))]
                have HT : Hid (taH f m hd k (atNt l k) = 7) := by show _ = _; unfold taH; rw [if_neg (show ¬ taC f m hd k (atNt l k) from by unfold taC; rw [HX.out]; exact fun z => c2 (HD.out.symm.trans z.2.1))]
                go_upto_region 11 with fail
                cases r
                · obtain ⟨a1, h1⟩ : ∃ x, adS s a o 4 7 = x := ⟨_, rfl⟩
                  obtain ⟨a2, h2⟩ : ∃ x, adA s a o 4 7 = x := ⟨_, rfl⟩
                  obtain ⟨a3, h3⟩ : ∃ x, adO s a o 4 7 = x := ⟨_, rfl⟩
                  have H1 := Lib.hid h1
                  have H2 := Lib.hid h2
                  have H3 := Lib.hid h3
                  clear h1 h2 h3
                  cases hok : adB s a o 4 7
                  · have HB := Lib.hid hok
                    clear hok
                    have HN := Lib.hid (ta_no (f := f) (m := m) (l := l) (h := hd) (fun z => by have hz := z.2.2.2.1 k hlt; unfold taOk at hz; rw [HS.out, HT.out, HX.out] at hz; rcases hz with c | c; cases c; simp only at c; rw [HB.out] at c; cases c))
                    go_wp2_with fail
                    refine (ad_val H1.out H2.out H3.out HB.out _).mono ?_
                    rintro e5 w5 ⟨rfl, b5⟩
                    have bX := bX.below b5
                    have hownX := own_below hownX b5
                    have hbX : Below w.heap.size w w5 := bel_tr hbX b5
                    have lX := bX.lt
                    have hw5 := hbX.size
                    clear m0 m1 m2 m3 m4 m5 y0 y1
                    clear b5 bY
                    go_wp2
                    exact bodyPost_ret (v := .tuple #[.slice none 0 0, .bool false]) (by simp [results, Try.results7, go_sem]) rfl ⟨_, 0, by rw [HN.out.1, HN.out.2]; rfl, by rw [HN.out.2]; exact Nat.le_refl _, by simp [maxLen], RowNt.nil _ _ _ (by rw [HN.out.2]; rfl), fun h => by rw [HN.out.2] at h; exact absurd h (by simp), bel_al hbX _⟩
                  · have HB := Lib.hid hok
                    have HOK : Hid (taOk f m hd l k) := by show taOk f m hd l k; unfold taOk; rw [HS.out, HT.out, HX.out]; exact .inr hok
                    clear hok
                    go_wp2_with fail
                    refine (ad_val H1.out H2.out H3.out HB.out _).mono ?_
                    rintro e5 w5 ⟨rfl, b5⟩
                    have bX := bX.below b5
                    have hownX := own_below hownX b5
                    have hbX : Below w.heap.size w w5 := bel_tr hbX b5
                    have lX := bX.lt
                    have hw5 := hbX.size
                    clear m0 m1 m2 m3 m4 m5 y0 y1
                    clear b5 bY
                    have m0 : w5.cell? ⟨X, 0, none⟩ = some (.bool false) := by rw [Blk.cell bX]; rfl
                    have m1 : w5.cell? ⟨X, 1, none⟩ = some (.int .i64 s) := by rw [Blk.cell bX]; rfl
                    have m2 : w5.cell? ⟨X, 2, none⟩ = some (.int .i64 a) := by rw [Blk.cell bX]; rfl
                    have m3 : w5.cell? ⟨X, 3, none⟩ = some (.int .i64 o) := by rw [Blk.cell bX]; rfl
                    have m4 : w5.cell? ⟨X, 4, none⟩ = some (.int .i64 t) := by rw [Blk.cell bX]; rfl
                    have m5 : w5.cell? ⟨X, 5, none⟩ = some (.bool d) := by rw [Blk.cell bX]; rfl
                    have fX0 := bX.free 0
                    have fX1 := bX.free 1
                    have fX2 := bX.free 2
                    have fX3 := bX.free 3
                    have fX4 := bX.free 4
                    have fX5 := bX.free 5
                    go_upto_region 16 with fail
                    have hownY := (own_off (q := ⟨X, 3, none⟩) (own_off (q := ⟨X, 2, none⟩) (own_off (q := ⟨X, 1, none⟩) (hownX) (fun e => hXo X e rfl) (.int .i64 a1)) (fun e => hXo X e rfl) (.int .i64 a2)) (fun e => hXo X e rfl) (.int .i64 a3)).alloc (.cells #[.int .i64 a1, .int .i64 a2, .int .i64 a3] 31)
                    have bXY : Blk ((((w5.setCell ⟨X, 1, none⟩ (.int .i64 a1)).setCell ⟨X, 2, none⟩ (.int .i64 a2)).setCell ⟨X, 3, none⟩ (.int .i64 a3)).alloc (.cells #[.int .i64 a1, .int .i64 a2, .int .i64 a3] 31)) X #[.bool false, .int .i64 a1, .int .i64 a2, .int .i64 a3, .int .i64 t, .bool d] 33 := (((bX.s61).s62).s63).alloc _
                    have hbY : Below w.heap.size w ((((w5.setCell ⟨X, 1, none⟩ (.int .i64 a1)).setCell ⟨X, 2, none⟩ (.int .i64 a2)).setCell ⟨X, 3, none⟩ (.int .i64 a3)).alloc (.cells #[.int .i64 a1, .int .i64 a2, .int .i64 a3] 31)) := bel_al (bel_set (bel_set (bel_set hbX hXW _) hXW _) hXW _) _
                    clear hownX bX hbX m0 m1 m2 m3 m4 m5 lX hw5 fX0 fX1 fX2 fX3 fX4 fX5
                    generalize ((((w5.setCell ⟨X, 1, none⟩ (.int .i64 a1)).setCell ⟨X, 2, none⟩ (.int .i64 a2)).setCell ⟨X, 3, none⟩ (.int .i64 a3)).alloc (.cells #[.int .i64 a1, .int .i64 a2, .int .i64 a3] 31)) = v6 at *
                    have bX := bXY
                    clear bXY
                    have lX := bX.lt
                    have hw6 := hbY.size
                    have m0 : v6.cell? ⟨X, 0, none⟩ = some (.bool false) := by rw [Blk.cell bX]; rfl
                    have m1 : v6.cell? ⟨X, 1, none⟩ = some (.int .i64 a1) := by rw [Blk.cell bX]; rfl
                    have m2 : v6.cell? ⟨X, 2, none⟩ = some (.int .i64 a2) := by rw [Blk.cell bX]; rfl
                    have m3 : v6.cell? ⟨X, 3, none⟩ = some (.int .i64 a3) := by rw [Blk.cell bX]; rfl
                    have m4 : v6.cell? ⟨X, 4, none⟩ = some (.int .i64 t) := by rw [Blk.cell bX]; rfl
                    have m5 : v6.cell? ⟨X, 5, none⟩ = some (.bool d) := by rw [Blk.cell bX]; rfl
                    go_wp2_with (at_builtin; go_must (refine wpList_append_lies _ rfl _ _ 23 rfl w.heap.size 33 i0 _ 6 48 Try.underlying23 hi0 hz0 hz1 hz2 rfl (by omega) _ L.length (flat csNt L) rfl (hownY.alloc _) ⟨v6.heap.size, 0, none⟩ 1 1 [.bool false, .int .i64 a1, .int .i64 a2, .int .i64 a3, .int .i64 t, .bool d] rfl rfl (World.news_of_block (cs := #[.bool false, .int .i64 a1, .int .i64 a2, .int .i64 a3, .int .i64 t, .bool d]) (t := 33) (fr := (0, 0)) (heap_alloc_new v6 _)) (by simp [Value.oneCell']) (by omega) (by unfold maxLen; omega) (by omega) (by simp; omega) _ rfl ?_; intro gg9 cp9 w9 hown9 hgrow9 hat9 hlt9))
                    have hb9 : Below w.heap.size w w9 := bel_grown (bel_al hbY (.cells #[.bool false, .int .i64 a1, .int .i64 a2, .int .i64 a3, .int .i64 t, .bool d] 33)) hgrow9 (fun k hk => by have := own_ge hownY k hk; omega)
                    have hq := own_push (t := (⟨false, a1, a2, a3, t, d⟩ : Nt)) hown9 rfl
                    go_roundw
                    case rel => exact ⟨k + 1, by omega, by go_num, by rw [taK, HL.out, HS.out, HT.out, show mvN 4 7 (atNt l k) = (⟨false, a1, a2, a3, t, d⟩ : Nt) from by rw [HX.out]; unfold mvN; rw [if_neg (by simp)]; simp only; rw [H1.out, H2.out, H3.out]]; exact hq, hb9, hid_snoc HK HOK.out⟩
                    case measure => simp [intOf]; omega
                · have HOK : Hid (taOk f m hd l k) := by show taOk f m hd l k; unfold taOk; rw [HX.out]; exact .inl rfl
                  have hwv := hbX.size
                  go_wp2_with (at_builtin; go_must (refine wpList_append_lies _ rfl _ _ 23 rfl w.heap.size 33 i0 _ 6 48 Try.underlying23 hi0 hz0 hz1 hz2 rfl (by omega) _ L.length (flat csNt L) rfl (hownX.alloc _) ⟨w2.heap.size, 0, none⟩ 1 1 [.bool true, .int .i64 s, .int .i64 a, .int .i64 o, .int .i64 t, .bool d] rfl rfl (World.news_of_block (cs := #[.bool true, .int .i64 s, .int .i64 a, .int .i64 o, .int .i64 t, .bool d]) (t := 33) (fr := (0, 0)) (heap_alloc_new w2 _)) (by simp [Value.oneCell']) (by omega) (by unfold maxLen; omega) (by omega) (by simp; omega) _ rfl ?_; intro gg9 cp9 w9 hown9 hgrow9 hat9 hlt9))
                  have hb9 : Below w.heap.size w w9 := bel_grown (bel_al hbX (.cells #[.bool true, .int .i64 s, .int .i64 a, .int .i64 o, .int .i64 t, .bool d] 33)) hgrow9 (fun k hk => by have := own_ge hownX k hk; omega)
                  have hq := own_push (t := (⟨true, s, a, o, t, d⟩ : Nt)) hown9 rfl
                  go_roundw
                  case rel => exact ⟨k + 1, by omega, by go_num, by rw [taK, HL.out, HS.out, HT.out, show mvN 4 7 (atNt l k) = (⟨true, s, a, o, t, d⟩ : Nt) from by rw [HX.out]; unfold mvN; rw [if_pos rfl]]; exact hq, hb9, hid_snoc HK HOK.out⟩
                  case measure => simp [intOf]; omega
            · have HS : Hid (taS f m hd k (atNt l k) = 4) := by show _ = _; unfold taS; rw [if_neg (show ¬ taC f m hd k (atNt l k) from by unfold taC; exact fun z => c1 z.1)]
              have HT : Hid (taH f m hd k (atNt l k) = 7) := by show _ = _; unfold taH; rw [if_neg (show ¬ taC f m hd k (atNt l k) from by unfold taC; exact fun z => c1 z.1)]
              go_upto_region 11 with fail
              cases r
              · obtain ⟨a1, h1⟩ : ∃ x, adS s a o 4 7 = x := ⟨_, rfl⟩
                obtain ⟨a2, h2⟩ : ∃ x, adA s a o 4 7 = x := ⟨_, rfl⟩
                obtain ⟨a3, h3⟩ : ∃ x, adO s a o 4 7 = x := ⟨_, rfl⟩
                have H1 := Lib.hid h1
                have H2 := Lib.hid h2
                have H3 := Lib.hid h3
                clear h1 h2 h3
                cases hok : adB s a o 4 7
                · have HB := Lib.hid hok
                  clear hok
                  have HN := Lib.hid (ta_no (f := f) (m := m) (l := l) (h := hd) (fun z => by have hz := z.2.2.2.1 k hlt; unfold taOk at hz; rw [HS.out, HT.out, HX.out] at hz; rcases hz with c | c; cases c; simp only at c; rw [HB.out] at c; cases c))
                  go_wp2_with fail
                  refine (ad_val H1.out H2.out H3.out HB.out _).mono ?_
                  rintro e5 w5 ⟨rfl, b5⟩
                  have bX := bX.below b5
                  have hownX := own_below hownX b5
                  have hbX : Below w.heap.size w w5 := bel_tr hbX b5
                  have lX := bX.lt
                  have hw5 := hbX.size
                  clear m0 m1 m2 m3 m4 m5 y0 y1
                  clear b5 bY
                  go_wp2
                  exact bodyPost_ret (v := .tuple #[.slice none 0 0, .bool false]) (by simp [results, Try.results7, go_sem]) rfl ⟨_, 0, by rw [HN.out.1, HN.out.2]; rfl, by rw [HN.out.2]; exact Nat.le_refl _, by simp [maxLen], RowNt.nil _ _ _ (by rw [HN.out.2]; rfl), fun h => by rw [HN.out.2] at h; exact absurd h (by simp), bel_al hbX _⟩
                · have HB := Lib.hid hok
                  have HOK : Hid (taOk f m hd l k) := by show taOk f m hd l k; unfold taOk; rw [HS.out, HT.out, HX.out]; exact .inr hok
                  clear hok
                  go_wp2_with fail
                  refine (ad_val H1.out H2.out H3.out HB.out _).mono ?_
                  rintro e5 w5 ⟨rfl, b5⟩
                  have bX := bX.below b5
                  have hownX := own_below hownX b5
                  have hbX : Below w.heap.size w w5 := bel_tr hbX b5
                  have lX := bX.lt
                  have hw5 := hbX.size
                  clear m0 m1 m2 m3 m4 m5 y0 y1
                  clear b5 bY
                  have m0 : w5.cell? ⟨X, 0, none⟩ = some (.bool false) := by rw [Blk.cell bX]; rfl
                  have m1 : w5.cell? ⟨X, 1, none⟩ = some (.int .i64 s) := by rw [Blk.cell bX]; rfl
                  have m2 : w5.cell? ⟨X, 2, none⟩ = some (.int .i64 a) := by rw [Blk.cell bX]; rfl
                  have m3 : w5.cell? ⟨X, 3, none⟩ = some (.int .i64 o) := by rw [Blk.cell bX]; rfl
                  have m4 : w5.cell? ⟨X, 4, none⟩ = some (.int .i64 t) := by rw [Blk.cell bX]; rfl
                  have m5 : w5.cell? ⟨X, 5, none⟩ = some (.bool d) := by rw [Blk.cell bX]; rfl
                  have fX0 := bX.free 0
                  have fX1 := bX.free 1
                  have fX2 := bX.free 2
                  have fX3 := bX.free 3
                  have fX4 := bX.free 4
                  have fX5 := bX.free 5
                  go_upto_region 16 with fail
                  have hownY := (own_off (q := ⟨X, 3, none⟩) (own_off (q := ⟨X, 2, none⟩) (own_off (q := ⟨X, 1, none⟩) (hownX) (fun e => hXo X e rfl) (.int .i64 a1)) (fun e => hXo X e rfl) (.int .i64 a2)) (fun e => hXo X e rfl) (.int .i64 a3)).alloc (.cells #[.int .i64 a1, .int .i64 a2, .int .i64 a3] 31)
                  have bXY : Blk ((((w5.setCell ⟨X, 1, none⟩ (.int .i64 a1)).setCell ⟨X, 2, none⟩ (.int .i64 a2)).setCell ⟨X, 3, none⟩ (.int .i64 a3)).alloc (.cells #[.int .i64 a1, .int .i64 a2, .int .i64 a3] 31)) X #[.bool false, .int .i64 a1, .int .i64 a2, .int .i64 a3, .int .i64 t, .bool d] 33 := (((bX.s61).s62).s63).alloc _
                  have hbY : Below w.heap.size w ((((w5.setCell ⟨X, 1, none⟩ (.int .i64 a1)).setCell ⟨X, 2, none⟩ (.int .i64 a2)).setCell ⟨X, 3, none⟩ (.int .i64 a3)).alloc (.cells #[.int .i64 a1, .int .i64 a2, .int .i64 a3] 31)) := bel_al (bel_set (bel_set (bel_set hbX hXW _) hXW _) hXW _) _
                  clear hownX bX hbX m0 m1 m2 m3 m4 m5 lX hw5 fX0 fX1 fX2 fX3 fX4 fX5
                  generalize ((((w5.setCell ⟨X, 1, none⟩ (.int .i64 a1)).setCell ⟨X, 2, none⟩ (.int .i64 a2)).setCell ⟨X, 3, none⟩ (.int .i64 a3)).alloc (.cells #[.int .i64 a1, .int .i64 a2, .int .i64 a3] 31)) = v6 at *
                  have bX := bXY
                  clear bXY
                  have lX := bX.lt
                  have hw6 := hbY.size
                  have m0 : v6.cell? ⟨X, 0, none⟩ = some (.bool false) := by rw [Blk.cell bX]; rfl
                  have m1 : v6.cell? ⟨X, 1, none⟩ = some (.int .i64 a1) := by rw [Blk.cell bX]; rfl
                  have m2 : v6.cell? ⟨X, 2, none⟩ = some (.int .i64 a2) := by rw [Blk.cell bX]; rfl
                  have m3 : v6.cell? ⟨X, 3, none⟩ = some (.int .i64 a3) := by rw [Blk.cell bX]; rfl
                  have m4 : v6.cell? ⟨X, 4, none⟩ = some (.int .i64 t) := by rw [Blk.cell bX]; rfl
                  have m5 : v6.cell? ⟨X, 5, none⟩ = some (.bool d) := by rw [Blk.cell bX]; rfl
                  go_wp2_with (at_builtin; go_must (refine wpList_append_lies _ rfl _ _ 23 rfl w.heap.size 33 i0 _ 6 48 Try.underlying23 hi0 hz0 hz1 hz2 rfl (by omega) _ L.length (flat csNt L) rfl (hownY.alloc _) ⟨v6.heap.size, 0, none⟩ 1 1 [.bool false, .int .i64 a1, .int .i64 a2, .int .i64 a3, .int .i64 t, .bool d] rfl rfl (World.news_of_block (cs := #[.bool false, .int .i64 a1, .int .i64 a2, .int .i64 a3, .int .i64 t, .bool d]) (t := 33) (fr := (0, 0)) (heap_alloc_new v6 _)) (by simp [Value.oneCell']) (by omega) (by unfold maxLen; omega) (by omega) (by simp; omega) _ rfl ?_; intro gg9 cp9 w9 hown9 hgrow9 hat9 hlt9))
                  have hb9 : Below w.heap.size w w9 := bel_grown (bel_al hbY (.cells #[.bool false, .int .i64 a1, .int .i64 a2, .int .i64 a3, .int .i64 t, .bool d] 33)) hgrow9 (fun k hk => by have := own_ge hownY k hk; omega)
                  have hq := own_push (t := (⟨false, a1, a2, a3, t, d⟩ : Nt)) hown9 rfl
                  go_roundw
                  case rel => exact ⟨k + 1, by omega, by go_num, by rw [taK, HL.out, HS.out, HT.out, show mvN 4 7 (atNt l k) = (⟨false, a1, a2, a3, t, d⟩ : Nt) from by rw [HX.out]; unfold mvN; rw [if_neg (by simp)]; simp only; rw [H1.out, H2.out, H3.out]]; exact hq, hb9, hid_snoc HK HOK.out⟩
                  case measure => simp [intOf]; omega
              · have HOK : Hid (taOk f m hd l k) := by show taOk f m hd l k; unfold taOk; rw [HX.out]; exact .inl rfl
                have hwv := hbX.size
                go_wp2_with (at_builtin; go_must (refine wpList_append_lies _ rfl _ _ 23 rfl w.heap.size 33 i0 _ 6 48 Try.underlying23 hi0 hz0 hz1 hz2 rfl (by omega) _ L.length (flat csNt L) rfl (hownX.alloc _) ⟨w2.heap.size, 0, none⟩ 1 1 [.bool true, .int .i64 s, .int .i64 a, .int .i64 o, .int .i64 t, .bool d] rfl rfl (World.news_of_block (cs := #[.bool true, .int .i64 s, .int .i64 a, .int .i64 o, .int .i64 t, .bool d]) (t := 33) (fr := (0, 0)) (heap_alloc_new w2 _)) (by simp [Value.oneCell']) (by omega) (by unfold maxLen; omega) (by omega) (by simp; omega) _ rfl ?_; intro gg9 cp9 w9 hown9 hgrow9 hat9 hlt9))
                have hb9 : Below w.heap.size w w9 := bel_grown (bel_al hbX (.cells #[.bool true, .int .i64 s, .int .i64 a, .int .i64 o, .int .i64 t, .bool d] 33)) hgrow9 (fun k hk => by have := own_ge hownX k hk; omega)
                have hq := own_push (t := (⟨true, s, a, o, t, d⟩ : Nt)) hown9 rfl
                go_roundw
                case rel => exact ⟨k + 1, by omega, by go_num, by rw [taK, HL.out, HS.out, HT.out, show mvN 4 7 (atNt l k) = (⟨true, s, a, o, t, d⟩ : Nt) from by rw [HX.out]; unfold mvN; rw [if_pos rfl]]; exact hq, hb9, hid_snoc HK HOK.out⟩
                case measure => simp [intOf]; omega
          · obtain rfl : k = l.length := by omega
            have hl := taK_len f m hd l l.length
            obtain ⟨A9, c9, rfl, lc9, cm9, r9, o9⟩ := own_rowNt hown
            cases hvo : vvB (taK f m hd l l.length)
            · have HN := Lib.hid (ta_no (f := f) (m := m) (l := l) (h := hd) (fun z => by have := z.2.2.2.2; rw [hvo] at this; cases this))
              have HVO := Lib.hid hvo
              clear hvo
              generalize hK : taK f m hd l l.length = K at *
              clear hK
              have HKL := Lib.hid (show K.length ≤ 60 from by omega)
              clear hl
              go_wp2_with fail
              refine (vv_val HVO.out _ _ _ _ rfl (Nat.le_trans HKL.out (by decide)) r9).mono ?_
              rintro e6 w6 ⟨rfl, b6⟩
              have hb6 := bel_tr hb b6
              go_wp2
              exact bodyPost_ret (v := .tuple #[.slice none 0 0, .bool false]) (by simp [results, Try.results7, go_sem]) rfl ⟨_, 0, by rw [HN.out.1, HN.out.2]; rfl, by rw [HN.out.2]; exact Nat.le_refl _, by simp [maxLen], RowNt.nil _ _ _ (by rw [HN.out.2]; rfl), fun h => by rw [HN.out.2] at h; exact absurd h (by simp), hb6⟩
            · have HE := Lib.hid (ta_yes (f := f) (m := m) (l := l) (h := hd) ⟨HF.out, HV.out, HH.out, HK.out, hvo⟩)
              have HVO := Lib.hid hvo
              clear hvo
              generalize hK : taK f m hd l l.length = K at *
              clear hK
              have HKL := Lib.hid (show K.length ≤ 60 from by omega)
              clear hl
              go_wp2_with fail
              refine (vv_val HVO.out _ _ _ _ rfl (Nat.le_trans HKL.out (by decide)) r9).mono ?_
              rintro e6 w6 ⟨rfl, b6⟩
              have hb6 := bel_tr hb b6
              have s9 := (SLNt.of r9 o9).below b6
              go_wp2
              exact bodyPost_ret (v := .tuple #[.slice A9 K.length c9, .bool true]) (by simp [results, Try.results7, go_sem]) rfl ⟨A9, c9, by rw [HE.out.1, HE.out.2], by rw [HE.out.2]; exact lc9, cm9, by rw [HE.out.2]; exact s9.row, by rw [HE.out.2]; exact s9.own, hb6⟩
      · have HN := Lib.hid (ta_no (f := f) (m := m) (l := l) (h := hd) (fun z => hh z.2.2.1))
        have HV := Lib.hid hv
        obtain ⟨f0, f1⟩ := hf
        have h60 := (vvB_of hv).len
        clear hv
        go_enter Try.func7, Try.ntmps7
        go_wp2_with (go_at_call 26; refine (ik_yes _ _ (by omega) (by omega)).mono ?_; rintro e w' ⟨rfl, rfl⟩)
        refine (vv_val HV.out _ _ _ _ rfl hm h0).mono ?_
        rintro e1 w1 ⟨rfl, b1⟩
        have b0 := bel_tr b0 b1
        have h0 := h0.below b1
        clear b1
        go_wp2_with (go_at_call 27; refine (win_no _ _ _ _ (by omega)).mono ?_; rintro e w' ⟨rfl, rfl⟩)
        exact bodyPost_ret (v := .tuple #[.slice none 0 0, .bool false]) (by simp [results, Try.results7, go_sem]) rfl ⟨_, 0, by rw [HN.out.1, HN.out.2]; rfl, by rw [HN.out.2]; exact Nat.le_refl _, by simp [maxLen], RowNt.nil _ _ _ (by rw [HN.out.2]; rfl), fun h => by rw [HN.out.2] at h; exact absurd h (by simp), b0⟩
  · have HN := Lib.hid (ta_no (f := f) (m := m) (l := l) (h := hd) (fun z => hf z.1))
    go_enter Try.func7, Try.ntmps7
    go_wp2_with (go_at_call 26; refine (ik_no _ _ (by omega)).mono ?_; rintro e w' ⟨rfl, rfl⟩)
    exact bodyPost_ret (v := .tuple #[.slice none 0 0, .bool false]) (by simp [results, Try.results7, go_sem]) rfl ⟨_, 0, by rw [HN.out.1, HN.out.2]; rfl, by rw [HN.out.2]; exact Nat.le_refl _, by simp [maxLen], RowNt.nil _ _ _ (by rw [HN.out.2]; rfl), fun h => by rw [HN.out.2] at h; exact absurd h (by simp), by repeat (first | (with_reducible assumption) | (exact bel_undr (by with_reducible assumption)) | (with_reducible exact bel_refl _) | (with_reducible refine bel_dr ?_) | (with_reducible refine bel_drN ?_ _) | (with_reducible refine bel_al ?_ _) | (refine bel_set ?_ (by first | (simp; done) | (simp; exact Below.size (by assumption)) | (simp; omega)) _) | (with_reducible refine bel_tr ?_ (by assumption)))⟩
theorem ta_val {l L : List Nt} {f : Int} {m : Bool} {hd : Int} {B : Bool} (hL : taL f m l hd = L) (hB : taB f m l hd = B) (A : Option Addr) (n c : Nat) (w : World) (hn : l.length = n) (hm : n ≤ 2000000) (h : RowNt w w.heap.size A l) :
    Calls Try.prog 7 #[.int .i64 f, .bool m, .slice A n c, .int .i64 hd] w (ShR w L B) := by
  have := ta_any A n c l f m hd w hn hm h
  rw [hL, hB] at this
  exact this
end Go.Proofs.Ytacbkmahofmbcaa
