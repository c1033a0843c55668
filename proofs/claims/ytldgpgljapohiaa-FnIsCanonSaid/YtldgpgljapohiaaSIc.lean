/- Canons recognized by the reference. -/
import Derived.Test.YtldgpgljapohiaaIc
import Derived.Deep.RegionHeld3
import Derived.Deep.DeepCutAuto
namespace Go.Proofs.Ytldgpgljapohiaa
set_option linter.unusedSimpArgs false
set_option linter.unusedVariables false
open Go.RowKit

theorem sio_yes {s a o s1 a1 o1 p k : Int} (hp : pvB s a o = true) (hq : pvB s1 a1 o1 = true) (hP : 7 * o1 + s1 - (7 * o + s) = p) (hK : 12 * o1 + shI s1 + a1 - (12 * o + shI s + a) = k) (hv : ivB p k = true) (w : World) :
    Calls Try.prog 41 #[.agg #[.int .i64 s, .int .i64 a, .int .i64 o], .agg #[.int .i64 s1, .int .i64 a1, .int .i64 o1]] w fun e w' => e = .returned (.tuple #[.agg #[.int .i64 p, .int .i64 k], .bool true]) ∧ Below w.heap.size w w' := by
  have h := sio_val hp hq hP hK hv w
  simpa using h
theorem sio_no {s a o s1 a1 o1 p k : Int} (hp : pvB s a o = true) (hq : pvB s1 a1 o1 = true) (hP : 7 * o1 + s1 - (7 * o + s) = p) (hK : 12 * o1 + shI s1 + a1 - (12 * o + shI s + a) = k) (hv : ivB p k = false) (w : World) :
    Calls Try.prog 41 #[.agg #[.int .i64 s, .int .i64 a, .int .i64 o], .agg #[.int .i64 s1, .int .i64 a1, .int .i64 o1]] w fun e w' => e = .returned (.tuple #[.agg #[.int .i64 0, .int .i64 0], .bool false]) ∧ Below w.heap.size w w' := by
  have h := sio_val hp hq hP hK hv w
  simpa using h
set_option maxRecDepth 20000 in
set_option maxHeartbeats 8000000 in
theorem sic_any (A A' : Option Addr) (n n' c c' : Nat) (l l' : List Nt) (w : World) (hn : l.length = n) (hn' : l'.length = n') (hm : n ≤ 2000000) (hm' : n' ≤ 2000000) (h : RowNt w w.heap.size A l) (h9 : RowNt w w.heap.size A' l') :
    Calls Try.prog 16 #[.slice A n c, .slice A' n' c'] w (IcR l l' w) := by
  subst hn hn'
  have bw : Below w.heap.size w w := bel_refl w
  cases hv : vvB l
  · have HN := Lib.hid (show ¬ icP l l' from fun z => by have := z.1; rw [hv] at this; cases this)
    have HV := Lib.hid hv
    clear hv
    go_enter Try.func16, Try.ntmps16
    go_wp2_with fail
    refine (svv_val HV.out _ _ _ _ rfl hm h).mono ?_
    rintro e1 w1 ⟨rfl, b1⟩
    have h := h.below b1
    have h9 := h9.below b1
    have bw := bel_tr bw b1
    clear b1
    go_wp2
    exact bodyPost_ret (v := .bool false) (by simp [results, Try.results16, go_sem]) rfl ⟨false, rfl, ⟨fun z => (by cases z), fun z => absurd z HN.out⟩, bw⟩
  · cases hv' : vvB l'
    · have HN := Lib.hid (show ¬ icP l l' from fun z => by have := z.2.1; rw [hv'] at this; cases this)
      have HV := Lib.hid hv
      have HV' := Lib.hid hv'
      have h60 := (vvB_of hv).len
      have clr := trivial
      clear hv hv' clr
      go_enter Try.func16, Try.ntmps16
      go_wp2_with fail
      refine (svv_val HV.out _ _ _ _ rfl hm h).mono ?_
      rintro e1 w1 ⟨rfl, b1⟩
      have h := h.below b1
      have h9 := h9.below b1
      have bw := bel_tr bw b1
      clear b1
      go_wp2_with fail
      refine (svv_val HV'.out _ _ _ _ rfl hm' h9).mono ?_
      rintro e2 w2 ⟨rfl, b2⟩
      have h := h.below b2
      have h9 := h9.below b2
      have bw := bel_tr bw b2
      clear b2
      go_wp2
      exact bodyPost_ret (v := .bool false) (by simp [results, Try.results16, go_sem]) rfl ⟨false, rfl, ⟨fun z => (by cases z), fun z => absurd z HN.out⟩, bw⟩
    · by_cases hz : l'.length = l.length + 1
      · have HLL := Lib.hid hz
        clear hz
        have HV := Lib.hid hv
        have HV' := Lib.hid hv'
        have h60 := (vvB_of hv).len
        have h60' := (vvB_of hv').len
        have clr := trivial
        clear hv hv' clr
        go_enter Try.func16, Try.ntmps16
        go_wp2_with fail
        refine (svv_val HV.out _ _ _ _ rfl hm h).mono ?_
        rintro e1 w1 ⟨rfl, b1⟩
        have h := h.below b1
        have h9 := h9.below b1
        have bw := bel_tr bw b1
        clear b1
        go_wp2_with fail
        refine (svv_val HV'.out _ _ _ _ rfl hm' h9).mono ?_
        rintro e2 w2 ⟨rfl, b2⟩
        have h := h.below b2
        have h9 := h9.below b2
        have bw := bel_tr bw b2
        clear b2
        have hzi : (l'.length : Int) = (l.length : Int) + 1 := by have := HLL.out; omega
        have hzp : (0 : Int) < (l'.length : Int) := by omega
        obtain ⟨b, off, rfl, hlb, hc⟩ := h9 (by omega)
        have hc0 := hc 0 (by omega)
        clear hc
        simp only [Nat.zero_mul, Nat.add_zero] at hc0
        generalize hX : atNt l' 0 = x at hc0
        have HX := Lib.hid hX
        clear hX
        obtain ⟨r, s, a, o, t, d⟩ := x
        obtain ⟨p0, p1, p2, p3, p4, p5⟩ := hc0
        simp only at p0 p1 p2 p3 p4 p5
        cases r
        · have HN := Lib.hid (show ¬ icP l l' from fun z => by have := (ic_len z).2.1; rw [HX.out] at this; cases this)
          go_wp2
          exact bodyPost_ret (v := .bool false) (by simp [results, Try.results16, go_sem]) rfl ⟨false, rfl, ⟨fun z => (by cases z), fun z => absurd z HN.out⟩, bw⟩
        · have bY : Blk (w2.alloc (.cells #[.int .i64 0, .int .i64 0] 25)) w2.heap.size #[.int .i64 0, .int .i64 0] 25 := Blk.new w2 _ _
          have hR : RowNt (w2.alloc (.cells #[.int .i64 0, .int .i64 0] 25)) w2.heap.size A l := h.bel (bel_al (bel_refl w2) _) (Nat.le_refl _)
          have hR9 : RowNt (w2.alloc (.cells #[.int .i64 0, .int .i64 0] 25)) w2.heap.size (some ⟨b, off, none⟩) l' := h9.bel (bel_al (bel_refl w2) _) (Nat.le_refl _)
          have pT : (w2.alloc (.cells #[.int .i64 0, .int .i64 0] 25)).cell? ⟨b, off + 4, none⟩ = some (.int .i64 t) := keep_tr p4 (bel_al (bel_refl w2) _)
          have hlbY : b < w2.heap.size := hlb
          have hYw : w.heap.size ≤ w2.heap.size := bw.size
          have bw := bel_al bw (.cells #[.int .i64 0, .int .i64 0] 25)
          have bb : Below w2.heap.size (w2.alloc (.cells #[.int .i64 0, .int .i64 0] 25)) (w2.alloc (.cells #[.int .i64 0, .int .i64 0] 25)) := Below.refl _ _
          go_upto_region 5 with fail
          clear p0 p1 p2 p3 p4 p5 h h9 hlb
          generalize (w2.alloc (.cells #[.int .i64 0, .int .i64 0] 25)) = w3 at *
          generalize w2.heap.size = Y at *
          go_wp2_with fail
          go_loopw [6, 7, 8] (fun i _ _ wr => ∃ k : Nat, k ≤ l.length ∧ i = .int .i64 k ∧ Below w.heap.size w wr ∧ Below Y w3 wr ∧ Blk wr Y #[.int .i64 0, .int .i64 0] 25 ∧ Hid (∀ j, j < k → ¬ ((atNt l j).rest = false ∧ (atNt l' (j + 1)).rest = false))) (fun i _ _ _ => l.length - (intOf i).toNat)
          case atStart => exact ⟨0, Nat.zero_le _, rfl, bw, bb, bY, fun j hj => absurd hj (by omega)⟩
          case round =>
            clear bw bb bY
            obtain ⟨k, hk, rfl, bw, bb, bY, HK⟩ := hrel
            have hk0 : (0 : Int) ≤ (k : Int) := by omega
            by_cases hlt : k < l.length
            · have hlen9 := HLL.out
              have hki : (k : Int) < (l.length : Int) := by omega
              have hki9 : (k : Int) + 1 < (l'.length : Int) := by omega
              obtain ⟨b1, off1, rfl, hlb1, hc⟩ := (rowAt hR bb (Nat.le_of_lt bY.lt)) (by omega)
              obtain ⟨b', off', hh, hlb', hc'⟩ := (rowAt hR9 bb (Nat.le_of_lt bY.lt)) (by omega)
              have hck := hc k hlt
              have hck' := hc' (k + 1) (by omega)
              simp only [Option.some.injEq, Addr.mk.injEq, and_true] at hh
              obtain ⟨rfl, rfl⟩ := hh
              clear hc hc' hlen9
              generalize hXk : atNt l k = x at hck
              generalize hYk : atNt l' (k + 1) = y at hck'
              have HXi := Lib.hid hXk
              have HY := Lib.hid hYk
              clear hXk hYk
              obtain ⟨xr, xs, xa, xo, xt, xd⟩ := x
              obtain ⟨yr, ys, ya, yo, yt, yd⟩ := y
              obtain ⟨p0, p1, p2, p3, p4, p5⟩ := hck
              obtain ⟨q0, q1, q2, q3, q4, q5⟩ := hck'
              simp only at p0 p1 p2 p3 p4 p5 q0 q1 q2 q3 q4 q5
              cases xr
              · cases yr
                · have hi := hlt
                  have hj : k + 1 < l'.length := by have := HLL.out; omega
                  have rx : (⟨false, xs, xa, xo, xt, xd⟩ : Nt).rest = false := rfl
                  have ry : (⟨false, ys, ya, yo, yt, yd⟩ : Nt).rest = false := rfl
                  have HJ : Hid (icP l l' → k + 1 = k + 1) := fun _ => rfl
                  have hpx : pvB xs xa xo = true := by have := vv_tone HV.out hi (by rw [HXi.out]); rw [HXi.out] at this; exact this
                  have hpy : pvB ys ya yo = true := by have := vv_tone HV'.out hj (by rw [HY.out]); rw [HY.out] at this; exact this
                  obtain ⟨p, hP⟩ : ∃ p, 7 * yo + ys - (7 * xo + xs) = p := ⟨_, rfl⟩
                  obtain ⟨q, hQ⟩ : ∃ q, 12 * yo + shI ys + ya - (12 * xo + shI xs + xa) = q := ⟨_, rfl⟩
                  have HAT := Lib.hid (show icP l l' → ivB p q = true ∧ coB l t p q = true ∧ coL l t p q = l' from fun z => by
                    have hj2 := HJ.out z
                    have g := ic_at z hi (by rw [HXi.out])
                    rw [← hj2, HXi.out, HY.out, HX.out] at g
                    unfold ivP ivK at g
                    rw [hP, hQ] at g
                    exact g)
                  have HPX := Lib.hid hpx
                  have HPY := Lib.hid hpy
                  have HP := Lib.hid hP
                  have HQ2 := Lib.hid hQ
                  clear hpx hpy hP hQ
                  cases hiv : ivB p q
                  · have HIV := Lib.hid hiv
                    clear hiv
                    go_upto_region 8 with fail
                    clear hzi
                    have hkm0 : (0 : Int) ≤ (k : Int) + 1 := by omega
                    have hwr := IntWalk.i64_in ((k : Int) + 1) (by omega)
                    have hkt : ((k : Int) + 1).toNat = k + 1 := by omega
                    have bL : Below wr.heap.size wr wr := bel_refl _
                    go_cut [7, 8] (fun s7 s8 wx => ∃ g : Nat, s7 = .pointer (some ⟨g, 0, none⟩) ∧ s8 = .bool false ∧ wx.cell? ⟨g, 0, none⟩ = some (.int .i64 0) ∧ wx.cell? ⟨g, 1, none⟩ = some (.int .i64 0) ∧ Below wr.heap.size wr wx)
                    case first =>
                      go_region_held3 (fun W => W.cell? ⟨b1, off1 + k * 6 + 1, none⟩ = some (.int .i64 xs) ∧ W.cell? ⟨b1, off1 + k * 6 + 2, none⟩ = some (.int .i64 xa) ∧ W.cell? ⟨b1, off1 + k * 6 + 3, none⟩ = some (.int .i64 xo) ∧ W.cell? ⟨b, off + (k + 1) * 6 + 1, none⟩ = some (.int .i64 ys) ∧ W.cell? ⟨b, off + (k + 1) * 6 + 2, none⟩ = some (.int .i64 ya) ∧ W.cell? ⟨b, off + (k + 1) * 6 + 3, none⟩ = some (.int .i64 yo) ∧ Below wr.heap.size wr W) (((try go_split_ands); (repeat' (with_reducible refine And.intro ?_ ?_)) <;> (first | (with_reducible assumption) | ((repeat (first | (with_reducible assumption) | (exact keep_undr (by with_reducible assumption)) | (simp [go_sem]; done) | (with_reducible refine keep_dr ?_) | (with_reducible refine keep_drN ?_ _) | (with_reducible refine keep_al ?_ _) | (refine keep_set ?_ (by first | (simp; done) | (simp; omega) | omega)) | (with_reducible refine keep_tr ?_ (by assumption)))); done) | ((repeat (first | (with_reducible assumption) | (exact bel_undr (by with_reducible assumption)) | (with_reducible exact bel_refl _) | (with_reducible refine bel_dr ?_) | (with_reducible refine bel_drN ?_ _) | (with_reducible refine bel_al ?_ _) | (refine bel_set ?_ (by first | (simp; done) | (simp; exact Below.size (by assumption)) | (simp; omega)) _) | (with_reducible refine bel_tr ?_ (by assumption)))); done) | (simp [go_sem]; done) | go_keep))) (first | (go_at_call 41; refine (sio_no HPX.out HPY.out HP.out HQ2.out HIV.out _).mono ?_; rintro e1 w1 ⟨rfl, hb1⟩; obtain ⟨bc1, bf1, sl1, se1, sk1⟩ := bfacts hb1; have hz1 := hb1.size; (try simp at hz1)))
                      all_goals
                        go_wp2_with fail
                        go_meet
                        go_split_ands
                        first
                        | exact ⟨_, rfl, rfl, by rw [Blk.cell (Blk.new w1 _ _)]; rfl, by rw [Blk.cell (Blk.new w1 _ _)]; rfl, bel_al (bel_tr (by repeat (first | (with_reducible assumption) | (exact bel_undr (by with_reducible assumption)) | (with_reducible exact bel_refl _) | (with_reducible refine bel_dr ?_) | (with_reducible refine bel_drN ?_ _) | (with_reducible refine bel_al ?_ _) | (refine bel_set ?_ (by first | (simp; done) | (simp; exact Below.size (by assumption)) | (simp; omega)) _) | (with_reducible refine bel_tr ?_ (by assumption)))) hb1) _⟩
                        | (have bG : Blk w1 wr.heap.size #[.int .i64 0, .int .i64 0] 25 := (by first | exact (Blk.new wr _ _).below hb1 | exact (Blk.new wr.drew _ _).below hb1 | exact ((Blk.new wr _ _).drew).below hb1)
                           exact ⟨_, rfl, rfl, by rw [Blk.cell ((bG.s20).s21)]; rfl, by rw [Blk.cell ((bG.s20).s21)]; rfl, bel_set (bel_set (bel_tr (by repeat (first | (with_reducible assumption) | (exact bel_undr (by with_reducible assumption)) | (with_reducible exact bel_refl _) | (with_reducible refine bel_dr ?_) | (with_reducible refine bel_drN ?_ _) | (with_reducible refine bel_al ?_ _) | (refine bel_set ?_ (by first | (simp; done) | (simp; exact Below.size (by assumption)) | (simp; omega)) _) | (with_reducible refine bel_tr ?_ (by assumption)))) hb1) (Nat.le_refl _) _) (Nat.le_refl _) _⟩)
                    case rest =>
                      obtain ⟨g, rfl, rfl, g0, g1, bc⟩ := hcut
                      clear p0 p1 p2 p3 p4 p5 q0 q1 q2 q3 q4 q5 bL hkm0 hwr hkt
                      have hzi : (l'.length : Int) = (l.length : Int) + 1 := by have := HLL.out; omega
                      have bb := bb.trans (bc.mono (Nat.le_of_lt bY.lt))
                      have bY := bY.below bc
                      have bw := bel_tr bw bc
                      have HN := Lib.hid (show ¬ icP l l' from fun z => by have := (HAT.out z).1; rw [HIV.out] at this; cases this)
                      go_wp2
                      exact bodyPost_ret (v := .bool false) (by simp [results, Try.results16, go_sem]) rfl ⟨false, rfl, ⟨fun z => (by cases z), fun z => absurd z HN.out⟩, bw⟩
                  · have HIV := Lib.hid hiv
                    clear hiv
                    go_upto_region 8 with fail
                    clear hzi
                    have hkm0 : (0 : Int) ≤ (k : Int) + 1 := by omega
                    have hwr := IntWalk.i64_in ((k : Int) + 1) (by omega)
                    have hkt : ((k : Int) + 1).toNat = k + 1 := by omega
                    have bL : Below wr.heap.size wr wr := bel_refl _
                    go_cut [7, 8] (fun s7 s8 wx => ∃ g : Nat, s7 = .pointer (some ⟨g, 0, none⟩) ∧ s8 = .bool true ∧ wx.cell? ⟨g, 0, none⟩ = some (.int .i64 p) ∧ wx.cell? ⟨g, 1, none⟩ = some (.int .i64 q) ∧ Below wr.heap.size wr wx)
                    case first =>
                      go_region_held3 (fun W => W.cell? ⟨b1, off1 + k * 6 + 1, none⟩ = some (.int .i64 xs) ∧ W.cell? ⟨b1, off1 + k * 6 + 2, none⟩ = some (.int .i64 xa) ∧ W.cell? ⟨b1, off1 + k * 6 + 3, none⟩ = some (.int .i64 xo) ∧ W.cell? ⟨b, off + (k + 1) * 6 + 1, none⟩ = some (.int .i64 ys) ∧ W.cell? ⟨b, off + (k + 1) * 6 + 2, none⟩ = some (.int .i64 ya) ∧ W.cell? ⟨b, off + (k + 1) * 6 + 3, none⟩ = some (.int .i64 yo) ∧ Below wr.heap.size wr W) (((try go_split_ands); (repeat' (with_reducible refine And.intro ?_ ?_)) <;> (first | (with_reducible assumption) | ((repeat (first | (with_reducible assumption) | (exact keep_undr (by with_reducible assumption)) | (simp [go_sem]; done) | (with_reducible refine keep_dr ?_) | (with_reducible refine keep_drN ?_ _) | (with_reducible refine keep_al ?_ _) | (refine keep_set ?_ (by first | (simp; done) | (simp; omega) | omega)) | (with_reducible refine keep_tr ?_ (by assumption)))); done) | ((repeat (first | (with_reducible assumption) | (exact bel_undr (by with_reducible assumption)) | (with_reducible exact bel_refl _) | (with_reducible refine bel_dr ?_) | (with_reducible refine bel_drN ?_ _) | (with_reducible refine bel_al ?_ _) | (refine bel_set ?_ (by first | (simp; done) | (simp; exact Below.size (by assumption)) | (simp; omega)) _) | (with_reducible refine bel_tr ?_ (by assumption)))); done) | (simp [go_sem]; done) | go_keep))) (first | (go_at_call 41; refine (sio_yes HPX.out HPY.out HP.out HQ2.out HIV.out _).mono ?_; rintro e1 w1 ⟨rfl, hb1⟩; obtain ⟨bc1, bf1, sl1, se1, sk1⟩ := bfacts hb1; have hz1 := hb1.size; (try simp at hz1)))
                      all_goals
                        go_wp2_with fail
                        go_meet
                        go_split_ands
                        first
                        | exact ⟨_, rfl, rfl, by rw [Blk.cell (Blk.new w1 _ _)]; rfl, by rw [Blk.cell (Blk.new w1 _ _)]; rfl, bel_al (bel_tr (by repeat (first | (with_reducible assumption) | (exact bel_undr (by with_reducible assumption)) | (with_reducible exact bel_refl _) | (with_reducible refine bel_dr ?_) | (with_reducible refine bel_drN ?_ _) | (with_reducible refine bel_al ?_ _) | (refine bel_set ?_ (by first | (simp; done) | (simp; exact Below.size (by assumption)) | (simp; omega)) _) | (with_reducible refine bel_tr ?_ (by assumption)))) hb1) _⟩
                        | (have bG : Blk w1 wr.heap.size #[.int .i64 0, .int .i64 0] 25 := (by first | exact (Blk.new wr _ _).below hb1 | exact (Blk.new wr.drew _ _).below hb1 | exact ((Blk.new wr _ _).drew).below hb1)
                           exact ⟨_, rfl, rfl, by rw [Blk.cell ((bG.s20).s21)]; rfl, by rw [Blk.cell ((bG.s20).s21)]; rfl, bel_set (bel_set (bel_tr (by repeat (first | (with_reducible assumption) | (exact bel_undr (by with_reducible assumption)) | (with_reducible exact bel_refl _) | (with_reducible refine bel_dr ?_) | (with_reducible refine bel_drN ?_ _) | (with_reducible refine bel_al ?_ _) | (refine bel_set ?_ (by first | (simp; done) | (simp; exact Below.size (by assumption)) | (simp; omega)) _) | (with_reducible refine bel_tr ?_ (by assumption)))) hb1) (Nat.le_refl _) _) (Nat.le_refl _) _⟩)
                    case rest =>
                      obtain ⟨g, rfl, rfl, g0, g1, bc⟩ := hcut
                      clear p0 p1 p2 p3 p4 p5 q0 q1 q2 q3 q4 q5 bL hkm0 hwr hkt
                      have hzi : (l'.length : Int) = (l.length : Int) + 1 := by have := HLL.out; omega
                      have bb := bb.trans (bc.mono (Nat.le_of_lt bY.lt))
                      have bY := bY.below bc
                      have bw := bel_tr bw bc
                      have lY := bY.lt
                      have fY0 := bY.free 0
                      have fY1 := bY.free 1
                      have cY0 : wc.cell? ⟨Y, 0, none⟩ = some (.int .i64 0) := by rw [Blk.cell bY]; rfl
                      have cY1 : wc.cell? ⟨Y, 1, none⟩ = some (.int .i64 0) := by rw [Blk.cell bY]; rfl
                      go_upto_region 12 with fail
                      have bb : Below Y w3 ((wc.setCell ⟨Y, 0, none⟩ (.int .i64 p)).setCell ⟨Y, 1, none⟩ (.int .i64 q)) := (bb.setCell (Nat.le_refl _) _).setCell (Nat.le_refl _) _
                      have bY : Blk ((wc.setCell ⟨Y, 0, none⟩ (.int .i64 p)).setCell ⟨Y, 1, none⟩ (.int .i64 q)) Y #[.int .i64 p, .int .i64 q] 25 := (bY.s20).s21
                      have bw : Below w.heap.size w ((wc.setCell ⟨Y, 0, none⟩ (.int .i64 p)).setCell ⟨Y, 1, none⟩ (.int .i64 q)) := bel_set (bel_set bw hYw _) hYw _
                      clear fY0 fY1 cY0 cY1 lY g0 g1
                      generalize ((wc.setCell ⟨Y, 0, none⟩ (.int .i64 p)).setCell ⟨Y, 1, none⟩ (.int .i64 q)) = w12 at *
                      have HI := Lib.hid (show icP l l' → coB l t p q = true ∧ coL l t p q = l' from fun z => (HAT.out z).2)
                      obtain ⟨L, hL⟩ : ∃ L, coL l t p q = L := ⟨_, rfl⟩
                      have hLn : L.length ≤ 61 := by rw [← hL]; exact coL_len _ _ _ _
                      have cT : w12.cell? ⟨b, off + 4, none⟩ = some (.int .i64 t) := (bb.cell (p := ⟨b, off + 4, none⟩) hlbY).trans pT
                      have cY0 : w12.cell? ⟨Y, 0, none⟩ = some (.int .i64 p) := by rw [Blk.cell bY]; rfl
                      have cY1 : w12.cell? ⟨Y, 1, none⟩ = some (.int .i64 q) := by rw [Blk.cell bY]; rfl
                      cases hB : coB l t p q
                      · obtain rfl : L = [] := by rw [← hL]; unfold coL; rw [hB]; rfl
                        clear hLn
                        have HL := Lib.hid hL
                        have HB := Lib.hid hB
                        clear hL hB
                        go_region_held3 (fun W => W.cell? ⟨b, off + 4, none⟩ = some (.int .i64 t) ∧ W.cell? ⟨Y, 0, none⟩ = some (.int .i64 p) ∧ W.cell? ⟨Y, 1, none⟩ = some (.int .i64 q) ∧ Below w.heap.size w W) (((try go_split_ands); (repeat' (with_reducible refine And.intro ?_ ?_)) <;> (first | (with_reducible assumption) | ((repeat (first | (with_reducible assumption) | (exact keep_undr (by with_reducible assumption)) | (simp [go_sem]; done) | (with_reducible refine keep_dr ?_) | (with_reducible refine keep_drN ?_ _) | (with_reducible refine keep_al ?_ _) | (refine keep_set ?_ (by first | (simp; done) | (simp; omega) | omega)) | (with_reducible refine keep_tr ?_ (by assumption)))); done) | ((repeat (first | (with_reducible assumption) | (exact bel_undr (by with_reducible assumption)) | (with_reducible exact bel_refl _) | (with_reducible refine bel_dr ?_) | (with_reducible refine bel_drN ?_ _) | (with_reducible refine bel_al ?_ _) | (refine bel_set ?_ (by first | (simp; done) | (simp; exact Below.size (by assumption)) | (simp; omega)) _) | (with_reducible refine bel_tr ?_ (by assumption)))); done) | (simp [go_sem]; done) | go_keep))) (first | (go_at_call 9; have b6 : Below w12.heap.size w12 w12.drew := bel_dr (bel_refl _); generalize w12.drew = wd at *; have bb := bb.trans (b6.mono (Nat.le_of_lt bY.lt)); have bY := bY.below b6; have bw := bel_tr bw b6; have cT := keep_tr cT b6; have cY0 := keep_tr cY0 b6; have cY1 := keep_tr cY1 b6; have h := rowAt hR bb (Nat.le_of_lt bY.lt); have h9 := rowAt hR9 bb (Nat.le_of_lt bY.lt); refine (sco_val HL.out HB.out _ _ _ _ rfl hm h).mono ?_; rintro e7 w7 ⟨A7, c7, rfl, lc7, cm7, r7, o7, b7⟩; have h9 := h9.below b7; have bw := bel_tr bw b7; have cT := keep_tr cT b7; have cY0 := keep_tr cY0 b7; have cY1 := keep_tr cY1 b7; clear o7))
                        have HN := Lib.hid (show ¬ icP l l' from fun z => by have := (HI.out z).1; rw [HB.out] at this; cases this)
                        go_wp2_with fail
                        refine wp_loop_rounds 1 ?_
                        rw [rounds_succ]
                        go_wp2
                        exact bodyPost_ret (v := .bool false) (by simp [results, Try.results16, go_sem]) rfl ⟨false, rfl, ⟨fun z => (by cases z), fun z => absurd z HN.out⟩, by repeat (first | (with_reducible assumption) | (exact bel_undr (by with_reducible assumption)) | (with_reducible exact bel_refl _) | (with_reducible refine bel_dr ?_) | (with_reducible refine bel_drN ?_ _) | (with_reducible refine bel_al ?_ _) | (refine bel_set ?_ (by first | (simp; done) | (simp; exact Below.size (by assumption)) | (simp; omega)) _) | (with_reducible refine bel_tr ?_ (by assumption)))⟩
                      · have HLn := Lib.hid (show L.length = l'.length from by rw [HLL.out, ← hL, (co_facts hB).2.2.2, List.length_cons, mvK_len])
                        have HL := Lib.hid hL
                        have HB := Lib.hid hB
                        clear hL hB
                        go_region_held3 (fun W => W.cell? ⟨b, off + 4, none⟩ = some (.int .i64 t) ∧ W.cell? ⟨Y, 0, none⟩ = some (.int .i64 p) ∧ W.cell? ⟨Y, 1, none⟩ = some (.int .i64 q) ∧ Below w.heap.size w W) (((try go_split_ands); (repeat' (with_reducible refine And.intro ?_ ?_)) <;> (first | (with_reducible assumption) | ((repeat (first | (with_reducible assumption) | (exact keep_undr (by with_reducible assumption)) | (simp [go_sem]; done) | (with_reducible refine keep_dr ?_) | (with_reducible refine keep_drN ?_ _) | (with_reducible refine keep_al ?_ _) | (refine keep_set ?_ (by first | (simp; done) | (simp; omega) | omega)) | (with_reducible refine keep_tr ?_ (by assumption)))); done) | ((repeat (first | (with_reducible assumption) | (exact bel_undr (by with_reducible assumption)) | (with_reducible exact bel_refl _) | (with_reducible refine bel_dr ?_) | (with_reducible refine bel_drN ?_ _) | (with_reducible refine bel_al ?_ _) | (refine bel_set ?_ (by first | (simp; done) | (simp; exact Below.size (by assumption)) | (simp; omega)) _) | (with_reducible refine bel_tr ?_ (by assumption)))); done) | (simp [go_sem]; done) | go_keep))) (first | (go_at_call 9; have b6 : Below w12.heap.size w12 w12.drew := bel_dr (bel_refl _); generalize w12.drew = wd at *; have bb := bb.trans (b6.mono (Nat.le_of_lt bY.lt)); have bY := bY.below b6; have bw := bel_tr bw b6; have cT := keep_tr cT b6; have cY0 := keep_tr cY0 b6; have cY1 := keep_tr cY1 b6; have h := rowAt hR bb (Nat.le_of_lt bY.lt); have h9 := rowAt hR9 bb (Nat.le_of_lt bY.lt); refine (sco_val HL.out HB.out _ _ _ _ rfl hm h).mono ?_; rintro e7 w7 ⟨A7, c7, rfl, lc7, cm7, r7, o7, b7⟩; have h9 := h9.below b7; have bw := bel_tr bw b7; have cT := keep_tr cT b7; have cY0 := keep_tr cY0 b7; have cY1 := keep_tr cY1 b7; clear o7))
                        have r9 := h9
                        have hLi := hLn
                        go_wp2_with fail
                        clear h
                        go_loopw [10, 11] (fun ok i wr => ∃ (q : Nat) (bo : Bool), q ≤ L.length ∧ i = .int .i64 q ∧ ok = .bool bo ∧ Below w7.heap.size w7 wr ∧ Hid (bo = true → ∀ j, j < q → atNt L j = atNt l' j) ∧ Hid (bo = false → ¬ L = l')) (fun _ i _ => L.length - (intOf i).toNat)
                        case atStart => exact ⟨0, true, Nat.zero_le _, rfl, rfl, by repeat (first | (with_reducible assumption) | (exact bel_undr (by with_reducible assumption)) | (with_reducible exact bel_refl _) | (with_reducible refine bel_dr ?_) | (with_reducible refine bel_drN ?_ _) | (with_reducible refine bel_al ?_ _) | (refine bel_set ?_ (by first | (simp; done) | (simp; exact Below.size (by assumption)) | (simp; omega)) _) | (with_reducible refine bel_tr ?_ (by assumption))), fun _ j hj => absurd hj (by omega), fun z => (by cases z)⟩
                        case round =>
                          obtain ⟨q, bo, hq, rfl, rfl, hb7, HT, HF⟩ := hrel
                          have hq0 : (0 : Int) ≤ (q : Int) := by omega
                          have hb8 := bel_tr bw hb7
                          by_cases hql : q < L.length
                          · have hqi : (q : Int) < (L.length : Int) := by omega
                            have hqi2 : (q : Int) < (l'.length : Int) := by have := HLn.out; omega
                            cases bo
                            · go_wp2_with fail
                              refine region_later (w0 := wr) (by kernel_rfl) (by kernel_rfl) (bel_refl _) ?_
                              repeat (go_big_quiet_step ((fail)))
                              refine wpQuiet_nil ?_
                              rintro w' ⟨x, rfl⟩
                              obtain ⟨w8, b8⟩ := x
                              go_wp2
                              go_roundw
                              case rel => exact ⟨q + 1, false, by omega, by go_num, rfl, by repeat (first | (with_reducible assumption) | (exact bel_undr (by with_reducible assumption)) | (with_reducible exact bel_refl _) | (with_reducible refine bel_dr ?_) | (with_reducible refine bel_drN ?_ _) | (with_reducible refine bel_al ?_ _) | (refine bel_set ?_ (by first | (simp; done) | (simp; exact Below.size (by assumption)) | (simp; omega)) _) | (with_reducible refine bel_tr ?_ (by assumption))), fun z => (by cases z), fun _ => HF.out (by simp)⟩
                              case measure => simp [intOf]; omega
                            · obtain ⟨b1, off1, rfl, hlb1, hc⟩ := (r7.below hb7) (by omega)
                              obtain ⟨b', off', hh, hlb', hc'⟩ := (r9.below hb7) (by have := HLn.out; omega)
                              have hck := hc q hql
                              have hck' := hc' q (by have := HLn.out; omega)
                              simp only [Option.some.injEq, Addr.mk.injEq, and_true] at hh
                              obtain ⟨rfl, rfl⟩ := hh
                              clear hc hc' r7 r9
                              by_cases hx : atNt L q = atNt l' q
                              · have HX2 := Lib.hid hx
                                rw [← hx] at hck'
                                clear hx
                                generalize atNt L q = x at hck hck'
                                obtain ⟨r, s, a, o, tt, d⟩ := x
                                obtain ⟨p0, p1, p2, p3, p4, p5⟩ := hck
                                obtain ⟨q0, q1, q2, q3, q4, q5⟩ := hck'
                                simp only at p0 p1 p2 p3 p4 p5 q0 q1 q2 q3 q4 q5
                                go_wp2_with fail
                                have lf0 : ∀ xL : Later wr, xL.world.cell? ⟨b1, off1 + q * 6, none⟩ = some (.bool r) := fun xL => xL.at (p0)
                                have lf1 : ∀ xL : Later wr, xL.world.cell? ⟨b1, off1 + q * 6 + 1, none⟩ = some (.int .i64 s) := fun xL => xL.at (p1)
                                have lf2 : ∀ xL : Later wr, xL.world.cell? ⟨b1, off1 + q * 6 + 2, none⟩ = some (.int .i64 a) := fun xL => xL.at (p2)
                                have lf3 : ∀ xL : Later wr, xL.world.cell? ⟨b1, off1 + q * 6 + 3, none⟩ = some (.int .i64 o) := fun xL => xL.at (p3)
                                have lf4 : ∀ xL : Later wr, xL.world.cell? ⟨b1, off1 + q * 6 + 4, none⟩ = some (.int .i64 tt) := fun xL => xL.at (p4)
                                have lf5 : ∀ xL : Later wr, xL.world.cell? ⟨b1, off1 + q * 6 + 5, none⟩ = some (.bool d) := fun xL => xL.at (p5)
                                have lf6 : ∀ xL : Later wr, xL.world.cell? ⟨b, off + q * 6, none⟩ = some (.bool r) := fun xL => xL.at (q0)
                                have lf7 : ∀ xL : Later wr, xL.world.cell? ⟨b, off + q * 6 + 1, none⟩ = some (.int .i64 s) := fun xL => xL.at (q1)
                                have lf8 : ∀ xL : Later wr, xL.world.cell? ⟨b, off + q * 6 + 2, none⟩ = some (.int .i64 a) := fun xL => xL.at (q2)
                                have lf9 : ∀ xL : Later wr, xL.world.cell? ⟨b, off + q * 6 + 3, none⟩ = some (.int .i64 o) := fun xL => xL.at (q3)
                                have lf10 : ∀ xL : Later wr, xL.world.cell? ⟨b, off + q * 6 + 4, none⟩ = some (.int .i64 tt) := fun xL => xL.at (q4)
                                have lf11 : ∀ xL : Later wr, xL.world.cell? ⟨b, off + q * 6 + 5, none⟩ = some (.bool d) := fun xL => xL.at (q5)
                                refine region_later (w0 := wr) (by kernel_rfl) (by kernel_rfl) (bel_refl _) ?_
                                repeat (go_big_quiet_step ((fail)))
                                refine wpQuiet_nil ?_
                                rintro w' ⟨x, rfl⟩
                                obtain ⟨w8, b8⟩ := x
                                clear lf0 lf1 lf2 lf3 lf4 lf5 lf6 lf7 lf8 lf9 lf10 lf11
                                go_wp2
                                go_roundw
                                case rel => exact ⟨q + 1, true, by omega, by go_num, rfl, by repeat (first | (with_reducible assumption) | (exact bel_undr (by with_reducible assumption)) | (with_reducible exact bel_refl _) | (with_reducible refine bel_dr ?_) | (with_reducible refine bel_drN ?_ _) | (with_reducible refine bel_al ?_ _) | (refine bel_set ?_ (by first | (simp; done) | (simp; exact Below.size (by assumption)) | (simp; omega)) _) | (with_reducible refine bel_tr ?_ (by assumption))), fun _ => (hid_snoc (Lib.hid (HT.out (by simp))) HX2.out).out, fun z => (by cases z)⟩
                                case measure => simp [intOf]; omega
                              · have HE := Lib.hid (show ¬ L = l' from fun e => hx (by rw [e]))
                                generalize atNt L q = x at hck hx
                                generalize atNt l' q = y at hck' hx
                                obtain ⟨r, s, a, o, tt, d⟩ := x
                                obtain ⟨r1, s1, a1, o1, tt1, d1⟩ := y
                                obtain ⟨p0, p1, p2, p3, p4, p5⟩ := hck
                                obtain ⟨q0, q1, q2, q3, q4, q5⟩ := hck'
                                simp only at p0 p1 p2 p3 p4 p5 q0 q1 q2 q3 q4 q5
                                by_cases c0 : r = r1
                                · subst c0
                                  by_cases c1 : s = s1
                                  · subst c1
                                    by_cases c2 : a = a1
                                    · subst c2
                                      by_cases c3 : o = o1
                                      · subst c3
                                        by_cases c4 : tt = tt1
                                        · subst c4
                                          have c5 : ¬ d = d1 := fun e => hx (by rw [e])
                                          have e5 : (d == d1) = false := by simpa using c5
                                          clear hx
                                          go_wp2_with fail
                                          have lf0 : ∀ xL : Later wr, xL.world.cell? ⟨b1, off1 + q * 6, none⟩ = some (.bool r) := fun xL => xL.at (p0)
                                          have lf1 : ∀ xL : Later wr, xL.world.cell? ⟨b1, off1 + q * 6 + 1, none⟩ = some (.int .i64 s) := fun xL => xL.at (p1)
                                          have lf2 : ∀ xL : Later wr, xL.world.cell? ⟨b1, off1 + q * 6 + 2, none⟩ = some (.int .i64 a) := fun xL => xL.at (p2)
                                          have lf3 : ∀ xL : Later wr, xL.world.cell? ⟨b1, off1 + q * 6 + 3, none⟩ = some (.int .i64 o) := fun xL => xL.at (p3)
                                          have lf4 : ∀ xL : Later wr, xL.world.cell? ⟨b1, off1 + q * 6 + 4, none⟩ = some (.int .i64 tt) := fun xL => xL.at (p4)
                                          have lf5 : ∀ xL : Later wr, xL.world.cell? ⟨b1, off1 + q * 6 + 5, none⟩ = some (.bool d) := fun xL => xL.at (p5)
                                          have lf6 : ∀ xL : Later wr, xL.world.cell? ⟨b, off + q * 6, none⟩ = some (.bool r) := fun xL => xL.at (q0)
                                          have lf7 : ∀ xL : Later wr, xL.world.cell? ⟨b, off + q * 6 + 1, none⟩ = some (.int .i64 s) := fun xL => xL.at (q1)
                                          have lf8 : ∀ xL : Later wr, xL.world.cell? ⟨b, off + q * 6 + 2, none⟩ = some (.int .i64 a) := fun xL => xL.at (q2)
                                          have lf9 : ∀ xL : Later wr, xL.world.cell? ⟨b, off + q * 6 + 3, none⟩ = some (.int .i64 o) := fun xL => xL.at (q3)
                                          have lf10 : ∀ xL : Later wr, xL.world.cell? ⟨b, off + q * 6 + 4, none⟩ = some (.int .i64 tt) := fun xL => xL.at (q4)
                                          have lf11 : ∀ xL : Later wr, xL.world.cell? ⟨b, off + q * 6 + 5, none⟩ = some (.bool d1) := fun xL => xL.at (q5)
                                          refine region_later (w0 := wr) (by kernel_rfl) (by kernel_rfl) (bel_refl _) ?_
                                          repeat (go_big_quiet_step ((fail)))
                                          refine wpQuiet_nil ?_
                                          rintro w' ⟨x, rfl⟩
                                          obtain ⟨w8, b8⟩ := x
                                          clear lf0 lf1 lf2 lf3 lf4 lf5 lf6 lf7 lf8 lf9 lf10 lf11
                                          go_wp2
                                          go_roundw
                                          case rel => exact ⟨q + 1, false, by omega, by go_num, rfl, by repeat (first | (with_reducible assumption) | (exact bel_undr (by with_reducible assumption)) | (with_reducible exact bel_refl _) | (with_reducible refine bel_dr ?_) | (with_reducible refine bel_drN ?_ _) | (with_reducible refine bel_al ?_ _) | (refine bel_set ?_ (by first | (simp; done) | (simp; exact Below.size (by assumption)) | (simp; omega)) _) | (with_reducible refine bel_tr ?_ (by assumption))), fun z => (by cases z), fun _ => HE.out⟩
                                          case measure => simp [intOf]; omega
                                        · have e4 : (tt == tt1) = false := by simpa using c4
                                          clear hx
                                          go_wp2_with fail
                                          have lf0 : ∀ xL : Later wr, xL.world.cell? ⟨b1, off1 + q * 6, none⟩ = some (.bool r) := fun xL => xL.at (p0)
                                          have lf1 : ∀ xL : Later wr, xL.world.cell? ⟨b1, off1 + q * 6 + 1, none⟩ = some (.int .i64 s) := fun xL => xL.at (p1)
                                          have lf2 : ∀ xL : Later wr, xL.world.cell? ⟨b1, off1 + q * 6 + 2, none⟩ = some (.int .i64 a) := fun xL => xL.at (p2)
                                          have lf3 : ∀ xL : Later wr, xL.world.cell? ⟨b1, off1 + q * 6 + 3, none⟩ = some (.int .i64 o) := fun xL => xL.at (p3)
                                          have lf4 : ∀ xL : Later wr, xL.world.cell? ⟨b1, off1 + q * 6 + 4, none⟩ = some (.int .i64 tt) := fun xL => xL.at (p4)
                                          have lf5 : ∀ xL : Later wr, xL.world.cell? ⟨b1, off1 + q * 6 + 5, none⟩ = some (.bool d) := fun xL => xL.at (p5)
                                          have lf6 : ∀ xL : Later wr, xL.world.cell? ⟨b, off + q * 6, none⟩ = some (.bool r) := fun xL => xL.at (q0)
                                          have lf7 : ∀ xL : Later wr, xL.world.cell? ⟨b, off + q * 6 + 1, none⟩ = some (.int .i64 s) := fun xL => xL.at (q1)
                                          have lf8 : ∀ xL : Later wr, xL.world.cell? ⟨b, off + q * 6 + 2, none⟩ = some (.int .i64 a) := fun xL => xL.at (q2)
                                          have lf9 : ∀ xL : Later wr, xL.world.cell? ⟨b, off + q * 6 + 3, none⟩ = some (.int .i64 o) := fun xL => xL.at (q3)
                                          have lf10 : ∀ xL : Later wr, xL.world.cell? ⟨b, off + q * 6 + 4, none⟩ = some (.int .i64 tt1) := fun xL => xL.at (q4)
                                          have lf11 : ∀ xL : Later wr, xL.world.cell? ⟨b, off + q * 6 + 5, none⟩ = some (.bool d1) := fun xL => xL.at (q5)
                                          refine region_later (w0 := wr) (by kernel_rfl) (by kernel_rfl) (bel_refl _) ?_
                                          repeat (go_big_quiet_step ((fail)))
                                          refine wpQuiet_nil ?_
                                          rintro w' ⟨x, rfl⟩
                                          obtain ⟨w8, b8⟩ := x
                                          clear lf0 lf1 lf2 lf3 lf4 lf5 lf6 lf7 lf8 lf9 lf10 lf11
                                          go_wp2
                                          go_roundw
                                          case rel => exact ⟨q + 1, false, by omega, by go_num, rfl, by repeat (first | (with_reducible assumption) | (exact bel_undr (by with_reducible assumption)) | (with_reducible exact bel_refl _) | (with_reducible refine bel_dr ?_) | (with_reducible refine bel_drN ?_ _) | (with_reducible refine bel_al ?_ _) | (refine bel_set ?_ (by first | (simp; done) | (simp; exact Below.size (by assumption)) | (simp; omega)) _) | (with_reducible refine bel_tr ?_ (by assumption))), fun z => (by cases z), fun _ => HE.out⟩
                                          case measure => simp [intOf]; omega
                                      · have e3 : (o == o1) = false := by simpa using c3
                                        clear hx
                                        go_wp2_with fail
                                        have lf0 : ∀ xL : Later wr, xL.world.cell? ⟨b1, off1 + q * 6, none⟩ = some (.bool r) := fun xL => xL.at (p0)
                                        have lf1 : ∀ xL : Later wr, xL.world.cell? ⟨b1, off1 + q * 6 + 1, none⟩ = some (.int .i64 s) := fun xL => xL.at (p1)
                                        have lf2 : ∀ xL : Later wr, xL.world.cell? ⟨b1, off1 + q * 6 + 2, none⟩ = some (.int .i64 a) := fun xL => xL.at (p2)
                                        have lf3 : ∀ xL : Later wr, xL.world.cell? ⟨b1, off1 + q * 6 + 3, none⟩ = some (.int .i64 o) := fun xL => xL.at (p3)
                                        have lf4 : ∀ xL : Later wr, xL.world.cell? ⟨b1, off1 + q * 6 + 4, none⟩ = some (.int .i64 tt) := fun xL => xL.at (p4)
                                        have lf5 : ∀ xL : Later wr, xL.world.cell? ⟨b1, off1 + q * 6 + 5, none⟩ = some (.bool d) := fun xL => xL.at (p5)
                                        have lf6 : ∀ xL : Later wr, xL.world.cell? ⟨b, off + q * 6, none⟩ = some (.bool r) := fun xL => xL.at (q0)
                                        have lf7 : ∀ xL : Later wr, xL.world.cell? ⟨b, off + q * 6 + 1, none⟩ = some (.int .i64 s) := fun xL => xL.at (q1)
                                        have lf8 : ∀ xL : Later wr, xL.world.cell? ⟨b, off + q * 6 + 2, none⟩ = some (.int .i64 a) := fun xL => xL.at (q2)
                                        have lf9 : ∀ xL : Later wr, xL.world.cell? ⟨b, off + q * 6 + 3, none⟩ = some (.int .i64 o1) := fun xL => xL.at (q3)
                                        have lf10 : ∀ xL : Later wr, xL.world.cell? ⟨b, off + q * 6 + 4, none⟩ = some (.int .i64 tt1) := fun xL => xL.at (q4)
                                        have lf11 : ∀ xL : Later wr, xL.world.cell? ⟨b, off + q * 6 + 5, none⟩ = some (.bool d1) := fun xL => xL.at (q5)
                                        refine region_later (w0 := wr) (by kernel_rfl) (by kernel_rfl) (bel_refl _) ?_
                                        repeat (go_big_quiet_step ((fail)))
                                        refine wpQuiet_nil ?_
                                        rintro w' ⟨x, rfl⟩
                                        obtain ⟨w8, b8⟩ := x
                                        clear lf0 lf1 lf2 lf3 lf4 lf5 lf6 lf7 lf8 lf9 lf10 lf11
                                        go_wp2
                                        go_roundw
                                        case rel => exact ⟨q + 1, false, by omega, by go_num, rfl, by repeat (first | (with_reducible assumption) | (exact bel_undr (by with_reducible assumption)) | (with_reducible exact bel_refl _) | (with_reducible refine bel_dr ?_) | (with_reducible refine bel_drN ?_ _) | (with_reducible refine bel_al ?_ _) | (refine bel_set ?_ (by first | (simp; done) | (simp; exact Below.size (by assumption)) | (simp; omega)) _) | (with_reducible refine bel_tr ?_ (by assumption))), fun z => (by cases z), fun _ => HE.out⟩
                                        case measure => simp [intOf]; omega
                                    · have e2 : (a == a1) = false := by simpa using c2
                                      clear hx
                                      go_wp2_with fail
                                      have lf0 : ∀ xL : Later wr, xL.world.cell? ⟨b1, off1 + q * 6, none⟩ = some (.bool r) := fun xL => xL.at (p0)
                                      have lf1 : ∀ xL : Later wr, xL.world.cell? ⟨b1, off1 + q * 6 + 1, none⟩ = some (.int .i64 s) := fun xL => xL.at (p1)
                                      have lf2 : ∀ xL : Later wr, xL.world.cell? ⟨b1, off1 + q * 6 + 2, none⟩ = some (.int .i64 a) := fun xL => xL.at (p2)
                                      have lf3 : ∀ xL : Later wr, xL.world.cell? ⟨b1, off1 + q * 6 + 3, none⟩ = some (.int .i64 o) := fun xL => xL.at (p3)
                                      have lf4 : ∀ xL : Later wr, xL.world.cell? ⟨b1, off1 + q * 6 + 4, none⟩ = some (.int .i64 tt) := fun xL => xL.at (p4)
                                      have lf5 : ∀ xL : Later wr, xL.world.cell? ⟨b1, off1 + q * 6 + 5, none⟩ = some (.bool d) := fun xL => xL.at (p5)
                                      have lf6 : ∀ xL : Later wr, xL.world.cell? ⟨b, off + q * 6, none⟩ = some (.bool r) := fun xL => xL.at (q0)
                                      have lf7 : ∀ xL : Later wr, xL.world.cell? ⟨b, off + q * 6 + 1, none⟩ = some (.int .i64 s) := fun xL => xL.at (q1)
                                      have lf8 : ∀ xL : Later wr, xL.world.cell? ⟨b, off + q * 6 + 2, none⟩ = some (.int .i64 a1) := fun xL => xL.at (q2)
                                      have lf9 : ∀ xL : Later wr, xL.world.cell? ⟨b, off + q * 6 + 3, none⟩ = some (.int .i64 o1) := fun xL => xL.at (q3)
                                      have lf10 : ∀ xL : Later wr, xL.world.cell? ⟨b, off + q * 6 + 4, none⟩ = some (.int .i64 tt1) := fun xL => xL.at (q4)
                                      have lf11 : ∀ xL : Later wr, xL.world.cell? ⟨b, off + q * 6 + 5, none⟩ = some (.bool d1) := fun xL => xL.at (q5)
                                      refine region_later (w0 := wr) (by kernel_rfl) (by kernel_rfl) (bel_refl _) ?_
                                      repeat (go_big_quiet_step ((fail)))
                                      refine wpQuiet_nil ?_
                                      rintro w' ⟨x, rfl⟩
                                      obtain ⟨w8, b8⟩ := x
                                      clear lf0 lf1 lf2 lf3 lf4 lf5 lf6 lf7 lf8 lf9 lf10 lf11
                                      go_wp2
                                      go_roundw
                                      case rel => exact ⟨q + 1, false, by omega, by go_num, rfl, by repeat (first | (with_reducible assumption) | (exact bel_undr (by with_reducible assumption)) | (with_reducible exact bel_refl _) | (with_reducible refine bel_dr ?_) | (with_reducible refine bel_drN ?_ _) | (with_reducible refine bel_al ?_ _) | (refine bel_set ?_ (by first | (simp; done) | (simp; exact Below.size (by assumption)) | (simp; omega)) _) | (with_reducible refine bel_tr ?_ (by assumption))), fun z => (by cases z), fun _ => HE.out⟩
                                      case measure => simp [intOf]; omega
                                  · have e1 : (s == s1) = false := by simpa using c1
                                    clear hx
                                    go_wp2_with fail
                                    have lf0 : ∀ xL : Later wr, xL.world.cell? ⟨b1, off1 + q * 6, none⟩ = some (.bool r) := fun xL => xL.at (p0)
                                    have lf1 : ∀ xL : Later wr, xL.world.cell? ⟨b1, off1 + q * 6 + 1, none⟩ = some (.int .i64 s) := fun xL => xL.at (p1)
                                    have lf2 : ∀ xL : Later wr, xL.world.cell? ⟨b1, off1 + q * 6 + 2, none⟩ = some (.int .i64 a) := fun xL => xL.at (p2)
                                    have lf3 : ∀ xL : Later wr, xL.world.cell? ⟨b1, off1 + q * 6 + 3, none⟩ = some (.int .i64 o) := fun xL => xL.at (p3)
                                    have lf4 : ∀ xL : Later wr, xL.world.cell? ⟨b1, off1 + q * 6 + 4, none⟩ = some (.int .i64 tt) := fun xL => xL.at (p4)
                                    have lf5 : ∀ xL : Later wr, xL.world.cell? ⟨b1, off1 + q * 6 + 5, none⟩ = some (.bool d) := fun xL => xL.at (p5)
                                    have lf6 : ∀ xL : Later wr, xL.world.cell? ⟨b, off + q * 6, none⟩ = some (.bool r) := fun xL => xL.at (q0)
                                    have lf7 : ∀ xL : Later wr, xL.world.cell? ⟨b, off + q * 6 + 1, none⟩ = some (.int .i64 s1) := fun xL => xL.at (q1)
                                    have lf8 : ∀ xL : Later wr, xL.world.cell? ⟨b, off + q * 6 + 2, none⟩ = some (.int .i64 a1) := fun xL => xL.at (q2)
                                    have lf9 : ∀ xL : Later wr, xL.world.cell? ⟨b, off + q * 6 + 3, none⟩ = some (.int .i64 o1) := fun xL => xL.at (q3)
                                    have lf10 : ∀ xL : Later wr, xL.world.cell? ⟨b, off + q * 6 + 4, none⟩ = some (.int .i64 tt1) := fun xL => xL.at (q4)
                                    have lf11 : ∀ xL : Later wr, xL.world.cell? ⟨b, off + q * 6 + 5, none⟩ = some (.bool d1) := fun xL => xL.at (q5)
                                    refine region_later (w0 := wr) (by kernel_rfl) (by kernel_rfl) (bel_refl _) ?_
                                    repeat (go_big_quiet_step ((fail)))
                                    refine wpQuiet_nil ?_
                                    rintro w' ⟨x, rfl⟩
                                    obtain ⟨w8, b8⟩ := x
                                    clear lf0 lf1 lf2 lf3 lf4 lf5 lf6 lf7 lf8 lf9 lf10 lf11
                                    go_wp2
                                    go_roundw
                                    case rel => exact ⟨q + 1, false, by omega, by go_num, rfl, by repeat (first | (with_reducible assumption) | (exact bel_undr (by with_reducible assumption)) | (with_reducible exact bel_refl _) | (with_reducible refine bel_dr ?_) | (with_reducible refine bel_drN ?_ _) | (with_reducible refine bel_al ?_ _) | (refine bel_set ?_ (by first | (simp; done) | (simp; exact Below.size (by assumption)) | (simp; omega)) _) | (with_reducible refine bel_tr ?_ (by assumption))), fun z => (by cases z), fun _ => HE.out⟩
                                    case measure => simp [intOf]; omega
                                · have e0 : (r == r1) = false := by simpa using c0
                                  clear hx
                                  go_wp2_with fail
                                  have lf0 : ∀ xL : Later wr, xL.world.cell? ⟨b1, off1 + q * 6, none⟩ = some (.bool r) := fun xL => xL.at (p0)
                                  have lf1 : ∀ xL : Later wr, xL.world.cell? ⟨b1, off1 + q * 6 + 1, none⟩ = some (.int .i64 s) := fun xL => xL.at (p1)
                                  have lf2 : ∀ xL : Later wr, xL.world.cell? ⟨b1, off1 + q * 6 + 2, none⟩ = some (.int .i64 a) := fun xL => xL.at (p2)
                                  have lf3 : ∀ xL : Later wr, xL.world.cell? ⟨b1, off1 + q * 6 + 3, none⟩ = some (.int .i64 o) := fun xL => xL.at (p3)
                                  have lf4 : ∀ xL : Later wr, xL.world.cell? ⟨b1, off1 + q * 6 + 4, none⟩ = some (.int .i64 tt) := fun xL => xL.at (p4)
                                  have lf5 : ∀ xL : Later wr, xL.world.cell? ⟨b1, off1 + q * 6 + 5, none⟩ = some (.bool d) := fun xL => xL.at (p5)
                                  have lf6 : ∀ xL : Later wr, xL.world.cell? ⟨b, off + q * 6, none⟩ = some (.bool r1) := fun xL => xL.at (q0)
                                  have lf7 : ∀ xL : Later wr, xL.world.cell? ⟨b, off + q * 6 + 1, none⟩ = some (.int .i64 s1) := fun xL => xL.at (q1)
                                  have lf8 : ∀ xL : Later wr, xL.world.cell? ⟨b, off + q * 6 + 2, none⟩ = some (.int .i64 a1) := fun xL => xL.at (q2)
                                  have lf9 : ∀ xL : Later wr, xL.world.cell? ⟨b, off + q * 6 + 3, none⟩ = some (.int .i64 o1) := fun xL => xL.at (q3)
                                  have lf10 : ∀ xL : Later wr, xL.world.cell? ⟨b, off + q * 6 + 4, none⟩ = some (.int .i64 tt1) := fun xL => xL.at (q4)
                                  have lf11 : ∀ xL : Later wr, xL.world.cell? ⟨b, off + q * 6 + 5, none⟩ = some (.bool d1) := fun xL => xL.at (q5)
                                  refine region_later (w0 := wr) (by kernel_rfl) (by kernel_rfl) (bel_refl _) ?_
                                  repeat (go_big_quiet_step ((fail)))
                                  refine wpQuiet_nil ?_
                                  rintro w' ⟨x, rfl⟩
                                  obtain ⟨w8, b8⟩ := x
                                  clear lf0 lf1 lf2 lf3 lf4 lf5 lf6 lf7 lf8 lf9 lf10 lf11
                                  go_wp2
                                  go_roundw
                                  case rel => exact ⟨q + 1, false, by omega, by go_num, rfl, by repeat (first | (with_reducible assumption) | (exact bel_undr (by with_reducible assumption)) | (with_reducible exact bel_refl _) | (with_reducible refine bel_dr ?_) | (with_reducible refine bel_drN ?_ _) | (with_reducible refine bel_al ?_ _) | (refine bel_set ?_ (by first | (simp; done) | (simp; exact Below.size (by assumption)) | (simp; omega)) _) | (with_reducible refine bel_tr ?_ (by assumption))), fun z => (by cases z), fun _ => HE.out⟩
                                  case measure => simp [intOf]; omega
                          · have hqi : ¬ (q : Int) < (L.length : Int) := by omega
                            cases bo
                            · have HN := Lib.hid (show ¬ icP l l' from fun z => HF.out rfl (HL.out.symm.trans (HI.out z).2))
                              go_wp2
                              exact bodyPost_ret (v := .bool false) (by simp [results, Try.results16, go_sem]) rfl ⟨false, rfl, ⟨fun z => (by cases z), fun z => absurd z HN.out⟩, hb8⟩
                            · have HE := Lib.hid (show L = l' from nt_ext HLn.out (fun j hj => HT.out rfl j (by omega)))
                              go_wp2
                              exact bodyPost_ret (v := .bool true) (by simp [results, Try.results16, go_sem]) rfl ⟨true, rfl, ⟨fun _ => ⟨HV.out, HV'.out, _, _, _, HB.out, HL.out.trans HE.out⟩, fun _ => rfl⟩, hb8⟩
                · have HOK : Hid (¬ ((atNt l k).rest = false ∧ (atNt l' (k + 1)).rest = false)) := fun z => by have := z.2; rw [HY.out] at this; cases this
                  go_wp2
                  go_roundw
                  case rel => exact ⟨k + 1, by omega, by go_num, bw, bb, bY, hid_snoc HK HOK.out⟩
                  case measure => simp [intOf]; omega
              · have HOK : Hid (¬ ((atNt l k).rest = false ∧ (atNt l' (k + 1)).rest = false)) := fun z => by have := z.1; rw [HXi.out] at this; cases this
                go_wp2
                go_roundw
                case rel => exact ⟨k + 1, by omega, by go_num, bw, bb, bY, hid_snoc HK HOK.out⟩
                case measure => simp [intOf]; omega
            · obtain rfl : k = l.length := by omega
              have hki : ¬ (l.length : Int) < (l.length : Int) := by omega
              go_upto_region 12 with fail
              have HI := Lib.hid (show icP l l' → coB l t 0 0 = true ∧ coL l t 0 0 = l' from fun z => by have g := ic_none z (fun j hj => by have e := (ic_len z).2.2 j hj; have k := HK.out j hj; rw [e] at k; cases hr : (atNt l j).rest; exact absurd ⟨hr, hr⟩ k; rfl); rw [HX.out] at g; exact g)
              obtain ⟨L, hL⟩ : ∃ L, coL l t 0 0 = L := ⟨_, rfl⟩
              have hLn : L.length ≤ 61 := by rw [← hL]; exact coL_len _ _ _ _
              have cT : wr.cell? ⟨b, off + 4, none⟩ = some (.int .i64 t) := (bb.cell (p := ⟨b, off + 4, none⟩) hlbY).trans pT
              have cY0 : wr.cell? ⟨Y, 0, none⟩ = some (.int .i64 0) := by rw [Blk.cell bY]; rfl
              have cY1 : wr.cell? ⟨Y, 1, none⟩ = some (.int .i64 0) := by rw [Blk.cell bY]; rfl
              cases hB : coB l t 0 0
              · obtain rfl : L = [] := by rw [← hL]; unfold coL; rw [hB]; rfl
                clear hLn
                have HL := Lib.hid hL
                have HB := Lib.hid hB
                clear hL hB
                go_region_held3 (fun W => W.cell? ⟨b, off + 4, none⟩ = some (.int .i64 t) ∧ W.cell? ⟨Y, 0, none⟩ = some (.int .i64 0) ∧ W.cell? ⟨Y, 1, none⟩ = some (.int .i64 0) ∧ Below w.heap.size w W) (((try go_split_ands); (repeat' (with_reducible refine And.intro ?_ ?_)) <;> (first | (with_reducible assumption) | ((repeat (first | (with_reducible assumption) | (exact keep_undr (by with_reducible assumption)) | (simp [go_sem]; done) | (with_reducible refine keep_dr ?_) | (with_reducible refine keep_drN ?_ _) | (with_reducible refine keep_al ?_ _) | (refine keep_set ?_ (by first | (simp; done) | (simp; omega) | omega)) | (with_reducible refine keep_tr ?_ (by assumption)))); done) | ((repeat (first | (with_reducible assumption) | (exact bel_undr (by with_reducible assumption)) | (with_reducible exact bel_refl _) | (with_reducible refine bel_dr ?_) | (with_reducible refine bel_drN ?_ _) | (with_reducible refine bel_al ?_ _) | (refine bel_set ?_ (by first | (simp; done) | (simp; exact Below.size (by assumption)) | (simp; omega)) _) | (with_reducible refine bel_tr ?_ (by assumption)))); done) | (simp [go_sem]; done) | go_keep))) (first | (go_at_call 9; have b6 : Below wr.heap.size wr wr.drew := bel_dr (bel_refl _); generalize wr.drew = wd at *; have bb := bb.trans (b6.mono (Nat.le_of_lt bY.lt)); have bY := bY.below b6; have bw := bel_tr bw b6; have cT := keep_tr cT b6; have cY0 := keep_tr cY0 b6; have cY1 := keep_tr cY1 b6; have h := rowAt hR bb (Nat.le_of_lt bY.lt); have h9 := rowAt hR9 bb (Nat.le_of_lt bY.lt); refine (sco_val HL.out HB.out _ _ _ _ rfl hm h).mono ?_; rintro e7 w7 ⟨A7, c7, rfl, lc7, cm7, r7, o7, b7⟩; have h9 := h9.below b7; have bw := bel_tr bw b7; have cT := keep_tr cT b7; have cY0 := keep_tr cY0 b7; have cY1 := keep_tr cY1 b7; clear o7))
                have HN := Lib.hid (show ¬ icP l l' from fun z => by have := (HI.out z).1; rw [HB.out] at this; cases this)
                go_wp2_with fail
                refine wp_loop_rounds 1 ?_
                rw [rounds_succ]
                go_wp2
                exact bodyPost_ret (v := .bool false) (by simp [results, Try.results16, go_sem]) rfl ⟨false, rfl, ⟨fun z => (by cases z), fun z => absurd z HN.out⟩, by repeat (first | (with_reducible assumption) | (exact bel_undr (by with_reducible assumption)) | (with_reducible exact bel_refl _) | (with_reducible refine bel_dr ?_) | (with_reducible refine bel_drN ?_ _) | (with_reducible refine bel_al ?_ _) | (refine bel_set ?_ (by first | (simp; done) | (simp; exact Below.size (by assumption)) | (simp; omega)) _) | (with_reducible refine bel_tr ?_ (by assumption)))⟩
              · have HLn := Lib.hid (show L.length = l'.length from by rw [HLL.out, ← hL, (co_facts hB).2.2.2, List.length_cons, mvK_len])
                have HL := Lib.hid hL
                have HB := Lib.hid hB
                clear hL hB
                go_region_held3 (fun W => W.cell? ⟨b, off + 4, none⟩ = some (.int .i64 t) ∧ W.cell? ⟨Y, 0, none⟩ = some (.int .i64 0) ∧ W.cell? ⟨Y, 1, none⟩ = some (.int .i64 0) ∧ Below w.heap.size w W) (((try go_split_ands); (repeat' (with_reducible refine And.intro ?_ ?_)) <;> (first | (with_reducible assumption) | ((repeat (first | (with_reducible assumption) | (exact keep_undr (by with_reducible assumption)) | (simp [go_sem]; done) | (with_reducible refine keep_dr ?_) | (with_reducible refine keep_drN ?_ _) | (with_reducible refine keep_al ?_ _) | (refine keep_set ?_ (by first | (simp; done) | (simp; omega) | omega)) | (with_reducible refine keep_tr ?_ (by assumption)))); done) | ((repeat (first | (with_reducible assumption) | (exact bel_undr (by with_reducible assumption)) | (with_reducible exact bel_refl _) | (with_reducible refine bel_dr ?_) | (with_reducible refine bel_drN ?_ _) | (with_reducible refine bel_al ?_ _) | (refine bel_set ?_ (by first | (simp; done) | (simp; exact Below.size (by assumption)) | (simp; omega)) _) | (with_reducible refine bel_tr ?_ (by assumption)))); done) | (simp [go_sem]; done) | go_keep))) (first | (go_at_call 9; have b6 : Below wr.heap.size wr wr.drew := bel_dr (bel_refl _); generalize wr.drew = wd at *; have bb := bb.trans (b6.mono (Nat.le_of_lt bY.lt)); have bY := bY.below b6; have bw := bel_tr bw b6; have cT := keep_tr cT b6; have cY0 := keep_tr cY0 b6; have cY1 := keep_tr cY1 b6; have h := rowAt hR bb (Nat.le_of_lt bY.lt); have h9 := rowAt hR9 bb (Nat.le_of_lt bY.lt); refine (sco_val HL.out HB.out _ _ _ _ rfl hm h).mono ?_; rintro e7 w7 ⟨A7, c7, rfl, lc7, cm7, r7, o7, b7⟩; have h9 := h9.below b7; have bw := bel_tr bw b7; have cT := keep_tr cT b7; have cY0 := keep_tr cY0 b7; have cY1 := keep_tr cY1 b7; clear o7))
                have r9 := h9
                have hLi := hLn
                go_wp2_with fail
                clear h
                go_loopw [10, 11] (fun ok i wr => ∃ (q : Nat) (bo : Bool), q ≤ L.length ∧ i = .int .i64 q ∧ ok = .bool bo ∧ Below w7.heap.size w7 wr ∧ Hid (bo = true → ∀ j, j < q → atNt L j = atNt l' j) ∧ Hid (bo = false → ¬ L = l')) (fun _ i _ => L.length - (intOf i).toNat)
                case atStart => exact ⟨0, true, Nat.zero_le _, rfl, rfl, by repeat (first | (with_reducible assumption) | (exact bel_undr (by with_reducible assumption)) | (with_reducible exact bel_refl _) | (with_reducible refine bel_dr ?_) | (with_reducible refine bel_drN ?_ _) | (with_reducible refine bel_al ?_ _) | (refine bel_set ?_ (by first | (simp; done) | (simp; exact Below.size (by assumption)) | (simp; omega)) _) | (with_reducible refine bel_tr ?_ (by assumption))), fun _ j hj => absurd hj (by omega), fun z => (by cases z)⟩
                case round =>
                  obtain ⟨q, bo, hq, rfl, rfl, hb7, HT, HF⟩ := hrel
                  have hq0 : (0 : Int) ≤ (q : Int) := by omega
                  have hb8 := bel_tr bw hb7
                  by_cases hql : q < L.length
                  · have hqi : (q : Int) < (L.length : Int) := by omega
                    have hqi2 : (q : Int) < (l'.length : Int) := by have := HLn.out; omega
                    cases bo
                    · go_wp2_with fail
                      refine region_later (w0 := wr) (by kernel_rfl) (by kernel_rfl) (bel_refl _) ?_
                      repeat (go_big_quiet_step ((fail)))
                      refine wpQuiet_nil ?_
                      rintro w' ⟨x, rfl⟩
                      obtain ⟨w8, b8⟩ := x
                      go_wp2
                      go_roundw
                      case rel => exact ⟨q + 1, false, by omega, by go_num, rfl, by repeat (first | (with_reducible assumption) | (exact bel_undr (by with_reducible assumption)) | (with_reducible exact bel_refl _) | (with_reducible refine bel_dr ?_) | (with_reducible refine bel_drN ?_ _) | (with_reducible refine bel_al ?_ _) | (refine bel_set ?_ (by first | (simp; done) | (simp; exact Below.size (by assumption)) | (simp; omega)) _) | (with_reducible refine bel_tr ?_ (by assumption))), fun z => (by cases z), fun _ => HF.out (by simp)⟩
                      case measure => simp [intOf]; omega
                    · obtain ⟨b1, off1, rfl, hlb1, hc⟩ := (r7.below hb7) (by omega)
                      obtain ⟨b', off', hh, hlb', hc'⟩ := (r9.below hb7) (by have := HLn.out; omega)
                      have hck := hc q hql
                      have hck' := hc' q (by have := HLn.out; omega)
                      simp only [Option.some.injEq, Addr.mk.injEq, and_true] at hh
                      obtain ⟨rfl, rfl⟩ := hh
                      clear hc hc' r7 r9
                      by_cases hx : atNt L q = atNt l' q
                      · have HX2 := Lib.hid hx
                        rw [← hx] at hck'
                        clear hx
                        generalize atNt L q = x at hck hck'
                        obtain ⟨r, s, a, o, tt, d⟩ := x
                        obtain ⟨p0, p1, p2, p3, p4, p5⟩ := hck
                        obtain ⟨q0, q1, q2, q3, q4, q5⟩ := hck'
                        simp only at p0 p1 p2 p3 p4 p5 q0 q1 q2 q3 q4 q5
                        go_wp2_with fail
                        have lf0 : ∀ xL : Later wr, xL.world.cell? ⟨b1, off1 + q * 6, none⟩ = some (.bool r) := fun xL => xL.at (p0)
                        have lf1 : ∀ xL : Later wr, xL.world.cell? ⟨b1, off1 + q * 6 + 1, none⟩ = some (.int .i64 s) := fun xL => xL.at (p1)
                        have lf2 : ∀ xL : Later wr, xL.world.cell? ⟨b1, off1 + q * 6 + 2, none⟩ = some (.int .i64 a) := fun xL => xL.at (p2)
                        have lf3 : ∀ xL : Later wr, xL.world.cell? ⟨b1, off1 + q * 6 + 3, none⟩ = some (.int .i64 o) := fun xL => xL.at (p3)
                        have lf4 : ∀ xL : Later wr, xL.world.cell? ⟨b1, off1 + q * 6 + 4, none⟩ = some (.int .i64 tt) := fun xL => xL.at (p4)
                        have lf5 : ∀ xL : Later wr, xL.world.cell? ⟨b1, off1 + q * 6 + 5, none⟩ = some (.bool d) := fun xL => xL.at (p5)
                        have lf6 : ∀ xL : Later wr, xL.world.cell? ⟨b, off + q * 6, none⟩ = some (.bool r) := fun xL => xL.at (q0)
                        have lf7 : ∀ xL : Later wr, xL.world.cell? ⟨b, off + q * 6 + 1, none⟩ = some (.int .i64 s) := fun xL => xL.at (q1)
                        have lf8 : ∀ xL : Later wr, xL.world.cell? ⟨b, off + q * 6 + 2, none⟩ = some (.int .i64 a) := fun xL => xL.at (q2)
                        have lf9 : ∀ xL : Later wr, xL.world.cell? ⟨b, off + q * 6 + 3, none⟩ = some (.int .i64 o) := fun xL => xL.at (q3)
                        have lf10 : ∀ xL : Later wr, xL.world.cell? ⟨b, off + q * 6 + 4, none⟩ = some (.int .i64 tt) := fun xL => xL.at (q4)
                        have lf11 : ∀ xL : Later wr, xL.world.cell? ⟨b, off + q * 6 + 5, none⟩ = some (.bool d) := fun xL => xL.at (q5)
                        refine region_later (w0 := wr) (by kernel_rfl) (by kernel_rfl) (bel_refl _) ?_
                        repeat (go_big_quiet_step ((fail)))
                        refine wpQuiet_nil ?_
                        rintro w' ⟨x, rfl⟩
                        obtain ⟨w8, b8⟩ := x
                        clear lf0 lf1 lf2 lf3 lf4 lf5 lf6 lf7 lf8 lf9 lf10 lf11
                        go_wp2
                        go_roundw
                        case rel => exact ⟨q + 1, true, by omega, by go_num, rfl, by repeat (first | (with_reducible assumption) | (exact bel_undr (by with_reducible assumption)) | (with_reducible exact bel_refl _) | (with_reducible refine bel_dr ?_) | (with_reducible refine bel_drN ?_ _) | (with_reducible refine bel_al ?_ _) | (refine bel_set ?_ (by first | (simp; done) | (simp; exact Below.size (by assumption)) | (simp; omega)) _) | (with_reducible refine bel_tr ?_ (by assumption))), fun _ => (hid_snoc (Lib.hid (HT.out (by simp))) HX2.out).out, fun z => (by cases z)⟩
                        case measure => simp [intOf]; omega
                      · have HE := Lib.hid (show ¬ L = l' from fun e => hx (by rw [e]))
                        generalize atNt L q = x at hck hx
                        generalize atNt l' q = y at hck' hx
                        obtain ⟨r, s, a, o, tt, d⟩ := x
                        obtain ⟨r1, s1, a1, o1, tt1, d1⟩ := y
                        obtain ⟨p0, p1, p2, p3, p4, p5⟩ := hck
                        obtain ⟨q0, q1, q2, q3, q4, q5⟩ := hck'
                        simp only at p0 p1 p2 p3 p4 p5 q0 q1 q2 q3 q4 q5
                        by_cases c0 : r = r1
                        · subst c0
                          by_cases c1 : s = s1
                          · subst c1
                            by_cases c2 : a = a1
                            · subst c2
                              by_cases c3 : o = o1
                              · subst c3
                                by_cases c4 : tt = tt1
                                · subst c4
                                  have c5 : ¬ d = d1 := fun e => hx (by rw [e])
                                  have e5 : (d == d1) = false := by simpa using c5
                                  clear hx
                                  go_wp2_with fail
                                  have lf0 : ∀ xL : Later wr, xL.world.cell? ⟨b1, off1 + q * 6, none⟩ = some (.bool r) := fun xL => xL.at (p0)
                                  have lf1 : ∀ xL : Later wr, xL.world.cell? ⟨b1, off1 + q * 6 + 1, none⟩ = some (.int .i64 s) := fun xL => xL.at (p1)
                                  have lf2 : ∀ xL : Later wr, xL.world.cell? ⟨b1, off1 + q * 6 + 2, none⟩ = some (.int .i64 a) := fun xL => xL.at (p2)
                                  have lf3 : ∀ xL : Later wr, xL.world.cell? ⟨b1, off1 + q * 6 + 3, none⟩ = some (.int .i64 o) := fun xL => xL.at (p3)
                                  have lf4 : ∀ xL : Later wr, xL.world.cell? ⟨b1, off1 + q * 6 + 4, none⟩ = some (.int .i64 tt) := fun xL => xL.at (p4)
                                  have lf5 : ∀ xL : Later wr, xL.world.cell? ⟨b1, off1 + q * 6 + 5, none⟩ = some (.bool d) := fun xL => xL.at (p5)
                                  have lf6 : ∀ xL : Later wr, xL.world.cell? ⟨b, off + q * 6, none⟩ = some (.bool r) := fun xL => xL.at (q0)
                                  have lf7 : ∀ xL : Later wr, xL.world.cell? ⟨b, off + q * 6 + 1, none⟩ = some (.int .i64 s) := fun xL => xL.at (q1)
                                  have lf8 : ∀ xL : Later wr, xL.world.cell? ⟨b, off + q * 6 + 2, none⟩ = some (.int .i64 a) := fun xL => xL.at (q2)
                                  have lf9 : ∀ xL : Later wr, xL.world.cell? ⟨b, off + q * 6 + 3, none⟩ = some (.int .i64 o) := fun xL => xL.at (q3)
                                  have lf10 : ∀ xL : Later wr, xL.world.cell? ⟨b, off + q * 6 + 4, none⟩ = some (.int .i64 tt) := fun xL => xL.at (q4)
                                  have lf11 : ∀ xL : Later wr, xL.world.cell? ⟨b, off + q * 6 + 5, none⟩ = some (.bool d1) := fun xL => xL.at (q5)
                                  refine region_later (w0 := wr) (by kernel_rfl) (by kernel_rfl) (bel_refl _) ?_
                                  repeat (go_big_quiet_step ((fail)))
                                  refine wpQuiet_nil ?_
                                  rintro w' ⟨x, rfl⟩
                                  obtain ⟨w8, b8⟩ := x
                                  clear lf0 lf1 lf2 lf3 lf4 lf5 lf6 lf7 lf8 lf9 lf10 lf11
                                  go_wp2
                                  go_roundw
                                  case rel => exact ⟨q + 1, false, by omega, by go_num, rfl, by repeat (first | (with_reducible assumption) | (exact bel_undr (by with_reducible assumption)) | (with_reducible exact bel_refl _) | (with_reducible refine bel_dr ?_) | (with_reducible refine bel_drN ?_ _) | (with_reducible refine bel_al ?_ _) | (refine bel_set ?_ (by first | (simp; done) | (simp; exact Below.size (by assumption)) | (simp; omega)) _) | (with_reducible refine bel_tr ?_ (by assumption))), fun z => (by cases z), fun _ => HE.out⟩
                                  case measure => simp [intOf]; omega
                                · have e4 : (tt == tt1) = false := by simpa using c4
                                  clear hx
                                  go_wp2_with fail
                                  have lf0 : ∀ xL : Later wr, xL.world.cell? ⟨b1, off1 + q * 6, none⟩ = some (.bool r) := fun xL => xL.at (p0)
                                  have lf1 : ∀ xL : Later wr, xL.world.cell? ⟨b1, off1 + q * 6 + 1, none⟩ = some (.int .i64 s) := fun xL => xL.at (p1)
                                  have lf2 : ∀ xL : Later wr, xL.world.cell? ⟨b1, off1 + q * 6 + 2, none⟩ = some (.int .i64 a) := fun xL => xL.at (p2)
                                  have lf3 : ∀ xL : Later wr, xL.world.cell? ⟨b1, off1 + q * 6 + 3, none⟩ = some (.int .i64 o) := fun xL => xL.at (p3)
                                  have lf4 : ∀ xL : Later wr, xL.world.cell? ⟨b1, off1 + q * 6 + 4, none⟩ = some (.int .i64 tt) := fun xL => xL.at (p4)
                                  have lf5 : ∀ xL : Later wr, xL.world.cell? ⟨b1, off1 + q * 6 + 5, none⟩ = some (.bool d) := fun xL => xL.at (p5)
                                  have lf6 : ∀ xL : Later wr, xL.world.cell? ⟨b, off + q * 6, none⟩ = some (.bool r) := fun xL => xL.at (q0)
                                  have lf7 : ∀ xL : Later wr, xL.world.cell? ⟨b, off + q * 6 + 1, none⟩ = some (.int .i64 s) := fun xL => xL.at (q1)
                                  have lf8 : ∀ xL : Later wr, xL.world.cell? ⟨b, off + q * 6 + 2, none⟩ = some (.int .i64 a) := fun xL => xL.at (q2)
                                  have lf9 : ∀ xL : Later wr, xL.world.cell? ⟨b, off + q * 6 + 3, none⟩ = some (.int .i64 o) := fun xL => xL.at (q3)
                                  have lf10 : ∀ xL : Later wr, xL.world.cell? ⟨b, off + q * 6 + 4, none⟩ = some (.int .i64 tt1) := fun xL => xL.at (q4)
                                  have lf11 : ∀ xL : Later wr, xL.world.cell? ⟨b, off + q * 6 + 5, none⟩ = some (.bool d1) := fun xL => xL.at (q5)
                                  refine region_later (w0 := wr) (by kernel_rfl) (by kernel_rfl) (bel_refl _) ?_
                                  repeat (go_big_quiet_step ((fail)))
                                  refine wpQuiet_nil ?_
                                  rintro w' ⟨x, rfl⟩
                                  obtain ⟨w8, b8⟩ := x
                                  clear lf0 lf1 lf2 lf3 lf4 lf5 lf6 lf7 lf8 lf9 lf10 lf11
                                  go_wp2
                                  go_roundw
                                  case rel => exact ⟨q + 1, false, by omega, by go_num, rfl, by repeat (first | (with_reducible assumption) | (exact bel_undr (by with_reducible assumption)) | (with_reducible exact bel_refl _) | (with_reducible refine bel_dr ?_) | (with_reducible refine bel_drN ?_ _) | (with_reducible refine bel_al ?_ _) | (refine bel_set ?_ (by first | (simp; done) | (simp; exact Below.size (by assumption)) | (simp; omega)) _) | (with_reducible refine bel_tr ?_ (by assumption))), fun z => (by cases z), fun _ => HE.out⟩
                                  case measure => simp [intOf]; omega
                              · have e3 : (o == o1) = false := by simpa using c3
                                clear hx
                                go_wp2_with fail
                                have lf0 : ∀ xL : Later wr, xL.world.cell? ⟨b1, off1 + q * 6, none⟩ = some (.bool r) := fun xL => xL.at (p0)
                                have lf1 : ∀ xL : Later wr, xL.world.cell? ⟨b1, off1 + q * 6 + 1, none⟩ = some (.int .i64 s) := fun xL => xL.at (p1)
                                have lf2 : ∀ xL : Later wr, xL.world.cell? ⟨b1, off1 + q * 6 + 2, none⟩ = some (.int .i64 a) := fun xL => xL.at (p2)
                                have lf3 : ∀ xL : Later wr, xL.world.cell? ⟨b1, off1 + q * 6 + 3, none⟩ = some (.int .i64 o) := fun xL => xL.at (p3)
                                have lf4 : ∀ xL : Later wr, xL.world.cell? ⟨b1, off1 + q * 6 + 4, none⟩ = some (.int .i64 tt) := fun xL => xL.at (p4)
                                have lf5 : ∀ xL : Later wr, xL.world.cell? ⟨b1, off1 + q * 6 + 5, none⟩ = some (.bool d) := fun xL => xL.at (p5)
                                have lf6 : ∀ xL : Later wr, xL.world.cell? ⟨b, off + q * 6, none⟩ = some (.bool r) := fun xL => xL.at (q0)
                                have lf7 : ∀ xL : Later wr, xL.world.cell? ⟨b, off + q * 6 + 1, none⟩ = some (.int .i64 s) := fun xL => xL.at (q1)
                                have lf8 : ∀ xL : Later wr, xL.world.cell? ⟨b, off + q * 6 + 2, none⟩ = some (.int .i64 a) := fun xL => xL.at (q2)
                                have lf9 : ∀ xL : Later wr, xL.world.cell? ⟨b, off + q * 6 + 3, none⟩ = some (.int .i64 o1) := fun xL => xL.at (q3)
                                have lf10 : ∀ xL : Later wr, xL.world.cell? ⟨b, off + q * 6 + 4, none⟩ = some (.int .i64 tt1) := fun xL => xL.at (q4)
                                have lf11 : ∀ xL : Later wr, xL.world.cell? ⟨b, off + q * 6 + 5, none⟩ = some (.bool d1) := fun xL => xL.at (q5)
                                refine region_later (w0 := wr) (by kernel_rfl) (by kernel_rfl) (bel_refl _) ?_
                                repeat (go_big_quiet_step ((fail)))
                                refine wpQuiet_nil ?_
                                rintro w' ⟨x, rfl⟩
                                obtain ⟨w8, b8⟩ := x
                                clear lf0 lf1 lf2 lf3 lf4 lf5 lf6 lf7 lf8 lf9 lf10 lf11
                                go_wp2
                                go_roundw
                                case rel => exact ⟨q + 1, false, by omega, by go_num, rfl, by repeat (first | (with_reducible assumption) | (exact bel_undr (by with_reducible assumption)) | (with_reducible exact bel_refl _) | (with_reducible refine bel_dr ?_) | (with_reducible refine bel_drN ?_ _) | (with_reducible refine bel_al ?_ _) | (refine bel_set ?_ (by first | (simp; done) | (simp; exact Below.size (by assumption)) | (simp; omega)) _) | (with_reducible refine bel_tr ?_ (by assumption))), fun z => (by cases z), fun _ => HE.out⟩
                                case measure => simp [intOf]; omega
                            · have e2 : (a == a1) = false := by simpa using c2
                              clear hx
                              go_wp2_with fail
                              have lf0 : ∀ xL : Later wr, xL.world.cell? ⟨b1, off1 + q * 6, none⟩ = some (.bool r) := fun xL => xL.at (p0)
                              have lf1 : ∀ xL : Later wr, xL.world.cell? ⟨b1, off1 + q * 6 + 1, none⟩ = some (.int .i64 s) := fun xL => xL.at (p1)
                              have lf2 : ∀ xL : Later wr, xL.world.cell? ⟨b1, off1 + q * 6 + 2, none⟩ = some (.int .i64 a) := fun xL => xL.at (p2)
                              have lf3 : ∀ xL : Later wr, xL.world.cell? ⟨b1, off1 + q * 6 + 3, none⟩ = some (.int .i64 o) := fun xL => xL.at (p3)
                              have lf4 : ∀ xL : Later wr, xL.world.cell? ⟨b1, off1 + q * 6 + 4, none⟩ = some (.int .i64 tt) := fun xL => xL.at (p4)
                              have lf5 : ∀ xL : Later wr, xL.world.cell? ⟨b1, off1 + q * 6 + 5, none⟩ = some (.bool d) := fun xL => xL.at (p5)
                              have lf6 : ∀ xL : Later wr, xL.world.cell? ⟨b, off + q * 6, none⟩ = some (.bool r) := fun xL => xL.at (q0)
                              have lf7 : ∀ xL : Later wr, xL.world.cell? ⟨b, off + q * 6 + 1, none⟩ = some (.int .i64 s) := fun xL => xL.at (q1)
                              have lf8 : ∀ xL : Later wr, xL.world.cell? ⟨b, off + q * 6 + 2, none⟩ = some (.int .i64 a1) := fun xL => xL.at (q2)
                              have lf9 : ∀ xL : Later wr, xL.world.cell? ⟨b, off + q * 6 + 3, none⟩ = some (.int .i64 o1) := fun xL => xL.at (q3)
                              have lf10 : ∀ xL : Later wr, xL.world.cell? ⟨b, off + q * 6 + 4, none⟩ = some (.int .i64 tt1) := fun xL => xL.at (q4)
                              have lf11 : ∀ xL : Later wr, xL.world.cell? ⟨b, off + q * 6 + 5, none⟩ = some (.bool d1) := fun xL => xL.at (q5)
                              refine region_later (w0 := wr) (by kernel_rfl) (by kernel_rfl) (bel_refl _) ?_
                              repeat (go_big_quiet_step ((fail)))
                              refine wpQuiet_nil ?_
                              rintro w' ⟨x, rfl⟩
                              obtain ⟨w8, b8⟩ := x
                              clear lf0 lf1 lf2 lf3 lf4 lf5 lf6 lf7 lf8 lf9 lf10 lf11
                              go_wp2
                              go_roundw
                              case rel => exact ⟨q + 1, false, by omega, by go_num, rfl, by repeat (first | (with_reducible assumption) | (exact bel_undr (by with_reducible assumption)) | (with_reducible exact bel_refl _) | (with_reducible refine bel_dr ?_) | (with_reducible refine bel_drN ?_ _) | (with_reducible refine bel_al ?_ _) | (refine bel_set ?_ (by first | (simp; done) | (simp; exact Below.size (by assumption)) | (simp; omega)) _) | (with_reducible refine bel_tr ?_ (by assumption))), fun z => (by cases z), fun _ => HE.out⟩
                              case measure => simp [intOf]; omega
                          · have e1 : (s == s1) = false := by simpa using c1
                            clear hx
                            go_wp2_with fail
                            have lf0 : ∀ xL : Later wr, xL.world.cell? ⟨b1, off1 + q * 6, none⟩ = some (.bool r) := fun xL => xL.at (p0)
                            have lf1 : ∀ xL : Later wr, xL.world.cell? ⟨b1, off1 + q * 6 + 1, none⟩ = some (.int .i64 s) := fun xL => xL.at (p1)
                            have lf2 : ∀ xL : Later wr, xL.world.cell? ⟨b1, off1 + q * 6 + 2, none⟩ = some (.int .i64 a) := fun xL => xL.at (p2)
                            have lf3 : ∀ xL : Later wr, xL.world.cell? ⟨b1, off1 + q * 6 + 3, none⟩ = some (.int .i64 o) := fun xL => xL.at (p3)
                            have lf4 : ∀ xL : Later wr, xL.world.cell? ⟨b1, off1 + q * 6 + 4, none⟩ = some (.int .i64 tt) := fun xL => xL.at (p4)
                            have lf5 : ∀ xL : Later wr, xL.world.cell? ⟨b1, off1 + q * 6 + 5, none⟩ = some (.bool d) := fun xL => xL.at (p5)
                            have lf6 : ∀ xL : Later wr, xL.world.cell? ⟨b, off + q * 6, none⟩ = some (.bool r) := fun xL => xL.at (q0)
                            have lf7 : ∀ xL : Later wr, xL.world.cell? ⟨b, off + q * 6 + 1, none⟩ = some (.int .i64 s1) := fun xL => xL.at (q1)
                            have lf8 : ∀ xL : Later wr, xL.world.cell? ⟨b, off + q * 6 + 2, none⟩ = some (.int .i64 a1) := fun xL => xL.at (q2)
                            have lf9 : ∀ xL : Later wr, xL.world.cell? ⟨b, off + q * 6 + 3, none⟩ = some (.int .i64 o1) := fun xL => xL.at (q3)
                            have lf10 : ∀ xL : Later wr, xL.world.cell? ⟨b, off + q * 6 + 4, none⟩ = some (.int .i64 tt1) := fun xL => xL.at (q4)
                            have lf11 : ∀ xL : Later wr, xL.world.cell? ⟨b, off + q * 6 + 5, none⟩ = some (.bool d1) := fun xL => xL.at (q5)
                            refine region_later (w0 := wr) (by kernel_rfl) (by kernel_rfl) (bel_refl _) ?_
                            repeat (go_big_quiet_step ((fail)))
                            refine wpQuiet_nil ?_
                            rintro w' ⟨x, rfl⟩
                            obtain ⟨w8, b8⟩ := x
                            clear lf0 lf1 lf2 lf3 lf4 lf5 lf6 lf7 lf8 lf9 lf10 lf11
                            go_wp2
                            go_roundw
                            case rel => exact ⟨q + 1, false, by omega, by go_num, rfl, by repeat (first | (with_reducible assumption) | (exact bel_undr (by with_reducible assumption)) | (with_reducible exact bel_refl _) | (with_reducible refine bel_dr ?_) | (with_reducible refine bel_drN ?_ _) | (with_reducible refine bel_al ?_ _) | (refine bel_set ?_ (by first | (simp; done) | (simp; exact Below.size (by assumption)) | (simp; omega)) _) | (with_reducible refine bel_tr ?_ (by assumption))), fun z => (by cases z), fun _ => HE.out⟩
                            case measure => simp [intOf]; omega
                        · have e0 : (r == r1) = false := by simpa using c0
                          clear hx
                          go_wp2_with fail
                          have lf0 : ∀ xL : Later wr, xL.world.cell? ⟨b1, off1 + q * 6, none⟩ = some (.bool r) := fun xL => xL.at (p0)
                          have lf1 : ∀ xL : Later wr, xL.world.cell? ⟨b1, off1 + q * 6 + 1, none⟩ = some (.int .i64 s) := fun xL => xL.at (p1)
                          have lf2 : ∀ xL : Later wr, xL.world.cell? ⟨b1, off1 + q * 6 + 2, none⟩ = some (.int .i64 a) := fun xL => xL.at (p2)
                          have lf3 : ∀ xL : Later wr, xL.world.cell? ⟨b1, off1 + q * 6 + 3, none⟩ = some (.int .i64 o) := fun xL => xL.at (p3)
                          have lf4 : ∀ xL : Later wr, xL.world.cell? ⟨b1, off1 + q * 6 + 4, none⟩ = some (.int .i64 tt) := fun xL => xL.at (p4)
                          have lf5 : ∀ xL : Later wr, xL.world.cell? ⟨b1, off1 + q * 6 + 5, none⟩ = some (.bool d) := fun xL => xL.at (p5)
                          have lf6 : ∀ xL : Later wr, xL.world.cell? ⟨b, off + q * 6, none⟩ = some (.bool r1) := fun xL => xL.at (q0)
                          have lf7 : ∀ xL : Later wr, xL.world.cell? ⟨b, off + q * 6 + 1, none⟩ = some (.int .i64 s1) := fun xL => xL.at (q1)
                          have lf8 : ∀ xL : Later wr, xL.world.cell? ⟨b, off + q * 6 + 2, none⟩ = some (.int .i64 a1) := fun xL => xL.at (q2)
                          have lf9 : ∀ xL : Later wr, xL.world.cell? ⟨b, off + q * 6 + 3, none⟩ = some (.int .i64 o1) := fun xL => xL.at (q3)
                          have lf10 : ∀ xL : Later wr, xL.world.cell? ⟨b, off + q * 6 + 4, none⟩ = some (.int .i64 tt1) := fun xL => xL.at (q4)
                          have lf11 : ∀ xL : Later wr, xL.world.cell? ⟨b, off + q * 6 + 5, none⟩ = some (.bool d1) := fun xL => xL.at (q5)
                          refine region_later (w0 := wr) (by kernel_rfl) (by kernel_rfl) (bel_refl _) ?_
                          repeat (go_big_quiet_step ((fail)))
                          refine wpQuiet_nil ?_
                          rintro w' ⟨x, rfl⟩
                          obtain ⟨w8, b8⟩ := x
                          clear lf0 lf1 lf2 lf3 lf4 lf5 lf6 lf7 lf8 lf9 lf10 lf11
                          go_wp2
                          go_roundw
                          case rel => exact ⟨q + 1, false, by omega, by go_num, rfl, by repeat (first | (with_reducible assumption) | (exact bel_undr (by with_reducible assumption)) | (with_reducible exact bel_refl _) | (with_reducible refine bel_dr ?_) | (with_reducible refine bel_drN ?_ _) | (with_reducible refine bel_al ?_ _) | (refine bel_set ?_ (by first | (simp; done) | (simp; exact Below.size (by assumption)) | (simp; omega)) _) | (with_reducible refine bel_tr ?_ (by assumption))), fun z => (by cases z), fun _ => HE.out⟩
                          case measure => simp [intOf]; omega
                  · have hqi : ¬ (q : Int) < (L.length : Int) := by omega
                    cases bo
                    · have HN := Lib.hid (show ¬ icP l l' from fun z => HF.out rfl (HL.out.symm.trans (HI.out z).2))
                      go_wp2
                      exact bodyPost_ret (v := .bool false) (by simp [results, Try.results16, go_sem]) rfl ⟨false, rfl, ⟨fun z => (by cases z), fun z => absurd z HN.out⟩, hb8⟩
                    · have HE := Lib.hid (show L = l' from nt_ext HLn.out (fun j hj => HT.out rfl j (by omega)))
                      go_wp2
                      exact bodyPost_ret (v := .bool true) (by simp [results, Try.results16, go_sem]) rfl ⟨true, rfl, ⟨fun _ => ⟨HV.out, HV'.out, _, _, _, HB.out, HL.out.trans HE.out⟩, fun _ => rfl⟩, hb8⟩
      · have HN := Lib.hid (show ¬ icP l l' from fun z => hz (ic_len z).1)
        have hzi : ¬ (l'.length : Int) = (l.length : Int) + 1 := by omega
        clear hz
        have HV := Lib.hid hv
        have HV' := Lib.hid hv'
        have h60 := (vvB_of hv).len
        have h60' := (vvB_of hv').len
        have clr := trivial
        clear hv hv' clr
        go_enter Try.func16, Try.ntmps16
        go_wp2_with fail
        refine (svv_val HV.out _ _ _ _ rfl hm h).mono ?_
        rintro e1 w1 ⟨rfl, b1⟩
        have h := h.below b1
        have h9 := h9.below b1
        have bw := bel_tr bw b1
        clear b1
        go_wp2_with fail
        refine (svv_val HV'.out _ _ _ _ rfl hm' h9).mono ?_
        rintro e2 w2 ⟨rfl, b2⟩
        have h := h.below b2
        have h9 := h9.below b2
        have bw := bel_tr bw b2
        clear b2
        go_wp2
        exact bodyPost_ret (v := .bool false) (by simp [results, Try.results16, go_sem]) rfl ⟨false, rfl, ⟨fun z => (by cases z), fun z => absurd z HN.out⟩, bw⟩
end Go.Proofs.Ytldgpgljapohiaa
