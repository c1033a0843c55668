/- The reference's table of lines. -/
import Derived.Test.YtdmidimjbhkjoaaLtL
import Derived.Test.YtdmidimjbhkjoaaLnS
import Derived.Deep.DeepCutAuto
namespace Go.Proofs.Ytdmidimjbhkjoaa
set_option linter.unusedSimpArgs false
set_option linter.unusedVariables false
open Go.RowKit

def zG (f : Int) (c T : List Pi) (k : Nat) : Nat → Nat → Int := fun a b => if a < k then 0 else cnI f c T a (atPi T b)
def zF (f : Int) (c T : List Pi) (k i : Nat) : Nat → Nat → Int := fun a b => if a < k ∨ (a = k ∧ i ≤ b) then 0 else cnI f c T a (atPi T b)
theorem zF_0 {f : Int} {c T : List Pi} {k : Nat} (a b : Nat) : zG f c T (k + 1) a b = zF f c T k 0 a b := by
  unfold zG zF
  by_cases h : a < k + 1
  · rw [if_pos h, if_pos (by omega)]
  · rw [if_neg h, if_neg (by omega)]
theorem zF_m {f : Int} {c T : List Pi} {k m : Nat} (a b : Nat) (h : b < m) : zF f c T k m a b = zG f c T k a b := by
  unfold zG zF
  by_cases h2 : a < k
  · rw [if_pos (.inl h2), if_pos h2]
  · rw [if_neg (by omega), if_neg h2]
theorem zF_set {f : Int} {c T : List Pi} {k i : Nat} {v : Int} (hv : cnI f c T k (atPi T i) = v) (a b : Nat) : (if a = k ∧ b = i then v else zF f c T k i a b) = zF f c T k (i + 1) a b := by
  unfold zF
  by_cases e : a = k ∧ b = i
  · obtain ⟨rfl, rfl⟩ := e
    rw [if_pos ⟨rfl, rfl⟩, if_neg (by omega)]
    exact hv.symm
  · rw [if_neg e]
    by_cases h : a < k ∨ (a = k ∧ i ≤ b)
    · rw [if_pos h, if_pos (by omega)]
    · rw [if_neg h, if_neg (by omega)]
theorem zF_skip {f : Int} {c T : List Pi} {k i : Nat} (hv : cnI f c T k (atPi T i) = 0) (a b : Nat) : zF f c T k i a b = zF f c T k (i + 1) a b := by
  rw [← zF_set (f := f) (c := c) (T := T) (k := k) (i := i) hv a b]
  unfold zF
  by_cases e : a = k ∧ b = i
  · rw [if_pos e, if_pos (by omega)]
  · rw [if_neg e]
/-- with a partial sum at place i -/
def zS (f : Int) (c T : List Pi) (k i : Nat) (p : Pi) (j : Nat) : Nat → Nat → Int := fun a b => if a = k ∧ b = i then sumK (nxI f c T k p) T j else zF f c T k i a b
theorem zS_0 {f : Int} {c T : List Pi} {k i : Nat} {p : Pi} (a b : Nat) : zF f c T k i a b = zS f c T k i p 0 a b := by
  unfold zS
  by_cases e : a = k ∧ b = i
  · rw [if_pos e]; unfold zF; rw [if_pos (by omega)]; rfl
  · rw [if_neg e]
theorem zS_set {f : Int} {c T : List Pi} {k i : Nat} {p : Pi} {j j' : Nat} (a b : Nat) : (if a = k ∧ b = i then sumK (nxI f c T k p) T j' else zS f c T k i p j a b) = zS f c T k i p j' a b := by
  unfold zS
  by_cases e : a = k ∧ b = i
  · rw [if_pos e, if_pos e]
  · rw [if_neg e, if_neg e, if_neg e]
theorem zS_same {f : Int} {c T : List Pi} {k i : Nat} {p : Pi} {j j' : Nat} (h : sumK (nxI f c T k p) T j = sumK (nxI f c T k p) T j') (a b : Nat) : zS f c T k i p j a b = zS f c T k i p j' a b := by unfold zS; rw [h]
def csV (v : Value) : List Value := [v]
theorem csV_len (v : Value) : (csV v).length = 1 := rfl
def rowV (m : Nat) (g : Nat) : Value := .slice (some ⟨g, 0, none⟩) m m
/-- rows of zeros that the call has made -/
def RowsZ (w : World) (base m : Nat) (rows : List Nat) : Prop := (∀ g ∈ rows, base ≤ g ∧ ∃ r : Array Value, Blk w g r 3 ∧ r.size = m ∧ ∀ j, j < m → r[j]? = some (.int .i64 0)) ∧ rows.Pairwise (· ≠ ·)
theorem RowsZ.below {w w' : World} {base m : Nat} {rows : List Nat} (h : RowsZ w base m rows) (hb : Below w.heap.size w w') : RowsZ w' base m rows :=
  ⟨fun g hg => by obtain ⟨a, r, b, c⟩ := h.1 g hg; exact ⟨a, r, b.below hb, c⟩, h.2⟩
theorem RowsZ.grown {w w' : World} {base m : Nat} {rows : List Nat} {e : TypeId} {size n : Nat} {v : Value} {xs : List Value} {row : Option Nat} (h : RowsZ w base m rows) (ho : w.ownsRow base e size v n xs) (hg : w.grownBy w' row) (hr : row = v.ownBlock) (hne : 3 ≠ e) : RowsZ w' base m rows :=
  ⟨fun g hh => by
    obtain ⟨a, r, b, c⟩ := h.1 g hh
    exact ⟨a, r, b.grown hg (by rw [hr]; exact own_ne ho b hne), c⟩, h.2⟩
theorem RowsZ.snoc {w : World} {base m : Nat} {rows : List Nat} {g : Nat} {r : Array Value} (h : RowsZ w base m rows) (hg : base ≤ g) (hb : Blk w g r 3) (hs : r.size = m) (hz : ∀ j, j < m → r[j]? = some (.int .i64 0)) (hnew : ∀ x ∈ rows, x ≠ g) : RowsZ w base m (rows ++ [g]) := by
  refine ⟨fun x hx => ?_, ?_⟩
  · rcases List.mem_append.1 hx with h1 | h1
    · exact h.1 x h1
    · have e : x = g := by simpa using h1
      subst e
      exact ⟨hg, r, hb, hs, hz⟩
  · refine List.pairwise_append.2 ⟨h.2, List.pairwise_singleton _ _, fun a ha b hb => ?_⟩
    have e : b = g := by simpa using hb
    subst e
    exact hnew a ha
theorem RowsZ.lt {w : World} {base m : Nat} {rows : List Nat} (h : RowsZ w base m rows) {g : Nat} (hg : g ∈ rows) : g < w.heap.size := by
  obtain ⟨_, r, b, _⟩ := h.1 g hg
  exact b.lt
theorem flatV (l : List Value) : flat csV l = l := by
  induction l with
  | nil => rfl
  | cons a l ih => simp only [flat, List.flatMap_cons, csV] at ih ⊢; rw [ih]; rfl
/-- the table of zeros -/
theorem tab_zero {w : World} {base m : Nat} {rows : List Nat} {v : Value} (h : RowsZ w base m rows) (ho : w.ownsRow base 55 1 v rows.length (flat csV (rows.map (rowV m)))) (h1 : 0 < rows.length) :
    ∃ G cap, v = .slice (some ⟨G, 0, none⟩) rows.length cap ∧ rows.length ≤ cap ∧ Tab w base G rows.length m 0 (fun _ _ => 0) := by
  rw [flatV] at ho
  rcases ho.2 with ⟨_, h0⟩ | ⟨G, cap, cur, rfl, hb, hg, hc, _, hs, ht⟩
  · omega
  · refine ⟨G, cap, rfl, hc, hb, fun k => rows.getD k 0, ⟨cur, hg, by omega, fun k _ hk => ?_⟩, fun k _ hk => ?_, fun j k _ hj hk => ?_⟩
    · have e : cur.toList[k]? = (rows.map (rowV m))[k]? := by rw [← ht, List.getElem?_take_of_lt (by omega)]
      rw [← Array.getElem?_toList, e]
      simp [rowV, hk]
    · have hm : rows.getD k 0 ∈ rows := by simp [List.getD_eq_getElem?_getD, hk]
      obtain ⟨a, r, b, c, d⟩ := h.1 _ hm
      exact ⟨a, fun e => blk_ne b (show Blk w G cur 55 from hg) (by decide) e, r, b, c, d⟩
    · have := List.pairwise_iff_getElem.1 h.2 j k (by omega) hk hj
      simpa [List.getD_eq_getElem?_getD, hk, show j < rows.length from by omega] using this
/-- what the reference's table is -/
def TbR (w : World) (f : Int) (c T : List Pi) (e : Ending) (w' : World) : Prop :=
  ∃ G cap, e = .returned (.slice (some ⟨G, 0, none⟩) c.length cap) ∧ c.length ≤ cap ∧ Tab w' w.heap.size G c.length T.length 0 (fun a b => cnI f c T a (atPi T b)) ∧ Below w.heap.size w w'
set_option maxRecDepth 20000 in
set_option maxHeartbeats 8000000 in
theorem sct_any (f : Int) (c T : List Pi) (A : Option Addr) (n c1 : Nat) (AT : Option Addr) (m cT : Nat) (w : World) (hn : c.length = n) (hc2 : 2 ≤ c.length) (hc10 : c.length ≤ 10) (hmT : T.length = m) (hT63 : T.length ≤ 63) (hc : RowPi w w.heap.size A c) (hT : RowPi w w.heap.size AT T)
    (hcv : ∀ k, k < c.length → -2 ≤ kyP (atPi c k)) (hTv : ∀ k, k < T.length → -2 ≤ kyP (atPi T k)) :
    Calls Try.prog 53 #[.int .i64 f, .slice A n c1, .slice AT m cT] w (TbR w f c T) := by
  subst hn hmT
  obtain ⟨i0, hi0, hz0, hz1, hz2⟩ := info_parts infoI
  obtain ⟨i1, hi1, hx0, hx1, hx2⟩ := info_parts infoIS
  have own0 : (w.alloc (.cells #[] 55)).ownsRow w.heap.size 55 1 (.slice (some ⟨w.heap.size, 0, none⟩) 0 0) (([] : List Nat).map (rowV T.length)).length (flat csV (([] : List Nat).map (rowV T.length))) := World.ownsRow_lit w #[] 0 (Nat.le_refl _) (by simp [maxLen]) rfl
  have b0 : Below w.heap.size w (w.alloc (.cells #[] 55)) := bel_al (bel_refl w) _
  have hi9 := IntWalk.i64_in ((c.length : Int) - 1) (by omega)
  go_enter Try.func53, Try.ntmps53
  go_wp2
  go_loopw [8, 9] (fun o i wr => ∃ rows : List Nat, rows.length ≤ c.length ∧ i = .int .i64 rows.length ∧ wr.ownsRow w.heap.size 55 1 o (rows.map (rowV T.length)).length (flat csV (rows.map (rowV T.length))) ∧ RowsZ wr w.heap.size T.length rows ∧ Below w.heap.size w wr) (fun _ i _ => c.length - (intOf i).toNat)
  case atStart => exact ⟨[], by simp, rfl, own0, ⟨fun g hg => (by cases hg), List.Pairwise.nil⟩, b0⟩
  case round =>
    obtain ⟨rows, hk, rfl, hown, hrz, hb⟩ := hrel
    clear own0 b0
    by_cases hlt : rows.length < c.length
    · have hkl : (rows.length : Int) < (c.length : Int) := by omega
      have hs0 := hb.size
      go_wp2_with (first | (at_make; refine wpList_make_full _ rfl _ _ 55 rfl wr.heap.size 3 i0 (.int .i64 0) 1 Try.underlying55 hi0 hz0 hz1 .i64 .i64 _ _ T.length rfl rfl rfl rfl (by rw [hz2]; omega) (by unfold maxLen; omega) (Nat.le_refl _) ?_; intro w5 o5 g5; have hb5 : Below wr.heap.size wr w5 := (bel_grown (bel_refl wr) g5 (fun k e => by cases e)); obtain ⟨_, r5, bk5, rs5, rz5⟩ := own_blk o5; have hownX := own_below hown hb5; have hrzX := hrz.below hb5; have hbX := bel_tr hb hb5; have hs5 := hb5.size; have hrl : (rows.map (rowV T.length)).length = rows.length := (by simp); have hz5 : ∀ j, j < T.length → r5[j]? = some (.int .i64 0) := (fun j hj => (rz5 j hj).trans (made_one rfl hj)); have hnew : ∀ x ∈ rows, x ≠ wr.heap.size := (fun x hx => Nat.ne_of_lt (hrz.lt hx)); clear hown hrz hb o5 rz5 g5 hb5) | (at_builtin; go_must (refine wpList_append_lies _ rfl _ _ 70 rfl w.heap.size 55 i1 _ 1 24 Try.underlying70 hi1 hx0 hx1 hx2 rfl (by omega) _ (rows.map (rowV T.length)).length (flat csV (rows.map (rowV T.length))) rfl (hownX.alloc _) ⟨w5.heap.size, 0, none⟩ 1 1 [rowV T.length wr.heap.size] rfl rfl (World.news_of_block (cs := #[rowV T.length wr.heap.size]) (t := 55) (fr := (0, 0)) (heap_alloc_new w5 _)) (by simp [Value.oneCell', rowV]) (by first | (simp; done) | (simp; omega)) (by first | (unfold maxLen; simp; done) | (unfold maxLen; simp; omega)) (by first | (simp; done) | (simp; omega)) (by first | (simp; done) | (simp; omega)) _ rfl ?_; intro gg9 cp9 w9 hown9 hgrow9 hat9 hlt9)))
      have hbZ : Below w.heap.size w w9 := bel_grown (bel_al hbX (.cells #[rowV T.length wr.heap.size] 55)) hgrow9 (fun k hk => by have := own_ge hownX k hk; omega)
      have hrz9 := (RowsZ.snoc hrzX (show w.heap.size ≤ wr.heap.size from hs0) bk5 rs5 hz5 hnew)
      have hrzZ := (hrz9.below (bel_al (bel_refl w5) (.cells #[rowV T.length wr.heap.size] 55))).grown (hownX.alloc _) hgrow9 rfl (by decide)
      have hq := own_push (cs := csV) (t := rowV T.length wr.heap.size) hown9 rfl
      rw [List.length_map] at hq
      go_wp2
      go_roundw
      case rel => exact ⟨rows ++ [wr.heap.size], (by first | (simp; done) | (simp; omega)), (by simp), by rw [List.map_append]; exact hq, hrzZ, hbZ⟩
      case measure => simp [intOf]; omega
    · have hkl : rows.length = c.length := by omega
      have hnl : ¬ (rows.length : Int) < (c.length : Int) := by omega
      obtain ⟨G, cp, rfl, hcp, hT0⟩ := tab_zero hrz (by simpa using hown) (by omega)
      rw [hkl] at hT0 hcp ⊢
      have hcap : (c.length : Int) ≤ (cp : Int) := by omega
      have hTz : Tab wr w.heap.size G c.length T.length 0 (zG f c T c.length) := hT0.cong (fun a b _ h2 _ => by unfold zG; rw [if_pos h2])
      have hb0 := hb
      clear hown hrz hT0 hb hkl hnl
      go_wp2
      go_loopw [10, 11, 12] (fun a _ _ wr => ∃ k : Nat, k ≤ c.length ∧ a = .int .i64 ((k : Int) - 1) ∧ Tab wr w.heap.size G c.length T.length 0 (zG f c T k) ∧ Below w.heap.size w wr) (fun a _ _ _ => (intOf a + 1).toNat)
      case atStart => exact ⟨c.length, Nat.le_refl _, rfl, hTz, hb0⟩
      case round =>
        obtain ⟨k1, hk1, rfl, hTab, hb⟩ := hrel
        clear hTz hb0
        by_cases hk0 : k1 = 0
        · subst hk0
          have e0 : ((0 : Nat) : Int) - 1 = -1 := by decide
          go_wp2
          go_ret
          exact ⟨G, cp, rfl, hcp, hTab.cong (fun a b _ _ _ => by unfold zG; rw [if_neg (by omega)]), hb⟩
        · obtain ⟨k, rfl⟩ : ∃ k, k1 = k + 1 := ⟨k1 - 1, by omega⟩
          have ek : (((k + 1 : Nat) : Int) - 1) = (k : Int) := by omega
          rw [ek]
          clear ek hk0
          have hkn : k < c.length := by omega
          have hk0 : (0 : Int) ≤ (k : Int) := by omega
          have hkl : (k : Int) < (c.length : Int) := by omega
          have ik := IntWalk.i64_in ((k : Int) - 1) (by omega)
          have hT0 := hTab.cong (fun a b _ _ _ => zF_0 a b)
          have hb0 := hb
          clear hTab hb
          go_wp2
          go_loopw [11, 12] (fun i _ wr => ∃ j : Nat, j ≤ T.length ∧ i = .int .i64 j ∧ Tab wr w.heap.size G c.length T.length 0 (zF f c T k j) ∧ Below w.heap.size w wr) (fun i _ _ => T.length - (intOf i).toNat)
          case atStart => exact ⟨0, Nat.zero_le _, rfl, hT0, hb0⟩
          case round =>
            obtain ⟨j, hj, rfl, hTab, hb⟩ := hrel
            clear hT0 hb0
            by_cases hlt : j < T.length
            · obtain ⟨tb, toff, rfl, htb, htc⟩ := (hT.below hb) (by omega)
              obtain ⟨cb, coff, rfl, hcb, hcc⟩ := (hc.below hb) (by omega)
              have htj := htc j hlt
              have hck := hcc k hkn
              clear htc hcc
              have hjl : (j : Int) < (T.length : Int) := by omega
              have hj0 : (0 : Int) ≤ (j : Int) := by omega
              have hpv := hTv j hlt
              have hxv := hcv k hkn
              obtain ⟨p, hp⟩ : ∃ p, atPi T j = p := ⟨_, rfl⟩
              obtain ⟨x, hx⟩ : ∃ x, atPi c k = x := ⟨_, rfl⟩
              obtain ⟨t1, ht1⟩ : ∃ t1, tnP f c k p = t1 := ⟨_, rfl⟩
              rw [hp] at htj hpv
              rw [hx] at hck hxv
              have HPJ := Lib.hid hp
              have HX := Lib.hid hx
              have HT1 := Lib.hid ht1
              clear hp hx ht1
              obtain ⟨p0, p1, p2⟩ := htj
              obtain ⟨x0, x1, x2⟩ := hck
              have LA : ∀ xL : Later wr, Calls Try.prog 27 #[.int .i64 f, .agg #[.int .i64 x.step, .int .i64 x.alter, .int .i64 x.octave], .agg #[.int .i64 p.step, .int .i64 p.alter, .int .i64 p.octave], .int .i64 k, .int .i64 c.length] xL.world fun e w'' => e = .returned (.int .i64 t1) ∧ ∃ z : Later wr, w'' = z.world := fun xL => later_call (by have h := so_any f k c.length x.step x.alter x.octave p.step p.alter p.octave (kyP x) (kyP p) (ikT f p) ((k : Int) == 0) ((k : Int) == (c.length : Int) - 1) rfl rfl rfl rfl rfl (by omega) xL.world; rw [show tnK (ikT f p) (kyP x) (kyP p) ((k : Int) == 0) ((k : Int) == (c.length : Int) - 1) = t1 from by rw [← HT1.out]; unfold tnP; rw [HX.out]] at h; exact h)
              go_upto_region 13 with fail
              have lf0 : ∀ xL : Later wr, xL.world.cell? ⟨cb, coff + k * 3, none⟩ = some (.int .i64 x.step) := fun xL => xL.at (x0)
              have lf1 : ∀ xL : Later wr, xL.world.cell? ⟨cb, coff + k * 3 + 1, none⟩ = some (.int .i64 x.alter) := fun xL => xL.at (x1)
              have lf2 : ∀ xL : Later wr, xL.world.cell? ⟨cb, coff + k * 3 + 2, none⟩ = some (.int .i64 x.octave) := fun xL => xL.at (x2)
              have lf3 : ∀ xL : Later wr, xL.world.cell? ⟨tb, toff + j * 3, none⟩ = some (.int .i64 p.step) := fun xL => xL.at (p0)
              have lf4 : ∀ xL : Later wr, xL.world.cell? ⟨tb, toff + j * 3 + 1, none⟩ = some (.int .i64 p.alter) := fun xL => xL.at (p1)
              have lf5 : ∀ xL : Later wr, xL.world.cell? ⟨tb, toff + j * 3 + 2, none⟩ = some (.int .i64 p.octave) := fun xL => xL.at (p2)
              refine region_later (w0 := wr) (by kernel_rfl) (by kernel_rfl) (bel_refl _) ?_
              repeat (go_big_quiet_step (((go_at_call 27; with_reducible exact LA _))))
              refine wpQuiet_nil ?_
              rintro w' ⟨x, rfl⟩
              obtain ⟨w5, b5⟩ := x
              clear lf0 lf1 lf2 lf3 lf4 lf5
              clear LA x0 x1 x2 p0 p1 p2
              replace hTab := hTab.below b5
              replace hb := bel_tr hb b5
              by_cases hz : t1 = 0
              · have hzb : (t1 != 0) = false := by simp only [bne_eq_false_iff_eq]; exact hz
                have HCA := Lib.hid (show cnI f c T k (atPi T j) = afI f c T k p from by rw [HPJ.out]; unfold cnI; rw [if_pos (by rw [HT1.out]; exact hz)])
                clear hz
                obtain ⟨r, y1, y2, y3, y4, y5, y6⟩ := hTab.row k (Nat.zero_le _) hkn
                have y7 := y6 j hlt
                clear y6
                have y8 := y5 j
                obtain ⟨rb, hrb⟩ := tab_rowblk hTab k (Nat.zero_le _) hkn y1
                by_cases hl : k + 1 = c.length
                · have hkb : ((k : Int) == (c.length : Int) - 1) = true := by simp only [beq_iff_eq]; omega
                  have hTS : Tab (w5.setCell ⟨r, j, none⟩ (.int .i64 1)) w.heap.size G c.length T.length 0 (zF f c T k (j + 1)) := (hTab.set k j (Nat.zero_le _) hkn hlt 1 y1).cong (fun a b _ _ _ => zF_set (by rw [HCA.out]; exact afI_last hl) a b)
                  have hbS : Below w.heap.size w (w5.setCell ⟨r, j, none⟩ (.int .i64 1)) := bel_set hb (by simp only; omega) _
                  clear hl hTab hb
                  go_wp2
                  go_roundw
                  case rel => exact ⟨j + 1, by omega, by go_num, hTS, hbS⟩
                  case measure => simp [intOf]; omega
                · have hkb : ((k : Int) == (c.length : Int) - 1) = false := by simp only [beq_eq_false_iff_ne, ne_eq]; omega
                  have hk1 : k + 1 < c.length := by omega
                  have HAF := Lib.hid (afI_next (f := f) (c := c) (T := T) (k := k) (p := p) hk1)
                  have hT0 : Tab w5 w.heap.size G c.length T.length 0 (zS f c T k j p 0) := hTab.cong (fun a b _ _ _ => zS_0 a b)
                  have hb0 := hb
                  clear hl hTab hb y1 y2 y3 y4 y5 y7 y8 hrb
                  go_wp2
                  go_loopw [12] (fun i wr => ∃ i2 : Nat, i2 ≤ T.length ∧ i = .int .i64 i2 ∧ Tab wr w.heap.size G c.length T.length 0 (zS f c T k j p i2) ∧ Below w.heap.size w wr) (fun i _ => T.length - (intOf i).toNat)
                  case atStart => exact ⟨0, Nat.zero_le _, rfl, hT0, hb0⟩
                  case round =>
                    obtain ⟨i2, hi2, rfl, hTab, hb⟩ := hrel
                    clear hT0 hb0
                    by_cases hlt2 : i2 < T.length
                    · obtain ⟨tb', toff', e', htb', htc⟩ := (hT.below hb) (by omega)
                      cases e'
                      obtain ⟨cb', coff', e', hcb', hcc⟩ := (hc.below hb) (by omega)
                      cases e'
                      have htj := htc j hlt
                      have hti := htc i2 hlt2
                      have hck := hcc k hkn
                      have hcn := hcc (k + 1) hk1
                      clear htc hcc
                      have hil : (i2 : Int) < (T.length : Int) := by omega
                      have hi0' : (0 : Int) ≤ (i2 : Int) := by omega
                      have hk2 : (k : Int) + 1 < (c.length : Int) := by omega
                      have hk3 : (0 : Int) ≤ (k : Int) + 1 := by omega
                      have hk4 : ((k : Int) + 1).toNat = k + 1 := by omega
                      have ik1 := IntWalk.i64_in ((k : Int) + 1) (by omega)
                      obtain ⟨q, hq⟩ : ∃ q, atPi T i2 = q := ⟨_, rfl⟩
                      obtain ⟨y, hy⟩ : ∃ y, atPi c (k + 1) = y := ⟨_, rfl⟩
                      obtain ⟨t2, ht2⟩ : ∃ t2, stP c (k + 1) p q = t2 := ⟨_, rfl⟩
                      have hss := sumK_s (nxI f c T k p) T i2
                      have hS := sum_bd hT63 (nxI_bd (f := f) (c := c) hT63 hc10 k p) i2 (by omega)
                      have hN1 := cnI_bd (f := f) (c := c) hT63 hc10 (k + 1) q
                      rw [HPJ.out] at htj
                      rw [HX.out] at hck
                      rw [hq] at hti hss
                      rw [hy] at hcn
                      obtain ⟨Sm, hSm⟩ : ∃ Sm, sumK (nxI f c T k p) T i2 = Sm := ⟨_, rfl⟩
                      rw [hSm] at hss hS
                      obtain ⟨N, hN⟩ : ∃ N, cnI f c T (k + 1) q = N := ⟨_, rfl⟩
                      rw [hN] at hN1
                      have HSS := Lib.hid hss
                      have HQ := Lib.hid hq
                      have HY := Lib.hid hy
                      have HT2 := Lib.hid ht2
                      have HSM := Lib.hid hSm
                      have HNN := Lib.hid hN
                      clear hq hy ht2 hSm hN
                      clear hss
                      obtain ⟨S0, S1⟩ := hS
                      obtain ⟨N0, N1⟩ := hN1
                      obtain ⟨p0, p1, p2⟩ := htj
                      obtain ⟨q0, q1, q2⟩ := hti
                      obtain ⟨x0, x1, x2⟩ := hck
                      obtain ⟨v0, v1, v2⟩ := hcn
                      have LB : ∀ xL : Later wr, Calls Try.prog 28 #[.agg #[.int .i64 x.step, .int .i64 x.alter, .int .i64 x.octave], .agg #[.int .i64 p.step, .int .i64 p.alter, .int .i64 p.octave], .agg #[.int .i64 y.step, .int .i64 y.alter, .int .i64 y.octave], .agg #[.int .i64 q.step, .int .i64 q.alter, .int .i64 q.octave]] xL.world fun e w'' => e = .returned (.int .i64 t2) ∧ ∃ z : Later wr, w'' = z.world := fun xL => later_call (by have h := st_any x.step x.alter x.octave p.step p.alter p.octave y.step y.alter y.octave q.step q.alter q.octave (kyP x) (kyP p) (kyP y) (kyP q) rfl rfl rfl rfl hxv hpv xL.world; rw [show stK (kyP x) (kyP p) (kyP y) (kyP q) = t2 from by rw [← HT2.out]; unfold stP; rw [show k + 1 - 1 = k from rfl, HX.out, HY.out]] at h; exact h)
                      go_upto_region 19 with fail
                      have lf0 : ∀ xL : Later wr, xL.world.cell? ⟨cb, coff + k * 3, none⟩ = some (.int .i64 x.step) := fun xL => xL.at (x0)
                      have lf1 : ∀ xL : Later wr, xL.world.cell? ⟨cb, coff + k * 3 + 1, none⟩ = some (.int .i64 x.alter) := fun xL => xL.at (x1)
                      have lf2 : ∀ xL : Later wr, xL.world.cell? ⟨cb, coff + k * 3 + 2, none⟩ = some (.int .i64 x.octave) := fun xL => xL.at (x2)
                      have lf3 : ∀ xL : Later wr, xL.world.cell? ⟨tb, toff + j * 3, none⟩ = some (.int .i64 p.step) := fun xL => xL.at (p0)
                      have lf4 : ∀ xL : Later wr, xL.world.cell? ⟨tb, toff + j * 3 + 1, none⟩ = some (.int .i64 p.alter) := fun xL => xL.at (p1)
                      have lf5 : ∀ xL : Later wr, xL.world.cell? ⟨tb, toff + j * 3 + 2, none⟩ = some (.int .i64 p.octave) := fun xL => xL.at (p2)
                      have lf6 : ∀ xL : Later wr, xL.world.cell? ⟨cb, coff + (k + 1) * 3, none⟩ = some (.int .i64 y.step) := fun xL => xL.at (v0)
                      have lf7 : ∀ xL : Later wr, xL.world.cell? ⟨cb, coff + (k + 1) * 3 + 1, none⟩ = some (.int .i64 y.alter) := fun xL => xL.at (v1)
                      have lf8 : ∀ xL : Later wr, xL.world.cell? ⟨cb, coff + (k + 1) * 3 + 2, none⟩ = some (.int .i64 y.octave) := fun xL => xL.at (v2)
                      have lf9 : ∀ xL : Later wr, xL.world.cell? ⟨tb, toff + i2 * 3, none⟩ = some (.int .i64 q.step) := fun xL => xL.at (q0)
                      have lf10 : ∀ xL : Later wr, xL.world.cell? ⟨tb, toff + i2 * 3 + 1, none⟩ = some (.int .i64 q.alter) := fun xL => xL.at (q1)
                      have lf11 : ∀ xL : Later wr, xL.world.cell? ⟨tb, toff + i2 * 3 + 2, none⟩ = some (.int .i64 q.octave) := fun xL => xL.at (q2)
                      refine region_later (w0 := wr) (by kernel_rfl) (by kernel_rfl) (bel_refl _) ?_
                      repeat (go_big_quiet_step (((go_at_call 28; with_reducible exact LB _))))
                      refine wpQuiet_nil ?_
                      rintro w' ⟨x, rfl⟩
                      obtain ⟨w7, b7⟩ := x
                      clear lf0 lf1 lf2 lf3 lf4 lf5 lf6 lf7 lf8 lf9 lf10 lf11
                      clear LB x0 x1 x2 p0 p1 p2 q0 q1 q2 v0 v1 v2
                      replace hTab := hTab.below b7
                      replace hb := bel_tr hb b7
                      by_cases hz2 : t2 = 0
                      · have hzb2 : (t2 == 0) = true := by simp only [beq_iff_eq]; exact hz2
                        have HNX := Lib.hid (show sumK (nxI f c T k p) T (i2 + 1) = Sm + N from by rw [HSS.out]; congr 1; unfold nxI; rw [if_pos (by rw [HT2.out]; exact hz2), HNN.out])
                        clear hz2
                        obtain ⟨r, y1, y2, y3, y4, y5, y6⟩ := hTab.row k (Nat.zero_le _) hkn
                        have y7 := y6 j hlt
                        obtain ⟨r', z1, z2, z3, z4, z5, z6⟩ := hTab.row (k + 1) (Nat.zero_le _) hk1
                        have z7 := z6 i2 hlt2
                        have e7 : zS f c T k j p i2 k j = Sm := by unfold zS; rw [if_pos ⟨rfl, rfl⟩, HSM.out]
                        have e8 : zS f c T k j p i2 (k + 1) i2 = N := by unfold zS; rw [if_neg (by omega)]; unfold zF; rw [if_neg (by omega), HQ.out, HNN.out]
                        rw [e7] at y7
                        rw [e8] at z7
                        clear y6 z6 e7 e8
                        have iw := IntWalk.i64_in (Sm + N) (by omega)
                        go_upto_region 20 with fail
                        have lf0 : ∀ xL : Later w7, xL.world.cell? ⟨G, k, none⟩ = some (.slice (some ⟨r, 0, none⟩) T.length T.length) := fun xL => xL.at (y1)
                        have lf1 : ∀ xL : Later w7, xL.world.cell? ⟨G, k + 1, none⟩ = some (.slice (some ⟨r', 0, none⟩) T.length T.length) := fun xL => xL.at (z1)
                        have lf2 : ∀ xL : Later w7, xL.world.cell? ⟨r, j, none⟩ = some (.int .i64 Sm) := fun xL => xL.at (y7)
                        have lf3 : ∀ xL : Later w7, xL.world.cell? ⟨r', i2, none⟩ = some (.int .i64 N) := fun xL => xL.at (z7)
                        refine region_tail (w0 := w7) 22 (by kernel_rfl) (by kernel_rfl) (bel_refl _) ?_
                        simp only [List.take_succ_cons, List.take_zero, List.drop_succ_cons, List.drop_zero]
                        repeat (go_big_quiet_step ((fail)))
                        refine wpQuiet_nil ?_
                        rintro w' ⟨x, rfl⟩
                        obtain ⟨w8, b8⟩ := x
                        clear lf0 lf1 lf2 lf3
                        have y1b := keep_tr y1 b8
                        have y7b := keep_tr y7 b8
                        have y4b : w8.frozen? ⟨r, j, none⟩ = false := by rw [b8.frozen (p := ⟨r, j, none⟩) y3]; exact y5 j
                        have y3b : r < w8.heap.size := Nat.lt_of_lt_of_le y3 b8.size
                        have hTS : Tab (w8.setCell ⟨r, j, none⟩ (.int .i64 (Sm + N))) w.heap.size G c.length T.length 0 (zS f c T k j p (i2 + 1)) := ((hTab.below b8).set k j (Nat.zero_le _) hkn hlt (Sm + N) y1b).cong (fun a b _ _ _ => by rw [← HNX.out]; exact zS_set a b)
                        have hbS : Below w.heap.size w (w8.setCell ⟨r, j, none⟩ (.int .i64 (Sm + N))) := bel_set (bel_tr hb b8) (by simp only; omega) _
                        clear y1 y2 y3 y4 y5 y7 y1b z1 z2 z3 z4 z5 z7 hTab hb
                        go_wp2
                        go_roundw
                        case rel => exact ⟨i2 + 1, by omega, by go_num, hTS, hbS⟩
                        case measure => simp [intOf]; omega
                      · have hzb2 : (t2 == 0) = false := by simp only [beq_eq_false_iff_ne, ne_eq]; exact hz2
                        have HNX := Lib.hid (show sumK (nxI f c T k p) T i2 = sumK (nxI f c T k p) T (i2 + 1) from by rw [HSS.out, HSM.out]; unfold nxI; rw [if_neg (by rw [HT2.out]; exact hz2)]; omega)
                        clear hz2
                        go_wp2
                        go_roundw
                        case rel => exact ⟨i2 + 1, by omega, by go_num, hTab.cong (fun a b _ _ _ => zS_same HNX.out a b), hb⟩
                        case measure => simp [intOf]; omega
                    · have hil : i2 = T.length := by omega
                      subst hil
                      have hTS : Tab wr w.heap.size G c.length T.length 0 (zF f c T k (j + 1)) := hTab.cong (fun a b _ _ _ => by unfold zS; rw [← HAF.out]; exact zF_set HCA.out a b)
                      go_wp2
                      go_roundw
                      case rel => exact ⟨j + 1, by omega, by go_num, hTS, hb⟩
                      case measure => simp [intOf]; omega
              · have hzb : (t1 != 0) = true := by simp only [bne_iff_ne, ne_eq]; exact hz
                have HCN := Lib.hid (show cnI f c T k (atPi T j) = 0 from by rw [HPJ.out]; unfold cnI; rw [if_neg (by rw [HT1.out]; exact hz)])
                clear hz
                go_wp2
                go_roundw
                case rel => exact ⟨j + 1, by omega, by go_num, hTab.cong (fun a b _ _ _ => zF_skip HCN.out a b), hb⟩
                case measure => simp [intOf]; omega
            · have hjl : j = T.length := by omega
              subst hjl
              go_wp2
              go_roundw
              case rel => exact ⟨k, by omega, rfl, hTab.cong (fun a b _ _ h3 => zF_m a b h3), hb⟩
              case measure => first | (simp [intOf]; done) | (simp [intOf]; omega)
end Go.Proofs.Ytdmidimjbhkjoaa
