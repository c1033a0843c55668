/- Chords found for a bass: the program. -/
import Derived.Test.YtpjakgnghpapmaaBo
import Derived.Test.YtpjakgnghpapmaaRowIn
import Derived.Test.YtpjakgnghpapmaaSFg
import Derived.Test.YtpjakgnghpapmaaSRf
namespace Go.Proofs.Ytpjakgnghpapmaa
set_option linter.unusedSimpArgs false
set_option linter.unusedVariables false
open Go.RowKit

def RzR (w : World) (o : Option (List (List Pi))) (e : Ending) (w' : World) : Prop := ∃ v vs, e = .returned (.tuple #[v, .bool o.isSome]) ∧ OwPV w' w.heap.size v (o.getD []) vs ∧ Below w.heap.size w w'
/-- the slices in the row lie in blocks of their own -/
def Apv (w : World) (vs : List Value) : Prop := (∀ u ∈ vs, ∀ x, u.ownBlock = some x → x < w.heap.size) ∧ vs.Pairwise fun u v => ∀ x y, u.ownBlock = some x → v.ownBlock = some y → x ≠ y
theorem Apv.nil (w : World) : Apv w [] := ⟨fun _ h => (by cases h), List.Pairwise.nil⟩
theorem Apv.one {w : World} {u : Value} (h : ∀ x, u.ownBlock = some x → x < w.heap.size) : Apv w [u] := ⟨fun v hv => by rw [List.mem_singleton.1 hv]; exact h, List.pairwise_singleton _ _⟩
theorem Apv.push {w w' : World} {vs : List Value} {g n c : Nat} (h : Apv w vs) (h1 : w.heap.size ≤ g) (h2 : g < w'.heap.size) : Apv w' (vs ++ [.slice (some ⟨g, 0, none⟩) n c]) := by
  refine ⟨fun u hu x hx => ?_, List.pairwise_append.2 ⟨h.2, List.pairwise_singleton _ _, fun u hu v hv x y hx hy => ?_⟩⟩
  · rcases List.mem_append.1 hu with hu | hu
    · have := h.1 u hu x hx; omega
    · rw [List.mem_singleton.1 hu] at hx
      rw [← Option.some.inj hx]
      exact h2
  · rw [List.mem_singleton.1 hv] at hy
    have e : g = y := Option.some.inj hy
    have := h.1 u hu x hx
    omega
def RzA (w : World) (o : Option (List (List Pi))) (e : Ending) (w' : World) : Prop := ∃ v vs, e = .returned (.tuple #[v, .bool o.isSome]) ∧ OwPV w' w.heap.size v (o.getD []) vs ∧ Apv w' vs ∧ Below w.heap.size w w'
theorem RzA.r {w : World} {o : Option (List (List Pi))} {e : Ending} {w' : World} (h : RzA w o e w') : RzR w o e w' := by
  obtain ⟨v, vs, h1, h2, _, h4⟩ := h
  exact ⟨v, vs, h1, h2, h4⟩
theorem ow_nil (w : World) (lo : Nat) : OwPV w lo (.slice none 0 0) [] [] := ⟨⟨rfl, .inl ⟨rfl, rfl⟩⟩, fun i hi => absurd hi (by simp)⟩
theorem infoPSS : (Try.prog.info? 26).map (fun i => (i.zero, i.size, i.bytes)) = some (some (.slice none 0 0), 1, 24) := by kernel_rfl
theorem run_makeQ (n : Nat) (h : n ≤ 2000000) (w : World) :
    (Instr.makeSlice 84 (.int .i64 (n : Int)) (.int .i64 (n : Int))).run Try.prog w = .ok (.slice (some ⟨w.heap.size, 0, none⟩) n n) (w.alloc (.cells (madeCells #[.slice none 0 0] n) 26)) := by
  obtain ⟨i, hi, hz, hs, hb⟩ := info_parts infoPSS
  have hr := run_make (P := Try.prog) w 84 26 i _ Try.underlying84 hi hz .i64 .i64 n n (by omega) (by omega) (by rw [hb]; omega) (by omega)
  simp only [Int.toNat_natCast, hs, Nat.mul_one] at hr
  exact hr
theorem OwPV.kq {w w' : World} {lo : Nat} {v : Value} {ll : List (List Pi)} {vs : List Value} (h : OwPV w lo v ll vs) (k : ∀ b cs T, T ≠ 26 → Blk w b cs T → Blk w' b cs T) : OwPV w' lo v ll vs := by
  refine ⟨⟨h.1.1, ?_⟩, fun i hi => by obtain ⟨Ai, ci, h1, h2, h3, h4⟩ := h.2 i hi; exact ⟨Ai, ci, h1, h2, h3, h4.kp (fun b cs hb => k b cs _ (by decide) hb)⟩⟩
  rcases h.1.2 with h2 | ⟨g, cap, cur, e1, h3, h4, h5⟩
  · exact .inl h2
  · exact .inr ⟨g, cap, cur, e1, h3, k g cur _ (by decide) h4, h5⟩
theorem kq_set {w : World} {K : Nat} {cs : Array Value} (h : Blk w K cs 26) (o : Nat) (u : Value) : ∀ b cs' T, T ≠ 26 → Blk w b cs' T → Blk (w.setCell ⟨K, o, none⟩ u) b cs' T := fun b cs' T hT hb => by
  refine hb.off (q := ⟨K, o, none⟩) (fun e => hT ?_) u
  subst e
  have := hb.symm.trans h
  simp at this
  exact this.2
/-- the chords from which one can go on, at the last m places, lie in the row at block K -/
def ChS (f : Int) (bs : List Pi) (gs : List Int) (lo : Nat) (wr : World) (K m : Nat) : Prop := ∃ cs : Array Value, Blk wr K cs 26 ∧ cs.size = bs.length ∧ ∀ q, q < m → ∃ A c vs, cs[bs.length - 1 - q]? = some (.slice A (chF f bs gs q).length c) ∧ OwPV wr lo (.slice A (chF f bs gs q).length c) (chF f bs gs q) vs
theorem ChS.below {f : Int} {bs : List Pi} {gs : List Int} {lo K m : Nat} {wr w' : World} (h : ChS f bs gs lo wr K m) (b : Below wr.heap.size wr w') : ChS f bs gs lo w' K m := by
  obtain ⟨cs, h1, h2, h3⟩ := h
  exact ⟨cs, h1.below b, h2, fun q hq => by obtain ⟨A, c, vs, e, o⟩ := h3 q hq; exact ⟨A, c, vs, e, o.below b⟩⟩
theorem ChS.put {f : Int} {bs : List Pi} {gs : List Int} {lo K m i : Nat} {wr : World} {v : Value} {vs : List Value} (h : ChS f bs gs lo wr K m) (hi : i + m + 1 = bs.length) (hv : OwPV wr lo v (chF f bs gs m) vs) : ChS f bs gs lo (wr.setCell ⟨K, i, none⟩ v) K (m + 1) := by
  obtain ⟨cs, h1, h2, h3⟩ := h
  refine ⟨cs.setIfInBounds i v, h1.set i v, by simp [h2], fun q hq => ?_⟩
  by_cases e : q = m
  · subst e
    obtain ⟨A, c, rfl, _, _, _⟩ := hv.row
    exact ⟨A, c, vs, by rw [show bs.length - 1 - q = i from by omega, Array.getElem?_setIfInBounds_self_of_lt (by omega)], hv.kq (kq_set h1 _ _)⟩
  · obtain ⟨A, c, us, e1, o⟩ := h3 q (by omega)
    exact ⟨A, c, us, by rw [Array.getElem?_setIfInBounds_ne (by omega)]; exact e1, o.kq (kq_set h1 _ _)⟩
theorem ChS.at' {f : Int} {bs : List Pi} {gs : List Int} {lo K m : Nat} {wr : World} (h : ChS f bs gs lo wr K m) (q i : Nat) (hq : q < m) (hi : i + q + 1 = bs.length) : ∃ A c vs, wr.cell? ⟨K, i, none⟩ = some (.slice A (chF f bs gs q).length c) ∧ OwPV wr lo (.slice A (chF f bs gs q).length c) (chF f bs gs q) vs := by
  obtain ⟨cs, h1, h2, h3⟩ := h
  obtain ⟨A, c, vs, e, o⟩ := h3 q hq
  exact ⟨A, c, vs, by rw [Blk.cell h1, show i = bs.length - 1 - q from by omega]; exact e, o⟩
theorem ChS.cell {f : Int} {bs : List Pi} {gs : List Int} {lo K m i : Nat} {wr : World} (h : ChS f bs gs lo wr K m) (hi : i < bs.length) : (∃ u, wr.cell? ⟨K, i, none⟩ = some u) ∧ wr.frozen? ⟨K, i, none⟩ = false ∧ K < wr.heap.size := by
  obtain ⟨cs, h1, h2, h3⟩ := h
  exact ⟨⟨cs[i]'(by omega), by rw [Blk.cell h1]; exact Array.getElem?_eq_getElem (by omega)⟩, h1.free i, h1.lt⟩
theorem row_news {w : World} {b off : Nat} {y : List Pi} (h : ∀ i, i < y.length → w.cell? ⟨b, off + i * 3, none⟩ = some (.int .i64 (atPi y i).step) ∧ w.cell? ⟨b, off + i * 3 + 1, none⟩ = some (.int .i64 (atPi y i).alter) ∧ w.cell? ⟨b, off + i * 3 + 2, none⟩ = some (.int .i64 (atPi y i).octave)) :
    ∀ j u, (flat csPi y)[j]? = some u → w.cell? ((⟨b, off, none⟩ : Addr).add j) = some u := fun j u hu => by
  have hj : j < y.length * 3 := by
    rw [← flat_len csPi_len y]
    rcases Nat.lt_or_ge j (flat csPi y).length with h1 | h1
    · exact h1
    · rw [List.getElem?_eq_none h1] at hu; cases hu
  obtain ⟨i, r, hi, hr, rfl⟩ : ∃ i r, i < y.length ∧ r < 3 ∧ j = i * 3 + r := ⟨j / 3, j % 3, by omega, by omega, by omega⟩
  rw [flat_get csPi_len (⟨0, 0, 0⟩ : Pi) y i r hi hr] at hu
  obtain ⟨c0, c1, c2⟩ := h i hi
  rw [Addr.add_lit]
  rcases (show r = 0 ∨ r = 1 ∨ r = 2 from by omega) with rfl | rfl | rfl
  · exact c0.trans hu
  · rw [← Nat.add_assoc]; exact c1.trans hu
  · rw [← Nat.add_assoc]; exact c2.trans hu
theorem flat_one (y : List Pi) : ∀ u ∈ flat csPi y, u.oneCell' = true := fun u hu => by
  unfold flat at hu
  obtain ⟨t, _, h⟩ := List.mem_flatMap.1 hu
  exact csPi_one t u h
theorem OwPV.lo {w : World} {lo lo' : Nat} {v : Value} {ll : List (List Pi)} {vs : List Value} (h : OwPV w lo v ll vs) (hl : lo' ≤ lo) : OwPV w lo' v ll vs := by
  refine ⟨⟨h.1.1, ?_⟩, fun i hi => by obtain ⟨Ai, ci, h1, h2, h3, h4⟩ := h.2 i hi; exact ⟨Ai, ci, h1, h2, h3, h4.lo hl⟩⟩
  rcases h.1.2 with h2 | ⟨g, cap, cur, e1, h3, h4, h5⟩
  · exact .inl h2
  · exact .inr ⟨g, cap, cur, e1, by omega, h4, h5⟩
set_option maxRecDepth 20000 in
set_option maxHeartbeats 2000000 in
theorem rb_anyA (f : Int) (A1 A2 : Option Addr) (n1 n2 c1 c2 : Nat) (bs : List Pi) (gs : List Int) (w : World) (hn1 : bs.length = n1) (hn2 : gs.length = n2) (hm1 : n1 ≤ 2000000) (hm2 : n2 ≤ 2000000) (h1 : RowPi w w.heap.size A1 bs) (h2 : RowIn w w.heap.size A2 gs) :
    Calls Try.prog 32 #[.int .i64 f, .slice A1 n1 c1, .slice A2 n2 c2] w (RzA w (rbI f bs gs)) := by
  subst hn1
  subst hn2
  by_cases hf : -7 ≤ f ∧ f ≤ 7
  · by_cases hn : 1 ≤ bs.length ∧ bs.length ≤ 8
    · by_cases hg : gs.length = bs.length
      · have hG : rbG f bs gs := ⟨hf, hn, hg⟩
        obtain ⟨i0, hi0, hz0, hz1, hz2⟩ := info_parts infoPS
        obtain ⟨j0, hj0, hy0, hy1, hy2⟩ := info_parts infoPi
        obtain ⟨hf0, hf1⟩ := hf
        obtain ⟨hn0, hn8⟩ := hn
        rw [hg]
        have hmk := run_makeQ bs.length hm1
        have bK : Blk (w.alloc (.cells (madeCells #[.slice none 0 0] bs.length) 26)) w.heap.size (madeCells #[.slice none 0 0] bs.length) 26 := Blk.new w _ _
        have hC : ChS f bs gs w.heap.size (w.alloc (.cells (madeCells #[.slice none 0 0] bs.length) 26)) w.heap.size 0 := ⟨_, bK, by simp [size_madeCells], fun q hq => absurd hq (by omega)⟩
        have bw : Below w.heap.size w (w.alloc (.cells (madeCells #[.slice none 0 0] bs.length) 26)) := bel_al (bel_refl w) _
        clear bK
        go_enter Try.func32, Try.ntmps32
        go_wp2_with (first | (go_at_call 57; refine (ik_yes _ _ (by omega) (by omega)).mono ?_; rintro e w' ⟨rfl, rfl⟩) | (go_at_call 49; refine (win_yes _ _ _ _ (by omega) (by omega)).mono ?_; rintro e w' ⟨rfl, rfl⟩))
        go_loopw [9] (fun vi wr => ∃ (m : Nat) (z : Int), z + m + 1 = bs.length ∧ -1 ≤ z ∧ vi = .int .i64 z ∧ Below w.heap.size w wr ∧ ChS f bs gs w.heap.size wr w.heap.size m ∧ Hid (∀ j, bs.length ≤ j + m → j < bs.length → tnI f bs gs j ≠ [])) (fun vi _ => (intOf vi + 1).toNat)
        case atStart => exact ⟨0, (bs.length : Int) - 1, by omega, by omega, rfl, bw, hC, Lib.hid (fun j hj hjn => absurd hj (by omega))⟩
        case round =>
          clear bw hC hmk
          obtain ⟨m, z, hzm, hm, rfl, bw, hC, HT⟩ := hrel
          by_cases hz : 0 ≤ z
          · obtain ⟨i, rfl⟩ : ∃ i : Nat, z = (i : Int) := ⟨z.toNat, by omega⟩
            obtain ⟨bb, bo, rfl, hbb, hbc⟩ := (h1.below bw) (by omega)
            obtain ⟨d0, d1, d2⟩ := hbc i (by omega)
            obtain ⟨gb, go, rfl, hgb, hgc⟩ := (h2.below bw) (by omega)
            have eg := hgc i (by omega)
            obtain ⟨bq, hbq⟩ : ∃ q, atPi bs i = q := ⟨_, rfl⟩
            obtain ⟨g, hg⟩ : ∃ g, gs.getD i 0 = g := ⟨_, rfl⟩
            rw [hbq] at d0 d1 d2
            rw [show atIn gs i = g from hg] at eg
            obtain ⟨b0, b1, b2⟩ := bq
            simp only at d0 d1 d2
            obtain ⟨t, ht⟩ : ∃ t, fgL f ⟨b0, b1, b2⟩ g = t := ⟨_, rfl⟩
            have htn : tnI f bs gs i = t := by unfold tnI; rw [hbq, hg]; exact ht
            have ht4 : t.length ≤ 4 := by rw [← ht]; exact fgL_len _ _ _
            have htp : pvAll t := by rw [← htn]; exact tn_all f bs gs i
            have hts : ∀ v, v < 4 → (optL t (loR v) (hiR v) t.length).length < 20 := fun v hv => by rw [← htn]; exact opt_small f bs gs i v hv
            have hal : sksI f bs gs i = stkL ⟨b0, b1, b2⟩ t := by unfold sksI; rw [hbq, htn]
            have HAL := Lib.hid hal
            have HTE := Lib.hid htn
            have HT9 := Lib.hid ht
            have HPV := Lib.hid (fun h : t ≠ [] => (fg_pvb (f := f) (b := ⟨b0, b1, b2⟩) (g := g) (by rw [ht]; exact h)))
            have HTP : Hid (pvAll t) := htp
            have HTS := Lib.hid hts
            have hiN : (i : Int) < (bs.length : Int) := by omega
            have hi0 : (0 : Int) ≤ (i : Int) := by omega
            obtain ⟨j, hj⟩ : ∃ j : Nat, j + 1 = bs.length := ⟨bs.length - 1, by omega⟩
            clear hbq hg ht htn hal htp hts hbc hgc
            go_upto_region 7 with fail
            have lf0 : ∀ xL : Later wr, xL.world.cell? ⟨bb, bo + i * 3, none⟩ = some (.int .i64 b0) := fun xL => xL.at (d0)
            have lf1 : ∀ xL : Later wr, xL.world.cell? ⟨bb, bo + i * 3 + 1, none⟩ = some (.int .i64 b1) := fun xL => xL.at (d1)
            have lf2 : ∀ xL : Later wr, xL.world.cell? ⟨bb, bo + i * 3 + 2, none⟩ = some (.int .i64 b2) := fun xL => xL.at (d2)
            have lf3 : ∀ xL : Later wr, xL.world.cell? ⟨gb, go + i, none⟩ = some (.int .i64 g) := fun xL => xL.at (eg)
            refine region_tail (w0 := wr) 9 (by kernel_rfl) (by kernel_rfl) (bel_refl _) ?_
            simp only [List.take_succ_cons, List.take_zero, List.drop_succ_cons, List.drop_zero]
            repeat (go_big_quiet_step ((fail)))
            refine wpQuiet_nil ?_
            rintro w' ⟨x, rfl⟩
            obtain ⟨wt, bt⟩ := x
            clear lf0 lf1 lf2 lf3
            go_wp2_with fail
            refine (fg_val HT9.out _).mono ?_
            rintro e1 w2 ⟨A9, c9, rfl, lc9, cm9, r9, _, be1⟩
            replace be1 := bel_tr bt be1
            replace bw := bel_tr bw be1
            replace hC := hC.below be1
            replace d0 := keep_tr d0 be1
            replace d1 := keep_tr d1 be1
            replace d2 := keep_tr d2 be1
            clear be1 eg
            by_cases ht0 : t.length = 0
            · have HN := Lib.hid (rb_noT (f := f) (bs := bs) (gs := gs) i (by omega) (by rw [HTE.out]; exact List.eq_nil_of_length_eq_zero ht0))
              rw [ht0]
              go_wp2
              exact bodyPost_ret (v := .tuple #[.slice none 0 0, .bool false]) (by simp [results, Try.results32, go_sem]) rfl ⟨_, [], by rw [HN.out]; rfl, by rw [HN.out]; exact ow_nil _ _, Apv.nil _, bw⟩
            · have hti : ¬ (t.length : Int) = 0 := by omega
              have HTN : Hid (tnI f bs gs i ≠ []) := Lib.hid (by rw [HTE.out]; intro e; rw [e] at ht0; exact ht0 rfl)
              have hpv : pvQ ⟨b0, b1, b2⟩ := HPV.out (fun e => by rw [e] at ht0; exact ht0 rfl)
              by_cases hm0 : m = 0
              · subst hm0
                obtain rfl : i = j := by omega
                have hij : ((i : Int) == (bs.length : Int) - 1) = true := beq_iff_eq.2 (by omega)
                have HCH := Lib.hid (show chF f bs gs 0 = stkL ⟨b0, b1, b2⟩ t from by rw [← HAL.out]; unfold chF; rw [show bs.length - 1 = i from by omega])
                go_wp2_with fail
                refine (sto_any ⟨b0, b1, b2⟩ A9 c9 t _ r9 (by omega) HTP.out hpv HTS.out).mono ?_
                rintro e3 w3 ⟨v3, vs3, rfl, hown, b3⟩
                replace hC := hC.below b3
                have hown := hown.lo bw.size
                replace bw := bel_tr bw b3
                clear b3 d0 d1 d2 r9
                go_wp2_with fail
                obtain ⟨Ar, cr, rfl, _, _, _⟩ := hown.row
                refine (co_last _ _ _).mono ?_
                rintro e5 w5 ⟨rfl, rfl⟩
                obtain ⟨⟨u9, cK⟩, fK, lK⟩ := hC.cell (i := i) (by omega)
                go_wp2
                go_roundw
                case rel =>
                  exact ⟨0 + 1, (i : Int) - 1, by omega, by omega, rfl, bel_set bw (Nat.le_refl w.heap.size) _, hC.put (by omega) (by rw [HCH.out]; exact hown), Lib.hid (fun j hj hjn => by
                  rcases (show j = i ∨ i < j from by omega) with rfl | h9
                  · exact HTN.out
                  · exact HT.out j (by omega) hjn)⟩
                case measure => simp [intOf] <;> omega
              · obtain ⟨q, rfl⟩ : ∃ q, m = q + 1 := ⟨m - 1, by omega⟩
                have hij : ((i : Int) == (bs.length : Int) - 1) = false := beq_eq_false_iff_ne.2 (by omega)
                obtain ⟨p, hp⟩ : ∃ p : Nat, p = i + 1 := ⟨_, rfl⟩
                have hpi : (i : Int) + 1 = (p : Int) := by omega
                have hp0 : (0 : Int) ≤ (p : Int) := by omega
                have hpN : (p : Int) < (bs.length : Int) := by omega
                have HCH := Lib.hid (show chF f bs gs (q + 1) = coK (sksI f bs gs i) (chF f bs gs q) (sksI f bs gs i).length from by rw [chF, show bs.length - 1 - (q + 1) = i from by omega])
                obtain ⟨A', c', vs', cQ, oQ⟩ := hC.at' q p (by omega) (by omega)
                have HP := Lib.hid hp
                clear hp
                go_wp2_with fail
                refine (sto_any ⟨b0, b1, b2⟩ A9 c9 t _ r9 (by omega) HTP.out hpv HTS.out).mono ?_
                rintro e3 w3 ⟨v3, vs3, rfl, hown, b3⟩
                rw [← HAL.out] at hown
                replace hC := hC.below b3
                replace oQ := oQ.below b3
                have hown := hown.lo bw.size
                replace bw := bel_tr bw b3
                obtain ⟨_, _, e, _, _, oQr⟩ := oQ.row
                cases e
                clear b3 d0 d1 d2 r9 cQ
                go_wp2_with fail
                obtain ⟨Ar, cr, rfl, _, _, _⟩ := hown.row
                refine (co_any w.heap.size _ A' c' _ _ _ _ bw.size hown oQr (al_four f bs gs i) (ch_four f bs gs q) (by have := al_len f bs gs i; omega) (by have := ch_len f bs gs q; omega)).mono ?_
                rintro e5 w5 ⟨v5, vs5, rfl, hown, b5⟩
                obtain ⟨Ar5, cr5, rfl, _, _, _⟩ := hown.row
                replace hC := hC.below b5
                replace bw := bel_tr bw b5
                clear b5
                obtain ⟨⟨u9, cK⟩, fK, lK⟩ := hC.cell (i := i) (by omega)
                go_wp2
                go_roundw
                case rel =>
                  exact ⟨(q + 1) + 1, (i : Int) - 1, by omega, by omega, rfl, bel_set bw (Nat.le_refl w.heap.size) _, hC.put (by omega) (by rw [HCH.out]; exact hown), Lib.hid (fun j hj hjn => by
                  rcases (show j = i ∨ i < j from by omega) with rfl | h9
                  · exact HTN.out
                  · exact HT.out j (by omega) hjn)⟩
                case measure => simp [intOf] <;> omega
          · obtain rfl : z = -1 := by omega
            obtain rfl : m = bs.length := by omega
            obtain ⟨l, hl⟩ : ∃ l : Nat, l + 1 = bs.length := ⟨bs.length - 1, by omega⟩
            obtain ⟨A', c', vs', cQ, oQ⟩ := hC.at' l 0 (by omega) (by omega)
            obtain ⟨C, hCe⟩ : ∃ C, chF f bs gs l = C := ⟨_, rfl⟩
            rw [hCe] at cQ oQ
            have HC := Lib.hid (show chF f bs gs (bs.length - 1) = C from by rw [show bs.length - 1 = l from by omega]; exact hCe)
            have hN00 : (0 : Int) < (bs.length : Int) := by omega
            clear hCe
            by_cases hc0 : C.length = 0
            · have HN := Lib.hid (rb_noC (f := f) (bs := bs) (gs := gs) (by rw [HC.out]; exact List.eq_nil_of_length_eq_zero hc0))
              rw [hc0] at cQ
              go_wp2
              exact bodyPost_ret (v := .tuple #[.slice none 0 0, .bool false]) (by simp [results, Try.results32, go_sem]) rfl ⟨_, [], by rw [HN.out]; rfl, by rw [HN.out]; exact ow_nil _ _, Apv.nil _, bw⟩
            · have hci : ¬ (C.length : Int) = 0 := by omega
              have hci0 : (0 : Int) < (C.length : Int) := by omega
              have HY := Lib.hid (rb_yes hG (fun i hi => HT.out i (by omega) hi) (by rw [HC.out]; intro e; rw [e] at hc0; exact hc0 rfl))
              obtain ⟨gb, cap, Ai, ci, e, _, hgb, _, _, hx, hx1, hx2, hS⟩ := oQ.at' 0 (by omega)
              cases e
              have h4C : four C := by rw [← HC.out]; exact ch_four _ _ _ _
              have hl4 := h4C 0 (by omega)
              obtain ⟨x, hX⟩ : ∃ x, atPP C 0 = x := ⟨_, rfl⟩
              have hxC : x ∈ C := by rw [← hX]; exact atPP_mem (by omega)
              rw [hX] at hx hx1 hS hl4
              rw [hl4] at hx hx1
              have HO := Lib.hid (show ouI f bs gs 0 = [x] from by unfold ouI; rw [HC.out, hX])
              have HX4 := Lib.hid hl4
              clear hX hl4
              have hown : OwPV (wr.alloc (.cells #[.slice Ai 4 ci] 37)) w.heap.size (.slice (some ⟨wr.heap.size, 0, none⟩) 1 1) [x] [.slice Ai 4 ci] := ⟨World.ownsRow_lit (base := w.heap.size) (e := 37) (size := 1) wr #[.slice Ai 4 ci] 1 bw.size (by simp [maxLen]) rfl, fun i hi => by
                obtain rfl : i = 0 := by simp only [List.length_cons, List.length_nil] at hi; omega
                exact ⟨Ai, ci, by show some _ = some (Value.slice Ai x.length ci); rw [HX4.out], by show x.length ≤ ci; rw [HX4.out]; exact hx1, hx2, hS.alloc _⟩⟩
              have bv : Below wr.heap.size wr (wr.alloc (.cells #[.slice Ai 4 ci] 37)) := bel_al (bel_refl wr) _
              have HM := Lib.hid (show atPP (ouI f bs gs 0) 0 ∈ chF f bs gs (bs.length - 1 - 0) from by rw [HO.out, Nat.sub_zero, HC.out]; exact hxC)
              have hap0 : Apv (wr.alloc (.cells #[.slice Ai 4 ci] 37)) [.slice Ai 4 ci] := Apv.one (fun x hx => by
                obtain ⟨b9, o9, cs9, e9, _, hb9, _⟩ := hS (by rw [HX4.out]; omega)
                rw [e9] at hx
                rw [← Option.some.inj hx]
                exact (hb9.alloc _).lt)
              have hown0 : ∃ vs, OwPV (wr.alloc (.cells #[.slice Ai 4 ci] 37)) w.heap.size (.slice (some ⟨wr.heap.size, 0, none⟩) 1 1) (ouI f bs gs 0) vs ∧ Apv (wr.alloc (.cells #[.slice Ai 4 ci] 37)) vs := ⟨_, by rw [HO.out]; exact hown, hap0⟩
              go_wp2_with fail
              replace hown0 : ∃ vs, OwPV (wr.alloc (.cells #[.slice Ai 4 ci] 37)) w.heap.size (.slice (some ⟨wr.heap.size, 0, none⟩) 1 1) (ouI f bs gs 0) vs ∧ Apv (wr.alloc (.cells #[.slice Ai 4 ci] 37)) vs := hown0
              have hge0 : ∀ g, (Value.slice (some ⟨wr.heap.size, 0, none⟩) 1 1).ownBlock = some g → wr.heap.size ≤ g := fun g e => by rw [← Option.some.inj e]; exact Nat.le_refl _
              have HNL := Lib.hid hl
              clear hl hown hS oQ hx cQ h1 h2 hG HT hap0
              obtain ⟨wq, hwq⟩ : ∃ q : World, q = wr := ⟨_, rfl⟩
              rw [← hwq] at bw hC
              have hwq0 := bw.size
              go_loopw [13, 14] (fun v i wr => ∃ k p : Nat, p = k + 1 ∧ p ≤ bs.length ∧ i = .int .i64 p ∧ (∃ vs, OwPV wr w.heap.size v (ouI f bs gs k) vs ∧ Apv wr vs) ∧ (∀ g, v.ownBlock = some g → wq.heap.size ≤ g) ∧ Below wq.heap.size wq wr ∧ Hid (atPP (ouI f bs gs k) k ∈ chF f bs gs (bs.length - 1 - k))) (fun _ i _ => bs.length - (intOf i).toNat)
              case atStart => exact ⟨0, 1, rfl, by omega, rfl, hown0, by rw [hwq]; exact hge0, by rw [hwq]; exact bel_al (bel_refl _) _, HM⟩
              case round =>
                clear hown0 hge0 bv HM
                obtain ⟨k, p, hp, hpN, rfl, ⟨vs, hown, hap⟩, hge, bq, HM⟩ := hrel
                by_cases hlt : p < bs.length
                · obtain ⟨q, hq⟩ : ∃ q, p + q + 1 = bs.length := ⟨bs.length - 1 - p, by omega⟩
                  have hpi : (p : Int) < (bs.length : Int) := by omega
                  have hp0 : (0 : Int) ≤ (p : Int) := by omega
                  have hpk : (p : Int) - 1 = (k : Int) := by omega
                  have hk0 : (0 : Int) ≤ (k : Int) := by omega
                  have hkp : (k : Int) < (k : Int) + 1 := by omega
                  obtain ⟨A', c', us, cQ, oQ⟩ := (hC.below bq).at' q p (by omega) (by omega)
                  have oL := ou_len f bs gs k
                  obtain ⟨gb, cap, Ai, ci, rfl, _, hgb, _, _, hx, hx1, hx2, hS⟩ := hown.at' k (by omega)
                  have hmem := HM.out
                  rw [show bs.length - 1 - k = q + 1 from by omega] at hmem
                  obtain ⟨x, hX⟩ : ∃ x, atPP (ouI f bs gs k) k = x := ⟨_, rfl⟩
                  rw [hX] at hx hx1 hS hmem
                  have hx4 : x.length = 4 := four_mem.1 (ch_four f bs gs (q + 1)) x hmem
                  have hfol := ch_fol f bs gs q hmem
                  rw [hx4] at hx hx1
                  rw [oL] at hown ⊢
                  obtain ⟨C, hCC⟩ : ∃ C, chF f bs gs q = C := ⟨_, rfl⟩
                  have h4C : four C := by rw [← hCC]; exact ch_four _ _ _ _
                  have hlC : C.length ≤ 8000 := by rw [← hCC]; exact ch_len _ _ _ _
                  rw [hCC] at cQ oQ hfol
                  obtain ⟨L, hL⟩ : ∃ L, ouI f bs gs k = L := ⟨_, rfl⟩
                  have HOU := Lib.hid (show ouI f bs gs p = L ++ [foF x C] from by rw [hp, ouI, hX, show bs.length - 1 - (k + 1) = q from by omega, hCC, hL])
                  have hLk : L.length = k + 1 := by rw [← hL]; exact oL
                  rw [hL] at hown
                  have HCC := Lib.hid (show chF f bs gs (bs.length - 1 - p) = C from by rw [show bs.length - 1 - p = q from by omega]; exact hCC)
                  obtain ⟨_, _, e, _, _, oQr⟩ := oQ.row
                  cases e
                  have HPK := Lib.hid hp
                  have HX4 := Lib.hid hx4
                  have HFO := Lib.hid hfol
                  have H4C : Hid (four C) := h4C
                  have HLK := Lib.hid hLk
                  clear hX hCC hL hp hq oL hmem hx4 hfol h4C hLk HM
                  go_upto_region 21 with fail
                  have lf0 : ∀ xL : Later wr, xL.world.cell? ⟨gb, k, none⟩ = some (.slice Ai 4 ci) := fun xL => xL.at (hx)
                  have lf1 : ∀ xL : Later wr, xL.world.cell? ⟨w.heap.size, p, none⟩ = some (.slice A' C.length c') := fun xL => xL.at (cQ)
                  refine region_tail (w0 := wr) 9 (by kernel_rfl) (by kernel_rfl) (bel_refl _) ?_
                  simp only [List.take_succ_cons, List.take_zero, List.drop_succ_cons, List.drop_zero]
                  repeat (go_big_quiet_step ((fail)))
                  refine wpQuiet_nil ?_
                  rintro w' ⟨x, rfl⟩
                  obtain ⟨wt, bt⟩ := x
                  clear lf0 lf1
                  go_wp2_with fail
                  refine (fo_any Ai A' ci c' x C _ HX4.out (hS.kp (Kp.bel bt)).row (oQr.below bt) H4C.out (by omega)).mono ?_
                  rintro e5 w5 ⟨v5, rfl, hF, b5⟩
                  replace b5 := bel_tr bt b5
                  have hsz5 := b5.size
                  have hown := hown.below b5
                  have bq := bel_tr bq b5
                  clear b5 bt hx cQ oQr hS oQ
                  rcases hF with ⟨i, hi, hmz, hmf, b7, off7, c7, rfl, h47, hcm7, hry⟩ | ⟨_, hno⟩
                  · obtain ⟨y, hY⟩ : ∃ y, atPP C i = y := ⟨_, rfl⟩
                    have hyf : foF x C = y := by rw [← hY]; exact fo_first hi hmz hmf
                    have hyC : y ∈ C := by rw [← hY]; exact atPP_mem hi
                    have hy4 : y.length = 4 := four_mem.1 H4C.out y hyC
                    rw [hY] at hry
                    have HYF := Lib.hid hyf
                    have HY4 := Lib.hid hy4
                    have HYC := Lib.hid hyC
                    have hne7 : (⟨b7, off7, none⟩ : Addr).block < w5.heap.size ∧ ∀ i, i < y.length → w5.cell? ⟨b7, off7 + i * 3, none⟩ = some (.int .i64 (atPi y i).step) ∧ w5.cell? ⟨b7, off7 + i * 3 + 1, none⟩ = some (.int .i64 (atPi y i).alter) ∧ w5.cell? ⟨b7, off7 + i * 3 + 2, none⟩ = some (.int .i64 (atPi y i).octave) := by
                      obtain ⟨b8, off8, e, hb8, hc8⟩ := hry (by omega)
                      cases e
                      exact ⟨hb8, hc8⟩
                    obtain ⟨hb7, hc7⟩ := hne7
                    have eZ : Below w5.heap.size w5 (w5.alloc (.cells #[] 62)) := bel_al (bel_refl w5) _
                    have hc7' : ∀ i, i < y.length → (w5.alloc (.cells #[] 62)).cell? ⟨b7, off7 + i * 3, none⟩ = some (.int .i64 (atPi y i).step) ∧ (w5.alloc (.cells #[] 62)).cell? ⟨b7, off7 + i * 3 + 1, none⟩ = some (.int .i64 (atPi y i).alter) ∧ (w5.alloc (.cells #[] 62)).cell? ⟨b7, off7 + i * 3 + 2, none⟩ = some (.int .i64 (atPi y i).octave) := fun i hi => by
                      obtain ⟨c0, c1, c2⟩ := hc7 i hi
                      exact ⟨keep_tr c0 eZ, keep_tr c1 eZ, keep_tr c2 eZ⟩
                    have hnews := row_news hc7'
                    have hnl : (flat csPi y).length = 4 * 3 := by rw [flat_len csPi_len, hy4]
                    have hwb := bq.size
                    have hwZ := eZ.size
                    have ownE := World.ownsRow_lit (base := w.heap.size) (e := 62) (size := 3) w5 #[] 0 (by omega) (by simp [maxLen]) rfl
                    clear hmz hmf hry hc7 hc7' hyf hyC hy4 hY
                    have HNN := Lib.hid hnews
                    have hLs : L.length ≤ 9 := by have := HLK.out; omega
                    clear hnews
                    go_wp2_with (first | (at_builtin; refine wpList_append_lies _ rfl _ _ 37 rfl w.heap.size 62 j0 _ 3 24 Try.underlying37 hj0 hy0 hy1 hy2 rfl (by omega) _ 0 [] rfl ownE ⟨b7, off7, none⟩ 4 c7 (flat csPi y) rfl hnl HNN.out (flat_one y) (by omega) (by simp [maxLen]) (by omega) (by omega) _ rfl ?_; intro ggA cpA wA hownA hgrowA hatA hltA; have hBA := bel_grown (bel_al (bel_refl w5) (.cells #[] 62)) hgrowA (fun k hk => Nat.le_of_eq (Option.some.inj hk)); have hwA := hBA.size) | (at_builtin; go_must (refine wpList_append_lies _ rfl _ _ 26 rfl w.heap.size 37 i0 _ 1 24 Try.underlying26 hi0 hz0 hz1 hz2 rfl (by omega) _ L.length vs rfl ((hown.below hBA).1.alloc _) ⟨wA.heap.size, 0, none⟩ 1 1 [.slice (some ⟨ggA, 0, none⟩) 4 cpA] rfl rfl (World.news_of_block (cs := #[.slice (some ⟨ggA, 0, none⟩) 4 cpA]) (t := 37) (fr := (0, 0)) (heap_alloc_new wA _)) (by simp [Value.oneCell']) (by omega) (by unfold maxLen; omega) (by omega) (by simp; omega) _ rfl ?_; intro gg9 cp9 w9 hown9 hgrow9 hat9 hlt9)))
                    have hoY : wA.ownsRow w.heap.size 62 3 (.slice (some ⟨ggA, 0, none⟩) y.length cpA) y.length (flat csPi y) := by
                      have := hownA
                      rw [HY4.out]
                      simpa using this
                    obtain ⟨_, _, e, hYl, hYm, SY⟩ := StP.of hoY
                    cases e
                    have CP : Below wA.heap.size wA (wA.alloc (.cells #[.slice (some ⟨ggA, 0, none⟩) 4 cpA] 37)) := bel_al (bel_refl wA) _
                    have hwC := CP.size
                    have oA := ((hown.below hBA).below CP).push (l := y) (Al := some ⟨ggA, 0, none⟩) (cl := cpA) hgrow9 (by rw [HY4.out]; exact hown9) hYl hYm (SY.kp (Kp.bel CP))
                    have bq9 := bel_grown (bel_tr (bel_tr bq hBA) CP) hgrow9 hge
                    have hgA : w5.heap.size ≤ ggA := by
                      rcases hatA with h9 | h9
                      · exact Nat.le_of_eq (Option.some.inj h9)
                      · rw [h9]; have := eZ.size; omega
                    have hs9 : wA.heap.size ≤ w9.heap.size := Nat.le_trans CP.size hgrow9.size
                    have ap9 := hap.push (w' := w9) (g := ggA) (n := y.length) (c := cpA) (by omega) (by omega)
                    have HP9 := Lib.hid (show p = L.length from by rw [HLK.out]; exact HPK.out)
                    go_roundw
                    case rel => exact ⟨p, p + 1, rfl, by omega, by go_num, ⟨_, by rw [HOU.out, HYF.out]; exact oA, ap9⟩, fun g e => by
                      rw [← Option.some.inj e]
                      show wq.heap.size ≤ gg9
                      rcases hat9 with h9 | h9
                      · exact hge _ h9
                      · omega, bq9, Lib.hid (by rw [HOU.out, HYF.out, HCC.out, HP9.out, atPP_snoc L y L.length (by omega), if_pos rfl]; exact HYC.out)⟩
                    case measure => simp [intOf] <;> omega
                  · exact absurd (folB_no hno) (by rw [HFO.out]; simp)
                · obtain rfl : p = bs.length := by omega
                  have HE := Lib.hid (show ouI f bs gs (bs.length - 1) = ouI f bs gs k from by rw [show bs.length - 1 = k from by omega])
                  go_wp2
                  exact bodyPost_ret (v := .tuple #[u13, .bool true]) (by simp [results, Try.results32, go_sem]) rfl ⟨_, vs, by rw [HY.out]; rfl, by rw [HY.out]; show OwPV _ _ _ (ouI f bs gs (bs.length - 1)) _; rw [HE.out]; exact hown, hap, bel_tr bw bq⟩
      · have HN := Lib.hid (rb_noG (f := f) (bs := bs) (gs := gs) (fun z => hg z.2.2))
        go_enter Try.func32, Try.ntmps32
        go_wp2_with (first | (go_at_call 57; refine (ik_yes _ _ (by omega) (by omega)).mono ?_; rintro e w' ⟨rfl, rfl⟩) | (go_at_call 49; refine (win_yes _ _ _ _ (by omega) (by omega)).mono ?_; rintro e w' ⟨rfl, rfl⟩))
        exact bodyPost_ret (v := .tuple #[.slice none 0 0, .bool false]) (by simp [results, Try.results32, go_sem]) rfl ⟨_, [], by rw [HN.out]; rfl, by rw [HN.out]; exact ow_nil _ _, Apv.nil _, bel_refl _⟩
    · have HN := Lib.hid (rb_noG (f := f) (bs := bs) (gs := gs) (fun z => hn z.2.1))
      go_enter Try.func32, Try.ntmps32
      go_wp2_with (first | (go_at_call 57; refine (ik_yes _ _ (by omega) (by omega)).mono ?_; rintro e w' ⟨rfl, rfl⟩) | (go_at_call 49; refine (win_no _ _ _ _ (by omega)).mono ?_; rintro e w' ⟨rfl, rfl⟩))
      exact bodyPost_ret (v := .tuple #[.slice none 0 0, .bool false]) (by simp [results, Try.results32, go_sem]) rfl ⟨_, [], by rw [HN.out]; rfl, by rw [HN.out]; exact ow_nil _ _, Apv.nil _, bel_refl _⟩
  · have HN := Lib.hid (rb_noG (f := f) (bs := bs) (gs := gs) (fun z => hf z.1))
    go_enter Try.func32, Try.ntmps32
    go_wp2_with (first | (go_at_call 57; refine (ik_no _ _ (by omega)).mono ?_; rintro e w' ⟨rfl, rfl⟩))
    exact bodyPost_ret (v := .tuple #[.slice none 0 0, .bool false]) (by simp [results, Try.results32, go_sem]) rfl ⟨_, [], by rw [HN.out]; rfl, by rw [HN.out]; exact ow_nil _ _, Apv.nil _, bel_refl _⟩
theorem rb_any (f : Int) (A1 A2 : Option Addr) (n1 n2 c1 c2 : Nat) (bs : List Pi) (gs : List Int) (w : World) (hn1 : bs.length = n1) (hn2 : gs.length = n2) (hm1 : n1 ≤ 2000000) (hm2 : n2 ≤ 2000000) (h1 : RowPi w w.heap.size A1 bs) (h2 : RowIn w w.heap.size A2 gs) :
    Calls Try.prog 32 #[.int .i64 f, .slice A1 n1 c1, .slice A2 n2 c2] w (RzR w (rbI f bs gs)) := (rb_anyA f A1 A2 n1 n2 c1 c2 bs gs w hn1 hn2 hm1 hm2 h1 h2).mono fun _ _ h => h.r
end Go.Proofs.Ytpjakgnghpapmaa
