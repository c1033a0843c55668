/- A key, bass pitches and figures, drawn. -/
import Derived.Test.YtpjakgnghpapmaaSrzP
import Derived.Test.YtpjakgnghpapmaaCtu
import Derived.Test.YtpjakgnghpapmaaDrP
import Derived.Test.YtpjakgnghpapmaaBn
namespace Go.Proofs.Ytpjakgnghpapmaa
set_option linter.unusedSimpArgs false
set_option linter.unusedVariables false
open Go.RowKit

def DrB2 (w : World) (g B p : Nat) (A : Option Addr) (len cap : Nat) (f : Int) (e : Ending) (w' : World) : Prop :=
  ∃ x o : Int, 0 ≤ x ∧ x < 7 ∧ e = .returned (.agg #[.int .i64 x, .int .i64 (kaI f x), .int .i64 o]) ∧ Onb g w w' ∧ ∃ p', p' ≤ p + 2 ∧ Rd w' g B A len cap p'
set_option maxHeartbeats 4000000 in
theorem bass_val (w : World) (g B p : Nat) (A : Option Addr) (len cap : Nat) (f : Int) (h : Rd w g B A len cap p) (hp : p < 1000000) :
    Calls Try.prog 80 #[.pointer (some ⟨g, 0, none⟩), .int .i64 f] w (DrB2 w g B p A len cap f) := by
  have hg := h.gl
  go_enter Try.func80, Try.ntmps80
  go_wp2_with fail
  have qR0 : Blk (w.alloc (.cells #[.int .i64 0, .int .i64 0, .int .i64 0] 62)) w.heap.size #[.int .i64 0, .int .i64 0, .int .i64 0] 62 := Blk.new w _ _
  have r0 := h.alloc (.cells #[.int .i64 0, .int .i64 0, .int .i64 0] 62)
  have k0 := (Onb.refl g w).alloc (.cells #[.int .i64 0, .int .i64 0, .int .i64 0] 62)
  generalize (w.alloc (.cells #[.int .i64 0, .int .i64 0, .int .i64 0] 62)) = w0 at *
  go_wp2_with fail
  refine (pick_fr _ _ _ _ _ _ _ _ r0 (by omega)).mono ?_
  rintro e w1 ⟨x, rfl, ⟨x0, x1, _⟩, o1, r1⟩
  have k1 := (k0).trans (Onb.of_onl o1)
  have qR1 := (qR0).onl o1 (by omega)
  have hg1 := r1.gl
  have x1 := x1 (by omega)
  clear r0 k0 o1 qR0
  go_wp2_with fail
  refine (ska_any f x _).mono ?_
  rintro e w2 ⟨rfl, b2⟩
  have r2 := r1.below b2
  have k2 := k1.trans (Onb.of_bel b2)
  have qR2 := qR1.below b2
  have hg2 := r2.gl
  clear r1 k1 qR1 b2
  go_wp2_with fail
  refine (pick_fr _ _ _ _ _ _ _ _ r2 (by omega)).mono ?_
  rintro e w3 ⟨y, rfl, ⟨y0, y1, _⟩, o3, r3⟩
  have k3 := (k2).trans (Onb.of_onl o3)
  have qR3 := (qR2).onl o3 (by omega)
  have hg3 := r3.gl
  have y1 := y1 (by omega)
  clear r2 k2 o3 qR2
  have cqR0 : w3.cell? ⟨w.heap.size, 0, none⟩ = some (.int .i64 0) := by rw [Blk.cell qR3]; rfl
  have cqR1 : w3.cell? ⟨w.heap.size, 1, none⟩ = some (.int .i64 0) := by rw [Blk.cell qR3]; rfl
  have cqR2 : w3.cell? ⟨w.heap.size, 2, none⟩ = some (.int .i64 0) := by rw [Blk.cell qR3]; rfl
  have fqR0 := Blk.free qR3 0
  have fqR1 := Blk.free qR3 1
  have fqR2 := Blk.free qR3 2
  have lqR := Blk.lt qR3
  have xk := kaI_bd f x
  go_wp2
  exact bodyPost_ret (v := .agg #[.int .i64 x, .int .i64 (kaI f x), .int .i64 (2 + y)]) (by simp [results, Try.results80, go_sem, cqR0, fqR0, cqR1, fqR1, cqR2, fqR2]) rfl ⟨x, 2 + y, x0, x1, rfl, (((k3.set (by first | omega | (simp only; omega)) _).set (by first | omega | (simp only; omega)) _).set (by first | omega | (simp only; omega)) _), _, by omega, (((r3.set (by have := r3.Bg; first | omega | (simp only; omega)) (by first | omega | (simp only; omega)) _).set (by have := r3.Bg; first | omega | (simp only; omega)) (by first | omega | (simp only; omega)) _).set (by have := r3.Bg; first | omega | (simp only; omega)) (by first | omega | (simp only; omega)) _)⟩
/-- a pitch of the key f -/
def inK (f : Int) (b : Pi) : Prop := 0 ≤ b.step ∧ b.step < 7 ∧ b.alter = kaI f b.step
theorem KtB.grownS {T0 : TypeId} {lo lo' n size : Nat} {w w' : World} {v : Value} {xs : List Value} (h : w.ownsRow lo' T0 size v n xs) (hg : w.grownBy w' v.ownBlock) : KtB T0 lo w w' := fun _ _ _ _ hT x => x.grown hg (own_ne h x hT)
theorem own_castP {w : World} {lo : Nat} {e : TypeId} {size n m : Nat} {v : Value} {xs ys : List Value} (h : w.ownsRow lo e size v n xs) (hn : n = m) (hx : xs = ys) : w.ownsRow lo e size v m ys := by subst hn; subst hx; exact h
theorem flat_snocP (l : List Pi) (t : Pi) : flat csPi l ++ [.int .i64 t.step, .int .i64 t.alter, .int .i64 t.octave] = flat csPi (l ++ [t]) := (flat_snoc csPi l t).symm
theorem flat_snocI (l : List Int) (t : Int) : flat csIn l ++ [.int .i64 t] = flat csIn (l ++ [t]) := (flat_snoc csIn l t).symm
theorem atPi_snc (l : List Pi) (t : Pi) (i : Nat) (hi : i < l.length + 1) : atPi (l ++ [t]) i = if i = l.length then t else atPi l i := by
  unfold atPi
  by_cases e : i = l.length
  · rw [if_pos e, e, List.getD_eq_getElem?_getD]; simp
  · rw [if_neg e, List.getD_eq_getElem?_getD, List.getElem?_append_left (by omega), ← List.getD_eq_getElem?_getD]
theorem inK_push {f : Int} {l : List Pi} {t : Pi} (h : ∀ i, i < l.length → inK f (atPi l i)) (ht : inK f t) : ∀ i, i < (l ++ [t]).length → inK f (atPi (l ++ [t]) i) := fun i hi => by
  rw [List.length_append, List.length_singleton] at hi
  rw [atPi_snc l t i hi]
  split
  · exact ht
  · exact h i (by omega)
theorem own_blk {w : World} {base : Nat} {e : TypeId} {size g n cap : Nat} {xs : List Value} (h : w.ownsRow base e size (.slice (some ⟨g, 0, none⟩) n cap) n xs) : ∃ cur, Blk w g cur e := by
  rcases h.2 with ⟨e, _⟩ | ⟨g', cap', cur, e, _, hg, _⟩
  · cases e
  · cases e; exact ⟨cur, hg⟩
def DrFi (w : World) (g B p : Nat) (A : Option Addr) (len cap : Nat) (e : Ending) (w' : World) : Prop :=
  ∃ (f : Int) (v1 v2 : Value) (bs : List Pi) (gs : List Int), e = .returned (.tuple #[.int .i64 f, v1, v2]) ∧ (-3 ≤ f ∧ f ≤ 3) ∧ bs.length ≤ 3 ∧ gs.length ≤ 4 ∧ (∀ i, i < bs.length → inK f (atPi bs i)) ∧
    w'.ownsRow w.heap.size 62 3 v1 bs.length (flat csPi bs) ∧ w'.ownsRow w.heap.size 3 1 v2 gs.length (flat csIn gs) ∧ Onb g w w' ∧ ∃ p', p' ≤ p + 30 ∧ Rd w' g B A len cap p'
set_option maxRecDepth 20000 in
set_option maxHeartbeats 8000000 in
theorem figs_any (w : World) (g B p : Nat) (A : Option Addr) (len cap : Nat) (h : Rd w g B A len cap p) (hp : p < 100000) :
    Calls Try.prog 60 #[.pointer (some ⟨g, 0, none⟩)] w (DrFi w g B p A len cap) := by
  have hgL := h.gl
  have hBg := h.Bg
  obtain ⟨i0, hi0, hz0, hz1, hz2⟩ := info_parts infoPi
  obtain ⟨j0, hj0, hy0, hy1, hy2⟩ := info_parts infoIn
  go_enter Try.func60, Try.ntmps60
  go_wp2_with fail
  refine (pick_fr _ _ _ _ _ _ _ _ h (by omega)).mono ?_
  rintro e w1 ⟨x, rfl, ⟨x0, x1, _⟩, o1, r1⟩
  have x1 := x1 (by omega)
  have k1 := Onb.of_onl o1
  have hs1 := k1.size
  clear o1
  obtain ⟨f, hf⟩ : ∃ f, x - 3 = f := ⟨_, rfl⟩
  have hf0 : -3 ≤ f := by omega
  have hf1 : f ≤ 3 := by omega
  have own1 : ((w1.alloc (.cells #[] 62)).alloc (.cells #[] 3)).ownsRow w.heap.size 62 3 (.slice (some ⟨w1.heap.size, 0, none⟩) 0 0) 0 (flat csPi []) := (World.ownsRow_lit (base := w.heap.size) (e := 62) (size := 3) w1 #[] 0 hs1 (by simp [maxLen]) rfl).alloc _
  have hzz : (w1.alloc (.cells #[] 62)).heap.size = w1.heap.size + 1 := by simp
  have own2 : ((w1.alloc (.cells #[] 62)).alloc (.cells #[] 3)).ownsRow w.heap.size 3 1 (.slice (some ⟨w1.heap.size + 1, 0, none⟩) 0 0) 0 (flat csIn []) := by rw [← hzz]; exact World.ownsRow_lit (base := w.heap.size) (e := 3) (size := 1) (w1.alloc (.cells #[] 62)) #[] 0 (by rw [hzz]; omega) (by simp [maxLen]) rfl
  clear hzz
  go_wp2_with fail
  refine (pick_fr _ _ _ _ _ _ _ _ ((r1.alloc _).alloc _) (by omega)).mono ?_
  rintro e w2 ⟨y, rfl, ⟨y0, y1, _⟩, o2, r2⟩
  have y1 := y1 (by omega)
  have k2 := ((k1.alloc (.cells #[] 62)).alloc (.cells #[] 3)).trans (Onb.of_onl o2)
  replace own1 := own_onb own1 (Onb.of_onl o2) hgL
  replace own2 := own_onb own2 (Onb.of_onl o2) hgL
  obtain ⟨n, hn⟩ : ∃ n : Nat, 1 + y = (n : Int) := ⟨(1 + y).toNat, by omega⟩
  have hn3 : n ≤ 3 := by omega
  have hn1 : 0 < n := by omega
  have HF := Lib.hid hf
  clear hf o2 r1 k1
  go_wp2_with fail
  clear hn
  go_loopw [6, 7, 8] (fun a b i wr => ∃ (m : Nat) (bs : List Pi) (gs : List Int) (pk : Nat), bs.length + m ≤ 3 ∧ gs.length = bs.length ∧ (0 < m ∨ 0 < bs.length) ∧ i = .int .i64 m ∧ wr.ownsRow w.heap.size 62 3 a (bs).length (flat csPi (bs)) ∧ wr.ownsRow w.heap.size 3 1 b (gs).length (flat csIn (gs)) ∧ (∀ i, i < bs.length → inK f (atPi bs i)) ∧ Onb g w wr ∧ pk + 6 * m ≤ p + 20 ∧ Rd wr g B A len cap pk) (fun _ _ i _ => (intOf i).toNat)
  case atStart => exact ⟨n, [], [], _, by simp; omega, rfl, .inl hn1, rfl, own1, own2, fun i hi => absurd hi (by simp), k2, by omega, r2⟩
  case round =>
    clear own1 own2 k2 r2
    obtain ⟨m, bs, gs, pk, hlm, hlg, hm1, rfl, hob, hog, hik, hkO, hpk, rk⟩ := hrel
    have HLG := Lib.hid hlg
    have hgb3 : gs.length ≤ 3 := by omega
    have hbb3 : bs.length ≤ 3 := by omega
    cases m with
    | zero =>
      have hsz := hkO.size
      have hb0 : 0 < bs.length := by omega
      have hg0 : 0 < gs.length := by omega
      clear hlg hlm
      rw [show ((0 : Nat) : Int) = 0 from rfl]
      go_wp2_with fail
      refine (odd_any _ _ _ _ _ _ _ _ rk (by omega)).mono ?_
      rintro e wf ⟨bq, rfl, _, of, pf, hpf, rf⟩
      replace hob := own_onb hob (Onb.of_onl of) hgL
      replace hog := own_onb hog (Onb.of_onl of) hgL
      have kF := hkO.trans (Onb.of_onl of)
      have hszf := kF.size
      clear rk of hkO
      cases bq
      · go_wp2
        exact bodyPost_ret (v := .tuple #[.int .i64 f, _, _]) (by simp [results, Try.results60, go_sem]) rfl ⟨f, _, _, bs, gs, rfl, ⟨by omega, by omega⟩, by omega, by omega, hik, hob, hog, kF, _, by omega, rf⟩
      · go_wp2_with fail
        refine (pick_fr _ _ _ _ _ _ _ _ rf (by omega)).mono ?_
        rintro e wh ⟨y, rfl, ⟨y0, y1, _⟩, oh, rh⟩
        have y1 := y1 (by omega)
        replace hob := own_onb hob (Onb.of_onl oh) hgL
        replace hog := own_onb hog (Onb.of_onl oh) hgL
        have kH := kF.trans (Onb.of_onl oh)
        have hszh := kH.size
        clear rf oh kF
        rcases (show y = 0 ∨ y = 1 ∨ y = 2 from by omega) with rfl | rfl | rfl
        · go_wp2_with (at_builtin; refine Hid.out ?_)
          refine Lib.hid ?_
          refine wpList_append_lies _ rfl _ _ 43 rfl w.heap.size 3 j0 _ 1 8 Try.underlying43 hj0 hy0 hy1 hy2 rfl (by omega) _ gs.length (flat csIn gs) rfl (hog.alloc _) ⟨wh.heap.size, 0, none⟩ 1 1 [.int .i64 5] rfl rfl (World.news_of_block (cs := #[.int .i64 5]) (t := 3) (fr := (0, 0)) (heap_alloc_new wh _)) (by simp [Value.oneCell']) (by omega) (by unfold maxLen; omega) (by omega) (by simp <;> omega) _ rfl ?_
          intro gg8 cp8 w8 hown8 hgrow8 hat8 hlt8
          have C2 : Below wh.heap.size wh (wh.alloc (.cells #[.int .i64 5] 3)) := bel_al (bel_refl wh) _
          have hog8 : w8.ownsRow w.heap.size 3 1 _ (gs ++ [5]).length (flat csIn (gs ++ [5])) := own_castP hown8 (by simp) (flat_snocI gs 5)
          have hob8 := own_kt (own_below hob C2) (KtB.grownS (hog.alloc _) hgrow8) (by decide)
          have k8 := (kH.alloc (.cells #[.int .i64 5] 3)).grown hgrow8 (fun k hk => own_ge hog k hk)
          have r8 := (rh.alloc (.cells #[.int .i64 5] 3)).grown hgrow8 (fun k hk => by have := own_ge hog k hk; omega)
          have hl8 : (gs ++ [(5 : Int)]).length ≤ 4 := by rw [List.length_append, List.length_singleton]; omega
          go_wp2
          exact bodyPost_ret (v := .tuple #[.int .i64 f, _, _]) (by simp [results, Try.results60, go_sem]) rfl ⟨f, _, _, bs, gs ++ [5], rfl, ⟨by omega, by omega⟩, by omega, hl8, hik, hob8, hog8, k8, _, by omega, r8⟩
        · obtain ⟨gg, cg, rfl, hcg, hcm, hgg, hgl⟩ := own_some hog hg0
          unfold maxLen at hcm
          have hgi : (0 : Int) < (gs.length : Int) := by omega
          have st := own_stored csIn_len 0 hog 0 0 hg0 (by decide) 9 (.int .i64 9) rfl
          rw [List.length_set] at st
          have fr := hog.frozenAt 0
          obtain ⟨cur, hcur⟩ := own_blk hog
          have cE : ∃ u, wh.cell? ⟨gg, 0, none⟩ = some u := by
            rw [hog.cellAt 0 (by omega)]
            exact ⟨_, List.getElem?_eq_getElem (by rw [flat_len csIn_len]; omega)⟩
          obtain ⟨u0, cE⟩ := cE
          have hob2 := own_kt hob (KtB.set (T0 := 3) (lo := w.heap.size) hcur 0 (.int .i64 9)) (by decide)
          have k9 := kH.set (p := ⟨gg, 0, none⟩) (by simp only; omega) (.int .i64 9)
          have r9 := rh.set (q := ⟨gg, 0, none⟩) (by have := rh.Bg; simp only; omega) (by simp only; omega) (.int .i64 9)
          have HL : Hid ((gs.set 0 9).length = gs.length) := List.length_set
          go_wp2
          exact bodyPost_ret (v := .tuple #[.int .i64 f, _, (.slice (some ⟨gg, 0, none⟩) gs.length cg)]) (by simp [results, Try.results60, go_sem]) rfl ⟨f, _, (.slice (some ⟨gg, 0, none⟩) gs.length cg), bs, gs.set 0 9, rfl, ⟨by omega, by omega⟩, by omega, by rw [HL.out]; omega, hik, hob2, (by rw [HL.out]; exact st), k9, _, by omega, r9⟩
        · go_wp2
          have hzz : (wh.alloc (.cells #[] 62)).heap.size = wh.heap.size + 1 := by simp
          have hnb : ((wh.alloc (.cells #[] 62)).alloc (.cells #[] 3)).ownsRow w.heap.size 3 1 (.slice (some ⟨wh.heap.size + 1, 0, none⟩) 0 0) 0 (flat csIn []) := by rw [← hzz]; exact World.ownsRow_lit (base := w.heap.size) (e := 3) (size := 1) (wh.alloc (.cells #[] 62)) #[] 0 (by rw [hzz]; omega) (by simp [maxLen]) rfl
          have hpb : ((wh.alloc (.cells #[] 62)).alloc (.cells #[] 3)).ownsRow w.heap.size 62 3 (.slice (some ⟨wh.heap.size, 0, none⟩) 0 0) 0 (flat csPi []) := (World.ownsRow_lit (base := w.heap.size) (e := 62) (size := 3) wh #[] 0 (by omega) (by simp [maxLen]) rfl).alloc _
          exact bodyPost_ret (v := .tuple #[.int .i64 f, .slice (some ⟨wh.heap.size, 0, none⟩) 0 0, .slice (some ⟨wh.heap.size + 1, 0, none⟩) 0 0]) (by simp [results, Try.results60, go_sem]) rfl ⟨f, .slice (some ⟨wh.heap.size, 0, none⟩) 0 0, .slice (some ⟨wh.heap.size + 1, 0, none⟩) 0 0, [], [], rfl, ⟨by omega, by omega⟩, by simp, by simp, fun i hi => absurd hi (by simp), hpb, hnb, ((kH.alloc (.cells #[] 62)).alloc (.cells #[] 3)), _, by omega, ((rh.alloc (.cells #[] 62)).alloc (.cells #[] 3))⟩
    | succ m =>
      have hm0 : (0 : Int) < ((m + 1 : Nat) : Int) := by omega
      have hmm : ((m + 1 : Nat) : Int) - 1 = (m : Int) := by omega
      obtain ⟨N, hN⟩ : ∃ N : Int, ((m + 1 : Nat) : Int) = N := ⟨_, rfl⟩
      rw [hN] at hm0 hmm ⊢
      have HM1 := Lib.hid hmm
      have hN3 : N ≤ 3 := by omega
      have hN0 : 0 ≤ N := by omega
      clear hN hmm hlg
      have hsz := hkO.size
      go_wp2_with fail
      refine (bass_val _ _ _ _ _ _ _ f rk (by omega)).mono ?_
      rintro e wb ⟨x, o, x0, x1, rfl, ob, pb, hpb, rb⟩
      replace hob := own_onb hob ob hgL
      replace hog := own_onb hog ob hgL
      have kB := hkO.trans ob
      have hszb := kB.size
      clear rk ob hkO
      go_wp2_with (at_builtin; refine Hid.out ?_)
      refine Lib.hid ?_
      refine wpList_append_lies _ rfl _ _ 37 rfl w.heap.size 62 i0 _ 3 24 Try.underlying37 hi0 hz0 hz1 hz2 rfl (by omega) _ bs.length (flat csPi bs) rfl (hob.alloc _) ⟨wb.heap.size, 0, none⟩ 1 1 [.int .i64 x, .int .i64 (kaI f x), .int .i64 o] rfl rfl (World.news_of_block (cs := #[.int .i64 x, .int .i64 (kaI f x), .int .i64 o]) (t := 62) (fr := (0, 0)) (heap_alloc_new wb _)) (by simp [Value.oneCell']) (by omega) (by unfold maxLen; omega) (by omega) (by simp <;> omega) _ rfl ?_
      intro gg9 cp9 w9 hown9 hgrow9 hat9 hlt9
      have C1 : Below wb.heap.size wb (wb.alloc (.cells #[.int .i64 x, .int .i64 (kaI f x), .int .i64 o] 62)) := bel_al (bel_refl wb) _
      have hob9 : w9.ownsRow w.heap.size 62 3 _ (bs ++ [(⟨x, kaI f x, o⟩ : Pi)]).length (flat csPi (bs ++ [(⟨x, kaI f x, o⟩ : Pi)])) := own_castP hown9 (by simp) (flat_snocP bs (⟨x, kaI f x, o⟩ : Pi))
      have hog9 := own_kt (own_below hog C1) (KtB.grownS (hob.alloc _) hgrow9) (by decide)
      have k9 := (kB.alloc (.cells #[.int .i64 x, .int .i64 (kaI f x), .int .i64 o] 62)).grown hgrow9 (fun k hk => own_ge hob k hk)
      have r9 := (rb.alloc (.cells #[.int .i64 x, .int .i64 (kaI f x), .int .i64 o] 62)).grown hgrow9 (fun k hk => by have := own_ge hob k hk; omega)
      have hik9 := inK_push (t := (⟨x, kaI f x, o⟩ : Pi)) hik ⟨x0, x1, rfl⟩
      have hsz9 := k9.size
      clear hob hog kB rb hown9 hgrow9 hat9 C1 hik
      go_wp2_with fail
      refine (pick_fr _ _ _ _ _ _ _ _ (r9.alloc _) (by omega)).mono ?_
      rintro e wz ⟨z, rfl, ⟨z0, z1, _⟩, oz, rz⟩
      have z1 := z1 (by omega)
      have kZ := (k9.alloc (.cells #[.int .i64 5, .int .i64 5, .int .i64 6, .int .i64 4, .int .i64 7] 3)).trans (Onb.of_onl oz)
      have hobz := own_onb (hob9.alloc (.cells #[.int .i64 5, .int .i64 5, .int .i64 6, .int .i64 4, .int .i64 7] 3)) (Onb.of_onl oz) hgL
      have hogz := own_onb (hog9.alloc (.cells #[.int .i64 5, .int .i64 5, .int .i64 6, .int .i64 4, .int .i64 7] 3)) (Onb.of_onl oz) hgL
      have hszz := kZ.size
      have hg9 := r9.gl
      obtain ⟨uz, _, huz⟩ := lit_at (w := wz) (b := w9.heap.size) (xs := [5, 5, 6, 4, 7]) ((oz.block _ (by omega)).trans (heap_alloc_new w9 _)) z0 z1
      clear k9 hob9 hog9 r9 oz
      go_wp2_with (at_builtin; refine Hid.out ?_)
      refine Lib.hid ?_
      refine wpList_append_lies _ rfl _ _ 43 rfl w.heap.size 3 j0 _ 1 8 Try.underlying43 hj0 hy0 hy1 hy2 rfl (by omega) _ gs.length (flat csIn gs) rfl (hogz.alloc _) ⟨wz.heap.size, 0, none⟩ 1 1 [.int .i64 uz] rfl rfl (World.news_of_block (cs := #[.int .i64 uz]) (t := 3) (fr := (0, 0)) (heap_alloc_new wz _)) (by simp [Value.oneCell']) (by omega) (by unfold maxLen; omega) (by omega) (by simp <;> omega) _ rfl ?_
      intro gg8 cp8 w8 hown8 hgrow8 hat8 hlt8
      have C2 : Below wz.heap.size wz (wz.alloc (.cells #[.int .i64 uz] 3)) := bel_al (bel_refl wz) _
      have hog8 : w8.ownsRow w.heap.size 3 1 _ (gs ++ [uz]).length (flat csIn (gs ++ [uz])) := own_castP hown8 (by simp) (flat_snocI gs uz)
      have hob8 := own_kt (own_below hobz C2) (KtB.grownS (hogz.alloc _) hgrow8) (by decide)
      have k8 := (kZ.alloc (.cells #[.int .i64 uz] 3)).grown hgrow8 (fun k hk => own_ge hogz k hk)
      have r8 := (rz.alloc (.cells #[.int .i64 uz] 3)).grown hgrow8 (fun k hk => by have := own_ge hogz k hk; omega)
      have hob8' : w8.ownsRow w.heap.size 62 3 _ (bs ++ [(⟨x, kaI f x, o⟩ : Pi)]).length (flat csPi (bs ++ [(⟨x, kaI f x, o⟩ : Pi)])) := hob8
      have HL1 : Hid ((bs ++ [(⟨x, kaI f x, o⟩ : Pi)]).length + m ≤ 3) := by show _ ≤ _; rw [List.length_append, List.length_singleton]; omega
      have HL2 : Hid ((gs ++ [uz]).length = (bs ++ [(⟨x, kaI f x, o⟩ : Pi)]).length) := by show _ = _; rw [List.length_append, List.length_singleton, List.length_append, List.length_singleton, HLG.out]
      have HL3 : Hid (0 < m ∨ 0 < (bs ++ [(⟨x, kaI f x, o⟩ : Pi)]).length) := by right; rw [List.length_append, List.length_singleton]; omega
      have hln : (bs ++ [(⟨x, kaI f x, o⟩ : Pi)]).length = bs.length + 1 := by simp
      have hln2 : (gs ++ [uz]).length = gs.length + 1 := by simp
      rw [hln] at hob8'
      rw [hln2] at hog8
      have HLN := Lib.hid hln
      have HLN2 := Lib.hid hln2
      clear hob8 hln hln2 hown8
      go_wp2
      go_roundw
      case rel => exact ⟨m, bs ++ [(⟨x, kaI f x, o⟩ : Pi)], gs ++ [uz], _, HL1.out, HL2.out, HL3.out, by rw [HM1.out], by rw [HLN.out]; exact hob8', by rw [HLN2.out]; exact hog8, hik9, k8, by omega, r8⟩
      case measure => simp [intOf]; omega
def DrRb (w : World) (e : Ending) (w' : World) : Prop := ∃ (f : Int) (A1 : Option Addr) (c1 : Nat) (bs : List Pi) (A2 : Option Addr) (c2 : Nat) (gs : List Int), e = .returned (.tuple #[.int .i64 f, .slice A1 bs.length c1, .slice A2 gs.length c2]) ∧ (-3 ≤ f ∧ f ≤ 3) ∧ bs.length ≤ 3 ∧ gs.length ≤ 4 ∧ (∀ i, i < bs.length → inK f (atPi bs i)) ∧ bs.length ≤ c1 ∧ c1 ≤ maxLen ∧ gs.length ≤ c2 ∧ c2 ≤ maxLen ∧ RowPi w' w'.heap.size A1 bs ∧ RowIn w' w'.heap.size A2 gs ∧ Below w.heap.size w w'
set_option maxRecDepth 20000 in
set_option maxHeartbeats 4000000 in
theorem DrawRealizeBass_any (w : World) (A : Option Addr) (len cap : Nat) (h : Cod w A len cap) : Calls Try.prog 36 #[.slice A len cap] w (DrRb w) := by
  have r1 := open_ok w A len cap w.heap.size (Nat.le_refl _) h.bt
  have k1 : Onb w.heap.size w (w.alloc (.cells #[.slice A (min len 2000) cap, .int .i64 0] 93)) := Onb.of_bel (bel_al (bel_refl _) _)
  have hLO : (w.alloc (.cells #[.slice A (min len 2000) cap, .int .i64 0] 93)).heap.size = w.heap.size + 1 := by simp
  go_enter Try.func36, Try.ntmps36
  go_wp2_with fail
  refine (open_eq _ A len cap h.lc h.cm).mono ?_
  rintro e w1 ⟨rfl, rfl⟩
  generalize (w.alloc (.cells #[.slice A (min len 2000) cap, .int .i64 0] 93)) = w1 at *
  generalize min len 2000 = len' at *
  go_wp2_with fail
  refine (figs_any _ _ _ _ _ _ _ r1 (by omega)).mono ?_
  rintro e w2 ⟨f, v1, v2, bs, gs, rfl, hf, hb3, hg4, hik, hob, hog, k2, p2, hp2, r2⟩
  obtain ⟨A1, c1, rfl, lc1, cm1, rw1, _⟩ := own_rowPi hob
  obtain ⟨A2, c2, rfl, lc2, cm2, rw2, _⟩ := own_rowIn hog
  go_wp2
  exact bodyPost_ret (v := .tuple #[.int .i64 f, .slice A1 bs.length c1, .slice A2 gs.length c2]) (by simp [results, Try.results36, go_sem]) rfl ⟨f, A1, c1, bs, A2, c2, gs, rfl, hf, hb3, hg4, hik, lc1, cm1, lc2, cm2, rw1, rw2, (k1.trans k2).below (Nat.le_refl _) (Nat.le_refl _)⟩
end Go.Proofs.Ytpjakgnghpapmaa
