/- The tones of a chord as a map, and whether two chords have the same tones: the program. -/
import Derived.Test.YtpjakgnghpapmaaTonP
import Derived.Test.YtpjakgnghpapmaaBa
import Derived.Test.YtpjakgnghpapmaaHidn
namespace Go.Proofs.Ytpjakgnghpapmaa
set_option linter.unusedSimpArgs false
set_option linter.unusedVariables false
open Go.RowKit Go.Maps

theorem plainElem_bool_inv {H : Type} {P : Program} {e : TypeId} (he : P.underlying e = some .bool) {v : Value} {z : DataW H × List MemPlace} (h : plainElem P e v = some z) : ∃ a, v = .bool a ∧ z = (.lit (.bool a), []) := by
  unfold plainElem at h
  rw [he] at h
  cases v <;> simp at h
  subst h
  exact ⟨_, rfl, rfl⟩
theorem lookup_bool {H : Type} {P : Program} (w : World) {ops : Array Oper} {rest : List Oper} {o : Oper} {a : Act} {Q : Exit → Act → World → Prop}
    (hg : o.guard = none) (m x : Operand) (t : TypeId) (hop : o.op = Op.lookup t m x false)
    (k e : TypeId) (K : Keyed P k) (ht : P.underlying t = some (.map k e)) (he : P.underlying e = some .bool) (hz : (zeroValue e).run P w = .ok (.bool false) w) (b n : Nat) (D : DataW H)
    (hm : a.eval m = .map (some b)) (hown : w.ownsMap P k (plainElem P e) b n D) (key : Value) (kl : Lit) (hx : a.eval x = key) (hkey : keyOf P k key = some kl)
    (hK : ∀ c : Bool, D.atKey kl (.lit (.bool false)) = .lit (.bool c) → wpList P ops Q rest (a.put o.dst (.bool c)) w) :
    wpList P ops Q (o :: rest) a w := by
  refine wpList_plain hg fun K' hK' => ?_
  obtain ⟨v, ps, hrun, hv⟩ := hown.lookup K ht hz (plainElem_bool he false) hkey
  obtain ⟨c, rfl, hc⟩ := plainElem_bool_inv he hv
  simp only [Prod.mk.injEq] at hc
  unfold Oper.wp
  simp [execOp, hop, hm, hx, hrun, Result.andThen]
  exact hK' _ _ (hK c hc.1)
theorem bel_grownBy {w w' : World} (h : Below w.heap.size w w') : w.grownBy w' none := ⟨h.os, h.tape, h.output, h.size, fun i hi _ => h.block i hi⟩
theorem map_below {H : Type} {P : Program} {k : TypeId} {R : Value → Option (DataW H × List MemPlace)} {w w' : World} {b n : Nat} {D : DataW H} (h : w.ownsMap P k R b n D) (hb : Below w.heap.size w w') : w'.ownsMap P k R b n D := h.kept (bel_grownBy hb) (by simp)
theorem bel_of_none {w w' : World} (h : w.grownBy w' none) : Below w.heap.size w w' := ⟨h.os, h.tape, h.output, h.size, fun i hi => h.block i hi (by simp)⟩
theorem bel_row {W w w' : World} {b : Nat} (h : Below W.heap.size W w) (hg : w.grownBy w' (some b)) (hb : W.heap.size ≤ b) : Below W.heap.size W w' := bel_grown h hg (fun k hk => by cases hk; exact hb)
theorem int_lits {P : Program} {q : IntKind} {t : TypeId} (ht : P.underlying t = some (.int q)) {x : Value} {ls : List Lit} : ∀ d, P.keyLits d t [x] = some ls → ∃ n, x = .int q n
  | 0, h => by simp [Program.keyLits] at h
  | d + 1, h => by
    unfold Program.keyLits at h
    rw [ht] at h
    cases x <;> simp at h
    exact ⟨_, by rw [h.1.1]⟩
theorem pair_lits {P : Program} {t ti : TypeId} {q : IntKind} {fs : Array Field} (ht : P.underlying t = some (.struct fs)) (hfs : ∃ f0 f1, fs.toList = [f0, f1] ∧ f0.type = ti ∧ f1.type = ti ∧ f0.offset = 0 ∧ f1.offset = 1) (hc : P.cellsOf ti = 1) (hti : P.underlying ti = some (.int q)) {x y : Value} {ls : List Lit} : ∀ d, P.keyLits d t [x, y] = some ls → ∃ a b, x = .int q a ∧ y = .int q b
  | 0, h => by simp [Program.keyLits] at h
  | d + 1, h => by
    obtain ⟨f0, f1, e, e0, e1, o0, o1⟩ := hfs
    unfold Program.keyLits at h
    rw [ht] at h
    simp only at h
    split at h
    · obtain ⟨m, hm, _⟩ := Option.map_eq_some_iff.1 h
      rw [e] at hm
      simp [List.mapM_cons, e0, e1, o0, o1, hc, Option.bind_eq_some_iff] at hm
      obtain ⟨l0, h0, l1, ⟨l2, h1, _⟩, _⟩ := hm
      obtain ⟨n0, rfl⟩ := int_lits hti _ h0
      obtain ⟨n1, rfl⟩ := int_lits hti _ h1
      exact ⟨n0, n1, rfl, rfl⟩
    · cases h
theorem key_shape {P : Program} {k ti : TypeId} {q : IntKind} {fs : Array Field} (hu : P.underlying k = some (.struct fs)) (hc2 : P.cellsOf k = 2) (hfs : ∃ f0 f1, fs.toList = [f0, f1] ∧ f0.type = ti ∧ f1.type = ti ∧ f0.offset = 0 ∧ f1.offset = 1) (hc : P.cellsOf ti = 1) (hti : P.underlying ti = some (.int q)) {key : Value} {kl : Lit} (h : keyOf P k key = some kl) : ∃ x : Int × Int, key = .agg #[.int q x.1, .int q x.2] := by
  unfold keyOf at h
  rw [hu] at h
  simp only at h
  split at h
  · rename_i hf
    rw [Bool.and_eq_true] at hf
    obtain ⟨hkt, hf⟩ := hf
    cases key <;> simp [Value.formed, hu] at hf
    rename_i cs
    rw [hc2] at hf
    obtain ⟨x, y, rfl⟩ : ∃ x y, cs = #[x, y] := by
      rcases cs with ⟨cs⟩
      cases cs with
      | nil => simp at hf
      | cons x r =>
        cases r with
        | nil => simp at hf
        | cons y r =>
          cases r with
          | nil => exact ⟨x, y, rfl⟩
          | cons z r => simp at hf
    obtain ⟨ls, hls, _⟩ := Option.map_eq_some_iff.1 h
    rw [show (Value.agg #[x, y]).cells.toList = [x, y] from rfl] at hls
    obtain ⟨a, b, rfl, rfl⟩ := pair_lits hu hfs hc hti _ hls
    exact ⟨(a, b), rfl⟩
  · cases h
theorem ton_shape {key : Value} {kl : Lit} (h : keyOf Try.prog 111 key = some kl) : ∃ x : Int × Int, key = .agg #[.int .i64 x.1, .int .i64 x.2] :=
  key_shape Try.underlying111 (by kernel_rfl) ⟨_, _, rfl, rfl, rfl, rfl, rfl⟩ (by kernel_rfl) Try.underlying3 h
set_option maxHeartbeats 400000 in
theorem tone_any (s a o : Int) (w : World) : Calls Try.prog 93 #[.agg #[.int .i64 s, .int .i64 a, .int .i64 o]] w fun e w' => e = .returned (.agg #[.int .i64 s, .int .i64 a]) ∧ Below w.heap.size w w' := by
  go_enter Try.func93, Try.ntmps93
  go_wp2
  exact bodyPost_ret (v := .agg #[.int .i64 s, .int .i64 a]) (by simp [results, Try.results93, go_sem]) rfl ⟨rfl, by repeat (first | (with_reducible assumption) | (exact bel_undr (by with_reducible assumption)) | (with_reducible exact bel_refl _) | (with_reducible refine bel_dr ?_) | (with_reducible refine bel_drN ?_ _) | (with_reducible refine bel_al ?_ _) | (refine bel_set ?_ (by first | (simp; done) | (simp; exact Below.size (by assumption)) | (simp; omega)) _) | (with_reducible refine bel_tr ?_ (by assumption)))⟩
def TonR (w : World) (l : List Pi) (e : Ending) (w' : World) : Prop :=
  ∃ b, e = .returned (.map (some b)) ∧ w.heap.size ≤ b ∧ w'.ownsMap Try.prog 111 (plainElem Try.prog 4) b l.length (TN l) ∧ Below w.heap.size w w'
theorem take_snocPi {l : List Pi} {k : Nat} (h : k < l.length) : l.take (k + 1) = l.take k ++ [atPi l k] := by
  rw [List.take_succ_eq_append_getElem h]
  unfold atPi
  rw [List.getD_eq_getElem?_getD, List.getElem?_eq_getElem h]
  rfl
set_option maxRecDepth 20000 in
set_option maxHeartbeats 2000000 in
theorem tones_any (A : Option Addr) (n c : Nat) (l : List Pi) (w : World) (hn : l.length = n) (hm : n ≤ 2000000) (h : RowPi w w.heap.size A l) (hv : pvAll l) :
    Calls Try.prog 87 #[.slice A n c] w (TonR w l) := by
  subst hn
  have HV := Lib.hid hv
  clear hv
  have hmm := @run_makeMap Try.prog
  go_enter Try.func87, Try.ntmps87
  go_wp2
  go_loopw [9] (fun i wr => ∃ k : Nat, k ≤ l.length ∧ i = .int .i64 k ∧ wr.ownsMap Try.prog 111 (plainElem Try.prog 4) w.heap.size k (TN (l.take k)) ∧ Below w.heap.size w wr) (fun i _ => l.length - (intOf i).toNat)
  case atStart => exact ⟨0, Nat.zero_le _, rfl, World.ownsMap_made _ _ _ _, bel_al (bel_refl w) _⟩
  case round =>
    obtain ⟨k, hk, rfl, hown, hb⟩ := hrel
    by_cases hlt : k < l.length
    · obtain ⟨b, off, rfl, hlb, hc⟩ := (h.below hb) (by omega)
      obtain ⟨p0, p1, p2⟩ := hc k hlt
      have hkl : (k : Int) < (l.length : Int) := by omega
      have hk0 : (0 : Int) ≤ (k : Int) := by omega
      have HQ := Lib.hid (HV.out k hlt)
      have HT := Lib.hid (take_snocPi hlt)
      clear hc h
      obtain ⟨t, ht⟩ : ∃ t, atPi l k = t := ⟨_, rfl⟩
      rw [ht] at p0 p1 p2 HQ HT
      clear ht
      obtain ⟨s, a, o⟩ := t
      simp only at p0 p1 p2
      have hL := hb.size
      go_wp2_with fail
      refine (tone_any s a o _).mono ?_
      rintro e1 w1 ⟨rfl, b1⟩
      have b2 : Below wr.heap.size wr w1 := bel_tr (by repeat (first | (with_reducible assumption) | (exact bel_undr (by with_reducible assumption)) | (with_reducible exact bel_refl _) | (with_reducible refine bel_dr ?_) | (with_reducible refine bel_drN ?_ _) | (with_reducible refine bel_al ?_ _) | (refine bel_set ?_ (by first | (simp; done) | (simp; exact Below.size (by assumption)) | (simp; omega)) _) | (with_reducible refine bel_tr ?_ (by assumption)))) b1
      have hown1 := map_below hown b2
      have hb1 := bel_tr hb b2
      clear b1 b2 p0 p1 p2 hown
      go_wp2_with (at_mapUpdate; refine wpList_mapUpdate_own _ rfl _ _ _ 108 rfl 111 4 tonK Try.underlying108 _ w.heap.size k _ rfl hown1 (by unfold maxLen; omega) _ _ (tl s a) rfl rfl (tl_pv HQ.out) _ [] (plainElem_bool Try.underlying4 true) ?_; intro w2 hown2 hgrow2)
      go_roundw
      case rel => exact ⟨k + 1, by omega, by go_num, by rw [HT.out, TN_snoc]; exact hown2, bel_row hb1 hgrow2 (Nat.le_refl _)⟩
      case measure => simp [intOf]; omega
    · obtain rfl : k = l.length := by omega
      rw [List.take_length] at hown
      go_wp2
      exact bodyPost_ret (v := .map (some w.heap.size)) (by simp [results, Try.results87, go_sem]) rfl ⟨_, rfl, Nat.le_refl _, hown, hb⟩
set_option maxRecDepth 20000 in
set_option maxHeartbeats 4000000 in
theorem same_any (A A' : Option Addr) (n n' c c' : Nat) (a b : List Pi) (w : World) (hn : a.length = n) (hn' : b.length = n') (hm : n ≤ 2000000) (hm' : n' ≤ 2000000) (h : RowPi w w.heap.size A a) (h' : RowPi w w.heap.size A' b) (ha : pvAll a) (hb : pvAll b) :
    Calls Try.prog 79 #[.slice A n c, .slice A' n' c'] w fun e w' => e = .returned (.bool (smB a b)) ∧ Below w.heap.size w w' := by
  subst hn
  subst hn'
  have HA := Lib.hid ha
  have HB := Lib.hid hb
  clear ha hb
  have zB : ∀ w : World, (zeroValue 4).run Try.prog w = .ok (.bool false) w := fun _ => by kernel_rfl
  have HZ := Lib.hid zB
  clear zB
  go_enter Try.func79, Try.ntmps79
  go_wp2_with fail
  refine (tones_any A _ c a _ rfl hm h HA.out).mono ?_
  rintro e1 w1 ⟨x, rfl, hx, ox, b1⟩
  have h2 := h'.below b1
  go_wp2_with fail
  refine (tones_any A' _ c' b _ rfl hm' h2 HB.out).mono ?_
  rintro e2 w2 ⟨y, rfl, hy, oy, b2⟩
  have hs1 := b1.size
  have hxl := ox.lt
  have hyl := oy.lt
  replace ox := map_below ox b2
  have bw := bel_tr b1 b2
  clear h2 h h' b1 b2
  have hL := bw.size
  obtain ⟨N1, hN1⟩ : ∃ N, size (TN a) = N := ⟨_, rfl⟩
  obtain ⟨N2, hN2⟩ : ∃ N, size (TN b) = N := ⟨_, rfl⟩
  have HN1 := Lib.hid hN1
  have HN2 := Lib.hid hN2
  clear hN1 hN2
  have tok1 : True := trivial
  by_cases hN : N1 = N2
  · have HE := Lib.hid (HN1.out.trans (hN.trans HN2.out.symm))
    have ht : ((N1 : Int) != (N2 : Int)) = false := by rw [hN]; simp
    have hlen : @Maps.size Unit (TN a) = N1 := HN1.out
    clear hN
    go_wp2_with (first
      | (at_len; have _t := tok1; refine wpList_len_own _ rfl _ 108 rfl 111 4 Try.underlying108 (plainElem Try.prog 4) x _ (TN a) rfl ox ?_; rw [HN1.out]; clear tok1)
      | (at_len; refine wpList_len_own _ rfl _ 108 rfl 111 4 Try.underlying108 (plainElem Try.prog 4) y _ (TN b) rfl oy ?_; rw [HN2.out])
      | (at_range; refine wpList_range_own _ rfl _ 108 rfl 111 4 tonK Try.underlying108 _ x _ _ rfl ox ?_; intro w0 hrg0 hg0 hs0))
    go_frame
    have bw0 := bel_tr bw (bel_of_none hg0)
    have oy0 := oy.kept hg0 (by simp)
    have hw0 : w2.heap.size < w0.heap.size := by omega
    have hr2 : w.heap.size ≤ w2.heap.size := hL
    clear hg0 oy ox bw hs0
    go_loopw [7] (fun _ wr => ∃ (left : Lit → Bool) (cnt : Nat), wr.ranges Try.prog 111 (plainElem Try.prog 4) x w2.heap.size a.length (TN a) left cnt ∧ wr.ownsMap Try.prog 111 (plainElem Try.prog 4) y b.length (TN b) ∧ Below w.heap.size w wr ∧ Hid (∀ kl, has (TN a) kl = true → left kl = false → has (TN b) kl = true)) (fun _ wr => wr.rangeLeft x w2.heap.size)
    case atStart => exact ⟨_, _, hrg0, oy0, bw0, fun kl h1 h2 => by rw [h1] at h2; cases h2⟩
    case round =>
      obtain ⟨left, cnt, hrg, hoy, hb, HS⟩ := hrel
      clear hrg0 oy0 bw0
      go_wp2_with (first
        | (at_next; refine wpList_next_ranges (α := Int × Int) (β := Bool) _ rfl _ rfl 111 tonK (plainElem Try.prog 4) (fun z => .agg #[.int .i64 z.1, .int .i64 z.2]) Value.bool (fun key kl hk => ton_shape hk) (fun v z hz => by obtain ⟨c, rfl, _⟩ := plainElem_bool_inv Try.underlying4 hz; exact ⟨c, rfl⟩) x w2.heap.size _ _ _ _ rfl hrg ?_ ?_ <;> (first | (rintro ⟨s, t⟩ d kl ⟨z, zp⟩ w4 cnt4 hkey hlx hz hat hrg4 hlt hg4 hs4 hen; have HT := Lib.hid hat; have hoy4 := (hoy.kept hg4 (by simp; omega)).alloc (.cells #[.int .i64 s, .int .i64 t] 111); have hrg5 := hrg4.alloc (.cells #[.int .i64 s, .int .i64 t] 111); have hb5 := bel_al (bel_row hb hg4 hr2) (.cells #[.int .i64 s, .int .i64 t] 111); clear hat hrg4) | (intro hc0 hl0)))
        | (at_lookup; refine lookup_bool _ rfl _ _ 108 rfl 111 4 tonK Try.underlying108 Try.underlying4 (HZ.out _) y _ _ rfl hoy4 _ kl rfl hkey ?_; intro cc hcc; have HC := Lib.hid hcc; clear hcc; cases cc))
      · have HT := Lib.hid (sm_sub HA.out HB.out HE.out (fun kl h => HS.out kl h (hl0 kl)))
        go_ret
        exact ⟨ret_bool HT.out.symm, hb⟩
      · have h2 : has (TN b) kl = false := by have := (at_TN HB.out kl).symm.trans HC.out; simpa using this
        have HF := Lib.hid (sm_bad HA.out HB.out (has_true_of_atKey HT.out) h2)
        clear h2
        go_ret
        exact ⟨ret_bool HF.out.symm, hb5⟩
      · have h2 : has (TN b) kl = true := by have := (at_TN HB.out kl).symm.trans HC.out; simpa using this
        go_roundw
        case rel => exact ⟨_, cnt4, hrg5, hoy4, hb5, fun k2 h3 h4 => by
          cases hl : left k2
          · exact HS.out k2 h3 hl
          · rw [hl] at h4
            have : k2.sameKey kl = true := by simpa using h4
            rw [WideAt.sameKey_eq this]; exact h2⟩
        case measure => rw [hrg5.left_eq, hrg.left_eq]; exact hlt
  · have HE := Lib.hid (sm_len HA.out HB.out (by rw [HN1.out, HN2.out]; exact hN))
    have ht : ((N1 : Int) != (N2 : Int)) = true := by simp; omega
    clear hN
    go_wp2_with (first
      | (at_len; have _t := tok1; refine wpList_len_own _ rfl _ 108 rfl 111 4 Try.underlying108 (plainElem Try.prog 4) x _ (TN a) rfl ox ?_; rw [HN1.out]; clear tok1)
      | (at_len; refine wpList_len_own _ rfl _ 108 rfl 111 4 Try.underlying108 (plainElem Try.prog 4) y _ (TN b) rfl oy ?_; rw [HN2.out]))
    go_ret
    exact ⟨ret_bool HE.out.symm, bw⟩
end Go.Proofs.Ytpjakgnghpapmaa
