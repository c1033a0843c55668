/- Two voices, drawn for the law of IsCanon. -/
import Derived.Test.YtldgpgljapohiaaDrCo
import Derived.Test.YtldgpgljapohiaaSIc
import Derived.Test.YtldgpgljapohiaaCoV
namespace Go.Proofs.Ytldgpgljapohiaa
set_option linter.unusedSimpArgs false
set_option linter.unusedVariables false
open Go.RowKit

theorem rowNt_tick {w : World} {B b off : Nat} {L : List Nt} (h : RowNt w B (some ⟨b, off, none⟩) L) (k : Nat) (hk : k < L.length) (t : Int) :
    RowNt (w.setCell ⟨b, off + k * 6 + 4, none⟩ (.int .i64 t)) B (some ⟨b, off, none⟩) (L.set k { atNt L k with ticks := t }) := by
  intro _
  obtain ⟨b', o', e, hb, hc⟩ := h (by omega)
  cases e
  refine ⟨b, off, rfl, hb, fun i hi => ?_⟩
  rw [List.length_set] at hi
  obtain ⟨h0, h1, h2, h3, h4, h5⟩ := hc i hi
  by_cases e : i = k
  · subst e
    have ea : atNt (L.set i { atNt L i with ticks := t }) i = { atNt L i with ticks := t } := by
      unfold atNt
      simp [List.getD_eq_getElem?_getD, hi]
    rw [ea]
    refine ⟨?_, ?_, ?_, ?_, ?_, ?_⟩
    · exact keep_off h0 (by first | (simp; done) | (simp; omega))
    · exact keep_off h1 (by simp)
    · exact keep_off h2 (by simp)
    · exact keep_off h3 (by simp)
    · exact set_same (by rw [h4]; rfl)
    · exact keep_off h5 (by simp)
  · have ea : atNt (L.set k { atNt L k with ticks := t }) i = atNt L i := by
      unfold atNt
      simp [List.getD_eq_getElem?_getD, List.getElem?_set_ne (show k ≠ i from fun h => e h.symm)]
    rw [ea]
    refine ⟨?_, ?_, ?_, ?_, ?_, ?_⟩
    · exact keep_off h0 (by first | (simp; done) | (simp; omega))
    · exact keep_off h1 (by first | (simp; done) | (simp; omega))
    · exact keep_off h2 (by first | (simp; done) | (simp; omega))
    · exact keep_off h3 (by first | (simp; done) | (simp; omega))
    · exact keep_off h4 (by first | (simp; done) | (simp; omega))
    · exact keep_off h5 (by first | (simp; done) | (simp; omega))
theorem rowNt_offset {w : World} {B lo : Nat} {A : Option Addr} {l : List Nt} (h : RowNt w B A l) (hB : B ≤ lo) {q : Addr} (hq : lo ≤ q.block) (u : Value) : RowNt (w.setCell q u) B A l := by
  intro hl
  obtain ⟨b, off, e, hb, hc⟩ := h hl
  refine ⟨b, off, e, hb, fun i hi => ?_⟩
  obtain ⟨h0, h1, h2, h3, h4, h5⟩ := hc i hi
  exact ⟨keep_set h0 (by first | (simp; done) | (simp; omega)), keep_set h1 (by first | (simp; done) | (simp; omega)), keep_set h2 (by first | (simp; done) | (simp; omega)), keep_set h3 (by first | (simp; done) | (simp; omega)), keep_set h4 (by first | (simp; done) | (simp; omega)), keep_set h5 (by first | (simp; done) | (simp; omega))⟩
theorem rowNt_bel {w w' : World} {A : Option Addr} {l : List Nt} (h : RowNt w w.heap.size A l) (hb : Below w.heap.size w w') : RowNt w' w.heap.size A l := h.keep (Nat.le_refl _) fun b o hh => hb.cell (p := ⟨b, o, none⟩) hh
theorem rowNt_up {w : World} {B B' : Nat} {A : Option Addr} {l : List Nt} (h : RowNt w B A l) (hB : B ≤ B') : RowNt w B' A l := h.keep hB (fun _ _ _ => rfl)
def DrIc (w : World) (e : Ending) (w' : World) : Prop := ∃ (A : Option Addr) (c : Nat) (l : List Nt) (A' : Option Addr) (c' : Nat) (l' : List Nt), e = .returned (.tuple #[.slice A l.length c, .slice A' l'.length c']) ∧ l.length ≤ c ∧ c ≤ maxLen ∧ l.length ≤ 70 ∧ l'.length ≤ c' ∧ c' ≤ maxLen ∧ l'.length ≤ 71 ∧ RowNt w' w'.heap.size A l ∧ RowNt w' w'.heap.size A' l' ∧ Below w.heap.size w w'
set_option maxHeartbeats 4000000 in
theorem DrawIsCanon_any (w : World) (A : Option Addr) (len cap : Nat) (h : Cod w A len cap) : Calls Try.prog 15 #[.slice A len cap] w (DrIc w) := by
  go_enter Try.func15, Try.ntmps15
  go_wp2_with fail
  refine (DrawCanonOf_any w A len cap h).mono ?_
  rintro e1 w1 ⟨A1, c1, l, d, st, ha, rfl, lc, cm, l7, hr, b1⟩
  unfold maxLen at cm
  have bP : Blk (w1.alloc (.cells #[.int .i64 st, .int .i64 ha] 25)) w1.heap.size #[.int .i64 st, .int .i64 ha] 25 := Blk.new w1 _ _
  have bw := bel_al b1 (.cells #[.int .i64 st, .int .i64 ha] 25)
  have hrx := hr.below (bel_al (bel_refl w1) (.cells #[.int .i64 st, .int .i64 ha] 25))
  clear b1 hr
  have hr := hrx
  clear hrx
  obtain ⟨L, hL⟩ : ∃ L, coL l d st ha = L := ⟨_, rfl⟩
  obtain ⟨B, hB⟩ : ∃ B, coB l d st ha = B := ⟨_, rfl⟩
  have hLn : L.length ≤ 61 := by rw [← hL]; exact coL_len _ _ _ _
  go_upto_region 2 with fail
  generalize (w1.alloc (.cells #[.int .i64 st, .int .i64 ha] 25)) = w2 at *
  generalize w1.heap.size = P at *
  have cP0 : w2.cell? ⟨P, 0, none⟩ = some (.int .i64 st) := by rw [Blk.cell bP]; rfl
  have cP1 : w2.cell? ⟨P, 1, none⟩ = some (.int .i64 ha) := by rw [Blk.cell bP]; rfl
  have HL := Lib.hid hL
  have HB := Lib.hid hB
  clear hL hB
  go_wp2_with fail
  refine (sco_val HL.out HB.out _ _ _ _ rfl (by omega) hr).mono ?_
  rintro e3 w3 ⟨A2, c2, rfl, lc2, cm2, r2, o2, b2⟩
  have hs := b2.size
  have hs0 := bw.size
  unfold maxLen at cm2
  clear bP cP0 cP1
  have hrN := hr
  have hr := hr.below b2
  have bw := bel_tr bw b2
  cases B with
  | false =>
    go_wp2
    go_ret2
    exact ⟨A1, c1, l, A1, c1, l, rfl, lc, by unfold maxLen; omega, l7, lc, by unfold maxLen; omega, by omega, hr, hr, bw⟩
  | true =>
    have HL1 : Hid (L.length = l.length + 1) := (co_tail HB.out HL.out).1.trans (by rw [(co_tail HB.out HL.out).2.2.2.1])
    by_cases h3 : (len : Int).tmod 3 = 0
    · have h3b : ((len : Int).tmod 3 == 0) = true := by simpa using h3
      by_cases h1 : 1 < L.length
      · have h1b : (1 : Int) < (L.length : Int) := by omega
        have r2' := r2
        obtain ⟨b, off, rfl, hlb, hc⟩ := r2 (by omega)
        obtain ⟨b', off', e, hlo, hfr⟩ := o2 (by omega)
        cases e
        obtain ⟨q0, q1, q2, q3, q4, q5⟩ := hc (L.length - 1) (by omega)
        clear q0 q1 q2 q3 q5
        have hfr4 := hfr (off + (L.length - 1) * 6 + 4)
        obtain ⟨r, hr1⟩ : ∃ r, Int.tmod (atNt L (L.length - 1)).ticks 768 = r := ⟨_, rfl⟩
        have r0 : -768 < r ∧ r < 768 := by
          constructor
          · rw [← hr1]
            by_cases h0 : 0 ≤ (atNt L (L.length - 1)).ticks
            · have e2 := Int.tmod_eq_emod_of_nonneg (b := 768) h0
              omega
            · have e := Int.neg_tmod (atNt L (L.length - 1)).ticks 768
              have e2 := Int.tmod_eq_emod_of_nonneg (a := -(atNt L (L.length - 1)).ticks) (b := 768) (by omega)
              omega
          · rw [← hr1]; exact Int.tmod_lt_of_pos _ (by decide)
        obtain ⟨r0, r1⟩ := r0
        have i1 := IntWalk.i64_in (r + 1) (by omega)
        have hk0 : (0 : Int) ≤ (L.length : Int) - 1 := by omega
        have hk1 : (L.length : Int) - 1 < (L.length : Int) := by omega
        have ee : ((L.length : Int) - 1).toNat = L.length - 1 := by omega
        go_wp2
        go_ret2
        exact ⟨A1, c1, l, some ⟨b, off, none⟩, c2, L.set (L.length - 1) { atNt L (L.length - 1) with ticks := r + 1 }, by simp, lc, by unfold maxLen; omega, l7, by simpa using lc2, by unfold maxLen; omega, by simp; omega, (rowNt_up (rowNt_offset (rowNt_bel hrN b2) (Nat.le_refl _) hlo _) (by first | (simp; done) | (simp; omega))), by simpa using rowNt_tick r2' (L.length - 1) (by omega) (r + 1), bel_set bw (by simp only; omega) _⟩
      · have h1b : ¬ (1 : Int) < (L.length : Int) := by omega
        go_wp2
        go_ret2
        exact ⟨A1, c1, l, A2, c2, L, rfl, lc, by unfold maxLen; omega, l7, lc2, by unfold maxLen; omega, by omega, hr, r2, bw⟩
    · have h3b : ((len : Int).tmod 3 == 0) = false := by simpa using h3
      go_wp2
      go_ret2
      exact ⟨A1, c1, l, A2, c2, L, rfl, lc, by unfold maxLen; omega, l7, lc2, by unfold maxLen; omega, by omega, hr, r2, bw⟩
end Go.Proofs.Ytldgpgljapohiaa
