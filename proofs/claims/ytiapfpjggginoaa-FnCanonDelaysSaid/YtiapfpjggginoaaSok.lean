/- The key that sounds at a tick of a voice; the first dissonance of two voices: of both. -/
import Derived.Test.YtiapfpjggginoaaNoA
import Derived.Test.YtiapfpjggginoaaMtT
import Derived.Test.YtiapfpjggginoaaLnA
import Derived.Deep.DeepCutAuto
namespace Go.Proofs.Ytiapfpjggginoaa
set_option linter.unusedSimpArgs false
set_option linter.unusedVariables false
open Go.RowKit

theorem sk_no {l : List Nt} {t : Int} (h : naI l t = -1) : skB l t = false := by
  unfold skB; rw [h]; rfl
theorem sk_at {l : List Nt} {t : Int} {j : Nat} (h : naI l t = (j : Int)) : skB l t = !(atNt l j).rest ∧ skK l t = kyN (atNt l j) := by
  unfold skB skK; rw [h, Int.toNat_natCast]
  refine ⟨?_, rfl⟩
  cases (atNt l j).rest <;> simp
set_option maxHeartbeats 2000000 in
theorem snd_val {l : List Nt} {t K : Int} {B : Bool} (hK : (if skB l t = true then skK l t else 0) = K) (hB : skB l t = B) (A : Option Addr) (n c : Nat) (w : World) (hn : l.length = n) (hm : n ≤ 2000000) (t0 : -100000000 ≤ t) (t1 : t ≤ 100000000) (h : RowNt w w.heap.size A l) :
    Calls Try.prog 50 #[.slice A n c, .int .i64 t] w fun e w' => e = .returned (.tuple #[.int .i64 K, .bool B]) ∧ Below w.heap.size w w' := by
  subst hn
  have HK := Lib.hid hK
  have HB := Lib.hid hB
  clear hB
  clear hK
  rcases na_spec l t with ⟨hn, _⟩ | ⟨j, hj, hv, _, hn, _⟩
  · have HS := Lib.hid (sk_no hn)
    have HN := Lib.hid hn
    clear hn
    go_enter Try.func50, Try.ntmps50
    go_wp2_with fail
    refine (na_val HN.out _ _ _ _ rfl hm t0 t1 h).mono ?_
    rintro e1 w1 ⟨rfl, b1⟩
    go_wp2
    exact bodyPost_ret (v := .tuple #[.int .i64 0, .bool false]) (by simp [results, Try.results50, go_sem]) rfl ⟨by rw [← HK.out, ← HB.out, HS.out]; rfl, b1⟩
  · have HS := Lib.hid (sk_at hn)
    have HN := Lib.hid hn
    have h60 := (vvB_of hv).len
    clear hn hv
    go_enter Try.func50, Try.ntmps50
    go_wp2_with fail
    refine (na_val HN.out _ _ _ _ rfl hm t0 t1 h).mono ?_
    rintro e1 w1 ⟨rfl, b1⟩
    obtain ⟨b, off, rfl, hlb, hc⟩ := (h.below b1) (by omega)
    have hcj := hc j hj
    clear hc
    have hj0 : (0 : Int) ≤ (j : Int) := by omega
    have hj1 : (j : Int) < (l.length : Int) := by omega
    generalize atNt l j = x at hcj HS
    obtain ⟨r, s, a, o, tk, d⟩ := x
    obtain ⟨p0, p1, p2, p3, p4, p5⟩ := hcj
    simp only at p0 p1 p2 p3 p4 p5
    cases r
    · have HS1 := Lib.hid (show skB l t = true from HS.out.1)
      have HS2 := Lib.hid (show skK l t = pkI s a o from HS.out.2)
      go_wp2_with fail
      refine (pk_val rfl _).mono ?_
      rintro e2 w2 ⟨rfl, b2⟩
      have bw := bel_tr b1 b2
      go_wp2
      exact bodyPost_ret (v := .tuple #[.int .i64 (pkI s a o), .bool true]) (by simp [results, Try.results50, go_sem]) rfl ⟨by rw [← HK.out, ← HB.out, HS1.out, HS2.out]; rfl, bw⟩
    · have HS1 := Lib.hid (show skB l t = false from HS.out.1)
      go_wp2
      exact bodyPost_ret (v := .tuple #[.int .i64 0, .bool false]) (by simp [results, Try.results50, go_sem]) rfl ⟨by rw [← HK.out, ← HB.out, HS1.out]; rfl, b1⟩
set_option maxHeartbeats 2000000 in
theorem lky_val {l : List Nt} {t K : Int} (hK : (if skB l t = true then skK l t else -100) = K) (A : Option Addr) (n c : Nat) (w : World) (hn : l.length = n) (hm : n ≤ 2000000) (t0 : -100000000 ≤ t) (t1 : t ≤ 100000000) (h : RowNt w w.heap.size A l) :
    Calls Try.prog 49 #[.slice A n c, .int .i64 t] w fun e w' => e = .returned (.int .i64 K) ∧ Below w.heap.size w w' := by
  subst hn
  have HK := Lib.hid hK
  clear hK
  rcases na_spec l t with ⟨hn, _⟩ | ⟨j, hj, hv, _, hn, _⟩
  · have HS := Lib.hid (sk_no hn)
    have HN := Lib.hid hn
    clear hn
    go_enter Try.func49, Try.ntmps49
    go_wp2_with fail
    refine (sna_val HN.out _ _ _ _ rfl hm t0 t1 h).mono ?_
    rintro e1 w1 ⟨rfl, b1⟩
    go_wp2
    exact bodyPost_ret (v := .int .i64 (-100)) (by simp [results, Try.results49, go_sem]) rfl ⟨by rw [← HK.out, HS.out]; rfl, b1⟩
  · have HS := Lib.hid (sk_at hn)
    have HN := Lib.hid hn
    have h60 := (vvB_of hv).len
    clear hn hv
    go_enter Try.func49, Try.ntmps49
    go_wp2_with fail
    refine (sna_val HN.out _ _ _ _ rfl hm t0 t1 h).mono ?_
    rintro e1 w1 ⟨rfl, b1⟩
    obtain ⟨b, off, rfl, hlb, hc⟩ := (h.below b1) (by omega)
    have hcj := hc j hj
    clear hc
    have hj0 : (0 : Int) ≤ (j : Int) := by omega
    have hj1 : (j : Int) < (l.length : Int) := by omega
    generalize atNt l j = x at hcj HS
    obtain ⟨r, s, a, o, tk, d⟩ := x
    obtain ⟨p0, p1, p2, p3, p4, p5⟩ := hcj
    simp only at p0 p1 p2 p3 p4 p5
    cases r
    · have HS1 := Lib.hid (show skB l t = true from HS.out.1)
      have HS2 := Lib.hid (show skK l t = pkI s a o from HS.out.2)
      go_wp2_with fail
      refine (spk_val rfl _).mono ?_
      rintro e2 w2 ⟨rfl, b2⟩
      have bw := bel_tr b1 b2
      go_wp2
      exact bodyPost_ret (v := .int .i64 (pkI s a o)) (by simp [results, Try.results49, go_sem]) rfl ⟨by rw [← HK.out, HS1.out, HS2.out]; rfl, bw⟩
    · have HS1 := Lib.hid (show skB l t = false from HS.out.1)
      go_wp2
      exact bodyPost_ret (v := .int .i64 (-100)) (by simp [results, Try.results49, go_sem]) rfl ⟨by rw [← HK.out, HS1.out]; rfl, b1⟩
/-- at this tick the two voices are a dissonance -/
def mfB (a b : List Nt) (t : Int) : Bool := skB a t && skB b t && disB (dsI (skK a t) (skK b t) % 12)
def mfL (a b : List Nt) : List Int → Int
  | [] => -1
  | t :: L => if mfB a b t = true then t else mfL a b L
theorem drop_at (L : List Int) (k : Nat) (h : k < L.length) : L.drop k = atIn L k :: L.drop (k + 1) := by
  unfold atIn
  rw [List.drop_eq_getElem_cons h, List.getD_eq_getElem?_getD, List.getElem?_eq_getElem h]; rfl
theorem at_mem (L : List Int) (k : Nat) (h : k < L.length) : atIn L k ∈ L := by
  unfold atIn
  rw [List.getD_eq_getElem?_getD, List.getElem?_eq_getElem h]; exact List.getElem_mem h
theorem mt_bd {a b : List Nt} {L : List Int} (hL : MtL a b L) {x : Int} (h : x ∈ L) : 0 ≤ x ∧ x < 46080 := by
  unfold MtL at hL
  by_cases hv : vvB a = true ∧ vvB b = true
  · rw [if_pos hv] at hL
    have hx := (hL.2 x).1 h
    have h1 := mtP_nn (vvB_of hv.1) (vvB_of hv.2) hx
    have h2 := (vvB_of hv.1).tot
    have h3 := (vvB_of hv.2).tot
    have h4 := hx.1
    omega
  · rw [if_neg hv] at hL
    rw [hL] at h; cases h
def mfI (a b : List Nt) (r : Int) : Prop := ∃ L, MtL a b L ∧ mfL a b L = r
end Go.Proofs.Ytiapfpjggginoaa
