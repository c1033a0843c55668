/- The generator of voices: a list of at most seventy notes, whatever they are. -/
import Derived.Test.YtaieamobjbckdaaDrN
import Derived.Test.YtaieamobjbckdaaRowNt
import Derived.Test.YtaieamobjbckdaaInfNt
import Derived.Deep.AppendLies
namespace Go.Proofs.Ytaieamobjbckdaa
set_option linter.unusedSimpArgs false
set_option linter.unusedVariables false
open Go.RowKit

def dNt : Nt := ⟨false, 0, 0, 0, 0, false⟩
def lenV : Value → Nat
  | .slice _ n _ => n
  | _ => 0
/-- what the generator leaves -/
def Voi (w : World) (g B p : Nat) (A : Option Addr) (len cap : Nat) (e : Ending) (w' : World) : Prop :=
  ∃ (v : Value) (l : List Nt), e = .returned v ∧ l.length ≤ 70 ∧ w'.ownsRow w.heap.size 56 6 v l.length (flat csNt l) ∧ Onb g w w' ∧ ∃ p', p' ≤ p + 400 ∧ Rd w' g B A len cap p'
set_option maxHeartbeats 8000000 in
theorem voice_any (w : World) (g B p : Nat) (A : Option Addr) (len cap : Nat) (m : Int) (h : Rd w g B A len cap p) (hp : p < 900000) :
    Calls Try.prog 15 #[.pointer (some ⟨g, 0, none⟩), .int .i64 m] w (Voi w g B p A len cap) := by
  have hg := h.gl
  obtain ⟨i0, hi0, hz0, hz1, hz2⟩ := info_parts infoNt
  go_enter Try.func15, Try.ntmps15
  go_wp2_with fail
  refine (pick_fr _ _ _ _ _ _ _ _ (h.alloc _) (by omega)).mono ?_
  rintro e w1 ⟨v, rfl, ⟨v0, v1, _⟩, o1, r1⟩
  have v1 := v1 (by omega)
  have own1 : w1.ownsRow w.heap.size 56 6 (.slice (some ⟨w.heap.size, 0, none⟩) 0 0) ([] : List Nt).length (flat csNt []) :=
    own_onl (World.ownsRow_lit w #[] 0 (Nat.le_refl _) (by simp [maxLen]) rfl) o1 hg
  have k1 : Onb g w w1 := ((Onb.refl g w).alloc _).trans (Onb.of_onl o1)
  clear o1
  go_wp2
  go_loopw [5, 6, 7, 8] (fun o i _ _ wr => ∃ (l : List Nt) (k p' : Nat), l.length + k ≤ 8 ∧ p' ≤ p + 1 + 30 * l.length ∧ i = .int .i64 k ∧ wr.ownsRow w.heap.size 56 6 o l.length (flat csNt l) ∧ Onb g w wr ∧ Rd wr g B A len cap p') (fun _ i _ _ _ => (intOf i).toNat)
  case atStart => exact ⟨[], v.toNat, p + 1, by simp; omega, by simp, by go_num, own1, k1, r1⟩
  case round =>
    obtain ⟨l, k, p', hl8, hp', rfl, hown, hk, hr⟩ := hrel
    by_cases hlt : 0 < k
    · have hlt1 : (0 : Int) < (k : Int) := by omega
      go_wp2_with fail
      refine (note_any _ _ _ _ _ _ _ _ hr (by omega)).mono ?_
      rintro e w1 ⟨r, s, a, o, t, d, rfl, o1, p1, hp1, r1⟩
      have hown1 := own_onb hown o1 hg
      have k1 := hk.trans o1
      clear hown hk hr o1
      have hg1 := r1.gl
      have XW := w1.alloc (.cells #[.bool r, .int .i64 s, .int .i64 a, .int .i64 o, .int .i64 t, .bool d] 56)
      clear XW
      have hw1 : w.heap.size ≤ w1.heap.size := k1.size
      have b2 : Blk (w1.alloc (.cells #[.bool r, .int .i64 s, .int .i64 a, .int .i64 o, .int .i64 t, .bool d] 56)) w1.heap.size #[.bool r, .int .i64 s, .int .i64 a, .int .i64 o, .int .i64 t, .bool d] 56 := Blk.new w1 _ _
      have hown2 := hown1.alloc (.cells #[.bool r, .int .i64 s, .int .i64 a, .int .i64 o, .int .i64 t, .bool d] 56)
      have k2 := k1.alloc (.cells #[.bool r, .int .i64 s, .int .i64 a, .int .i64 o, .int .i64 t, .bool d] 56)
      have r2 := r1.alloc (.cells #[.bool r, .int .i64 s, .int .i64 a, .int .i64 o, .int .i64 t, .bool d] 56)
      clear k1 r1
      have hoX := hown1
      obtain ⟨A2, c2, rfl, lc2, cm2, op2⟩ := own_open csNt_len dNt hown2
      have hXo : ∀ y, (Value.slice A2 l.length c2).ownBlock = some y → y < w1.heap.size := fun y hy => (own_lt hoX hy).2
      clear hoX
      go_upto_region 7 with fail
      generalize (w1.alloc (.cells #[.bool r, .int .i64 s, .int .i64 a, .int .i64 o, .int .i64 t, .bool d] 56)) = v2 at *
      generalize w1.heap.size = X at *
      rcases Nat.eq_zero_or_pos l.length with hl0 | hl0
      · obtain rfl : l = [] := List.eq_nil_of_length_eq_zero hl0
        clear hl0 op2
        have lX := b2.lt
        have cX0 : v2.cell? ⟨X, 0, none⟩ = some (.bool r) := by rw [Blk.cell b2]; rfl
        have cX1 : v2.cell? ⟨X, 1, none⟩ = some (.int .i64 s) := by rw [Blk.cell b2]; rfl
        have cX2 : v2.cell? ⟨X, 2, none⟩ = some (.int .i64 a) := by rw [Blk.cell b2]; rfl
        have cX3 : v2.cell? ⟨X, 3, none⟩ = some (.int .i64 o) := by rw [Blk.cell b2]; rfl
        have cX4 : v2.cell? ⟨X, 4, none⟩ = some (.int .i64 t) := by rw [Blk.cell b2]; rfl
        have cX5 : v2.cell? ⟨X, 5, none⟩ = some (.bool d) := by rw [Blk.cell b2]; rfl
        go_wp2_with (at_builtin; go_must (refine wpList_append_lies _ rfl _ _ 41 rfl w.heap.size 56 i0 _ 6 48 Try.underlying41 hi0 hz0 hz1 hz2 rfl (by omega) _ ([] : List Nt).length (flat csNt ([] : List Nt)) rfl (hown2.alloc _) ⟨v2.heap.size, 0, none⟩ 1 1 [.bool r, .int .i64 s, .int .i64 a, .int .i64 o, .int .i64 t, .bool d] rfl rfl (World.news_of_block (cs := #[.bool r, .int .i64 s, .int .i64 a, .int .i64 o, .int .i64 t, .bool d]) (t := 56) (fr := (0, 0)) (heap_alloc_new v2 _)) (by simp [Value.oneCell']) (by omega) (by unfold maxLen; omega) (by omega) (by simp; omega) _ rfl ?_; intro gg9 cp9 w9 hown9 hgrow9 hat9 hlt9))
        have hr9 := (r2.alloc (.cells #[.bool r, .int .i64 s, .int .i64 a, .int .i64 o, .int .i64 t, .bool d] 56)).grown hgrow9 (own_gt hown2 hg)
        have hk9 := (k2.alloc (.cells #[.bool r, .int .i64 s, .int .i64 a, .int .i64 o, .int .i64 t, .bool d] 56)).grown hgrow9 (own_ge hown2)
        have z0 : ([] : List Nt).length = 0 := rfl
        go_roundw
        case rel => exact ⟨([] : List Nt) ++ [⟨r, s, a, o, t, d⟩], k - 1, p1, by simp; omega, by simp; omega, by go_num, own_push (t := (⟨r, s, a, o, t, d⟩ : Nt)) hown9 rfl, hk9, hr9⟩
        case measure => simp [intOf]; omega
      · obtain ⟨q, hq⟩ : ∃ q, l.length = q + 1 := ⟨l.length - 1, by omega⟩
        obtain ⟨gg, rfl, gb, gl, gf, gc⟩ := op2 hl0
        have em : (l.length : Int) - 1 = (q : Int) := by omega
        have hql : (q : Int) < (l.length : Int) := by omega
        have hqn : q < l.length := by omega
        have hqc : (q : Int) < (c2 : Int) := by omega
        have HQ := Lib.hid hq
        clear hq op2
        obtain ⟨y, hy⟩ : ∃ y, l.getD q dNt = y := ⟨_, rfl⟩
        obtain ⟨r0, s0, a0, o0, t0, d0⟩ := y
        have g0 : v2.cell? ⟨gg, q * 6, none⟩ = some (.bool r0) := by have hh := gc q 0 hqn (by omega); rw [hy] at hh; simpa [csNt] using hh
        have g1 : v2.cell? ⟨gg, q * 6 + 1, none⟩ = some (.int .i64 s0) := by have hh := gc q 1 hqn (by omega); rw [hy] at hh; simpa [csNt] using hh
        have g2 : v2.cell? ⟨gg, q * 6 + 2, none⟩ = some (.int .i64 a0) := by have hh := gc q 2 hqn (by omega); rw [hy] at hh; simpa [csNt] using hh
        have g3 : v2.cell? ⟨gg, q * 6 + 3, none⟩ = some (.int .i64 o0) := by have hh := gc q 3 hqn (by omega); rw [hy] at hh; simpa [csNt] using hh
        have g4 : v2.cell? ⟨gg, q * 6 + 4, none⟩ = some (.int .i64 t0) := by have hh := gc q 4 hqn (by omega); rw [hy] at hh; simpa [csNt] using hh
        have g5 : v2.cell? ⟨gg, q * 6 + 5, none⟩ = some (.bool d0) := by have hh := gc q 5 hqn (by omega); rw [hy] at hh; simpa [csNt] using hh
        have gf5 := gf (q * 6 + 5)
        have HY := Lib.hid hy
        clear gc gf hy
        cases r0
        · go_wp2_with fail
          refine (pick_fr _ _ _ _ _ _ _ _ r2 (by omega)).mono ?_
          rintro e w3 ⟨x, rfl, ⟨x0, x1, _⟩, o3, r3⟩
          have x1 := x1 (by omega)
          have hX : w.heap.size ≤ X := by omega
          have b3 := b2.onl o3 (by omega)
          have hown3 := own_onl hown2 o3 hg
          have k3 := k2.trans (Onb.of_onl o3)
          have g0 := o3.at g0 (by simp only; omega)
          have g1 := o3.at g1 (by simp only; omega)
          have g2 := o3.at g2 (by simp only; omega)
          have g3 := o3.at g3 (by simp only; omega)
          have g4 := o3.at g4 (by simp only; omega)
          have g5 := o3.at g5 (by simp only; omega)
          have gf5 : w3.frozen? ⟨gg, q * 6 + 5, none⟩ = false := by rw [o3.frozen _ _ (by omega)]; exact gf5
          have gl3 : gg < w3.heap.size := by have := o3.size; omega
          clear b2 hown2 k2 r2 o3
          by_cases hx : x = 0
          · subst hx
            have hXg : X ≠ gg := (by have := hXo gg rfl; omega)
            have hgX : gg ≠ X := Ne.symm hXg
            have cX0 : w3.cell? ⟨X, 0, none⟩ = some (.bool r) := by rw [Blk.cell b3]; rfl
            have cX1 : w3.cell? ⟨X, 1, none⟩ = some (.int .i64 s) := by rw [Blk.cell b3]; rfl
            have cX2 : w3.cell? ⟨X, 2, none⟩ = some (.int .i64 a) := by rw [Blk.cell b3]; rfl
            have cX3 : w3.cell? ⟨X, 3, none⟩ = some (.int .i64 o) := by rw [Blk.cell b3]; rfl
            have cX4 : w3.cell? ⟨X, 4, none⟩ = some (.int .i64 t) := by rw [Blk.cell b3]; rfl
            have cX5 : w3.cell? ⟨X, 5, none⟩ = some (.bool d) := by rw [Blk.cell b3]; rfl
            have fX0 := b3.free 0
            have fX1 := b3.free 1
            have fX2 := b3.free 2
            have fX3 := b3.free 3
            go_wp2_with fail
            have r4 : Rd ((((w3.setCell ⟨X, 0, none⟩ (.bool false)).setCell ⟨X, 1, none⟩ (.int .i64 s0)).setCell ⟨X, 2, none⟩ (.int .i64 a0)).setCell ⟨X, 3, none⟩ (.int .i64 o0)) g B A len cap _ := ((((r3.set (by have := r3.Bg; first | omega | (simp only; omega)) (by first | omega | (simp only; omega)) _).set (by have := r3.Bg; first | omega | (simp only; omega)) (by first | omega | (simp only; omega)) _).set (by have := r3.Bg; first | omega | (simp only; omega)) (by first | omega | (simp only; omega)) _).set (by have := r3.Bg; first | omega | (simp only; omega)) (by first | omega | (simp only; omega)) _)
            have k4 : Onb g w ((((w3.setCell ⟨X, 0, none⟩ (.bool false)).setCell ⟨X, 1, none⟩ (.int .i64 s0)).setCell ⟨X, 2, none⟩ (.int .i64 a0)).setCell ⟨X, 3, none⟩ (.int .i64 o0)) := ((((k3.set (by first | omega | (simp only; omega)) _).set (by first | omega | (simp only; omega)) _).set (by first | omega | (simp only; omega)) _).set (by first | omega | (simp only; omega)) _)
            have b4 : Blk ((((w3.setCell ⟨X, 0, none⟩ (.bool false)).setCell ⟨X, 1, none⟩ (.int .i64 s0)).setCell ⟨X, 2, none⟩ (.int .i64 a0)).setCell ⟨X, 3, none⟩ (.int .i64 o0)) X #[.bool false, .int .i64 s0, .int .i64 a0, .int .i64 o0, .int .i64 t, .bool d] 56 := (((b3.s60).s61).s62).s63
            have hown4 := (own_off (q := ⟨X, 3, none⟩) (own_off (q := ⟨X, 2, none⟩) (own_off (q := ⟨X, 1, none⟩) (own_off (q := ⟨X, 0, none⟩) hown3 (by simp only [Value.ownBlock]; intro e; injection e; omega) (.bool false)) (by simp only [Value.ownBlock]; intro e; injection e; omega) (.int .i64 s0)) (by simp only [Value.ownBlock]; intro e; injection e; omega) (.int .i64 a0)) (by simp only [Value.ownBlock]; intro e; injection e; omega) (.int .i64 o0))
            have g0 : ((((w3.setCell ⟨X, 0, none⟩ (.bool false)).setCell ⟨X, 1, none⟩ (.int .i64 s0)).setCell ⟨X, 2, none⟩ (.int .i64 a0)).setCell ⟨X, 3, none⟩ (.int .i64 o0)).cell? _ = _ := keep_set (keep_set (keep_set (keep_set (g0) (by simp only; omega)) (by simp only; omega)) (by simp only; omega)) (by simp only; omega)
            have g1 : ((((w3.setCell ⟨X, 0, none⟩ (.bool false)).setCell ⟨X, 1, none⟩ (.int .i64 s0)).setCell ⟨X, 2, none⟩ (.int .i64 a0)).setCell ⟨X, 3, none⟩ (.int .i64 o0)).cell? _ = _ := keep_set (keep_set (keep_set (keep_set (g1) (by simp only; omega)) (by simp only; omega)) (by simp only; omega)) (by simp only; omega)
            have g2 : ((((w3.setCell ⟨X, 0, none⟩ (.bool false)).setCell ⟨X, 1, none⟩ (.int .i64 s0)).setCell ⟨X, 2, none⟩ (.int .i64 a0)).setCell ⟨X, 3, none⟩ (.int .i64 o0)).cell? _ = _ := keep_set (keep_set (keep_set (keep_set (g2) (by simp only; omega)) (by simp only; omega)) (by simp only; omega)) (by simp only; omega)
            have g3 : ((((w3.setCell ⟨X, 0, none⟩ (.bool false)).setCell ⟨X, 1, none⟩ (.int .i64 s0)).setCell ⟨X, 2, none⟩ (.int .i64 a0)).setCell ⟨X, 3, none⟩ (.int .i64 o0)).cell? _ = _ := keep_set (keep_set (keep_set (keep_set (g3) (by simp only; omega)) (by simp only; omega)) (by simp only; omega)) (by simp only; omega)
            have g4 : ((((w3.setCell ⟨X, 0, none⟩ (.bool false)).setCell ⟨X, 1, none⟩ (.int .i64 s0)).setCell ⟨X, 2, none⟩ (.int .i64 a0)).setCell ⟨X, 3, none⟩ (.int .i64 o0)).cell? _ = _ := keep_set (keep_set (keep_set (keep_set (g4) (by simp only; omega)) (by simp only; omega)) (by simp only; omega)) (by simp only; omega)
            have g5 : ((((w3.setCell ⟨X, 0, none⟩ (.bool false)).setCell ⟨X, 1, none⟩ (.int .i64 s0)).setCell ⟨X, 2, none⟩ (.int .i64 a0)).setCell ⟨X, 3, none⟩ (.int .i64 o0)).cell? _ = _ := keep_set (keep_set (keep_set (keep_set (g5) (by simp only; omega)) (by simp only; omega)) (by simp only; omega)) (by simp only; omega)
            have gf5 : ((((w3.setCell ⟨X, 0, none⟩ (.bool false)).setCell ⟨X, 1, none⟩ (.int .i64 s0)).setCell ⟨X, 2, none⟩ (.int .i64 a0)).setCell ⟨X, 3, none⟩ (.int .i64 o0)).frozen? ⟨gg, q * 6 + 5, none⟩ = false := fz_set (fz_set (fz_set (fz_set gf5)))
            have gl4 : gg < ((((w3.setCell ⟨X, 0, none⟩ (.bool false)).setCell ⟨X, 1, none⟩ (.int .i64 s0)).setCell ⟨X, 2, none⟩ (.int .i64 a0)).setCell ⟨X, 3, none⟩ (.int .i64 o0)).heap.size := by simp [World.setCell]; exact gl3
            clear r3 k3 b3 hown3 gl3 cX0 cX1 cX2 cX3 cX4 cX5 fX0 fX1 fX2 fX3
            generalize ((((w3.setCell ⟨X, 0, none⟩ (.bool false)).setCell ⟨X, 1, none⟩ (.int .i64 s0)).setCell ⟨X, 2, none⟩ (.int .i64 a0)).setCell ⟨X, 3, none⟩ (.int .i64 o0)) = v4 at *
            refine (pick_fr _ _ _ _ _ _ _ _ r4 (by omega)).mono ?_
            rintro e w5 ⟨z, rfl, ⟨z0, z1, _⟩, o5, r5⟩
            have z1 := z1 (by omega)
            have b5 := b4.onl o5 (by omega)
            have hown5 := own_onl hown4 o5 hg
            have k5 := k4.trans (Onb.of_onl o5)
            have g0 := o5.at g0 (by simp only; omega)
            have g1 := o5.at g1 (by simp only; omega)
            have g2 := o5.at g2 (by simp only; omega)
            have g3 := o5.at g3 (by simp only; omega)
            have g4 := o5.at g4 (by simp only; omega)
            have g5 := o5.at g5 (by simp only; omega)
            have gf5 : w5.frozen? ⟨gg, q * 6 + 5, none⟩ = false := by rw [o5.frozen _ _ (by omega)]; exact gf5
            have gl5 : gg < w5.heap.size := by have := o5.size; omega
            clear b4 hown4 k4 r4 o5
            have lX := b5.lt
            have cX0 : w5.cell? ⟨X, 0, none⟩ = some (.bool false) := by rw [Blk.cell b5]; rfl
            have cX1 : w5.cell? ⟨X, 1, none⟩ = some (.int .i64 s0) := by rw [Blk.cell b5]; rfl
            have cX2 : w5.cell? ⟨X, 2, none⟩ = some (.int .i64 a0) := by rw [Blk.cell b5]; rfl
            have cX3 : w5.cell? ⟨X, 3, none⟩ = some (.int .i64 o0) := by rw [Blk.cell b5]; rfl
            have cX4 : w5.cell? ⟨X, 4, none⟩ = some (.int .i64 t) := by rw [Blk.cell b5]; rfl
            have cX5 : w5.cell? ⟨X, 5, none⟩ = some (.bool d) := by rw [Blk.cell b5]; rfl
            go_upto_region 11 with fail
            have hsl : (l.set q ⟨false, s0, a0, o0, t0, decide (0 < z)⟩).length = l.length := List.length_set
            have hown6 : (w5.setCell ⟨gg, q * 6 + 5, none⟩ (.bool (decide (0 < z)))).ownsRow w.heap.size 56 6 _ (l.set q ⟨false, s0, a0, o0, t0, decide (0 < z)⟩).length (flat csNt (l.set q ⟨false, s0, a0, o0, t0, decide (0 < z)⟩)) := own_stored csNt_len dNt hown5 q 5 hqn (by omega) ⟨false, s0, a0, o0, t0, decide (0 < z)⟩ _ (by rw [HY.out]; rfl)
            have k6 : Onb g w (w5.setCell ⟨gg, q * 6 + 5, none⟩ (.bool (decide (0 < z)))) := k5.set (by first | omega | (simp only; omega)) _
            have r6 : Rd (w5.setCell ⟨gg, q * 6 + 5, none⟩ (.bool (decide (0 < z)))) g B A len cap _ := r5.set (by have := r5.Bg; simp only; omega) (by simp only; omega) _
            have b6 : Blk (w5.setCell ⟨gg, q * 6 + 5, none⟩ (.bool (decide (0 < z)))) X #[.bool false, .int .i64 s0, .int .i64 a0, .int .i64 o0, .int .i64 t, .bool d] 56 := b5.off (by simp only; exact hXg) _
            clear hown5 k5 r5 b5 lX cX0 g0 cX1 g1 cX2 g2 cX3 g3 cX4 g4 cX5 g5
            generalize (w5.setCell ⟨gg, q * 6 + 5, none⟩ (.bool (decide (0 < z)))) = v6 at *
            have lX := b6.lt
            have cX0 : v6.cell? ⟨X, 0, none⟩ = some (.bool false) := by rw [Blk.cell b6]; rfl
            have cX1 : v6.cell? ⟨X, 1, none⟩ = some (.int .i64 s0) := by rw [Blk.cell b6]; rfl
            have cX2 : v6.cell? ⟨X, 2, none⟩ = some (.int .i64 a0) := by rw [Blk.cell b6]; rfl
            have cX3 : v6.cell? ⟨X, 3, none⟩ = some (.int .i64 o0) := by rw [Blk.cell b6]; rfl
            have cX4 : v6.cell? ⟨X, 4, none⟩ = some (.int .i64 t) := by rw [Blk.cell b6]; rfl
            have cX5 : v6.cell? ⟨X, 5, none⟩ = some (.bool d) := by rw [Blk.cell b6]; rfl
            go_wp2_with (at_builtin; go_must (refine wpList_append_lies _ rfl _ _ 41 rfl w.heap.size 56 i0 _ 6 48 Try.underlying41 hi0 hz0 hz1 hz2 rfl (by omega) _ (l.set q ⟨false, s0, a0, o0, t0, decide (0 < z)⟩).length (flat csNt (l.set q ⟨false, s0, a0, o0, t0, decide (0 < z)⟩)) rfl (hown6.alloc _) ⟨v6.heap.size, 0, none⟩ 1 1 [.bool false, .int .i64 s0, .int .i64 a0, .int .i64 o0, .int .i64 t, .bool d] rfl rfl (World.news_of_block (cs := #[.bool false, .int .i64 s0, .int .i64 a0, .int .i64 o0, .int .i64 t, .bool d]) (t := 56) (fr := (0, 0)) (heap_alloc_new v6 _)) (by simp [Value.oneCell']) (by omega) (by unfold maxLen; omega) (by omega) (by simp; omega) _ rfl ?_; intro gg9 cp9 w9 hown9 hgrow9 hat9 hlt9))
            have hr9 := (r6.alloc (.cells #[.bool false, .int .i64 s0, .int .i64 a0, .int .i64 o0, .int .i64 t, .bool d] 56)).grown hgrow9 (own_gt hown6 hg)
            have hk9 := (k6.alloc (.cells #[.bool false, .int .i64 s0, .int .i64 a0, .int .i64 o0, .int .i64 t, .bool d] 56)).grown hgrow9 (own_ge hown6)
            go_roundw
            case rel => exact ⟨(l.set q ⟨false, s0, a0, o0, t0, decide (0 < z)⟩) ++ [⟨false, s0, a0, o0, t, d⟩], k - 1, (p1 + 2), by simp; omega, by simp; omega, by go_num, (by have h9 := own_push (t := (⟨false, s0, a0, o0, t, d⟩ : Nt)) hown9 rfl; rw [hsl] at h9; exact h9), hk9, hr9⟩
            case measure => simp [intOf]; omega
          · have hx1 : (x == 0) = false := by simpa using hx
            clear hx
            have lX := b3.lt
            have cX0 : w3.cell? ⟨X, 0, none⟩ = some (.bool r) := by rw [Blk.cell b3]; rfl
            have cX1 : w3.cell? ⟨X, 1, none⟩ = some (.int .i64 s) := by rw [Blk.cell b3]; rfl
            have cX2 : w3.cell? ⟨X, 2, none⟩ = some (.int .i64 a) := by rw [Blk.cell b3]; rfl
            have cX3 : w3.cell? ⟨X, 3, none⟩ = some (.int .i64 o) := by rw [Blk.cell b3]; rfl
            have cX4 : w3.cell? ⟨X, 4, none⟩ = some (.int .i64 t) := by rw [Blk.cell b3]; rfl
            have cX5 : w3.cell? ⟨X, 5, none⟩ = some (.bool d) := by rw [Blk.cell b3]; rfl
            go_wp2_with (at_builtin; go_must (refine wpList_append_lies _ rfl _ _ 41 rfl w.heap.size 56 i0 _ 6 48 Try.underlying41 hi0 hz0 hz1 hz2 rfl (by omega) _ l.length (flat csNt l) rfl (hown3.alloc _) ⟨w3.heap.size, 0, none⟩ 1 1 [.bool r, .int .i64 s, .int .i64 a, .int .i64 o, .int .i64 t, .bool d] rfl rfl (World.news_of_block (cs := #[.bool r, .int .i64 s, .int .i64 a, .int .i64 o, .int .i64 t, .bool d]) (t := 56) (fr := (0, 0)) (heap_alloc_new w3 _)) (by simp [Value.oneCell']) (by omega) (by unfold maxLen; omega) (by omega) (by simp; omega) _ rfl ?_; intro gg9 cp9 w9 hown9 hgrow9 hat9 hlt9))
            have hr9 := (r3.alloc (.cells #[.bool r, .int .i64 s, .int .i64 a, .int .i64 o, .int .i64 t, .bool d] 56)).grown hgrow9 (own_gt hown3 hg)
            have hk9 := (k3.alloc (.cells #[.bool r, .int .i64 s, .int .i64 a, .int .i64 o, .int .i64 t, .bool d] 56)).grown hgrow9 (own_ge hown3)
            go_roundw
            case rel => exact ⟨l ++ [⟨r, s, a, o, t, d⟩], k - 1, (p1 + 1), by simp; omega, by simp; omega, by go_num, own_push (t := (⟨r, s, a, o, t, d⟩ : Nt)) hown9 rfl, hk9, hr9⟩
            case measure => simp [intOf]; omega
        · have cX0 : v2.cell? ⟨X, 0, none⟩ = some (.bool r) := by rw [Blk.cell b2]; rfl
          have cX1 : v2.cell? ⟨X, 1, none⟩ = some (.int .i64 s) := by rw [Blk.cell b2]; rfl
          have cX2 : v2.cell? ⟨X, 2, none⟩ = some (.int .i64 a) := by rw [Blk.cell b2]; rfl
          have cX3 : v2.cell? ⟨X, 3, none⟩ = some (.int .i64 o) := by rw [Blk.cell b2]; rfl
          have cX4 : v2.cell? ⟨X, 4, none⟩ = some (.int .i64 t) := by rw [Blk.cell b2]; rfl
          have cX5 : v2.cell? ⟨X, 5, none⟩ = some (.bool d) := by rw [Blk.cell b2]; rfl
          have lX := b2.lt
          go_wp2_with (at_builtin; go_must (refine wpList_append_lies _ rfl _ _ 41 rfl w.heap.size 56 i0 _ 6 48 Try.underlying41 hi0 hz0 hz1 hz2 rfl (by omega) _ l.length (flat csNt l) rfl (hown2.alloc _) ⟨v2.heap.size, 0, none⟩ 1 1 [.bool r, .int .i64 s, .int .i64 a, .int .i64 o, .int .i64 t, .bool d] rfl rfl (World.news_of_block (cs := #[.bool r, .int .i64 s, .int .i64 a, .int .i64 o, .int .i64 t, .bool d]) (t := 56) (fr := (0, 0)) (heap_alloc_new v2 _)) (by simp [Value.oneCell']) (by omega) (by unfold maxLen; omega) (by omega) (by simp; omega) _ rfl ?_; intro gg9 cp9 w9 hown9 hgrow9 hat9 hlt9))
          have hr9 := (r2.alloc (.cells #[.bool r, .int .i64 s, .int .i64 a, .int .i64 o, .int .i64 t, .bool d] 56)).grown hgrow9 (own_gt hown2 hg)
          have hk9 := (k2.alloc (.cells #[.bool r, .int .i64 s, .int .i64 a, .int .i64 o, .int .i64 t, .bool d] 56)).grown hgrow9 (own_ge hown2)
          go_roundw
          case rel => exact ⟨l ++ [⟨r, s, a, o, t, d⟩], k - 1, p1, by simp; omega, by simp; omega, by go_num, own_push (t := (⟨r, s, a, o, t, d⟩ : Nt)) hown9 rfl, hk9, hr9⟩
          case measure => simp [intOf]; omega
    · obtain rfl : k = 0 := by omega
      go_wp2_with fail
      refine (odd_any _ _ _ _ _ _ _ _ hr (by omega)).mono ?_
      rintro e w2 ⟨b, rfl, _, o2, p2, hp2, r2⟩
      have hown2 := own_onl hown o2 hg
      have k2 := hk.trans (Onb.of_onl o2)
      clear hown hk hr o2
      cases b
      · go_wp2
        go_ret
        exact ⟨_, l, rfl, by omega, hown2, k2, p2, by omega, r2⟩
      · go_wp2_with fail
        refine (pick_fr _ _ _ _ _ _ _ _ r2 (by omega)).mono ?_
        rintro e w3 ⟨y, rfl, ⟨y0, y1, _⟩, o3, r3⟩
        have y1 := y1 (by omega)
        have hown3 := own_onl hown2 o3 hg
        have k3 := k2.trans (Onb.of_onl o3)
        have hw3 := k3.size
        clear hown2 k2 r2 o3
        rcases (show y = 0 ∨ y = 1 ∨ y = 2 from by omega) with rfl | rfl | rfl
        · go_wp2_with fail
          refine (note_any _ _ _ _ _ _ _ _ r3 (by omega)).mono ?_
          rintro e w4 ⟨r, s, a, o, t, d, rfl, o4, p4, hp4, r4⟩
          have hown4 := own_onb hown3 o4 hg
          have k4 := k3.trans o4
          have hw4 := k4.size
          clear hown3 k3 r3 o4
          go_wp2_with (at_builtin; go_must (refine wpList_append_lies _ rfl _ _ 41 rfl w.heap.size 56 i0 _ 6 48 Try.underlying41 hi0 hz0 hz1 hz2 rfl (by omega) _ l.length (flat csNt l) rfl (hown4.alloc _) ⟨w4.heap.size, 0, none⟩ 1 1 [.bool r, .int .i64 s, .int .i64 a, .int .i64 o, .int .i64 t, .bool d] rfl rfl (World.news_of_block (cs := #[.bool r, .int .i64 s, .int .i64 a, .int .i64 o, .int .i64 t, .bool d]) (t := 56) (fr := (0, 0)) (heap_alloc_new w4 _)) (by simp [Value.oneCell']) (by omega) (by unfold maxLen; omega) (by omega) (by simp; omega) _ rfl ?_; intro gg9 cp9 w9 hown9 hgrow9 hat9 hlt9))
          have hr9 := (r4.alloc (.cells #[.bool r, .int .i64 s, .int .i64 a, .int .i64 o, .int .i64 t, .bool d] 56)).grown hgrow9 (own_gt hown4 hg)
          have hk9 := (k4.alloc (.cells #[.bool r, .int .i64 s, .int .i64 a, .int .i64 o, .int .i64 t, .bool d] 56)).grown hgrow9 (own_ge hown4)
          have hq := own_push (t := (⟨r, s, a, o, t, d⟩ : Nt)) hown9 rfl
          go_wp2
          go_ret
          exact ⟨_, l ++ [_], rfl, by simp; omega, hq, hk9, p4, by omega, hr9⟩
        · go_wp2_with (at_builtin; go_must (refine wpList_append_lies _ rfl _ _ 41 rfl w.heap.size 56 i0 _ 6 48 Try.underlying41 hi0 hz0 hz1 hz2 rfl (by omega) _ l.length (flat csNt l) rfl (hown3.alloc _) ⟨w3.heap.size, 0, none⟩ 1 1 [.bool false, .int .i64 0, .int .i64 0, .int .i64 0, .int .i64 12, .bool true] rfl rfl (World.news_of_block (cs := #[.bool false, .int .i64 0, .int .i64 0, .int .i64 0, .int .i64 12, .bool true]) (t := 56) (fr := (0, 0)) (heap_alloc_new w3 _)) (by simp [Value.oneCell']) (by omega) (by unfold maxLen; omega) (by omega) (by simp; omega) _ rfl ?_; intro gg9 cp9 w9 hown9 hgrow9 hat9 hlt9))
          have hr9 := (r3.alloc (.cells #[.bool false, .int .i64 0, .int .i64 0, .int .i64 0, .int .i64 12, .bool true] 56)).grown hgrow9 (own_gt hown3 hg)
          have hk9 := (k3.alloc (.cells #[.bool false, .int .i64 0, .int .i64 0, .int .i64 0, .int .i64 12, .bool true] 56)).grown hgrow9 (own_ge hown3)
          have hq := own_push (t := (⟨false, 0, 0, 0, 12, true⟩ : Nt)) hown9 rfl
          go_wp2
          go_ret
          exact ⟨_, l ++ [_], rfl, by simp; omega, hq, hk9, _, by omega, hr9⟩
        · go_wp2
          go_loopw [5] (fun o wr => ∃ l : List Nt, l.length ≤ 61 ∧ wr.ownsRow w.heap.size 56 6 o l.length (flat csNt l) ∧ Onb g w wr ∧ Rd wr g B A len cap (p2 + 1)) (fun o _ => 61 - lenV o)
          case atStart => exact ⟨l, by omega, hown3, k3, r3⟩
          case round =>
            obtain ⟨l, hl, hown, hk, hr⟩ := hrel
            have hwr := hk.size
            obtain ⟨A2, c2, rfl, lc2, cm2, op2⟩ := own_open csNt_len dNt hown
            clear op2
            by_cases h6 : l.length ≤ 60
            · have h61 : (l.length : Int) ≤ 60 := by omega
              go_wp2_with (at_builtin; go_must (refine wpList_append_lies _ rfl _ _ 41 rfl w.heap.size 56 i0 _ 6 48 Try.underlying41 hi0 hz0 hz1 hz2 rfl (by omega) _ l.length (flat csNt l) rfl (hown.alloc _) ⟨wr.heap.size, 0, none⟩ 1 1 [.bool true, .int .i64 0, .int .i64 0, .int .i64 0, .int .i64 12, .bool false] rfl rfl (World.news_of_block (cs := #[.bool true, .int .i64 0, .int .i64 0, .int .i64 0, .int .i64 12, .bool false]) (t := 56) (fr := (0, 0)) (heap_alloc_new wr _)) (by simp [Value.oneCell']) (by omega) (by unfold maxLen; omega) (by omega) (by simp; omega) _ rfl ?_; intro gg9 cp9 w9 hown9 hgrow9 hat9 hlt9))
              have hr9 := (hr.alloc (.cells #[.bool true, .int .i64 0, .int .i64 0, .int .i64 0, .int .i64 12, .bool false] 56)).grown hgrow9 (own_gt hown hg)
              have hk9 := (hk.alloc (.cells #[.bool true, .int .i64 0, .int .i64 0, .int .i64 0, .int .i64 12, .bool false] 56)).grown hgrow9 (own_ge hown)
              have hq := own_push (t := (⟨true, 0, 0, 0, 12, false⟩ : Nt)) hown9 rfl
              obtain ⟨A9, c9, hv9, lc9, cm9, op9⟩ := own_open csNt_len dNt hq
              clear op9
              go_roundw
              case rel => exact ⟨l ++ [_], by simp; omega, hq, hk9, hr9⟩
              case measure => rw [hv9]; simp [lenV]; omega
            · have h61 : ¬ (l.length : Int) ≤ 60 := by omega
              go_wp2
              go_ret
              exact ⟨_, l, rfl, by omega, hown, hk, _, by omega, hr⟩
end Go.Proofs.Ytaieamobjbckdaa
