/- The contracts of the functions of ratios that return ratios, of the program and of the reference. -/
import Derived.Test.YtclbgndpdbfedaaRv
import Derived.Laws.ResultCell
namespace Go.Proofs.Ytclbgndpdbfedaa
open Go.RowKit

theorem bel_refl (w : World) : Below w.heap.size w w := Below.refl _ _
theorem bel_al {W w : World} (h : Below W.heap.size W w) (o : Obj) : Below W.heap.size W (w.alloc o) := h.alloc h.size o
theorem bel_dr {W w : World} (h : Below W.heap.size W w) : Below W.heap.size W w.drew := h.drew
theorem bel_drN {W w : World} (h : Below W.heap.size W w) (n : Nat) : Below W.heap.size W (w.drewN n) := ⟨h.os, h.tape, h.output, h.size, h.block⟩
theorem bel_tr {W w w' : World} (h : Below W.heap.size W w) (k : Below w.heap.size w w') : Below W.heap.size W w' := h.trans (k.mono h.size)
theorem bel_set {W w : World} (h : Below W.heap.size W w) {p : Addr} (hp : W.heap.size ≤ p.block) (u : Value) : Below W.heap.size W (w.setCell p u) := h.setCell hp u

theorem keep_al {w : World} {a : Addr} {v : Value} (h : w.cell? a = some v) (o : Obj) : (w.alloc o).cell? a = some v := by rw [World.cell?_alloc_lt _ _ _ (World.block_lt_of_cell? w a h)]; exact h
theorem keep_dr {w : World} {a : Addr} {v : Value} (h : w.cell? a = some v) : w.drew.cell? a = some v := h
theorem keep_undr {w : World} {a : Addr} {v : Value} (h : w.drew.cell? a = some v) : w.cell? a = some v := h
theorem bel_undr {W w : World} (h : Below W.heap.size W w.drew) : Below W.heap.size W w := ⟨h.os, h.tape, h.output, h.size, h.block⟩
theorem keep_drN {w : World} {a : Addr} {v : Value} (h : w.cell? a = some v) (n : Nat) : (w.drewN n).cell? a = some v := h
theorem keep_tr {w w1 : World} {a : Addr} {v : Value} (h : w.cell? a = some v) (hb : Below w.heap.size w w1) : w1.cell? a = some v := cell_later hb h
theorem keep_set {w : World} {a p : Addr} {v u : Value} (h : w.cell? a = some v) (hne : a.block ≠ p.block) : (w.setCell p u).cell? a = some v := by
  rw [World.cell?_setCell_other]; exact h
  intro e; exact hne (by rw [e])
theorem set_same {w : World} {p : Addr} {u : Value} (h : (w.cell? p).isSome = true) : (w.setCell p u).cell? p = some u := by
  obtain ⟨v, hv⟩ := Option.isSome_iff_exists.1 h
  exact World.cell?_setCell_same _ _ _ hv
theorem some_tr {w w1 : World} {a : Addr} (h : (w.cell? a).isSome = true) (hb : Below w.heap.size w w1) : (w1.cell? a).isSome = true := by
  obtain ⟨v, hv⟩ := Option.isSome_iff_exists.1 h
  rw [keep_tr hv hb]; rfl
theorem some_al {w : World} {a : Addr} (h : (w.cell? a).isSome = true) (o : Obj) : ((w.alloc o).cell? a).isSome = true := by
  obtain ⟨v, hv⟩ := Option.isSome_iff_exists.1 h
  rw [keep_al hv]; rfl
theorem some_dr {w : World} {a : Addr} (h : (w.cell? a).isSome = true) : (w.drew.cell? a).isSome = true := h
theorem some_set {w : World} {a p : Addr} {u : Value} (h : (w.cell? a).isSome = true) (hne : a ≠ p) : ((w.setCell p u).cell? a).isSome = true := by
  rw [World.cell?_setCell_other _ _ _ _ (Ne.symm hne)]; exact h
theorem keep_off {w : World} {a p : Addr} {v u : Value} (h : w.cell? a = some v) (hne : a ≠ p) : (w.setCell p u).cell? a = some v := by
  rw [World.cell?_setCell_other _ _ _ _ (Ne.symm hne)]; exact h
theorem cel {B : Nat} {w w1 : World} (hb : Below B w w1) (g : Nat) (h : g < B) : (∀ o, w1.cell? ⟨g, o, none⟩ = w.cell? ⟨g, o, none⟩) ∧ (∀ o, w1.frozen? ⟨g, o, none⟩ = w.frozen? ⟨g, o, none⟩) :=
  ⟨fun o => hb.cell (p := ⟨g, o, none⟩) h, fun o => hb.frozen (p := ⟨g, o, none⟩) h⟩
theorem bfacts {W w1 : World} (hb : Below W.heap.size W w1) : (∀ b o, b < W.heap.size → w1.cell? ⟨b, o, none⟩ = W.cell? ⟨b, o, none⟩) ∧ (∀ b o, b < W.heap.size → w1.frozen? ⟨b, o, none⟩ = W.frozen? ⟨b, o, none⟩) ∧
    (∀ x, x < W.heap.size → x < w1.heap.size) ∧ (∀ x, x < W.heap.size → x ≤ w1.heap.size) ∧ (∀ x k, x < W.heap.size → x < w1.heap.size + k) :=
  ⟨fun b o h => hb.cell (p := ⟨b, o, none⟩) h, fun b o h => hb.frozen (p := ⟨b, o, none⟩) h, fun x h => Nat.lt_of_lt_of_le h hb.size, fun x h => Nat.le_of_lt (Nat.lt_of_lt_of_le h hb.size), fun x k h => by have := hb.size; omega⟩

def backN (n d : Int) : Int := if rvB n d then d else 0
def backD (n d : Int) : Int := if rvB n d then n else 0

set_option maxHeartbeats 400000 in
theorem toRatio_any (n d : Int) (w : World) :
    Calls Try.prog 17 #[.agg #[.int .i64 n, .int .i64 d]] w fun e w' => e = .returned (.agg #[.int .i64 n, .int .i64 d]) ∧ Below w.heap.size w w' := by
  go_enter Try.func17, Try.ntmps17
  go_wp2
  exact bodyPost_ret (v := .agg #[.int .i64 n, .int .i64 d]) (by simp [results, Try.results17, go_sem]) rfl ⟨rfl, by repeat (first | exact bel_refl _ | refine bel_al ?_ _ | refine bel_dr ?_ | refine bel_drN ?_ _ | refine bel_tr ?_ (by assumption) | (refine bel_set ?_ (by simp) _))⟩

set_option maxHeartbeats 400000 in
theorem toRatio_eq (n d : Int) (w : World) :
    Calls Try.prog 17 #[.agg #[.int .i64 n, .int .i64 d]] w fun e w' => e = .returned (.agg #[.int .i64 n, .int .i64 d]) ∧ (((w.alloc (.cells #[.int .i64 n, .int .i64 d] 23)).alloc (.cells #[.int .i64 n, .int .i64 d] 25)).alloc (.cells #[.int .i64 n, .int .i64 d] 25)) = w' := by
  go_enter Try.func17, Try.ntmps17
  go_wp2
  exact bodyPost_ret (v := .agg #[.int .i64 n, .int .i64 d]) (by simp [results, Try.results17, go_sem]) rfl ⟨rfl, rfl⟩

set_option maxHeartbeats 400000 in
theorem back_any (n d : Int) (w : World) :
    Calls Try.prog 22 #[.agg #[.int .i64 n, .int .i64 d]] w fun e w' => e = .returned (.agg #[.int .i64 (backN n d), .int .i64 (backD n d)]) ∧ Below w.heap.size w w' := by
  cases hv : rvB n d
  · have e1 : backN n d = 0 := by simp [backN, hv]
    have e2 : backD n d = 0 := by simp [backD, hv]
    rw [e1, e2]
    clear e1 e2
    go_enter Try.func22, Try.ntmps22
    go_wp2_with (go_at_call 18; refine (rv_any _ _ _).mono ?_; rintro e w1 ⟨rfl, hb1⟩; obtain ⟨hc1, hf1⟩ := bcell hb1; have hz1 := hb1.size)
    refine bodyPost_ret (v := .agg #[.int .i64 0, .int .i64 0]) (by simp [results, Try.results22, go_sem, hc1]) rfl ⟨rfl, ?_⟩
    repeat (first | exact bel_refl _ | refine bel_al ?_ _ | refine bel_dr ?_ | refine bel_drN ?_ _ | refine bel_tr ?_ (by assumption) | (refine bel_set ?_ (by simp) _))
  · have e1 : backN n d = d := by simp [backN, hv]
    have e2 : backD n d = n := by simp [backD, hv]
    rw [e1, e2]
    clear e1 e2
    go_enter Try.func22, Try.ntmps22
    go_wp2_with (go_at_call 18; refine (rv_any _ _ _).mono ?_; rintro e w1 ⟨rfl, hb1⟩; obtain ⟨hc1, hf1⟩ := bcell hb1; have hz1 := hb1.size)
    refine bodyPost_ret (v := .agg #[.int .i64 d, .int .i64 n]) (by simp [results, Try.results22, go_sem, hc1]) rfl ⟨rfl, ?_⟩
    repeat (first | exact bel_refl _ | refine bel_al ?_ _ | refine bel_dr ?_ | refine bel_drN ?_ _ | refine bel_tr ?_ (by assumption) | (refine bel_set ?_ (by simp) _))

set_option maxHeartbeats 400000 in
theorem sback_any (n d : Int) (w : World) :
    Calls Try.prog 21 #[.agg #[.int .i64 n, .int .i64 d]] w fun e w' => e = .returned (.agg #[.int .i64 (backN n d), .int .i64 (backD n d)]) ∧ Below w.heap.size w w' := by
  cases hv : rvB n d
  · have e1 : backN n d = 0 := by simp [backN, hv]
    have e2 : backD n d = 0 := by simp [backD, hv]
    rw [e1, e2]
    clear e1 e2
    go_enter Try.func21, Try.ntmps21
    go_wp2_with (go_at_call 16; refine (srv_any _ _ _).mono ?_; rintro e w1 ⟨rfl, hb1⟩; obtain ⟨hc1, hf1⟩ := bcell hb1; have hz1 := hb1.size)
    refine bodyPost_ret (v := .agg #[.int .i64 0, .int .i64 0]) (by simp [results, Try.results21, go_sem, hc1]) rfl ⟨rfl, ?_⟩
    repeat (first | exact bel_refl _ | refine bel_al ?_ _ | refine bel_dr ?_ | refine bel_drN ?_ _ | refine bel_tr ?_ (by assumption) | (refine bel_set ?_ (by simp) _))
  · have e1 : backN n d = d := by simp [backN, hv]
    have e2 : backD n d = n := by simp [backD, hv]
    rw [e1, e2]
    clear e1 e2
    go_enter Try.func21, Try.ntmps21
    go_wp2_with (go_at_call 16; refine (srv_any _ _ _).mono ?_; rintro e w1 ⟨rfl, hb1⟩; obtain ⟨hc1, hf1⟩ := bcell hb1; have hz1 := hb1.size)
    refine bodyPost_ret (v := .agg #[.int .i64 d, .int .i64 n]) (by simp [results, Try.results21, go_sem, hc1]) rfl ⟨rfl, ?_⟩
    repeat (first | exact bel_refl _ | refine bel_al ?_ _ | refine bel_dr ?_ | refine bel_drN ?_ _ | refine bel_tr ?_ (by assumption) | (refine bel_set ?_ (by simp) _))

end Go.Proofs.Ytclbgndpdbfedaa
