/- The law's own test that the program runs at all, and what the laws over bytes ask of their argument. -/
import Derived.Test.YtaieamobjbckdaaRd
import Derived.Test.YtaieamobjbckdaaWin
namespace Go.Proofs.Ytaieamobjbckdaa
set_option linter.unusedSimpArgs false
set_option linter.unusedVariables false
open Go.RowKit

theorem ix5 : ∀ w : World, (Instr.index 59 (.agg #[.int .i64 0, .int .i64 2, .int .i64 4, .int .i64 5, .int .i64 7, .int .i64 9, .int .i64 11]) (.int .i64 5)).run Try.prog w = .ok (.int .i64 9) w := fun _ => by kernel_rfl
set_option maxHeartbeats 400000 in
theorem steps5 (w : World) : Calls Try.prog 19 #[.int .i64 5] w fun e w' => e = .returned (.int .i64 9) ∧ w = w' := by
  have h := ix5
  go_enter Try.func19, Try.ntmps19
  go_wp2
  go_ret
  exact ⟨rfl, rfl⟩
theorem quiet_lf {P : Program} {f : FuncId} {args : Array Value} {w : World} {n : Nat} {v : Value}
    (h : Calls P f args (w.drewN n) fun e w' => e = .returned v ∧ w.drewN n = w') : Calls P f args (w.drewN n) fun e w'' => e = .returned v ∧ ∃ m, w'' = w.drewN m :=
  h.mono fun _ _ ⟨he, hm⟩ => ⟨he, n, hm.symm⟩
set_option maxHeartbeats 400000 in
theorem key57 (w : World) : Calls Try.prog 12 #[.agg #[.int .i64 5, .int .i64 0, .int .i64 4]] w fun e w' => e = .returned (.int .i64 57) ∧ Below w.heap.size w w' := by
  go_enter Try.func12, Try.ntmps12
  go_wp2
  go_big_quiet ((go_at_call 19; exact quiet_lf (steps5 _)))
  go_wp2
  go_ret
  exact ⟨rfl, by repeat (first | (with_reducible assumption) | (exact bel_undr (by with_reducible assumption)) | (with_reducible exact bel_refl _) | (with_reducible refine bel_dr ?_) | (with_reducible refine bel_drN ?_ _) | (with_reducible refine bel_al ?_ _) | (refine bel_set ?_ (by first | (simp; done) | (simp; exact Below.size (by assumption)) | (simp; omega)) _) | (with_reducible refine bel_tr ?_ (by assumption)))⟩
set_option maxHeartbeats 400000 in
theorem alive_any (w : World) : Calls Try.prog 7 #[] w fun e w' => e = .returned (.bool true) ∧ Below w.heap.size w w' := by
  go_enter Try.func7, Try.ntmps7
  go_wp2_with (go_at_call 12; refine (key57 _).mono ?_; rintro e w1 ⟨rfl, hb1⟩)
  go_ret
  exact ⟨rfl, by repeat (first | (with_reducible assumption) | (exact bel_undr (by with_reducible assumption)) | (with_reducible exact bel_refl _) | (with_reducible refine bel_dr ?_) | (with_reducible refine bel_drN ?_ _) | (with_reducible refine bel_al ?_ _) | (refine bel_set ?_ (by first | (simp; done) | (simp; exact Below.size (by assumption)) | (simp; omega)) _) | (with_reducible refine bel_tr ?_ (by assumption)))⟩

/-- the bytes of a law's argument -/
structure Cod (w : World) (A : Option Addr) (len cap : Nat) : Prop where
  lc : len ≤ cap
  cm : cap ≤ 9223372036854775807
  bt : 0 < len → ∃ b off zs, A = some ⟨b, off, none⟩ ∧ b < w.heap.size ∧ Bts w b off len zs
theorem Cod.rd {w w' : World} {A : Option Addr} {len cap : Nat} (h : Cod w A len cap) (hb : Below w.heap.size w w') : Rd (w'.alloc (.cells #[.slice A (min len 2000) cap, .int .i64 0] 46)) w'.heap.size w.heap.size A (min len 2000) cap 0 :=
  open_ok w' A len cap w.heap.size hb.size fun hl => by
    obtain ⟨b, off, zs, e, h1, h2⟩ := h.bt hl
    exact ⟨b, off, zs, e, h1, h2.keep fun i _ => hb.cell (p := ⟨b, _, none⟩) h1⟩
end Go.Proofs.Ytaieamobjbckdaa
