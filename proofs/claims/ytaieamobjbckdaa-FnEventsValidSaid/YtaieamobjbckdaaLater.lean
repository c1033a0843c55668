/- Regions that draw their order and hold calls that only make memory: one walk in the order of the text, in whatever later world. -/
import Derived.Test.YtaieamobjbckdaaBel
namespace Go.Proofs.Ytaieamobjbckdaa
set_option linter.unusedSimpArgs false
set_option linter.unusedVariables false
open Go.RowKit

/-- a world in which all that lay in w is as it was -/
structure Later (w : World) where
  world : World
  bel : Below w.heap.size w world

instance (w : World) : Nonempty (Later w) := ⟨⟨w, bel_refl w⟩⟩
theorem region_later {P : Program} {id : Nat} {Q : Exit → Act → World → Prop} {a : Act} {w0 w : World} {l : List Oper} (hm : P.follows .mixedOrders = true) (hB : Region.lexB .any l.toArray = true)
    (hb : Below w0.heap.size w0 w)
    (h : wpQuiet P l.toArray (fun W => ∃ x : Later w0, W = x.world) (fun a' => ∀ w' : World, (∃ x : Later w0, w' = x.world) → Q .normal a' w') l a) : (Code.region id l.toArray true).wp P Q a w :=
  wp_region_quiet (C := fun W => ∃ x : Later w0, W = x.world) hm hB ⟨⟨_, bel_dr hb⟩, rfl⟩ (by simpa using h)
theorem later_call {P : Program} {f : FuncId} {args : Array Value} {w0 : World} {x : Later w0} {v : Value}
    (h : Calls P f args x.world fun e w' => e = .returned v ∧ Below x.world.heap.size x.world w') : Calls P f args x.world fun e w'' => e = .returned v ∧ ∃ y : Later w0, w'' = y.world :=
  h.mono fun _ w' ⟨he, hb⟩ => ⟨he, ⟨w', bel_tr x.bel hb⟩, rfl⟩
theorem later_same {P : Program} {f : FuncId} {args : Array Value} {w0 : World} {x : Later w0} {v : Value}
    (h : Calls P f args x.world fun e w' => e = .returned v ∧ x.world = w') : Calls P f args x.world fun e w'' => e = .returned v ∧ ∃ y : Later w0, w'' = y.world :=
  h.mono fun _ _ ⟨he, hb⟩ => ⟨he, x, hb.symm⟩
theorem later_drew {P : Program} {f : FuncId} {args : Array Value} {w0 : World} {x : Later w0} {v : Value}
    (h : Calls P f args x.world fun e w' => e = .returned v ∧ ∃ n, w' = x.world.drewN n) : Calls P f args x.world fun e w'' => e = .returned v ∧ ∃ y : Later w0, w'' = y.world :=
  h.mono fun _ w' ⟨he, n, hb⟩ => ⟨he, ⟨w', bel_tr x.bel (by rw [hb]; exact bel_drN (bel_refl _) n)⟩, rfl⟩
theorem Later.cel {w0 : World} (x : Later w0) {b : Nat} (h : b < w0.heap.size) (o : Nat) : x.world.cell? ⟨b, o, none⟩ = w0.cell? ⟨b, o, none⟩ := x.bel.cell (p := ⟨b, o, none⟩) h
theorem Later.at {w0 : World} (x : Later w0) {a : Addr} {v : Value} (h : w0.cell? a = some v) : x.world.cell? a = some v := keep_tr h x.bel
end Go.Proofs.Ytaieamobjbckdaa
