/- Canons recognized by the program. -/
import Derived.Test.YtiapfpjggginoaaIcC
import Derived.Test.YtiapfpjggginoaaAh
import Derived.Deep.RegionHeld3
import Derived.Deep.DeepCutAuto
namespace Go.Proofs.Ytiapfpjggginoaa
set_option linter.unusedSimpArgs false
set_option linter.unusedVariables false
open Go.RowKit

theorem rowAt {w w' : World} {B : Nat} {A : Option Addr} {l : List Nt} (h : RowNt w B A l) (hb : Below B w w') (hs : B ≤ w'.heap.size) : RowNt w' w'.heap.size A l := h.keep hs fun b o hh => hb.cell (p := ⟨b, o, none⟩) hh
end Go.Proofs.Ytiapfpjggginoaa
