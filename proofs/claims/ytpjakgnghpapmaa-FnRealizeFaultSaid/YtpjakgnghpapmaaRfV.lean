/- RealizeFault in value form. -/
import Derived.Test.YtpjakgnghpapmaaRf
import Derived.Test.YtpjakgnghpapmaaSRf
namespace Go.Proofs.Ytpjakgnghpapmaa
set_option linter.unusedSimpArgs false
set_option linter.unusedVariables false
open Go.RowKit
theorem rf_val {f : Int} {bs : List Pi} {gs : List Int} {ll : List (List Pi)} {v : Int} (hv : rfI f bs gs ll = v) (A1 A2 A3 : Option Addr) (n1 n2 n3 c1 c2 c3 : Nat) (w : World) (hn1 : bs.length = n1) (hn2 : gs.length = n2) (hn3 : ll.length = n3) (hm1 : n1 ≤ 2000000) (hm2 : n2 ≤ 2000000) (hm3 : n3 ≤ 2000000) (h1 : RowPi w w.heap.size A1 bs) (h2 : RowIn w w.heap.size A2 gs) (h3 : RowPP w w.heap.size A3 ll) (hbg : ∀ i, i < ll.length → (atPP ll i).length ≤ 2000000) :
    Calls Try.prog 27 #[.int .i64 f, .slice A1 n1 c1, .slice A2 n2 c2, .slice A3 n3 c3] w fun e w' => e = .returned (.int .i64 v) ∧ Below w.heap.size w w' := by
  subst hv; exact rf_any f A1 A2 A3 n1 n2 n3 c1 c2 c3 bs gs ll w hn1 hn2 hn3 hm1 hm2 hm3 h1 h2 h3 hbg
theorem srf_val {f : Int} {bs : List Pi} {gs : List Int} {ll : List (List Pi)} {v : Int} (hv : rfI f bs gs ll = v) (A1 A2 A3 : Option Addr) (n1 n2 n3 c1 c2 c3 : Nat) (w : World) (hn1 : bs.length = n1) (hn2 : gs.length = n2) (hn3 : ll.length = n3) (hm1 : n1 ≤ 2000000) (hm2 : n2 ≤ 2000000) (hm3 : n3 ≤ 2000000) (h1 : RowPi w w.heap.size A1 bs) (h2 : RowIn w w.heap.size A2 gs) (h3 : RowPP w w.heap.size A3 ll) (hbg : ∀ i, i < ll.length → (atPP ll i).length ≤ 2000000) :
    Calls Try.prog 24 #[.int .i64 f, .slice A1 n1 c1, .slice A2 n2 c2, .slice A3 n3 c3] w fun e w' => e = .returned (.int .i64 v) ∧ Below w.heap.size w w' := by
  subst hv; exact srf_any f A1 A2 A3 n1 n2 n3 c1 c2 c3 bs gs ll w hn1 hn2 hn3 hm1 hm2 hm3 h1 h2 h3 hbg
end Go.Proofs.Ytpjakgnghpapmaa
