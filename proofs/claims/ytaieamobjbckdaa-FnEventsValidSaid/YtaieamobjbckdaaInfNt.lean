/- What the program says of the type of notes. -/
import Derived.Test.YtaieamobjbckdaaRowNt
namespace Go.Proofs.Ytaieamobjbckdaa
set_option linter.unusedSimpArgs false
set_option linter.unusedVariables false
open Go.RowKit
theorem infoNt : (Try.prog.info? 56).map (fun i => (i.zero, i.size, i.bytes)) = some (some (.agg #[.bool false, .int .i64 0, .int .i64 0, .int .i64 0, .int .i64 0, .bool false]), 6, 48) := by kernel_rfl
end Go.Proofs.Ytaieamobjbckdaa
