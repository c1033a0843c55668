/- What may follow a tone, and how many ends there are behind it: the program's table. -/
import Derived.Test.YtdmidimjbhkjoaaKt
import Derived.Test.YtdmidimjbhkjoaaTab
import Derived.Deep.DeepCutAuto
namespace Go.Proofs.Ytdmidimjbhkjoaa
set_option linter.unusedSimpArgs false
set_option linter.unusedVariables false
open Go.RowKit

end Go.Proofs.Ytdmidimjbhkjoaa
