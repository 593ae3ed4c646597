/- Two closed facts on the program. -/
import Derived.Test.YtmkbigaofhionaaRows
import Derived.Test.YtmkbigaofhionaaChecked
import Derived.ProofKit
namespace Go.Proofs.Ytmkbigaofhionaa
open Go.ChangeShapes Go.WideShapes Go.ChangeAt Go.RowKit
theorem own : ownKnob Try.prog.godebug = none := by kernel_rfl
theorem laidOut : laidOutB Try.prog = true := by kernel_rfl
end Go.Proofs.Ytmkbigaofhionaa
