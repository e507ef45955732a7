/- AuditBestExists: an input that fits, shaped. Conditions: none. -/
import Derived.Deep.DeepWitnessRowRef
import Derived.Test.YtiplcbpocpgbbaaGreatDoorA27
set_option linter.unusedSimpArgs false
set_option linter.unusedVariables false
set_option maxRecDepth 100000
namespace Go.Zk
open Go.Proofs Go.ChangeShapes Go.RowKit
theorem wit_vars (os : Os) : ((wit os).forCall (fun _ _ => 0) ⟨#[], args0, []⟩).variablesRefB Tryz.prog = true := by kernel_rfl
end Go.Zk
