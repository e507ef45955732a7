/- AuditBestExists: an input that fits, its functions. Conditions: none. -/
import Derived.Carry
import Derived.Deep.DeepLaidRun
import Derived.Test.YtiplcbpocpgbbaaGreatDoorA27
set_option linter.unusedSimpArgs false
set_option linter.unusedVariables false
set_option maxRecDepth 100000
namespace Go.Zk
open Go.Proofs Go.ChangeShapes Go.RowKit
theorem met_4 (os : Os) : (lst.filter fun x => x.2.handleName?.isSome && x.2.funcsIn?.isNone).all (handleAtB Tryz.prog (memW os)) = true := by kernel_rfl
theorem met_5 (os : Os) : funcsRun Tryz.prog (memW os) 8 ((funcsListed lst).map (·.1)) = some ((funcsListed lst).map (·.2.funcsOut)) := by kernel_rfl
end Go.Zk
