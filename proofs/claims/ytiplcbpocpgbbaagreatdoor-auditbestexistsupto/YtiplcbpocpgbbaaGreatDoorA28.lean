/- AuditBestExists: an input that fits, its places apart. Conditions: none. -/
import Derived.Deep.DeepLaidRun
import Derived.Test.YtiplcbpocpgbbaaGreatDoorA27
set_option linter.unusedSimpArgs false
set_option linter.unusedVariables false
set_option maxRecDepth 100000
namespace Go.Zk
open Go.Proofs Go.ChangeShapes Go.RowKit
theorem met_2 (os : Os) : (DataW.laidRun Tryz.prog (memW os) 8 (lstD.map (·.1))).map (fun x => nodupB (x.2.map MemPlace.codeOf)) = some true := by kernel_rfl
end Go.Zk
