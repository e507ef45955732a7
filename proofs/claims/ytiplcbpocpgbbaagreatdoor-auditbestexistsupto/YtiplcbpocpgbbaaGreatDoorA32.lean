/- AuditBestExists: an input that fits, started. Conditions: none. -/
import Derived.Deep.DeepWitnessRowRef
import Derived.Test.YtiplcbpocpgbbaaGreatDoorA27
set_option linter.unusedSimpArgs false
set_option linter.unusedVariables false
set_option maxRecDepth 100000
namespace Go.Zk
open Go.Proofs Go.ChangeShapes Go.RowKit
theorem wit_rest (os : Os) : (((wit os).forCall (fun _ _ => 0) ⟨#[], args0, []⟩).heap.toList.drop Tryz.prog.globals.size).take ((begin Tryz.prog (fun _ _ => 0) default).world.heap.size - Tryz.prog.globals.size) =
      (begin Tryz.prog (fun _ _ => 0) default).world.heap.toList.drop Tryz.prog.globals.size := by kernel_rfl
theorem wit_ok (os : Os) : Input.okWideB Tryz.prog ((wit os).forCall (fun _ _ => 0) ⟨#[], args0, []⟩) 4 ⟨#[], args0, []⟩ = true := by kernel_rfl
end Go.Zk
