/- A closed fact of the row: named. Conditions: none. -/
import Derived.JoinedOf
import Derived.Test.YtiplcbpocpgbbaaGreatDoorRows
set_option maxRecDepth 100000
namespace Go.Proofs.YtiplcbpocpgbbaaGreatDoor
theorem row_named : (Rows.auditBestExistsUptoRow.named == Tryz.pinned.checked.prog.varsNamed 4) = true := by kernel_rfl
end Go.Proofs.YtiplcbpocpgbbaaGreatDoor
