/- A closed fact of the row: inPlace. Conditions: none. -/
import Derived.JoinedOf
import Derived.Test.YtiplcbpocpgbbaaGreatDoorRows
set_option maxRecDepth 100000
namespace Go.Proofs.YtiplcbpocpgbbaaGreatDoor
theorem row_inPlace : (Rows.auditBestExistsUptoRow.inPlace == Tryz.pinned.checked.prog.inPlace 4) = true := by kernel_rfl
end Go.Proofs.YtiplcbpocpgbbaaGreatDoor
