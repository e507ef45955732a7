/- A closed fact of the row: recurses. Conditions: none. -/
import Derived.JoinedOf
import Derived.Test.YtiplcbpocpgbbaaGreatDoorRows
set_option maxRecDepth 100000
namespace Go.Proofs.YtiplcbpocpgbbaaGreatDoor
theorem row_recurses : (Rows.auditBestExistsUptoRow.recurses == Tryz.pinned.checked.prog.recurses 4) = true := by kernel_rfl
end Go.Proofs.YtiplcbpocpgbbaaGreatDoor
