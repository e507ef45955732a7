/- A closed fact of the row: unfollowed. Conditions: none. -/
import Derived.JoinedOf
import Derived.Test.YtiplcbpocpgbbaaGreatDoorRows
set_option maxRecDepth 100000
namespace Go.Proofs.YtiplcbpocpgbbaaGreatDoor
theorem row_unfollowed : (Rows.auditBestExistsUptoRow.unfollowed == Tryz.pinned.checked.prog.unfollowed 4) = true := by kernel_rfl
end Go.Proofs.YtiplcbpocpgbbaaGreatDoor
