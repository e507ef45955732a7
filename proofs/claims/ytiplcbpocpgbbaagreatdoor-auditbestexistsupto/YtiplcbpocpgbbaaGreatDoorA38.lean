/- AuditBestExists: the row's statement. Conditions: the statement's own. -/
import Derived.Test.YtiplcbpocpgbbaaGreatDoorA33
import Derived.Test.YtiplcbpocpgbbaaGreatDoorA34
import Derived.Test.YtiplcbpocpgbbaaGreatDoorA35
import Derived.Test.YtiplcbpocpgbbaaGreatDoorA36
import Derived.Test.YtiplcbpocpgbbaaGreatDoorA37
set_option linter.unusedSimpArgs false
set_option linter.unusedVariables false
set_option maxRecDepth 100000
namespace Go.Proofs.YtiplcbpocpgbbaaGreatDoor
open Go.ChangeShapes Go.WideShapes Go.ChangeAt Go.RowKit Go.Zk
theorem facts : joinedFacts Tryz.pinned.checked.prog 4 Tryz.f4 (Rows.OpenSpec.upto Rows.auditBestExistsSpec).bare Rows.auditBestExistsUptoRow = true := by
  unfold joinedFacts
  rw [row_inPlace, row_unfollowed, row_recurses, row_named]
  kernel_rfl
theorem saidUpto : Rows.AuditBestExistsUptoSaid :=
  OpenClaim.holds_of_cond 4 Tryz.f4 rfl rfl rfl rfl rfl rfl rfl ⟨rfl, rfl, rfl, rfl, rfl⟩ rfl rfl rfl rfl rfl (by kernel_rfl) Tryz.func4 facts
    (of_decide_eq_true (by kernel_rfl)) (by unfold Func.isWrapper; first | (rw [if_pos (by decide +kernel)]; kernel_rfl) | (rw [if_neg (by decide +kernel)]; exact ⟨rfl, rfl⟩))
    (fun os started H enc _ F => by rw [OpenClaim.pre_eq_preRow]; exact liftedUpto os started H enc F)
end Go.Proofs.YtiplcbpocpgbbaaGreatDoor
