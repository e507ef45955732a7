/- AuditBestExists proved: the statement where what it reads is of bulk at most 1048576, and its card. Conditions: the statement's own. -/
import Derived.Deep.DeepHandedRow
import Derived.OpenShut
import Derived.Test.YtiplcbpocpgbbaaGreatDoorA28
import Derived.Test.YtiplcbpocpgbbaaGreatDoorA29
import Derived.Test.YtiplcbpocpgbbaaGreatDoorA30
import Derived.Test.YtiplcbpocpgbbaaGreatDoorA31
import Derived.Test.YtiplcbpocpgbbaaGreatDoorA32
import Derived.Test.YtiplcbpocpgbbaaGreatDoorCards
import Derived.Test.YtiplcbpocpgbbaaGreatDoorTie
set_option linter.unusedSimpArgs false
set_option linter.unusedVariables false
set_option maxRecDepth 100000
namespace Go.Proofs.YtiplcbpocpgbbaaGreatDoor
open Go.ChangeShapes Go.WideShapes Go.ChangeAt Go.RowKit Go.Zk
theorem own : ownKnob Tryz.prog.godebug = none := by kernel_rfl
theorem wit_met (os : Os) : laidMetH Tryz.prog lst (memW os) :=
  laidMetH_of_parts3 (fuel := 8) (laidMet_of_run3 8 (met_1 os) (met_2 os) (met_3 os)) (met_4 os) (met_5 os)
theorem liftedUpto (os : Os) (started : os.Started) (H : Type) (enc : TypeId × Value → H) (F : Stop.Interp) :
    ReturnsInHanded {} Tryz.checked os 4 .any ((Rows.OpenSpec.upto Rows.auditBestExistsSpec).preRow enc Tryz.prog Tryz.f4 Rows.auditBestExistsUptoRow.domain false Rows.auditBestExistsUptoRow.laid) (((Rows.OpenSpec.upto Rows.auditBestExistsSpec).at F).post enc Tryz.prog Tryz.f4 false true false false) := by
  obtain ⟨places, hx⟩ := wit_reads os enc
  refine returnsInHanded_of_row (C := Tryz.checked) (s := Rows.OpenSpec.upto Rows.auditBestExistsSpec) own started (by kernel_rfl) Tryz.func4
    (witness_row_atRef (enc := enc) (C := Tryz.checked) false (wit os) args0 rfl (wit_vars os) (wit_rest os) (wit_ok os)
      (OpenSpec.preRow_of_cond 8 hx (by kernel_rfl) (fun k hk => by cases hk; kernel_rfl) (by kernel_rfl) (wit_met os))) ?_
  intro W base args ds gs before hval hW _ hcond _ hL hS _
  exact contract H enc W base args ds gs before hval hW (of_decide_eq_true (hcond _ rfl)) hL hS
end Go.Proofs.YtiplcbpocpgbbaaGreatDoor
