/- AuditBestExists: an input that fits. Conditions: none. -/
import Derived.Deep.DeepWitnessRowRef
import Derived.Test.YtiplcbpocpgbbaaGreatDoorA26
set_option linter.unusedSimpArgs false
set_option linter.unusedVariables false
set_option maxRecDepth 100000
namespace Go.Zk
open Go.Proofs Go.ChangeShapes Go.RowKit
def litCell : DataW Unit → Value
  | .lit (.int k n) => .int k n
  | _ => .bool false
def partsOf : DataW Unit → List (DataW Unit)
  | .agg l => l
  | _ => []
/-- The cells of the pinned table. -/
def firstCells : Array Value := ((partsOf Go.Pinned.utf8First).map litCell).toArray
/-- A world for the witness: what the door's run leaves; the pinned table in its block. -/
noncomputable def wit (os : Os) : World :=
  { World.doorLaid Tryz.prog 416 os with heap := (World.doorLaid Tryz.prog 416 os).heap.modify 12 fun
      | .cells _ t frozen => .cells firstCells t frozen
      | o => o }
def args0 : Array Value := #[.agg #[.slice none 0 0, .slice none 0 0, .slice none 0 0, .slice none 0 0, .slice none 0 0, .slice none 0 0, .slice none 0 0], .agg #[.slice none 0 0]]
def ds0 {H : Type} : List (DataW H) := [.agg [.agg [.nil, .nil, .nil, .nil, .nil], .nil, .nil], .agg [.nil]]
theorem wit_reads (os : Os) {H : Type} (enc : TypeId × Value → H) : ∃ places, DataW.whole enc Tryz.prog ((wit os).forCall (fun _ _ => 0) ⟨#[], args0, []⟩).memory Tryz.f4.params.toList spec.vars false args0.toList 8 = some (ds0, [], places) :=
  ⟨[], by kernel_rfl⟩
noncomputable def memW (os : Os) : World := ((wit os).forCall (fun _ _ => 0) ⟨#[], args0, []⟩).memory
abbrev lstD := lst.filter fun x => x.2.handleName?.isNone
theorem met_1 (os : Os) : (DataW.laidRun Tryz.prog (memW os) 8 (lstD.map (·.1))).map (·.1) = some lstD := by kernel_rfl
end Go.Zk
