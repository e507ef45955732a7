/- live(): its calls, one by one. Conditions: none. -/
import Derived.Test.YtiplcbpocpgbbaaGreatDoorA23
set_option linter.unusedSectionVars false
set_option linter.unusedSimpArgs false
set_option linter.unusedVariables false
set_option maxRecDepth 100000
namespace Go.Zk
open Go.Proofs
/-- chalkline/week.Check (84 operations) -/
theorem lv_22_run (m : Int) : drunF (envM m) (knT lvKnow lvT21) 100000 1000 83 [.agg [lvSlots, lvRooms, .nilsl, .nilsl, lvLessons], .agg [.sl 1 true [I 0, I 0]]] = some (I 0) := by kernel_rfl
theorem lv_22 (m : Int) : FF (envM m) 83 [.agg [lvSlots, lvRooms, .nilsl, .nilsl, lvLessons], .agg [.sl 1 true [I 0, I 0]]] (I 0) := drunF_is mixed (knT_ok (lvT21_ok m)) (lv_22_run m)
def lvT22 : List KCall := (83, ([.agg [lvSlots, lvRooms, .nilsl, .nilsl, lvLessons], .agg [.sl 1 true [I 0, I 0]]], I 0)) :: lvT21
theorem lvT22_ok (m : Int) : ∀ q ∈ lvT22, FF (envM m) q.1 q.2.1 q.2.2 := knT_cons (lv_22 m) (lvT21_ok m)
/-- chalkline/eval.Judge (1618 operations) -/
theorem lv_23_run (m : Int) : drunF (envM m) (knT lvKnow lvT22) 100000 1000 18 [.agg [lvSlots, lvRooms, .nilsl, .nilsl, lvLessons], .agg [.sl 1 true [I 0, I 0]], lvRules] = some (.tuple [I 0, I 0, I 0]) := by kernel_rfl
theorem lv_23 (m : Int) : FF (envM m) 18 [.agg [lvSlots, lvRooms, .nilsl, .nilsl, lvLessons], .agg [.sl 1 true [I 0, I 0]], lvRules] (.tuple [I 0, I 0, I 0]) := drunF_is mixed (knT_ok (lvT22_ok m)) (lv_23_run m)
def lvT23 : List KCall := (18, ([.agg [lvSlots, lvRooms, .nilsl, .nilsl, lvLessons], .agg [.sl 1 true [I 0, I 0]], lvRules], .tuple [I 0, I 0, I 0])) :: lvT22
theorem lvT23_ok (m : Int) : ∀ q ∈ lvT23, FF (envM m) q.1 q.2.1 q.2.2 := knT_cons (lv_23 m) (lvT22_ok m)
/-- chalkline/audit.Holds (24 operations) -/
theorem lv_24_run (m : Int) : drunF (envM m) (knT lvKnow lvT23) 100000 1000 7 [.agg [lvSlots, lvRooms, .nilsl, .nilsl, lvLessons, lvRules, lvFrozen], .agg [.sl 1 true [I 0, I 0]]] = some (.tuple [.bool true, I 0]) := by kernel_rfl
theorem lv_24 (m : Int) : FF (envM m) 7 [.agg [lvSlots, lvRooms, .nilsl, .nilsl, lvLessons, lvRules, lvFrozen], .agg [.sl 1 true [I 0, I 0]]] (.tuple [.bool true, I 0]) := drunF_is mixed (knT_ok (lvT23_ok m)) (lv_24_run m)
def lvT24 : List KCall := (7, ([.agg [lvSlots, lvRooms, .nilsl, .nilsl, lvLessons, lvRules, lvFrozen], .agg [.sl 1 true [I 0, I 0]]], .tuple [.bool true, I 0])) :: lvT23
theorem lvT24_ok (m : Int) : ∀ q ∈ lvT24, FF (envM m) q.1 q.2.1 q.2.2 := knT_cons (lv_24 m) (lvT23_ok m)
/-- chalkline/week.Check (84 operations) -/
theorem lv_25_run (m : Int) : drunF (envM m) (knT lvKnow lvT24) 100000 1000 83 [.agg [lvSlots, lvRooms, .nilsl, .nilsl, lvLessons], .agg [.sl 1 false [I 0, I 0]]] = some (I 0) := by kernel_rfl
theorem lv_25 (m : Int) : FF (envM m) 83 [.agg [lvSlots, lvRooms, .nilsl, .nilsl, lvLessons], .agg [.sl 1 false [I 0, I 0]]] (I 0) := drunF_is mixed (knT_ok (lvT24_ok m)) (lv_25_run m)
def lvT25 : List KCall := (83, ([.agg [lvSlots, lvRooms, .nilsl, .nilsl, lvLessons], .agg [.sl 1 false [I 0, I 0]]], I 0)) :: lvT24
theorem lvT25_ok (m : Int) : ∀ q ∈ lvT25, FF (envM m) q.1 q.2.1 q.2.2 := knT_cons (lv_25 m) (lvT24_ok m)
/-- chalkline/eval.Judge (1618 operations) -/
theorem lv_26_run (m : Int) : drunF (envM m) (knT lvKnow lvT25) 100000 1000 18 [.agg [lvSlots, lvRooms, .nilsl, .nilsl, lvLessons], .agg [.sl 1 false [I 0, I 0]], lvRules] = some (.tuple [I 0, I 0, I 0]) := by kernel_rfl
theorem lv_26 (m : Int) : FF (envM m) 18 [.agg [lvSlots, lvRooms, .nilsl, .nilsl, lvLessons], .agg [.sl 1 false [I 0, I 0]], lvRules] (.tuple [I 0, I 0, I 0]) := drunF_is mixed (knT_ok (lvT25_ok m)) (lv_26_run m)
def lvT26 : List KCall := (18, ([.agg [lvSlots, lvRooms, .nilsl, .nilsl, lvLessons], .agg [.sl 1 false [I 0, I 0]], lvRules], .tuple [I 0, I 0, I 0])) :: lvT25
theorem lvT26_ok (m : Int) : ∀ q ∈ lvT26, FF (envM m) q.1 q.2.1 q.2.2 := knT_cons (lv_26 m) (lvT25_ok m)
/-- chalkline/audit.Holds (24 operations) -/
theorem lv_27_run (m : Int) : drunF (envM m) (knT lvKnow lvT26) 100000 1000 7 [.agg [lvSlots, lvRooms, .nilsl, .nilsl, lvLessons, lvRules, lvFrozen], .agg [.sl 1 false [I 0, I 0]]] = some (.tuple [.bool true, I 0]) := by kernel_rfl
theorem lv_27 (m : Int) : FF (envM m) 7 [.agg [lvSlots, lvRooms, .nilsl, .nilsl, lvLessons, lvRules, lvFrozen], .agg [.sl 1 false [I 0, I 0]]] (.tuple [.bool true, I 0]) := drunF_is mixed (knT_ok (lvT26_ok m)) (lv_27_run m)
def lvT27 : List KCall := (7, ([.agg [lvSlots, lvRooms, .nilsl, .nilsl, lvLessons, lvRules, lvFrozen], .agg [.sl 1 false [I 0, I 0]]], .tuple [.bool true, I 0])) :: lvT26
theorem lvT27_ok (m : Int) : ∀ q ∈ lvT27, FF (envM m) q.1 q.2.1 q.2.2 := knT_cons (lv_27 m) (lvT26_ok m)
/-- chalkline/week.Check (84 operations) -/
theorem lv_28_run (m : Int) : drunF (envM m) (knT lvKnow lvT27) 100000 1000 83 [.agg [lvSlots, lvRooms, .nilsl, .nilsl, lvLessons], .agg [.sl 1 false [I 1, I 0]]] = some (I 0) := by kernel_rfl
theorem lv_28 (m : Int) : FF (envM m) 83 [.agg [lvSlots, lvRooms, .nilsl, .nilsl, lvLessons], .agg [.sl 1 false [I 1, I 0]]] (I 0) := drunF_is mixed (knT_ok (lvT27_ok m)) (lv_28_run m)
def lvT28 : List KCall := (83, ([.agg [lvSlots, lvRooms, .nilsl, .nilsl, lvLessons], .agg [.sl 1 false [I 1, I 0]]], I 0)) :: lvT27
theorem lvT28_ok (m : Int) : ∀ q ∈ lvT28, FF (envM m) q.1 q.2.1 q.2.2 := knT_cons (lv_28 m) (lvT27_ok m)
/-- chalkline/eval.Judge (1646 operations) -/
theorem lv_29_run (m : Int) : drunF (envM m) (knT lvKnow lvT28) 100000 1000 18 [.agg [lvSlots, lvRooms, .nilsl, .nilsl, lvLessons], .agg [.sl 1 false [I 1, I 0]], lvRules] = some (.tuple [I 0, I 3, I 0]) := by kernel_rfl
theorem lv_29 (m : Int) : FF (envM m) 18 [.agg [lvSlots, lvRooms, .nilsl, .nilsl, lvLessons], .agg [.sl 1 false [I 1, I 0]], lvRules] (.tuple [I 0, I 3, I 0]) := drunF_is mixed (knT_ok (lvT28_ok m)) (lv_29_run m)
def lvT29 : List KCall := (18, ([.agg [lvSlots, lvRooms, .nilsl, .nilsl, lvLessons], .agg [.sl 1 false [I 1, I 0]], lvRules], .tuple [I 0, I 3, I 0])) :: lvT28
theorem lvT29_ok (m : Int) : ∀ q ∈ lvT29, FF (envM m) q.1 q.2.1 q.2.2 := knT_cons (lv_29 m) (lvT28_ok m)
/-- chalkline/audit.Holds (24 operations) -/
theorem lv_30_run (m : Int) : drunF (envM m) (knT lvKnow lvT29) 100000 1000 7 [.agg [lvSlots, lvRooms, .nilsl, .nilsl, lvLessons, lvRules, lvFrozen], .agg [.sl 1 false [I 1, I 0]]] = some (.tuple [.bool true, I 3]) := by kernel_rfl
theorem lv_30 (m : Int) : FF (envM m) 7 [.agg [lvSlots, lvRooms, .nilsl, .nilsl, lvLessons, lvRules, lvFrozen], .agg [.sl 1 false [I 1, I 0]]] (.tuple [.bool true, I 3]) := drunF_is mixed (knT_ok (lvT29_ok m)) (lv_30_run m)
def lvT30 : List KCall := (7, ([.agg [lvSlots, lvRooms, .nilsl, .nilsl, lvLessons, lvRules, lvFrozen], .agg [.sl 1 false [I 1, I 0]]], .tuple [.bool true, I 3])) :: lvT29
theorem lvT30_ok (m : Int) : ∀ q ∈ lvT30, FF (envM m) q.1 q.2.1 q.2.2 := knT_cons (lv_30 m) (lvT29_ok m)
/-- chalkline/audit.Best (442 operations) -/
theorem lv_31_run (m : Int) : drunF (envM m) (knT lvKnow lvT30) 100000 1000 9 [.agg [lvSlots, lvRooms, .nilsl, .nilsl, lvLessons, lvRules, lvFrozen], .agg [.nilsl], .agg [.sl 1 true [I 0, I 0]]] = some (.bool true) := by kernel_rfl
theorem lv_31 (m : Int) : FF (envM m) 9 [.agg [lvSlots, lvRooms, .nilsl, .nilsl, lvLessons, lvRules, lvFrozen], .agg [.nilsl], .agg [.sl 1 true [I 0, I 0]]] (.bool true) := drunF_is mixed (knT_ok (lvT30_ok m)) (lv_31_run m)
def lvT31 : List KCall := (9, ([.agg [lvSlots, lvRooms, .nilsl, .nilsl, lvLessons, lvRules, lvFrozen], .agg [.nilsl], .agg [.sl 1 true [I 0, I 0]]], .bool true)) :: lvT30
theorem lvT31_ok (m : Int) : ∀ q ∈ lvT31, FF (envM m) q.1 q.2.1 q.2.2 := knT_cons (lv_31 m) (lvT30_ok m)
/-- chalkline/audit.Best (355 operations) -/
theorem lv_32_run (m : Int) : drunF (envM m) (knT lvKnow lvT31) 100000 1000 9 [.agg [lvSlots, lvRooms, .nilsl, .nilsl, lvLessons, lvRules, lvFrozen], .agg [.nilsl], .agg [.sl 1 true [I 1, I 0]]] = some (.bool false) := by kernel_rfl
theorem lv_32 (m : Int) : FF (envM m) 9 [.agg [lvSlots, lvRooms, .nilsl, .nilsl, lvLessons, lvRules, lvFrozen], .agg [.nilsl], .agg [.sl 1 true [I 1, I 0]]] (.bool false) := drunF_is mixed (knT_ok (lvT31_ok m)) (lv_32_run m)
def lvT32 : List KCall := (9, ([.agg [lvSlots, lvRooms, .nilsl, .nilsl, lvLessons, lvRules, lvFrozen], .agg [.nilsl], .agg [.sl 1 true [I 1, I 0]]], .bool false)) :: lvT31
theorem lvT32_ok (m : Int) : ∀ q ∈ lvT32, FF (envM m) q.1 q.2.1 q.2.2 := knT_cons (lv_32 m) (lvT31_ok m)
/-- chalkline/audit.Best (681 operations) -/
theorem lv_33_run (m : Int) : drunF (envM m) (knT lvKnow lvT32) 100000 1000 9 [.agg [lvSlots, lvRooms, .nilsl, .nilsl, lvLessons, lvRules, lvFrozen], .agg [.sl 1 true [I 1, I 0]], .agg [.sl 1 true [I 1, I 0]]] = some (.bool true) := by kernel_rfl
theorem lv_33 (m : Int) : FF (envM m) 9 [.agg [lvSlots, lvRooms, .nilsl, .nilsl, lvLessons, lvRules, lvFrozen], .agg [.sl 1 true [I 1, I 0]], .agg [.sl 1 true [I 1, I 0]]] (.bool true) := drunF_is mixed (knT_ok (lvT32_ok m)) (lv_33_run m)
def lvT33 : List KCall := (9, ([.agg [lvSlots, lvRooms, .nilsl, .nilsl, lvLessons, lvRules, lvFrozen], .agg [.sl 1 true [I 1, I 0]], .agg [.sl 1 true [I 1, I 0]]], .bool true)) :: lvT32
theorem lvT33_ok (m : Int) : ∀ q ∈ lvT33, FF (envM m) q.1 q.2.1 q.2.2 := knT_cons (lv_33 m) (lvT32_ok m)
/-- chalkline/audit.Best (95 operations) -/
theorem lv_34_run (m : Int) : drunF (envM m) (knT lvKnow lvT33) 100000 1000 9 [.agg [lvSlots, lvRooms, .nilsl, .nilsl, lvLessons, lvRules, lvFrozen], .agg [.sl 1 true [I 1, I 0]], .agg [.sl 1 true [I 0, I 0]]] = some (.bool false) := by kernel_rfl
theorem lv_34 (m : Int) : FF (envM m) 9 [.agg [lvSlots, lvRooms, .nilsl, .nilsl, lvLessons, lvRules, lvFrozen], .agg [.sl 1 true [I 1, I 0]], .agg [.sl 1 true [I 0, I 0]]] (.bool false) := drunF_is mixed (knT_ok (lvT33_ok m)) (lv_34_run m)
def lvT34 : List KCall := (9, ([.agg [lvSlots, lvRooms, .nilsl, .nilsl, lvLessons, lvRules, lvFrozen], .agg [.sl 1 true [I 1, I 0]], .agg [.sl 1 true [I 0, I 0]]], .bool false)) :: lvT33
theorem lvT34_ok (m : Int) : ∀ q ∈ lvT34, FF (envM m) q.1 q.2.1 q.2.2 := knT_cons (lv_34 m) (lvT33_ok m)
/-- chalkline/audit.Event (84 operations) -/
theorem lv_35_run (m : Int) : drunF (envM m) (knT lvKnow lvT34) 100000 1000 15 [.agg [I 1, lvSlots, lvRooms, .nilsl, .nilsl, lvLessons, lvRules, lvFrozen, .nilsl, I 1, .sl 1 true [I 0, I 0], I 0, .bool true, I 0, I 0, I 0, .nilsl, .nilsl, I 0, .nilsl, .nilsl, I 0, I 0]] = some (.bool true) := by kernel_rfl
theorem lv_35 (m : Int) : FF (envM m) 15 [.agg [I 1, lvSlots, lvRooms, .nilsl, .nilsl, lvLessons, lvRules, lvFrozen, .nilsl, I 1, .sl 1 true [I 0, I 0], I 0, .bool true, I 0, I 0, I 0, .nilsl, .nilsl, I 0, .nilsl, .nilsl, I 0, I 0]] (.bool true) := drunF_is mixed (knT_ok (lvT34_ok m)) (lv_35_run m)
def lvT35 : List KCall := (15, ([.agg [I 1, lvSlots, lvRooms, .nilsl, .nilsl, lvLessons, lvRules, lvFrozen, .nilsl, I 1, .sl 1 true [I 0, I 0], I 0, .bool true, I 0, I 0, I 0, .nilsl, .nilsl, I 0, .nilsl, .nilsl, I 0, I 0]], .bool true)) :: lvT34
theorem lvT35_ok (m : Int) : ∀ q ∈ lvT35, FF (envM m) q.1 q.2.1 q.2.2 := knT_cons (lv_35 m) (lvT34_ok m)
/-- chalkline/audit.Event (66 operations) -/
theorem lv_36_run (m : Int) : drunF (envM m) (knT lvKnow lvT35) 100000 1000 15 [.agg [I 1, lvSlots, lvRooms, .nilsl, .nilsl, lvLessons, lvRules, lvFrozen, .nilsl, I 1, .sl 1 true [I 1, I 0], I 2, .bool false, I 0, I 0, I 0, .nilsl, .nilsl, I 0, .nilsl, .nilsl, I 0, I 0]] = some (.bool false) := by kernel_rfl
theorem lv_36 (m : Int) : FF (envM m) 15 [.agg [I 1, lvSlots, lvRooms, .nilsl, .nilsl, lvLessons, lvRules, lvFrozen, .nilsl, I 1, .sl 1 true [I 1, I 0], I 2, .bool false, I 0, I 0, I 0, .nilsl, .nilsl, I 0, .nilsl, .nilsl, I 0, I 0]] (.bool false) := drunF_is mixed (knT_ok (lvT35_ok m)) (lv_36_run m)
def lvT36 : List KCall := (15, ([.agg [I 1, lvSlots, lvRooms, .nilsl, .nilsl, lvLessons, lvRules, lvFrozen, .nilsl, I 1, .sl 1 true [I 1, I 0], I 2, .bool false, I 0, I 0, I 0, .nilsl, .nilsl, I 0, .nilsl, .nilsl, I 0, I 0]], .bool false)) :: lvT35
theorem lvT36_ok (m : Int) : ∀ q ∈ lvT36, FF (envM m) q.1 q.2.1 q.2.2 := knT_cons (lv_36 m) (lvT35_ok m)
/-- chalkline/audit.None (275 operations) -/
theorem lv_37_run (m : Int) : drunF (envM m) (knT lvKnow lvT36) 100000 1000 11 [.agg [lvSlots, lvRooms, .nilsl, .nilsl, lvLessons, lvRules, lvFrozen], .agg [.nilsl]] = some (.bool false) := by kernel_rfl
theorem lv_37 (m : Int) : FF (envM m) 11 [.agg [lvSlots, lvRooms, .nilsl, .nilsl, lvLessons, lvRules, lvFrozen], .agg [.nilsl]] (.bool false) := drunF_is mixed (knT_ok (lvT36_ok m)) (lv_37_run m)
def lvT37 : List KCall := (11, ([.agg [lvSlots, lvRooms, .nilsl, .nilsl, lvLessons, lvRules, lvFrozen], .agg [.nilsl]], .bool false)) :: lvT36
theorem lvT37_ok (m : Int) : ∀ q ∈ lvT37, FF (envM m) q.1 q.2.1 q.2.2 := knT_cons (lv_37 m) (lvT36_ok m)
/-- chalkline/audit.Event (26 operations) -/
theorem lv_38_run (m : Int) : drunF (envM m) (knT lvKnow lvT37) 100000 1000 15 [.agg [I 2, lvSlots, lvRooms, .nilsl, .nilsl, lvLessons, lvRules, lvFrozen, .nilsl, I 0, .nilsl, I 0, .bool false, I 0, I 0, I 0, .nilsl, .nilsl, I 0, .nilsl, .nilsl, I 0, I 0]] = some (.bool false) := by kernel_rfl
theorem lv_38 (m : Int) : FF (envM m) 15 [.agg [I 2, lvSlots, lvRooms, .nilsl, .nilsl, lvLessons, lvRules, lvFrozen, .nilsl, I 0, .nilsl, I 0, .bool false, I 0, I 0, I 0, .nilsl, .nilsl, I 0, .nilsl, .nilsl, I 0, I 0]] (.bool false) := drunF_is mixed (knT_ok (lvT37_ok m)) (lv_38_run m)
def lvT38 : List KCall := (15, ([.agg [I 2, lvSlots, lvRooms, .nilsl, .nilsl, lvLessons, lvRules, lvFrozen, .nilsl, I 0, .nilsl, I 0, .bool false, I 0, I 0, I 0, .nilsl, .nilsl, I 0, .nilsl, .nilsl, I 0, I 0]], .bool false)) :: lvT37
theorem lvT38_ok (m : Int) : ∀ q ∈ lvT38, FF (envM m) q.1 q.2.1 q.2.2 := knT_cons (lv_38 m) (lvT37_ok m)
/-- chalkline/audit.None (432 operations) -/
theorem lv_39_run (m : Int) : drunF (envM m) (knT lvKnow lvT38) 100000 1000 11 [.agg [lvSlots, lvRooms, .nilsl, .nilsl, lvLessons, lvRules, lvFrozen], .agg [.sl 1 true [I 1, I 0]]] = some (.bool false) := by kernel_rfl
theorem lv_39 (m : Int) : FF (envM m) 11 [.agg [lvSlots, lvRooms, .nilsl, .nilsl, lvLessons, lvRules, lvFrozen], .agg [.sl 1 true [I 1, I 0]]] (.bool false) := drunF_is mixed (knT_ok (lvT38_ok m)) (lv_39_run m)
def lvT39 : List KCall := (11, ([.agg [lvSlots, lvRooms, .nilsl, .nilsl, lvLessons, lvRules, lvFrozen], .agg [.sl 1 true [I 1, I 0]]], .bool false)) :: lvT38
theorem lvT39_ok (m : Int) : ∀ q ∈ lvT39, FF (envM m) q.1 q.2.1 q.2.2 := knT_cons (lv_39 m) (lvT38_ok m)
/-- chalkline/eval.Insts (609 operations) -/
theorem lv_40_run (m : Int) : drunF (envM m) (knT lvKnow lvT39) 100000 1000 69 [.agg [lvSlots, lvRooms, .nilsl, .nilsl, lvLessons], .agg [.str [101, 97, 114, 108, 121], .bool false, I 3, .sl 2 true [.str [108], I 1, .str [115], I 2], I 13, .str [], I 0, .nilsl, .nilsl, .sl 2 true [I 3, .str [], I 0, .sl 2 true [I 2, .str [108], I 0, I 2, .str [115], I 0], .nilsl, .nilsl, I 9, .str [61], I 0, .sl 2 true [I 4, .str [115], I 0, I 1, .str [], I 0], .nilsl, .nilsl]]] = some (.tuple [.sl 2 false [.sl 2 false [I 0, I 0], .sl 2 false [I 0, I 1]], I 0]) := by kernel_rfl
theorem lv_40 (m : Int) : FF (envM m) 69 [.agg [lvSlots, lvRooms, .nilsl, .nilsl, lvLessons], .agg [.str [101, 97, 114, 108, 121], .bool false, I 3, .sl 2 true [.str [108], I 1, .str [115], I 2], I 13, .str [], I 0, .nilsl, .nilsl, .sl 2 true [I 3, .str [], I 0, .sl 2 true [I 2, .str [108], I 0, I 2, .str [115], I 0], .nilsl, .nilsl, I 9, .str [61], I 0, .sl 2 true [I 4, .str [115], I 0, I 1, .str [], I 0], .nilsl, .nilsl]]] (.tuple [.sl 2 false [.sl 2 false [I 0, I 0], .sl 2 false [I 0, I 1]], I 0]) := drunF_is mixed (knT_ok (lvT39_ok m)) (lv_40_run m)
def lvT40 : List KCall := (69, ([.agg [lvSlots, lvRooms, .nilsl, .nilsl, lvLessons], .agg [.str [101, 97, 114, 108, 121], .bool false, I 3, .sl 2 true [.str [108], I 1, .str [115], I 2], I 13, .str [], I 0, .nilsl, .nilsl, .sl 2 true [I 3, .str [], I 0, .sl 2 true [I 2, .str [108], I 0, I 2, .str [115], I 0], .nilsl, .nilsl, I 9, .str [61], I 0, .sl 2 true [I 4, .str [115], I 0, I 1, .str [], I 0], .nilsl, .nilsl]]], .tuple [.sl 2 false [.sl 2 false [I 0, I 0], .sl 2 false [I 0, I 1]], I 0])) :: lvT39
theorem lvT40_ok (m : Int) : ∀ q ∈ lvT40, FF (envM m) q.1 q.2.1 q.2.2 := knT_cons (lv_40 m) (lvT39_ok m)
end Go.Zk
