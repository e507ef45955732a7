/- live(): its calls, one by one. Conditions: none. -/
import Derived.Test.YtiplcbpocpgbbaaGreatDoorA19
set_option linter.unusedSectionVars false
set_option linter.unusedSimpArgs false
set_option linter.unusedVariables false
set_option maxRecDepth 100000
namespace Go.Zk
open Go.Proofs
def lvSlots : AV := .sl 2 true [.str [97], I 0, I 0, .str [98], I 0, I 1]
def lvRooms : AV := .sl 1 true [.str [114], I 0, I 0, .nilsl]
def lvLessons : AV := .sl 1 true [.str [120], .nilsl, .nilsl]
def lvRules : AV := .sl 1 true [.str [101, 97, 114, 108, 121], .bool false, I 3, .sl 2 true [.str [108], I 1, .str [115], I 2], I 13, .str [], I 0, .nilsl, .nilsl, .sl 2 true [I 3, .str [], I 0, .sl 2 true [I 2, .str [108], I 0, I 2, .str [115], I 0], .nilsl, .nilsl, I 9, .str [61], I 0, .sl 2 true [I 4, .str [115], I 0, I 1, .str [], I 0], .nilsl, .nilsl]]
def lvFrozen : AV := .sl 1 true [I 0]
def lvCut : AV := .str [97, 98, 99, 100, 101, 102, 103, 104, 105, 106, 107, 108, 109, 110, 111, 112, 113, 114, 115, 116, 117, 118, 119, 120, 121, 122, 48, 49, 50, 51, 52, 53, 54, 55, 56, 57, 95]
def lvKnow : List Nat := [7, 9, 11, 14, 15, 18, 26, 29, 57, 69, 70, 83, 84, 115, 119, 153, 251, 110]
def lvT0 : List KCall := [(110, ([.str words, .str [32, 120, 32]], .bool false)), (110, ([.str words, .str [32, 97, 32]], .bool false)), (110, ([.str words, .str [32, 98, 32]], .bool false)), (110, ([.str words, .str [32, 114, 32]], .bool false))]
theorem lvT0_ok (m : Int) : ∀ q ∈ lvT0, FF (envM m) q.1 q.2.1 q.2.2 := by
  unfold lvT0
  refine knT_cons (hasWord m _ _ (by decide) (by decide +kernel)) ?_
  refine knT_cons (hasWord m _ _ (by decide) (by decide +kernel)) ?_
  refine knT_cons (hasWord m _ _ (by decide) (by decide +kernel)) ?_
  refine knT_cons (hasWord m _ _ (by decide) (by decide +kernel)) ?_
  intro q hq; cases hq
/-- chalkline/chalklinelaw37.example (41 operations) -/
theorem lv_1_run (m : Int) : drunF (envM m) (knT lvKnow lvT0) 100000 1000 14 [] = some (.agg [lvSlots, lvRooms, .nilsl, .nilsl, lvLessons, lvRules, lvFrozen]) := by kernel_rfl
theorem lv_1 (m : Int) : FF (envM m) 14 [] (.agg [lvSlots, lvRooms, .nilsl, .nilsl, lvLessons, lvRules, lvFrozen]) := drunF_is mixed (knT_ok (lvT0_ok m)) (lv_1_run m)
def lvT1 : List KCall := (14, ([], .agg [lvSlots, lvRooms, .nilsl, .nilsl, lvLessons, lvRules, lvFrozen])) :: lvT0
theorem lvT1_ok (m : Int) : ∀ q ∈ lvT1, FF (envM m) q.1 q.2.1 q.2.2 := knT_cons (lv_1 m) (lvT0_ok m)
/-- chalkline/school.named (82 operations) -/
theorem lv_2_run (m : Int) : drunF (envM m) (knT lvKnow lvT1) 100000 1000 57 [.str [120]] = some (.bool true) := by kernel_rfl
theorem lv_2 (m : Int) : FF (envM m) 57 [.str [120]] (.bool true) := drunF_is mixed (knT_ok (lvT1_ok m)) (lv_2_run m)
def lvT2 : List KCall := (57, ([.str [120]], .bool true)) :: lvT1
theorem lvT2_ok (m : Int) : ∀ q ∈ lvT2, FF (envM m) q.1 q.2.1 q.2.2 := knT_cons (lv_2 m) (lvT1_ok m)
/-- chalkline/school.named (82 operations) -/
theorem lv_3_run (m : Int) : drunF (envM m) (knT lvKnow lvT2) 100000 1000 57 [.str [97]] = some (.bool true) := by kernel_rfl
theorem lv_3 (m : Int) : FF (envM m) 57 [.str [97]] (.bool true) := drunF_is mixed (knT_ok (lvT2_ok m)) (lv_3_run m)
def lvT3 : List KCall := (57, ([.str [97]], .bool true)) :: lvT2
theorem lvT3_ok (m : Int) : ∀ q ∈ lvT3, FF (envM m) q.1 q.2.1 q.2.2 := knT_cons (lv_3 m) (lvT2_ok m)
/-- chalkline/school.named (82 operations) -/
theorem lv_4_run (m : Int) : drunF (envM m) (knT lvKnow lvT3) 100000 1000 57 [.str [98]] = some (.bool true) := by kernel_rfl
theorem lv_4 (m : Int) : FF (envM m) 57 [.str [98]] (.bool true) := drunF_is mixed (knT_ok (lvT3_ok m)) (lv_4_run m)
def lvT4 : List KCall := (57, ([.str [98]], .bool true)) :: lvT3
theorem lvT4_ok (m : Int) : ∀ q ∈ lvT4, FF (envM m) q.1 q.2.1 q.2.2 := knT_cons (lv_4 m) (lvT3_ok m)
/-- chalkline/school.named (82 operations) -/
theorem lv_5_run (m : Int) : drunF (envM m) (knT lvKnow lvT4) 100000 1000 57 [.str [114]] = some (.bool true) := by kernel_rfl
theorem lv_5 (m : Int) : FF (envM m) 57 [.str [114]] (.bool true) := drunF_is mixed (knT_ok (lvT4_ok m)) (lv_5_run m)
def lvT5 : List KCall := (57, ([.str [114]], .bool true)) :: lvT4
theorem lvT5_ok (m : Int) : ∀ q ∈ lvT5, FF (envM m) q.1 q.2.1 q.2.2 := knT_cons (lv_5 m) (lvT4_ok m)
/-- chalkline/school.Check (641 operations) -/
theorem lv_6_run (m : Int) : drunF (envM m) (knT lvKnow lvT5) 100000 1000 26 [.agg [lvSlots, lvRooms, .nilsl, .nilsl, lvLessons]] = some (I 0) := by kernel_rfl
theorem lv_6 (m : Int) : FF (envM m) 26 [.agg [lvSlots, lvRooms, .nilsl, .nilsl, lvLessons]] (I 0) := drunF_is mixed (knT_ok (lvT5_ok m)) (lv_6_run m)
def lvT6 : List KCall := (26, ([.agg [lvSlots, lvRooms, .nilsl, .nilsl, lvLessons]], I 0)) :: lvT5
theorem lvT6_ok (m : Int) : ∀ q ∈ lvT6, FF (envM m) q.1 q.2.1 q.2.2 := knT_cons (lv_6 m) (lvT5_ok m)
/-- chalkline/week.Check (84 operations) -/
theorem lv_7_run (m : Int) : drunF (envM m) (knT lvKnow lvT6) 100000 1000 83 [.agg [lvSlots, lvRooms, .nilsl, .nilsl, lvLessons], .agg [.sl 1 true [I 1, I 0]]] = some (I 0) := by kernel_rfl
theorem lv_7 (m : Int) : FF (envM m) 83 [.agg [lvSlots, lvRooms, .nilsl, .nilsl, lvLessons], .agg [.sl 1 true [I 1, I 0]]] (I 0) := drunF_is mixed (knT_ok (lvT6_ok m)) (lv_7_run m)
def lvT7 : List KCall := (83, ([.agg [lvSlots, lvRooms, .nilsl, .nilsl, lvLessons], .agg [.sl 1 true [I 1, I 0]]], I 0)) :: lvT6
theorem lvT7_ok (m : Int) : ∀ q ∈ lvT7, FF (envM m) q.1 q.2.1 q.2.2 := knT_cons (lv_7 m) (lvT6_ok m)
/-- strings.Trim (762 operations) -/
theorem lv_8_run (m : Int) : drunF (envM m) (knT lvKnow lvT7) 100000 1000 251 [.str [101, 97, 114, 108, 121], lvCut] = some (.str []) := by kernel_rfl
theorem lv_8 (m : Int) : FF (envM m) 251 [.str [101, 97, 114, 108, 121], lvCut] (.str []) := drunF_is mixed (knT_ok (lvT7_ok m)) (lv_8_run m)
def lvT8 : List KCall := (251, ([.str [101, 97, 114, 108, 121], lvCut], .str [])) :: lvT7
theorem lvT8_ok (m : Int) : ∀ q ∈ lvT8, FF (envM m) q.1 q.2.1 q.2.2 := knT_cons (lv_8 m) (lvT7_ok m)
/-- chalkline/formula.Check (460 operations) -/
theorem lv_9_run (m : Int) : drunF (envM m) (knT lvKnow lvT8) 100000 1000 153 [.agg [I 14, .str [], I 0, .nilsl, .sl 1 true [.str [101, 97, 114, 108, 121], I 1], .sl 1 true [I 1, .str [], I 0, .nilsl, .nilsl, .nilsl]]] = some (I 0) := by kernel_rfl
theorem lv_9 (m : Int) : FF (envM m) 153 [.agg [I 14, .str [], I 0, .nilsl, .sl 1 true [.str [101, 97, 114, 108, 121], I 1], .sl 1 true [I 1, .str [], I 0, .nilsl, .nilsl, .nilsl]]] (I 0) := drunF_is mixed (knT_ok (lvT8_ok m)) (lv_9_run m)
def lvT9 : List KCall := (153, ([.agg [I 14, .str [], I 0, .nilsl, .sl 1 true [.str [101, 97, 114, 108, 121], I 1], .sl 1 true [I 1, .str [], I 0, .nilsl, .nilsl, .nilsl]]], I 0)) :: lvT8
theorem lvT9_ok (m : Int) : ∀ q ∈ lvT9, FF (envM m) q.1 q.2.1 q.2.2 := knT_cons (lv_9 m) (lvT8_ok m)
/-- strings.Trim (666 operations) -/
theorem lv_10_run (m : Int) : drunF (envM m) (knT lvKnow lvT9) 100000 1000 251 [.str [108], lvCut] = some (.str []) := by kernel_rfl
theorem lv_10 (m : Int) : FF (envM m) 251 [.str [108], lvCut] (.str []) := drunF_is mixed (knT_ok (lvT9_ok m)) (lv_10_run m)
def lvT10 : List KCall := (251, ([.str [108], lvCut], .str [])) :: lvT9
theorem lvT10_ok (m : Int) : ∀ q ∈ lvT10, FF (envM m) q.1 q.2.1 q.2.2 := knT_cons (lv_10 m) (lvT9_ok m)
/-- chalkline/formula.Check (460 operations) -/
theorem lv_11_run (m : Int) : drunF (envM m) (knT lvKnow lvT10) 100000 1000 153 [.agg [I 14, .str [], I 0, .nilsl, .sl 1 true [.str [108], I 1], .sl 1 true [I 1, .str [], I 0, .nilsl, .nilsl, .nilsl]]] = some (I 0) := by kernel_rfl
theorem lv_11 (m : Int) : FF (envM m) 153 [.agg [I 14, .str [], I 0, .nilsl, .sl 1 true [.str [108], I 1], .sl 1 true [I 1, .str [], I 0, .nilsl, .nilsl, .nilsl]]] (I 0) := drunF_is mixed (knT_ok (lvT10_ok m)) (lv_11_run m)
def lvT11 : List KCall := (153, ([.agg [I 14, .str [], I 0, .nilsl, .sl 1 true [.str [108], I 1], .sl 1 true [I 1, .str [], I 0, .nilsl, .nilsl, .nilsl]]], I 0)) :: lvT10
theorem lvT11_ok (m : Int) : ∀ q ∈ lvT11, FF (envM m) q.1 q.2.1 q.2.2 := knT_cons (lv_11 m) (lvT10_ok m)
/-- strings.Trim (666 operations) -/
theorem lv_12_run (m : Int) : drunF (envM m) (knT lvKnow lvT11) 100000 1000 251 [.str [115], lvCut] = some (.str []) := by kernel_rfl
theorem lv_12 (m : Int) : FF (envM m) 251 [.str [115], lvCut] (.str []) := drunF_is mixed (knT_ok (lvT11_ok m)) (lv_12_run m)
def lvT12 : List KCall := (251, ([.str [115], lvCut], .str [])) :: lvT11
theorem lvT12_ok (m : Int) : ∀ q ∈ lvT12, FF (envM m) q.1 q.2.1 q.2.2 := knT_cons (lv_12 m) (lvT11_ok m)
/-- chalkline/formula.Check (460 operations) -/
theorem lv_13_run (m : Int) : drunF (envM m) (knT lvKnow lvT12) 100000 1000 153 [.agg [I 14, .str [], I 0, .nilsl, .sl 1 true [.str [115], I 2], .sl 1 true [I 1, .str [], I 0, .nilsl, .nilsl, .nilsl]]] = some (I 0) := by kernel_rfl
theorem lv_13 (m : Int) : FF (envM m) 153 [.agg [I 14, .str [], I 0, .nilsl, .sl 1 true [.str [115], I 2], .sl 1 true [I 1, .str [], I 0, .nilsl, .nilsl, .nilsl]]] (I 0) := drunF_is mixed (knT_ok (lvT12_ok m)) (lv_13_run m)
def lvT13 : List KCall := (153, ([.agg [I 14, .str [], I 0, .nilsl, .sl 1 true [.str [115], I 2], .sl 1 true [I 1, .str [], I 0, .nilsl, .nilsl, .nilsl]]], I 0)) :: lvT12
theorem lvT13_ok (m : Int) : ∀ q ∈ lvT13, FF (envM m) q.1 q.2.1 q.2.2 := knT_cons (lv_13 m) (lvT12_ok m)
/-- chalkline/formula.Check (851 operations) -/
theorem lv_14_run (m : Int) : drunF (envM m) (knT lvKnow lvT13) 100000 1000 153 [.agg [I 13, .str [], I 0, .nilsl, .nilsl, .sl 2 true [I 3, .str [], I 0, .sl 2 true [I 2, .str [108], I 0, I 2, .str [115], I 0], .nilsl, .nilsl, I 9, .str [61], I 0, .sl 2 true [I 4, .str [115], I 0, I 1, .str [], I 0], .nilsl, .nilsl]]] = some (I 0) := by kernel_rfl
theorem lv_14 (m : Int) : FF (envM m) 153 [.agg [I 13, .str [], I 0, .nilsl, .nilsl, .sl 2 true [I 3, .str [], I 0, .sl 2 true [I 2, .str [108], I 0, I 2, .str [115], I 0], .nilsl, .nilsl, I 9, .str [61], I 0, .sl 2 true [I 4, .str [115], I 0, I 1, .str [], I 0], .nilsl, .nilsl]]] (I 0) := drunF_is mixed (knT_ok (lvT13_ok m)) (lv_14_run m)
def lvT14 : List KCall := (153, ([.agg [I 13, .str [], I 0, .nilsl, .nilsl, .sl 2 true [I 3, .str [], I 0, .sl 2 true [I 2, .str [108], I 0, I 2, .str [115], I 0], .nilsl, .nilsl, I 9, .str [61], I 0, .sl 2 true [I 4, .str [115], I 0, I 1, .str [], I 0], .nilsl, .nilsl]]], I 0)) :: lvT13
theorem lvT14_ok (m : Int) : ∀ q ∈ lvT14, FF (envM m) q.1 q.2.1 q.2.2 := knT_cons (lv_14 m) (lvT13_ok m)
/-- chalkline/types.Rule (801 operations) -/
theorem lv_15_run (m : Int) : drunF (envM m) (knT lvKnow lvT14) 100000 1000 115 [.agg [.str [101, 97, 114, 108, 121], .bool false, I 3, .sl 2 true [.str [108], I 1, .str [115], I 2], I 13, .str [], I 0, .nilsl, .nilsl, .sl 2 true [I 3, .str [], I 0, .sl 2 true [I 2, .str [108], I 0, I 2, .str [115], I 0], .nilsl, .nilsl, I 9, .str [61], I 0, .sl 2 true [I 4, .str [115], I 0, I 1, .str [], I 0], .nilsl, .nilsl]]] = some (I 0) := by kernel_rfl
theorem lv_15 (m : Int) : FF (envM m) 115 [.agg [.str [101, 97, 114, 108, 121], .bool false, I 3, .sl 2 true [.str [108], I 1, .str [115], I 2], I 13, .str [], I 0, .nilsl, .nilsl, .sl 2 true [I 3, .str [], I 0, .sl 2 true [I 2, .str [108], I 0, I 2, .str [115], I 0], .nilsl, .nilsl, I 9, .str [61], I 0, .sl 2 true [I 4, .str [115], I 0, I 1, .str [], I 0], .nilsl, .nilsl]]] (I 0) := drunF_is mixed (knT_ok (lvT14_ok m)) (lv_15_run m)
def lvT15 : List KCall := (115, ([.agg [.str [101, 97, 114, 108, 121], .bool false, I 3, .sl 2 true [.str [108], I 1, .str [115], I 2], I 13, .str [], I 0, .nilsl, .nilsl, .sl 2 true [I 3, .str [], I 0, .sl 2 true [I 2, .str [108], I 0, I 2, .str [115], I 0], .nilsl, .nilsl, I 9, .str [61], I 0, .sl 2 true [I 4, .str [115], I 0, I 1, .str [], I 0], .nilsl, .nilsl]]], I 0)) :: lvT14
theorem lvT15_ok (m : Int) : ∀ q ∈ lvT15, FF (envM m) q.1 q.2.1 q.2.2 := knT_cons (lv_15 m) (lvT14_ok m)
/-- chalkline/types.Rules (32 operations) -/
theorem lv_16_run (m : Int) : drunF (envM m) (knT lvKnow lvT15) 100000 1000 84 [lvRules] = some (.tuple [I 0, I 0]) := by kernel_rfl
theorem lv_16 (m : Int) : FF (envM m) 84 [lvRules] (.tuple [I 0, I 0]) := drunF_is mixed (knT_ok (lvT15_ok m)) (lv_16_run m)
def lvT16 : List KCall := (84, ([lvRules], .tuple [I 0, I 0])) :: lvT15
theorem lvT16_ok (m : Int) : ∀ q ∈ lvT16, FF (envM m) q.1 q.2.1 q.2.2 := knT_cons (lv_16 m) (lvT15_ok m)
/-- chalkline/eval.Judge (1646 operations) -/
theorem lv_17_run (m : Int) : drunF (envM m) (knT lvKnow lvT16) 100000 1000 18 [.agg [lvSlots, lvRooms, .nilsl, .nilsl, lvLessons], .agg [.sl 1 true [I 1, I 0]], lvRules] = some (.tuple [I 0, I 3, I 0]) := by kernel_rfl
theorem lv_17 (m : Int) : FF (envM m) 18 [.agg [lvSlots, lvRooms, .nilsl, .nilsl, lvLessons], .agg [.sl 1 true [I 1, I 0]], lvRules] (.tuple [I 0, I 3, I 0]) := drunF_is mixed (knT_ok (lvT16_ok m)) (lv_17_run m)
def lvT17 : List KCall := (18, ([.agg [lvSlots, lvRooms, .nilsl, .nilsl, lvLessons], .agg [.sl 1 true [I 1, I 0]], lvRules], .tuple [I 0, I 3, I 0])) :: lvT16
theorem lvT17_ok (m : Int) : ∀ q ∈ lvT17, FF (envM m) q.1 q.2.1 q.2.2 := knT_cons (lv_17 m) (lvT16_ok m)
/-- chalkline/audit.Holds (24 operations) -/
theorem lv_18_run (m : Int) : drunF (envM m) (knT lvKnow lvT17) 100000 1000 7 [.agg [lvSlots, lvRooms, .nilsl, .nilsl, lvLessons, lvRules, lvFrozen], .agg [.sl 1 true [I 1, I 0]]] = some (.tuple [.bool true, I 3]) := by kernel_rfl
theorem lv_18 (m : Int) : FF (envM m) 7 [.agg [lvSlots, lvRooms, .nilsl, .nilsl, lvLessons, lvRules, lvFrozen], .agg [.sl 1 true [I 1, I 0]]] (.tuple [.bool true, I 3]) := drunF_is mixed (knT_ok (lvT17_ok m)) (lv_18_run m)
def lvT18 : List KCall := (7, ([.agg [lvSlots, lvRooms, .nilsl, .nilsl, lvLessons, lvRules, lvFrozen], .agg [.sl 1 true [I 1, I 0]]], .tuple [.bool true, I 3])) :: lvT17
theorem lvT18_ok (m : Int) : ∀ q ∈ lvT18, FF (envM m) q.1 q.2.1 q.2.2 := knT_cons (lv_18 m) (lvT17_ok m)
/-- chalkline/week.Check (24 operations) -/
theorem lv_19_run (m : Int) : drunF (envM m) (knT lvKnow lvT18) 100000 1000 83 [.agg [lvSlots, lvRooms, .nilsl, .nilsl, lvLessons], .agg [.nilsl]] = some (I 40) := by kernel_rfl
theorem lv_19 (m : Int) : FF (envM m) 83 [.agg [lvSlots, lvRooms, .nilsl, .nilsl, lvLessons], .agg [.nilsl]] (I 40) := drunF_is mixed (knT_ok (lvT18_ok m)) (lv_19_run m)
def lvT19 : List KCall := (83, ([.agg [lvSlots, lvRooms, .nilsl, .nilsl, lvLessons], .agg [.nilsl]], I 40)) :: lvT18
theorem lvT19_ok (m : Int) : ∀ q ∈ lvT19, FF (envM m) q.1 q.2.1 q.2.2 := knT_cons (lv_19 m) (lvT18_ok m)
/-- chalkline/eval.Judge (37 operations) -/
theorem lv_20_run (m : Int) : drunF (envM m) (knT lvKnow lvT19) 100000 1000 18 [.agg [lvSlots, lvRooms, .nilsl, .nilsl, lvLessons], .agg [.nilsl], lvRules] = some (.tuple [I 0, I 0, I 40]) := by kernel_rfl
theorem lv_20 (m : Int) : FF (envM m) 18 [.agg [lvSlots, lvRooms, .nilsl, .nilsl, lvLessons], .agg [.nilsl], lvRules] (.tuple [I 0, I 0, I 40]) := drunF_is mixed (knT_ok (lvT19_ok m)) (lv_20_run m)
def lvT20 : List KCall := (18, ([.agg [lvSlots, lvRooms, .nilsl, .nilsl, lvLessons], .agg [.nilsl], lvRules], .tuple [I 0, I 0, I 40])) :: lvT19
theorem lvT20_ok (m : Int) : ∀ q ∈ lvT20, FF (envM m) q.1 q.2.1 q.2.2 := knT_cons (lv_20 m) (lvT19_ok m)
/-- chalkline/audit.Holds (21 operations) -/
theorem lv_21_run (m : Int) : drunF (envM m) (knT lvKnow lvT20) 100000 1000 7 [.agg [lvSlots, lvRooms, .nilsl, .nilsl, lvLessons, lvRules, lvFrozen], .agg [.nilsl]] = some (.tuple [.bool false, I 0]) := by kernel_rfl
theorem lv_21 (m : Int) : FF (envM m) 7 [.agg [lvSlots, lvRooms, .nilsl, .nilsl, lvLessons, lvRules, lvFrozen], .agg [.nilsl]] (.tuple [.bool false, I 0]) := drunF_is mixed (knT_ok (lvT20_ok m)) (lv_21_run m)
def lvT21 : List KCall := (7, ([.agg [lvSlots, lvRooms, .nilsl, .nilsl, lvLessons, lvRules, lvFrozen], .agg [.nilsl]], .tuple [.bool false, I 0])) :: lvT20
theorem lvT21_ok (m : Int) : ∀ q ∈ lvT21, FF (envM m) q.1 q.2.1 q.2.2 := knT_cons (lv_21 m) (lvT20_ok m)
end Go.Zk
