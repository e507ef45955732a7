/- Facts of the program's types. Conditions: the program. -/
import Derived.Test.YtiplcbpocpgbbaaGreatDoorA09
import Derived.Test.YtiplcbpocpgbbaaGreatDoorProg
set_option linter.unusedVariables false
namespace Go.Zk
open Go.Proofs
class Is (E : Env) : Prop where
  eq : E.P = Tryz.prog
section
variable {E : Env} [h : Is E]
theorem mixed : E.P.follows .mixedOrders = true := by rw [h.eq]; kernel_rfl
@[simp] theorem tsz_2 : tsz E.P 2 = some 1 := by rw [h.eq]; kernel_rfl
@[simp] theorem tby_2 : tby E.P 2 = some 8 := by rw [h.eq]; kernel_rfl
@[simp] theorem tagg_2 : tagg E.P 2 = some false := by rw [h.eq]; kernel_rfl
@[simp] theorem tsl_2 : asl.tsl E.P 2 = 0 := by rw [h.eq]; kernel_rfl
@[simp] theorem srcType_2 : srcType E.P 2 = false := by rw [h.eq]; kernel_rfl
@[simp] theorem tzero_2 : tzero E.P 2 = some (AV.int IntKind.i64 0) := by rw [h.eq]; kernel_rfl
@[simp] theorem u_2 : E.P.underlying 2 = some (TypeDesc.int IntKind.i64) := by rw [h.eq]; exact Tryz.underlying2
@[simp] theorem tsz_3 : tsz E.P 3 = some 1 := by rw [h.eq]; kernel_rfl
@[simp] theorem tby_3 : tby E.P 3 = some 8 := by rw [h.eq]; kernel_rfl
@[simp] theorem tagg_3 : tagg E.P 3 = some false := by rw [h.eq]; kernel_rfl
@[simp] theorem tsl_3 : asl.tsl E.P 3 = 0 := by rw [h.eq]; kernel_rfl
@[simp] theorem srcType_3 : srcType E.P 3 = false := by rw [h.eq]; kernel_rfl
@[simp] theorem tzero_3 : tzero E.P 3 = some (AV.int IntKind.i64 0) := by rw [h.eq]; kernel_rfl
@[simp] theorem u_3 : E.P.underlying 3 = some (TypeDesc.int IntKind.i64) := by rw [h.eq]; exact Tryz.underlying3
@[simp] theorem tsz_4 : tsz E.P 4 = some 1 := by rw [h.eq]; kernel_rfl
@[simp] theorem tby_4 : tby E.P 4 = some 1 := by rw [h.eq]; kernel_rfl
@[simp] theorem tagg_4 : tagg E.P 4 = some false := by rw [h.eq]; kernel_rfl
@[simp] theorem tsl_4 : asl.tsl E.P 4 = 0 := by rw [h.eq]; kernel_rfl
@[simp] theorem srcType_4 : srcType E.P 4 = false := by rw [h.eq]; kernel_rfl
@[simp] theorem tzero_4 : tzero E.P 4 = some (AV.bool false) := by rw [h.eq]; kernel_rfl
@[simp] theorem u_4 : E.P.underlying 4 = some TypeDesc.bool := by rw [h.eq]; exact Tryz.underlying4
@[simp] theorem tsz_5 : tsz E.P 5 = some 1 := by rw [h.eq]; kernel_rfl
@[simp] theorem tby_5 : tby E.P 5 = some 1 := by rw [h.eq]; kernel_rfl
@[simp] theorem tagg_5 : tagg E.P 5 = some false := by rw [h.eq]; kernel_rfl
@[simp] theorem tsl_5 : asl.tsl E.P 5 = 0 := by rw [h.eq]; kernel_rfl
@[simp] theorem srcType_5 : srcType E.P 5 = false := by rw [h.eq]; kernel_rfl
@[simp] theorem tzero_5 : tzero E.P 5 = some (AV.int IntKind.u8 0) := by rw [h.eq]; kernel_rfl
@[simp] theorem u_5 : E.P.underlying 5 = some (TypeDesc.int IntKind.u8) := by rw [h.eq]; exact Tryz.underlying5
@[simp] theorem tsz_9 : tsz E.P 9 = some 1 := by rw [h.eq]; kernel_rfl
@[simp] theorem tby_9 : tby E.P 9 = some 16 := by rw [h.eq]; kernel_rfl
@[simp] theorem tagg_9 : tagg E.P 9 = some false := by rw [h.eq]; kernel_rfl
@[simp] theorem tsl_9 : asl.tsl E.P 9 = 1 := by rw [h.eq]; kernel_rfl
@[simp] theorem srcType_9 : srcType E.P 9 = true := by rw [h.eq]; kernel_rfl
@[simp] theorem tzero_9 : tzero E.P 9 = some (AV.str []) := by rw [h.eq]; kernel_rfl
@[simp] theorem u_9 : E.P.underlying 9 = some TypeDesc.string := by rw [h.eq]; exact Tryz.underlying9
@[simp] theorem tsz_21 : tsz E.P 21 = some 1 := by rw [h.eq]; kernel_rfl
@[simp] theorem tby_21 : tby E.P 21 = some 4 := by rw [h.eq]; kernel_rfl
@[simp] theorem tagg_21 : tagg E.P 21 = some false := by rw [h.eq]; kernel_rfl
@[simp] theorem tsl_21 : asl.tsl E.P 21 = 0 := by rw [h.eq]; kernel_rfl
@[simp] theorem srcType_21 : srcType E.P 21 = false := by rw [h.eq]; kernel_rfl
@[simp] theorem tzero_21 : tzero E.P 21 = some (AV.int IntKind.i32 0) := by rw [h.eq]; kernel_rfl
@[simp] theorem u_21 : E.P.underlying 21 = some (TypeDesc.int IntKind.i32) := by rw [h.eq]; exact Tryz.underlying21
@[simp] theorem tsz_22 : tsz E.P 22 = some 1 := by rw [h.eq]; kernel_rfl
@[simp] theorem tby_22 : tby E.P 22 = some 24 := by rw [h.eq]; kernel_rfl
@[simp] theorem tagg_22 : tagg E.P 22 = some false := by rw [h.eq]; kernel_rfl
@[simp] theorem tel_22 : tel E.P 22 = some (74, 3) := by rw [h.eq]; kernel_rfl
@[simp] theorem tsl_22 : asl.tsl E.P 22 = 0 := by rw [h.eq]; kernel_rfl
@[simp] theorem srcType_22 : srcType E.P 22 = true := by rw [h.eq]; kernel_rfl
@[simp] theorem tzero_22 : tzero E.P 22 = some AV.nilsl := by rw [h.eq]; kernel_rfl
@[simp] theorem u_22 : E.P.underlying 22 = some (TypeDesc.slice 74) := by rw [h.eq]; exact Tryz.underlying22
@[simp] theorem tsz_23 : tsz E.P 23 = some 1 := by rw [h.eq]; kernel_rfl
@[simp] theorem tby_23 : tby E.P 23 = some 24 := by rw [h.eq]; kernel_rfl
@[simp] theorem tagg_23 : tagg E.P 23 = some false := by rw [h.eq]; kernel_rfl
@[simp] theorem tel_23 : tel E.P 23 = some (76, 4) := by rw [h.eq]; kernel_rfl
@[simp] theorem tsl_23 : asl.tsl E.P 23 = 0 := by rw [h.eq]; kernel_rfl
@[simp] theorem srcType_23 : srcType E.P 23 = true := by rw [h.eq]; kernel_rfl
@[simp] theorem tzero_23 : tzero E.P 23 = some AV.nilsl := by rw [h.eq]; kernel_rfl
@[simp] theorem u_23 : E.P.underlying 23 = some (TypeDesc.slice 76) := by rw [h.eq]; exact Tryz.underlying23
@[simp] theorem tsz_24 : tsz E.P 24 = some 1 := by rw [h.eq]; kernel_rfl
@[simp] theorem tby_24 : tby E.P 24 = some 24 := by rw [h.eq]; kernel_rfl
@[simp] theorem tagg_24 : tagg E.P 24 = some false := by rw [h.eq]; kernel_rfl
@[simp] theorem tel_24 : tel E.P 24 = some (133, 2) := by rw [h.eq]; kernel_rfl
@[simp] theorem tsl_24 : asl.tsl E.P 24 = 0 := by rw [h.eq]; kernel_rfl
@[simp] theorem srcType_24 : srcType E.P 24 = true := by rw [h.eq]; kernel_rfl
@[simp] theorem tzero_24 : tzero E.P 24 = some AV.nilsl := by rw [h.eq]; kernel_rfl
@[simp] theorem u_24 : E.P.underlying 24 = some (TypeDesc.slice 133) := by rw [h.eq]; exact Tryz.underlying24
@[simp] theorem tsz_25 : tsz E.P 25 = some 1 := by rw [h.eq]; kernel_rfl
@[simp] theorem tby_25 : tby E.P 25 = some 24 := by rw [h.eq]; kernel_rfl
@[simp] theorem tagg_25 : tagg E.P 25 = some false := by rw [h.eq]; kernel_rfl
@[simp] theorem tel_25 : tel E.P 25 = some (136, 2) := by rw [h.eq]; kernel_rfl
@[simp] theorem tsl_25 : asl.tsl E.P 25 = 0 := by rw [h.eq]; kernel_rfl
@[simp] theorem srcType_25 : srcType E.P 25 = true := by rw [h.eq]; kernel_rfl
@[simp] theorem tzero_25 : tzero E.P 25 = some AV.nilsl := by rw [h.eq]; kernel_rfl
@[simp] theorem u_25 : E.P.underlying 25 = some (TypeDesc.slice 136) := by rw [h.eq]; exact Tryz.underlying25
@[simp] theorem tsz_26 : tsz E.P 26 = some 1 := by rw [h.eq]; kernel_rfl
@[simp] theorem tby_26 : tby E.P 26 = some 24 := by rw [h.eq]; kernel_rfl
@[simp] theorem tagg_26 : tagg E.P 26 = some false := by rw [h.eq]; kernel_rfl
@[simp] theorem tel_26 : tel E.P 26 = some (78, 3) := by rw [h.eq]; kernel_rfl
@[simp] theorem tsl_26 : asl.tsl E.P 26 = 0 := by rw [h.eq]; kernel_rfl
@[simp] theorem srcType_26 : srcType E.P 26 = true := by rw [h.eq]; kernel_rfl
@[simp] theorem tzero_26 : tzero E.P 26 = some AV.nilsl := by rw [h.eq]; kernel_rfl
@[simp] theorem u_26 : E.P.underlying 26 = some (TypeDesc.slice 78) := by rw [h.eq]; exact Tryz.underlying26
@[simp] theorem tsz_28 : tsz E.P 28 = some 5 := by rw [h.eq]; kernel_rfl
@[simp] theorem tby_28 : tby E.P 28 = some 120 := by rw [h.eq]; kernel_rfl
@[simp] theorem tagg_28 : tagg E.P 28 = some true := by rw [h.eq]; kernel_rfl
@[simp] theorem tsl_28 : asl.tsl E.P 28 = 0 := by rw [h.eq]; kernel_rfl
@[simp] theorem srcType_28 : srcType E.P 28 = false := by rw [h.eq]; kernel_rfl
@[simp] theorem tzero_28 : tzero E.P 28 = some (AV.agg [AV.nilsl, AV.nilsl, AV.nilsl, AV.nilsl, AV.nilsl]) := by rw [h.eq]; kernel_rfl
@[simp] theorem tfa_28_0 : tfa E.P 28 0 = some 0 := by rw [h.eq]; kernel_rfl
@[simp] theorem tfv_28_0 : tfv E.P 28 0 = some (0, 1, false) := by rw [h.eq]; kernel_rfl
@[simp] theorem tfa_28_1 : tfa E.P 28 1 = some 1 := by rw [h.eq]; kernel_rfl
@[simp] theorem tfv_28_1 : tfv E.P 28 1 = some (1, 1, false) := by rw [h.eq]; kernel_rfl
@[simp] theorem tfa_28_2 : tfa E.P 28 2 = some 2 := by rw [h.eq]; kernel_rfl
@[simp] theorem tfv_28_2 : tfv E.P 28 2 = some (2, 1, false) := by rw [h.eq]; kernel_rfl
@[simp] theorem tfa_28_3 : tfa E.P 28 3 = some 3 := by rw [h.eq]; kernel_rfl
@[simp] theorem tfv_28_3 : tfv E.P 28 3 = some (3, 1, false) := by rw [h.eq]; kernel_rfl
@[simp] theorem tfa_28_4 : tfa E.P 28 4 = some 4 := by rw [h.eq]; kernel_rfl
@[simp] theorem tfv_28_4 : tfv E.P 28 4 = some (4, 1, false) := by rw [h.eq]; kernel_rfl
@[simp] theorem tplaces_28 : tplaces E.P 28 = some (fun i => ([(0, 1), (1, 1), (2, 1), (3, 1), (4, 1)] : List (Nat × Nat))[i]?) := by rw [h.eq]; kernel_rfl
@[simp] theorem tsz_29 : tsz E.P 29 = some 1 := by rw [h.eq]; kernel_rfl
@[simp] theorem tby_29 : tby E.P 29 = some 24 := by rw [h.eq]; kernel_rfl
@[simp] theorem tagg_29 : tagg E.P 29 = some false := by rw [h.eq]; kernel_rfl
@[simp] theorem tel_29 : tel E.P 29 = some (89, 10) := by rw [h.eq]; kernel_rfl
@[simp] theorem tsl_29 : asl.tsl E.P 29 = 0 := by rw [h.eq]; kernel_rfl
@[simp] theorem srcType_29 : srcType E.P 29 = true := by rw [h.eq]; kernel_rfl
@[simp] theorem tzero_29 : tzero E.P 29 = some AV.nilsl := by rw [h.eq]; kernel_rfl
@[simp] theorem u_29 : E.P.underlying 29 = some (TypeDesc.slice 89) := by rw [h.eq]; exact Tryz.underlying29
@[simp] theorem tsz_30 : tsz E.P 30 = some 1 := by rw [h.eq]; kernel_rfl
@[simp] theorem tby_30 : tby E.P 30 = some 24 := by rw [h.eq]; kernel_rfl
@[simp] theorem tagg_30 : tagg E.P 30 = some false := by rw [h.eq]; kernel_rfl
@[simp] theorem tel_30 : tel E.P 30 = some (3, 1) := by rw [h.eq]; kernel_rfl
@[simp] theorem tsl_30 : asl.tsl E.P 30 = 0 := by rw [h.eq]; kernel_rfl
@[simp] theorem srcType_30 : srcType E.P 30 = true := by rw [h.eq]; kernel_rfl
@[simp] theorem tzero_30 : tzero E.P 30 = some AV.nilsl := by rw [h.eq]; kernel_rfl
@[simp] theorem u_30 : E.P.underlying 30 = some (TypeDesc.slice 3) := by rw [h.eq]; exact Tryz.underlying30
@[simp] theorem tsz_32 : tsz E.P 32 = some 7 := by rw [h.eq]; kernel_rfl
@[simp] theorem tby_32 : tby E.P 32 = some 168 := by rw [h.eq]; kernel_rfl
@[simp] theorem tagg_32 : tagg E.P 32 = some true := by rw [h.eq]; kernel_rfl
@[simp] theorem tsl_32 : asl.tsl E.P 32 = 0 := by rw [h.eq]; kernel_rfl
@[simp] theorem srcType_32 : srcType E.P 32 = false := by rw [h.eq]; kernel_rfl
@[simp] theorem tzero_32 : tzero E.P 32 = some  (AV.agg   [AV.nilsl, AV.nilsl, AV.nilsl, AV.nilsl, AV.nilsl, AV.nilsl, AV.nilsl]) := by rw [h.eq]; kernel_rfl
@[simp] theorem tfa_32_0 : tfa E.P 32 0 = some 0 := by rw [h.eq]; kernel_rfl
@[simp] theorem tfv_32_0 : tfv E.P 32 0 = some (0, 5, true) := by rw [h.eq]; kernel_rfl
@[simp] theorem tfa_32_1 : tfa E.P 32 1 = some 5 := by rw [h.eq]; kernel_rfl
@[simp] theorem tfv_32_1 : tfv E.P 32 1 = some (5, 1, false) := by rw [h.eq]; kernel_rfl
@[simp] theorem tfa_32_2 : tfa E.P 32 2 = some 6 := by rw [h.eq]; kernel_rfl
@[simp] theorem tfv_32_2 : tfv E.P 32 2 = some (6, 1, false) := by rw [h.eq]; kernel_rfl
@[simp] theorem tplaces_32 : tplaces E.P 32 = some (fun i => ([(0, 5), (5, 1), (6, 1)] : List (Nat × Nat))[i]?) := by rw [h.eq]; kernel_rfl
@[simp] theorem tsz_33 : tsz E.P 33 = some 1 := by rw [h.eq]; kernel_rfl
@[simp] theorem tby_33 : tby E.P 33 = some 24 := by rw [h.eq]; kernel_rfl
@[simp] theorem tagg_33 : tagg E.P 33 = some false := by rw [h.eq]; kernel_rfl
@[simp] theorem tel_33 : tel E.P 33 = some (48, 2) := by rw [h.eq]; kernel_rfl
@[simp] theorem tsl_33 : asl.tsl E.P 33 = 0 := by rw [h.eq]; kernel_rfl
@[simp] theorem srcType_33 : srcType E.P 33 = true := by rw [h.eq]; kernel_rfl
@[simp] theorem tzero_33 : tzero E.P 33 = some AV.nilsl := by rw [h.eq]; kernel_rfl
@[simp] theorem u_33 : E.P.underlying 33 = some (TypeDesc.slice 48) := by rw [h.eq]; exact Tryz.underlying33
@[simp] theorem tsz_35 : tsz E.P 35 = some 1 := by rw [h.eq]; kernel_rfl
@[simp] theorem tby_35 : tby E.P 35 = some 24 := by rw [h.eq]; kernel_rfl
@[simp] theorem tagg_35 : tagg E.P 35 = some true := by rw [h.eq]; kernel_rfl
@[simp] theorem tsl_35 : asl.tsl E.P 35 = 0 := by rw [h.eq]; kernel_rfl
@[simp] theorem srcType_35 : srcType E.P 35 = false := by rw [h.eq]; kernel_rfl
@[simp] theorem tzero_35 : tzero E.P 35 = some (AV.agg [AV.nilsl]) := by rw [h.eq]; kernel_rfl
@[simp] theorem tfa_35_0 : tfa E.P 35 0 = some 0 := by rw [h.eq]; kernel_rfl
@[simp] theorem tfv_35_0 : tfv E.P 35 0 = some (0, 1, false) := by rw [h.eq]; kernel_rfl
@[simp] theorem tplaces_35 : tplaces E.P 35 = some (fun i => ([(0, 1)] : List (Nat × Nat))[i]?) := by rw [h.eq]; kernel_rfl
@[simp] theorem tsz_42 : tsz E.P 42 = some 1 := by rw [h.eq]; kernel_rfl
@[simp] theorem tby_42 : tby E.P 42 = some 24 := by rw [h.eq]; kernel_rfl
@[simp] theorem tagg_42 : tagg E.P 42 = some false := by rw [h.eq]; kernel_rfl
@[simp] theorem tel_42 : tel E.P 42 = some (35, 1) := by rw [h.eq]; kernel_rfl
@[simp] theorem tsl_42 : asl.tsl E.P 42 = 0 := by rw [h.eq]; kernel_rfl
@[simp] theorem srcType_42 : srcType E.P 42 = true := by rw [h.eq]; kernel_rfl
@[simp] theorem tzero_42 : tzero E.P 42 = some AV.nilsl := by rw [h.eq]; kernel_rfl
@[simp] theorem u_42 : E.P.underlying 42 = some (TypeDesc.slice 35) := by rw [h.eq]; exact Tryz.underlying42
@[simp] theorem tsz_43 : tsz E.P 43 = some 1 := by rw [h.eq]; kernel_rfl
@[simp] theorem tby_43 : tby E.P 43 = some 8 := by rw [h.eq]; kernel_rfl
@[simp] theorem tagg_43 : tagg E.P 43 = some false := by rw [h.eq]; kernel_rfl
@[simp] theorem tsl_43 : asl.tsl E.P 43 = 0 := by rw [h.eq]; kernel_rfl
@[simp] theorem srcType_43 : srcType E.P 43 = false := by rw [h.eq]; kernel_rfl
@[simp] theorem tzero_43 : tzero E.P 43 = some (AV.int IntKind.i64 0) := by rw [h.eq]; kernel_rfl
@[simp] theorem u_43 : E.P.underlying 43 = some (TypeDesc.int IntKind.i64) := by rw [h.eq]; exact Tryz.underlying43
@[simp] theorem tsz_48 : tsz E.P 48 = some 2 := by rw [h.eq]; kernel_rfl
@[simp] theorem tby_48 : tby E.P 48 = some 16 := by rw [h.eq]; kernel_rfl
@[simp] theorem tagg_48 : tagg E.P 48 = some true := by rw [h.eq]; kernel_rfl
@[simp] theorem tsl_48 : asl.tsl E.P 48 = 0 := by rw [h.eq]; kernel_rfl
@[simp] theorem srcType_48 : srcType E.P 48 = false := by rw [h.eq]; kernel_rfl
@[simp] theorem tplain_48 : tplain E.P 48 = some [(0, TypeDesc.int IntKind.i64), (1, TypeDesc.int IntKind.i64)] := by rw [h.eq]; kernel_rfl
@[simp] theorem tzero_48 : tzero E.P 48 = some (AV.agg [AV.int IntKind.i64 0, AV.int IntKind.i64 0]) := by rw [h.eq]; kernel_rfl
@[simp] theorem tfa_48_0 : tfa E.P 48 0 = some 0 := by rw [h.eq]; kernel_rfl
@[simp] theorem tfv_48_0 : tfv E.P 48 0 = some (0, 1, false) := by rw [h.eq]; kernel_rfl
@[simp] theorem tfa_48_1 : tfa E.P 48 1 = some 1 := by rw [h.eq]; kernel_rfl
@[simp] theorem tfv_48_1 : tfv E.P 48 1 = some (1, 1, false) := by rw [h.eq]; kernel_rfl
@[simp] theorem tplaces_48 : tplaces E.P 48 = some (fun i => ([(0, 1), (1, 1)] : List (Nat × Nat))[i]?) := by rw [h.eq]; kernel_rfl
@[simp] theorem tsz_51 : tsz E.P 51 = some 4 := by rw [h.eq]; kernel_rfl
@[simp] theorem tby_51 : tby E.P 51 = some 48 := by rw [h.eq]; kernel_rfl
@[simp] theorem tagg_51 : tagg E.P 51 = some true := by rw [h.eq]; kernel_rfl
@[simp] theorem tsl_51 : asl.tsl E.P 51 = 0 := by rw [h.eq]; kernel_rfl
@[simp] theorem srcType_51 : srcType E.P 51 = false := by rw [h.eq]; kernel_rfl
@[simp] theorem tzero_51 : tzero E.P 51 = some  (AV.agg   [AV.int IntKind.i64 0, AV.nilsl, AV.int IntKind.i64 0,    AV.bool false]) := by rw [h.eq]; kernel_rfl
@[simp] theorem tfa_51_0 : tfa E.P 51 0 = some 0 := by rw [h.eq]; kernel_rfl
@[simp] theorem tfv_51_0 : tfv E.P 51 0 = some (0, 1, false) := by rw [h.eq]; kernel_rfl
@[simp] theorem tfa_51_1 : tfa E.P 51 1 = some 1 := by rw [h.eq]; kernel_rfl
@[simp] theorem tfv_51_1 : tfv E.P 51 1 = some (1, 1, true) := by rw [h.eq]; kernel_rfl
@[simp] theorem tfa_51_2 : tfa E.P 51 2 = some 2 := by rw [h.eq]; kernel_rfl
@[simp] theorem tfv_51_2 : tfv E.P 51 2 = some (2, 1, false) := by rw [h.eq]; kernel_rfl
@[simp] theorem tfa_51_3 : tfa E.P 51 3 = some 3 := by rw [h.eq]; kernel_rfl
@[simp] theorem tfv_51_3 : tfv E.P 51 3 = some (3, 1, false) := by rw [h.eq]; kernel_rfl
@[simp] theorem tplaces_51 : tplaces E.P 51 = some (fun i => ([(0, 1), (1, 1), (2, 1), (3, 1)] : List (Nat × Nat))[i]?) := by rw [h.eq]; kernel_rfl
@[simp] theorem tsz_52 : tsz E.P 52 = some 1 := by rw [h.eq]; kernel_rfl
@[simp] theorem tby_52 : tby E.P 52 = some 24 := by rw [h.eq]; kernel_rfl
@[simp] theorem tagg_52 : tagg E.P 52 = some false := by rw [h.eq]; kernel_rfl
@[simp] theorem tel_52 : tel E.P 52 = some (9, 1) := by rw [h.eq]; kernel_rfl
@[simp] theorem tsl_52 : asl.tsl E.P 52 = 0 := by rw [h.eq]; kernel_rfl
@[simp] theorem srcType_52 : srcType E.P 52 = true := by rw [h.eq]; kernel_rfl
@[simp] theorem tzero_52 : tzero E.P 52 = some AV.nilsl := by rw [h.eq]; kernel_rfl
@[simp] theorem u_52 : E.P.underlying 52 = some (TypeDesc.slice 9) := by rw [h.eq]; exact Tryz.underlying52
@[simp] theorem tsz_54 : tsz E.P 54 = some 5 := by rw [h.eq]; kernel_rfl
@[simp] theorem tby_54 : tby E.P 54 = some 72 := by rw [h.eq]; kernel_rfl
@[simp] theorem tagg_54 : tagg E.P 54 = some true := by rw [h.eq]; kernel_rfl
@[simp] theorem tsl_54 : asl.tsl E.P 54 = 0 := by rw [h.eq]; kernel_rfl
@[simp] theorem srcType_54 : srcType E.P 54 = false := by rw [h.eq]; kernel_rfl
@[simp] theorem tzero_54 : tzero E.P 54 = some  (AV.agg   [AV.int IntKind.i64 0, AV.int IntKind.i64 0,    AV.int IntKind.i64 0, AV.nilsl, AV.nilsl]) := by rw [h.eq]; kernel_rfl
@[simp] theorem tfa_54_0 : tfa E.P 54 0 = some 0 := by rw [h.eq]; kernel_rfl
@[simp] theorem tfv_54_0 : tfv E.P 54 0 = some (0, 1, false) := by rw [h.eq]; kernel_rfl
@[simp] theorem tfa_54_1 : tfa E.P 54 1 = some 1 := by rw [h.eq]; kernel_rfl
@[simp] theorem tfv_54_1 : tfv E.P 54 1 = some (1, 1, false) := by rw [h.eq]; kernel_rfl
@[simp] theorem tfa_54_2 : tfa E.P 54 2 = some 2 := by rw [h.eq]; kernel_rfl
@[simp] theorem tfv_54_2 : tfv E.P 54 2 = some (2, 1, false) := by rw [h.eq]; kernel_rfl
@[simp] theorem tfa_54_3 : tfa E.P 54 3 = some 3 := by rw [h.eq]; kernel_rfl
@[simp] theorem tfv_54_3 : tfv E.P 54 3 = some (3, 1, true) := by rw [h.eq]; kernel_rfl
@[simp] theorem tfa_54_4 : tfa E.P 54 4 = some 4 := by rw [h.eq]; kernel_rfl
@[simp] theorem tfv_54_4 : tfv E.P 54 4 = some (4, 1, false) := by rw [h.eq]; kernel_rfl
@[simp] theorem tplaces_54 : tplaces E.P 54 = some (fun i => ([(0, 1), (1, 1), (2, 1), (3, 1), (4, 1)] : List (Nat × Nat))[i]?) := by rw [h.eq]; kernel_rfl
@[simp] theorem tsz_55 : tsz E.P 55 = some 1 := by rw [h.eq]; kernel_rfl
@[simp] theorem tby_55 : tby E.P 55 = some 24 := by rw [h.eq]; kernel_rfl
@[simp] theorem tagg_55 : tagg E.P 55 = some false := by rw [h.eq]; kernel_rfl
@[simp] theorem tel_55 : tel E.P 55 = some (30, 1) := by rw [h.eq]; kernel_rfl
@[simp] theorem tsl_55 : asl.tsl E.P 55 = 0 := by rw [h.eq]; kernel_rfl
@[simp] theorem srcType_55 : srcType E.P 55 = true := by rw [h.eq]; kernel_rfl
@[simp] theorem tzero_55 : tzero E.P 55 = some AV.nilsl := by rw [h.eq]; kernel_rfl
@[simp] theorem u_55 : E.P.underlying 55 = some (TypeDesc.slice 30) := by rw [h.eq]; exact Tryz.underlying55
@[simp] theorem tsz_57 : tsz E.P 57 = some 3 := by rw [h.eq]; kernel_rfl
@[simp] theorem tby_57 : tby E.P 57 = some 56 := by rw [h.eq]; kernel_rfl
@[simp] theorem tagg_57 : tagg E.P 57 = some true := by rw [h.eq]; kernel_rfl
@[simp] theorem tsl_57 : asl.tsl E.P 57 = 0 := by rw [h.eq]; kernel_rfl
@[simp] theorem srcType_57 : srcType E.P 57 = false := by rw [h.eq]; kernel_rfl
@[simp] theorem tzero_57 : tzero E.P 57 = some (AV.agg [AV.int IntKind.i64 0, AV.nilsl, AV.nilsl]) := by rw [h.eq]; kernel_rfl
@[simp] theorem tfa_57_0 : tfa E.P 57 0 = some 0 := by rw [h.eq]; kernel_rfl
@[simp] theorem tfv_57_0 : tfv E.P 57 0 = some (0, 1, false) := by rw [h.eq]; kernel_rfl
@[simp] theorem tfa_57_1 : tfa E.P 57 1 = some 1 := by rw [h.eq]; kernel_rfl
@[simp] theorem tfv_57_1 : tfv E.P 57 1 = some (1, 1, false) := by rw [h.eq]; kernel_rfl
@[simp] theorem tfa_57_2 : tfa E.P 57 2 = some 2 := by rw [h.eq]; kernel_rfl
@[simp] theorem tfv_57_2 : tfv E.P 57 2 = some (2, 1, false) := by rw [h.eq]; kernel_rfl
@[simp] theorem tplaces_57 : tplaces E.P 57 = some (fun i => ([(0, 1), (1, 1), (2, 1)] : List (Nat × Nat))[i]?) := by rw [h.eq]; kernel_rfl
@[simp] theorem tsz_59 : tsz E.P 59 = some 23 := by rw [h.eq]; kernel_rfl
@[simp] theorem tby_59 : tby E.P 59 = some 392 := by rw [h.eq]; kernel_rfl
@[simp] theorem tagg_59 : tagg E.P 59 = some true := by rw [h.eq]; kernel_rfl
@[simp] theorem tsl_59 : asl.tsl E.P 59 = 0 := by rw [h.eq]; kernel_rfl
@[simp] theorem srcType_59 : srcType E.P 59 = false := by rw [h.eq]; kernel_rfl
@[simp] theorem tzero_59 : tzero E.P 59 = some  (AV.agg   [AV.int IntKind.i64 0, AV.nilsl, AV.nilsl, AV.nilsl, AV.nilsl,    AV.nilsl, AV.nilsl, AV.nilsl, AV.nilsl, AV.int IntKind.i64 0,    AV.nilsl, AV.int IntKind.i64 0, AV.bool false,    AV.int IntKind.i64 0, AV.int IntKind.i64 0,    AV.int IntKind.i64 0, AV.nilsl, AV.nilsl,    AV.int IntKind.i64 0, AV.nilsl, AV.nilsl,    AV.int IntKind.i64 0, AV.int IntKind.i64 0]) := by rw [h.eq]; kernel_rfl
@[simp] theorem tfa_59_0 : tfa E.P 59 0 = some 0 := by rw [h.eq]; kernel_rfl
@[simp] theorem tfv_59_0 : tfv E.P 59 0 = some (0, 1, false) := by rw [h.eq]; kernel_rfl
@[simp] theorem tfa_59_1 : tfa E.P 59 1 = some 1 := by rw [h.eq]; kernel_rfl
@[simp] theorem tfv_59_1 : tfv E.P 59 1 = some (1, 7, true) := by rw [h.eq]; kernel_rfl
@[simp] theorem tfa_59_2 : tfa E.P 59 2 = some 8 := by rw [h.eq]; kernel_rfl
@[simp] theorem tfv_59_2 : tfv E.P 59 2 = some (8, 1, true) := by rw [h.eq]; kernel_rfl
@[simp] theorem tfa_59_3 : tfa E.P 59 3 = some 9 := by rw [h.eq]; kernel_rfl
@[simp] theorem tfv_59_3 : tfv E.P 59 3 = some (9, 4, true) := by rw [h.eq]; kernel_rfl
@[simp] theorem tfa_59_4 : tfa E.P 59 4 = some 13 := by rw [h.eq]; kernel_rfl
@[simp] theorem tfv_59_4 : tfv E.P 59 4 = some (13, 5, true) := by rw [h.eq]; kernel_rfl
@[simp] theorem tfa_59_5 : tfa E.P 59 5 = some 18 := by rw [h.eq]; kernel_rfl
@[simp] theorem tfv_59_5 : tfv E.P 59 5 = some (18, 3, true) := by rw [h.eq]; kernel_rfl
@[simp] theorem tfa_59_6 : tfa E.P 59 6 = some 21 := by rw [h.eq]; kernel_rfl
@[simp] theorem tfv_59_6 : tfv E.P 59 6 = some (21, 1, false) := by rw [h.eq]; kernel_rfl
@[simp] theorem tfa_59_7 : tfa E.P 59 7 = some 22 := by rw [h.eq]; kernel_rfl
@[simp] theorem tfv_59_7 : tfv E.P 59 7 = some (22, 1, false) := by rw [h.eq]; kernel_rfl
@[simp] theorem tplaces_59 : tplaces E.P 59 = some (fun i => ([(0, 1), (1, 7), (8, 1), (9, 4), (13, 5), (18, 3), (21, 1), (22, 1)] : List (Nat × Nat))[i]?) := by rw [h.eq]; kernel_rfl
@[simp] theorem tsz_74 : tsz E.P 74 = some 3 := by rw [h.eq]; kernel_rfl
@[simp] theorem tby_74 : tby E.P 74 = some 32 := by rw [h.eq]; kernel_rfl
@[simp] theorem tagg_74 : tagg E.P 74 = some true := by rw [h.eq]; kernel_rfl
@[simp] theorem tsl_74 : asl.tsl E.P 74 = 0 := by rw [h.eq]; kernel_rfl
@[simp] theorem srcType_74 : srcType E.P 74 = false := by rw [h.eq]; kernel_rfl
@[simp] theorem tplain_74 : tplain E.P 74 = some [(0, TypeDesc.string), (1, TypeDesc.int IntKind.i64), (2, TypeDesc.int IntKind.i64)] := by rw [h.eq]; kernel_rfl
@[simp] theorem tzero_74 : tzero E.P 74 = some  (AV.agg [AV.str [], AV.int IntKind.i64 0, AV.int IntKind.i64 0]) := by rw [h.eq]; kernel_rfl
@[simp] theorem tfa_74_0 : tfa E.P 74 0 = some 0 := by rw [h.eq]; kernel_rfl
@[simp] theorem tfv_74_0 : tfv E.P 74 0 = some (0, 1, false) := by rw [h.eq]; kernel_rfl
@[simp] theorem tfa_74_1 : tfa E.P 74 1 = some 1 := by rw [h.eq]; kernel_rfl
@[simp] theorem tfv_74_1 : tfv E.P 74 1 = some (1, 1, false) := by rw [h.eq]; kernel_rfl
@[simp] theorem tfa_74_2 : tfa E.P 74 2 = some 2 := by rw [h.eq]; kernel_rfl
@[simp] theorem tfv_74_2 : tfv E.P 74 2 = some (2, 1, false) := by rw [h.eq]; kernel_rfl
@[simp] theorem tplaces_74 : tplaces E.P 74 = some (fun i => ([(0, 1), (1, 1), (2, 1)] : List (Nat × Nat))[i]?) := by rw [h.eq]; kernel_rfl
@[simp] theorem tsz_76 : tsz E.P 76 = some 4 := by rw [h.eq]; kernel_rfl
@[simp] theorem tby_76 : tby E.P 76 = some 56 := by rw [h.eq]; kernel_rfl
@[simp] theorem tagg_76 : tagg E.P 76 = some true := by rw [h.eq]; kernel_rfl
@[simp] theorem tsl_76 : asl.tsl E.P 76 = 0 := by rw [h.eq]; kernel_rfl
@[simp] theorem srcType_76 : srcType E.P 76 = false := by rw [h.eq]; kernel_rfl
@[simp] theorem tzero_76 : tzero E.P 76 = some  (AV.agg   [AV.str [], AV.int IntKind.i64 0, AV.int IntKind.i64 0,    AV.nilsl]) := by rw [h.eq]; kernel_rfl
@[simp] theorem tfa_76_0 : tfa E.P 76 0 = some 0 := by rw [h.eq]; kernel_rfl
@[simp] theorem tfv_76_0 : tfv E.P 76 0 = some (0, 1, false) := by rw [h.eq]; kernel_rfl
@[simp] theorem tfa_76_1 : tfa E.P 76 1 = some 1 := by rw [h.eq]; kernel_rfl
@[simp] theorem tfv_76_1 : tfv E.P 76 1 = some (1, 1, false) := by rw [h.eq]; kernel_rfl
@[simp] theorem tfa_76_2 : tfa E.P 76 2 = some 2 := by rw [h.eq]; kernel_rfl
@[simp] theorem tfv_76_2 : tfv E.P 76 2 = some (2, 1, false) := by rw [h.eq]; kernel_rfl
@[simp] theorem tfa_76_3 : tfa E.P 76 3 = some 3 := by rw [h.eq]; kernel_rfl
@[simp] theorem tfv_76_3 : tfv E.P 76 3 = some (3, 1, false) := by rw [h.eq]; kernel_rfl
@[simp] theorem tplaces_76 : tplaces E.P 76 = some (fun i => ([(0, 1), (1, 1), (2, 1), (3, 1)] : List (Nat × Nat))[i]?) := by rw [h.eq]; kernel_rfl
@[simp] theorem tsz_78 : tsz E.P 78 = some 3 := by rw [h.eq]; kernel_rfl
@[simp] theorem tby_78 : tby E.P 78 = some 64 := by rw [h.eq]; kernel_rfl
@[simp] theorem tagg_78 : tagg E.P 78 = some true := by rw [h.eq]; kernel_rfl
@[simp] theorem tsl_78 : asl.tsl E.P 78 = 0 := by rw [h.eq]; kernel_rfl
@[simp] theorem srcType_78 : srcType E.P 78 = false := by rw [h.eq]; kernel_rfl
@[simp] theorem tzero_78 : tzero E.P 78 = some (AV.agg [AV.str [], AV.nilsl, AV.nilsl]) := by rw [h.eq]; kernel_rfl
@[simp] theorem tfa_78_0 : tfa E.P 78 0 = some 0 := by rw [h.eq]; kernel_rfl
@[simp] theorem tfv_78_0 : tfv E.P 78 0 = some (0, 1, false) := by rw [h.eq]; kernel_rfl
@[simp] theorem tfa_78_1 : tfa E.P 78 1 = some 1 := by rw [h.eq]; kernel_rfl
@[simp] theorem tfv_78_1 : tfv E.P 78 1 = some (1, 1, false) := by rw [h.eq]; kernel_rfl
@[simp] theorem tfa_78_2 : tfa E.P 78 2 = some 2 := by rw [h.eq]; kernel_rfl
@[simp] theorem tfv_78_2 : tfv E.P 78 2 = some (2, 1, false) := by rw [h.eq]; kernel_rfl
@[simp] theorem tplaces_78 : tplaces E.P 78 = some (fun i => ([(0, 1), (1, 1), (2, 1)] : List (Nat × Nat))[i]?) := by rw [h.eq]; kernel_rfl
@[simp] theorem tsz_80 : tsz E.P 80 = some 3 := by rw [h.eq]; kernel_rfl
@[simp] theorem tby_80 : tby E.P 80 = some 32 := by rw [h.eq]; kernel_rfl
@[simp] theorem tagg_80 : tagg E.P 80 = some true := by rw [h.eq]; kernel_rfl
@[simp] theorem tsl_80 : asl.tsl E.P 80 = 0 := by rw [h.eq]; kernel_rfl
@[simp] theorem srcType_80 : srcType E.P 80 = false := by rw [h.eq]; kernel_rfl
@[simp] theorem tplain_80 : tplain E.P 80 = some [(0, TypeDesc.int IntKind.i64), (1, TypeDesc.string), (2, TypeDesc.int IntKind.i64)] := by rw [h.eq]; kernel_rfl
@[simp] theorem tzero_80 : tzero E.P 80 = some  (AV.agg [AV.int IntKind.i64 0, AV.str [], AV.int IntKind.i64 0]) := by rw [h.eq]; kernel_rfl
@[simp] theorem tfa_80_0 : tfa E.P 80 0 = some 0 := by rw [h.eq]; kernel_rfl
@[simp] theorem tfv_80_0 : tfv E.P 80 0 = some (0, 1, false) := by rw [h.eq]; kernel_rfl
@[simp] theorem tfa_80_1 : tfa E.P 80 1 = some 1 := by rw [h.eq]; kernel_rfl
@[simp] theorem tfv_80_1 : tfv E.P 80 1 = some (1, 1, false) := by rw [h.eq]; kernel_rfl
@[simp] theorem tfa_80_2 : tfa E.P 80 2 = some 2 := by rw [h.eq]; kernel_rfl
@[simp] theorem tfv_80_2 : tfv E.P 80 2 = some (2, 1, false) := by rw [h.eq]; kernel_rfl
@[simp] theorem tplaces_80 : tplaces E.P 80 = some (fun i => ([(0, 1), (1, 1), (2, 1)] : List (Nat × Nat))[i]?) := by rw [h.eq]; kernel_rfl
@[simp] theorem tsz_81 : tsz E.P 81 = some 1 := by rw [h.eq]; kernel_rfl
@[simp] theorem tby_81 : tby E.P 81 = some 24 := by rw [h.eq]; kernel_rfl
@[simp] theorem tagg_81 : tagg E.P 81 = some false := by rw [h.eq]; kernel_rfl
@[simp] theorem tel_81 : tel E.P 81 = some (80, 3) := by rw [h.eq]; kernel_rfl
@[simp] theorem tsl_81 : asl.tsl E.P 81 = 0 := by rw [h.eq]; kernel_rfl
@[simp] theorem srcType_81 : srcType E.P 81 = true := by rw [h.eq]; kernel_rfl
@[simp] theorem tzero_81 : tzero E.P 81 = some AV.nilsl := by rw [h.eq]; kernel_rfl
@[simp] theorem u_81 : E.P.underlying 81 = some (TypeDesc.slice 80) := by rw [h.eq]; exact Tryz.underlying81
@[simp] theorem tsz_82 : tsz E.P 82 = some 1 := by rw [h.eq]; kernel_rfl
@[simp] theorem tby_82 : tby E.P 82 = some 24 := by rw [h.eq]; kernel_rfl
@[simp] theorem tagg_82 : tagg E.P 82 = some false := by rw [h.eq]; kernel_rfl
@[simp] theorem tel_82 : tel E.P 82 = some (87, 2) := by rw [h.eq]; kernel_rfl
@[simp] theorem tsl_82 : asl.tsl E.P 82 = 0 := by rw [h.eq]; kernel_rfl
@[simp] theorem srcType_82 : srcType E.P 82 = true := by rw [h.eq]; kernel_rfl
@[simp] theorem tzero_82 : tzero E.P 82 = some AV.nilsl := by rw [h.eq]; kernel_rfl
@[simp] theorem u_82 : E.P.underlying 82 = some (TypeDesc.slice 87) := by rw [h.eq]; exact Tryz.underlying82
@[simp] theorem tsz_83 : tsz E.P 83 = some 1 := by rw [h.eq]; kernel_rfl
@[simp] theorem tby_83 : tby E.P 83 = some 24 := by rw [h.eq]; kernel_rfl
@[simp] theorem tagg_83 : tagg E.P 83 = some false := by rw [h.eq]; kernel_rfl
@[simp] theorem tel_83 : tel E.P 83 = some (85, 6) := by rw [h.eq]; kernel_rfl
@[simp] theorem tsl_83 : asl.tsl E.P 83 = 0 := by rw [h.eq]; kernel_rfl
@[simp] theorem srcType_83 : srcType E.P 83 = true := by rw [h.eq]; kernel_rfl
@[simp] theorem tzero_83 : tzero E.P 83 = some AV.nilsl := by rw [h.eq]; kernel_rfl
@[simp] theorem u_83 : E.P.underlying 83 = some (TypeDesc.slice 85) := by rw [h.eq]; exact Tryz.underlying83
@[simp] theorem tsz_85 : tsz E.P 85 = some 6 := by rw [h.eq]; kernel_rfl
@[simp] theorem tby_85 : tby E.P 85 = some 104 := by rw [h.eq]; kernel_rfl
@[simp] theorem tagg_85 : tagg E.P 85 = some true := by rw [h.eq]; kernel_rfl
@[simp] theorem tsl_85 : asl.tsl E.P 85 = 0 := by rw [h.eq]; kernel_rfl
@[simp] theorem srcType_85 : srcType E.P 85 = false := by rw [h.eq]; kernel_rfl
@[simp] theorem tzero_85 : tzero E.P 85 = some  (AV.agg   [AV.int IntKind.i64 0, AV.str [], AV.int IntKind.i64 0,    AV.nilsl, AV.nilsl, AV.nilsl]) := by rw [h.eq]; kernel_rfl
@[simp] theorem tfa_85_0 : tfa E.P 85 0 = some 0 := by rw [h.eq]; kernel_rfl
@[simp] theorem tfv_85_0 : tfv E.P 85 0 = some (0, 1, false) := by rw [h.eq]; kernel_rfl
@[simp] theorem tfa_85_1 : tfa E.P 85 1 = some 1 := by rw [h.eq]; kernel_rfl
@[simp] theorem tfv_85_1 : tfv E.P 85 1 = some (1, 1, false) := by rw [h.eq]; kernel_rfl
@[simp] theorem tfa_85_2 : tfa E.P 85 2 = some 2 := by rw [h.eq]; kernel_rfl
@[simp] theorem tfv_85_2 : tfv E.P 85 2 = some (2, 1, false) := by rw [h.eq]; kernel_rfl
@[simp] theorem tfa_85_3 : tfa E.P 85 3 = some 3 := by rw [h.eq]; kernel_rfl
@[simp] theorem tfv_85_3 : tfv E.P 85 3 = some (3, 1, false) := by rw [h.eq]; kernel_rfl
@[simp] theorem tfa_85_4 : tfa E.P 85 4 = some 4 := by rw [h.eq]; kernel_rfl
@[simp] theorem tfv_85_4 : tfv E.P 85 4 = some (4, 1, false) := by rw [h.eq]; kernel_rfl
@[simp] theorem tfa_85_5 : tfa E.P 85 5 = some 5 := by rw [h.eq]; kernel_rfl
@[simp] theorem tfv_85_5 : tfv E.P 85 5 = some (5, 1, false) := by rw [h.eq]; kernel_rfl
@[simp] theorem tplaces_85 : tplaces E.P 85 = some (fun i => ([(0, 1), (1, 1), (2, 1), (3, 1), (4, 1), (5, 1)] : List (Nat × Nat))[i]?) := by rw [h.eq]; kernel_rfl
@[simp] theorem tsz_87 : tsz E.P 87 = some 2 := by rw [h.eq]; kernel_rfl
@[simp] theorem tby_87 : tby E.P 87 = some 24 := by rw [h.eq]; kernel_rfl
@[simp] theorem tagg_87 : tagg E.P 87 = some true := by rw [h.eq]; kernel_rfl
@[simp] theorem tsl_87 : asl.tsl E.P 87 = 0 := by rw [h.eq]; kernel_rfl
@[simp] theorem srcType_87 : srcType E.P 87 = false := by rw [h.eq]; kernel_rfl
@[simp] theorem tplain_87 : tplain E.P 87 = some [(0, TypeDesc.string), (1, TypeDesc.int IntKind.i64)] := by rw [h.eq]; kernel_rfl
@[simp] theorem tzero_87 : tzero E.P 87 = some (AV.agg [AV.str [], AV.int IntKind.i64 0]) := by rw [h.eq]; kernel_rfl
@[simp] theorem tfa_87_0 : tfa E.P 87 0 = some 0 := by rw [h.eq]; kernel_rfl
@[simp] theorem tfv_87_0 : tfv E.P 87 0 = some (0, 1, false) := by rw [h.eq]; kernel_rfl
@[simp] theorem tfa_87_1 : tfa E.P 87 1 = some 1 := by rw [h.eq]; kernel_rfl
@[simp] theorem tfv_87_1 : tfv E.P 87 1 = some (1, 1, false) := by rw [h.eq]; kernel_rfl
@[simp] theorem tplaces_87 : tplaces E.P 87 = some (fun i => ([(0, 1), (1, 1)] : List (Nat × Nat))[i]?) := by rw [h.eq]; kernel_rfl
@[simp] theorem tsz_89 : tsz E.P 89 = some 10 := by rw [h.eq]; kernel_rfl
@[simp] theorem tby_89 : tby E.P 89 = some 160 := by rw [h.eq]; kernel_rfl
@[simp] theorem tagg_89 : tagg E.P 89 = some true := by rw [h.eq]; kernel_rfl
@[simp] theorem tsl_89 : asl.tsl E.P 89 = 0 := by rw [h.eq]; kernel_rfl
@[simp] theorem srcType_89 : srcType E.P 89 = false := by rw [h.eq]; kernel_rfl
@[simp] theorem tzero_89 : tzero E.P 89 = some  (AV.agg   [AV.str [], AV.bool false, AV.int IntKind.i64 0, AV.nilsl,    AV.int IntKind.i64 0, AV.str [], AV.int IntKind.i64 0,    AV.nilsl, AV.nilsl, AV.nilsl]) := by rw [h.eq]; kernel_rfl
@[simp] theorem tfa_89_0 : tfa E.P 89 0 = some 0 := by rw [h.eq]; kernel_rfl
@[simp] theorem tfv_89_0 : tfv E.P 89 0 = some (0, 1, false) := by rw [h.eq]; kernel_rfl
@[simp] theorem tfa_89_1 : tfa E.P 89 1 = some 1 := by rw [h.eq]; kernel_rfl
@[simp] theorem tfv_89_1 : tfv E.P 89 1 = some (1, 1, false) := by rw [h.eq]; kernel_rfl
@[simp] theorem tfa_89_2 : tfa E.P 89 2 = some 2 := by rw [h.eq]; kernel_rfl
@[simp] theorem tfv_89_2 : tfv E.P 89 2 = some (2, 1, false) := by rw [h.eq]; kernel_rfl
@[simp] theorem tfa_89_3 : tfa E.P 89 3 = some 3 := by rw [h.eq]; kernel_rfl
@[simp] theorem tfv_89_3 : tfv E.P 89 3 = some (3, 1, false) := by rw [h.eq]; kernel_rfl
@[simp] theorem tfa_89_4 : tfa E.P 89 4 = some 4 := by rw [h.eq]; kernel_rfl
@[simp] theorem tfv_89_4 : tfv E.P 89 4 = some (4, 6, true) := by rw [h.eq]; kernel_rfl
@[simp] theorem tplaces_89 : tplaces E.P 89 = some (fun i => ([(0, 1), (1, 1), (2, 1), (3, 1), (4, 6)] : List (Nat × Nat))[i]?) := by rw [h.eq]; kernel_rfl
@[simp] theorem tsz_91 : tsz E.P 91 = some 1 := by rw [h.eq]; kernel_rfl
@[simp] theorem tby_91 : tby E.P 91 = some 8 := by rw [h.eq]; kernel_rfl
@[simp] theorem tagg_91 : tagg E.P 91 = some false := by rw [h.eq]; kernel_rfl
@[simp] theorem tsl_91 : asl.tsl E.P 91 = 0 := by rw [h.eq]; kernel_rfl
@[simp] theorem srcType_91 : srcType E.P 91 = false := by rw [h.eq]; kernel_rfl
@[simp] theorem tzero_91 : tzero E.P 91 = some AV.nilmap := by rw [h.eq]; kernel_rfl
@[simp] theorem u_91 : E.P.underlying 91 = some (TypeDesc.map 3 49) := by rw [h.eq]; exact Tryz.underlying91
@[simp] theorem tsz_92 : tsz E.P 92 = some 1 := by rw [h.eq]; kernel_rfl
@[simp] theorem tby_92 : tby E.P 92 = some 24 := by rw [h.eq]; kernel_rfl
@[simp] theorem tagg_92 : tagg E.P 92 = some false := by rw [h.eq]; kernel_rfl
@[simp] theorem tel_92 : tel E.P 92 = some (4, 1) := by rw [h.eq]; kernel_rfl
@[simp] theorem tsl_92 : asl.tsl E.P 92 = 0 := by rw [h.eq]; kernel_rfl
@[simp] theorem srcType_92 : srcType E.P 92 = true := by rw [h.eq]; kernel_rfl
@[simp] theorem tzero_92 : tzero E.P 92 = some AV.nilsl := by rw [h.eq]; kernel_rfl
@[simp] theorem u_92 : E.P.underlying 92 = some (TypeDesc.slice 4) := by rw [h.eq]; exact Tryz.underlying92
@[simp] theorem tsz_93 : tsz E.P 93 = some 1 := by rw [h.eq]; kernel_rfl
@[simp] theorem tby_93 : tby E.P 93 = some 24 := by rw [h.eq]; kernel_rfl
@[simp] theorem tagg_93 : tagg E.P 93 = some false := by rw [h.eq]; kernel_rfl
@[simp] theorem tel_93 : tel E.P 93 = some (92, 1) := by rw [h.eq]; kernel_rfl
@[simp] theorem tsl_93 : asl.tsl E.P 93 = 0 := by rw [h.eq]; kernel_rfl
@[simp] theorem srcType_93 : srcType E.P 93 = true := by rw [h.eq]; kernel_rfl
@[simp] theorem tzero_93 : tzero E.P 93 = some AV.nilsl := by rw [h.eq]; kernel_rfl
@[simp] theorem u_93 : E.P.underlying 93 = some (TypeDesc.slice 92) := by rw [h.eq]; exact Tryz.underlying93
@[simp] theorem tsz_95 : tsz E.P 95 = some 3 := by rw [h.eq]; kernel_rfl
@[simp] theorem tby_95 : tby E.P 95 = some 56 := by rw [h.eq]; kernel_rfl
@[simp] theorem tagg_95 : tagg E.P 95 = some true := by rw [h.eq]; kernel_rfl
@[simp] theorem tsl_95 : asl.tsl E.P 95 = 0 := by rw [h.eq]; kernel_rfl
@[simp] theorem srcType_95 : srcType E.P 95 = false := by rw [h.eq]; kernel_rfl
@[simp] theorem tzero_95 : tzero E.P 95 = some (AV.agg [AV.nilsl, AV.nilsl, AV.int IntKind.i64 0]) := by rw [h.eq]; kernel_rfl
@[simp] theorem tfa_95_0 : tfa E.P 95 0 = some 0 := by rw [h.eq]; kernel_rfl
@[simp] theorem tfv_95_0 : tfv E.P 95 0 = some (0, 1, false) := by rw [h.eq]; kernel_rfl
@[simp] theorem tfa_95_1 : tfa E.P 95 1 = some 1 := by rw [h.eq]; kernel_rfl
@[simp] theorem tfv_95_1 : tfv E.P 95 1 = some (1, 1, false) := by rw [h.eq]; kernel_rfl
@[simp] theorem tfa_95_2 : tfa E.P 95 2 = some 2 := by rw [h.eq]; kernel_rfl
@[simp] theorem tfv_95_2 : tfv E.P 95 2 = some (2, 1, false) := by rw [h.eq]; kernel_rfl
@[simp] theorem tplaces_95 : tplaces E.P 95 = some (fun i => ([(0, 1), (1, 1), (2, 1)] : List (Nat × Nat))[i]?) := by rw [h.eq]; kernel_rfl
@[simp] theorem tsz_109 : tsz E.P 109 = some 1 := by rw [h.eq]; kernel_rfl
@[simp] theorem tby_109 : tby E.P 109 = some 24 := by rw [h.eq]; kernel_rfl
@[simp] theorem tagg_109 : tagg E.P 109 = some false := by rw [h.eq]; kernel_rfl
@[simp] theorem tel_109 : tel E.P 109 = some (116, 6) := by rw [h.eq]; kernel_rfl
@[simp] theorem tsl_109 : asl.tsl E.P 109 = 0 := by rw [h.eq]; kernel_rfl
@[simp] theorem srcType_109 : srcType E.P 109 = true := by rw [h.eq]; kernel_rfl
@[simp] theorem tzero_109 : tzero E.P 109 = some AV.nilsl := by rw [h.eq]; kernel_rfl
@[simp] theorem u_109 : E.P.underlying 109 = some (TypeDesc.slice 116) := by rw [h.eq]; exact Tryz.underlying109
@[simp] theorem tsz_116 : tsz E.P 116 = some 6 := by rw [h.eq]; kernel_rfl
@[simp] theorem tby_116 : tby E.P 116 = some 80 := by rw [h.eq]; kernel_rfl
@[simp] theorem tagg_116 : tagg E.P 116 = some true := by rw [h.eq]; kernel_rfl
@[simp] theorem tsl_116 : asl.tsl E.P 116 = 0 := by rw [h.eq]; kernel_rfl
@[simp] theorem srcType_116 : srcType E.P 116 = false := by rw [h.eq]; kernel_rfl
@[simp] theorem tzero_116 : tzero E.P 116 = some  (AV.agg   [AV.int IntKind.i64 0, AV.nilsl, AV.int IntKind.i64 0,    AV.int IntKind.i64 0, AV.int IntKind.i64 0, AV.nilsl]) := by rw [h.eq]; kernel_rfl
@[simp] theorem tfa_116_0 : tfa E.P 116 0 = some 0 := by rw [h.eq]; kernel_rfl
@[simp] theorem tfv_116_0 : tfv E.P 116 0 = some (0, 1, false) := by rw [h.eq]; kernel_rfl
@[simp] theorem tfa_116_1 : tfa E.P 116 1 = some 1 := by rw [h.eq]; kernel_rfl
@[simp] theorem tfv_116_1 : tfv E.P 116 1 = some (1, 1, false) := by rw [h.eq]; kernel_rfl
@[simp] theorem tfa_116_2 : tfa E.P 116 2 = some 2 := by rw [h.eq]; kernel_rfl
@[simp] theorem tfv_116_2 : tfv E.P 116 2 = some (2, 4, true) := by rw [h.eq]; kernel_rfl
@[simp] theorem tplaces_116 : tplaces E.P 116 = some (fun i => ([(0, 1), (1, 1), (2, 4)] : List (Nat × Nat))[i]?) := by rw [h.eq]; kernel_rfl
@[simp] theorem tsz_117 : tsz E.P 117 = some 1 := by rw [h.eq]; kernel_rfl
@[simp] theorem tby_117 : tby E.P 117 = some 24 := by rw [h.eq]; kernel_rfl
@[simp] theorem tagg_117 : tagg E.P 117 = some false := by rw [h.eq]; kernel_rfl
@[simp] theorem tel_117 : tel E.P 117 = some (172, 3) := by rw [h.eq]; kernel_rfl
@[simp] theorem tsl_117 : asl.tsl E.P 117 = 0 := by rw [h.eq]; kernel_rfl
@[simp] theorem srcType_117 : srcType E.P 117 = true := by rw [h.eq]; kernel_rfl
@[simp] theorem tzero_117 : tzero E.P 117 = some AV.nilsl := by rw [h.eq]; kernel_rfl
@[simp] theorem u_117 : E.P.underlying 117 = some (TypeDesc.slice 172) := by rw [h.eq]; exact Tryz.underlying117
@[simp] theorem tsz_122 : tsz E.P 122 = some 1 := by rw [h.eq]; kernel_rfl
@[simp] theorem tby_122 : tby E.P 122 = some 8 := by rw [h.eq]; kernel_rfl
@[simp] theorem tagg_122 : tagg E.P 122 = some false := by rw [h.eq]; kernel_rfl
@[simp] theorem tsl_122 : asl.tsl E.P 122 = 0 := by rw [h.eq]; kernel_rfl
@[simp] theorem srcType_122 : srcType E.P 122 = false := by rw [h.eq]; kernel_rfl
@[simp] theorem tzero_122 : tzero E.P 122 = some AV.nilmap := by rw [h.eq]; kernel_rfl
@[simp] theorem u_122 : E.P.underlying 122 = some (TypeDesc.map 9 4) := by rw [h.eq]; exact Tryz.underlying122
@[simp] theorem tsz_127 : tsz E.P 127 = some 1 := by rw [h.eq]; kernel_rfl
@[simp] theorem tby_127 : tby E.P 127 = some 8 := by rw [h.eq]; kernel_rfl
@[simp] theorem tagg_127 : tagg E.P 127 = some false := by rw [h.eq]; kernel_rfl
@[simp] theorem tsl_127 : asl.tsl E.P 127 = 0 := by rw [h.eq]; kernel_rfl
@[simp] theorem srcType_127 : srcType E.P 127 = false := by rw [h.eq]; kernel_rfl
@[simp] theorem tzero_127 : tzero E.P 127 = some AV.nilmap := by rw [h.eq]; kernel_rfl
@[simp] theorem u_127 : E.P.underlying 127 = some (TypeDesc.map 128 4) := by rw [h.eq]; exact Tryz.underlying127
@[simp] theorem tsz_128 : tsz E.P 128 = some 2 := by rw [h.eq]; kernel_rfl
@[simp] theorem tby_128 : tby E.P 128 = some 16 := by rw [h.eq]; kernel_rfl
@[simp] theorem tagg_128 : tagg E.P 128 = some true := by rw [h.eq]; kernel_rfl
@[simp] theorem tar_128 : tar E.P 128 = some (2, 1, false) := by rw [h.eq]; kernel_rfl
@[simp] theorem tsl_128 : asl.tsl E.P 128 = 0 := by rw [h.eq]; kernel_rfl
@[simp] theorem srcType_128 : srcType E.P 128 = false := by rw [h.eq]; kernel_rfl
@[simp] theorem tzero_128 : tzero E.P 128 = some (AV.agg [AV.int IntKind.i64 0, AV.int IntKind.i64 0]) := by rw [h.eq]; kernel_rfl
@[simp] theorem u_128 : E.P.underlying 128 = some (TypeDesc.array 2 3) := by rw [h.eq]; exact Tryz.underlying128
@[simp] theorem tsz_133 : tsz E.P 133 = some 2 := by rw [h.eq]; kernel_rfl
@[simp] theorem tby_133 : tby E.P 133 = some 40 := by rw [h.eq]; kernel_rfl
@[simp] theorem tagg_133 : tagg E.P 133 = some true := by rw [h.eq]; kernel_rfl
@[simp] theorem tsl_133 : asl.tsl E.P 133 = 0 := by rw [h.eq]; kernel_rfl
@[simp] theorem srcType_133 : srcType E.P 133 = false := by rw [h.eq]; kernel_rfl
@[simp] theorem tzero_133 : tzero E.P 133 = some (AV.agg [AV.str [], AV.nilsl]) := by rw [h.eq]; kernel_rfl
@[simp] theorem tfa_133_0 : tfa E.P 133 0 = some 0 := by rw [h.eq]; kernel_rfl
@[simp] theorem tfv_133_0 : tfv E.P 133 0 = some (0, 1, false) := by rw [h.eq]; kernel_rfl
@[simp] theorem tfa_133_1 : tfa E.P 133 1 = some 1 := by rw [h.eq]; kernel_rfl
@[simp] theorem tfv_133_1 : tfv E.P 133 1 = some (1, 1, false) := by rw [h.eq]; kernel_rfl
@[simp] theorem tplaces_133 : tplaces E.P 133 = some (fun i => ([(0, 1), (1, 1)] : List (Nat × Nat))[i]?) := by rw [h.eq]; kernel_rfl
@[simp] theorem tsz_136 : tsz E.P 136 = some 2 := by rw [h.eq]; kernel_rfl
@[simp] theorem tby_136 : tby E.P 136 = some 24 := by rw [h.eq]; kernel_rfl
@[simp] theorem tagg_136 : tagg E.P 136 = some true := by rw [h.eq]; kernel_rfl
@[simp] theorem tsl_136 : asl.tsl E.P 136 = 0 := by rw [h.eq]; kernel_rfl
@[simp] theorem srcType_136 : srcType E.P 136 = false := by rw [h.eq]; kernel_rfl
@[simp] theorem tplain_136 : tplain E.P 136 = some [(0, TypeDesc.string), (1, TypeDesc.int IntKind.i64)] := by rw [h.eq]; kernel_rfl
@[simp] theorem tzero_136 : tzero E.P 136 = some (AV.agg [AV.str [], AV.int IntKind.i64 0]) := by rw [h.eq]; kernel_rfl
@[simp] theorem tfa_136_0 : tfa E.P 136 0 = some 0 := by rw [h.eq]; kernel_rfl
@[simp] theorem tfv_136_0 : tfv E.P 136 0 = some (0, 1, false) := by rw [h.eq]; kernel_rfl
@[simp] theorem tfa_136_1 : tfa E.P 136 1 = some 1 := by rw [h.eq]; kernel_rfl
@[simp] theorem tfv_136_1 : tfv E.P 136 1 = some (1, 1, false) := by rw [h.eq]; kernel_rfl
@[simp] theorem tplaces_136 : tplaces E.P 136 = some (fun i => ([(0, 1), (1, 1)] : List (Nat × Nat))[i]?) := by rw [h.eq]; kernel_rfl
@[simp] theorem tsz_146 : tsz E.P 146 = some 1 := by rw [h.eq]; kernel_rfl
@[simp] theorem tby_146 : tby E.P 146 = some 24 := by rw [h.eq]; kernel_rfl
@[simp] theorem tagg_146 : tagg E.P 146 = some false := by rw [h.eq]; kernel_rfl
@[simp] theorem tel_146 : tel E.P 146 = some (148, 3) := by rw [h.eq]; kernel_rfl
@[simp] theorem tsl_146 : asl.tsl E.P 146 = 0 := by rw [h.eq]; kernel_rfl
@[simp] theorem srcType_146 : srcType E.P 146 = true := by rw [h.eq]; kernel_rfl
@[simp] theorem tzero_146 : tzero E.P 146 = some AV.nilsl := by rw [h.eq]; kernel_rfl
@[simp] theorem u_146 : E.P.underlying 146 = some (TypeDesc.slice 148) := by rw [h.eq]; exact Tryz.underlying146
@[simp] theorem tsz_148 : tsz E.P 148 = some 3 := by rw [h.eq]; kernel_rfl
@[simp] theorem tby_148 : tby E.P 148 = some 32 := by rw [h.eq]; kernel_rfl
@[simp] theorem tagg_148 : tagg E.P 148 = some true := by rw [h.eq]; kernel_rfl
@[simp] theorem tsl_148 : asl.tsl E.P 148 = 0 := by rw [h.eq]; kernel_rfl
@[simp] theorem srcType_148 : srcType E.P 148 = false := by rw [h.eq]; kernel_rfl
@[simp] theorem tplain_148 : tplain E.P 148 = some [(0, TypeDesc.string), (1, TypeDesc.int IntKind.i64), (2, TypeDesc.int IntKind.i64)] := by rw [h.eq]; kernel_rfl
@[simp] theorem tzero_148 : tzero E.P 148 = some  (AV.agg [AV.str [], AV.int IntKind.i64 0, AV.int IntKind.i64 0]) := by rw [h.eq]; kernel_rfl
@[simp] theorem tfa_148_0 : tfa E.P 148 0 = some 0 := by rw [h.eq]; kernel_rfl
@[simp] theorem tfv_148_0 : tfv E.P 148 0 = some (0, 1, false) := by rw [h.eq]; kernel_rfl
@[simp] theorem tfa_148_1 : tfa E.P 148 1 = some 1 := by rw [h.eq]; kernel_rfl
@[simp] theorem tfv_148_1 : tfv E.P 148 1 = some (1, 1, false) := by rw [h.eq]; kernel_rfl
@[simp] theorem tfa_148_2 : tfa E.P 148 2 = some 2 := by rw [h.eq]; kernel_rfl
@[simp] theorem tfv_148_2 : tfv E.P 148 2 = some (2, 1, false) := by rw [h.eq]; kernel_rfl
@[simp] theorem tplaces_148 : tplaces E.P 148 = some (fun i => ([(0, 1), (1, 1), (2, 1)] : List (Nat × Nat))[i]?) := by rw [h.eq]; kernel_rfl
@[simp] theorem tsz_166 : tsz E.P 166 = some 6 := by rw [h.eq]; kernel_rfl
@[simp] theorem tby_166 : tby E.P 166 = some 144 := by rw [h.eq]; kernel_rfl
@[simp] theorem tagg_166 : tagg E.P 166 = some true := by rw [h.eq]; kernel_rfl
@[simp] theorem tsl_166 : asl.tsl E.P 166 = 0 := by rw [h.eq]; kernel_rfl
@[simp] theorem srcType_166 : srcType E.P 166 = false := by rw [h.eq]; kernel_rfl
@[simp] theorem tzero_166 : tzero E.P 166 = some  (AV.agg [AV.nilsl, AV.nilsl, AV.nilsl, AV.nilsl, AV.nilsl, AV.nilsl]) := by rw [h.eq]; kernel_rfl
@[simp] theorem tfa_166_0 : tfa E.P 166 0 = some 0 := by rw [h.eq]; kernel_rfl
@[simp] theorem tfv_166_0 : tfv E.P 166 0 = some (0, 5, true) := by rw [h.eq]; kernel_rfl
@[simp] theorem tfa_166_1 : tfa E.P 166 1 = some 5 := by rw [h.eq]; kernel_rfl
@[simp] theorem tfv_166_1 : tfv E.P 166 1 = some (5, 1, true) := by rw [h.eq]; kernel_rfl
@[simp] theorem tplaces_166 : tplaces E.P 166 = some (fun i => ([(0, 5), (5, 1)] : List (Nat × Nat))[i]?) := by rw [h.eq]; kernel_rfl
@[simp] theorem tsz_172 : tsz E.P 172 = some 3 := by rw [h.eq]; kernel_rfl
@[simp] theorem tby_172 : tby E.P 172 = some 24 := by rw [h.eq]; kernel_rfl
@[simp] theorem tagg_172 : tagg E.P 172 = some true := by rw [h.eq]; kernel_rfl
@[simp] theorem tsl_172 : asl.tsl E.P 172 = 0 := by rw [h.eq]; kernel_rfl
@[simp] theorem srcType_172 : srcType E.P 172 = false := by rw [h.eq]; kernel_rfl
@[simp] theorem tzero_172 : tzero E.P 172 = some  (AV.agg   [AV.int IntKind.i64 0, AV.int IntKind.i64 0,    AV.int IntKind.i64 0]) := by rw [h.eq]; kernel_rfl
@[simp] theorem tfa_172_0 : tfa E.P 172 0 = some 0 := by rw [h.eq]; kernel_rfl
@[simp] theorem tfv_172_0 : tfv E.P 172 0 = some (0, 1, false) := by rw [h.eq]; kernel_rfl
@[simp] theorem tfa_172_1 : tfa E.P 172 1 = some 1 := by rw [h.eq]; kernel_rfl
@[simp] theorem tfv_172_1 : tfv E.P 172 1 = some (1, 2, true) := by rw [h.eq]; kernel_rfl
@[simp] theorem tplaces_172 : tplaces E.P 172 = some (fun i => ([(0, 1), (1, 2)] : List (Nat × Nat))[i]?) := by rw [h.eq]; kernel_rfl
@[simp] theorem tsz_173 : tsz E.P 173 = some 1 := by rw [h.eq]; kernel_rfl
@[simp] theorem tby_173 : tby E.P 173 = some 8 := by rw [h.eq]; kernel_rfl
@[simp] theorem tagg_173 : tagg E.P 173 = some false := by rw [h.eq]; kernel_rfl
@[simp] theorem tsl_173 : asl.tsl E.P 173 = 0 := by rw [h.eq]; kernel_rfl
@[simp] theorem srcType_173 : srcType E.P 173 = false := by rw [h.eq]; kernel_rfl
@[simp] theorem tzero_173 : tzero E.P 173 = some AV.nilfunc := by rw [h.eq]; kernel_rfl
@[simp] theorem u_173 : E.P.underlying 173 = some (TypeDesc.func #[3, 9] #[4] false) := by rw [h.eq]; exact Tryz.underlying173
@[simp] theorem tsz_175 : tsz E.P 175 = some 1 := by rw [h.eq]; kernel_rfl
@[simp] theorem tby_175 : tby E.P 175 = some 8 := by rw [h.eq]; kernel_rfl
@[simp] theorem tagg_175 : tagg E.P 175 = some false := by rw [h.eq]; kernel_rfl
@[simp] theorem tsl_175 : asl.tsl E.P 175 = 0 := by rw [h.eq]; kernel_rfl
@[simp] theorem srcType_175 : srcType E.P 175 = false := by rw [h.eq]; kernel_rfl
@[simp] theorem tzero_175 : tzero E.P 175 = some AV.nilfunc := by rw [h.eq]; kernel_rfl
@[simp] theorem u_175 : E.P.underlying 175 = some (TypeDesc.func #[78] #[9] false) := by rw [h.eq]; exact Tryz.underlying175
@[simp] theorem tsz_177 : tsz E.P 177 = some 1 := by rw [h.eq]; kernel_rfl
@[simp] theorem tby_177 : tby E.P 177 = some 8 := by rw [h.eq]; kernel_rfl
@[simp] theorem tagg_177 : tagg E.P 177 = some false := by rw [h.eq]; kernel_rfl
@[simp] theorem tsl_177 : asl.tsl E.P 177 = 0 := by rw [h.eq]; kernel_rfl
@[simp] theorem srcType_177 : srcType E.P 177 = false := by rw [h.eq]; kernel_rfl
@[simp] theorem tzero_177 : tzero E.P 177 = some AV.nilfunc := by rw [h.eq]; kernel_rfl
@[simp] theorem u_177 : E.P.underlying 177 = some (TypeDesc.func #[74] #[9] false) := by rw [h.eq]; exact Tryz.underlying177
@[simp] theorem tsz_179 : tsz E.P 179 = some 1 := by rw [h.eq]; kernel_rfl
@[simp] theorem tby_179 : tby E.P 179 = some 8 := by rw [h.eq]; kernel_rfl
@[simp] theorem tagg_179 : tagg E.P 179 = some false := by rw [h.eq]; kernel_rfl
@[simp] theorem tsl_179 : asl.tsl E.P 179 = 0 := by rw [h.eq]; kernel_rfl
@[simp] theorem srcType_179 : srcType E.P 179 = false := by rw [h.eq]; kernel_rfl
@[simp] theorem tzero_179 : tzero E.P 179 = some AV.nilfunc := by rw [h.eq]; kernel_rfl
@[simp] theorem u_179 : E.P.underlying 179 = some (TypeDesc.func #[76] #[9] false) := by rw [h.eq]; exact Tryz.underlying179
@[simp] theorem tsz_181 : tsz E.P 181 = some 1 := by rw [h.eq]; kernel_rfl
@[simp] theorem tby_181 : tby E.P 181 = some 8 := by rw [h.eq]; kernel_rfl
@[simp] theorem tagg_181 : tagg E.P 181 = some false := by rw [h.eq]; kernel_rfl
@[simp] theorem tsl_181 : asl.tsl E.P 181 = 0 := by rw [h.eq]; kernel_rfl
@[simp] theorem srcType_181 : srcType E.P 181 = false := by rw [h.eq]; kernel_rfl
@[simp] theorem tzero_181 : tzero E.P 181 = some AV.nilfunc := by rw [h.eq]; kernel_rfl
@[simp] theorem u_181 : E.P.underlying 181 = some (TypeDesc.func #[133] #[9] false) := by rw [h.eq]; exact Tryz.underlying181
@[simp] theorem tsz_183 : tsz E.P 183 = some 1 := by rw [h.eq]; kernel_rfl
@[simp] theorem tby_183 : tby E.P 183 = some 8 := by rw [h.eq]; kernel_rfl
@[simp] theorem tagg_183 : tagg E.P 183 = some false := by rw [h.eq]; kernel_rfl
@[simp] theorem tsl_183 : asl.tsl E.P 183 = 0 := by rw [h.eq]; kernel_rfl
@[simp] theorem srcType_183 : srcType E.P 183 = false := by rw [h.eq]; kernel_rfl
@[simp] theorem tzero_183 : tzero E.P 183 = some AV.nilfunc := by rw [h.eq]; kernel_rfl
@[simp] theorem u_183 : E.P.underlying 183 = some (TypeDesc.func #[136] #[9] false) := by rw [h.eq]; exact Tryz.underlying183
@[simp] theorem tsz_185 : tsz E.P 185 = some 0 := by rw [h.eq]; kernel_rfl
@[simp] theorem tby_185 : tby E.P 185 = some 0 := by rw [h.eq]; kernel_rfl
@[simp] theorem tagg_185 : tagg E.P 185 = some true := by rw [h.eq]; kernel_rfl
@[simp] theorem tsl_185 : asl.tsl E.P 185 = 0 := by rw [h.eq]; kernel_rfl
@[simp] theorem srcType_185 : srcType E.P 185 = false := by rw [h.eq]; kernel_rfl
@[simp] theorem tplain_185 : tplain E.P 185 = some [] := by rw [h.eq]; kernel_rfl
@[simp] theorem tzero_185 : tzero E.P 185 = some (AV.agg []) := by rw [h.eq]; kernel_rfl
@[simp] theorem tsz_186 : tsz E.P 186 = some 1 := by rw [h.eq]; kernel_rfl
@[simp] theorem tby_186 : tby E.P 186 = some 24 := by rw [h.eq]; kernel_rfl
@[simp] theorem tagg_186 : tagg E.P 186 = some false := by rw [h.eq]; kernel_rfl
@[simp] theorem tel_186 : tel E.P 186 = some (185, 0) := by rw [h.eq]; kernel_rfl
@[simp] theorem tsl_186 : asl.tsl E.P 186 = 0 := by rw [h.eq]; kernel_rfl
@[simp] theorem srcType_186 : srcType E.P 186 = true := by rw [h.eq]; kernel_rfl
@[simp] theorem tzero_186 : tzero E.P 186 = some AV.nilsl := by rw [h.eq]; kernel_rfl
@[simp] theorem u_186 : E.P.underlying 186 = some (TypeDesc.slice 185) := by rw [h.eq]; exact Tryz.underlying186
@[simp] theorem tsz_188 : tsz E.P 188 = some 1 := by rw [h.eq]; kernel_rfl
@[simp] theorem tby_188 : tby E.P 188 = some 8 := by rw [h.eq]; kernel_rfl
@[simp] theorem tagg_188 : tagg E.P 188 = some false := by rw [h.eq]; kernel_rfl
@[simp] theorem tsl_188 : asl.tsl E.P 188 = 0 := by rw [h.eq]; kernel_rfl
@[simp] theorem srcType_188 : srcType E.P 188 = false := by rw [h.eq]; kernel_rfl
@[simp] theorem tzero_188 : tzero E.P 188 = some AV.nilfunc := by rw [h.eq]; kernel_rfl
@[simp] theorem u_188 : E.P.underlying 188 = some (TypeDesc.func #[21] #[4] false) := by rw [h.eq]; exact Tryz.underlying188
@[simp] theorem tsz_201 : tsz E.P 201 = some 1 := by rw [h.eq]; kernel_rfl
@[simp] theorem tby_201 : tby E.P 201 = some 8 := by rw [h.eq]; kernel_rfl
@[simp] theorem tagg_201 : tagg E.P 201 = some false := by rw [h.eq]; kernel_rfl
@[simp] theorem tsl_201 : asl.tsl E.P 201 = 0 := by rw [h.eq]; kernel_rfl
@[simp] theorem srcType_201 : srcType E.P 201 = false := by rw [h.eq]; kernel_rfl
@[simp] theorem tzero_201 : tzero E.P 201 = some AV.nilmap := by rw [h.eq]; kernel_rfl
@[simp] theorem u_201 : E.P.underlying 201 = some (TypeDesc.map 3 4) := by rw [h.eq]; exact Tryz.underlying201
@[simp] theorem tsz_211 : tsz E.P 211 = some 1 := by rw [h.eq]; kernel_rfl
@[simp] theorem tby_211 : tby E.P 211 = some 8 := by rw [h.eq]; kernel_rfl
@[simp] theorem tagg_211 : tagg E.P 211 = some false := by rw [h.eq]; kernel_rfl
@[simp] theorem tsl_211 : asl.tsl E.P 211 = 0 := by rw [h.eq]; kernel_rfl
@[simp] theorem srcType_211 : srcType E.P 211 = false := by rw [h.eq]; kernel_rfl
@[simp] theorem tzero_211 : tzero E.P 211 = some AV.nilmap := by rw [h.eq]; kernel_rfl
@[simp] theorem u_211 : E.P.underlying 211 = some (TypeDesc.map 9 98) := by rw [h.eq]; exact Tryz.underlying211
@[simp] theorem tsz_215 : tsz E.P 215 = some 1 := by rw [h.eq]; kernel_rfl
@[simp] theorem tby_215 : tby E.P 215 = some 8 := by rw [h.eq]; kernel_rfl
@[simp] theorem tagg_215 : tagg E.P 215 = some false := by rw [h.eq]; kernel_rfl
@[simp] theorem tsl_215 : asl.tsl E.P 215 = 0 := by rw [h.eq]; kernel_rfl
@[simp] theorem srcType_215 : srcType E.P 215 = false := by rw [h.eq]; kernel_rfl
@[simp] theorem tzero_215 : tzero E.P 215 = some AV.nilmap := by rw [h.eq]; kernel_rfl
@[simp] theorem u_215 : E.P.underlying 215 = some (TypeDesc.map 3 213) := by rw [h.eq]; exact Tryz.underlying215
@[simp] theorem tsz_219 : tsz E.P 219 = some 1 := by rw [h.eq]; kernel_rfl
@[simp] theorem tby_219 : tby E.P 219 = some 8 := by rw [h.eq]; kernel_rfl
@[simp] theorem tagg_219 : tagg E.P 219 = some false := by rw [h.eq]; kernel_rfl
@[simp] theorem tsl_219 : asl.tsl E.P 219 = 0 := by rw [h.eq]; kernel_rfl
@[simp] theorem srcType_219 : srcType E.P 219 = false := by rw [h.eq]; kernel_rfl
@[simp] theorem tzero_219 : tzero E.P 219 = some AV.nilfunc := by rw [h.eq]; kernel_rfl
@[simp] theorem u_219 : E.P.underlying 219 = some (TypeDesc.func #[185] #[9] false) := by rw [h.eq]; exact Tryz.underlying219
@[simp] theorem tsz_226 : tsz E.P 226 = some 1 := by rw [h.eq]; kernel_rfl
@[simp] theorem tby_226 : tby E.P 226 = some 24 := by rw [h.eq]; kernel_rfl
@[simp] theorem tagg_226 : tagg E.P 226 = some false := by rw [h.eq]; kernel_rfl
@[simp] theorem tel_226 : tel E.P 226 = some (87, 2) := by rw [h.eq]; kernel_rfl
@[simp] theorem tsl_226 : asl.tsl E.P 226 = 0 := by rw [h.eq]; kernel_rfl
@[simp] theorem srcType_226 : srcType E.P 226 = true := by rw [h.eq]; kernel_rfl
@[simp] theorem tzero_226 : tzero E.P 226 = some AV.nilsl := by rw [h.eq]; kernel_rfl
@[simp] theorem u_226 : E.P.underlying 226 = some (TypeDesc.slice 87) := by rw [h.eq]; exact Tryz.underlying226
@[simp] theorem tsz_231 : tsz E.P 231 = some 1 := by rw [h.eq]; kernel_rfl
@[simp] theorem tby_231 : tby E.P 231 = some 8 := by rw [h.eq]; kernel_rfl
@[simp] theorem tagg_231 : tagg E.P 231 = some false := by rw [h.eq]; kernel_rfl
@[simp] theorem tsl_231 : asl.tsl E.P 231 = 0 := by rw [h.eq]; kernel_rfl
@[simp] theorem srcType_231 : srcType E.P 231 = false := by rw [h.eq]; kernel_rfl
@[simp] theorem tzero_231 : tzero E.P 231 = some (AV.int IntKind.u64 0) := by rw [h.eq]; kernel_rfl
@[simp] theorem u_231 : E.P.underlying 231 = some (TypeDesc.int IntKind.u64) := by rw [h.eq]; exact Tryz.underlying231
@[simp] theorem tsz_251 : tsz E.P 251 = some 18 := by rw [h.eq]; kernel_rfl
@[simp] theorem tby_251 : tby E.P 251 = some 144 := by rw [h.eq]; kernel_rfl
@[simp] theorem tagg_251 : tagg E.P 251 = some true := by rw [h.eq]; kernel_rfl
@[simp] theorem tar_251 : tar E.P 251 = some (9, 2, true) := by rw [h.eq]; kernel_rfl
@[simp] theorem tsl_251 : asl.tsl E.P 251 = 0 := by rw [h.eq]; kernel_rfl
@[simp] theorem srcType_251 : srcType E.P 251 = false := by rw [h.eq]; kernel_rfl
@[simp] theorem tzero_251 : tzero E.P 251 = some  (AV.agg   [AV.int IntKind.i64 0, AV.int IntKind.i64 0,    AV.int IntKind.i64 0, AV.int IntKind.i64 0,    AV.int IntKind.i64 0, AV.int IntKind.i64 0,    AV.int IntKind.i64 0, AV.int IntKind.i64 0,    AV.int IntKind.i64 0, AV.int IntKind.i64 0,    AV.int IntKind.i64 0, AV.int IntKind.i64 0,    AV.int IntKind.i64 0, AV.int IntKind.i64 0,    AV.int IntKind.i64 0, AV.int IntKind.i64 0,    AV.int IntKind.i64 0, AV.int IntKind.i64 0]) := by rw [h.eq]; kernel_rfl
@[simp] theorem u_251 : E.P.underlying 251 = some (TypeDesc.array 9 128) := by rw [h.eq]; exact Tryz.underlying251
@[simp] theorem tsz_262 : tsz E.P 262 = some 1 := by rw [h.eq]; kernel_rfl
@[simp] theorem tby_262 : tby E.P 262 = some 8 := by rw [h.eq]; kernel_rfl
@[simp] theorem tagg_262 : tagg E.P 262 = some false := by rw [h.eq]; kernel_rfl
@[simp] theorem tsl_262 : asl.tsl E.P 262 = 0 := by rw [h.eq]; kernel_rfl
@[simp] theorem srcType_262 : srcType E.P 262 = false := by rw [h.eq]; kernel_rfl
@[simp] theorem tzero_262 : tzero E.P 262 = some AV.nilmap := by rw [h.eq]; kernel_rfl
@[simp] theorem u_262 : E.P.underlying 262 = some (TypeDesc.map 3 3) := by rw [h.eq]; exact Tryz.underlying262
@[simp] theorem tsz_263 : tsz E.P 263 = some 1 := by rw [h.eq]; kernel_rfl
@[simp] theorem tby_263 : tby E.P 263 = some 8 := by rw [h.eq]; kernel_rfl
@[simp] theorem tagg_263 : tagg E.P 263 = some false := by rw [h.eq]; kernel_rfl
@[simp] theorem tsl_263 : asl.tsl E.P 263 = 0 := by rw [h.eq]; kernel_rfl
@[simp] theorem srcType_263 : srcType E.P 263 = false := by rw [h.eq]; kernel_rfl
@[simp] theorem tzero_263 : tzero E.P 263 = some AV.nilmap := by rw [h.eq]; kernel_rfl
@[simp] theorem u_263 : E.P.underlying 263 = some (TypeDesc.map 9 9) := by rw [h.eq]; exact Tryz.underlying263
@[simp] theorem tsz_267 : tsz E.P 267 = some 16 := by rw [h.eq]; kernel_rfl
@[simp] theorem tby_267 : tby E.P 267 = some 128 := by rw [h.eq]; kernel_rfl
@[simp] theorem tagg_267 : tagg E.P 267 = some true := by rw [h.eq]; kernel_rfl
@[simp] theorem tar_267 : tar E.P 267 = some (8, 2, true) := by rw [h.eq]; kernel_rfl
@[simp] theorem tsl_267 : asl.tsl E.P 267 = 0 := by rw [h.eq]; kernel_rfl
@[simp] theorem srcType_267 : srcType E.P 267 = false := by rw [h.eq]; kernel_rfl
@[simp] theorem tzero_267 : tzero E.P 267 = some  (AV.agg   [AV.int IntKind.i64 0, AV.int IntKind.i64 0,    AV.int IntKind.i64 0, AV.int IntKind.i64 0,    AV.int IntKind.i64 0, AV.int IntKind.i64 0,    AV.int IntKind.i64 0, AV.int IntKind.i64 0,    AV.int IntKind.i64 0, AV.int IntKind.i64 0,    AV.int IntKind.i64 0, AV.int IntKind.i64 0,    AV.int IntKind.i64 0, AV.int IntKind.i64 0,    AV.int IntKind.i64 0, AV.int IntKind.i64 0]) := by rw [h.eq]; kernel_rfl
@[simp] theorem u_267 : E.P.underlying 267 = some (TypeDesc.array 8 128) := by rw [h.eq]; exact Tryz.underlying267
@[simp] theorem tsz_270 : tsz E.P 270 = some 1 := by rw [h.eq]; kernel_rfl
@[simp] theorem tby_270 : tby E.P 270 = some 8 := by rw [h.eq]; kernel_rfl
@[simp] theorem tagg_270 : tagg E.P 270 = some false := by rw [h.eq]; kernel_rfl
@[simp] theorem tsl_270 : asl.tsl E.P 270 = 0 := by rw [h.eq]; kernel_rfl
@[simp] theorem srcType_270 : srcType E.P 270 = false := by rw [h.eq]; kernel_rfl
@[simp] theorem tzero_270 : tzero E.P 270 = some (AV.int IntKind.i64 0) := by rw [h.eq]; kernel_rfl
@[simp] theorem u_270 : E.P.underlying 270 = some (TypeDesc.int IntKind.i64) := by rw [h.eq]; exact Tryz.underlying270
@[simp] theorem tsz_277 : tsz E.P 277 = some 1 := by rw [h.eq]; kernel_rfl
@[simp] theorem tby_277 : tby E.P 277 = some 4 := by rw [h.eq]; kernel_rfl
@[simp] theorem tagg_277 : tagg E.P 277 = some false := by rw [h.eq]; kernel_rfl
@[simp] theorem tsl_277 : asl.tsl E.P 277 = 0 := by rw [h.eq]; kernel_rfl
@[simp] theorem srcType_277 : srcType E.P 277 = false := by rw [h.eq]; kernel_rfl
@[simp] theorem tzero_277 : tzero E.P 277 = some (AV.int IntKind.u32 0) := by rw [h.eq]; kernel_rfl
@[simp] theorem u_277 : E.P.underlying 277 = some (TypeDesc.int IntKind.u32) := by rw [h.eq]; exact Tryz.underlying277
@[simp] theorem tsz_279 : tsz E.P 279 = some 1 := by rw [h.eq]; kernel_rfl
@[simp] theorem tby_279 : tby E.P 279 = some 8 := by rw [h.eq]; kernel_rfl
@[simp] theorem tagg_279 : tagg E.P 279 = some false := by rw [h.eq]; kernel_rfl
@[simp] theorem tsl_279 : asl.tsl E.P 279 = 0 := by rw [h.eq]; kernel_rfl
@[simp] theorem srcType_279 : srcType E.P 279 = false := by rw [h.eq]; kernel_rfl
@[simp] theorem tzero_279 : tzero E.P 279 = some (AV.int IntKind.u64 0) := by rw [h.eq]; kernel_rfl
@[simp] theorem u_279 : E.P.underlying 279 = some (TypeDesc.int IntKind.u64) := by rw [h.eq]; exact Tryz.underlying279
@[simp] theorem tsz_280 : tsz E.P 280 = some 24 := by rw [h.eq]; kernel_rfl
@[simp] theorem tby_280 : tby E.P 280 = some 24 := by rw [h.eq]; kernel_rfl
@[simp] theorem tagg_280 : tagg E.P 280 = some true := by rw [h.eq]; kernel_rfl
@[simp] theorem tar_280 : tar E.P 280 = some (24, 1, false) := by rw [h.eq]; kernel_rfl
@[simp] theorem tsl_280 : asl.tsl E.P 280 = 0 := by rw [h.eq]; kernel_rfl
@[simp] theorem srcType_280 : srcType E.P 280 = false := by rw [h.eq]; kernel_rfl
@[simp] theorem tzero_280 : tzero E.P 280 = some  (AV.agg   [AV.int IntKind.u8 0, AV.int IntKind.u8 0,    AV.int IntKind.u8 0, AV.int IntKind.u8 0,    AV.int IntKind.u8 0, AV.int IntKind.u8 0,    AV.int IntKind.u8 0, AV.int IntKind.u8 0,    AV.int IntKind.u8 0, AV.int IntKind.u8 0,    AV.int IntKind.u8 0, AV.int IntKind.u8 0,    AV.int IntKind.u8 0, AV.int IntKind.u8 0,    AV.int IntKind.u8 0, AV.int IntKind.u8 0,    AV.int IntKind.u8 0, AV.int IntKind.u8 0,    AV.int IntKind.u8 0, AV.int IntKind.u8 0,    AV.int IntKind.u8 0, AV.int IntKind.u8 0,    AV.int IntKind.u8 0, AV.int IntKind.u8 0]) := by rw [h.eq]; kernel_rfl
@[simp] theorem u_280 : E.P.underlying 280 = some (TypeDesc.array 24 5) := by rw [h.eq]; exact Tryz.underlying280
@[simp] theorem tsz_282 : tsz E.P 282 = some 1 := by rw [h.eq]; kernel_rfl
@[simp] theorem tby_282 : tby E.P 282 = some 24 := by rw [h.eq]; kernel_rfl
@[simp] theorem tagg_282 : tagg E.P 282 = some false := by rw [h.eq]; kernel_rfl
@[simp] theorem tel_282 : tel E.P 282 = some (5, 1) := by rw [h.eq]; kernel_rfl
@[simp] theorem tsl_282 : asl.tsl E.P 282 = 0 := by rw [h.eq]; kernel_rfl
@[simp] theorem srcType_282 : srcType E.P 282 = true := by rw [h.eq]; kernel_rfl
@[simp] theorem tzero_282 : tzero E.P 282 = some AV.nilsl := by rw [h.eq]; kernel_rfl
@[simp] theorem u_282 : E.P.underlying 282 = some (TypeDesc.slice 5) := by rw [h.eq]; exact Tryz.underlying282
@[simp] theorem tsz_289 : tsz E.P 289 = some 1 := by rw [h.eq]; kernel_rfl
@[simp] theorem tby_289 : tby E.P 289 = some 8 := by rw [h.eq]; kernel_rfl
@[simp] theorem tagg_289 : tagg E.P 289 = some false := by rw [h.eq]; kernel_rfl
@[simp] theorem tsl_289 : asl.tsl E.P 289 = 0 := by rw [h.eq]; kernel_rfl
@[simp] theorem srcType_289 : srcType E.P 289 = false := by rw [h.eq]; kernel_rfl
@[simp] theorem tzero_289 : tzero E.P 289 = some (AV.int IntKind.u64 0) := by rw [h.eq]; kernel_rfl
@[simp] theorem u_289 : E.P.underlying 289 = some (TypeDesc.int IntKind.u64) := by rw [h.eq]; exact Tryz.underlying289
@[simp] theorem tsz_297 : tsz E.P 297 = some 20 := by rw [h.eq]; kernel_rfl
@[simp] theorem tby_297 : tby E.P 297 = some 160 := by rw [h.eq]; kernel_rfl
@[simp] theorem tagg_297 : tagg E.P 297 = some true := by rw [h.eq]; kernel_rfl
@[simp] theorem tar_297 : tar E.P 297 = some (20, 1, false) := by rw [h.eq]; kernel_rfl
@[simp] theorem tsl_297 : asl.tsl E.P 297 = 0 := by rw [h.eq]; kernel_rfl
@[simp] theorem srcType_297 : srcType E.P 297 = false := by rw [h.eq]; kernel_rfl
@[simp] theorem tzero_297 : tzero E.P 297 = some  (AV.agg   [AV.int IntKind.u64 0, AV.int IntKind.u64 0,    AV.int IntKind.u64 0, AV.int IntKind.u64 0,    AV.int IntKind.u64 0, AV.int IntKind.u64 0,    AV.int IntKind.u64 0, AV.int IntKind.u64 0,    AV.int IntKind.u64 0, AV.int IntKind.u64 0,    AV.int IntKind.u64 0, AV.int IntKind.u64 0,    AV.int IntKind.u64 0, AV.int IntKind.u64 0,    AV.int IntKind.u64 0, AV.int IntKind.u64 0,    AV.int IntKind.u64 0, AV.int IntKind.u64 0,    AV.int IntKind.u64 0, AV.int IntKind.u64 0]) := by rw [h.eq]; kernel_rfl
@[simp] theorem u_297 : E.P.underlying 297 = some (TypeDesc.array 20 279) := by rw [h.eq]; exact Tryz.underlying297
@[simp] theorem tsz_298 : tsz E.P 298 = some 65 := by rw [h.eq]; kernel_rfl
@[simp] theorem tby_298 : tby E.P 298 = some 65 := by rw [h.eq]; kernel_rfl
@[simp] theorem tagg_298 : tagg E.P 298 = some true := by rw [h.eq]; kernel_rfl
@[simp] theorem tar_298 : tar E.P 298 = some (65, 1, false) := by rw [h.eq]; kernel_rfl
@[simp] theorem tsl_298 : asl.tsl E.P 298 = 0 := by rw [h.eq]; kernel_rfl
@[simp] theorem srcType_298 : srcType E.P 298 = false := by rw [h.eq]; kernel_rfl
@[simp] theorem tzero_298 : tzero E.P 298 = some  (AV.agg   [AV.int IntKind.u8 0, AV.int IntKind.u8 0,    AV.int IntKind.u8 0, AV.int IntKind.u8 0,    AV.int IntKind.u8 0, AV.int IntKind.u8 0,    AV.int IntKind.u8 0, AV.int IntKind.u8 0,    AV.int IntKind.u8 0, AV.int IntKind.u8 0,    AV.int IntKind.u8 0, AV.int IntKind.u8 0,    AV.int IntKind.u8 0, AV.int IntKind.u8 0,    AV.int IntKind.u8 0, AV.int IntKind.u8 0,    AV.int IntKind.u8 0, AV.int IntKind.u8 0,    AV.int IntKind.u8 0, AV.int IntKind.u8 0,    AV.int IntKind.u8 0, AV.int IntKind.u8 0,    AV.int IntKind.u8 0, AV.int IntKind.u8 0,    AV.int IntKind.u8 0, AV.int IntKind.u8 0,    AV.int IntKind.u8 0, AV.int IntKind.u8 0,    AV.int IntKind.u8 0, AV.int IntKind.u8 0,    AV.int IntKind.u8 0, AV.int IntKind.u8 0,    AV.int IntKind.u8 0, AV.int IntKind.u8 0,    AV.int IntKind.u8 0, AV.int IntKind.u8 0,    AV.int IntKind.u8 0, AV.int IntKind.u8 0,    AV.int IntKind.u8 0, AV.int IntKind.u8 0,    AV.int IntKind.u8 0, AV.int IntKind.u8 0,    AV.int IntKind.u8 0, AV.int IntKind.u8 0,    AV.int IntKind.u8 0, AV.int IntKind.u8 0,    AV.int IntKind.u8 0, AV.int IntKind.u8 0,    AV.int IntKind.u8 0, AV.int IntKind.u8 0,    AV.int IntKind.u8 0, AV.int IntKind.u8 0,    AV.int IntKind.u8 0, AV.int IntKind.u8 0,    AV.int IntKind.u8 0, AV.int IntKind.u8 0,    AV.int IntKind.u8 0, AV.int IntKind.u8 0,    AV.int IntKind.u8 0, AV.int IntKind.u8 0,    AV.int IntKind.u8 0, AV.int IntKind.u8 0,    AV.int IntKind.u8 0, AV.int IntKind.u8 0,    AV.int IntKind.u8 0]) := by rw [h.eq]; kernel_rfl
@[simp] theorem u_298 : E.P.underlying 298 = some (TypeDesc.array 65 5) := by rw [h.eq]; exact Tryz.underlying298
@[simp] theorem tsz_301 : tsz E.P 301 = some 256 := by rw [h.eq]; kernel_rfl
@[simp] theorem tby_301 : tby E.P 301 = some 256 := by rw [h.eq]; kernel_rfl
@[simp] theorem tagg_301 : tagg E.P 301 = some true := by rw [h.eq]; kernel_rfl
@[simp] theorem tar_301 : tar E.P 301 = some (256, 1, false) := by rw [h.eq]; kernel_rfl
@[simp] theorem tsl_301 : asl.tsl E.P 301 = 0 := by rw [h.eq]; kernel_rfl
@[simp] theorem srcType_301 : srcType E.P 301 = false := by rw [h.eq]; kernel_rfl
@[simp] theorem tzero_301 : tzero E.P 301 = some  (AV.agg   [AV.bool false, AV.bool false, AV.bool false, AV.bool false,    AV.bool false, AV.bool false, AV.bool false, AV.bool false,    AV.bool false, AV.bool false, AV.bool false, AV.bool false,    AV.bool false, AV.bool false, AV.bool false, AV.bool false,    AV.bool false, AV.bool false, AV.bool false, AV.bool false,    AV.bool false, AV.bool false, AV.bool false, AV.bool false,    AV.bool false, AV.bool false, AV.bool false, AV.bool false,    AV.bool false, AV.bool false, AV.bool false, AV.bool false,    AV.bool false, AV.bool false, AV.bool false, AV.bool false,    AV.bool false, AV.bool false, AV.bool false, AV.bool false,    AV.bool false, AV.bool false, AV.bool false, AV.bool false,    AV.bool false, AV.bool false, AV.bool false, AV.bool false,    AV.bool false, AV.bool false, AV.bool false, AV.bool false,    AV.bool false, AV.bool false, AV.bool false, AV.bool false,    AV.bool false, AV.bool false, AV.bool false, AV.bool false,    AV.bool false, AV.bool false, AV.bool false, AV.bool false,    AV.bool false, AV.bool false, AV.bool false, AV.bool false,    AV.bool false, AV.bool false, AV.bool false, AV.bool false,    AV.bool false, AV.bool false, AV.bool false, AV.bool false,    AV.bool false, AV.bool false, AV.bool false, AV.bool false,    AV.bool false, AV.bool false, AV.bool false, AV.bool false,    AV.bool false, AV.bool false, AV.bool false, AV.bool false,    AV.bool false, AV.bool false, AV.bool false, AV.bool false,    AV.bool false, AV.bool false, AV.bool false, AV.bool false,    AV.bool false, AV.bool false, AV.bool false, AV.bool false,    AV.bool false, AV.bool false, AV.bool false, AV.bool false,    AV.bool false, AV.bool false, AV.bool false, AV.bool false,    AV.bool false, AV.bool false, AV.bool false, AV.bool false,    AV.bool false, AV.bool false, AV.bool false, AV.bool false,    AV.bool false, AV.bool false, AV.bool false, AV.bool false,    AV.bool false, AV.bool false, AV.bool false, AV.bool false,    AV.bool false, AV.bool false, AV.bool false, AV.bool false,    AV.bool false, AV.bool false, AV.bool false, AV.bool false,    AV.bool false, AV.bool false, AV.bool false, AV.bool false,    AV.bool false, AV.bool false, AV.bool false, AV.bool false,    AV.bool false, AV.bool false, AV.bool false, AV.bool false,    AV.bool false, AV.bool false, AV.bool false, AV.bool false,    AV.bool false, AV.bool false, AV.bool false, AV.bool false,    AV.bool false, AV.bool false, AV.bool false, AV.bool false,    AV.bool false, AV.bool false, AV.bool false, AV.bool false,    AV.bool false, AV.bool false, AV.bool false, AV.bool false,    AV.bool false, AV.bool false, AV.bool false, AV.bool false,    AV.bool false, AV.bool false, AV.bool false, AV.bool false,    AV.bool false, AV.bool false, AV.bool false, AV.bool false,    AV.bool false, AV.bool false, AV.bool false, AV.bool false,    AV.bool false, AV.bool false, AV.bool false, AV.bool false,    AV.bool false, AV.bool false, AV.bool false, AV.bool false,    AV.bool false, AV.bool false, AV.bool false, AV.bool false,    AV.bool false, AV.bool false, AV.bool false, AV.bool false,    AV.bool false, AV.bool false, AV.bool false, AV.bool false,    AV.bool false, AV.bool false, AV.bool false, AV.bool false,    AV.bool false, AV.bool false, AV.bool false, AV.bool false,    AV.bool false, AV.bool false, AV.bool false, AV.bool false,    AV.bool false, AV.bool false, AV.bool false, AV.bool false,    AV.bool false, AV.bool false, AV.bool false, AV.bool false,    AV.bool false, AV.bool false, AV.bool false, AV.bool false,    AV.bool false, AV.bool false, AV.bool false, AV.bool false,    AV.bool false, AV.bool false, AV.bool false, AV.bool false,    AV.bool false, AV.bool false, AV.bool false, AV.bool false,    AV.bool false, AV.bool false, AV.bool false, AV.bool false,    AV.bool false, AV.bool false, AV.bool false, AV.bool false,    AV.bool false, AV.bool false, AV.bool false, AV.bool false,    AV.bool false, AV.bool false, AV.bool false, AV.bool false,    AV.bool false, AV.bool false, AV.bool false, AV.bool false]) := by rw [h.eq]; kernel_rfl
@[simp] theorem u_301 : E.P.underlying 301 = some (TypeDesc.array 256 4) := by rw [h.eq]; exact Tryz.underlying301
@[simp] theorem tsz_312 : tsz E.P 312 = some 32 := by rw [h.eq]; kernel_rfl
@[simp] theorem tby_312 : tby E.P 312 = some 32 := by rw [h.eq]; kernel_rfl
@[simp] theorem tagg_312 : tagg E.P 312 = some true := by rw [h.eq]; kernel_rfl
@[simp] theorem tar_312 : tar E.P 312 = some (32, 1, false) := by rw [h.eq]; kernel_rfl
@[simp] theorem tsl_312 : asl.tsl E.P 312 = 0 := by rw [h.eq]; kernel_rfl
@[simp] theorem srcType_312 : srcType E.P 312 = false := by rw [h.eq]; kernel_rfl
@[simp] theorem tzero_312 : tzero E.P 312 = some  (AV.agg   [AV.int IntKind.u8 0, AV.int IntKind.u8 0,    AV.int IntKind.u8 0, AV.int IntKind.u8 0,    AV.int IntKind.u8 0, AV.int IntKind.u8 0,    AV.int IntKind.u8 0, AV.int IntKind.u8 0,    AV.int IntKind.u8 0, AV.int IntKind.u8 0,    AV.int IntKind.u8 0, AV.int IntKind.u8 0,    AV.int IntKind.u8 0, AV.int IntKind.u8 0,    AV.int IntKind.u8 0, AV.int IntKind.u8 0,    AV.int IntKind.u8 0, AV.int IntKind.u8 0,    AV.int IntKind.u8 0, AV.int IntKind.u8 0,    AV.int IntKind.u8 0, AV.int IntKind.u8 0,    AV.int IntKind.u8 0, AV.int IntKind.u8 0,    AV.int IntKind.u8 0, AV.int IntKind.u8 0,    AV.int IntKind.u8 0, AV.int IntKind.u8 0,    AV.int IntKind.u8 0, AV.int IntKind.u8 0,    AV.int IntKind.u8 0, AV.int IntKind.u8 0]) := by rw [h.eq]; kernel_rfl
@[simp] theorem u_312 : E.P.underlying 312 = some (TypeDesc.array 32 5) := by rw [h.eq]; exact Tryz.underlying312
@[simp] theorem tsz_313 : tsz E.P 313 = some 64 := by rw [h.eq]; kernel_rfl
@[simp] theorem tby_313 : tby E.P 313 = some 64 := by rw [h.eq]; kernel_rfl
@[simp] theorem tagg_313 : tagg E.P 313 = some true := by rw [h.eq]; kernel_rfl
@[simp] theorem tar_313 : tar E.P 313 = some (64, 1, false) := by rw [h.eq]; kernel_rfl
@[simp] theorem tsl_313 : asl.tsl E.P 313 = 0 := by rw [h.eq]; kernel_rfl
@[simp] theorem srcType_313 : srcType E.P 313 = false := by rw [h.eq]; kernel_rfl
@[simp] theorem tzero_313 : tzero E.P 313 = some  (AV.agg   [AV.int IntKind.u8 0, AV.int IntKind.u8 0,    AV.int IntKind.u8 0, AV.int IntKind.u8 0,    AV.int IntKind.u8 0, AV.int IntKind.u8 0,    AV.int IntKind.u8 0, AV.int IntKind.u8 0,    AV.int IntKind.u8 0, AV.int IntKind.u8 0,    AV.int IntKind.u8 0, AV.int IntKind.u8 0,    AV.int IntKind.u8 0, AV.int IntKind.u8 0,    AV.int IntKind.u8 0, AV.int IntKind.u8 0,    AV.int IntKind.u8 0, AV.int IntKind.u8 0,    AV.int IntKind.u8 0, AV.int IntKind.u8 0,    AV.int IntKind.u8 0, AV.int IntKind.u8 0,    AV.int IntKind.u8 0, AV.int IntKind.u8 0,    AV.int IntKind.u8 0, AV.int IntKind.u8 0,    AV.int IntKind.u8 0, AV.int IntKind.u8 0,    AV.int IntKind.u8 0, AV.int IntKind.u8 0,    AV.int IntKind.u8 0, AV.int IntKind.u8 0,    AV.int IntKind.u8 0, AV.int IntKind.u8 0,    AV.int IntKind.u8 0, AV.int IntKind.u8 0,    AV.int IntKind.u8 0, AV.int IntKind.u8 0,    AV.int IntKind.u8 0, AV.int IntKind.u8 0,    AV.int IntKind.u8 0, AV.int IntKind.u8 0,    AV.int IntKind.u8 0, AV.int IntKind.u8 0,    AV.int IntKind.u8 0, AV.int IntKind.u8 0,    AV.int IntKind.u8 0, AV.int IntKind.u8 0,    AV.int IntKind.u8 0, AV.int IntKind.u8 0,    AV.int IntKind.u8 0, AV.int IntKind.u8 0,    AV.int IntKind.u8 0, AV.int IntKind.u8 0,    AV.int IntKind.u8 0, AV.int IntKind.u8 0,    AV.int IntKind.u8 0, AV.int IntKind.u8 0,    AV.int IntKind.u8 0, AV.int IntKind.u8 0,    AV.int IntKind.u8 0, AV.int IntKind.u8 0,    AV.int IntKind.u8 0, AV.int IntKind.u8 0]) := by rw [h.eq]; kernel_rfl
@[simp] theorem u_313 : E.P.underlying 313 = some (TypeDesc.array 64 5) := by rw [h.eq]; exact Tryz.underlying313
@[simp] theorem tsz_315 : tsz E.P 315 = some 256 := by rw [h.eq]; kernel_rfl
@[simp] theorem tby_315 : tby E.P 315 = some 256 := by rw [h.eq]; kernel_rfl
@[simp] theorem tagg_315 : tagg E.P 315 = some true := by rw [h.eq]; kernel_rfl
@[simp] theorem tar_315 : tar E.P 315 = some (256, 1, false) := by rw [h.eq]; kernel_rfl
@[simp] theorem tsl_315 : asl.tsl E.P 315 = 0 := by rw [h.eq]; kernel_rfl
@[simp] theorem srcType_315 : srcType E.P 315 = false := by rw [h.eq]; kernel_rfl
@[simp] theorem tzero_315 : tzero E.P 315 = some  (AV.agg   [AV.int IntKind.u8 0, AV.int IntKind.u8 0,    AV.int IntKind.u8 0, AV.int IntKind.u8 0,    AV.int IntKind.u8 0, AV.int IntKind.u8 0,    AV.int IntKind.u8 0, AV.int IntKind.u8 0,    AV.int IntKind.u8 0, AV.int IntKind.u8 0,    AV.int IntKind.u8 0, AV.int IntKind.u8 0,    AV.int IntKind.u8 0, AV.int IntKind.u8 0,    AV.int IntKind.u8 0, AV.int IntKind.u8 0,    AV.int IntKind.u8 0, AV.int IntKind.u8 0,    AV.int IntKind.u8 0, AV.int IntKind.u8 0,    AV.int IntKind.u8 0, AV.int IntKind.u8 0,    AV.int IntKind.u8 0, AV.int IntKind.u8 0,    AV.int IntKind.u8 0, AV.int IntKind.u8 0,    AV.int IntKind.u8 0, AV.int IntKind.u8 0,    AV.int IntKind.u8 0, AV.int IntKind.u8 0,    AV.int IntKind.u8 0, AV.int IntKind.u8 0,    AV.int IntKind.u8 0, AV.int IntKind.u8 0,    AV.int IntKind.u8 0, AV.int IntKind.u8 0,    AV.int IntKind.u8 0, AV.int IntKind.u8 0,    AV.int IntKind.u8 0, AV.int IntKind.u8 0,    AV.int IntKind.u8 0, AV.int IntKind.u8 0,    AV.int IntKind.u8 0, AV.int IntKind.u8 0,    AV.int IntKind.u8 0, AV.int IntKind.u8 0,    AV.int IntKind.u8 0, AV.int IntKind.u8 0,    AV.int IntKind.u8 0, AV.int IntKind.u8 0,    AV.int IntKind.u8 0, AV.int IntKind.u8 0,    AV.int IntKind.u8 0, AV.int IntKind.u8 0,    AV.int IntKind.u8 0, AV.int IntKind.u8 0,    AV.int IntKind.u8 0, AV.int IntKind.u8 0,    AV.int IntKind.u8 0, AV.int IntKind.u8 0,    AV.int IntKind.u8 0, AV.int IntKind.u8 0,    AV.int IntKind.u8 0, AV.int IntKind.u8 0,    AV.int IntKind.u8 0, AV.int IntKind.u8 0,    AV.int IntKind.u8 0, AV.int IntKind.u8 0,    AV.int IntKind.u8 0, AV.int IntKind.u8 0,    AV.int IntKind.u8 0, AV.int IntKind.u8 0,    AV.int IntKind.u8 0, AV.int IntKind.u8 0,    AV.int IntKind.u8 0, AV.int IntKind.u8 0,    AV.int IntKind.u8 0, AV.int IntKind.u8 0,    AV.int IntKind.u8 0, AV.int IntKind.u8 0,    AV.int IntKind.u8 0, AV.int IntKind.u8 0,    AV.int IntKind.u8 0, AV.int IntKind.u8 0,    AV.int IntKind.u8 0, AV.int IntKind.u8 0,    AV.int IntKind.u8 0, AV.int IntKind.u8 0,    AV.int IntKind.u8 0, AV.int IntKind.u8 0,    AV.int IntKind.u8 0, AV.int IntKind.u8 0,    AV.int IntKind.u8 0, AV.int IntKind.u8 0,    AV.int IntKind.u8 0, AV.int IntKind.u8 0,    AV.int IntKind.u8 0, AV.int IntKind.u8 0,    AV.int IntKind.u8 0, AV.int IntKind.u8 0,    AV.int IntKind.u8 0, AV.int IntKind.u8 0,    AV.int IntKind.u8 0, AV.int IntKind.u8 0,    AV.int IntKind.u8 0, AV.int IntKind.u8 0,    AV.int IntKind.u8 0, AV.int IntKind.u8 0,    AV.int IntKind.u8 0, AV.int IntKind.u8 0,    AV.int IntKind.u8 0, AV.int IntKind.u8 0,    AV.int IntKind.u8 0, AV.int IntKind.u8 0,    AV.int IntKind.u8 0, AV.int IntKind.u8 0,    AV.int IntKind.u8 0, AV.int IntKind.u8 0,    AV.int IntKind.u8 0, AV.int IntKind.u8 0,    AV.int IntKind.u8 0, AV.int IntKind.u8 0,    AV.int IntKind.u8 0, AV.int IntKind.u8 0,    AV.int IntKind.u8 0, AV.int IntKind.u8 0,    AV.int IntKind.u8 0, AV.int IntKind.u8 0,    AV.int IntKind.u8 0, AV.int IntKind.u8 0,    AV.int IntKind.u8 0, AV.int IntKind.u8 0,    AV.int IntKind.u8 0, AV.int IntKind.u8 0,    AV.int IntKind.u8 0, AV.int IntKind.u8 0,    AV.int IntKind.u8 0, AV.int IntKind.u8 0,    AV.int IntKind.u8 0, AV.int IntKind.u8 0,    AV.int IntKind.u8 0, AV.int IntKind.u8 0,    AV.int IntKind.u8 0, AV.int IntKind.u8 0,    AV.int IntKind.u8 0, AV.int IntKind.u8 0,    AV.int IntKind.u8 0, AV.int IntKind.u8 0,    AV.int IntKind.u8 0, AV.int IntKind.u8 0,    AV.int IntKind.u8 0, AV.int IntKind.u8 0,    AV.int IntKind.u8 0, AV.int IntKind.u8 0,    AV.int IntKind.u8 0, AV.int IntKind.u8 0,    AV.int IntKind.u8 0, AV.int IntKind.u8 0,    AV.int IntKind.u8 0, AV.int IntKind.u8 0,    AV.int IntKind.u8 0, AV.int IntKind.u8 0,    AV.int IntKind.u8 0, AV.int IntKind.u8 0,    AV.int IntKind.u8 0, AV.int IntKind.u8 0,    AV.int IntKind.u8 0, AV.int IntKind.u8 0,    AV.int IntKind.u8 0, AV.int IntKind.u8 0,    AV.int IntKind.u8 0, AV.int IntKind.u8 0,    AV.int IntKind.u8 0, AV.int IntKind.u8 0,    AV.int IntKind.u8 0, AV.int IntKind.u8 0,    AV.int IntKind.u8 0, AV.int IntKind.u8 0,    AV.int IntKind.u8 0, AV.int IntKind.u8 0,    AV.int IntKind.u8 0, AV.int IntKind.u8 0,    AV.int IntKind.u8 0, AV.int IntKind.u8 0,    AV.int IntKind.u8 0, AV.int IntKind.u8 0,    AV.int IntKind.u8 0, AV.int IntKind.u8 0,    AV.int IntKind.u8 0, AV.int IntKind.u8 0,    AV.int IntKind.u8 0, AV.int IntKind.u8 0,    AV.int IntKind.u8 0, AV.int IntKind.u8 0,    AV.int IntKind.u8 0, AV.int IntKind.u8 0,    AV.int IntKind.u8 0, AV.int IntKind.u8 0,    AV.int IntKind.u8 0, AV.int IntKind.u8 0,    AV.int IntKind.u8 0, AV.int IntKind.u8 0,    AV.int IntKind.u8 0, AV.int IntKind.u8 0,    AV.int IntKind.u8 0, AV.int IntKind.u8 0,    AV.int IntKind.u8 0, AV.int IntKind.u8 0,    AV.int IntKind.u8 0, AV.int IntKind.u8 0,    AV.int IntKind.u8 0, AV.int IntKind.u8 0,    AV.int IntKind.u8 0, AV.int IntKind.u8 0,    AV.int IntKind.u8 0, AV.int IntKind.u8 0,    AV.int IntKind.u8 0, AV.int IntKind.u8 0,    AV.int IntKind.u8 0, AV.int IntKind.u8 0,    AV.int IntKind.u8 0, AV.int IntKind.u8 0,    AV.int IntKind.u8 0, AV.int IntKind.u8 0,    AV.int IntKind.u8 0, AV.int IntKind.u8 0,    AV.int IntKind.u8 0, AV.int IntKind.u8 0,    AV.int IntKind.u8 0, AV.int IntKind.u8 0,    AV.int IntKind.u8 0, AV.int IntKind.u8 0,    AV.int IntKind.u8 0, AV.int IntKind.u8 0,    AV.int IntKind.u8 0, AV.int IntKind.u8 0,    AV.int IntKind.u8 0, AV.int IntKind.u8 0,    AV.int IntKind.u8 0, AV.int IntKind.u8 0,    AV.int IntKind.u8 0, AV.int IntKind.u8 0,    AV.int IntKind.u8 0, AV.int IntKind.u8 0,    AV.int IntKind.u8 0, AV.int IntKind.u8 0,    AV.int IntKind.u8 0, AV.int IntKind.u8 0,    AV.int IntKind.u8 0, AV.int IntKind.u8 0,    AV.int IntKind.u8 0, AV.int IntKind.u8 0,    AV.int IntKind.u8 0, AV.int IntKind.u8 0,    AV.int IntKind.u8 0, AV.int IntKind.u8 0]) := by rw [h.eq]; kernel_rfl
@[simp] theorem u_315 : E.P.underlying 315 = some (TypeDesc.array 256 5) := by rw [h.eq]; exact Tryz.underlying315
@[simp] theorem tsz_317 : tsz E.P 317 = some 2 := by rw [h.eq]; kernel_rfl
@[simp] theorem tby_317 : tby E.P 317 = some 2 := by rw [h.eq]; kernel_rfl
@[simp] theorem tagg_317 : tagg E.P 317 = some true := by rw [h.eq]; kernel_rfl
@[simp] theorem tsl_317 : asl.tsl E.P 317 = 0 := by rw [h.eq]; kernel_rfl
@[simp] theorem srcType_317 : srcType E.P 317 = false := by rw [h.eq]; kernel_rfl
@[simp] theorem tplain_317 : tplain E.P 317 = some [(0, TypeDesc.int IntKind.u8), (1, TypeDesc.int IntKind.u8)] := by rw [h.eq]; kernel_rfl
@[simp] theorem tzero_317 : tzero E.P 317 = some (AV.agg [AV.int IntKind.u8 0, AV.int IntKind.u8 0]) := by rw [h.eq]; kernel_rfl
@[simp] theorem tfa_317_0 : tfa E.P 317 0 = some 0 := by rw [h.eq]; kernel_rfl
@[simp] theorem tfv_317_0 : tfv E.P 317 0 = some (0, 1, false) := by rw [h.eq]; kernel_rfl
@[simp] theorem tfa_317_1 : tfa E.P 317 1 = some 1 := by rw [h.eq]; kernel_rfl
@[simp] theorem tfv_317_1 : tfv E.P 317 1 = some (1, 1, false) := by rw [h.eq]; kernel_rfl
@[simp] theorem tplaces_317 : tplaces E.P 317 = some (fun i => ([(0, 1), (1, 1)] : List (Nat × Nat))[i]?) := by rw [h.eq]; kernel_rfl
@[simp] theorem tsz_318 : tsz E.P 318 = some 32 := by rw [h.eq]; kernel_rfl
@[simp] theorem tby_318 : tby E.P 318 = some 32 := by rw [h.eq]; kernel_rfl
@[simp] theorem tagg_318 : tagg E.P 318 = some true := by rw [h.eq]; kernel_rfl
@[simp] theorem tar_318 : tar E.P 318 = some (16, 2, true) := by rw [h.eq]; kernel_rfl
@[simp] theorem tsl_318 : asl.tsl E.P 318 = 0 := by rw [h.eq]; kernel_rfl
@[simp] theorem srcType_318 : srcType E.P 318 = false := by rw [h.eq]; kernel_rfl
@[simp] theorem tzero_318 : tzero E.P 318 = some  (AV.agg   [AV.int IntKind.u8 0, AV.int IntKind.u8 0,    AV.int IntKind.u8 0, AV.int IntKind.u8 0,    AV.int IntKind.u8 0, AV.int IntKind.u8 0,    AV.int IntKind.u8 0, AV.int IntKind.u8 0,    AV.int IntKind.u8 0, AV.int IntKind.u8 0,    AV.int IntKind.u8 0, AV.int IntKind.u8 0,    AV.int IntKind.u8 0, AV.int IntKind.u8 0,    AV.int IntKind.u8 0, AV.int IntKind.u8 0,    AV.int IntKind.u8 0, AV.int IntKind.u8 0,    AV.int IntKind.u8 0, AV.int IntKind.u8 0,    AV.int IntKind.u8 0, AV.int IntKind.u8 0,    AV.int IntKind.u8 0, AV.int IntKind.u8 0,    AV.int IntKind.u8 0, AV.int IntKind.u8 0,    AV.int IntKind.u8 0, AV.int IntKind.u8 0,    AV.int IntKind.u8 0, AV.int IntKind.u8 0,    AV.int IntKind.u8 0, AV.int IntKind.u8 0]) := by rw [h.eq]; kernel_rfl
@[simp] theorem u_318 : E.P.underlying 318 = some (TypeDesc.array 16 317) := by rw [h.eq]; exact Tryz.underlying318
end
end Go.Zk
