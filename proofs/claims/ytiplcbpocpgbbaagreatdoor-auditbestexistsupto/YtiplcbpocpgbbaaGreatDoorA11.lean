/- Facts of the program's functions. Conditions: the program. The program's data and how they read as abstract values. Conditions: none. Contracts: the first of package school and of slices. Conditions: none. -/
import Derived.Test.YtiplcbpocpgbbaaGreatDoorA10
set_option linter.unusedSimpArgs false
set_option linter.unusedVariables false
set_option maxRecDepth 10000
namespace Go.Zk
open Go.Proofs
section
variable {E : Env} [h : Is E]
theorem fn_2 : FnIs E.P 2 1 [] (Tryz.f2.body.getD .skip) := by rw [h.eq]; exact ⟨Tryz.f2, Tryz.func2, rfl, by rw [Tryz.results2], Tryz.ntmps2, by kernel_rfl⟩
theorem fn_3 : FnIs E.P 3 68 [.tmp 6] (Tryz.f3.body.getD .skip) := by rw [h.eq]; exact ⟨Tryz.f3, Tryz.func3, rfl, by rw [Tryz.results3], Tryz.ntmps3, by kernel_rfl⟩
theorem fn_4 : FnIs E.P 4 70 [.tmp 4] (Tryz.f4.body.getD .skip) := by rw [h.eq]; exact ⟨Tryz.f4, Tryz.func4, rfl, by rw [Tryz.results4], Tryz.ntmps4, by kernel_rfl⟩
theorem fn_5 : FnIs E.P 5 112 [.tmp 0] (Tryz.f5.body.getD .skip) := by rw [h.eq]; exact ⟨Tryz.f5, Tryz.func5, rfl, by rw [Tryz.results5], Tryz.ntmps5, by kernel_rfl⟩
theorem fn_6 : FnIs E.P 6 35 [.tmp 2] (Tryz.f6.body.getD .skip) := by rw [h.eq]; exact ⟨Tryz.f6, Tryz.func6, rfl, by rw [Tryz.results6], Tryz.ntmps6, by kernel_rfl⟩
theorem fn_7 : FnIs E.P 7 23 [.tmp 4, .tmp 5] (Tryz.f7.body.getD .skip) := by rw [h.eq]; exact ⟨Tryz.f7, Tryz.func7, rfl, by rw [Tryz.results7], Tryz.ntmps7, by kernel_rfl⟩
theorem fn_8 : FnIs E.P 8 24 [.tmp 4, .tmp 5] (Tryz.f8.body.getD .skip) := by rw [h.eq]; exact ⟨Tryz.f8, Tryz.func8, rfl, by rw [Tryz.results8], Tryz.ntmps8, by kernel_rfl⟩
theorem fn_9 : FnIs E.P 9 52 [.cell 6 4] (Tryz.f9.body.getD .skip) := by rw [h.eq]; exact ⟨Tryz.f9, Tryz.func9, rfl, by rw [Tryz.results9], Tryz.ntmps9, by kernel_rfl⟩
theorem fn_10 : FnIs E.P 10 88 [.tmp 6] (Tryz.f10.body.getD .skip) := by rw [h.eq]; exact ⟨Tryz.f10, Tryz.func10, rfl, by rw [Tryz.results10], Tryz.ntmps10, by kernel_rfl⟩
theorem fn_11 : FnIs E.P 11 10 [.cell 4 4] (Tryz.f11.body.getD .skip) := by rw [h.eq]; exact ⟨Tryz.f11, Tryz.func11, rfl, by rw [Tryz.results11], Tryz.ntmps11, by kernel_rfl⟩
theorem fn_12 : FnIs E.P 12 45 [.tmp 4] (Tryz.f12.body.getD .skip) := by rw [h.eq]; exact ⟨Tryz.f12, Tryz.func12, rfl, by rw [Tryz.results12], Tryz.ntmps12, by kernel_rfl⟩
theorem fn_13 : FnIs E.P 13 44 [.cell 4 42, .tmp 5] (Tryz.f13.body.getD .skip) := by rw [h.eq]; exact ⟨Tryz.f13, Tryz.func13, rfl, by rw [Tryz.results13], Tryz.ntmps13, by kernel_rfl⟩
theorem fn_14 : FnIs E.P 14 36 [.cell 0 32] (Tryz.f14.body.getD .skip) := by rw [h.eq]; exact ⟨Tryz.f14, Tryz.func14, rfl, by rw [Tryz.results14], Tryz.ntmps14, by kernel_rfl⟩
theorem fn_15 : FnIs E.P 15 18 [.tmp 2] (Tryz.f15.body.getD .skip) := by rw [h.eq]; exact ⟨Tryz.f15, Tryz.func15, rfl, by rw [Tryz.results15], Tryz.ntmps15, by kernel_rfl⟩
theorem fn_16 : FnIs E.P 16 113 [.tmp 4] (Tryz.f16.body.getD .skip) := by rw [h.eq]; exact ⟨Tryz.f16, Tryz.func16, rfl, by rw [Tryz.results16], Tryz.ntmps16, by kernel_rfl⟩
theorem fn_17 : FnIs E.P 17 98 [.tmp 4] (Tryz.f17.body.getD .skip) := by rw [h.eq]; exact ⟨Tryz.f17, Tryz.func17, rfl, by rw [Tryz.results17], Tryz.ntmps17, by kernel_rfl⟩
theorem fn_18 : FnIs E.P 18 43 [.tmp 6, .tmp 7, .tmp 8] (Tryz.f18.body.getD .skip) := by rw [h.eq]; exact ⟨Tryz.f18, Tryz.func18, rfl, by rw [Tryz.results18], Tryz.ntmps18, by kernel_rfl⟩
theorem fn_19 : FnIs E.P 19 54 [.tmp 6, .tmp 7, .tmp 8] (Tryz.f19.body.getD .skip) := by rw [h.eq]; exact ⟨Tryz.f19, Tryz.func19, rfl, by rw [Tryz.results19], Tryz.ntmps19, by kernel_rfl⟩
theorem fn_20 : FnIs E.P 20 16 [.tmp 6] (Tryz.f20.body.getD .skip) := by rw [h.eq]; exact ⟨Tryz.f20, Tryz.func20, rfl, by rw [Tryz.results20], Tryz.ntmps20, by kernel_rfl⟩
theorem fn_21 : FnIs E.P 21 21 [.tmp 6] (Tryz.f21.body.getD .skip) := by rw [h.eq]; exact ⟨Tryz.f21, Tryz.func21, rfl, by rw [Tryz.results21], Tryz.ntmps21, by kernel_rfl⟩
theorem fn_22 : FnIs E.P 22 6 [.tmp 4] (Tryz.f22.body.getD .skip) := by rw [h.eq]; exact ⟨Tryz.f22, Tryz.func22, rfl, by rw [Tryz.results22], Tryz.ntmps22, by kernel_rfl⟩
theorem fn_23 : FnIs E.P 23 55 [.tmp 6] (Tryz.f23.body.getD .skip) := by rw [h.eq]; exact ⟨Tryz.f23, Tryz.func23, rfl, by rw [Tryz.results23], Tryz.ntmps23, by kernel_rfl⟩
theorem fn_24 : FnIs E.P 24 86 [.tmp 4, .tmp 5] (Tryz.f24.body.getD .skip) := by rw [h.eq]; exact ⟨Tryz.f24, Tryz.func24, rfl, by rw [Tryz.results24], Tryz.ntmps24, by kernel_rfl⟩
theorem fn_25 : FnIs E.P 25 24 [.tmp 6] (Tryz.f25.body.getD .skip) := by rw [h.eq]; exact ⟨Tryz.f25, Tryz.func25, rfl, by rw [Tryz.results25], Tryz.ntmps25, by kernel_rfl⟩
theorem fn_26 : FnIs E.P 26 136 [.cell 2 43] (Tryz.f26.body.getD .skip) := by rw [h.eq]; exact ⟨Tryz.f26, Tryz.func26, rfl, by rw [Tryz.results26], Tryz.ntmps26, by kernel_rfl⟩
theorem fn_27 : FnIs E.P 27 4 [.tmp 2] (Tryz.f27.body.getD .skip) := by rw [h.eq]; exact ⟨Tryz.f27, Tryz.func27, rfl, by rw [Tryz.results27], Tryz.ntmps27, by kernel_rfl⟩
theorem fn_28 : FnIs E.P 28 8 [.tmp 2] (Tryz.f28.body.getD .skip) := by rw [h.eq]; exact ⟨Tryz.f28, Tryz.func28, rfl, by rw [Tryz.results28], Tryz.ntmps28, by kernel_rfl⟩
theorem fn_29 : FnIs E.P 29 115 [.cell 2 95, .tmp 3] (Tryz.f29.body.getD .skip) := by rw [h.eq]; exact ⟨Tryz.f29, Tryz.func29, rfl, by rw [Tryz.results29], Tryz.ntmps29, by kernel_rfl⟩
theorem fn_30 : FnIs E.P 30 23 [.tmp 3] (Tryz.f30.body.getD .skip) := by rw [h.eq]; exact ⟨Tryz.f30, Tryz.func30, rfl, by rw [Tryz.results30], Tryz.ntmps30, by kernel_rfl⟩
theorem fn_31 : FnIs E.P 31 21 [.tmp 3] (Tryz.f31.body.getD .skip) := by rw [h.eq]; exact ⟨Tryz.f31, Tryz.func31, rfl, by rw [Tryz.results31], Tryz.ntmps31, by kernel_rfl⟩
theorem fn_32 : FnIs E.P 32 9 [.tmp 4] (Tryz.f32.body.getD .skip) := by rw [h.eq]; exact ⟨Tryz.f32, Tryz.func32, rfl, by rw [Tryz.results32], Tryz.ntmps32, by kernel_rfl⟩
theorem fn_33 : FnIs E.P 33 21 [.tmp 2] (Tryz.f33.body.getD .skip) := by rw [h.eq]; exact ⟨Tryz.f33, Tryz.func33, rfl, by rw [Tryz.results33], Tryz.ntmps33, by kernel_rfl⟩
theorem fn_34 : FnIs E.P 34 61 [.tmp 2] (Tryz.f34.body.getD .skip) := by rw [h.eq]; exact ⟨Tryz.f34, Tryz.func34, rfl, by rw [Tryz.results34], Tryz.ntmps34, by kernel_rfl⟩
theorem fn_35 : FnIs E.P 35 8 [.tmp 2] (Tryz.f35.body.getD .skip) := by rw [h.eq]; exact ⟨Tryz.f35, Tryz.func35, rfl, by rw [Tryz.results35], Tryz.ntmps35, by kernel_rfl⟩
theorem fn_36 : FnIs E.P 36 9 [.tmp 4] (Tryz.f36.body.getD .skip) := by rw [h.eq]; exact ⟨Tryz.f36, Tryz.func36, rfl, by rw [Tryz.results36], Tryz.ntmps36, by kernel_rfl⟩
theorem fn_37 : FnIs E.P 37 16 [.tmp 4] (Tryz.f37.body.getD .skip) := by rw [h.eq]; exact ⟨Tryz.f37, Tryz.func37, rfl, by rw [Tryz.results37], Tryz.ntmps37, by kernel_rfl⟩
theorem fn_38 : FnIs E.P 38 21 [.tmp 4] (Tryz.f38.body.getD .skip) := by rw [h.eq]; exact ⟨Tryz.f38, Tryz.func38, rfl, by rw [Tryz.results38], Tryz.ntmps38, by kernel_rfl⟩
theorem fn_39 : FnIs E.P 39 10 [.tmp 3] (Tryz.f39.body.getD .skip) := by rw [h.eq]; exact ⟨Tryz.f39, Tryz.func39, rfl, by rw [Tryz.results39], Tryz.ntmps39, by kernel_rfl⟩
theorem fn_40 : FnIs E.P 40 29 [.tmp 4] (Tryz.f40.body.getD .skip) := by rw [h.eq]; exact ⟨Tryz.f40, Tryz.func40, rfl, by rw [Tryz.results40], Tryz.ntmps40, by kernel_rfl⟩
theorem fn_41 : FnIs E.P 41 19 [.tmp 4] (Tryz.f41.body.getD .skip) := by rw [h.eq]; exact ⟨Tryz.f41, Tryz.func41, rfl, by rw [Tryz.results41], Tryz.ntmps41, by kernel_rfl⟩
theorem fn_42 : FnIs E.P 42 39 [.tmp 2] (Tryz.f42.body.getD .skip) := by rw [h.eq]; exact ⟨Tryz.f42, Tryz.func42, rfl, by rw [Tryz.results42], Tryz.ntmps42, by kernel_rfl⟩
theorem fn_43 : FnIs E.P 43 24 [.tmp 4] (Tryz.f43.body.getD .skip) := by rw [h.eq]; exact ⟨Tryz.f43, Tryz.func43, rfl, by rw [Tryz.results43], Tryz.ntmps43, by kernel_rfl⟩
theorem fn_44 : FnIs E.P 44 37 [.tmp 4] (Tryz.f44.body.getD .skip) := by rw [h.eq]; exact ⟨Tryz.f44, Tryz.func44, rfl, by rw [Tryz.results44], Tryz.ntmps44, by kernel_rfl⟩
theorem fn_45 : FnIs E.P 45 107 [.tmp 2] (Tryz.f45.body.getD .skip) := by rw [h.eq]; exact ⟨Tryz.f45, Tryz.func45, rfl, by rw [Tryz.results45], Tryz.ntmps45, by kernel_rfl⟩
theorem fn_46 : FnIs E.P 46 46 [.tmp 4] (Tryz.f46.body.getD .skip) := by rw [h.eq]; exact ⟨Tryz.f46, Tryz.func46, rfl, by rw [Tryz.results46], Tryz.ntmps46, by kernel_rfl⟩
theorem fn_47 : FnIs E.P 47 63 [.tmp 6, .tmp 7] (Tryz.f47.body.getD .skip) := by rw [h.eq]; exact ⟨Tryz.f47, Tryz.func47, rfl, by rw [Tryz.results47], Tryz.ntmps47, by kernel_rfl⟩
theorem fn_48 : FnIs E.P 48 80 [.tmp 6, .tmp 7] (Tryz.f48.body.getD .skip) := by rw [h.eq]; exact ⟨Tryz.f48, Tryz.func48, rfl, by rw [Tryz.results48], Tryz.ntmps48, by kernel_rfl⟩
theorem fn_49 : FnIs E.P 49 10 [.tmp 4] (Tryz.f49.body.getD .skip) := by rw [h.eq]; exact ⟨Tryz.f49, Tryz.func49, rfl, by rw [Tryz.results49], Tryz.ntmps49, by kernel_rfl⟩
theorem fn_50 : FnIs E.P 50 31 [.tmp 4] (Tryz.f50.body.getD .skip) := by rw [h.eq]; exact ⟨Tryz.f50, Tryz.func50, rfl, by rw [Tryz.results50], Tryz.ntmps50, by kernel_rfl⟩
theorem fn_51 : FnIs E.P 51 39 [.tmp 4, .tmp 5] (Tryz.f51.body.getD .skip) := by rw [h.eq]; exact ⟨Tryz.f51, Tryz.func51, rfl, by rw [Tryz.results51], Tryz.ntmps51, by kernel_rfl⟩
theorem fn_52 : FnIs E.P 52 43 [] (Tryz.f52.body.getD .skip) := by rw [h.eq]; exact ⟨Tryz.f52, Tryz.func52, rfl, by rw [Tryz.results52], Tryz.ntmps52, by kernel_rfl⟩
theorem fn_53 : FnIs E.P 53 56 [.tmp 4] (Tryz.f53.body.getD .skip) := by rw [h.eq]; exact ⟨Tryz.f53, Tryz.func53, rfl, by rw [Tryz.results53], Tryz.ntmps53, by kernel_rfl⟩
theorem fn_54 : FnIs E.P 54 34 [.tmp 2] (Tryz.f54.body.getD .skip) := by rw [h.eq]; exact ⟨Tryz.f54, Tryz.func54, rfl, by rw [Tryz.results54], Tryz.ntmps54, by kernel_rfl⟩
theorem fn_55 : FnIs E.P 55 45 [.tmp 4, .tmp 5] (Tryz.f55.body.getD .skip) := by rw [h.eq]; exact ⟨Tryz.f55, Tryz.func55, rfl, by rw [Tryz.results55], Tryz.ntmps55, by kernel_rfl⟩
theorem fn_56 : FnIs E.P 56 6 [.tmp 4] (Tryz.f56.body.getD .skip) := by rw [h.eq]; exact ⟨Tryz.f56, Tryz.func56, rfl, by rw [Tryz.results56], Tryz.ntmps56, by kernel_rfl⟩
theorem fn_57 : FnIs E.P 57 28 [.tmp 2] (Tryz.f57.body.getD .skip) := by rw [h.eq]; exact ⟨Tryz.f57, Tryz.func57, rfl, by rw [Tryz.results57], Tryz.ntmps57, by kernel_rfl⟩
theorem fn_58 : FnIs E.P 58 12 [.tmp 4] (Tryz.f58.body.getD .skip) := by rw [h.eq]; exact ⟨Tryz.f58, Tryz.func58, rfl, by rw [Tryz.results58], Tryz.ntmps58, by kernel_rfl⟩
theorem fn_59 : FnIs E.P 59 21 [.tmp 3] (Tryz.f59.body.getD .skip) := by rw [h.eq]; exact ⟨Tryz.f59, Tryz.func59, rfl, by rw [Tryz.results59], Tryz.ntmps59, by kernel_rfl⟩
theorem fn_60 : FnIs E.P 60 24 [.tmp 4] (Tryz.f60.body.getD .skip) := by rw [h.eq]; exact ⟨Tryz.f60, Tryz.func60, rfl, by rw [Tryz.results60], Tryz.ntmps60, by kernel_rfl⟩
theorem fn_61 : FnIs E.P 61 9 [.tmp 3] (Tryz.f61.body.getD .skip) := by rw [h.eq]; exact ⟨Tryz.f61, Tryz.func61, rfl, by rw [Tryz.results61], Tryz.ntmps61, by kernel_rfl⟩
theorem fn_62 : FnIs E.P 62 7 [.tmp 2] (Tryz.f62.body.getD .skip) := by rw [h.eq]; exact ⟨Tryz.f62, Tryz.func62, rfl, by rw [Tryz.results62], Tryz.ntmps62, by kernel_rfl⟩
theorem fn_63 : FnIs E.P 63 17 [.tmp 4] (Tryz.f63.body.getD .skip) := by rw [h.eq]; exact ⟨Tryz.f63, Tryz.func63, rfl, by rw [Tryz.results63], Tryz.ntmps63, by kernel_rfl⟩
theorem fn_64 : FnIs E.P 64 9 [.tmp 4] (Tryz.f64.body.getD .skip) := by rw [h.eq]; exact ⟨Tryz.f64, Tryz.func64, rfl, by rw [Tryz.results64], Tryz.ntmps64, by kernel_rfl⟩
theorem fn_65 : FnIs E.P 65 9 [.tmp 4] (Tryz.f65.body.getD .skip) := by rw [h.eq]; exact ⟨Tryz.f65, Tryz.func65, rfl, by rw [Tryz.results65], Tryz.ntmps65, by kernel_rfl⟩
theorem fn_66 : FnIs E.P 66 9 [.tmp 4] (Tryz.f66.body.getD .skip) := by rw [h.eq]; exact ⟨Tryz.f66, Tryz.func66, rfl, by rw [Tryz.results66], Tryz.ntmps66, by kernel_rfl⟩
theorem fn_67 : FnIs E.P 67 9 [.tmp 4] (Tryz.f67.body.getD .skip) := by rw [h.eq]; exact ⟨Tryz.f67, Tryz.func67, rfl, by rw [Tryz.results67], Tryz.ntmps67, by kernel_rfl⟩
theorem fn_68 : FnIs E.P 68 64 [] (Tryz.f68.body.getD .skip) := by rw [h.eq]; exact ⟨Tryz.f68, Tryz.func68, rfl, by rw [Tryz.results68], Tryz.ntmps68, by kernel_rfl⟩
theorem fn_69 : FnIs E.P 69 28 [.tmp 4, .tmp 5] (Tryz.f69.body.getD .skip) := by rw [h.eq]; exact ⟨Tryz.f69, Tryz.func69, rfl, by rw [Tryz.results69], Tryz.ntmps69, by kernel_rfl⟩
theorem fn_70 : FnIs E.P 70 39 [.tmp 8, .tmp 9] (Tryz.f70.body.getD .skip) := by rw [h.eq]; exact ⟨Tryz.f70, Tryz.func70, rfl, by rw [Tryz.results70], Tryz.ntmps70, by kernel_rfl⟩
theorem fn_71 : FnIs E.P 71 19 [.tmp 4] (Tryz.f71.body.getD .skip) := by rw [h.eq]; exact ⟨Tryz.f71, Tryz.func71, rfl, by rw [Tryz.results71], Tryz.ntmps71, by kernel_rfl⟩
theorem fn_72 : FnIs E.P 72 17 [.tmp 4] (Tryz.f72.body.getD .skip) := by rw [h.eq]; exact ⟨Tryz.f72, Tryz.func72, rfl, by rw [Tryz.results72], Tryz.ntmps72, by kernel_rfl⟩
theorem fn_73 : FnIs E.P 73 19 [.tmp 4] (Tryz.f73.body.getD .skip) := by rw [h.eq]; exact ⟨Tryz.f73, Tryz.func73, rfl, by rw [Tryz.results73], Tryz.ntmps73, by kernel_rfl⟩
theorem fn_74 : FnIs E.P 74 14 [.tmp 4] (Tryz.f74.body.getD .skip) := by rw [h.eq]; exact ⟨Tryz.f74, Tryz.func74, rfl, by rw [Tryz.results74], Tryz.ntmps74, by kernel_rfl⟩
theorem fn_75 : FnIs E.P 75 33 [.tmp 6] (Tryz.f75.body.getD .skip) := by rw [h.eq]; exact ⟨Tryz.f75, Tryz.func75, rfl, by rw [Tryz.results75], Tryz.ntmps75, by kernel_rfl⟩
theorem fn_76 : FnIs E.P 76 9 [.tmp 4] (Tryz.f76.body.getD .skip) := by rw [h.eq]; exact ⟨Tryz.f76, Tryz.func76, rfl, by rw [Tryz.results76], Tryz.ntmps76, by kernel_rfl⟩
theorem fn_77 : FnIs E.P 77 113 [.tmp 2, .tmp 3] (Tryz.f77.body.getD .skip) := by rw [h.eq]; exact ⟨Tryz.f77, Tryz.func77, rfl, by rw [Tryz.results77], Tryz.ntmps77, by kernel_rfl⟩
theorem fn_78 : FnIs E.P 78 32 [.tmp 6] (Tryz.f78.body.getD .skip) := by rw [h.eq]; exact ⟨Tryz.f78, Tryz.func78, rfl, by rw [Tryz.results78], Tryz.ntmps78, by kernel_rfl⟩
theorem fn_79 : FnIs E.P 79 26 [.tmp 4] (Tryz.f79.body.getD .skip) := by rw [h.eq]; exact ⟨Tryz.f79, Tryz.func79, rfl, by rw [Tryz.results79], Tryz.ntmps79, by kernel_rfl⟩
theorem fn_80 : FnIs E.P 80 21 [.tmp 2] (Tryz.f80.body.getD .skip) := by rw [h.eq]; exact ⟨Tryz.f80, Tryz.func80, rfl, by rw [Tryz.results80], Tryz.ntmps80, by kernel_rfl⟩
theorem fn_81 : FnIs E.P 81 9 [.tmp 4] (Tryz.f81.body.getD .skip) := by rw [h.eq]; exact ⟨Tryz.f81, Tryz.func81, rfl, by rw [Tryz.results81], Tryz.ntmps81, by kernel_rfl⟩
theorem fn_82 : FnIs E.P 82 109 [.tmp 4] (Tryz.f82.body.getD .skip) := by rw [h.eq]; exact ⟨Tryz.f82, Tryz.func82, rfl, by rw [Tryz.results82], Tryz.ntmps82, by kernel_rfl⟩
theorem fn_83 : FnIs E.P 83 26 [.tmp 4] (Tryz.f83.body.getD .skip) := by rw [h.eq]; exact ⟨Tryz.f83, Tryz.func83, rfl, by rw [Tryz.results83], Tryz.ntmps83, by kernel_rfl⟩
theorem fn_84 : FnIs E.P 84 31 [.tmp 2, .tmp 3] (Tryz.f84.body.getD .skip) := by rw [h.eq]; exact ⟨Tryz.f84, Tryz.func84, rfl, by rw [Tryz.results84], Tryz.ntmps84, by kernel_rfl⟩
theorem fn_85 : FnIs E.P 85 39 [.tmp 4] (Tryz.f85.body.getD .skip) := by rw [h.eq]; exact ⟨Tryz.f85, Tryz.func85, rfl, by rw [Tryz.results85], Tryz.ntmps85, by kernel_rfl⟩
theorem fn_86 : FnIs E.P 86 10 [.tmp 4] (Tryz.f86.body.getD .skip) := by rw [h.eq]; exact ⟨Tryz.f86, Tryz.func86, rfl, by rw [Tryz.results86], Tryz.ntmps86, by kernel_rfl⟩
theorem fn_87 : FnIs E.P 87 139 [.tmp 6] (Tryz.f87.body.getD .skip) := by rw [h.eq]; exact ⟨Tryz.f87, Tryz.func87, rfl, by rw [Tryz.results87], Tryz.ntmps87, by kernel_rfl⟩
theorem fn_88 : FnIs E.P 88 32 [.tmp 6] (Tryz.f88.body.getD .skip) := by rw [h.eq]; exact ⟨Tryz.f88, Tryz.func88, rfl, by rw [Tryz.results88], Tryz.ntmps88, by kernel_rfl⟩
theorem fn_89 : FnIs E.P 89 39 [.tmp 2, .tmp 3] (Tryz.f89.body.getD .skip) := by rw [h.eq]; exact ⟨Tryz.f89, Tryz.func89, rfl, by rw [Tryz.results89], Tryz.ntmps89, by kernel_rfl⟩
theorem fn_90 : FnIs E.P 90 56 [.tmp 4] (Tryz.f90.body.getD .skip) := by rw [h.eq]; exact ⟨Tryz.f90, Tryz.func90, rfl, by rw [Tryz.results90], Tryz.ntmps90, by kernel_rfl⟩
theorem fn_91 : FnIs E.P 91 147 [.tmp 8] (Tryz.f91.body.getD .skip) := by rw [h.eq]; exact ⟨Tryz.f91, Tryz.func91, rfl, by rw [Tryz.results91], Tryz.ntmps91, by kernel_rfl⟩
theorem fn_92 : FnIs E.P 92 37 [.tmp 6] (Tryz.f92.body.getD .skip) := by rw [h.eq]; exact ⟨Tryz.f92, Tryz.func92, rfl, by rw [Tryz.results92], Tryz.ntmps92, by kernel_rfl⟩
theorem fn_93 : FnIs E.P 93 138 [.tmp 2] (Tryz.f93.body.getD .skip) := by rw [h.eq]; exact ⟨Tryz.f93, Tryz.func93, rfl, by rw [Tryz.results93], Tryz.ntmps93, by kernel_rfl⟩
theorem fn_94 : FnIs E.P 94 47 [] (Tryz.f94.body.getD .skip) := by rw [h.eq]; exact ⟨Tryz.f94, Tryz.func94, rfl, by rw [Tryz.results94], Tryz.ntmps94, by kernel_rfl⟩
theorem fn_95 : FnIs E.P 95 27 [] (Tryz.f95.body.getD .skip) := by rw [h.eq]; exact ⟨Tryz.f95, Tryz.func95, rfl, by rw [Tryz.results95], Tryz.ntmps95, by kernel_rfl⟩
theorem fn_96 : FnIs E.P 96 5 [.tmp 2] (Tryz.f96.body.getD .skip) := by rw [h.eq]; exact ⟨Tryz.f96, Tryz.func96, rfl, by rw [Tryz.results96], Tryz.ntmps96, by kernel_rfl⟩
theorem fn_97 : FnIs E.P 97 27 [] (Tryz.f97.body.getD .skip) := by rw [h.eq]; exact ⟨Tryz.f97, Tryz.func97, rfl, by rw [Tryz.results97], Tryz.ntmps97, by kernel_rfl⟩
theorem fn_98 : FnIs E.P 98 5 [.tmp 2] (Tryz.f98.body.getD .skip) := by rw [h.eq]; exact ⟨Tryz.f98, Tryz.func98, rfl, by rw [Tryz.results98], Tryz.ntmps98, by kernel_rfl⟩
theorem fn_99 : FnIs E.P 99 27 [] (Tryz.f99.body.getD .skip) := by rw [h.eq]; exact ⟨Tryz.f99, Tryz.func99, rfl, by rw [Tryz.results99], Tryz.ntmps99, by kernel_rfl⟩
theorem fn_100 : FnIs E.P 100 5 [.tmp 2] (Tryz.f100.body.getD .skip) := by rw [h.eq]; exact ⟨Tryz.f100, Tryz.func100, rfl, by rw [Tryz.results100], Tryz.ntmps100, by kernel_rfl⟩
theorem fn_101 : FnIs E.P 101 27 [] (Tryz.f101.body.getD .skip) := by rw [h.eq]; exact ⟨Tryz.f101, Tryz.func101, rfl, by rw [Tryz.results101], Tryz.ntmps101, by kernel_rfl⟩
theorem fn_102 : FnIs E.P 102 5 [.tmp 2] (Tryz.f102.body.getD .skip) := by rw [h.eq]; exact ⟨Tryz.f102, Tryz.func102, rfl, by rw [Tryz.results102], Tryz.ntmps102, by kernel_rfl⟩
theorem fn_103 : FnIs E.P 103 27 [] (Tryz.f103.body.getD .skip) := by rw [h.eq]; exact ⟨Tryz.f103, Tryz.func103, rfl, by rw [Tryz.results103], Tryz.ntmps103, by kernel_rfl⟩
theorem fn_104 : FnIs E.P 104 5 [.tmp 2] (Tryz.f104.body.getD .skip) := by rw [h.eq]; exact ⟨Tryz.f104, Tryz.func104, rfl, by rw [Tryz.results104], Tryz.ntmps104, by kernel_rfl⟩
theorem fn_105 : FnIs E.P 105 27 [] (Tryz.f105.body.getD .skip) := by rw [h.eq]; exact ⟨Tryz.f105, Tryz.func105, rfl, by rw [Tryz.results105], Tryz.ntmps105, by kernel_rfl⟩
theorem fn_106 : FnIs E.P 106 6 [.tmp 4] (Tryz.f106.body.getD .skip) := by rw [h.eq]; exact ⟨Tryz.f106, Tryz.func106, rfl, by rw [Tryz.results106], Tryz.ntmps106, by kernel_rfl⟩
theorem fn_107 : FnIs E.P 107 21 [.tmp 2] (Tryz.f107.body.getD .skip) := by rw [h.eq]; exact ⟨Tryz.f107, Tryz.func107, rfl, by rw [Tryz.results107], Tryz.ntmps107, by kernel_rfl⟩
theorem fn_108 : FnIs E.P 108 8 [.tmp 3] (Tryz.f108.body.getD .skip) := by rw [h.eq]; exact ⟨Tryz.f108, Tryz.func108, rfl, by rw [Tryz.results108], Tryz.ntmps108, by kernel_rfl⟩
theorem fn_109 : FnIs E.P 109 9 [.tmp 4] (Tryz.f109.body.getD .skip) := by rw [h.eq]; exact ⟨Tryz.f109, Tryz.func109, rfl, by rw [Tryz.results109], Tryz.ntmps109, by kernel_rfl⟩
theorem fn_110 : FnIs E.P 110 9 [.tmp 4] (Tryz.f110.body.getD .skip) := by rw [h.eq]; exact ⟨Tryz.f110, Tryz.func110, rfl, by rw [Tryz.results110], Tryz.ntmps110, by kernel_rfl⟩
theorem fn_111 : FnIs E.P 111 19 [.tmp 4] (Tryz.f111.body.getD .skip) := by rw [h.eq]; exact ⟨Tryz.f111, Tryz.func111, rfl, by rw [Tryz.results111], Tryz.ntmps111, by kernel_rfl⟩
theorem fn_112 : FnIs E.P 112 19 [.tmp 4] (Tryz.f112.body.getD .skip) := by rw [h.eq]; exact ⟨Tryz.f112, Tryz.func112, rfl, by rw [Tryz.results112], Tryz.ntmps112, by kernel_rfl⟩
theorem fn_113 : FnIs E.P 113 19 [.tmp 4] (Tryz.f113.body.getD .skip) := by rw [h.eq]; exact ⟨Tryz.f113, Tryz.func113, rfl, by rw [Tryz.results113], Tryz.ntmps113, by kernel_rfl⟩
theorem fn_114 : FnIs E.P 114 19 [.tmp 4] (Tryz.f114.body.getD .skip) := by rw [h.eq]; exact ⟨Tryz.f114, Tryz.func114, rfl, by rw [Tryz.results114], Tryz.ntmps114, by kernel_rfl⟩
theorem fn_115 : FnIs E.P 115 53 [.tmp 2] (Tryz.f115.body.getD .skip) := by rw [h.eq]; exact ⟨Tryz.f115, Tryz.func115, rfl, by rw [Tryz.results115], Tryz.ntmps115, by kernel_rfl⟩
theorem fn_116 : FnIs E.P 116 21 [.tmp 4] (Tryz.f116.body.getD .skip) := by rw [h.eq]; exact ⟨Tryz.f116, Tryz.func116, rfl, by rw [Tryz.results116], Tryz.ntmps116, by kernel_rfl⟩
theorem fn_117 : FnIs E.P 117 5 [.tmp 2] (Tryz.f117.body.getD .skip) := by rw [h.eq]; exact ⟨Tryz.f117, Tryz.func117, rfl, by rw [Tryz.results117], Tryz.ntmps117, by kernel_rfl⟩
theorem fn_118 : FnIs E.P 118 24 [.tmp 4] (Tryz.f118.body.getD .skip) := by rw [h.eq]; exact ⟨Tryz.f118, Tryz.func118, rfl, by rw [Tryz.results118], Tryz.ntmps118, by kernel_rfl⟩
theorem fn_119 : FnIs E.P 119 19 [.tmp 4] (Tryz.f119.body.getD .skip) := by rw [h.eq]; exact ⟨Tryz.f119, Tryz.func119, rfl, by rw [Tryz.results119], Tryz.ntmps119, by kernel_rfl⟩
theorem fn_120 : FnIs E.P 120 22 [.tmp 2] (Tryz.f120.body.getD .skip) := by rw [h.eq]; exact ⟨Tryz.f120, Tryz.func120, rfl, by rw [Tryz.results120], Tryz.ntmps120, by kernel_rfl⟩
theorem fn_121 : FnIs E.P 121 30 [.tmp 4] (Tryz.f121.body.getD .skip) := by rw [h.eq]; exact ⟨Tryz.f121, Tryz.func121, rfl, by rw [Tryz.results121], Tryz.ntmps121, by kernel_rfl⟩
theorem fn_122 : FnIs E.P 122 6 [.tmp 2] (Tryz.f122.body.getD .skip) := by rw [h.eq]; exact ⟨Tryz.f122, Tryz.func122, rfl, by rw [Tryz.results122], Tryz.ntmps122, by kernel_rfl⟩
theorem fn_123 : FnIs E.P 123 19 [.tmp 4] (Tryz.f123.body.getD .skip) := by rw [h.eq]; exact ⟨Tryz.f123, Tryz.func123, rfl, by rw [Tryz.results123], Tryz.ntmps123, by kernel_rfl⟩
theorem fn_124 : FnIs E.P 124 7 [.tmp 3] (Tryz.f124.body.getD .skip) := by rw [h.eq]; exact ⟨Tryz.f124, Tryz.func124, rfl, by rw [Tryz.results124], Tryz.ntmps124, by kernel_rfl⟩
theorem fn_125 : FnIs E.P 125 54 [.tmp 4, .tmp 5] (Tryz.f125.body.getD .skip) := by rw [h.eq]; exact ⟨Tryz.f125, Tryz.func125, rfl, by rw [Tryz.results125], Tryz.ntmps125, by kernel_rfl⟩
theorem fn_126 : FnIs E.P 126 95 [.tmp 6] (Tryz.f126.body.getD .skip) := by rw [h.eq]; exact ⟨Tryz.f126, Tryz.func126, rfl, by rw [Tryz.results126], Tryz.ntmps126, by kernel_rfl⟩
theorem fn_127 : FnIs E.P 127 58 [.tmp 4] (Tryz.f127.body.getD .skip) := by rw [h.eq]; exact ⟨Tryz.f127, Tryz.func127, rfl, by rw [Tryz.results127], Tryz.ntmps127, by kernel_rfl⟩
theorem fn_128 : FnIs E.P 128 22 [.tmp 4] (Tryz.f128.body.getD .skip) := by rw [h.eq]; exact ⟨Tryz.f128, Tryz.func128, rfl, by rw [Tryz.results128], Tryz.ntmps128, by kernel_rfl⟩
theorem fn_129 : FnIs E.P 129 6 [.tmp 2] (Tryz.f129.body.getD .skip) := by rw [h.eq]; exact ⟨Tryz.f129, Tryz.func129, rfl, by rw [Tryz.results129], Tryz.ntmps129, by kernel_rfl⟩
theorem fn_130 : FnIs E.P 130 20 [.tmp 3] (Tryz.f130.body.getD .skip) := by rw [h.eq]; exact ⟨Tryz.f130, Tryz.func130, rfl, by rw [Tryz.results130], Tryz.ntmps130, by kernel_rfl⟩
theorem fn_131 : FnIs E.P 131 12 [.tmp 4] (Tryz.f131.body.getD .skip) := by rw [h.eq]; exact ⟨Tryz.f131, Tryz.func131, rfl, by rw [Tryz.results131], Tryz.ntmps131, by kernel_rfl⟩
theorem fn_132 : FnIs E.P 132 9 [.tmp 4] (Tryz.f132.body.getD .skip) := by rw [h.eq]; exact ⟨Tryz.f132, Tryz.func132, rfl, by rw [Tryz.results132], Tryz.ntmps132, by kernel_rfl⟩
theorem fn_133 : FnIs E.P 133 9 [.tmp 4] (Tryz.f133.body.getD .skip) := by rw [h.eq]; exact ⟨Tryz.f133, Tryz.func133, rfl, by rw [Tryz.results133], Tryz.ntmps133, by kernel_rfl⟩
theorem fn_134 : FnIs E.P 134 23 [.tmp 4] (Tryz.f134.body.getD .skip) := by rw [h.eq]; exact ⟨Tryz.f134, Tryz.func134, rfl, by rw [Tryz.results134], Tryz.ntmps134, by kernel_rfl⟩
theorem fn_135 : FnIs E.P 135 46 [] (Tryz.f135.body.getD .skip) := by rw [h.eq]; exact ⟨Tryz.f135, Tryz.func135, rfl, by rw [Tryz.results135], Tryz.ntmps135, by kernel_rfl⟩
theorem fn_136 : FnIs E.P 136 14 [.tmp 5] (Tryz.f136.body.getD .skip) := by rw [h.eq]; exact ⟨Tryz.f136, Tryz.func136, rfl, by rw [Tryz.results136], Tryz.ntmps136, by kernel_rfl⟩
theorem fn_137 : FnIs E.P 137 20 [.tmp 4] (Tryz.f137.body.getD .skip) := by rw [h.eq]; exact ⟨Tryz.f137, Tryz.func137, rfl, by rw [Tryz.results137], Tryz.ntmps137, by kernel_rfl⟩
theorem fn_138 : FnIs E.P 138 87 [.tmp 6] (Tryz.f138.body.getD .skip) := by rw [h.eq]; exact ⟨Tryz.f138, Tryz.func138, rfl, by rw [Tryz.results138], Tryz.ntmps138, by kernel_rfl⟩
theorem fn_139 : FnIs E.P 139 12 [.tmp 4] (Tryz.f139.body.getD .skip) := by rw [h.eq]; exact ⟨Tryz.f139, Tryz.func139, rfl, by rw [Tryz.results139], Tryz.ntmps139, by kernel_rfl⟩
theorem fn_140 : FnIs E.P 140 8 [.tmp 2] (Tryz.f140.body.getD .skip) := by rw [h.eq]; exact ⟨Tryz.f140, Tryz.func140, rfl, by rw [Tryz.results140], Tryz.ntmps140, by kernel_rfl⟩
theorem fn_141 : FnIs E.P 141 86 [.tmp 2] (Tryz.f141.body.getD .skip) := by rw [h.eq]; exact ⟨Tryz.f141, Tryz.func141, rfl, by rw [Tryz.results141], Tryz.ntmps141, by kernel_rfl⟩
theorem fn_142 : FnIs E.P 142 91 [.tmp 8] (Tryz.f142.body.getD .skip) := by rw [h.eq]; exact ⟨Tryz.f142, Tryz.func142, rfl, by rw [Tryz.results142], Tryz.ntmps142, by kernel_rfl⟩
theorem fn_143 : FnIs E.P 143 31 [.tmp 2] (Tryz.f143.body.getD .skip) := by rw [h.eq]; exact ⟨Tryz.f143, Tryz.func143, rfl, by rw [Tryz.results143], Tryz.ntmps143, by kernel_rfl⟩
theorem fn_144 : FnIs E.P 144 41 [.tmp 4] (Tryz.f144.body.getD .skip) := by rw [h.eq]; exact ⟨Tryz.f144, Tryz.func144, rfl, by rw [Tryz.results144], Tryz.ntmps144, by kernel_rfl⟩
theorem fn_145 : FnIs E.P 145 73 [.tmp 2] (Tryz.f145.body.getD .skip) := by rw [h.eq]; exact ⟨Tryz.f145, Tryz.func145, rfl, by rw [Tryz.results145], Tryz.ntmps145, by kernel_rfl⟩
theorem fn_146 : FnIs E.P 146 14 [.tmp 6] (Tryz.f146.body.getD .skip) := by rw [h.eq]; exact ⟨Tryz.f146, Tryz.func146, rfl, by rw [Tryz.results146], Tryz.ntmps146, by kernel_rfl⟩
theorem fn_147 : FnIs E.P 147 5 [.tmp 2] (Tryz.f147.body.getD .skip) := by rw [h.eq]; exact ⟨Tryz.f147, Tryz.func147, rfl, by rw [Tryz.results147], Tryz.ntmps147, by kernel_rfl⟩
theorem fn_148 : FnIs E.P 148 8 [.tmp 4] (Tryz.f148.body.getD .skip) := by rw [h.eq]; exact ⟨Tryz.f148, Tryz.func148, rfl, by rw [Tryz.results148], Tryz.ntmps148, by kernel_rfl⟩
theorem fn_149 : FnIs E.P 149 8 [.tmp 4] (Tryz.f149.body.getD .skip) := by rw [h.eq]; exact ⟨Tryz.f149, Tryz.func149, rfl, by rw [Tryz.results149], Tryz.ntmps149, by kernel_rfl⟩
theorem fn_150 : FnIs E.P 150 6 [.tmp 2] (Tryz.f150.body.getD .skip) := by rw [h.eq]; exact ⟨Tryz.f150, Tryz.func150, rfl, by rw [Tryz.results150], Tryz.ntmps150, by kernel_rfl⟩
theorem fn_151 : FnIs E.P 151 10 [.tmp 2] (Tryz.f151.body.getD .skip) := by rw [h.eq]; exact ⟨Tryz.f151, Tryz.func151, rfl, by rw [Tryz.results151], Tryz.ntmps151, by kernel_rfl⟩
theorem fn_152 : FnIs E.P 152 9 [.tmp 4] (Tryz.f152.body.getD .skip) := by rw [h.eq]; exact ⟨Tryz.f152, Tryz.func152, rfl, by rw [Tryz.results152], Tryz.ntmps152, by kernel_rfl⟩
theorem fn_153 : FnIs E.P 153 18 [.cell 2 43] (Tryz.f153.body.getD .skip) := by rw [h.eq]; exact ⟨Tryz.f153, Tryz.func153, rfl, by rw [Tryz.results153], Tryz.ntmps153, by kernel_rfl⟩
theorem fn_154 : FnIs E.P 154 24 [.tmp 2] (Tryz.f154.body.getD .skip) := by rw [h.eq]; exact ⟨Tryz.f154, Tryz.func154, rfl, by rw [Tryz.results154], Tryz.ntmps154, by kernel_rfl⟩
theorem fn_155 : FnIs E.P 155 108 [.tmp 4] (Tryz.f155.body.getD .skip) := by rw [h.eq]; exact ⟨Tryz.f155, Tryz.func155, rfl, by rw [Tryz.results155], Tryz.ntmps155, by kernel_rfl⟩
theorem fn_156 : FnIs E.P 156 13 [.tmp 4] (Tryz.f156.body.getD .skip) := by rw [h.eq]; exact ⟨Tryz.f156, Tryz.func156, rfl, by rw [Tryz.results156], Tryz.ntmps156, by kernel_rfl⟩
theorem fn_157 : FnIs E.P 157 16 [.tmp 3] (Tryz.f157.body.getD .skip) := by rw [h.eq]; exact ⟨Tryz.f157, Tryz.func157, rfl, by rw [Tryz.results157], Tryz.ntmps157, by kernel_rfl⟩
theorem fn_158 : FnIs E.P 158 14 [.tmp 4] (Tryz.f158.body.getD .skip) := by rw [h.eq]; exact ⟨Tryz.f158, Tryz.func158, rfl, by rw [Tryz.results158], Tryz.ntmps158, by kernel_rfl⟩
theorem fn_159 : FnIs E.P 159 24 [.tmp 4, .tmp 5] (Tryz.f159.body.getD .skip) := by rw [h.eq]; exact ⟨Tryz.f159, Tryz.func159, rfl, by rw [Tryz.results159], Tryz.ntmps159, by kernel_rfl⟩
theorem fn_160 : FnIs E.P 160 9 [.tmp 4] (Tryz.f160.body.getD .skip) := by rw [h.eq]; exact ⟨Tryz.f160, Tryz.func160, rfl, by rw [Tryz.results160], Tryz.ntmps160, by kernel_rfl⟩
theorem fn_161 : FnIs E.P 161 6 [.tmp 2] (Tryz.f161.body.getD .skip) := by rw [h.eq]; exact ⟨Tryz.f161, Tryz.func161, rfl, by rw [Tryz.results161], Tryz.ntmps161, by kernel_rfl⟩
theorem fn_163 : FnIs E.P 163 10 [] (Tryz.f163.body.getD .skip) := by rw [h.eq]; exact ⟨Tryz.f163, Tryz.func163, rfl, by rw [Tryz.results163], Tryz.ntmps163, by kernel_rfl⟩
theorem fn_164 : FnIs E.P 164 8 [.tmp 3] (Tryz.f164.body.getD .skip) := by rw [h.eq]; exact ⟨Tryz.f164, Tryz.func164, rfl, by rw [Tryz.results164], Tryz.ntmps164, by kernel_rfl⟩
theorem fn_165 : FnIs E.P 165 14 [] (Tryz.f165.body.getD .skip) := by rw [h.eq]; exact ⟨Tryz.f165, Tryz.func165, rfl, by rw [Tryz.results165], Tryz.ntmps165, by kernel_rfl⟩
theorem fn_166 : FnIs E.P 166 36 [.tmp 4] (Tryz.f166.body.getD .skip) := by rw [h.eq]; exact ⟨Tryz.f166, Tryz.func166, rfl, by rw [Tryz.results166], Tryz.ntmps166, by kernel_rfl⟩
theorem fn_167 : FnIs E.P 167 19 [.tmp 4] (Tryz.f167.body.getD .skip) := by rw [h.eq]; exact ⟨Tryz.f167, Tryz.func167, rfl, by rw [Tryz.results167], Tryz.ntmps167, by kernel_rfl⟩
theorem fn_168 : FnIs E.P 168 19 [.tmp 4] (Tryz.f168.body.getD .skip) := by rw [h.eq]; exact ⟨Tryz.f168, Tryz.func168, rfl, by rw [Tryz.results168], Tryz.ntmps168, by kernel_rfl⟩
theorem fn_169 : FnIs E.P 169 9 [.tmp 3] (Tryz.f169.body.getD .skip) := by rw [h.eq]; exact ⟨Tryz.f169, Tryz.func169, rfl, by rw [Tryz.results169], Tryz.ntmps169, by kernel_rfl⟩
theorem fn_170 : FnIs E.P 170 47 [.tmp 4] (Tryz.f170.body.getD .skip) := by rw [h.eq]; exact ⟨Tryz.f170, Tryz.func170, rfl, by rw [Tryz.results170], Tryz.ntmps170, by kernel_rfl⟩
theorem fn_171 : FnIs E.P 171 9 [.tmp 3] (Tryz.f171.body.getD .skip) := by rw [h.eq]; exact ⟨Tryz.f171, Tryz.func171, rfl, by rw [Tryz.results171], Tryz.ntmps171, by kernel_rfl⟩
theorem fn_172 : FnIs E.P 172 12 [.tmp 2] (Tryz.f172.body.getD .skip) := by rw [h.eq]; exact ⟨Tryz.f172, Tryz.func172, rfl, by rw [Tryz.results172], Tryz.ntmps172, by kernel_rfl⟩
theorem fn_173 : FnIs E.P 173 16 [.tmp 2] (Tryz.f173.body.getD .skip) := by rw [h.eq]; exact ⟨Tryz.f173, Tryz.func173, rfl, by rw [Tryz.results173], Tryz.ntmps173, by kernel_rfl⟩
theorem fn_174 : FnIs E.P 174 14 [.tmp 2] (Tryz.f174.body.getD .skip) := by rw [h.eq]; exact ⟨Tryz.f174, Tryz.func174, rfl, by rw [Tryz.results174], Tryz.ntmps174, by kernel_rfl⟩
theorem fn_175 : FnIs E.P 175 19 [.tmp 4] (Tryz.f175.body.getD .skip) := by rw [h.eq]; exact ⟨Tryz.f175, Tryz.func175, rfl, by rw [Tryz.results175], Tryz.ntmps175, by kernel_rfl⟩
theorem fn_176 : FnIs E.P 176 87 [.tmp 4] (Tryz.f176.body.getD .skip) := by rw [h.eq]; exact ⟨Tryz.f176, Tryz.func176, rfl, by rw [Tryz.results176], Tryz.ntmps176, by kernel_rfl⟩
theorem fn_177 : FnIs E.P 177 36 [.tmp 6] (Tryz.f177.body.getD .skip) := by rw [h.eq]; exact ⟨Tryz.f177, Tryz.func177, rfl, by rw [Tryz.results177], Tryz.ntmps177, by kernel_rfl⟩
theorem fn_178 : FnIs E.P 178 81 [.tmp 6] (Tryz.f178.body.getD .skip) := by rw [h.eq]; exact ⟨Tryz.f178, Tryz.func178, rfl, by rw [Tryz.results178], Tryz.ntmps178, by kernel_rfl⟩
theorem fn_179 : FnIs E.P 179 24 [.cell 4 148] (Tryz.f179.body.getD .skip) := by rw [h.eq]; exact ⟨Tryz.f179, Tryz.func179, rfl, by rw [Tryz.results179], Tryz.ntmps179, by kernel_rfl⟩
theorem fn_180 : FnIs E.P 180 26 [.tmp 6] (Tryz.f180.body.getD .skip) := by rw [h.eq]; exact ⟨Tryz.f180, Tryz.func180, rfl, by rw [Tryz.results180], Tryz.ntmps180, by kernel_rfl⟩
theorem fn_181 : FnIs E.P 181 26 [.tmp 6] (Tryz.f181.body.getD .skip) := by rw [h.eq]; exact ⟨Tryz.f181, Tryz.func181, rfl, by rw [Tryz.results181], Tryz.ntmps181, by kernel_rfl⟩
theorem fn_182 : FnIs E.P 182 26 [.tmp 6] (Tryz.f182.body.getD .skip) := by rw [h.eq]; exact ⟨Tryz.f182, Tryz.func182, rfl, by rw [Tryz.results182], Tryz.ntmps182, by kernel_rfl⟩
theorem fn_183 : FnIs E.P 183 26 [.tmp 6] (Tryz.f183.body.getD .skip) := by rw [h.eq]; exact ⟨Tryz.f183, Tryz.func183, rfl, by rw [Tryz.results183], Tryz.ntmps183, by kernel_rfl⟩
theorem fn_184 : FnIs E.P 184 55 [.tmp 2] (Tryz.f184.body.getD .skip) := by rw [h.eq]; exact ⟨Tryz.f184, Tryz.func184, rfl, by rw [Tryz.results184], Tryz.ntmps184, by kernel_rfl⟩
theorem fn_185 : FnIs E.P 185 5 [.tmp 2] (Tryz.f185.body.getD .skip) := by rw [h.eq]; exact ⟨Tryz.f185, Tryz.func185, rfl, by rw [Tryz.results185], Tryz.ntmps185, by kernel_rfl⟩
theorem fn_186 : FnIs E.P 186 21 [.tmp 6] (Tryz.f186.body.getD .skip) := by rw [h.eq]; exact ⟨Tryz.f186, Tryz.func186, rfl, by rw [Tryz.results186], Tryz.ntmps186, by kernel_rfl⟩
theorem fn_187 : FnIs E.P 187 143 [.tmp 4] (Tryz.f187.body.getD .skip) := by rw [h.eq]; exact ⟨Tryz.f187, Tryz.func187, rfl, by rw [Tryz.results187], Tryz.ntmps187, by kernel_rfl⟩
theorem fn_188 : FnIs E.P 188 19 [.tmp 4] (Tryz.f188.body.getD .skip) := by rw [h.eq]; exact ⟨Tryz.f188, Tryz.func188, rfl, by rw [Tryz.results188], Tryz.ntmps188, by kernel_rfl⟩
theorem fn_189 : FnIs E.P 189 4 [.tmp 2] (Tryz.f189.body.getD .skip) := by rw [h.eq]; exact ⟨Tryz.f189, Tryz.func189, rfl, by rw [Tryz.results189], Tryz.ntmps189, by kernel_rfl⟩
theorem fn_190 : FnIs E.P 190 121 [.tmp 2] (Tryz.f190.body.getD .skip) := by rw [h.eq]; exact ⟨Tryz.f190, Tryz.func190, rfl, by rw [Tryz.results190], Tryz.ntmps190, by kernel_rfl⟩
theorem fn_191 : FnIs E.P 191 10 [.tmp 2] (Tryz.f191.body.getD .skip) := by rw [h.eq]; exact ⟨Tryz.f191, Tryz.func191, rfl, by rw [Tryz.results191], Tryz.ntmps191, by kernel_rfl⟩
theorem fn_192 : FnIs E.P 192 20 [.tmp 2] (Tryz.f192.body.getD .skip) := by rw [h.eq]; exact ⟨Tryz.f192, Tryz.func192, rfl, by rw [Tryz.results192], Tryz.ntmps192, by kernel_rfl⟩
theorem fn_193 : FnIs E.P 193 8 [.tmp 4] (Tryz.f193.body.getD .skip) := by rw [h.eq]; exact ⟨Tryz.f193, Tryz.func193, rfl, by rw [Tryz.results193], Tryz.ntmps193, by kernel_rfl⟩
theorem fn_194 : FnIs E.P 194 49 [.tmp 6, .tmp 7] (Tryz.f194.body.getD .skip) := by rw [h.eq]; exact ⟨Tryz.f194, Tryz.func194, rfl, by rw [Tryz.results194], Tryz.ntmps194, by kernel_rfl⟩
theorem fn_195 : FnIs E.P 195 40 [.tmp 4, .tmp 5] (Tryz.f195.body.getD .skip) := by rw [h.eq]; exact ⟨Tryz.f195, Tryz.func195, rfl, by rw [Tryz.results195], Tryz.ntmps195, by kernel_rfl⟩
theorem fn_196 : FnIs E.P 196 9 [.tmp 2] (Tryz.f196.body.getD .skip) := by rw [h.eq]; exact ⟨Tryz.f196, Tryz.func196, rfl, by rw [Tryz.results196], Tryz.ntmps196, by kernel_rfl⟩
theorem fn_197 : FnIs E.P 197 14 [] (Tryz.f197.body.getD .skip) := by rw [h.eq]; exact ⟨Tryz.f197, Tryz.func197, rfl, by rw [Tryz.results197], Tryz.ntmps197, by kernel_rfl⟩
theorem fn_198 : FnIs E.P 198 148 [] (Tryz.f198.body.getD .skip) := by rw [h.eq]; exact ⟨Tryz.f198, Tryz.func198, rfl, by rw [Tryz.results198], Tryz.ntmps198, by kernel_rfl⟩
theorem fn_199 : FnIs E.P 199 8 [.tmp 2] (Tryz.f199.body.getD .skip) := by rw [h.eq]; exact ⟨Tryz.f199, Tryz.func199, rfl, by rw [Tryz.results199], Tryz.ntmps199, by kernel_rfl⟩
theorem fn_200 : FnIs E.P 200 48 [.tmp 2] (Tryz.f200.body.getD .skip) := by rw [h.eq]; exact ⟨Tryz.f200, Tryz.func200, rfl, by rw [Tryz.results200], Tryz.ntmps200, by kernel_rfl⟩
theorem fn_201 : FnIs E.P 201 24 [.tmp 4] (Tryz.f201.body.getD .skip) := by rw [h.eq]; exact ⟨Tryz.f201, Tryz.func201, rfl, by rw [Tryz.results201], Tryz.ntmps201, by kernel_rfl⟩
theorem fn_202 : FnIs E.P 202 35 [.tmp 2] (Tryz.f202.body.getD .skip) := by rw [h.eq]; exact ⟨Tryz.f202, Tryz.func202, rfl, by rw [Tryz.results202], Tryz.ntmps202, by kernel_rfl⟩
theorem fn_203 : FnIs E.P 203 22 [.tmp 2] (Tryz.f203.body.getD .skip) := by rw [h.eq]; exact ⟨Tryz.f203, Tryz.func203, rfl, by rw [Tryz.results203], Tryz.ntmps203, by kernel_rfl⟩
theorem fn_204 : FnIs E.P 204 61 [.tmp 4] (Tryz.f204.body.getD .skip) := by rw [h.eq]; exact ⟨Tryz.f204, Tryz.func204, rfl, by rw [Tryz.results204], Tryz.ntmps204, by kernel_rfl⟩
theorem fn_205 : FnIs E.P 205 9 [.tmp 2] (Tryz.f205.body.getD .skip) := by rw [h.eq]; exact ⟨Tryz.f205, Tryz.func205, rfl, by rw [Tryz.results205], Tryz.ntmps205, by kernel_rfl⟩
theorem fn_206 : FnIs E.P 206 15 [.tmp 2, .tmp 3] (Tryz.f206.body.getD .skip) := by rw [h.eq]; exact ⟨Tryz.f206, Tryz.func206, rfl, by rw [Tryz.results206], Tryz.ntmps206, by kernel_rfl⟩
theorem fn_207 : FnIs E.P 207 23 [.tmp 6] (Tryz.f207.body.getD .skip) := by rw [h.eq]; exact ⟨Tryz.f207, Tryz.func207, rfl, by rw [Tryz.results207], Tryz.ntmps207, by kernel_rfl⟩
theorem fn_208 : FnIs E.P 208 56 [.tmp 4] (Tryz.f208.body.getD .skip) := by rw [h.eq]; exact ⟨Tryz.f208, Tryz.func208, rfl, by rw [Tryz.results208], Tryz.ntmps208, by kernel_rfl⟩
theorem fn_209 : FnIs E.P 209 18 [.tmp 4] (Tryz.f209.body.getD .skip) := by rw [h.eq]; exact ⟨Tryz.f209, Tryz.func209, rfl, by rw [Tryz.results209], Tryz.ntmps209, by kernel_rfl⟩
theorem fn_210 : FnIs E.P 210 24 [.tmp 4] (Tryz.f210.body.getD .skip) := by rw [h.eq]; exact ⟨Tryz.f210, Tryz.func210, rfl, by rw [Tryz.results210], Tryz.ntmps210, by kernel_rfl⟩
theorem fn_211 : FnIs E.P 211 54 [.tmp 4] (Tryz.f211.body.getD .skip) := by rw [h.eq]; exact ⟨Tryz.f211, Tryz.func211, rfl, by rw [Tryz.results211], Tryz.ntmps211, by kernel_rfl⟩
theorem fn_212 : FnIs E.P 212 8 [.tmp 4] (Tryz.f212.body.getD .skip) := by rw [h.eq]; exact ⟨Tryz.f212, Tryz.func212, rfl, by rw [Tryz.results212], Tryz.ntmps212, by kernel_rfl⟩
theorem fn_214 : FnIs E.P 214 6 [.tmp 2] (Tryz.f214.body.getD .skip) := by rw [h.eq]; exact ⟨Tryz.f214, Tryz.func214, rfl, by rw [Tryz.results214], Tryz.ntmps214, by kernel_rfl⟩
theorem fn_215 : FnIs E.P 215 81 [.tmp 4] (Tryz.f215.body.getD .skip) := by rw [h.eq]; exact ⟨Tryz.f215, Tryz.func215, rfl, by rw [Tryz.results215], Tryz.ntmps215, by kernel_rfl⟩
theorem fn_216 : FnIs E.P 216 6 [] (Tryz.f216.body.getD .skip) := by rw [h.eq]; exact ⟨Tryz.f216, Tryz.func216, rfl, by rw [Tryz.results216], Tryz.ntmps216, by kernel_rfl⟩
theorem fn_217 : FnIs E.P 217 23 [.tmp 4] (Tryz.f217.body.getD .skip) := by rw [h.eq]; exact ⟨Tryz.f217, Tryz.func217, rfl, by rw [Tryz.results217], Tryz.ntmps217, by kernel_rfl⟩
theorem fn_218 : FnIs E.P 218 9 [.tmp 2] (Tryz.f218.body.getD .skip) := by rw [h.eq]; exact ⟨Tryz.f218, Tryz.func218, rfl, by rw [Tryz.results218], Tryz.ntmps218, by kernel_rfl⟩
theorem fn_219 : FnIs E.P 219 9 [.tmp 2] (Tryz.f219.body.getD .skip) := by rw [h.eq]; exact ⟨Tryz.f219, Tryz.func219, rfl, by rw [Tryz.results219], Tryz.ntmps219, by kernel_rfl⟩
theorem fn_220 : FnIs E.P 220 9 [.tmp 2] (Tryz.f220.body.getD .skip) := by rw [h.eq]; exact ⟨Tryz.f220, Tryz.func220, rfl, by rw [Tryz.results220], Tryz.ntmps220, by kernel_rfl⟩
theorem fn_221 : FnIs E.P 221 17 [.tmp 3] (Tryz.f221.body.getD .skip) := by rw [h.eq]; exact ⟨Tryz.f221, Tryz.func221, rfl, by rw [Tryz.results221], Tryz.ntmps221, by kernel_rfl⟩
theorem fn_222 : FnIs E.P 222 32 [.tmp 2] (Tryz.f222.body.getD .skip) := by rw [h.eq]; exact ⟨Tryz.f222, Tryz.func222, rfl, by rw [Tryz.results222], Tryz.ntmps222, by kernel_rfl⟩
theorem fn_223 : FnIs E.P 223 9 [.tmp 4] (Tryz.f223.body.getD .skip) := by rw [h.eq]; exact ⟨Tryz.f223, Tryz.func223, rfl, by rw [Tryz.results223], Tryz.ntmps223, by kernel_rfl⟩
theorem fn_224 : FnIs E.P 224 17 [.tmp 2] (Tryz.f224.body.getD .skip) := by rw [h.eq]; exact ⟨Tryz.f224, Tryz.func224, rfl, by rw [Tryz.results224], Tryz.ntmps224, by kernel_rfl⟩
theorem fn_225 : FnIs E.P 225 25 [.tmp 2] (Tryz.f225.body.getD .skip) := by rw [h.eq]; exact ⟨Tryz.f225, Tryz.func225, rfl, by rw [Tryz.results225], Tryz.ntmps225, by kernel_rfl⟩
theorem fn_226 : FnIs E.P 226 9 [.tmp 2] (Tryz.f226.body.getD .skip) := by rw [h.eq]; exact ⟨Tryz.f226, Tryz.func226, rfl, by rw [Tryz.results226], Tryz.ntmps226, by kernel_rfl⟩
theorem fn_227 : FnIs E.P 227 19 [.tmp 4] (Tryz.f227.body.getD .skip) := by rw [h.eq]; exact ⟨Tryz.f227, Tryz.func227, rfl, by rw [Tryz.results227], Tryz.ntmps227, by kernel_rfl⟩
theorem fn_228 : FnIs E.P 228 8 [.tmp 3] (Tryz.f228.body.getD .skip) := by rw [h.eq]; exact ⟨Tryz.f228, Tryz.func228, rfl, by rw [Tryz.results228], Tryz.ntmps228, by kernel_rfl⟩
theorem fn_229 : FnIs E.P 229 28 [] (Tryz.f229.body.getD .skip) := by rw [h.eq]; exact ⟨Tryz.f229, Tryz.func229, rfl, by rw [Tryz.results229], Tryz.ntmps229, by kernel_rfl⟩
theorem fn_230 : FnIs E.P 230 53 [] (Tryz.f230.body.getD .skip) := by rw [h.eq]; exact ⟨Tryz.f230, Tryz.func230, rfl, by rw [Tryz.results230], Tryz.ntmps230, by kernel_rfl⟩
theorem fn_231 : FnIs E.P 231 60 [] (Tryz.f231.body.getD .skip) := by rw [h.eq]; exact ⟨Tryz.f231, Tryz.func231, rfl, by rw [Tryz.results231], Tryz.ntmps231, by kernel_rfl⟩
theorem fn_232 : FnIs E.P 232 67 [] (Tryz.f232.body.getD .skip) := by rw [h.eq]; exact ⟨Tryz.f232, Tryz.func232, rfl, by rw [Tryz.results232], Tryz.ntmps232, by kernel_rfl⟩
theorem fn_233 : FnIs E.P 233 63 [.tmp 8, .tmp 9] (Tryz.f233.body.getD .skip) := by rw [h.eq]; exact ⟨Tryz.f233, Tryz.func233, rfl, by rw [Tryz.results233], Tryz.ntmps233, by kernel_rfl⟩
theorem fn_234 : FnIs E.P 234 34 [] (Tryz.f234.body.getD .skip) := by rw [h.eq]; exact ⟨Tryz.f234, Tryz.func234, rfl, by rw [Tryz.results234], Tryz.ntmps234, by kernel_rfl⟩
theorem fn_235 : FnIs E.P 235 141 [.tmp 8] (Tryz.f235.body.getD .skip) := by rw [h.eq]; exact ⟨Tryz.f235, Tryz.func235, rfl, by rw [Tryz.results235], Tryz.ntmps235, by kernel_rfl⟩
theorem fn_236 : FnIs E.P 236 90 [.tmp 10] (Tryz.f236.body.getD .skip) := by rw [h.eq]; exact ⟨Tryz.f236, Tryz.func236, rfl, by rw [Tryz.results236], Tryz.ntmps236, by kernel_rfl⟩
theorem fn_237 : FnIs E.P 237 178 [.tmp 10, .tmp 11] (Tryz.f237.body.getD .skip) := by rw [h.eq]; exact ⟨Tryz.f237, Tryz.func237, rfl, by rw [Tryz.results237], Tryz.ntmps237, by kernel_rfl⟩
theorem fn_238 : FnIs E.P 238 19 [.tmp 2] (Tryz.f238.body.getD .skip) := by rw [h.eq]; exact ⟨Tryz.f238, Tryz.func238, rfl, by rw [Tryz.results238], Tryz.ntmps238, by kernel_rfl⟩
theorem fn_239 : FnIs E.P 239 25 [.tmp 2] (Tryz.f239.body.getD .skip) := by rw [h.eq]; exact ⟨Tryz.f239, Tryz.func239, rfl, by rw [Tryz.results239], Tryz.ntmps239, by kernel_rfl⟩
theorem fn_240 : FnIs E.P 240 24 [.tmp 2] (Tryz.f240.body.getD .skip) := by rw [h.eq]; exact ⟨Tryz.f240, Tryz.func240, rfl, by rw [Tryz.results240], Tryz.ntmps240, by kernel_rfl⟩
theorem fn_241 : FnIs E.P 241 61 [.tmp 2] (Tryz.f241.body.getD .skip) := by rw [h.eq]; exact ⟨Tryz.f241, Tryz.func241, rfl, by rw [Tryz.results241], Tryz.ntmps241, by kernel_rfl⟩
theorem fn_242 : FnIs E.P 242 87 [.tmp 2] (Tryz.f242.body.getD .skip) := by rw [h.eq]; exact ⟨Tryz.f242, Tryz.func242, rfl, by rw [Tryz.results242], Tryz.ntmps242, by kernel_rfl⟩
theorem fn_243 : FnIs E.P 243 42 [.tmp 4, .tmp 5] (Tryz.f243.body.getD .skip) := by rw [h.eq]; exact ⟨Tryz.f243, Tryz.func243, rfl, by rw [Tryz.results243], Tryz.ntmps243, by kernel_rfl⟩
theorem fn_244 : FnIs E.P 244 15 [.tmp 2] (Tryz.f244.body.getD .skip) := by rw [h.eq]; exact ⟨Tryz.f244, Tryz.func244, rfl, by rw [Tryz.results244], Tryz.ntmps244, by kernel_rfl⟩
theorem fn_245 : FnIs E.P 245 15 [.tmp 2] (Tryz.f245.body.getD .skip) := by rw [h.eq]; exact ⟨Tryz.f245, Tryz.func245, rfl, by rw [Tryz.results245], Tryz.ntmps245, by kernel_rfl⟩
theorem fn_246 : FnIs E.P 246 167 [] (Tryz.f246.body.getD .skip) := by rw [h.eq]; exact ⟨Tryz.f246, Tryz.func246, rfl, by rw [Tryz.results246], Tryz.ntmps246, by kernel_rfl⟩
theorem fn_247 : FnIs E.P 247 102 [.tmp 10, .tmp 11] (Tryz.f247.body.getD .skip) := by rw [h.eq]; exact ⟨Tryz.f247, Tryz.func247, rfl, by rw [Tryz.results247], Tryz.ntmps247, by kernel_rfl⟩
theorem fn_249 : FnIs E.P 249 39 [.tmp 2, .tmp 3] (Tryz.f249.body.getD .skip) := by rw [h.eq]; exact ⟨Tryz.f249, Tryz.func249, rfl, by rw [Tryz.results249], Tryz.ntmps249, by kernel_rfl⟩
theorem fn_250 : FnIs E.P 250 19 [.tmp 4] (Tryz.f250.body.getD .skip) := by rw [h.eq]; exact ⟨Tryz.f250, Tryz.func250, rfl, by rw [Tryz.results250], Tryz.ntmps250, by kernel_rfl⟩
theorem fn_251 : FnIs E.P 251 43 [.tmp 4] (Tryz.f251.body.getD .skip) := by rw [h.eq]; exact ⟨Tryz.f251, Tryz.func251, rfl, by rw [Tryz.results251], Tryz.ntmps251, by kernel_rfl⟩
theorem fn_252 : FnIs E.P 252 82 [] (Tryz.f252.body.getD .skip) := by rw [h.eq]; exact ⟨Tryz.f252, Tryz.func252, rfl, by rw [Tryz.results252], Tryz.ntmps252, by kernel_rfl⟩
theorem fn_253 : FnIs E.P 253 7 [.tmp 2] (Tryz.f253.body.getD .skip) := by rw [h.eq]; exact ⟨Tryz.f253, Tryz.func253, rfl, by rw [Tryz.results253], Tryz.ntmps253, by kernel_rfl⟩
theorem fn_254 : FnIs E.P 254 33 [.tmp 2] (Tryz.f254.body.getD .skip) := by rw [h.eq]; exact ⟨Tryz.f254, Tryz.func254, rfl, by rw [Tryz.results254], Tryz.ntmps254, by kernel_rfl⟩
theorem fn_255 : FnIs E.P 255 18 [.tmp 8] (Tryz.f255.body.getD .skip) := by rw [h.eq]; exact ⟨Tryz.f255, Tryz.func255, rfl, by rw [Tryz.results255], Tryz.ntmps255, by kernel_rfl⟩
theorem fn_256 : FnIs E.P 256 41 [.tmp 12] (Tryz.f256.body.getD .skip) := by rw [h.eq]; exact ⟨Tryz.f256, Tryz.func256, rfl, by rw [Tryz.results256], Tryz.ntmps256, by kernel_rfl⟩
theorem fn_257 : FnIs E.P 257 37 [.tmp 2] (Tryz.f257.body.getD .skip) := by rw [h.eq]; exact ⟨Tryz.f257, Tryz.func257, rfl, by rw [Tryz.results257], Tryz.ntmps257, by kernel_rfl⟩
theorem fn_258 : FnIs E.P 258 25 [.tmp 2] (Tryz.f258.body.getD .skip) := by rw [h.eq]; exact ⟨Tryz.f258, Tryz.func258, rfl, by rw [Tryz.results258], Tryz.ntmps258, by kernel_rfl⟩
theorem fn_259 : FnIs E.P 259 9 [.tmp 2] (Tryz.f259.body.getD .skip) := by rw [h.eq]; exact ⟨Tryz.f259, Tryz.func259, rfl, by rw [Tryz.results259], Tryz.ntmps259, by kernel_rfl⟩
theorem fn_260 : FnIs E.P 260 24 [.tmp 4] (Tryz.f260.body.getD .skip) := by rw [h.eq]; exact ⟨Tryz.f260, Tryz.func260, rfl, by rw [Tryz.results260], Tryz.ntmps260, by kernel_rfl⟩
theorem fn_261 : FnIs E.P 261 6 [.tmp 2] (Tryz.f261.body.getD .skip) := by rw [h.eq]; exact ⟨Tryz.f261, Tryz.func261, rfl, by rw [Tryz.results261], Tryz.ntmps261, by kernel_rfl⟩
theorem fn_262 : FnIs E.P 262 4 [.tmp 2] (Tryz.f262.body.getD .skip) := by rw [h.eq]; exact ⟨Tryz.f262, Tryz.func262, rfl, by rw [Tryz.results262], Tryz.ntmps262, by kernel_rfl⟩
theorem fn_263 : FnIs E.P 263 8 [.tmp 2] (Tryz.f263.body.getD .skip) := by rw [h.eq]; exact ⟨Tryz.f263, Tryz.func263, rfl, by rw [Tryz.results263], Tryz.ntmps263, by kernel_rfl⟩
theorem fn_264 : FnIs E.P 264 8 [.tmp 2] (Tryz.f264.body.getD .skip) := by rw [h.eq]; exact ⟨Tryz.f264, Tryz.func264, rfl, by rw [Tryz.results264], Tryz.ntmps264, by kernel_rfl⟩
theorem fn_265 : FnIs E.P 265 17 [.tmp 4] (Tryz.f265.body.getD .skip) := by rw [h.eq]; exact ⟨Tryz.f265, Tryz.func265, rfl, by rw [Tryz.results265], Tryz.ntmps265, by kernel_rfl⟩
theorem fn_266 : FnIs E.P 266 23 [.tmp 4] (Tryz.f266.body.getD .skip) := by rw [h.eq]; exact ⟨Tryz.f266, Tryz.func266, rfl, by rw [Tryz.results266], Tryz.ntmps266, by kernel_rfl⟩
theorem fn_267 : FnIs E.P 267 21 [.cell 2 301, .tmp 3] (Tryz.f267.body.getD .skip) := by rw [h.eq]; exact ⟨Tryz.f267, Tryz.func267, rfl, by rw [Tryz.results267], Tryz.ntmps267, by kernel_rfl⟩
theorem fn_268 : FnIs E.P 268 16 [.tmp 4] (Tryz.f268.body.getD .skip) := by rw [h.eq]; exact ⟨Tryz.f268, Tryz.func268, rfl, by rw [Tryz.results268], Tryz.ntmps268, by kernel_rfl⟩
theorem fn_269 : FnIs E.P 269 22 [.tmp 4] (Tryz.f269.body.getD .skip) := by rw [h.eq]; exact ⟨Tryz.f269, Tryz.func269, rfl, by rw [Tryz.results269], Tryz.ntmps269, by kernel_rfl⟩
theorem fn_270 : FnIs E.P 270 23 [.tmp 4] (Tryz.f270.body.getD .skip) := by rw [h.eq]; exact ⟨Tryz.f270, Tryz.func270, rfl, by rw [Tryz.results270], Tryz.ntmps270, by kernel_rfl⟩
theorem fn_271 : FnIs E.P 271 34 [.tmp 4] (Tryz.f271.body.getD .skip) := by rw [h.eq]; exact ⟨Tryz.f271, Tryz.func271, rfl, by rw [Tryz.results271], Tryz.ntmps271, by kernel_rfl⟩
theorem fn_272 : FnIs E.P 272 32 [.tmp 10, .tmp 11] (Tryz.f272.body.getD .skip) := by rw [h.eq]; exact ⟨Tryz.f272, Tryz.func272, rfl, by rw [Tryz.results272], Tryz.ntmps272, by kernel_rfl⟩
theorem fn_273 : FnIs E.P 273 14 [.tmp 2] (Tryz.f273.body.getD .skip) := by rw [h.eq]; exact ⟨Tryz.f273, Tryz.func273, rfl, by rw [Tryz.results273], Tryz.ntmps273, by kernel_rfl⟩
theorem fn_274 : FnIs E.P 274 14 [.tmp 2] (Tryz.f274.body.getD .skip) := by rw [h.eq]; exact ⟨Tryz.f274, Tryz.func274, rfl, by rw [Tryz.results274], Tryz.ntmps274, by kernel_rfl⟩
theorem fn_275 : FnIs E.P 275 10 [.tmp 4] (Tryz.f275.body.getD .skip) := by rw [h.eq]; exact ⟨Tryz.f275, Tryz.func275, rfl, by rw [Tryz.results275], Tryz.ntmps275, by kernel_rfl⟩
theorem fn_276 : FnIs E.P 276 19 [.tmp 2, .tmp 3] (Tryz.f276.body.getD .skip) := by rw [h.eq]; exact ⟨Tryz.f276, Tryz.func276, rfl, by rw [Tryz.results276], Tryz.ntmps276, by kernel_rfl⟩
theorem fn_277 : FnIs E.P 277 9 [.tmp 4] (Tryz.f277.body.getD .skip) := by rw [h.eq]; exact ⟨Tryz.f277, Tryz.func277, rfl, by rw [Tryz.results277], Tryz.ntmps277, by kernel_rfl⟩
theorem fn_278 : FnIs E.P 278 51 [.tmp 2, .tmp 3] (Tryz.f278.body.getD .skip) := by rw [h.eq]; exact ⟨Tryz.f278, Tryz.func278, rfl, by rw [Tryz.results278], Tryz.ntmps278, by kernel_rfl⟩
theorem fn_279 : FnIs E.P 279 117 [.tmp 2, .tmp 3] (Tryz.f279.body.getD .skip) := by rw [h.eq]; exact ⟨Tryz.f279, Tryz.func279, rfl, by rw [Tryz.results279], Tryz.ntmps279, by kernel_rfl⟩
theorem fn_280 : FnIs E.P 280 187 [.tmp 4] (Tryz.f280.body.getD .skip) := by rw [h.eq]; exact ⟨Tryz.f280, Tryz.func280, rfl, by rw [Tryz.results280], Tryz.ntmps280, by kernel_rfl⟩
theorem fn_281 : FnIs E.P 281 6 [.tmp 2] (Tryz.f281.body.getD .skip) := by rw [h.eq]; exact ⟨Tryz.f281, Tryz.func281, rfl, by rw [Tryz.results281], Tryz.ntmps281, by kernel_rfl⟩
theorem fn_282 : FnIs E.P 282 8 [.tmp 4] (Tryz.f282.body.getD .skip) := by rw [h.eq]; exact ⟨Tryz.f282, Tryz.func282, rfl, by rw [Tryz.results282], Tryz.ntmps282, by kernel_rfl⟩
theorem fn_283 : FnIs E.P 283 17 [.tmp 2] (Tryz.f283.body.getD .skip) := by rw [h.eq]; exact ⟨Tryz.f283, Tryz.func283, rfl, by rw [Tryz.results283], Tryz.ntmps283, by kernel_rfl⟩
theorem fn_300 : FnIs E.P 300 48 [.tmp 2] (Tryz.f300.body.getD .skip) := by rw [h.eq]; exact ⟨Tryz.f300, Tryz.func300, rfl, by rw [Tryz.results300], Tryz.ntmps300, by kernel_rfl⟩
theorem fn_301 : FnIs E.P 301 8 [.tmp 2] (Tryz.f301.body.getD .skip) := by rw [h.eq]; exact ⟨Tryz.f301, Tryz.func301, rfl, by rw [Tryz.results301], Tryz.ntmps301, by kernel_rfl⟩
theorem fn_302 : FnIs E.P 302 8 [.tmp 2] (Tryz.f302.body.getD .skip) := by rw [h.eq]; exact ⟨Tryz.f302, Tryz.func302, rfl, by rw [Tryz.results302], Tryz.ntmps302, by kernel_rfl⟩
theorem fn_303 : FnIs E.P 303 51 [.cell 2 4] (Tryz.f303.body.getD .skip) := by rw [h.eq]; exact ⟨Tryz.f303, Tryz.func303, rfl, by rw [Tryz.results303], Tryz.ntmps303, by kernel_rfl⟩
theorem fn_304 : FnIs E.P 304 3 [.tmp 2] (Tryz.f304.body.getD .skip) := by rw [h.eq]; exact ⟨Tryz.f304, Tryz.func304, rfl, by rw [Tryz.results304], Tryz.ntmps304, by kernel_rfl⟩
theorem fn_305 : FnIs E.P 305 3 [.tmp 2] (Tryz.f305.body.getD .skip) := by rw [h.eq]; exact ⟨Tryz.f305, Tryz.func305, rfl, by rw [Tryz.results305], Tryz.ntmps305, by kernel_rfl⟩
theorem fn_306 : FnIs E.P 306 42 [.tmp 6] (Tryz.f306.body.getD .skip) := by rw [h.eq]; exact ⟨Tryz.f306, Tryz.func306, rfl, by rw [Tryz.results306], Tryz.ntmps306, by kernel_rfl⟩
theorem fn_307 : FnIs E.P 307 44 [.tmp 4, .tmp 5] (Tryz.f307.body.getD .skip) := by rw [h.eq]; exact ⟨Tryz.f307, Tryz.func307, rfl, by rw [Tryz.results307], Tryz.ntmps307, by kernel_rfl⟩
theorem fn_308 : FnIs E.P 308 14 [.tmp 2] (Tryz.f308.body.getD .skip) := by rw [h.eq]; exact ⟨Tryz.f308, Tryz.func308, rfl, by rw [Tryz.results308], Tryz.ntmps308, by kernel_rfl⟩
theorem fn_309 : FnIs E.P 309 29 [.tmp 6] (Tryz.f309.body.getD .skip) := by rw [h.eq]; exact ⟨Tryz.f309, Tryz.func309, rfl, by rw [Tryz.results309], Tryz.ntmps309, by kernel_rfl⟩
theorem fn_310 : FnIs E.P 310 37 [.tmp 6] (Tryz.f310.body.getD .skip) := by rw [h.eq]; exact ⟨Tryz.f310, Tryz.func310, rfl, by rw [Tryz.results310], Tryz.ntmps310, by kernel_rfl⟩
theorem fn_311 : FnIs E.P 311 5 [.tmp 2] (Tryz.f311.body.getD .skip) := by rw [h.eq]; exact ⟨Tryz.f311, Tryz.func311, rfl, by rw [Tryz.results311], Tryz.ntmps311, by kernel_rfl⟩
theorem fn_312 : FnIs E.P 312 5 [.tmp 2] (Tryz.f312.body.getD .skip) := by rw [h.eq]; exact ⟨Tryz.f312, Tryz.func312, rfl, by rw [Tryz.results312], Tryz.ntmps312, by kernel_rfl⟩
theorem fn_313 : FnIs E.P 313 5 [.tmp 2] (Tryz.f313.body.getD .skip) := by rw [h.eq]; exact ⟨Tryz.f313, Tryz.func313, rfl, by rw [Tryz.results313], Tryz.ntmps313, by kernel_rfl⟩
theorem fn_314 : FnIs E.P 314 5 [.tmp 2] (Tryz.f314.body.getD .skip) := by rw [h.eq]; exact ⟨Tryz.f314, Tryz.func314, rfl, by rw [Tryz.results314], Tryz.ntmps314, by kernel_rfl⟩
theorem fn_315 : FnIs E.P 315 5 [.tmp 2] (Tryz.f315.body.getD .skip) := by rw [h.eq]; exact ⟨Tryz.f315, Tryz.func315, rfl, by rw [Tryz.results315], Tryz.ntmps315, by kernel_rfl⟩
theorem fn_316 : FnIs E.P 316 5 [.tmp 2] (Tryz.f316.body.getD .skip) := by rw [h.eq]; exact ⟨Tryz.f316, Tryz.func316, rfl, by rw [Tryz.results316], Tryz.ntmps316, by kernel_rfl⟩
theorem fn_317 : FnIs E.P 317 16 [.tmp 6] (Tryz.f317.body.getD .skip) := by rw [h.eq]; exact ⟨Tryz.f317, Tryz.func317, rfl, by rw [Tryz.results317], Tryz.ntmps317, by kernel_rfl⟩
theorem fn_318 : FnIs E.P 318 16 [.tmp 6] (Tryz.f318.body.getD .skip) := by rw [h.eq]; exact ⟨Tryz.f318, Tryz.func318, rfl, by rw [Tryz.results318], Tryz.ntmps318, by kernel_rfl⟩
theorem fn_319 : FnIs E.P 319 12 [.tmp 6] (Tryz.f319.body.getD .skip) := by rw [h.eq]; exact ⟨Tryz.f319, Tryz.func319, rfl, by rw [Tryz.results319], Tryz.ntmps319, by kernel_rfl⟩
theorem fn_320 : FnIs E.P 320 12 [.tmp 6] (Tryz.f320.body.getD .skip) := by rw [h.eq]; exact ⟨Tryz.f320, Tryz.func320, rfl, by rw [Tryz.results320], Tryz.ntmps320, by kernel_rfl⟩
theorem fn_321 : FnIs E.P 321 12 [.tmp 6] (Tryz.f321.body.getD .skip) := by rw [h.eq]; exact ⟨Tryz.f321, Tryz.func321, rfl, by rw [Tryz.results321], Tryz.ntmps321, by kernel_rfl⟩
theorem fn_322 : FnIs E.P 322 12 [.tmp 6] (Tryz.f322.body.getD .skip) := by rw [h.eq]; exact ⟨Tryz.f322, Tryz.func322, rfl, by rw [Tryz.results322], Tryz.ntmps322, by kernel_rfl⟩
theorem fn_323 : FnIs E.P 323 12 [.tmp 6] (Tryz.f323.body.getD .skip) := by rw [h.eq]; exact ⟨Tryz.f323, Tryz.func323, rfl, by rw [Tryz.results323], Tryz.ntmps323, by kernel_rfl⟩
theorem fn_324 : FnIs E.P 324 12 [.tmp 6] (Tryz.f324.body.getD .skip) := by rw [h.eq]; exact ⟨Tryz.f324, Tryz.func324, rfl, by rw [Tryz.results324], Tryz.ntmps324, by kernel_rfl⟩
theorem fn_325 : FnIs E.P 325 12 [.tmp 6] (Tryz.f325.body.getD .skip) := by rw [h.eq]; exact ⟨Tryz.f325, Tryz.func325, rfl, by rw [Tryz.results325], Tryz.ntmps325, by kernel_rfl⟩
theorem fn_326 : FnIs E.P 326 12 [.tmp 6] (Tryz.f326.body.getD .skip) := by rw [h.eq]; exact ⟨Tryz.f326, Tryz.func326, rfl, by rw [Tryz.results326], Tryz.ntmps326, by kernel_rfl⟩
theorem fn_327 : FnIs E.P 327 27 [.tmp 8] (Tryz.f327.body.getD .skip) := by rw [h.eq]; exact ⟨Tryz.f327, Tryz.func327, rfl, by rw [Tryz.results327], Tryz.ntmps327, by kernel_rfl⟩
theorem fn_328 : FnIs E.P 328 5 [.tmp 2] (Tryz.f328.body.getD .skip) := by rw [h.eq]; exact ⟨Tryz.f328, Tryz.func328, rfl, by rw [Tryz.results328], Tryz.ntmps328, by kernel_rfl⟩
theorem fn_329 : FnIs E.P 329 5 [.tmp 2] (Tryz.f329.body.getD .skip) := by rw [h.eq]; exact ⟨Tryz.f329, Tryz.func329, rfl, by rw [Tryz.results329], Tryz.ntmps329, by kernel_rfl⟩
theorem fn_330 : FnIs E.P 330 27 [.tmp 8] (Tryz.f330.body.getD .skip) := by rw [h.eq]; exact ⟨Tryz.f330, Tryz.func330, rfl, by rw [Tryz.results330], Tryz.ntmps330, by kernel_rfl⟩
theorem fn_331 : FnIs E.P 331 5 [.tmp 2] (Tryz.f331.body.getD .skip) := by rw [h.eq]; exact ⟨Tryz.f331, Tryz.func331, rfl, by rw [Tryz.results331], Tryz.ntmps331, by kernel_rfl⟩
theorem fn_332 : FnIs E.P 332 27 [.tmp 8] (Tryz.f332.body.getD .skip) := by rw [h.eq]; exact ⟨Tryz.f332, Tryz.func332, rfl, by rw [Tryz.results332], Tryz.ntmps332, by kernel_rfl⟩
theorem fn_333 : FnIs E.P 333 5 [.tmp 2] (Tryz.f333.body.getD .skip) := by rw [h.eq]; exact ⟨Tryz.f333, Tryz.func333, rfl, by rw [Tryz.results333], Tryz.ntmps333, by kernel_rfl⟩
theorem fn_350 : FnIs E.P 350 95 [] (Tryz.f350.body.getD .skip) := by rw [h.eq]; exact ⟨Tryz.f350, Tryz.func350, rfl, by rw [Tryz.results350], Tryz.ntmps350, by kernel_rfl⟩
end
end Go.Zk
namespace Go.Zk

abbrev Str := List UInt8
def ints (l : List Int) : List AV := l.map I
def isl (l : List Int) : AV := .sl l.length false (ints l)
@[simp] theorem ints_get {l : List Int} {i : Nat} : (ints l)[i]? = (l[i]?).map I := by simp [ints]
@[simp] theorem ints_at {l : List Int} {i : Nat} (h : i < (ints l).length) : (ints l)[i] = I (l[i]'(by simpa [ints] using h)) := by simp [ints]
@[simp] theorem ints_len {l : List Int} : (ints l).length = l.length := by simp [ints]
@[simp] theorem isl_pur {l : List Int} : (isl l).pur = true := rfl

/-- Elements of z cells each. -/
structure Enc (α : Type) where
  z : Nat
  enc : α → List AV
  len : ∀ x, (enc x).length = z
def Enc.cells {α : Type} (c : Enc α) (l : List α) : List AV := l.flatMap c.enc
def Enc.sl {α : Type} (c : Enc α) (l : List α) : AV := .sl l.length false (c.cells l)
section
variable {α : Type} {c : Enc α}
@[simp] theorem Enc.sl_pur {l : List α} : (c.sl l).pur = true := rfl
theorem Enc.cells_len (c : Enc α) : ∀ {l : List α}, (c.cells l).length = l.length * c.z
  | [] => by simp [Enc.cells]
  | x :: l => by
    have := Enc.cells_len c (l := l)
    simp only [Enc.cells, List.flatMap_cons, List.length_append, List.length_cons, c.len] at *
    rw [this, Nat.add_mul]; omega
theorem Enc.cells_at (c : Enc α) : ∀ {l : List α} {i : Nat} (h : i < l.length), ((c.cells l).drop (i * c.z)).take c.z = c.enc l[i]
  | x :: l, 0, _ => by
    simp only [Enc.cells, List.flatMap_cons, Nat.zero_mul, List.drop_zero, List.getElem_cons_zero]
    rw [List.take_left' (c.len x)]
  | x :: l, i + 1, h => by
    have := Enc.cells_at c (l := l) (i := i) (by simpa using h)
    simp only [Enc.cells, List.flatMap_cons, List.getElem_cons_succ] at *
    rw [← this, show (i + 1) * c.z = (c.enc x).length + i * c.z by rw [c.len]; rw [Nat.add_mul]; omega, List.drop_append, List.drop_eq_nil_of_le (by omega), Nat.add_sub_cancel_left, List.nil_append]
theorem Enc.part {l : List α} {i : Nat} (h : i < l.length) : apart true c.z (i * c.z) (c.cells l) = some (.agg (c.enc l[i])) := by
  rw [apart_agg, c.cells_at h, if_pos]
  rw [c.cells_len]
  have : (i + 1) * c.z ≤ l.length * c.z := Nat.mul_le_mul_right _ (by omega)
  rw [Nat.add_mul] at this; omega
/-- A cell of an element. -/
theorem Enc.cell {l : List α} {i k : Nat} (h : i < l.length) (hk : k < c.z) : (c.cells l)[i * c.z + k]? = (c.enc l[i])[k]? := by
  rw [← c.cells_at h, List.getElem?_take, if_pos hk, List.getElem?_drop]
end

structure SlotD where
  name : Str
  day : Int
  hour : Int
structure RoomD where
  name : Str
  house : Int
  seats : Int
  shut : List Int
structure PersonD where
  name : Str
  away : List Int
structure GroupD where
  name : Str
  size : Int
structure LessonD where
  name : Str
  who : List Int
  groups : List Int
structure SchoolD where
  slots : List SlotD
  rooms : List RoomD
  people : List PersonD
  groups : List GroupD
  lessons : List LessonD
def slotE : Enc SlotD := ⟨3, fun x => [.str x.name, I x.day, I x.hour], fun _ => rfl⟩
def roomE : Enc RoomD := ⟨4, fun x => [.str x.name, I x.house, I x.seats, isl x.shut], fun _ => rfl⟩
def personE : Enc PersonD := ⟨2, fun x => [.str x.name, isl x.away], fun _ => rfl⟩
def groupE : Enc GroupD := ⟨2, fun x => [.str x.name, I x.size], fun _ => rfl⟩
def lessonE : Enc LessonD := ⟨3, fun x => [.str x.name, isl x.who, isl x.groups], fun _ => rfl⟩
def SchoolD.cells (s : SchoolD) : List AV := [slotE.sl s.slots, roomE.sl s.rooms, personE.sl s.people, groupE.sl s.groups, lessonE.sl s.lessons]
def SchoolD.av (s : SchoolD) : AV := .agg s.cells
@[simp] theorem SchoolD.pur {s : SchoolD} : s.av.pur = true := rfl

structure PlaceD where
  slot : Int
  room : Int
  deriving DecidableEq
def placeE : Enc PlaceD := ⟨2, fun x => [I x.slot, I x.room], fun _ => rfl⟩
def weekE : Enc (List PlaceD) := ⟨1, fun x => [placeE.sl x], fun _ => rfl⟩
def weekAV (l : List PlaceD) : AV := .agg [placeE.sl l]
structure BindD where
  name : Str
  sort : Int
def bindE : Enc BindD := ⟨2, fun x => [.str x.name, I x.sort], fun _ => rfl⟩
structure TermD where
  kind : Int
  name : Str
  n : Int
def termE : Enc TermD := ⟨3, fun x => [I x.kind, .str x.name, I x.n], fun _ => rfl⟩
structure EnvD where
  name : Str
  sort : Int
  pos : Int
def envE : Enc EnvD := ⟨3, fun x => [.str x.name, I x.sort, I x.pos], fun _ => rfl⟩
inductive FormD where
  | mk (kind : Int) (name : Str) (n : Int) (terms : List TermD) (binds : List BindD) (subs : List FormD)
mutual
def FormD.cells : FormD → List AV
  | .mk k nm n ts bs l => [I k, .str nm, I n, termE.sl ts, bindE.sl bs, .sl l.length false (FormD.cellsL l)]
def FormD.cellsL : List FormD → List AV
  | [] => []
  | f :: l => FormD.cells f ++ FormD.cellsL l
end
theorem FormD.cells_len (f : FormD) : f.cells.length = 6 := by cases f; rfl
def formE : Enc FormD := ⟨6, FormD.cells, FormD.cells_len⟩
theorem FormD.cellsL_eq : ∀ (l : List FormD), FormD.cellsL l = formE.cells l
  | [] => rfl
  | f :: l => by simp only [FormD.cellsL, Enc.cells, List.flatMap_cons]; rw [FormD.cellsL_eq l]; rfl
def FormD.kind : FormD → Int | .mk k _ _ _ _ _ => k
def FormD.name : FormD → Str | .mk _ k _ _ _ _ => k
def FormD.n : FormD → Int | .mk _ _ k _ _ _ => k
def FormD.terms : FormD → List TermD | .mk _ _ _ k _ _ => k
def FormD.binds : FormD → List BindD | .mk _ _ _ _ k _ => k
def FormD.subs : FormD → List FormD | .mk _ _ _ _ _ k => k
theorem FormD.cells_eq (f : FormD) : f.cells = [I f.kind, .str f.name, I f.n, termE.sl f.terms, bindE.sl f.binds, formE.sl f.subs] := by
  cases f; simp only [FormD.cells, FormD.cellsL_eq]; rfl
def FormD.av (f : FormD) : AV := .agg f.cells
structure RuleD where
  name : Str
  hard : Bool
  weight : Int
  each : List BindD
  body : FormD
def ruleE : Enc RuleD := ⟨10, fun x => [.str x.name, .bool x.hard, I x.weight, bindE.sl x.each] ++ x.body.cells, fun x => by simp [FormD.cells_len]⟩
structure PlanD where
  school : SchoolD
  rules : List RuleD
  frozen : List Int
def PlanD.av (p : PlanD) : AV := .agg (p.school.cells ++ [ruleE.sl p.rules, isl p.frozen])
end Go.Zk
namespace Go.Zk
open Go.Proofs
variable {E : Env} [h : Is E]
theorem purs_append {l m : List AV} : AV.purs (l ++ m) = (AV.purs l && AV.purs m) := by
  induction l with
  | nil => simp [AV.purs]
  | cons x l ih => simp [AV.purs, ih, Bool.and_assoc]
def ixOf : Option Nat → Int
  | some i => i
  | none => -1
theorem findIdx_at {α : Type} {p : α → Bool} {l : List α} {i : Nat} (hi : i < l.length) (hp : p l[i] = true) (hx : ∀ j (h : j < i), p (l[j]'(by omega)) = false) : l.findIdx? p = some i := by
  rw [List.findIdx?_eq_some_iff_getElem]
  exact ⟨hi, hp, fun j hj => by simp [hx j hj]⟩
theorem findIdx_no {α : Type} {p : α → Bool} {l : List α} (hx : ∀ j (h : j < l.length), p l[j] = false) : l.findIdx? p = none := by
  rw [List.findIdx?_eq_none_iff]
  intro x hm
  obtain ⟨j, h, rfl⟩ := List.getElem_of_mem hm
  exact hx j h
theorem ixOf_any {α : Type} {p : α → Bool} {l : List α} : decide (0 ≤ ixOf (l.findIdx? p)) = l.any p := by
  cases h : l.findIdx? p with
  | none =>
    rw [List.findIdx?_eq_none_iff] at h
    have : l.any p = false := by rw [List.any_eq_false]; simpa using h
    rw [this]; rfl
  | some i =>
    rw [List.findIdx?_eq_some_iff_getElem] at h
    obtain ⟨h1, h2, _⟩ := h
    have : l.any p = true := by rw [List.any_eq_true]; exact ⟨_, List.getElem_mem h1, h2⟩
    rw [this]; simp [ixOf]
abbrev Big (n : Nat) : Prop := n < 1000000000000
def inR (a b : Int) : Bool := decide (0 ≤ a ∧ a ≤ b)
theorem inR_iff {a b : Int} : inR a b = true ↔ 0 ≤ a ∧ a ≤ b := by simp [inR]
theorem within (a b : Int) : PF E 58 [I a, I b] (.bool (inR a b)) := by
  refine pf_of_body mixed fn_58 (by simp) ?_
  unfold Tryz.f58 ABody
  by_cases h0 : 0 ≤ a <;> simp [h0, inR] <;> exact ⟨0, Pur.self rfl⟩

/-- The list is rising, from last on, below n. -/
def rising : Int → Int → List Int → Bool
  | _, _, [] => true
  | last, n, x :: l => decide (last < x ∧ x < n) && rising x n l
theorem places (l : List Int) (n : Int) (hl : Big l.length) : PF E 60 [isl l, I n] (.bool (rising (-1) n l)) := by
  unfold Big at hl
  refine pf_of_body mixed fn_60 (by simp) ?_
  unfold Tryz.f60 ABody
  simp [isl]
  refine wp_loop (fun fr H m => ∃ (i : Nat) (last : Int), fr 1 = I n ∧ fr 5 = I last ∧ fr 8 = isl l ∧ fr 9 = I l.length ∧ fr 10 = I i ∧ i + m = l.length ∧ H = .nil ∧ rising (-1) n l = rising last n (l.drop i)) l.length ?_ ?_
  · exact ⟨0, -1, by simp [isl]⟩
  rintro m fr H ⟨i, last, h1, h5, h8, h9, h10, hm, rfl, hr⟩
  by_cases hi : i < l.length
  · have hd : l.drop i = l[i] :: l.drop (i + 1) := List.drop_eq_getElem_cons hi
    rw [hd, rising] at hr
    by_cases c1 : l[i] ≤ last
    · simp [h1, h5, h8, h9, h10, isl, hi, c1]
      rw [hr, show decide (last < l[i] ∧ l[i] < n) = false by simp; omega]
      exact ⟨0, Pur.self rfl⟩
    · by_cases c2 : n ≤ l[i]
      · simp [h1, h5, h8, h9, h10, isl, hi, c1, c2]
        rw [hr, show decide (last < l[i] ∧ l[i] < n) = false by simp; omega]
        exact ⟨0, Pur.self rfl⟩
      · simp [h1, h5, h8, h9, h10, isl, hi, c1, c2]
        refine ⟨m - 1, by omega, i + 1, wrap_of (by omega) (by omega), by omega, ?_⟩
        rw [hr, show decide (last < l[i] ∧ l[i] < n) = true by simp; omega]
        simp
  · have : i = l.length := by omega
    subst this
    simp [h1, h5, h8, h9, h10, isl]
    rw [hr]
    simp [rising]
    exact ⟨0, Pur.self rfl⟩

theorem index_111 {g : RoomD → Bool} {k : FuncId} {a b : List AV} (hp : (AV.purs a && AV.purs b) = true) (l : List RoomD) (hl : Big l.length) (hg : ∀ x ∈ l, PF E k (a ++ [.agg (roomE.enc x)] ++ b) (.bool (g x))) :
    PF E 111 [roomE.sl l, .func k a b] (I (ixOf (l.findIdx? g))) := by
  unfold Big at hl
  simp only [Bool.and_eq_true] at hp
  refine pf_of_body mixed fn_111 (by simp) ?_
  unfold Tryz.f111 ABody
  simp [Enc.sl]
  refine wp_loop (fun fr H m => ∃ i : Nat, fr 0 = roomE.sl l ∧ fr 1 = .func k a b ∧ fr 7 = I l.length ∧ fr 8 = I i ∧ i + m = l.length ∧ H = .nil ∧ ∀ j (h : j < i) (h2 : j < l.length), g l[j] = false) l.length ?_ ?_
  · exact ⟨0, by simp [Enc.sl]⟩
  rintro m fr H ⟨i, h0, h1, h7, h8, hm, rfl, hx⟩
  by_cases hi : i < l.length
  · simp [h0, h1, h7, h8, hi, Enc.sl]
    rw [show apart true 4 (i * 4) (roomE.cells l) = some (.agg (roomE.enc l[i])) from roomE.part hi]
    simp
    refine rc_pure (hg l[i] (List.getElem_mem hi)) (by simp [purs_append, hp, AV.purs, AV.pur, roomE]) ?_
    by_cases hgi : g l[i] = true
    · simp [h0, h1, h7, h8, hi, hgi]
      rw [findIdx_at hi hgi fun j h => hx j h (by omega)]
      exact ⟨0, Pur.self rfl⟩
    · simp [h0, h1, h7, h8, hi, hgi]
      refine ⟨m - 1, by omega, rfl, i + 1, wrap_of (by omega) (by omega), by omega, fun j h1 h2 => ?_⟩
      by_cases e : j = i
      · subst e; simpa using hgi
      · exact hx j (by omega) h2
  · simp [h0, h1, h7, h8, hi, Enc.sl]
    rw [findIdx_no fun j h => hx j (by omega) h]
    exact ⟨0, Pur.self rfl⟩
theorem contains_64 {g : RoomD → Bool} {k : FuncId} {a b : List AV} (hp : (AV.purs a && AV.purs b) = true) (l : List RoomD) (hl : Big l.length) (hg : ∀ x ∈ l, PF E k (a ++ [.agg (roomE.enc x)] ++ b) (.bool (g x))) :
    PF E 64 [roomE.sl l, .func k a b] (.bool (l.any g)) := by
  refine pf_of_body mixed fn_64 (by simp) ?_
  unfold Tryz.f64 ABody
  simp
  refine rc_pure (index_111 hp l hl hg) (by simp only [Bool.and_eq_true] at hp; simp [AV.purs, AV.pur, hp]) ?_
  simp
  rw [← ixOf_any]
  exact ⟨0, Pur.self rfl⟩
end Go.Zk
