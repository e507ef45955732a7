/- More of the package variables: tables of pairs; the width that is not listed. Conditions: the row's list is laid; the world is shaped. -/
import Derived.Test.YtiplcbpocpgbbaaGreatDoorA21
set_option linter.unusedSimpArgs false
set_option linter.unusedVariables false
set_option maxRecDepth 100000
namespace Go.Zk
open Go.Proofs Go.WideElems
section
variable {W : World}
theorem pairs_of {H : Type} {enc : TypeId × Value → H} {sp : Nat → Bool} {held : Bool} {fuel t n : Nat} {cs : List Value} {zs : List Int} {q : List MemPlace} (hu : Tryz.prog.underlying t = some (.array n 128)) (hc : Tryz.prog.cellsOf t = n * 2)
    (hz : zs.length = n * 2) (h : DataW.trod enc Tryz.prog W 0 sp held fuel t cs = some (.agg ((List.range n).map fun i => Lib.tabData .i64 [zs.getD (i * 2) 0, zs.getD (i * 2 + 1) 0]), q)) : CR W (zs.map I) cs := by
  obtain ⟨xs, m, rfl, hx, hlen, hxl, hel⟩ := DataW.trod_array hu h
  simp only [Prod.mk.injEq, DataW.agg.injEq] at hx
  have c128 : Tryz.prog.cellsOf 128 = 2 := by kernel_rfl
  rw [hc] at hlen
  have key : ∀ j, j < n * 2 → cs[j]? = some (.int .i64 (zs.getD j 0)) := by
    intro j hj
    have hi : j / 2 < n := by omega
    have h1 := hel (j / 2) hi
    rw [c128, List.getElem?_eq_getElem (by omega)] at h1
    have hd : (xs[j / 2]'(by omega)).1 = Lib.tabData .i64 [zs.getD (j / 2 * 2) 0, zs.getD (j / 2 * 2 + 1) 0] := by
      have := congrArg (fun l => l[j / 2]?) hx.1
      simp [hi, show j / 2 < xs.length by omega] at this
      rw [← this]
      simp
    have h2 : DataW.trod enc Tryz.prog W 0 sp held m 128 ((cs.drop (j / 2 * 2)).take 2) = some (Lib.tabData .i64 [zs.getD (j / 2 * 2) 0, zs.getD (j / 2 * 2 + 1) 0], (xs[j / 2]'(by omega)).2) := by rw [h1, ← hd]
    have h3 := Lib.cells_of_tab Tryz.underlying128 Tryz.underlying3 co_3 c128 h2
    have h4 := congrArg (fun l => l[j % 2]?) h3
    have hm : j % 2 < 2 := Nat.mod_lt _ (by omega)
    have hjj : j / 2 * 2 + j % 2 = j := by omega
    simp only [List.getElem?_take, hm, if_true, List.getElem?_drop, hjj] at h4
    rw [h4]
    rcases (by omega : j % 2 = 0 ∨ j % 2 = 1) with e | e
    · rw [e]; rw [e] at hjj; simp; congr 2 <;> omega
    · rw [e]; rw [e] at hjj; simp; congr 2 <;> omega
  refine ⟨VsRel.of_get (by simp [hlen, hz]) fun i c v h1 h2 => ?_, fun v hv => ?_⟩
  · rw [List.getElem?_map] at h1
    have hi : i < n * 2 := by rw [← hlen]; exact (List.getElem?_eq_some_iff.1 h2).1
    rw [key i hi] at h2
    cases h2
    rw [List.getElem?_eq_getElem (by omega)] at h1
    cases h1
    rw [VRel]
    simp [show i < zs.length by omega]
  · obtain ⟨i, hi⟩ := List.mem_iff_getElem?.1 hv
    have hil : i < n * 2 := by rw [← hlen]; exact (List.getElem?_eq_some_iff.1 hi).1
    rw [key i hil] at hi
    cases hi
    rfl
theorem glob_3 (hL : laidMetH Tryz.prog lst W) : CellsAt (cW W) ⟨3, 0, none⟩ 0 asksCells := by
  obtain ⟨g, t, cs, fuel, p, h1, h2, h3, h4⟩ := laid_of hL (List.mem_of_getElem? (i := 7) rfl) rfl
  obtain rfl : 3 = g := Option.some.inj ((show Tryz.prog.globalNamed "chalkline/types.asks" = some 3 by kernel_rfl).symm.trans h1)
  obtain rfl : 251 = t := Option.some.inj ((show (Tryz.prog.globals[3]?).map (·.type) = some 251 by kernel_rfl).symm.trans h2)
  exact cells_var h1 h3 (pairs_of (n := 9) (zs := [0, 0, 0, 0, 0, 0, 1, 2, 1, 3, 4, 1, 5, 1, 4, 2, 3, 2]) Tryz.underlying251 (by kernel_rfl) rfl h4)
theorem glob_7 (hL : laidMetH Tryz.prog lst W) : CellsAt (cW W) ⟨7, 0, none⟩ 0 takesCells := by
  obtain ⟨g, t, cs, fuel, p, h1, h2, h3, h4⟩ := laid_of hL (List.mem_of_getElem? (i := 8) rfl) rfl
  obtain rfl : 7 = g := Option.some.inj ((show Tryz.prog.globalNamed "chalkline/types.takes" = some 7 by kernel_rfl).symm.trans h1)
  obtain rfl : 267 = t := Option.some.inj ((show (Tryz.prog.globals[7]?).map (·.type) = some 267 by kernel_rfl).symm.trans h2)
  exact cells_var h1 h3 (pairs_of (n := 8) (zs := [0, 0, 0, 0, 0, 0, 2, 6, 2, 8, 3, 7, 3, 8, 1, 8]) Tryz.underlying267 (by kernel_rfl) rfl h4)
theorem glob_4 (hS : W.ShapedOpen Tryz.prog) : ∃ m : Int, CellsAt (cW W) ⟨4, 0, none⟩ 0 [I m] := by
  obtain ⟨cs, h1, h2, h3⟩ := hS.1 4 #[Value.int .i64 0] 3 (of_decide_eq_true (by kernel_rfl)) (by kernel_rfl)
  obtain ⟨ts, t1, ⟨k, t2⟩, t3⟩ := h3 (by kernel_rfl)
  have hts : ts = [3] := Option.some.inj (t1.symm.trans (by kernel_rfl))
  subst hts
  have hc : cs[0]? = some (cs[0]'(by rw [h2]; decide)) := by simp [h2]
  obtain ⟨u, hu, hok⟩ := t3 0 _ hc
  simp at hu
  subst hu
  unfold Cell.ok at hok
  rw [Tryz.underlying3] at hok
  generalize hv : cs[0]'(by rw [h2]; decide) = v at hc hok
  cases v <;> simp at hok
  rename_i kd m
  obtain ⟨rfl, _⟩ := hok
  refine ⟨m, CellsAt.of_get fun j c hj => ?_⟩
  match j, hj with
  | 0, hj =>
    cases hj
    refine ⟨.int .i64 m, ⟨(Array.getElem?_eq_some_iff.1 h1).1, fun ds e => by rw [h1] at e; cases e⟩, ?_, rfl, by simp [VRel, I]⟩
    rw [Addr.add_none]
    simp only [Ctx.cell?, cW, h1]
    simpa using hc
  | j + 1, hj => cases hj
/-- All that the program reads of its package variables. -/
theorem laid_all (hL : laidMetH Tryz.prog lst W) (hS : W.ShapedOpen Tryz.prog) : ∃ m : Int, ∀ g cells, (envM m).G g = some cells → CellsAt ⟨stay W, fun _ => none, W.heap⟩ ⟨g, 0, none⟩ 0 cells := by
  obtain ⟨m, h4⟩ := glob_4 hS
  refine ⟨m, fun g cells hg => ?_⟩
  match g, hg with
  | 0, hg => cases hg; exact glob_0 hL
  | 1, hg => cases hg; exact glob_1 hL
  | 2, hg => cases hg; exact glob_2 hL
  | 3, hg => cases hg; exact glob_3 hL
  | 4, hg => cases hg; exact h4
  | 5, hg => cases hg; exact glob_5 hL
  | 6, hg => cases hg; exact glob_6 hL
  | 7, hg => cases hg; exact glob_7 hL
  | 8, hg => cases hg; exact glob_8 hL
  | n + 9, hg => cases hg
end
end Go.Zk
