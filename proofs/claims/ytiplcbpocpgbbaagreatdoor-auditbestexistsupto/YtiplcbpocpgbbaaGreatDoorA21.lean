/- The package variables of this program. Conditions: the row's list is laid. -/
import Derived.Test.YtiplcbpocpgbbaaGreatDoorA20
set_option linter.unusedSimpArgs false
set_option linter.unusedVariables false
set_option maxRecDepth 100000
namespace Go.Zk
open Go.Proofs Go.WideElems
section
variable {W : World}
theorem laid_part {P : Program} {w : World} {n : String} {d : DataW Unit} : ∀ {l : List (String × DataW Unit)} {ps : List MemPlace}, DataW.LaidVars P w l ps → (n, d) ∈ l →
    ∃ g t cs fuel p, P.globalNamed n = some g ∧ (P.globals[g]?).map (·.type) = some t ∧ w.var? P n = some cs ∧ DataW.trod (fun _ => ()) P w 0 (fun _ => true) false fuel t cs.toList = some (d, p)
  | [], _, _, h => by cases h
  | (n', d') :: l, ps, h, hm => by
    obtain ⟨g, t, cs, fuel, p, q, h1, h2, h3, h4, h5, _⟩ := h
    rcases List.mem_cons.1 hm with e | hm
    · cases e
      exact ⟨g, t, cs, fuel, p, h1, h2, h3, h4⟩
    · exact laid_part h5 hm
theorem laid_of {P : Program} {laid : List (String × DataW Unit)} {w : World} (h : laidMetH P laid w) {n : String} {d : DataW Unit} (hm : (n, d) ∈ laid) (hd : d.handleName?.isNone = true) :
    ∃ g t cs fuel p, P.globalNamed n = some g ∧ (P.globals[g]?).map (·.type) = some t ∧ w.var? P n = some cs ∧ DataW.trod (fun _ => ()) P w 0 (fun _ => true) false fuel t cs.toList = some (d, p) := by
  have key : ∃ l, (n, d) ∈ l ∧ laidMet P l w := by
    unfold laidMetH at h
    split at h
    · exact ⟨_, hm, h⟩
    · exact ⟨_, List.mem_filter.2 ⟨hm, hd⟩, h.1⟩
  obtain ⟨l, h1, ps, h2, _⟩ := key
  exact laid_part h2 h1
/-- The cells of a package variable. -/
theorem cells_var {n : String} {g : Nat} {cs : Array Value} {cells : List AV} {P : Program} (hg : P.globalNamed n = some g) (hv : W.var? P n = some cs) (h : CR W cells cs.toList) : CellsAt (cW W) ⟨g, 0, none⟩ 0 cells := by
  refine CellsAt.of_get fun j c hj => ?_
  have hl := h.get.1
  have hlt : j < cells.length := (List.getElem?_eq_some_iff.1 hj).1
  have hc : cs.toList[j]? = some cs.toList[j] := List.getElem?_eq_getElem (by omega)
  obtain ⟨r1, r2⟩ := h.get.2 j _ _ hj hc
  have hcell := World.var?_cell hg hv j
  rw [← Array.getElem?_toList, hc] at hcell
  have hst := cell_stay hcell
  exact ⟨_, hst, by rw [Nat.zero_add, Addr.add_none, Nat.zero_add]; exact hcell, r2, r1⟩
theorem gmap_list {H : Type} {enc : TypeId × Value → H} {P : Program} {α : Type} {sp : Nat → Bool} {held : Bool} {fuel : Nat} {t k e : TypeId} {cs : List Value} {ps : List MemPlace} (A : List α) (fk fv : α → AV) (gk : α → Lit) (gv : α → DataW H)
    (hu : P.underlying t = some (.map k e)) (h : DataW.trod enc P W 0 sp held fuel t cs = some (.map (A.map fun a => (gk a, gv a)), ps)) (hnd : (A.map fk).Nodup)
    (hk : ∀ a ∈ A, ∀ key, keyOf P k key = some (gk a) → VRel (cW W) (fk a) key)
    (hv : ∀ a ∈ A, ∀ (n : Nat) (v : Value) (q : List MemPlace), v.formed P e = true → DataW.trod enc P W 0 sp held n e v.cells.toList = some (gv a, q) → VRel (cW W) (fv a) v) : CR W [.gmap (A.map fk) (A.map fv)] cs := by
  have get : ∀ {β : Type} (f : α → β) (i : Nat) (x : β), (A.map f)[i]? = some x → ∃ a, A[i]? = some a ∧ x = f a := fun f i x h => by
    rw [List.getElem?_map] at h
    cases hA : A[i]? with
    | none => rw [hA] at h; cases h
    | some a => rw [hA] at h; cases h; exact ⟨a, rfl, rfl⟩
  refine gmap_of hu h _ _ (by simp) (by simp) hnd (fun i x y hx hy key hkey => ?_) fun i x y hx hy n v q hf hr => ?_
  · obtain ⟨a, ha, rfl⟩ := get _ _ _ hx
    obtain ⟨b, hb, rfl⟩ := get _ _ _ hy
    rw [ha] at hb; cases hb
    exact hk a (List.mem_of_getElem? ha) key hkey
  · obtain ⟨a, ha, rfl⟩ := get _ _ _ hx
    obtain ⟨b, hb, rfl⟩ := get _ _ _ hy
    rw [ha] at hb; cases hb
    exact hv a (List.mem_of_getElem? ha) n v q hf hr
theorem nodup_map {α β : Type} {f : α → β} {l : List α} (h : l.Nodup) (hf : ∀ a b, f a = f b → a = b) : (l.map f).Nodup := by
  unfold List.Nodup at *
  rw [List.pairwise_map]
  exact h.imp fun hne e => hne (hf _ _ e)
theorem plain_val {H : Type} {enc : TypeId × Value → H} {P : Program} {e : TypeId} {sp : Nat → Bool} {held : Bool} {n : Nat} {v : Value} {d : DataW H} {q : List MemPlace} (hf : v.formed P e = true)
    (hn : ∀ fs, P.underlying e ≠ some (.struct fs)) (ha : ∀ n t, P.underlying e ≠ some (.array n t)) (h : DataW.trod enc P W 0 sp held n e v.cells.toList = some (d, q)) : DataW.trod enc P W 0 sp held n e [v] = some (d, q) := by
  rw [val_cells hf hn ha] at h; exact h
abbrev lst := Go.Proofs.YtiplcbpocpgbbaaGreatDoor.Rows.auditBestExistsUptoRow.laid
variable (hL : laidMetH Tryz.prog lst W)
include hL
def arityP : List (Int × Int) := [(1, 0), (2, 0), (3, 0), (4, 0), (5, 0), (6, 0), (7, 0), (8, 0), (9, 0), (10, 1), (11, 2), (12, 2), (13, 2), (14, 1), (15, 1), (16, 1), (17, 1)]
theorem glob_5 : CellsAt (cW W) ⟨5, 0, none⟩ 0 [intMap arityMap] := by
  obtain ⟨g, t, cs, fuel, p, h1, h2, h3, h4⟩ := laid_of hL (List.mem_of_getElem? (i := 6) rfl) rfl
  obtain rfl : 5 = g := Option.some.inj ((show Tryz.prog.globalNamed "chalkline/formula.arity" = some 5 by kernel_rfl).symm.trans h1)
  obtain rfl : 262 = t := Option.some.inj ((show (Tryz.prog.globals[5]?).map (·.type) = some 262 by kernel_rfl).symm.trans h2)
  refine cells_var h1 h3 (gmap_list arityP (fun p => I p.1) (fun p => I p.2) (fun p => .int .i64 p.1) (fun p => .lit (.int .i64 p.2)) Tryz.underlying262 h4 ?_ (fun a ha key hk => ?_) fun a ha n v q hf hr => ?_)
  · rw [show arityP.map (fun p => I p.1) = (arityP.map Prod.fst).map I by simp]
    exact nodup_map (by decide) fun a b e => by cases e; rfl
  · rw [key_int Tryz.underlying3 hk, VRel]
  · obtain ⟨m, e1, e2, _⟩ := DataW.trod_int Tryz.underlying3 (plain_val hf (by rw [Tryz.underlying3]; simp) (by rw [Tryz.underlying3]; simp) hr)
    simp at e1 e2
    rw [e1, VRel, e2.1]
def signP : List (Str × Str) := [([33, 61], [61]), ([60], [62, 61]), ([60, 61], [62]), ([61], [33, 61]), ([62], [60, 61]), ([62, 61], [60])]
theorem glob_6 : CellsAt (cW W) ⟨6, 0, none⟩ 0 [strMap signMap] := by
  obtain ⟨g, t, cs, fuel, p, h1, h2, h3, h4⟩ := laid_of hL (List.mem_of_getElem? (i := 5) rfl) rfl
  obtain rfl : 6 = g := Option.some.inj ((show Tryz.prog.globalNamed "chalkline/formula.signs" = some 6 by kernel_rfl).symm.trans h1)
  obtain rfl : 263 = t := Option.some.inj ((show (Tryz.prog.globals[6]?).map (·.type) = some 263 by kernel_rfl).symm.trans h2)
  refine cells_var h1 h3 (gmap_list signP (fun p => .str p.1) (fun p => .str p.2) (fun p => .string p.1) (fun p => .lit (.string p.2)) Tryz.underlying263 h4 ?_ (fun a ha key hk => ?_) fun a ha n v q hf hr => ?_)
  · rw [show signP.map (fun p => AV.str p.1) = (signP.map Prod.fst).map AV.str by simp]
    exact nodup_map (by decide) fun a b e => by cases e; rfl
  · rw [key_str Tryz.underlying9 hk, VRel]
  · obtain ⟨m, e1, e2, _⟩ := DataW.trod_string Tryz.underlying9 (plain_val hf (by rw [Tryz.underlying9]; simp) (by rw [Tryz.underlying9]; simp) hr)
    simp at e1 e2
    rw [e1, VRel, e2.1]
theorem glob_8 : CellsAt (cW W) ⟨8, 0, none⟩ 0 [strMap resMap] := by
  obtain ⟨g, t, cs, fuel, p, h1, h2, h3, h4⟩ := laid_of hL (List.mem_of_getElem? (i := 4) rfl) rfl
  obtain rfl : 8 = g := Option.some.inj ((show Tryz.prog.globalNamed "chalkline/formula.reserved" = some 8 by kernel_rfl).symm.trans h1)
  obtain rfl : 122 = t := Option.some.inj ((show (Tryz.prog.globals[8]?).map (·.type) = some 122 by kernel_rfl).symm.trans h2)
  refine cells_var h1 h3 (gmap_list resWords (fun p => .str p) (fun p => .bool true) (fun p => .string p) (fun p => .lit (.bool true)) Tryz.underlying122 h4 ?_ (fun a ha key hk => ?_) fun a ha n v q hf hr => ?_)
  · exact nodup_map (by decide) fun a b e => by cases e; rfl
  · rw [key_str Tryz.underlying9 hk, VRel]
  · obtain ⟨m, e1, e2⟩ := DataW.trod_bool Tryz.underlying4 (plain_val hf (by rw [Tryz.underlying4]; simp) (by rw [Tryz.underlying4]; simp) hr)
    simp at e1 e2
    rw [e1, VRel, e2.1]
/-! functions -/
def onlyF (l : List (Nat × List UInt8)) (b : List UInt8) (f : Nat) : Bool := (l.filter fun p => decide (p.2 = b)).map (·.1) == [f]
omit hL in
theorem fun_val {e : TypeId} {ps rs : Array TypeId} {va : Bool} {sp : Nat → Bool} {n : Nat} {v : Value} {b : List UInt8} {f : FuncId} {q : List MemPlace} (hu : Tryz.prog.underlying e = some (.func ps rs va)) (hb : b ≠ [])
    (hone : ((List.range Tryz.prog.funcs.size).filter fun f => (Tryz.prog.funcs[f]?).any (·.name.toUTF8.data.toList == b)) = [f])
    (hf : v.formed Tryz.prog e = true) (hr : DataW.trod (funcToken Tryz.prog) Tryz.prog W 0 sp true n e v.cells.toList = some (.held b, q)) : VRel (cW W) (.func f [] []) v := by
  have h1 := plain_val hf (by rw [hu]; simp) (by rw [hu]; simp) hr
  cases b with
  | nil => exact absurd rfl hb
  | cons c r =>
    have := func_of_trod hu hone h1
    subst this
    rw [VRel]
    exact ⟨#[], #[], rfl, VsRel.nil, VsRel.nil⟩
def signFs : List (Str × List UInt8 × FuncId) := [([33, 61], [99, 104, 97, 108, 107, 108, 105, 110, 101, 47, 101, 118, 97, 108, 46, 115, 105, 103, 110, 115, 36, 50], 312), ([60], [99, 104, 97, 108, 107, 108, 105, 110, 101, 47, 101, 118, 97, 108, 46, 115, 105, 103, 110, 115, 36, 51], 313), ([60, 61], [99, 104, 97, 108, 107, 108, 105, 110, 101, 47, 101, 118, 97, 108, 46, 115, 105, 103, 110, 115, 36, 52], 314), ([61], [99, 104, 97, 108, 107, 108, 105, 110, 101, 47, 101, 118, 97, 108, 46, 115, 105, 103, 110, 115, 36, 49], 311), ([62], [99, 104, 97, 108, 107, 108, 105, 110, 101, 47, 101, 118, 97, 108, 46, 115, 105, 103, 110, 115, 36, 53], 315), ([62, 61], [99, 104, 97, 108, 107, 108, 105, 110, 101, 47, 101, 118, 97, 108, 46, 115, 105, 103, 110, 115, 36, 54], 316)]
def atomFs : List (Int × List UInt8 × FuncId) := [(3, [99, 104, 97, 108, 107, 108, 105, 110, 101, 47, 101, 118, 97, 108, 46, 97, 116, 111, 109, 115, 36, 49], 317), (4, [99, 104, 97, 108, 107, 108, 105, 110, 101, 47, 101, 118, 97, 108, 46, 97, 116, 111, 109, 115, 36, 50], 318), (5, [99, 104, 97, 108, 107, 108, 105, 110, 101, 47, 101, 118, 97, 108, 46, 97, 116, 111, 109, 115, 36, 51], 319), (6, [99, 104, 97, 108, 107, 108, 105, 110, 101, 47, 101, 118, 97, 108, 46, 97, 116, 111, 109, 115, 36, 52], 321), (7, [99, 104, 97, 108, 107, 108, 105, 110, 101, 47, 101, 118, 97, 108, 46, 97, 116, 111, 109, 115, 36, 53], 323), (8, [99, 104, 97, 108, 107, 108, 105, 110, 101, 47, 101, 118, 97, 108, 46, 97, 116, 111, 109, 115, 36, 54], 325)]
def kindFs : List (Int × List UInt8 × FuncId) := [(1, [99, 104, 97, 108, 107, 108, 105, 110, 101, 47, 97, 117, 100, 105, 116, 46, 112, 117, 98, 108, 105, 115, 104, 101, 100], 300), (2, [99, 104, 97, 108, 107, 108, 105, 110, 101, 47, 97, 117, 100, 105, 116, 46, 107, 105, 110, 100, 115, 36, 49], 301), (3, [99, 104, 97, 108, 107, 108, 105, 110, 101, 47, 97, 117, 100, 105, 116, 46, 107, 105, 110, 100, 115, 36, 50], 302), (4, [99, 104, 97, 108, 107, 108, 105, 110, 101, 47, 97, 117, 100, 105, 116, 46, 97, 115, 107, 101, 100], 303), (5, [99, 104, 97, 108, 107, 108, 105, 110, 101, 47, 97, 117, 100, 105, 116, 46, 107, 105, 110, 100, 115, 36, 51], 304), (6, [99, 104, 97, 108, 107, 108, 105, 110, 101, 47, 97, 117, 100, 105, 116, 46, 107, 105, 110, 100, 115, 36, 52], 305)]
omit hL in
theorem signFs_one : ∀ p ∈ signFs, ((List.range Tryz.prog.funcs.size).filter fun f => (Tryz.prog.funcs[f]?).any (·.name.toUTF8.data.toList == p.2.1)) = [p.2.2] := by
  intro p hp
  have hb : (signFs.all fun p => ((List.range Tryz.prog.funcs.size).filter fun f => (Tryz.prog.funcs[f]?).any (·.name.toUTF8.data.toList == p.2.1)) == [p.2.2]) = true := by kernel_rfl
  simpa using List.all_eq_true.1 hb p hp
omit hL in
theorem signFs_ne : ∀ p ∈ signFs, p.2.1 ≠ [] := by simp [signFs]
omit hL in
theorem atomFs_one : ∀ p ∈ atomFs, ((List.range Tryz.prog.funcs.size).filter fun f => (Tryz.prog.funcs[f]?).any (·.name.toUTF8.data.toList == p.2.1)) = [p.2.2] := by
  intro p hp
  have hb : (atomFs.all fun p => ((List.range Tryz.prog.funcs.size).filter fun f => (Tryz.prog.funcs[f]?).any (·.name.toUTF8.data.toList == p.2.1)) == [p.2.2]) = true := by kernel_rfl
  simpa using List.all_eq_true.1 hb p hp
omit hL in
theorem atomFs_ne : ∀ p ∈ atomFs, p.2.1 ≠ [] := by simp [atomFs]
omit hL in
theorem kindFs_one : ∀ p ∈ kindFs, ((List.range Tryz.prog.funcs.size).filter fun f => (Tryz.prog.funcs[f]?).any (·.name.toUTF8.data.toList == p.2.1)) = [p.2.2] := by
  intro p hp
  have hb : (kindFs.all fun p => ((List.range Tryz.prog.funcs.size).filter fun f => (Tryz.prog.funcs[f]?).any (·.name.toUTF8.data.toList == p.2.1)) == [p.2.2]) = true := by kernel_rfl
  simpa using List.all_eq_true.1 hb p hp
omit hL in
theorem kindFs_ne : ∀ p ∈ kindFs, p.2.1 ≠ [] := by simp [kindFs]
theorem glob_1 : CellsAt (cW W) ⟨1, 0, none⟩ 0 [strMap evalSigns] := by
  obtain ⟨g, t, cs, fuel, p, h1, h2, h3, h4⟩ := hL.funcs (List.mem_of_getElem? (i := 9) rfl)
  obtain rfl : 1 = g := Option.some.inj ((show Tryz.prog.globalNamed "chalkline/eval.signs" = some 1 by kernel_rfl).symm.trans h1)
  obtain rfl : 211 = t := Option.some.inj ((show (Tryz.prog.globals[1]?).map (·.type) = some 211 by kernel_rfl).symm.trans h2)
  refine cells_var h1 h3 (gmap_list signFs (fun p => AV.str p.1) (fun p => .func p.2.2 [] []) (fun p => .string p.1) (fun p => .held p.2.1) Tryz.underlying211 h4 ?_ (fun a ha key hk => ?_) fun a ha n v q hf hr => ?_)
  · rw [show signFs.map (fun p => AV.str p.1) = (signFs.map Prod.fst).map AV.str by simp]
    exact nodup_map (by decide) fun a b e => by cases e; rfl
  · rw [key_str Tryz.underlying9 hk, VRel]
  · exact fun_val Tryz.underlying98 (signFs_ne a ha) (signFs_one a ha) hf hr
theorem glob_2 : CellsAt (cW W) ⟨2, 0, none⟩ 0 [intMap evalAtoms] := by
  obtain ⟨g, t, cs, fuel, p, h1, h2, h3, h4⟩ := hL.funcs (List.mem_of_getElem? (i := 10) rfl)
  obtain rfl : 2 = g := Option.some.inj ((show Tryz.prog.globalNamed "chalkline/eval.atoms" = some 2 by kernel_rfl).symm.trans h1)
  obtain rfl : 215 = t := Option.some.inj ((show (Tryz.prog.globals[2]?).map (·.type) = some 215 by kernel_rfl).symm.trans h2)
  refine cells_var h1 h3 (gmap_list atomFs (fun p => I p.1) (fun p => .func p.2.2 [] []) (fun p => .int .i64 p.1) (fun p => .held p.2.1) Tryz.underlying215 h4 ?_ (fun a ha key hk => ?_) fun a ha n v q hf hr => ?_)
  · rw [show atomFs.map (fun p => I p.1) = (atomFs.map Prod.fst).map I by simp]
    exact nodup_map (by decide) fun a b e => by cases e; rfl
  · rw [key_int Tryz.underlying3 hk, VRel]
  · exact fun_val Tryz.underlying213 (atomFs_ne a ha) (atomFs_one a ha) hf hr
theorem glob_0 : CellsAt (cW W) ⟨0, 0, none⟩ 0 [.gmap [I 1, I 2, I 3, I 4, I 5, I 6] [.func 300 [] [], .func 301 [] [], .func 302 [] [], .func 303 [] [], .func 304 [] [], .func 305 [] []]] := by
  obtain ⟨g, t, cs, fuel, p, h1, h2, h3, h4⟩ := hL.funcs (List.mem_of_getElem? (i := 11) rfl)
  obtain rfl : 0 = g := Option.some.inj ((show Tryz.prog.globalNamed "chalkline/audit.kinds" = some 0 by kernel_rfl).symm.trans h1)
  obtain rfl : 91 = t := Option.some.inj ((show (Tryz.prog.globals[0]?).map (·.type) = some 91 by kernel_rfl).symm.trans h2)
  refine cells_var h1 h3 (gmap_list kindFs (fun p => I p.1) (fun p => .func p.2.2 [] []) (fun p => .int .i64 p.1) (fun p => .held p.2.1) Tryz.underlying91 h4 ?_ (fun a ha key hk => ?_) fun a ha n v q hf hr => ?_)
  · rw [show kindFs.map (fun p => I p.1) = (kindFs.map Prod.fst).map I by simp]
    exact nodup_map (by decide) fun a b e => by cases e; rfl
  · rw [key_int Tryz.underlying3 hk, VRel]
  · exact fun_val Tryz.underlying49 (kindFs_ne a ha) (kindFs_one a ha) hf hr
end
end Go.Zk
