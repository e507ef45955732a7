/- Arguments as the form reads them, and as abstract values. Conditions: none. The types of the arguments, as they read. Conditions: none. The package variables as the row's list lays them. Conditions: none. -/
import Derived.ChangeArms
import Derived.LaidMore
import Derived.Lib.LaidTab
import Derived.OpenShut
import Derived.Test.YtiplcbpocpgbbaaGreatDoorA19
import Derived.Test.YtiplcbpocpgbbaaGreatDoorRows
import Derived.WideKeyElems2
set_option linter.unusedSimpArgs false
set_option linter.unusedVariables false
set_option maxRecDepth 100000
namespace Go.Zk
open Go.Proofs
open Go.Proofs.YtiplcbpocpgbbaaGreatDoor (Rows.uptoBulk Rows.uptoBulkAll Rows.uptoBulkEntries)
/-- The blocks of a world that are no lists of deferred calls. -/
def stay (W : World) : Nat → Prop := fun b => b < W.heap.size ∧ ∀ ds, W.heap[b]? ≠ some (.deferred ds)
def cW (W : World) : Ctx := ⟨stay W, fun _ => none, W.heap⟩
def CR (W : World) (l : List AV) (cs : List Value) : Prop := VsRel (cW W) l cs ∧ ∀ v ∈ cs, v.oneCell' = true
section
variable {H : Type} {enc : TypeId × Value → H} {P : Program} {W : World}
theorem CR.nil : CR W [] [] := ⟨by simp [VsRel], fun v hv => by cases hv⟩
theorem CR.one {a : AV} {v : Value} (h : VRel (cW W) a v) (h1 : v.oneCell' = true) : CR W [a] [v] := ⟨by simp [VsRel, h], fun u hu => by simp at hu; subst hu; exact h1⟩
theorem CR.append {l m : List AV} {cs ds : List Value} (h : CR W l cs) (k : CR W m ds) : CR W (l ++ m) (cs ++ ds) :=
  ⟨h.1.append k.1, fun v hv => (List.mem_append.1 hv).elim (h.2 v) (k.2 v)⟩
theorem CR.get {l : List AV} {cs : List Value} (h : CR W l cs) : l.length = cs.length ∧ ∀ (k : Nat) x v, l[k]? = some x → cs[k]? = some v → VRel (cW W) x v ∧ v.oneCell' = true := by
  obtain ⟨h1, h2⟩ := h
  refine ⟨(VsRel.length h1).symm, fun k x v hx hv => ⟨?_, h2 v (List.mem_of_getElem? hv)⟩⟩
  clear h2
  induction l generalizing cs k with
  | nil => cases hx
  | cons a l ih =>
    cases cs with
    | nil => cases hv
    | cons c cs =>
      simp only [VsRel] at h1
      cases k with
      | zero => simp at hx hv; subst hx hv; exact h1.1
      | succ k => exact ih h1.2 k (by simpa using hx) (by simpa using hv)
theorem cell_stay {a : Addr} {v : Value} (h : W.cell? a = some v) : stay W a.block := by
  unfold World.cell? at h
  split at h
  · rename_i c t fr hc
    exact ⟨(Array.getElem?_eq_some_iff.1 hc).1, fun ds e => by rw [hc] at e; cases e⟩
  · cases h
theorem mapM_get {α : Type} {f : Nat → Option α} : ∀ {n : Nat} {r : List α}, (List.range n).mapM f = some r → r.length = n ∧ ∀ i, i < n → f i = r[i]? := by
  intro n
  induction n with
  | zero => intro r h; simp at h; subst h; simp
  | succ n ih =>
    intro r h
    rw [List.range_succ, List.mapM_append] at h
    simp only [Option.bind_eq_bind, Option.bind_eq_some_iff] at h
    obtain ⟨l, hl, m, hm, he⟩ := h
    obtain ⟨h1, h2⟩ := ih hl
    obtain ⟨y, hy, rfl⟩ : ∃ y, f n = some y ∧ m = [y] := by
      cases hfn : f n with
      | none => simp [hfn] at hm
      | some y => simp [hfn] at hm; exact ⟨y, rfl, hm.symm⟩
    simp at he
    subst he
    refine ⟨by simp [h1], fun i hi => ?_⟩
    by_cases e : i = n
    · subst e; simp [hy, h1]
    · rw [h2 i (by omega), List.getElem?_append_left (by omega)]
theorem cells_get {base n : Nat} {a : Addr} {cs : List Value} (h : W.cells? base a n = some cs) : cs.length = n ∧ ∀ k, k < n → W.cell? (a.add k) = cs[k]? := by
  unfold World.cells? at h
  split at h
  · exact mapM_get h
  · cases h
theorem exists_list {α : Type} {R : Nat → α → Prop} : ∀ {n : Nat}, (∀ i, i < n → ∃ x, R i x) → ∃ l : List α, l.length = n ∧ ∀ i (hi : i < l.length), R i l[i] := by
  intro n
  induction n with
  | zero => intro _; exact ⟨[], rfl, fun i hi => by cases hi⟩
  | succ n ih =>
    intro h
    obtain ⟨l, h1, h2⟩ := ih fun i hi => h i (by omega)
    obtain ⟨x, hx⟩ := h n (by omega)
    refine ⟨l ++ [x], by simp [h1], fun i hi => ?_⟩
    by_cases e : i < l.length
    · rw [List.getElem_append_left e]; exact h2 i e
    · have : i = n := by simp at hi; omega
      subst this
      rw [List.getElem_append_right (by omega)]
      simpa [h1] using hx
/-! bulk -/
theorem one_le {H : Type} (d : DataW H) : 1 ≤ Rows.uptoBulk d := by
  cases d with
  | lit l => cases l <;> simp [Rows.uptoBulk]
  | _ => simp [Rows.uptoBulk]
theorem part_le {H : Type} : ∀ {l : List (DataW H)} {i : Nat} {d : DataW H}, l[i]? = some d → Rows.uptoBulk d ≤ Rows.uptoBulkAll l
  | [], _, _, h => by cases h
  | x :: l, 0, d, h => by simp at h; subst h; simp only [Rows.uptoBulkAll]; omega
  | x :: l, i + 1, d, h => by have := part_le (l := l) (i := i) (by simpa using h); simp only [Rows.uptoBulkAll]; omega
/-- A list whose parts' bulks add up. -/
def SQ {α : Type} (Q : Nat → α → Prop) : Nat → List α → Prop
  | _, [] => True
  | n, x :: l => ∃ a b, 1 ≤ a ∧ a + b ≤ n ∧ Q a x ∧ SQ Q b l
theorem SQ.of {α : Type} {Q : Nat → α → Prop} : ∀ {l : List α} {es : List (DataW H)}, l.length = es.length → (∀ i (h : i < l.length) d, es[i]? = some d → Q (Rows.uptoBulk d) l[i]) → SQ Q (Rows.uptoBulkAll es) l
  | [], _, _, _ => trivial
  | x :: l, [], h, _ => by simp at h
  | x :: l, d :: es, h, k => by
    refine ⟨Rows.uptoBulk d, Rows.uptoBulkAll es, one_le d, by simp only [Rows.uptoBulkAll]; omega, k 0 (by simp) d rfl, SQ.of (by simpa using h) fun i hi e he => ?_⟩
    have := k (i + 1) (by simpa using hi) e (by simpa using he)
    simpa using this
def Mono {α : Type} (Q : Nat → α → Prop) : Prop := ∀ a b x, a ≤ b → Q a x → Q b x
theorem SQ.mono {α : Type} {Q : Nat → α → Prop} : ∀ {l : List α} {a b : Nat}, a ≤ b → SQ Q a l → SQ Q b l
  | [], _, _, _, _ => trivial
  | x :: l, a, b, h, ⟨p, q, h1, h2, h3, h4⟩ => ⟨p, q, h1, by omega, h3, h4⟩
theorem SQ.len {α : Type} {Q : Nat → α → Prop} : ∀ {l : List α} {n : Nat}, SQ Q n l → l.length ≤ n
  | [], _, _ => by simp
  | x :: l, n, ⟨p, q, h1, h2, h3, h4⟩ => by have := SQ.len h4; simp; omega
theorem SQ.len2 {α : Type} {Q : Nat → α → Prop} (hq : ∀ a x, Q a x → 2 ≤ a) : ∀ {l : List α} {n : Nat}, SQ Q n l → 2 * l.length ≤ n
  | [], _, _ => by simp
  | x :: l, n, ⟨p, q, h1, h2, h3, h4⟩ => by have := SQ.len2 hq h4; have := hq _ _ h3; simp; omega
theorem SQ.all {α : Type} {Q : Nat → α → Prop} (hm : Mono Q) : ∀ {l : List α} {n : Nat}, SQ Q n l → ∀ x ∈ l, Q n x
  | [], _, _, x, hx => by cases hx
  | y :: l, n, ⟨p, q, h1, h2, h3, h4⟩, x, hx => by
    rcases List.mem_cons.1 hx with rfl | hx
    · exact hm _ _ _ (by omega) h3
    · exact hm _ _ _ (by omega) (SQ.all hm h4 x hx)
/-! readings -/
/-- What reads as type t stands for some x. -/
def RD (enc : TypeId × Value → H) (P : Program) (W : World) (N : Nat) (t : TypeId) {α : Type} (e : α → List AV) (Q : Nat → α → Prop) : Prop :=
  ∀ fuel, fuel ≤ N → ∀ cs d ps, DataW.trod enc P W 0 (fun _ => true) true fuel t cs = some (d, ps) → ∃ x : α, CR W (e x) cs ∧ Q (Rows.uptoBulk d) x
theorem RD.le {N M : Nat} {t : TypeId} {α : Type} {e : α → List AV} {Q : Nat → α → Prop} (h : RD enc P W N t e Q) (hm : M ≤ N) : RD enc P W M t e Q := fun fuel hf => h fuel (by omega)
theorem RD.int {N : Nat} {t : TypeId} (hu : P.underlying t = some (.int .i64)) : RD enc P W N t (fun n : Int => [I n]) (fun _ _ => True) := fun fuel _ cs d ps h => by
  obtain ⟨n, rfl, _⟩ := DataW.trod_int hu h
  exact ⟨n, CR.one (by simp [VRel, I]) rfl, trivial⟩
theorem RD.bool {N : Nat} {t : TypeId} (hu : P.underlying t = some .bool) : RD enc P W N t (fun n : Bool => [.bool n]) (fun _ _ => True) := fun fuel _ cs d ps h => by
  obtain ⟨n, rfl, _⟩ := DataW.trod_bool hu h
  exact ⟨n, CR.one (by simp [VRel]) rfl, trivial⟩
theorem RD.str {N : Nat} {t : TypeId} (hu : P.underlying t = some .string) : RD enc P W N t (fun n : Str => [.str n]) (fun _ _ => True) := fun fuel _ cs d ps h => by
  obtain ⟨s, rfl, _⟩ := DataW.trod_string hu h
  exact ⟨s.data.toList, CR.one (by simp [VRel]) rfl, trivial⟩
theorem RD.slice {N : Nat} {t e : TypeId} {α : Type} {c : Enc α} {Q : Nat → α → Prop} (hu : P.underlying t = some (.slice e)) (hz : P.cellsOf e = c.z) (h : RD enc P W N e c.enc Q) :
    RD enc P W (N + 1) t (fun l : List α => [c.sl l]) (fun n l => SQ Q (n - 1) l) := fun fuel hf cs d ps hd => by
  rcases DataW.trod_slice hu hd with ⟨rfl, hx⟩ | ⟨a, len, cap, elems, rest, n, rfl, rfl, hx, _, hlc, _, hlen, hel, _, _⟩
  · exact ⟨[], CR.one (by simp only [Enc.sl, Enc.cells, VRel]; exact ⟨none, 0, rfl, Nat.le_refl _, (fun e => by cases e), .inl ⟨rfl, rfl, rfl⟩⟩) rfl, trivial⟩
  · have key : ∀ i, i < len → ∃ x, ∃ ci y, W.cells? 0 (a.add (i * c.z)) c.z = some ci ∧ elems[i]? = some y ∧ CR W (c.enc x) ci ∧ Q (Rows.uptoBulk y.1) x := fun i hi => by
      have h1 := hel i hi
      have h2 : elems[i]? = some elems[i] := List.getElem?_eq_getElem (by omega)
      rw [h2, hz, Option.bind_eq_some_iff] at h1
      obtain ⟨ci, h3, h4⟩ := h1
      obtain ⟨x, h5, h6⟩ := h n (by omega) ci elems[i].1 elems[i].2 h4
      exact ⟨x, ci, elems[i], h3, h2, h5, h6⟩
    obtain ⟨l, hl, hk⟩ := exists_list key
    refine ⟨l, CR.one ?_ rfl, ?_⟩
    · simp only [Enc.sl, VRel]
      refine ⟨some a, cap, by rw [hl], by omega, (fun e => by cases e), .inr ⟨a, rfl, CellsAt.of_get fun j y hj => ?_⟩⟩
      have hjl : j < (c.cells l).length := (List.getElem?_eq_some_iff.1 hj).1
      rw [c.cells_len] at hjl
      have hz0 : 0 < c.z := by rcases Nat.eq_zero_or_pos c.z with e | e; rw [e] at hjl; omega; exact e
      have hi : j / c.z < l.length := Nat.div_lt_of_lt_mul (by rw [Nat.mul_comm]; exact hjl)
      have hm : j % c.z < c.z := Nat.mod_lt _ hz0
      have hjj : j / c.z * c.z + j % c.z = j := by rw [Nat.mul_comm]; exact Nat.div_add_mod j c.z
      obtain ⟨ci, y', h1, h2, h3, h4⟩ := hk (j / c.z) hi
      obtain ⟨g1, g2⟩ := cells_get h1
      have hcell := c.cell hi hm
      rw [hjj, hj] at hcell
      have hv := g2 (j % c.z) hm
      rw [Addr.add_add, hjj, List.getElem?_eq_getElem (by omega)] at hv
      obtain ⟨r1, r2⟩ := h3.get.2 _ _ _ hcell.symm (List.getElem?_eq_getElem (by omega))
      refine ⟨ci[j % c.z]'(by omega), ?_, ?_, r2, r1⟩
      · have := cell_stay hv
        rw [Addr.add_block] at this
        exact this
      · rw [Nat.zero_add]; exact hv
    · simp only [Prod.mk.injEq] at hx
      rw [hx.1]
      refine SQ.mono (a := Rows.uptoBulkAll (elems.map (·.1))) (by simp only [Rows.uptoBulk]; omega) (SQ.of (by simp [hl, hlen]) fun i hi d hd => ?_)
      obtain ⟨ci, y, h1, h2, h3, h4⟩ := hk i hi
      rw [List.getElem?_map, h2] at hd
      simp at hd
      subst hd
      exact h4
/-- A field of a struct. -/
theorem field_of {fs : Array Field} {xs : List (DataW H × List MemPlace)} {n : Nat} {cs : List Value} (hx : xs.length = fs.size)
    (hel : ∀ (i : Nat) (f : Field), fs[i]? = some f → DataW.trod enc P W 0 (fun _ => true) true n f.type ((cs.drop f.offset).take (P.cellsOf f.type)) = xs[i]?) {i : Nat} {f : Field} (hf : fs[i]? = some f) :
    ∃ y, xs[i]? = some y ∧ DataW.trod enc P W 0 (fun _ => true) true n f.type ((cs.drop f.offset).take (P.cellsOf f.type)) = some (y.1, y.2) := by
  have hi : i < xs.length := by rw [hx]; exact (Array.getElem?_eq_some_iff.1 hf).1
  have := hel i f hf
  rw [List.getElem?_eq_getElem hi] at this
  exact ⟨xs[i], List.getElem?_eq_getElem hi, this⟩
theorem bulk_part {xs : List (DataW H × List MemPlace)} {i : Nat} {y : DataW H × List MemPlace} (h : xs[i]? = some y) : Rows.uptoBulk y.1 + 1 ≤ Rows.uptoBulk (.agg (xs.map (·.1))) := by
  have := part_le (l := xs.map (·.1)) (i := i) (d := y.1) (by rw [List.getElem?_map, h]; rfl)
  simp only [Rows.uptoBulk]; omega
end
end Go.Zk
namespace Go.Zk
open Go.Proofs
open Go.Proofs.YtiplcbpocpgbbaaGreatDoor (Rows.uptoBulk Rows.uptoBulkAll Rows.uptoBulkEntries)
theorem co_3 : Tryz.prog.cellsOf 3 = 1 := by kernel_rfl
theorem co_4 : Tryz.prog.cellsOf 4 = 1 := by kernel_rfl
theorem co_9 : Tryz.prog.cellsOf 9 = 1 := by kernel_rfl
theorem co_22 : Tryz.prog.cellsOf 22 = 1 := by kernel_rfl
theorem co_23 : Tryz.prog.cellsOf 23 = 1 := by kernel_rfl
theorem co_24 : Tryz.prog.cellsOf 24 = 1 := by kernel_rfl
theorem co_25 : Tryz.prog.cellsOf 25 = 1 := by kernel_rfl
theorem co_26 : Tryz.prog.cellsOf 26 = 1 := by kernel_rfl
theorem co_28 : Tryz.prog.cellsOf 28 = 5 := by kernel_rfl
theorem co_29 : Tryz.prog.cellsOf 29 = 1 := by kernel_rfl
theorem co_30 : Tryz.prog.cellsOf 30 = 1 := by kernel_rfl
theorem co_32 : Tryz.prog.cellsOf 32 = 7 := by kernel_rfl
theorem co_33 : Tryz.prog.cellsOf 33 = 1 := by kernel_rfl
theorem co_35 : Tryz.prog.cellsOf 35 = 1 := by kernel_rfl
theorem co_48 : Tryz.prog.cellsOf 48 = 2 := by kernel_rfl
theorem co_74 : Tryz.prog.cellsOf 74 = 3 := by kernel_rfl
theorem co_76 : Tryz.prog.cellsOf 76 = 4 := by kernel_rfl
theorem co_78 : Tryz.prog.cellsOf 78 = 3 := by kernel_rfl
theorem co_80 : Tryz.prog.cellsOf 80 = 3 := by kernel_rfl
theorem co_81 : Tryz.prog.cellsOf 81 = 1 := by kernel_rfl
theorem co_82 : Tryz.prog.cellsOf 82 = 1 := by kernel_rfl
theorem co_83 : Tryz.prog.cellsOf 83 = 1 := by kernel_rfl
theorem co_85 : Tryz.prog.cellsOf 85 = 6 := by kernel_rfl
theorem co_87 : Tryz.prog.cellsOf 87 = 2 := by kernel_rfl
theorem co_89 : Tryz.prog.cellsOf 89 = 10 := by kernel_rfl
theorem co_133 : Tryz.prog.cellsOf 133 = 2 := by kernel_rfl
theorem co_136 : Tryz.prog.cellsOf 136 = 2 := by kernel_rfl
section
variable {H : Type} {enc : TypeId × Value → H} {W : World} {N : Nat}
abbrev T0 {α : Type} : Nat → α → Prop := fun _ _ => True
theorem rd_3 : RD enc Tryz.prog W N 3 (fun n : Int => [I n]) T0 := RD.int Tryz.underlying3
theorem rd_4 : RD enc Tryz.prog W N 4 (fun n : Bool => [.bool n]) T0 := RD.bool Tryz.underlying4
theorem rd_9 : RD enc Tryz.prog W N 9 (fun n : Str => [.str n]) T0 := RD.str Tryz.underlying9
theorem sq_len {α : Type} {Q : Nat → α → Prop} {n : Nat} {l : List α} (h : SQ Q (n - 1) l) : l.length ≤ n := by have := h.len; omega
theorem rd_sl {t e : TypeId} {α : Type} {c : Enc α} {Q : Nat → α → Prop} (hu : Tryz.prog.underlying t = some (.slice e)) (hz : Tryz.prog.cellsOf e = c.z) (h : ∀ N, RD enc Tryz.prog W N e c.enc Q) :
    RD enc Tryz.prog W N t (fun l : List α => [c.sl l]) (fun n l => SQ Q (n - 1) l) := (RD.slice hu hz (h N)).le (Nat.le_succ _)
theorem rd_30 : RD enc Tryz.prog W N 30 (fun l : List Int => [isl l]) (fun n l => l.length ≤ n) := fun fuel hf cs d ps h => by
  obtain ⟨l, h1, h2⟩ := rd_sl (c := intE) Tryz.underlying30 co_3 (fun N => rd_3) fuel hf cs d ps h
  exact ⟨l, by show CR W [isl l] cs; rw [← intE_sl]; exact h1, sq_len h2⟩
theorem rd_48 : RD enc Tryz.prog W N 48 placeE.enc T0 := fun fuel hf cs d ps h => by
  obtain ⟨xs, n, rfl, hx, hlen, hxl, hel⟩ := DataW.trod_struct Tryz.underlying48 h
  rw [co_48] at hlen
  obtain ⟨v0, v1, rfl⟩ : ∃ v0 v1, cs = [v0, v1] := by match cs, hlen with | [v0, v1], _ => exact ⟨v0, v1, rfl⟩
  obtain ⟨rfl, _⟩ := Prod.mk.inj hx
  obtain ⟨y0, hy0, h0⟩ := field_of hxl hel (i := 0) rfl
  have h0 : DataW.trod enc Tryz.prog W 0 (fun _ => true) true n 3 [v0] = some (y0.1, y0.2) := by simpa [co_3] using h0
  obtain ⟨x0, r0, q0⟩ := (rd_3 (N := n)) n (Nat.le_refl _) _ _ _ h0
  have b0 := bulk_part hy0
  obtain ⟨y1, hy1, h1⟩ := field_of hxl hel (i := 1) rfl
  have h1 : DataW.trod enc Tryz.prog W 0 (fun _ => true) true n 3 [v1] = some (y1.1, y1.2) := by simpa [co_3] using h1
  obtain ⟨x1, r1, q1⟩ := (rd_3 (N := n)) n (Nat.le_refl _) _ _ _ h1
  have b1 := bulk_part hy1
  refine ⟨⟨x0, x1⟩, r0.append (r1), ?_⟩
  trivial
theorem rd_74 : RD enc Tryz.prog W N 74 slotE.enc T0 := fun fuel hf cs d ps h => by
  obtain ⟨xs, n, rfl, hx, hlen, hxl, hel⟩ := DataW.trod_struct Tryz.underlying74 h
  rw [co_74] at hlen
  obtain ⟨v0, v1, v2, rfl⟩ : ∃ v0 v1 v2, cs = [v0, v1, v2] := by match cs, hlen with | [v0, v1, v2], _ => exact ⟨v0, v1, v2, rfl⟩
  obtain ⟨rfl, _⟩ := Prod.mk.inj hx
  obtain ⟨y0, hy0, h0⟩ := field_of hxl hel (i := 0) rfl
  have h0 : DataW.trod enc Tryz.prog W 0 (fun _ => true) true n 9 [v0] = some (y0.1, y0.2) := by simpa [co_9] using h0
  obtain ⟨x0, r0, q0⟩ := (rd_9 (N := n)) n (Nat.le_refl _) _ _ _ h0
  have b0 := bulk_part hy0
  obtain ⟨y1, hy1, h1⟩ := field_of hxl hel (i := 1) rfl
  have h1 : DataW.trod enc Tryz.prog W 0 (fun _ => true) true n 3 [v1] = some (y1.1, y1.2) := by simpa [co_3] using h1
  obtain ⟨x1, r1, q1⟩ := (rd_3 (N := n)) n (Nat.le_refl _) _ _ _ h1
  have b1 := bulk_part hy1
  obtain ⟨y2, hy2, h2⟩ := field_of hxl hel (i := 2) rfl
  have h2 : DataW.trod enc Tryz.prog W 0 (fun _ => true) true n 3 [v2] = some (y2.1, y2.2) := by simpa [co_3] using h2
  obtain ⟨x2, r2, q2⟩ := (rd_3 (N := n)) n (Nat.le_refl _) _ _ _ h2
  have b2 := bulk_part hy2
  refine ⟨⟨x0, x1, x2⟩, r0.append (r1.append (r2)), ?_⟩
  trivial
def roomQ (n : Nat) (x : RoomD) : Prop := x.shut.length ≤ n
def personQ (n : Nat) (x : PersonD) : Prop := x.away.length ≤ n
def lessonQ (n : Nat) (x : LessonD) : Prop := x.who.length ≤ n ∧ x.groups.length ≤ n
theorem rd_76 : RD enc Tryz.prog W N 76 roomE.enc roomQ := fun fuel hf cs d ps h => by
  obtain ⟨xs, n, rfl, hx, hlen, hxl, hel⟩ := DataW.trod_struct Tryz.underlying76 h
  rw [co_76] at hlen
  obtain ⟨v0, v1, v2, v3, rfl⟩ : ∃ v0 v1 v2 v3, cs = [v0, v1, v2, v3] := by match cs, hlen with | [v0, v1, v2, v3], _ => exact ⟨v0, v1, v2, v3, rfl⟩
  obtain ⟨rfl, _⟩ := Prod.mk.inj hx
  obtain ⟨y0, hy0, h0⟩ := field_of hxl hel (i := 0) rfl
  have h0 : DataW.trod enc Tryz.prog W 0 (fun _ => true) true n 9 [v0] = some (y0.1, y0.2) := by simpa [co_9] using h0
  obtain ⟨x0, r0, q0⟩ := (rd_9 (N := n)) n (Nat.le_refl _) _ _ _ h0
  have b0 := bulk_part hy0
  obtain ⟨y1, hy1, h1⟩ := field_of hxl hel (i := 1) rfl
  have h1 : DataW.trod enc Tryz.prog W 0 (fun _ => true) true n 3 [v1] = some (y1.1, y1.2) := by simpa [co_3] using h1
  obtain ⟨x1, r1, q1⟩ := (rd_3 (N := n)) n (Nat.le_refl _) _ _ _ h1
  have b1 := bulk_part hy1
  obtain ⟨y2, hy2, h2⟩ := field_of hxl hel (i := 2) rfl
  have h2 : DataW.trod enc Tryz.prog W 0 (fun _ => true) true n 3 [v2] = some (y2.1, y2.2) := by simpa [co_3] using h2
  obtain ⟨x2, r2, q2⟩ := (rd_3 (N := n)) n (Nat.le_refl _) _ _ _ h2
  have b2 := bulk_part hy2
  obtain ⟨y3, hy3, h3⟩ := field_of hxl hel (i := 3) rfl
  have h3 : DataW.trod enc Tryz.prog W 0 (fun _ => true) true n 30 [v3] = some (y3.1, y3.2) := by simpa [co_30] using h3
  obtain ⟨x3, r3, q3⟩ := (rd_30 (N := n)) n (Nat.le_refl _) _ _ _ h3
  have b3 := bulk_part hy3
  refine ⟨⟨x0, x1, x2, x3⟩, r0.append (r1.append (r2.append (r3))), ?_⟩
  exact Nat.le_trans q3 (by omega)
theorem rd_133 : RD enc Tryz.prog W N 133 personE.enc personQ := fun fuel hf cs d ps h => by
  obtain ⟨xs, n, rfl, hx, hlen, hxl, hel⟩ := DataW.trod_struct Tryz.underlying133 h
  rw [co_133] at hlen
  obtain ⟨v0, v1, rfl⟩ : ∃ v0 v1, cs = [v0, v1] := by match cs, hlen with | [v0, v1], _ => exact ⟨v0, v1, rfl⟩
  obtain ⟨rfl, _⟩ := Prod.mk.inj hx
  obtain ⟨y0, hy0, h0⟩ := field_of hxl hel (i := 0) rfl
  have h0 : DataW.trod enc Tryz.prog W 0 (fun _ => true) true n 9 [v0] = some (y0.1, y0.2) := by simpa [co_9] using h0
  obtain ⟨x0, r0, q0⟩ := (rd_9 (N := n)) n (Nat.le_refl _) _ _ _ h0
  have b0 := bulk_part hy0
  obtain ⟨y1, hy1, h1⟩ := field_of hxl hel (i := 1) rfl
  have h1 : DataW.trod enc Tryz.prog W 0 (fun _ => true) true n 30 [v1] = some (y1.1, y1.2) := by simpa [co_30] using h1
  obtain ⟨x1, r1, q1⟩ := (rd_30 (N := n)) n (Nat.le_refl _) _ _ _ h1
  have b1 := bulk_part hy1
  refine ⟨⟨x0, x1⟩, r0.append (r1), ?_⟩
  exact Nat.le_trans q1 (by omega)
theorem rd_136 : RD enc Tryz.prog W N 136 groupE.enc T0 := fun fuel hf cs d ps h => by
  obtain ⟨xs, n, rfl, hx, hlen, hxl, hel⟩ := DataW.trod_struct Tryz.underlying136 h
  rw [co_136] at hlen
  obtain ⟨v0, v1, rfl⟩ : ∃ v0 v1, cs = [v0, v1] := by match cs, hlen with | [v0, v1], _ => exact ⟨v0, v1, rfl⟩
  obtain ⟨rfl, _⟩ := Prod.mk.inj hx
  obtain ⟨y0, hy0, h0⟩ := field_of hxl hel (i := 0) rfl
  have h0 : DataW.trod enc Tryz.prog W 0 (fun _ => true) true n 9 [v0] = some (y0.1, y0.2) := by simpa [co_9] using h0
  obtain ⟨x0, r0, q0⟩ := (rd_9 (N := n)) n (Nat.le_refl _) _ _ _ h0
  have b0 := bulk_part hy0
  obtain ⟨y1, hy1, h1⟩ := field_of hxl hel (i := 1) rfl
  have h1 : DataW.trod enc Tryz.prog W 0 (fun _ => true) true n 3 [v1] = some (y1.1, y1.2) := by simpa [co_3] using h1
  obtain ⟨x1, r1, q1⟩ := (rd_3 (N := n)) n (Nat.le_refl _) _ _ _ h1
  have b1 := bulk_part hy1
  refine ⟨⟨x0, x1⟩, r0.append (r1), ?_⟩
  trivial
theorem rd_78 : RD enc Tryz.prog W N 78 lessonE.enc lessonQ := fun fuel hf cs d ps h => by
  obtain ⟨xs, n, rfl, hx, hlen, hxl, hel⟩ := DataW.trod_struct Tryz.underlying78 h
  rw [co_78] at hlen
  obtain ⟨v0, v1, v2, rfl⟩ : ∃ v0 v1 v2, cs = [v0, v1, v2] := by match cs, hlen with | [v0, v1, v2], _ => exact ⟨v0, v1, v2, rfl⟩
  obtain ⟨rfl, _⟩ := Prod.mk.inj hx
  obtain ⟨y0, hy0, h0⟩ := field_of hxl hel (i := 0) rfl
  have h0 : DataW.trod enc Tryz.prog W 0 (fun _ => true) true n 9 [v0] = some (y0.1, y0.2) := by simpa [co_9] using h0
  obtain ⟨x0, r0, q0⟩ := (rd_9 (N := n)) n (Nat.le_refl _) _ _ _ h0
  have b0 := bulk_part hy0
  obtain ⟨y1, hy1, h1⟩ := field_of hxl hel (i := 1) rfl
  have h1 : DataW.trod enc Tryz.prog W 0 (fun _ => true) true n 30 [v1] = some (y1.1, y1.2) := by simpa [co_30] using h1
  obtain ⟨x1, r1, q1⟩ := (rd_30 (N := n)) n (Nat.le_refl _) _ _ _ h1
  have b1 := bulk_part hy1
  obtain ⟨y2, hy2, h2⟩ := field_of hxl hel (i := 2) rfl
  have h2 : DataW.trod enc Tryz.prog W 0 (fun _ => true) true n 30 [v2] = some (y2.1, y2.2) := by simpa [co_30] using h2
  obtain ⟨x2, r2, q2⟩ := (rd_30 (N := n)) n (Nat.le_refl _) _ _ _ h2
  have b2 := bulk_part hy2
  refine ⟨⟨x0, x1, x2⟩, r0.append (r1.append (r2)), ?_⟩
  exact ⟨Nat.le_trans q1 (by omega), Nat.le_trans q2 (by omega)⟩
theorem rd_80 : RD enc Tryz.prog W N 80 termE.enc T0 := fun fuel hf cs d ps h => by
  obtain ⟨xs, n, rfl, hx, hlen, hxl, hel⟩ := DataW.trod_struct Tryz.underlying80 h
  rw [co_80] at hlen
  obtain ⟨v0, v1, v2, rfl⟩ : ∃ v0 v1 v2, cs = [v0, v1, v2] := by match cs, hlen with | [v0, v1, v2], _ => exact ⟨v0, v1, v2, rfl⟩
  obtain ⟨rfl, _⟩ := Prod.mk.inj hx
  obtain ⟨y0, hy0, h0⟩ := field_of hxl hel (i := 0) rfl
  have h0 : DataW.trod enc Tryz.prog W 0 (fun _ => true) true n 3 [v0] = some (y0.1, y0.2) := by simpa [co_3] using h0
  obtain ⟨x0, r0, q0⟩ := (rd_3 (N := n)) n (Nat.le_refl _) _ _ _ h0
  have b0 := bulk_part hy0
  obtain ⟨y1, hy1, h1⟩ := field_of hxl hel (i := 1) rfl
  have h1 : DataW.trod enc Tryz.prog W 0 (fun _ => true) true n 9 [v1] = some (y1.1, y1.2) := by simpa [co_9] using h1
  obtain ⟨x1, r1, q1⟩ := (rd_9 (N := n)) n (Nat.le_refl _) _ _ _ h1
  have b1 := bulk_part hy1
  obtain ⟨y2, hy2, h2⟩ := field_of hxl hel (i := 2) rfl
  have h2 : DataW.trod enc Tryz.prog W 0 (fun _ => true) true n 3 [v2] = some (y2.1, y2.2) := by simpa [co_3] using h2
  obtain ⟨x2, r2, q2⟩ := (rd_3 (N := n)) n (Nat.le_refl _) _ _ _ h2
  have b2 := bulk_part hy2
  refine ⟨⟨x0, x1, x2⟩, r0.append (r1.append (r2)), ?_⟩
  trivial
theorem rd_87 : RD enc Tryz.prog W N 87 bindE.enc T0 := fun fuel hf cs d ps h => by
  obtain ⟨xs, n, rfl, hx, hlen, hxl, hel⟩ := DataW.trod_struct Tryz.underlying87 h
  rw [co_87] at hlen
  obtain ⟨v0, v1, rfl⟩ : ∃ v0 v1, cs = [v0, v1] := by match cs, hlen with | [v0, v1], _ => exact ⟨v0, v1, rfl⟩
  obtain ⟨rfl, _⟩ := Prod.mk.inj hx
  obtain ⟨y0, hy0, h0⟩ := field_of hxl hel (i := 0) rfl
  have h0 : DataW.trod enc Tryz.prog W 0 (fun _ => true) true n 9 [v0] = some (y0.1, y0.2) := by simpa [co_9] using h0
  obtain ⟨x0, r0, q0⟩ := (rd_9 (N := n)) n (Nat.le_refl _) _ _ _ h0
  have b0 := bulk_part hy0
  obtain ⟨y1, hy1, h1⟩ := field_of hxl hel (i := 1) rfl
  have h1 : DataW.trod enc Tryz.prog W 0 (fun _ => true) true n 3 [v1] = some (y1.1, y1.2) := by simpa [co_3] using h1
  obtain ⟨x1, r1, q1⟩ := (rd_3 (N := n)) n (Nat.le_refl _) _ _ _ h1
  have b1 := bulk_part hy1
  refine ⟨⟨x0, x1⟩, r0.append (r1), ?_⟩
  trivial
theorem rd_22 : RD enc Tryz.prog W N 22 (fun l : List SlotD => [slotE.sl l]) (fun n l => SQ T0 (n - 1) l) := rd_sl Tryz.underlying22 co_74 fun N => rd_74
theorem rd_23 : RD enc Tryz.prog W N 23 (fun l : List RoomD => [roomE.sl l]) (fun n l => SQ roomQ (n - 1) l) := rd_sl Tryz.underlying23 co_76 fun N => rd_76
theorem rd_24 : RD enc Tryz.prog W N 24 (fun l : List PersonD => [personE.sl l]) (fun n l => SQ personQ (n - 1) l) := rd_sl Tryz.underlying24 co_133 fun N => rd_133
theorem rd_25 : RD enc Tryz.prog W N 25 (fun l : List GroupD => [groupE.sl l]) (fun n l => SQ T0 (n - 1) l) := rd_sl Tryz.underlying25 co_136 fun N => rd_136
theorem rd_26 : RD enc Tryz.prog W N 26 (fun l : List LessonD => [lessonE.sl l]) (fun n l => SQ lessonQ (n - 1) l) := rd_sl Tryz.underlying26 co_78 fun N => rd_78
theorem rd_33 : RD enc Tryz.prog W N 33 (fun l : List PlaceD => [placeE.sl l]) (fun n l => SQ T0 (n - 1) l) := rd_sl Tryz.underlying33 co_48 fun N => rd_48
theorem rd_81 : RD enc Tryz.prog W N 81 (fun l : List TermD => [termE.sl l]) (fun n l => SQ T0 (n - 1) l) := rd_sl Tryz.underlying81 co_80 fun N => rd_80
theorem rd_82 : RD enc Tryz.prog W N 82 (fun l : List BindD => [bindE.sl l]) (fun n l => SQ T0 (n - 1) l) := rd_sl Tryz.underlying82 co_87 fun N => rd_87
theorem roomQ_mono : Mono roomQ := fun a b x h k => Nat.le_trans k h
theorem personQ_mono : Mono personQ := fun a b x h k => Nat.le_trans k h
theorem lessonQ_mono : Mono lessonQ := fun a b x h k => ⟨Nat.le_trans k.1 h, Nat.le_trans k.2 h⟩
structure schoolQ (n : Nat) (s : SchoolD) : Prop where
  slots : s.slots.length ≤ n
  rooms : s.rooms.length ≤ n
  people : s.people.length ≤ n
  groups : s.groups.length ≤ n
  lessons : s.lessons.length ≤ n
  shut : ∀ x ∈ s.rooms, roomQ n x
  away : ∀ x ∈ s.people, personQ n x
  who : ∀ x ∈ s.lessons, lessonQ n x
theorem sq_all {α : Type} {Q : Nat → α → Prop} (hm : Mono Q) {a n : Nat} {l : List α} (h : SQ Q (a - 1) l) (hn : a ≤ n) : ∀ x ∈ l, Q n x := fun x hx => hm _ _ _ (by omega) (h.all hm x hx)
theorem rd_28 : RD enc Tryz.prog W N 28 SchoolD.cells schoolQ := fun fuel hf cs d ps h => by
  obtain ⟨xs, n, rfl, hx, hlen, hxl, hel⟩ := DataW.trod_struct Tryz.underlying28 h
  rw [co_28] at hlen
  obtain ⟨v0, v1, v2, v3, v4, rfl⟩ : ∃ v0 v1 v2 v3 v4, cs = [v0, v1, v2, v3, v4] := by match cs, hlen with | [v0, v1, v2, v3, v4], _ => exact ⟨v0, v1, v2, v3, v4, rfl⟩
  obtain ⟨rfl, _⟩ := Prod.mk.inj hx
  obtain ⟨y0, hy0, h0⟩ := field_of hxl hel (i := 0) rfl
  have h0 : DataW.trod enc Tryz.prog W 0 (fun _ => true) true n 22 [v0] = some (y0.1, y0.2) := by simpa [co_22] using h0
  obtain ⟨x0, r0, q0⟩ := (rd_22 (N := n)) n (Nat.le_refl _) _ _ _ h0
  have b0 := bulk_part hy0
  obtain ⟨y1, hy1, h1⟩ := field_of hxl hel (i := 1) rfl
  have h1 : DataW.trod enc Tryz.prog W 0 (fun _ => true) true n 23 [v1] = some (y1.1, y1.2) := by simpa [co_23] using h1
  obtain ⟨x1, r1, q1⟩ := (rd_23 (N := n)) n (Nat.le_refl _) _ _ _ h1
  have b1 := bulk_part hy1
  obtain ⟨y2, hy2, h2⟩ := field_of hxl hel (i := 2) rfl
  have h2 : DataW.trod enc Tryz.prog W 0 (fun _ => true) true n 24 [v2] = some (y2.1, y2.2) := by simpa [co_24] using h2
  obtain ⟨x2, r2, q2⟩ := (rd_24 (N := n)) n (Nat.le_refl _) _ _ _ h2
  have b2 := bulk_part hy2
  obtain ⟨y3, hy3, h3⟩ := field_of hxl hel (i := 3) rfl
  have h3 : DataW.trod enc Tryz.prog W 0 (fun _ => true) true n 25 [v3] = some (y3.1, y3.2) := by simpa [co_25] using h3
  obtain ⟨x3, r3, q3⟩ := (rd_25 (N := n)) n (Nat.le_refl _) _ _ _ h3
  have b3 := bulk_part hy3
  obtain ⟨y4, hy4, h4⟩ := field_of hxl hel (i := 4) rfl
  have h4 : DataW.trod enc Tryz.prog W 0 (fun _ => true) true n 26 [v4] = some (y4.1, y4.2) := by simpa [co_26] using h4
  obtain ⟨x4, r4, q4⟩ := (rd_26 (N := n)) n (Nat.le_refl _) _ _ _ h4
  have b4 := bulk_part hy4
  refine ⟨⟨x0, x1, x2, x3, x4⟩, r0.append (r1.append (r2.append (r3.append (r4)))), ?_⟩
  have l0 := sq_len q0
  have l1 := sq_len q1
  have l2 := sq_len q2
  have l3 := sq_len q3
  have l4 := sq_len q4
  exact ⟨Nat.le_trans l0 (by omega), Nat.le_trans l1 (by omega), Nat.le_trans l2 (by omega), Nat.le_trans l3 (by omega), Nat.le_trans l4 (by omega), sq_all roomQ_mono q1 (by omega), sq_all personQ_mono q2 (by omega), sq_all lessonQ_mono q4 (by omega)⟩
def formQ (n : Nat) (f : FormD) : Prop := (nodes f).length ≤ n ∧ ∀ g ∈ nodes f, g.subs.length ≤ n ∧ g.terms.length ≤ n ∧ g.binds.length ≤ n
theorem formQ_mono : Mono formQ := fun a b x h k => ⟨Nat.le_trans k.1 h, fun g hg => by obtain ⟨h1, h2, h3⟩ := k.2 g hg; omega⟩
theorem formQ_subs : ∀ {l : List FormD} {n : Nat}, SQ formQ n l → (nodesL l).length ≤ n ∧ ∀ g ∈ nodesL l, g.subs.length ≤ n ∧ g.terms.length ≤ n ∧ g.binds.length ≤ n
  | [], n, _ => ⟨by simp [nodesL], fun g hg => by simp [nodesL] at hg⟩
  | f :: l, n, ⟨a, b, h1, h2, h3, h4⟩ => by
    obtain ⟨k1, k2⟩ := formQ_subs h4
    obtain ⟨k3, k4⟩ := h3
    refine ⟨by rw [nodesL, List.length_append]; omega, fun g hg => ?_⟩
    rw [nodesL, List.mem_append] at hg
    rcases hg with hg | hg
    · obtain ⟨p, q, r⟩ := k4 g hg; omega
    · obtain ⟨p, q, r⟩ := k2 g hg; omega
theorem formE_one (l : List FormD) : [formE.sl l] = [AV.sl l.length false (FormD.cellsL l)] := by rw [FormD.cellsL_eq]; rfl
theorem rd_85 : ∀ {N : Nat}, RD enc Tryz.prog W N 85 FormD.cells formQ
  | 0 => fun fuel hf cs d ps h => by
    have : fuel = 0 := by omega
    subst this
    simp [DataW.trod] at h
  | N + 1 => fun fuel hf cs d ps h => by
    have rd_83 : RD enc Tryz.prog W (N + 1) 83 (fun l : List FormD => [formE.sl l]) (fun n l => SQ formQ (n - 1) l) := RD.slice Tryz.underlying83 co_85 (rd_85 (N := N))
    obtain ⟨xs, n, rfl, hx, hlen, hxl, hel⟩ := DataW.trod_struct Tryz.underlying85 h
    rw [co_85] at hlen
    obtain ⟨v0, v1, v2, v3, v4, v5, rfl⟩ : ∃ v0 v1 v2 v3 v4 v5, cs = [v0, v1, v2, v3, v4, v5] := by match cs, hlen with | [v0, v1, v2, v3, v4, v5], _ => exact ⟨v0, v1, v2, v3, v4, v5, rfl⟩
    obtain ⟨rfl, _⟩ := Prod.mk.inj hx
    obtain ⟨y0, hy0, h0⟩ := field_of hxl hel (i := 0) rfl
    have h0 : DataW.trod enc Tryz.prog W 0 (fun _ => true) true n 3 [v0] = some (y0.1, y0.2) := by simpa [co_3] using h0
    obtain ⟨x0, r0, q0⟩ := (rd_3 (N := n)) n (Nat.le_refl _) _ _ _ h0
    have b0 := bulk_part hy0
    obtain ⟨y1, hy1, h1⟩ := field_of hxl hel (i := 1) rfl
    have h1 : DataW.trod enc Tryz.prog W 0 (fun _ => true) true n 9 [v1] = some (y1.1, y1.2) := by simpa [co_9] using h1
    obtain ⟨x1, r1, q1⟩ := (rd_9 (N := n)) n (Nat.le_refl _) _ _ _ h1
    have b1 := bulk_part hy1
    obtain ⟨y2, hy2, h2⟩ := field_of hxl hel (i := 2) rfl
    have h2 : DataW.trod enc Tryz.prog W 0 (fun _ => true) true n 3 [v2] = some (y2.1, y2.2) := by simpa [co_3] using h2
    obtain ⟨x2, r2, q2⟩ := (rd_3 (N := n)) n (Nat.le_refl _) _ _ _ h2
    have b2 := bulk_part hy2
    obtain ⟨y3, hy3, h3⟩ := field_of hxl hel (i := 3) rfl
    have h3 : DataW.trod enc Tryz.prog W 0 (fun _ => true) true n 81 [v3] = some (y3.1, y3.2) := by simpa [co_81] using h3
    obtain ⟨x3, r3, q3⟩ := (rd_81 (N := n)) n (Nat.le_refl _) _ _ _ h3
    have b3 := bulk_part hy3
    obtain ⟨y4, hy4, h4⟩ := field_of hxl hel (i := 4) rfl
    have h4 : DataW.trod enc Tryz.prog W 0 (fun _ => true) true n 82 [v4] = some (y4.1, y4.2) := by simpa [co_82] using h4
    obtain ⟨x4, r4, q4⟩ := (rd_82 (N := n)) n (Nat.le_refl _) _ _ _ h4
    have b4 := bulk_part hy4
    obtain ⟨y5, hy5, h5⟩ := field_of hxl hel (i := 5) rfl
    have h5 : DataW.trod enc Tryz.prog W 0 (fun _ => true) true n 83 [v5] = some (y5.1, y5.2) := by simpa [co_83] using h5
    obtain ⟨x5, r5, q5⟩ := rd_83 n (by omega) _ _ _ h5
    have r5' := r5
    simp only [formE_one] at r5'
    have b5 := bulk_part hy5
    refine ⟨.mk x0 x1 x2 x3 x4 x5, r0.append (r1.append (r2.append (r3.append (r4.append (r5'))))), ?_⟩
    have l3 := sq_len q3
    have l4 := sq_len q4
    have l5 := sq_len q5
    obtain ⟨k1, k2⟩ := formQ_subs q5
    refine ⟨?_, fun g hg => ?_⟩
    · rw [nodes_eq]
      show (nodesL x5).length + 1 ≤ _
      omega
    · rw [nodes_eq, List.mem_cons] at hg
      rcases hg with rfl | hg
      · show x5.length ≤ _ ∧ x3.length ≤ _ ∧ x4.length ≤ _
        omega
      · obtain ⟨p, q, r⟩ := k2 g hg
        omega
def ruleQ (n : Nat) (r : RuleD) : Prop := 2 ≤ n ∧ r.each.length ≤ n ∧ formQ n r.body
theorem ruleQ_mono : Mono ruleQ := fun a b x h k => ⟨Nat.le_trans k.1 h, Nat.le_trans k.2.1 h, formQ_mono _ _ _ h k.2.2⟩
theorem rd_89 : RD enc Tryz.prog W N 89 ruleE.enc ruleQ := fun fuel hf cs d ps h => by
  obtain ⟨xs, n, rfl, hx, hlen, hxl, hel⟩ := DataW.trod_struct Tryz.underlying89 h
  rw [co_89] at hlen
  obtain ⟨v0, v1, v2, v3, v4, v5, v6, v7, v8, v9, rfl⟩ : ∃ v0 v1 v2 v3 v4 v5 v6 v7 v8 v9, cs = [v0, v1, v2, v3, v4, v5, v6, v7, v8, v9] := by match cs, hlen with | [v0, v1, v2, v3, v4, v5, v6, v7, v8, v9], _ => exact ⟨v0, v1, v2, v3, v4, v5, v6, v7, v8, v9, rfl⟩
  obtain ⟨rfl, _⟩ := Prod.mk.inj hx
  obtain ⟨y0, hy0, h0⟩ := field_of hxl hel (i := 0) rfl
  have h0 : DataW.trod enc Tryz.prog W 0 (fun _ => true) true n 9 [v0] = some (y0.1, y0.2) := by simpa [co_9] using h0
  obtain ⟨x0, r0, q0⟩ := (rd_9 (N := n)) n (Nat.le_refl _) _ _ _ h0
  have b0 := bulk_part hy0
  obtain ⟨y1, hy1, h1⟩ := field_of hxl hel (i := 1) rfl
  have h1 : DataW.trod enc Tryz.prog W 0 (fun _ => true) true n 4 [v1] = some (y1.1, y1.2) := by simpa [co_4] using h1
  obtain ⟨x1, r1, q1⟩ := (rd_4 (N := n)) n (Nat.le_refl _) _ _ _ h1
  have b1 := bulk_part hy1
  obtain ⟨y2, hy2, h2⟩ := field_of hxl hel (i := 2) rfl
  have h2 : DataW.trod enc Tryz.prog W 0 (fun _ => true) true n 3 [v2] = some (y2.1, y2.2) := by simpa [co_3] using h2
  obtain ⟨x2, r2, q2⟩ := (rd_3 (N := n)) n (Nat.le_refl _) _ _ _ h2
  have b2 := bulk_part hy2
  obtain ⟨y3, hy3, h3⟩ := field_of hxl hel (i := 3) rfl
  have h3 : DataW.trod enc Tryz.prog W 0 (fun _ => true) true n 82 [v3] = some (y3.1, y3.2) := by simpa [co_82] using h3
  obtain ⟨x3, r3, q3⟩ := (rd_82 (N := n)) n (Nat.le_refl _) _ _ _ h3
  have b3 := bulk_part hy3
  obtain ⟨y4, hy4, h4⟩ := field_of hxl hel (i := 4) rfl
  have h4 : DataW.trod enc Tryz.prog W 0 (fun _ => true) true n 85 [v4, v5, v6, v7, v8, v9] = some (y4.1, y4.2) := by simpa [co_85] using h4
  obtain ⟨x4, r4, q4⟩ := (rd_85 (N := n)) n (Nat.le_refl _) _ _ _ h4
  have b4 := bulk_part hy4
  refine ⟨⟨x0, x1, x2, x3, x4⟩, r0.append (r1.append (r2.append (r3.append (r4)))), ?_⟩
  have l3 := sq_len q3
  exact ⟨by have := one_le y0.1; omega, Nat.le_trans l3 (by omega), formQ_mono _ _ _ (by omega) q4⟩
theorem rd_29 : RD enc Tryz.prog W N 29 (fun l : List RuleD => [ruleE.sl l]) (fun n l => SQ ruleQ (n - 1) l) := rd_sl Tryz.underlying29 co_89 fun N => rd_89
structure planQ (n : Nat) (c : CaseD) : Prop where
  school : schoolQ n c.school
  len : 2 * c.rules.length ≤ n
  rules : ∀ r ∈ c.rules, ruleQ n r
  closed : c.closed.length ≤ n
theorem schoolQ.mono {a b : Nat} {s : SchoolD} (h : schoolQ a s) (k : a ≤ b) : schoolQ b s :=
  ⟨Nat.le_trans h.slots k, Nat.le_trans h.rooms k, Nat.le_trans h.people k, Nat.le_trans h.groups k, Nat.le_trans h.lessons k, fun x hx => roomQ_mono _ _ _ k (h.shut x hx), fun x hx => personQ_mono _ _ _ k (h.away x hx), fun x hx => lessonQ_mono _ _ _ k (h.who x hx)⟩
theorem rd_32 : RD enc Tryz.prog W N 32 CaseD.cells planQ := fun fuel hf cs d ps h => by
  obtain ⟨xs, n, rfl, hx, hlen, hxl, hel⟩ := DataW.trod_struct Tryz.underlying32 h
  rw [co_32] at hlen
  obtain ⟨v0, v1, v2, v3, v4, v5, v6, rfl⟩ : ∃ v0 v1 v2 v3 v4 v5 v6, cs = [v0, v1, v2, v3, v4, v5, v6] := by match cs, hlen with | [v0, v1, v2, v3, v4, v5, v6], _ => exact ⟨v0, v1, v2, v3, v4, v5, v6, rfl⟩
  obtain ⟨rfl, _⟩ := Prod.mk.inj hx
  obtain ⟨y0, hy0, h0⟩ := field_of hxl hel (i := 0) rfl
  have h0 : DataW.trod enc Tryz.prog W 0 (fun _ => true) true n 28 [v0, v1, v2, v3, v4] = some (y0.1, y0.2) := by simpa [co_28] using h0
  obtain ⟨x0, r0, q0⟩ := (rd_28 (N := n)) n (Nat.le_refl _) _ _ _ h0
  have b0 := bulk_part hy0
  obtain ⟨y1, hy1, h1⟩ := field_of hxl hel (i := 1) rfl
  have h1 : DataW.trod enc Tryz.prog W 0 (fun _ => true) true n 29 [v5] = some (y1.1, y1.2) := by simpa [co_29] using h1
  obtain ⟨x1, r1, q1⟩ := (rd_29 (N := n)) n (Nat.le_refl _) _ _ _ h1
  have b1 := bulk_part hy1
  obtain ⟨y2, hy2, h2⟩ := field_of hxl hel (i := 2) rfl
  have h2 : DataW.trod enc Tryz.prog W 0 (fun _ => true) true n 30 [v6] = some (y2.1, y2.2) := by simpa [co_30] using h2
  obtain ⟨x2, r2, q2⟩ := (rd_30 (N := n)) n (Nat.le_refl _) _ _ _ h2
  have b2 := bulk_part hy2
  refine ⟨⟨x0, x1, x2⟩, r0.append (r1.append (r2)), ?_⟩
  have l1 := SQ.len2 (fun a x (h : ruleQ a x) => h.1) q1
  exact ⟨q0.mono (by omega), Nat.le_trans l1 (by omega), sq_all ruleQ_mono q1 (by omega), Nat.le_trans q2 (by omega)⟩
theorem rd_35 : RD enc Tryz.prog W N 35 (fun l : List PlaceD => [placeE.sl l]) (fun n l => l.length ≤ n) := fun fuel hf cs d ps h => by
  obtain ⟨xs, n, rfl, hx, hlen, hxl, hel⟩ := DataW.trod_struct Tryz.underlying35 h
  rw [co_35] at hlen
  obtain ⟨v0, rfl⟩ : ∃ v0, cs = [v0] := by match cs, hlen with | [v0], _ => exact ⟨v0, rfl⟩
  obtain ⟨rfl, _⟩ := Prod.mk.inj hx
  obtain ⟨y0, hy0, h0⟩ := field_of hxl hel (i := 0) rfl
  have h0 : DataW.trod enc Tryz.prog W 0 (fun _ => true) true n 33 [v0] = some (y0.1, y0.2) := by simpa [co_33] using h0
  obtain ⟨x0, r0, q0⟩ := (rd_33 (N := n)) n (Nat.le_refl _) _ _ _ h0
  have b0 := bulk_part hy0
  refine ⟨x0, r0, ?_⟩
  exact Nat.le_trans (sq_len q0) (by omega)
end
end Go.Zk
namespace Go.Zk
open Go.Proofs Go.WideElems
section
variable {H : Type} {enc : TypeId × Value → H} {P : Program} {W : World}
theorem insert_perm (x : Lit × DataW H) : ∀ (l : List (Lit × DataW H)), (DataW.insert x l).Perm (x :: l)
  | [] => List.Perm.refl _
  | y :: l => by
    unfold DataW.insert
    split
    · exact List.Perm.refl _
    · exact ((insert_perm x l).cons y).trans (List.Perm.swap x y l)
theorem sorted_perm : ∀ (l : List (Lit × DataW H)), (l.foldr DataW.insert []).Perm l
  | [] => List.Perm.refl _
  | x :: l => by
    rw [List.foldr_cons]
    exact (insert_perm x _).trans ((sorted_perm l).cons x)
theorem perm_pull {α β : Type} (f : α → β) {m m' : List β} (h : m.Perm m') : ∀ (l : List α), l.map f = m' → ∃ σ : List α, σ.Perm l ∧ σ.map f = m := by
  induction h with
  | nil => intro l e; exact ⟨[], by simp at e; subst e; exact List.Perm.refl _, rfl⟩
  | cons x h ih =>
    intro l e
    cases l with
    | nil => cases e
    | cons y l =>
      simp only [List.map_cons, List.cons.injEq] at e
      obtain ⟨σ, h1, h2⟩ := ih l e.2
      exact ⟨y :: σ, h1.cons y, by simp [e.1, h2]⟩
  | swap x y t =>
    intro l e
    cases l with
    | nil => cases e
    | cons a l => cases l with
      | nil => cases e
      | cons b l =>
        simp only [List.map_cons, List.cons.injEq] at e
        exact ⟨b :: a :: l, List.Perm.swap a b l, by simp [e.1, e.2.1, e.2.2]⟩
  | trans h1 h2 ih1 ih2 =>
    intro l e
    obtain ⟨σ2, p, q⟩ := ih2 l e
    obtain ⟨σ1, p', q'⟩ := ih1 σ2 q
    exact ⟨σ1, p'.trans p, q'⟩
theorem gmap_of {sp : Nat → Bool} {held : Bool} {fuel : Nat} {t k e : TypeId} {cs : List Value} {L : List (Lit × DataW H)} {ps : List MemPlace} (hu : P.underlying t = some (.map k e))
    (h : DataW.trod enc P W 0 sp held fuel t cs = some (.map L, ps)) (ks vs : List AV) (hk1 : ks.length = L.length) (hv1 : vs.length = L.length) (hnd : ks.Nodup)
    (hk : ∀ (i : Nat) (x : AV) (y : Lit × DataW H), ks[i]? = some x → L[i]? = some y → ∀ key, keyOf P k key = some y.1 → VRel (cW W) x key)
    (hv : ∀ (i : Nat) (x : AV) (y : Lit × DataW H), vs[i]? = some x → L[i]? = some y → ∀ (n : Nat) (v : Value) (q : List MemPlace), v.formed P e = true → DataW.trod enc P W 0 sp held n e v.cells.toList = some (y.2, q) → VRel (cW W) x v) : CR W [.gmap ks vs] cs := by
  rcases WideElems.open_map hu h with ⟨_, hx⟩ | ⟨b, es, clock, n, rfl, rfl, hb, _, F, hx⟩
  · cases hx
  · simp only [Prod.mk.injEq, DataW.map.injEq] at hx
    have hp : L.Perm (es.toList.map (rg P k (elemAt enc P W 0 sp held n e))) := by rw [hx.1]; exact sorted_perm _
    obtain ⟨σ, s1, s2⟩ := perm_pull _ hp _ rfl
    refine CR.one ?_ rfl
    have hlen : σ.length = L.length := by rw [← s2]; simp
    have each : ∀ (i : Nat) (x : MapEntry) (y : Lit × DataW H), σ[i]? = some x → L[i]? = some y → keyOf P k x.key = some y.1 ∧ ∃ n q, x.val.formed P e = true ∧ DataW.trod enc P W 0 sp held n e x.val.cells.toList = some (y.2, q) := by
      intro i x y h1 h2
      have hm : x ∈ es.toList := s1.mem_iff.1 (List.mem_of_getElem? h1)
      obtain ⟨z, hz⟩ := F.reads x hm
      have hy : y = z := by
        rw [← s2, List.getElem?_map, h1] at h2
        simp only [Option.map_some, Option.some.injEq] at h2
        rw [← h2, rg_of hz]
      subst hy
      refine ⟨rd_key hz, ?_⟩
      obtain ⟨r, hr, he⟩ := rd_val hz
      unfold elemAt at hr
      split at hr
      · rename_i hf
        exact ⟨n, r.2, hf, by rw [he]; exact hr⟩
      · cases hr
    rw [VRel]
    refine ⟨b, es, clock, σ, rfl, ⟨(Array.getElem?_eq_some_iff.1 hb).1, fun ds e => by rw [hb] at e; cases e⟩, hb, s1, ?_, ?_, hnd⟩
    · refine VsRel.of_get (by simp [hlen, hk1]) fun i c v h1 h2 => ?_
      rw [List.getElem?_map] at h2
      cases hσ : σ[i]? with
      | none => rw [hσ] at h2; cases h2
      | some x =>
        rw [hσ] at h2
        cases h2
        have hi : i < L.length := by rw [← hlen]; exact (List.getElem?_eq_some_iff.1 hσ).1
        have hL : L[i]? = some L[i] := List.getElem?_eq_getElem hi
        exact hk i c _ h1 hL _ (each i x _ hσ hL).1
    · refine VsRel.of_get (by simp [hlen, hv1]) fun i c v h1 h2 => ?_
      rw [List.getElem?_map] at h2
      cases hσ : σ[i]? with
      | none => rw [hσ] at h2; cases h2
      | some x =>
        rw [hσ] at h2
        cases h2
        have hi : i < L.length := by rw [← hlen]; exact (List.getElem?_eq_some_iff.1 hσ).1
        have hL : L[i]? = some L[i] := List.getElem?_eq_getElem hi
        obtain ⟨_, n, q, f1, f2⟩ := each i x _ hσ hL
        exact hv i c _ h1 hL _ _ _ f1 f2
theorem key_int {k : TypeId} {n : Int} {key : Value} (hu : P.underlying k = some (.int .i64)) (h : keyOf P k key = some (.int .i64 n)) : key = .int .i64 n := by
  unfold keyOf at h
  rw [hu] at h
  unfold mapKey at h
  rw [hu] at h
  cases key <;> simp at h
  obtain ⟨⟨rfl, _⟩, _, rfl⟩ := h
  rfl
theorem key_str {k : TypeId} {s : Str} {key : Value} (hu : P.underlying k = some .string) (h : keyOf P k key = some (.string s)) : key = .string ⟨s.toArray⟩ := by
  unfold keyOf at h
  rw [hu] at h
  unfold mapKey at h
  rw [hu] at h
  cases key <;> simp at h
  obtain ⟨_, rfl⟩ := h
  simp
theorem val_cells {v : Value} {e : TypeId} (hf : v.formed P e = true) (hn : ∀ fs, P.underlying e ≠ some (.struct fs)) (ha : ∀ n t, P.underlying e ≠ some (.array n t)) : v.cells.toList = [v] := by
  cases v with
  | agg cs =>
    simp only [Value.formed] at hf
    cases hf
  | tuple cs => simp [Value.formed] at hf
  | _ => rfl
end
end Go.Zk
