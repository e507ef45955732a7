/- Abstract values and how they stand for the machine's values. Conditions: none; definitions and their first laws. The abstract memory and how it stands to the machine's. Conditions: none; definitions and their first laws. Reading and writing the abstract memory, and what the machine does there. Conditions: none; definitions and laws. Operations that make no call, over abstract values. Conditions: none; definitions and laws. Operations that change nothing in memory, over abstract values. Conditions: none; definitions and laws. -/
import Derived.Below
import Derived.Calls
import Derived.Control
import Derived.Laws.Append
import Derived.Laws.Entries
import Derived.Laws.IdiomCopy
import Derived.Laws.Sem
import Derived.Laws.StructEq
import Derived.RangeFuncRecord
set_option linter.unusedSimpArgs false
set_option linter.unusedVariables false
namespace Go.Zk

/-- An abstract value. -/
inductive AV where
  | any
  | bool (b : Bool)
  | int (k : IntKind) (n : Int)
  | str (s : List UInt8)
  | nilp
  | ptr (id off : Nat)
  | rptr (cells : List AV) (off : Nat)
  | nilsl
  | sl (len : Nat) (tight : Bool) (cells : List AV)
  | msl (id off len esz : Nat) (tight : Bool)
  | nilmap
  | map (id : Nat)
  | rmap (ks vs : List AV)
  | gmap (ks vs : List AV)
  | func (f : FuncId) (first captured : List AV)
  | yield (id : Nat)
  | nilfunc
  | iface (t : TypeId) (v : AV)
  | nilif
  | agg (cs : List AV)
  | tuple (vs : List AV)
  deriving Inhabited

/-- What a reading hangs on: the blocks that stay as they are, the places of the named blocks, the memory. -/
structure Ctx where
  I : Nat → Prop
  al : Nat → Option (Nat × Nat)
  heap : Array Obj

def Ctx.cell? (C : Ctx) (a : Addr) : Option Value :=
  match C.heap[a.block]? with
  | some (.cells c _ _) => if a.spot.isSome then none else c[a.off]?
  | _ => none

/-- The same without any named block. -/
def Ctx.noal (C : Ctx) : Ctx := { C with al := fun _ => none }

/-- Block b has room for n cells. -/
def Ctx.room (C : Ctx) (b n : Nat) : Prop := ∃ c e f, C.heap[b]? = some (.cells c e f) ∧ n ≤ c.size

mutual
/-- The abstract value stands for the value. -/
def VRel (C : Ctx) : AV → Value → Prop
  | .any, _ => True
  | .bool b, v => v = .bool b
  | .int k n, v => v = .int k n
  | .str s, v => v = .string ⟨s.toArray⟩
  | .nilp, v => v = .pointer none
  | .ptr id off, v => ∃ b o, C.al id = some (b, o) ∧ v = .pointer (some ⟨b, o + off, none⟩)
  | .rptr cells off, v => ∃ ad, v = .pointer (some (Addr.add ad off)) ∧ CellsAt C ad 0 cells
  | .nilsl, v => v = .slice none 0 0
  | .sl len tight cells, v => ∃ A cap, v = .slice A len cap ∧ len ≤ cap ∧ (tight = true → cap = len) ∧
      ((A = none ∧ cap = 0 ∧ cells.length = 0) ∨ ∃ ad, A = some ad ∧ CellsAt C ad 0 cells)
  | .msl id off len esz tight, v => ∃ b o ad cap, C.al id = some (b, o) ∧ v = .slice (some ad) len cap ∧ len ≤ cap ∧ (tight = true → cap = len) ∧
      (cap = 0 ∨ ad = ⟨b, o + off, none⟩) ∧ C.room b (o + off + cap * esz)
  | .nilmap, v => v = .map none
  | .map id, v => ∃ b, C.al id = some (b, 0) ∧ v = .map (some b)
  | .rmap ks vs, v => ∃ r es clock, v = .map (some r) ∧ C.I r ∧ C.heap[r]? = some (.map es clock) ∧
      VsRel C.noal ks (es.toList.map (·.key)) ∧ VsRel C.noal vs (es.toList.map (·.val))
  | .gmap ks vs, v => ∃ (r : Nat) (es : Array MapEntry) (clock : Nat) (σ : List MapEntry), v = .map (some r) ∧ C.I r ∧ C.heap[r]? = some (.map es clock) ∧ σ.Perm es.toList ∧
      VsRel C.noal ks (σ.map (·.key)) ∧ VsRel C.noal vs (σ.map (·.val)) ∧ ks.Nodup
  | .func f first captured, v => ∃ a b, v = .func (.func f) a b ∧ VsRel C first a.toList ∧ VsRel C captured b.toList
  | .yield id, v => ∃ b, C.al id = some (b, 0) ∧ v = .func (.yield b) #[] #[]
  | .nilfunc, v => v = .nilFunc
  | .iface t x, v => ∃ u, v = .iface t u ∧ VRel C x u
  | .nilif, v => v = .nilIface
  | .agg cs, v => ∃ vs, v = .agg vs ∧ VsRel C cs vs.toList ∧ ∀ x ∈ vs.toList, x.oneCell' = true
  | .tuple vs, v => ∃ us, v = .tuple us ∧ VsRel C vs us.toList
/-- From cell i behind ad on lie these cells, in blocks that stay. -/
def CellsAt (C : Ctx) (ad : Addr) : Nat → List AV → Prop
  | _, [] => True
  | i, c :: cs => (∃ v, C.I ad.block ∧ C.cell? (ad.add i) = some v ∧ v.oneCell' = true ∧ VRel C.noal c v) ∧ CellsAt C ad (i + 1) cs
def VsRel (C : Ctx) : List AV → List Value → Prop
  | [], [] => True
  | c :: cs, v :: vs => VRel C c v ∧ VsRel C cs vs
  | _, _ => False
end

/-- D knows what C knows. -/
structure Ctx.le (C D : Ctx) : Prop where
  I : ∀ b, C.I b → D.I b
  al : ∀ i p, C.al i = some p → D.al i = some p
  keep : ∀ b, C.I b → D.heap[b]? = C.heap[b]?
  room : ∀ b n, C.room b n → D.room b n

theorem Ctx.le.refl (C : Ctx) : C.le C := ⟨fun _ h => h, fun _ _ h => h, fun _ _ => rfl, fun _ _ h => h⟩
theorem Ctx.le.trans {C D E : Ctx} (h : C.le D) (k : D.le E) : C.le E :=
  ⟨fun b hb => k.I b (h.I b hb), fun i p hp => k.al i p (h.al i p hp), fun b hb => (k.keep b (h.I b hb)).trans (h.keep b hb), fun b n hb => k.room b n (h.room b n hb)⟩

theorem Ctx.le.noal {C D : Ctx} (h : C.le D) : C.noal.le D.noal :=
  ⟨h.I, fun _ _ e => by simp [Ctx.noal] at e, h.keep, h.room⟩
theorem Ctx.noal_le (C : Ctx) : C.noal.le C := ⟨fun _ h => h, fun _ _ e => by simp [Ctx.noal] at e, fun _ _ => rfl, fun _ _ h => h⟩

theorem Ctx.le.cell {C D : Ctx} (h : C.le D) {a : Addr} (hb : C.I a.block) {v : Value} (hv : C.cell? a = some v) : D.cell? a = some v := by
  unfold Ctx.cell? at *
  rw [h.keep _ hb]
  exact hv

theorem Addr.add_block (a : Addr) (n : Nat) : (a.add n).block = a.block := by
  unfold Addr.add
  split <;> rfl

theorem Addr.add_add (a : Addr) (m n : Nat) : (a.add m).add n = a.add (m + n) := by
  unfold Addr.add
  by_cases hm : m = 0
  · subst hm; simp
  · by_cases hn : n = 0
    · subst hn; simp [hm]
    · have : m + n ≠ 0 := by omega
      simp [hm, hn, Nat.add_assoc]

theorem Addr.add_none (b o n : Nat) : (⟨b, o, none⟩ : Addr).add n = ⟨b, o + n, none⟩ := by
  unfold Addr.add
  split
  · rename_i h; subst h; rfl
  · rfl

mutual
theorem VRel.mono {C D : Ctx} (h : C.le D) : ∀ (a : AV) (v : Value), VRel C a v → VRel D a v
  | .any, _, _ => by simp [VRel]
  | .bool b, v, h1 => by simpa [VRel] using h1
  | .int k n, v, h1 => by simpa [VRel] using h1
  | .str s, v, h1 => by simpa [VRel] using h1
  | .nilp, v, h1 => by simpa [VRel] using h1
  | .ptr id off, v, h1 => by
    simp only [VRel] at *
    obtain ⟨b, o, h2, h3⟩ := h1
    exact ⟨b, o, h.al _ _ h2, h3⟩
  | .rptr cells off, v, h1 => by
    simp only [VRel] at *
    obtain ⟨ad, h2, h3⟩ := h1
    exact ⟨ad, h2, CellsAt.mono h _ _ _ h3⟩
  | .nilsl, v, h1 => by simpa [VRel] using h1
  | .sl len tight cells, v, h1 => by
    simp only [VRel] at *
    obtain ⟨A, cap, h2, h3, h4, h5⟩ := h1
    refine ⟨A, cap, h2, h3, h4, ?_⟩
    rcases h5 with h5 | ⟨ad, h5, h6⟩
    · exact .inl h5
    · exact .inr ⟨ad, h5, CellsAt.mono h _ _ _ h6⟩
  | .msl id off len esz tight, v, h1 => by
    simp only [VRel] at *
    obtain ⟨b, o, ad, cap, h2, h3, h4, h5, h6, h7⟩ := h1
    exact ⟨b, o, ad, cap, h.al _ _ h2, h3, h4, h5, h6, h.room _ _ h7⟩
  | .nilmap, v, h1 => by simpa [VRel] using h1
  | .map id, v, h1 => by
    simp only [VRel] at *
    obtain ⟨b, h2, h3⟩ := h1
    exact ⟨b, h.al _ _ h2, h3⟩
  | .rmap ks vs, v, h1 => by
    simp only [VRel] at *
    obtain ⟨r, es, clock, h2, h3, h4, h5, h6⟩ := h1
    exact ⟨r, es, clock, h2, h.I _ h3, (h.keep _ h3).trans h4, VsRel.mono h.noal _ _ h5, VsRel.mono h.noal _ _ h6⟩
  | .gmap ks vs, v, h1 => by
    simp only [VRel] at *
    obtain ⟨r, es, clock, σ, h2, h3, h4, h7, h5, h6, h8⟩ := h1
    exact ⟨r, es, clock, σ, h2, h.I _ h3, (h.keep _ h3).trans h4, h7, VsRel.mono h.noal _ _ h5, VsRel.mono h.noal _ _ h6, h8⟩
  | .func f first captured, v, h1 => by
    simp only [VRel] at *
    obtain ⟨a, b, h2, h3, h4⟩ := h1
    exact ⟨a, b, h2, VsRel.mono h _ _ h3, VsRel.mono h _ _ h4⟩
  | .yield id, v, h1 => by
    simp only [VRel] at *
    obtain ⟨b, h2, h3⟩ := h1
    exact ⟨b, h.al _ _ h2, h3⟩
  | .nilfunc, v, h1 => by simpa [VRel] using h1
  | .iface t x, v, h1 => by
    simp only [VRel] at *
    obtain ⟨u, h2, h3⟩ := h1
    exact ⟨u, h2, VRel.mono h _ _ h3⟩
  | .nilif, v, h1 => by simpa [VRel] using h1
  | .agg cs, v, h1 => by
    simp only [VRel] at *
    obtain ⟨vs, h2, h3, h4⟩ := h1
    exact ⟨vs, h2, VsRel.mono h _ _ h3, h4⟩
  | .tuple vs, v, h1 => by
    simp only [VRel] at *
    obtain ⟨us, h2, h3⟩ := h1
    exact ⟨us, h2, VsRel.mono h _ _ h3⟩
theorem CellsAt.mono {C D : Ctx} (h : C.le D) : ∀ (ad : Addr) (i : Nat) (l : List AV), CellsAt C ad i l → CellsAt D ad i l
  | ad, i, [], _ => by simp [CellsAt]
  | ad, i, c :: cs, h1 => by
    simp only [CellsAt] at *
    obtain ⟨⟨v, h2, h3, h4, h5⟩, h6⟩ := h1
    exact ⟨⟨v, h.I _ h2, h.cell (by rw [Addr.add_block]; exact h2) h3, h4, VRel.mono h.noal _ _ h5⟩, CellsAt.mono h _ _ _ h6⟩
theorem VsRel.mono {C D : Ctx} (h : C.le D) : ∀ (l : List AV) (vs : List Value), VsRel C l vs → VsRel D l vs
  | [], [], _ => by simp [VsRel]
  | c :: cs, v :: vs, h1 => by
    simp only [VsRel] at *
    exact ⟨VRel.mono h _ _ h1.1, VsRel.mono h _ _ h1.2⟩
  | [], v :: vs, h1 => by simp [VsRel] at h1
  | c :: cs, [], h1 => by simp [VsRel] at h1
end

/-! ### Values without a name -/
mutual
def AV.pur : AV → Bool
  | .ptr _ _ | .msl _ _ _ _ _ | .map _ | .yield _ => false
  | .func _ a b => AV.purs a && AV.purs b
  | .iface _ v => AV.pur v
  | .agg cs => AV.purs cs
  | .tuple vs => AV.purs vs
  | _ => true
def AV.purs : List AV → Bool
  | [] => true
  | v :: vs => AV.pur v && AV.purs vs
end

theorem CellsAt.noal_eq (C : Ctx) (ad : Addr) : ∀ (l : List AV) (i : Nat), CellsAt C.noal ad i l = CellsAt C ad i l
  | [], i => by simp only [CellsAt]
  | c :: cs, i => by simp only [CellsAt, CellsAt.noal_eq C ad cs (i + 1)]; rfl

mutual
theorem VRel.pure {C D : Ctx} (h : C.noal.le D) : ∀ (a : AV) (v : Value), a.pur = true → VRel C a v → VRel D a v
  | .any, _, _, _ => by simp [VRel]
  | .bool b, v, _, h1 => by simpa [VRel] using h1
  | .int k n, v, _, h1 => by simpa [VRel] using h1
  | .str s, v, _, h1 => by simpa [VRel] using h1
  | .nilp, v, _, h1 => by simpa [VRel] using h1
  | .ptr _ _, v, hp, _ => by simp [AV.pur] at hp
  | .rptr cells off, v, _, h1 => VRel.mono h _ _ (by simp only [VRel, CellsAt.noal_eq] at *; exact h1)
  | .nilsl, v, _, h1 => by simpa [VRel] using h1
  | .sl len tight cells, v, _, h1 => VRel.mono h _ _ (by simp only [VRel, CellsAt.noal_eq] at *; exact h1)
  | .msl _ _ _ _ _, v, hp, _ => by simp [AV.pur] at hp
  | .nilmap, v, _, h1 => by simpa [VRel] using h1
  | .map _, v, hp, _ => by simp [AV.pur] at hp
  | .rmap ks vs, v, _, h1 => VRel.mono h _ _ (by simp only [VRel] at *; exact h1)
  | .gmap ks vs, v, _, h1 => VRel.mono h _ _ (by simp only [VRel] at *; exact h1)
  | .func f first captured, v, hp, h1 => by
    simp only [AV.pur, Bool.and_eq_true] at hp
    simp only [VRel] at *
    obtain ⟨a, b, h2, h3, h4⟩ := h1
    exact ⟨a, b, h2, VsRel.pure h _ _ hp.1 h3, VsRel.pure h _ _ hp.2 h4⟩
  | .yield _, v, hp, _ => by simp [AV.pur] at hp
  | .nilfunc, v, _, h1 => by simpa [VRel] using h1
  | .iface t x, v, hp, h1 => by
    simp only [AV.pur] at hp
    simp only [VRel] at *
    obtain ⟨u, h2, h3⟩ := h1
    exact ⟨u, h2, VRel.pure h _ _ hp h3⟩
  | .nilif, v, _, h1 => by simpa [VRel] using h1
  | .agg cs, v, hp, h1 => by
    simp only [AV.pur] at hp
    simp only [VRel] at *
    obtain ⟨vs, h2, h3, h4⟩ := h1
    exact ⟨vs, h2, VsRel.pure h _ _ hp h3, h4⟩
  | .tuple vs, v, hp, h1 => by
    simp only [AV.pur] at hp
    simp only [VRel] at *
    obtain ⟨us, h2, h3⟩ := h1
    exact ⟨us, h2, VsRel.pure h _ _ hp h3⟩
theorem VsRel.pure {C D : Ctx} (h : C.noal.le D) : ∀ (l : List AV) (vs : List Value), AV.purs l = true → VsRel C l vs → VsRel D l vs
  | [], [], _, _ => by simp [VsRel]
  | c :: cs, v :: vs, hp, h1 => by
    simp only [AV.purs, Bool.and_eq_true] at hp
    simp only [VsRel] at *
    exact ⟨VRel.pure h _ _ hp.1 h1.1, VsRel.pure h _ _ hp.2 h1.2⟩
  | [], v :: vs, _, h1 => by simp [VsRel] at h1
  | c :: cs, [], _, h1 => by simp [VsRel] at h1
end

/-! ### Lists of values -/
theorem VsRel.length {C : Ctx} : ∀ {l : List AV} {vs : List Value}, VsRel C l vs → vs.length = l.length
  | [], [], _ => rfl
  | c :: cs, v :: vs, h => by simp only [VsRel] at h; simp [VsRel.length h.2]
  | [], v :: vs, h => by simp [VsRel] at h
  | c :: cs, [], h => by simp [VsRel] at h

theorem VsRel.nil {C : Ctx} : VsRel C [] [] := by simp [VsRel]
theorem VsRel.cons {C : Ctx} {c : AV} {v : Value} {l : List AV} {vs : List Value} (h : VRel C c v) (k : VsRel C l vs) : VsRel C (c :: l) (v :: vs) := by
  simp only [VsRel]; exact ⟨h, k⟩

theorem VsRel.get {C : Ctx} : ∀ {l : List AV} {vs : List Value}, VsRel C l vs → ∀ (i : Nat) (c : AV), l[i]? = some c → ∃ v, vs[i]? = some v ∧ VRel C c v
  | [], [], _, i, c, hi => by simp at hi
  | a :: l, v :: vs, h, i, c, hi => by
    simp only [VsRel] at h
    cases i with
    | zero => simp at hi; subst hi; exact ⟨v, by simp, h.1⟩
    | succ i => simp at hi; obtain ⟨u, h1, h2⟩ := VsRel.get h.2 i c hi; exact ⟨u, by simpa using h1, h2⟩
  | [], v :: vs, h, _, _, _ => by simp [VsRel] at h
  | c :: cs, [], h, _, _, _ => by simp [VsRel] at h

theorem VsRel.get' {C : Ctx} : ∀ {l : List AV} {vs : List Value}, VsRel C l vs → ∀ (i : Nat) (v : Value), vs[i]? = some v → ∃ c, l[i]? = some c ∧ VRel C c v
  | [], [], _, i, c, hi => by simp at hi
  | a :: l, v :: vs, h, i, c, hi => by
    simp only [VsRel] at h
    cases i with
    | zero => simp at hi; subst hi; exact ⟨a, by simp, h.1⟩
    | succ i => simp at hi; obtain ⟨u, h1, h2⟩ := VsRel.get' h.2 i c hi; exact ⟨u, by simpa using h1, h2⟩
  | [], v :: vs, h, _, _, _ => by simp [VsRel] at h
  | c :: cs, [], h, _, _, _ => by simp [VsRel] at h

theorem VsRel.append {C : Ctx} : ∀ {l m : List AV} {vs us : List Value}, VsRel C l vs → VsRel C m us → VsRel C (l ++ m) (vs ++ us)
  | [], m, [], us, _, h => by simpa using h
  | a :: l, m, v :: vs, us, h, k => by simp only [VsRel] at h; simp only [List.cons_append]; exact VsRel.cons h.1 (VsRel.append h.2 k)
  | [], _, v :: vs, _, h, _ => by simp [VsRel] at h
  | c :: cs, _, [], _, h, _ => by simp [VsRel] at h

theorem VsRel.take {C : Ctx} : ∀ {l : List AV} {vs : List Value} (n : Nat), VsRel C l vs → VsRel C (l.take n) (vs.take n)
  | _, _, 0, _ => by simp [VsRel]
  | [], [], n + 1, _ => by simp [VsRel]
  | a :: l, v :: vs, n + 1, h => by simp only [VsRel] at h; simp only [List.take_succ_cons]; exact VsRel.cons h.1 (VsRel.take n h.2)
  | [], v :: vs, _ + 1, h => by simp [VsRel] at h
  | c :: cs, [], _ + 1, h => by simp [VsRel] at h

theorem VsRel.drop {C : Ctx} : ∀ {l : List AV} {vs : List Value} (n : Nat), VsRel C l vs → VsRel C (l.drop n) (vs.drop n)
  | l, vs, 0, h => by simpa using h
  | [], [], n + 1, _ => by simp [VsRel]
  | a :: l, v :: vs, n + 1, h => by simp only [VsRel] at h; simp only [List.drop_succ_cons]; exact VsRel.drop n h.2
  | [], v :: vs, _ + 1, h => by simp [VsRel] at h
  | c :: cs, [], _ + 1, h => by simp [VsRel] at h

theorem VsRel.set {C : Ctx} : ∀ {l : List AV} {vs : List Value} (n : Nat) {c : AV} {v : Value}, VsRel C l vs → VRel C c v → VsRel C (l.set n c) (vs.set n v)
  | [], [], n, _, _, _, _ => by simp [VsRel]
  | a :: l, v :: vs, 0, _, _, h, k => by simp only [VsRel] at h; simp only [List.set_cons_zero]; exact VsRel.cons k h.2
  | a :: l, v :: vs, n + 1, _, _, h, k => by simp only [VsRel] at h; simp only [List.set_cons_succ]; exact VsRel.cons h.1 (VsRel.set n h.2 k)
  | [], v :: vs, _, _, _, h, _ => by simp [VsRel] at h
  | c :: cs, [], _, _, _, h, _ => by simp [VsRel] at h

theorem VsRel.of_get {C : Ctx} : ∀ {l : List AV} {vs : List Value}, vs.length = l.length → (∀ (i : Nat) (c : AV) (v : Value), l[i]? = some c → vs[i]? = some v → VRel C c v) → VsRel C l vs
  | [], [], _, _ => VsRel.nil
  | a :: l, v :: vs, h, k => VsRel.cons (k 0 a v (by simp) (by simp)) (VsRel.of_get (by simpa using h) fun i c u h1 h2 => k (i + 1) c u (by simpa using h1) (by simpa using h2))
  | [], v :: vs, h, _ => by simp at h
  | c :: cs, [], h, _ => by simp at h

/-! ### Cells in memory that stays -/
theorem CellsAt.get {C : Ctx} {ad : Addr} : ∀ {l : List AV} {i : Nat}, CellsAt C ad i l → ∀ (j : Nat) (c : AV), l[j]? = some c →
    ∃ v, C.I ad.block ∧ C.cell? (ad.add (i + j)) = some v ∧ v.oneCell' = true ∧ VRel C.noal c v
  | [], i, _, j, c, hj => by simp at hj
  | a :: l, i, h, j, c, hj => by
    simp only [CellsAt] at h
    cases j with
    | zero => simp at hj; subst hj; simpa using h.1
    | succ j =>
      simp at hj
      obtain ⟨v, h1, h2, h3⟩ := CellsAt.get h.2 j c hj
      exact ⟨v, h1, by rw [show i + (j + 1) = i + 1 + j from by omega]; exact h2, h3⟩

theorem CellsAt.of_get {C : Ctx} {ad : Addr} : ∀ {l : List AV} {i : Nat}, (∀ (j : Nat) (c : AV), l[j]? = some c →
    ∃ v, C.I ad.block ∧ C.cell? (ad.add (i + j)) = some v ∧ v.oneCell' = true ∧ VRel C.noal c v) → CellsAt C ad i l
  | [], i, _ => by simp [CellsAt]
  | a :: l, i, h => by
    simp only [CellsAt]
    refine ⟨by simpa using h 0 a (by simp), CellsAt.of_get fun j c hj => ?_⟩
    obtain ⟨v, h1, h2, h3⟩ := h (j + 1) c (by simpa using hj)
    exact ⟨v, h1, by rw [show i + 1 + j = i + (j + 1) from by omega]; exact h2, h3⟩

theorem CellsAt.drop {C : Ctx} {ad : Addr} {l : List AV} (h : CellsAt C ad 0 l) (n : Nat) : CellsAt C (ad.add n) 0 (l.drop n) := by
  refine CellsAt.of_get fun j c hj => ?_
  rw [List.getElem?_drop] at hj
  obtain ⟨v, h1, h2, h3⟩ := h.get (n + j) c hj
  refine ⟨v, by rw [Addr.add_block]; exact h1, ?_, h3⟩
  rw [Addr.add_add]
  simpa using h2

theorem CellsAt.take {C : Ctx} {ad : Addr} {l : List AV} {i : Nat} (h : CellsAt C ad i l) (n : Nat) : CellsAt C ad i (l.take n) := by
  refine CellsAt.of_get fun j c hj => ?_
  rw [List.getElem?_take] at hj
  split at hj
  · exact h.get j c hj
  · simp at hj

end Go.Zk
namespace Go.Zk

structure Env where
  P : Program
  G : Nat → Option (List AV)

abbrev AFr := Nat → AV
def upd {α : Type} (f : Nat → α) (i : Nat) (v : α) : Nat → α := fun j => if j = i then v else f j
theorem upd_same {α : Type} (f : Nat → α) (i : Nat) (v : α) : upd f i v i = v := by simp [upd]
theorem upd_ne {α : Type} (f : Nat → α) {i j : Nat} (v : α) (h : j ≠ i) : upd f i v j = f j := by simp [upd, h]

structure ALoop where
  n : Nat
  fr : AFr
  params : Array Tmp
  assign : Code
  body : Code
  state : LoopState
  pending : Option Code

inductive ABlk where
  | dead
  | row (cells : List AV)
  | map (ks vs : List AV)
  | sit (s : List UInt8) (pos : Nat)
  | loop (l : ALoop)

structure AHeap where
  next : Nat
  get : Nat → ABlk
def AHeap.nil : AHeap := ⟨0, fun _ => .dead⟩
def AHeap.alloc (H : AHeap) (b : ABlk) : AHeap := ⟨H.next + 1, upd H.get H.next b⟩
def AHeap.set (H : AHeap) (i : Nat) (b : ABlk) : AHeap := ⟨H.next, upd H.get i b⟩

def FrRel (C : Ctx) (fr : AFr) (tmps : Array Value) : Prop := ∀ i, VRel C (fr i) (tmps.getD i undef)
theorem FrRel.mono {C D : Ctx} (h : C.le D) {fr : AFr} {tmps : Array Value} (k : FrRel C fr tmps) : FrRel D fr tmps := fun i => VRel.mono h _ _ (k i)

/-- No cell of the block is frozen. -/
def Thawed (c : Array Value) (f : Nat × Nat) : Prop := ∀ i, i < c.size → ¬ (f.1 ≤ i ∧ i < f.2)

def BRel (C : Ctx) (b o : Nat) : ABlk → Prop
  | .dead => True
  | .row cells => ∃ c e f, C.heap[b]? = some (.cells c e f) ∧ Thawed c f ∧ o + cells.length ≤ c.size ∧
      ∀ i x, cells[i]? = some x → ∃ v, c[o + i]? = some v ∧ v.oneCell' = true ∧ VRel C x v
  | .map ks vs => o = 0 ∧ ∃ es clock, C.heap[b]? = some (.map es clock) ∧ VsRel C ks (es.toList.map (·.key)) ∧ VsRel C vs (es.toList.map (·.val))
  | .sit s pos => o = 0 ∧ C.heap[b]? = some (.stringIter ⟨s.toArray⟩ pos)
  | .loop l => o = 0 ∧ ∃ r, C.heap[b]? = some (.loop r) ∧ r.state = l.state ∧ r.pending = l.pending ∧ r.params = l.params ∧ r.assign = l.assign ∧ r.body = l.body ∧
      r.tmps.size = l.n ∧ FrRel C l.fr r.tmps

theorem BRel.mono {C D : Ctx} {b o : Nat} (h : C.le D) (hb : D.heap[b]? = C.heap[b]?) : ∀ {ab : ABlk}, BRel C b o ab → BRel D b o ab
  | .dead, _ => trivial
  | .row cells, ⟨c, e, f, h1, h2, h3, h4⟩ => ⟨c, e, f, hb.trans h1, h2, h3, fun i x hx => by
      obtain ⟨v, k1, k2, k3⟩ := h4 i x hx
      exact ⟨v, k1, k2, VRel.mono h _ _ k3⟩⟩
  | .map ks vs, ⟨h0, es, clock, h1, h2, h3⟩ => ⟨h0, es, clock, hb.trans h1, VsRel.mono h _ _ h2, VsRel.mono h _ _ h3⟩
  | .sit s pos, ⟨h0, h1⟩ => ⟨h0, hb.trans h1⟩
  | .loop l, ⟨h0, r, h1, h2, h3, h4, h5, h6, h7, h8⟩ => ⟨h0, r, hb.trans h1, h2, h3, h4, h5, h6, h7, h8.mono h⟩

structure HSim (E : Env) (B : Nat) (C : Ctx) (H : AHeap) (w : World) : Prop where
  heap : C.heap = w.heap
  base : B ≤ w.heap.size
  lt : ∀ b, C.I b → b < w.heap.size
  fresh : ∀ i, H.next ≤ i → C.al i = none
  dead : ∀ i, H.next ≤ i → H.get i = .dead
  blk : ∀ i, i < H.next → H.get i ≠ .dead → ∃ b o, C.al i = some (b, o) ∧ B ≤ b ∧ b < w.heap.size ∧ ¬ C.I b ∧ BRel C b o (H.get i)
  inj : ∀ i j b o p, i < H.next → j < H.next → H.get i ≠ .dead → H.get j ≠ .dead → C.al i = some (b, o) → C.al j = some (b, p) → i = j
  glob : ∀ g cells, E.G g = some cells → CellsAt C ⟨g, 0, none⟩ 0 cells
  nd : ∀ (b : Nat) ds, C.I b → C.heap[b]? ≠ some (.deferred ds)

/-- What a piece of a call does to the world, beside its named blocks. -/
structure Ev (B : Nat) (w w' : World) : Prop where
  below : Go.RowKit.Below B w w'
  dfr : ∀ (k : Nat) ds, w.heap[k]? = some (.deferred ds) → w'.heap[k]? = some (.deferred ds)
  lp : ∀ (k : Nat) r, w.heap[k]? = some (.loop r) → ∃ r', w'.heap[k]? = some (.loop r')

theorem Ev.refl (B : Nat) (w : World) : Ev B w w := ⟨.refl _ _, fun _ _ h => h, fun _ r h => ⟨r, h⟩⟩
theorem Ev.trans {B : Nat} {a b c : World} (h : Ev B a b) (k : Ev B b c) : Ev B a c :=
  ⟨h.below.trans k.below, fun i ds e => k.dfr i ds (h.dfr i ds e), fun i r e => by obtain ⟨r', e'⟩ := h.lp i r e; exact k.lp i r' e'⟩
theorem Ev.mono {B B' : Nat} {a b : World} (h : Ev B a b) (hB : B' ≤ B) : Ev B' a b := ⟨h.below.mono hB, h.dfr, h.lp⟩

structure Nxt (E : Env) (B : Nat) (C C' : Ctx) (H' : AHeap) (w w' : World) : Prop where
  le : C.le C'
  ev : Ev B w w'
  I : ∀ b, C'.I b → C.I b ∨ B ≤ b
  hs : HSim E B C' H' w'

theorem Nxt.refl {E : Env} {B : Nat} {C : Ctx} {H : AHeap} {w : World} (h : HSim E B C H w) : Nxt E B C C H w w := ⟨.refl _, .refl _ _, fun _ h => .inl h, h⟩
theorem Nxt.trans {E : Env} {B : Nat} {C C1 C2 : Ctx} {H1 H2 : AHeap} {w w1 w2 : World} (h : Nxt E B C C1 H1 w w1) (k : Nxt E B C1 C2 H2 w1 w2) : Nxt E B C C2 H2 w w2 :=
  ⟨h.le.trans k.le, h.ev.trans k.ev, fun b hb => (k.I b hb).elim (h.I b) .inr, k.hs⟩

section
variable {E : Env} {B : Nat} {C : Ctx} {H : AHeap} {w : World}

theorem Ev.drew (B : Nat) (w : World) : Ev B w w.drew := ⟨(Go.RowKit.Below.refl B w).drew, fun _ _ h => h, fun _ r h => ⟨r, h⟩⟩
theorem Ev.alloc {B : Nat} {w : World} (hB : B ≤ w.heap.size) (o : Obj) : Ev B w (w.alloc o) :=
  ⟨(Go.RowKit.Below.refl B w).alloc hB o, fun k ds h => by rw [Go.RowKit.Below.heap_alloc _ _ _ (Array.getElem?_eq_some_iff.1 h).1]; exact h,
    fun k r h => ⟨r, by rw [Go.RowKit.Below.heap_alloc _ _ _ (Array.getElem?_eq_some_iff.1 h).1]; exact h⟩⟩

theorem HSim.drew (h : HSim E B C H w) : HSim E B C H w.drew := ⟨h.heap, h.base, h.lt, h.fresh, h.dead, h.blk, h.inj, h.glob, h.nd⟩
theorem HSim.nxt_drew (h : HSim E B C H w) : Nxt E B C C H w w.drew := ⟨.refl _, .drew _ _, fun _ h => .inl h, h.drew⟩

/-- The place of a block in memory, once more. -/
theorem HSim.heap_lt (h : HSim E B C H w) {b : Nat} {o : Obj} (hb : C.heap[b]? = some o) : b < w.heap.size := by
  rw [h.heap] at hb
  exact (Array.getElem?_eq_some_iff.1 hb).1

/-- A context in which one new block lies. -/
def Ctx.push (C : Ctx) (o : Obj) : Ctx := { C with heap := C.heap.push o }
def Ctx.name (C : Ctx) (i : Nat) (p : Nat × Nat) : Ctx := { C with al := upd C.al i (some p) }

theorem Ctx.push_get {C : Ctx} {o : Obj} {b : Nat} (h : b < C.heap.size) : (C.push o).heap[b]? = C.heap[b]? := by
  show (C.heap.push o)[b]? = _
  rw [Array.getElem?_push, if_neg (by omega)]
theorem Ctx.push_new {C : Ctx} {o : Obj} : (C.push o).heap[C.heap.size]? = some o := by
  show (C.heap.push o)[C.heap.size]? = _
  simp
theorem Ctx.le_push {C : Ctx} {o : Obj} (hI : ∀ b, C.I b → b < C.heap.size) : C.le (C.push o) :=
  ⟨fun _ h => h, fun _ _ h => h, fun b hb => Ctx.push_get (hI b hb), fun b n ⟨c, e, f, h1, h2⟩ => ⟨c, e, f, by rw [Ctx.push_get (Array.getElem?_eq_some_iff.1 h1).1]; exact h1, h2⟩⟩
theorem Ctx.le_name {C : Ctx} {i : Nat} {p : Nat × Nat} (h : C.al i = none) : C.le (C.name i p) :=
  ⟨fun _ h => h, fun j q hj => by
    show upd C.al i (some p) j = some q
    by_cases e : j = i
    · subst e; rw [h] at hj; cases hj
    · rw [upd_ne _ _ e]; exact hj, fun _ _ => rfl, fun _ _ h => h⟩

/-- A block of no name comes to lie. -/
theorem HSim.hide (h : HSim E B C H w) (o : Obj) : Nxt E B C (C.push o) H w (w.alloc o) := by
  have hle : C.le (C.push o) := Ctx.le_push (by rw [h.heap]; exact h.lt)
  refine ⟨hle, .alloc h.base o, fun _ h => .inl h, ?_⟩
  refine ⟨by show C.heap.push o = w.heap.push o; rw [h.heap], by have := h.base; simp; omega, fun b hb => by have := h.lt b hb; simp; omega, h.fresh, h.dead, fun i hi hd => ?_, h.inj, fun g cells hg => (h.glob g cells hg).mono hle _ _ _, fun b ds hb e => h.nd b ds hb ((Ctx.push_get (o := o) (by rw [h.heap]; exact h.lt b hb)).symm.trans e)⟩
  obtain ⟨b, p, h1, h2, h3, h4, h5⟩ := h.blk i hi hd
  exact ⟨b, p, h1, h2, by simp; omega, h4, h5.mono hle (Ctx.push_get (by rw [h.heap]; exact h3))⟩

/-- A named block comes to lie. -/
theorem HSim.alloc (h : HSim E B C H w) (o : Obj) (ab : ABlk) (hb : BRel ((C.push o).name H.next (w.heap.size, 0)) w.heap.size 0 ab) :
    Nxt E B C ((C.push o).name H.next (w.heap.size, 0)) (H.alloc ab) w (w.alloc o) := by
  have hle0 : C.le (C.push o) := Ctx.le_push (by rw [h.heap]; exact h.lt)
  have hle1 : (C.push o).le ((C.push o).name H.next (w.heap.size, 0)) := Ctx.le_name (h.fresh H.next (Nat.le_refl _))
  have hle := hle0.trans hle1
  have hal : ∀ i, i < H.next → ((C.push o).name H.next (w.heap.size, 0)).al i = C.al i := fun i hi => upd_ne _ _ (by omega)
  refine ⟨hle, .alloc h.base o, fun _ h => .inl h, ?_⟩
  refine ⟨by show C.heap.push o = w.heap.push o; rw [h.heap], by have := h.base; simp; omega, fun b hb => by have := h.lt b hb; simp; omega, fun i hi => ?_, fun i hi => ?_, fun i hi hd => ?_, fun i j b p q hi hj hdi hdj ei ej => ?_, fun g cells hg => (h.glob g cells hg).mono hle _ _ _, fun b ds hb e => h.nd b ds hb ((Ctx.push_get (o := o) (by rw [h.heap]; exact h.lt b hb)).symm.trans e)⟩
  · have hi' : H.next + 1 ≤ i := hi
    show upd C.al H.next _ i = none
    rw [upd_ne _ _ (by omega)]
    exact h.fresh i (by omega)
  · have hi' : H.next + 1 ≤ i := hi
    exact (upd_ne _ _ (by omega)).trans (h.dead i (by omega))
  · have hi' : i < H.next + 1 := hi
    by_cases e : i = H.next
    · subst e
      refine ⟨w.heap.size, 0, by show upd C.al H.next _ H.next = _; rw [upd_same], h.base, by simp, fun hI => ?_, ?_⟩
      · have := h.lt _ hI; omega
      · show BRel _ _ _ (upd H.get H.next ab H.next)
        rw [upd_same]; exact hb
    · have hi2 : i < H.next := by omega
      have hg : (H.alloc ab).get i = H.get i := upd_ne _ _ e
      rw [hg] at hd ⊢
      obtain ⟨b, p, h1, h2, h3, h4, h5⟩ := h.blk i hi2 hd
      exact ⟨b, p, (hal i hi2).trans h1, h2, by simp; omega, h4, h5.mono hle (Ctx.push_get (by rw [h.heap]; exact h3))⟩
  · have key : ∀ k b p, k < H.next + 1 → (H.alloc ab).get k ≠ .dead → ((C.push o).name H.next (w.heap.size, 0)).al k = some (b, p) → (k = H.next ∧ b = w.heap.size) ∨ (k < H.next ∧ H.get k ≠ .dead ∧ C.al k = some (b, p) ∧ b < w.heap.size) := by
      intro k b p hk hd e
      by_cases ek : k = H.next
      · subst ek
        refine .inl ⟨rfl, ?_⟩
        have : upd C.al H.next (some (w.heap.size, 0)) H.next = some (b, p) := e
        rw [upd_same] at this
        cases this; rfl
      · have hk2 : k < H.next := by omega
        have hg : (H.alloc ab).get k = H.get k := upd_ne _ _ ek
        rw [hg] at hd
        rw [hal k hk2] at e
        obtain ⟨b', p', h1, h2, h3, h4, h5⟩ := h.blk k hk2 hd
        rw [h1] at e; cases e
        exact .inr ⟨hk2, hd, h1, h3⟩
    rcases key i b p hi hdi ei with ⟨e1, e2⟩ | ⟨e1, e2, e3, e4⟩ <;> rcases key j b q hj hdj ej with ⟨f1, f2⟩ | ⟨f1, f2, f3, f4⟩
    · omega
    · omega
    · omega
    · exact h.inj i j b p q e1 f1 e2 f2 e3 f3

/-- A block changes that has a name: whatever it was, it now is what the new abstract block says. -/
theorem HSim.turn (h : HSim E B C H w) {i b o : Nat} (hi : i < H.next) (hd : H.get i ≠ .dead) (ha : C.al i = some (b, o)) {w' : World} {ab : ABlk}
    (hw : ∀ k, k ≠ b → w'.heap[k]? = w.heap[k]?) (hz : w'.heap.size = w.heap.size) (hos : w'.os = w.os) (ht : w'.tape = w.tape) (hout : w'.output = w.output)
    (hroom : ∀ n, C.room b n → ({ C with heap := w'.heap } : Ctx).room b n)
    (hdf : ∀ ds, w.heap[b]? ≠ some (.deferred ds)) (hlp : ∀ r, w.heap[b]? = some (.loop r) → ∃ r', w'.heap[b]? = some (.loop r'))
    (hb : C.le { C with heap := w'.heap } → ab ≠ .dead → BRel { C with heap := w'.heap } b o ab) :
    Nxt E B C { C with heap := w'.heap } (H.set i ab) w w' := by
  obtain ⟨b', o', h1, h2, h3, h4, h5⟩ := h.blk i hi hd
  rw [h1] at ha; cases ha
  have hle : C.le { C with heap := w'.heap } := by
    refine ⟨fun _ h => h, fun _ _ h => h, fun k hk => ?_, fun k n hr => ?_⟩
    · rw [h.heap]; exact hw k (fun e => h4 (e ▸ hk))
    · by_cases e : k = b
      · subst e; exact hroom n hr
      · obtain ⟨c, x, f, k1, k2⟩ := hr
        exact ⟨c, x, f, by rw [h.heap] at k1; exact (hw k e).trans k1, k2⟩
  refine ⟨hle, ⟨⟨hos, ht, hout, by omega, fun k hk => hw k (by omega)⟩, fun k ds hk => ?_, fun k r hk => ?_⟩, fun _ h => .inl h, ?_⟩
  · by_cases e : k = b
    · subst e; exact absurd hk (hdf ds)
    · exact (hw k e).trans hk
  · by_cases e : k = b
    · subst e; exact hlp r hk
    · exact ⟨r, (hw k e).trans hk⟩
  · refine ⟨rfl, by have := h.base; omega, fun k hk => by have := h.lt k hk; omega, h.fresh, fun j hj => (upd_ne _ _ (by have hj' : H.next ≤ j := hj; omega)).trans (h.dead j hj), fun j hj hdj => ?_, fun j k b p q hj hk hdj hdk ej ek => ?_, fun g cells hg => (h.glob g cells hg).mono hle _ _ _, fun x ds hx e => h.nd x ds hx (by rw [h.heap, ← hw x (fun e2 => h4 (e2 ▸ hx))]; exact e)⟩
    · by_cases e : j = i
      · subst e
        have hg : (H.set j ab).get j = ab := upd_same _ _ _
        rw [hg] at hdj ⊢
        exact ⟨b, o, h1, h2, by omega, h4, hb hle hdj⟩
      · have hg : (H.set i ab).get j = H.get j := upd_ne _ _ e
        rw [hg] at hdj ⊢
        obtain ⟨bj, oj, k1, k2, k3, k4, k5⟩ := h.blk j hj hdj
        refine ⟨bj, oj, k1, k2, by omega, k4, k5.mono hle ?_⟩
        show w'.heap[bj]? = _
        rw [hw bj (fun e2 => e (h.inj j i b oj o hj hi hdj hd (e2 ▸ k1) h1)), h.heap]
    · have hh : ∀ k, k < H.next → (H.set i ab).get k ≠ .dead → H.get k ≠ .dead := fun k hk hdk => by
        by_cases e : k = i
        · subst e; exact hd
        · have hg : (H.set i ab).get k = H.get k := upd_ne _ _ e
          rw [hg] at hdk; exact hdk
      exact h.inj j k b p q hj hk (hh j hj hdj) (hh k hk hdk) ej ek

/-- A name is struck. -/
theorem HSim.kill (h : HSim E B C H w) (i : Nat) : HSim E B C (H.set i .dead) w := by
  have hh : ∀ k, (H.set i .dead).get k ≠ .dead → k ≠ i ∧ H.get k ≠ .dead := fun k hdk => by
    by_cases e : k = i
    · subst e; exact absurd (upd_same _ _ _) hdk
    · have hg : (H.set i .dead).get k = H.get k := upd_ne _ _ e
      rw [hg] at hdk; exact ⟨e, hdk⟩
  refine ⟨h.heap, h.base, h.lt, h.fresh, fun j hj => ?_, fun j hj hdj => ?_, fun j k b p q hj hk hdj hdk ej ek => h.inj j k b p q hj hk (hh j hdj).2 (hh k hdk).2 ej ek, h.glob, h.nd⟩
  · by_cases e : j = i
    · subst e; exact upd_same _ _ _
    · exact (upd_ne _ _ e).trans (h.dead j hj)
  obtain ⟨e, hd⟩ := hh j hdj
  have hg : (H.set i .dead).get j = H.get j := upd_ne _ _ e
  rw [hg]
  exact h.blk j hj hd

/-- A named row becomes memory that stays. -/
theorem HSim.freeze (h : HSim E B C H w) {i b o : Nat} {cells : List AV} (hi : i < H.next) (hr : H.get i = .row cells) (ha : C.al i = some (b, o)) (hp : AV.purs cells = true) :
    Nxt E B C { C with I := fun x => C.I x ∨ x = b } (H.set i .dead) w w ∧ CellsAt { C with I := fun x => C.I x ∨ x = b } ⟨b, o, none⟩ 0 cells := by
  have hd : H.get i ≠ .dead := by rw [hr]; exact fun e => by cases e
  obtain ⟨b', o', h1, h2, h3, h4, h5⟩ := h.blk i hi hd
  rw [h1] at ha; cases ha
  have hle : C.le { C with I := fun x => C.I x ∨ x = b } := ⟨fun _ h => .inl h, fun _ _ h => h, fun _ _ => rfl, fun _ _ h => h⟩
  have hk := h.kill i
  have hnb : ∀ j, j < H.next → (H.set i .dead).get j ≠ .dead → ∀ p, C.al j ≠ some (b, p) := fun j hj hdj p e => by
    have e1 : j ≠ i := fun e1 => hdj (by subst e1; exact upd_same _ _ _)
    have hg : (H.set i .dead).get j = H.get j := upd_ne _ _ e1
    rw [hg] at hdj
    exact e1 (h.inj j i b p o hj hi hdj hd e h1)
  refine ⟨⟨hle, .refl _ _, fun x hx => hx.imp id (fun e => by omega), ?_⟩, ?_⟩
  · refine ⟨hk.heap, hk.base, fun x hx => hx.elim (hk.lt x) (fun e => by omega), hk.fresh, hk.dead, fun j hj hdj => ?_, hk.inj, fun g cells hg => (hk.glob g cells hg).mono hle _ _ _, fun x ds hx e => hx.elim (fun hx => hk.nd x ds hx e) (fun e2 => by subst e2; rw [hr] at h5; obtain ⟨c, e3, f, k1, _⟩ := h5; exact absurd (k1.symm.trans e) (fun h => by cases h))⟩
    obtain ⟨bj, oj, k1, k2, k3, k4, k5⟩ := hk.blk j hj hdj
    exact ⟨bj, oj, k1, k2, k3, fun hI => hI.elim k4 (fun e => hnb j hj hdj oj (e ▸ k1)), k5.mono hle rfl⟩
  · rw [hr] at h5
    obtain ⟨c, e, f, k1, k2, k3, k4⟩ := h5
    refine CellsAt.of_get fun j x hj => ?_
    obtain ⟨v, m1, m2, m3⟩ := k4 j x hj
    refine ⟨v, .inr rfl, ?_, m2, ?_⟩
    · rw [Addr.add_none]
      simp only [Ctx.cell?, k1, Nat.zero_add]
      exact m1
    · refine VRel.pure (C := C) ?_ _ _ ?_ m3
      · exact hle.noal
      · have hmem : x ∈ cells := List.mem_of_getElem? hj
        clear hj k4 hr
        induction cells with
        | nil => cases hmem
        | cons y l ih =>
          simp only [AV.purs, Bool.and_eq_true] at hp
          rcases List.mem_cons.1 hmem with rfl | hm
          · exact hp.1
          · exact ih hp.2 (by simp at k3; omega) hm
end
end Go.Zk
namespace Go.Zk

/-! ### What the table of types says -/
def tsz (P : Program) (t : TypeId) : Option Nat := (P.info? t).map (·.size)
def tby (P : Program) (t : TypeId) : Option Nat := (P.info? t).map (·.bytes)
def aggOf : TypeDesc → Bool
  | .struct _ | .array _ _ => true
  | _ => false
def tagg (P : Program) (t : TypeId) : Option Bool := (P.underlying t).map aggOf
/-- where a field of a struct in memory lies; a field of no size is left out -/
def tfa (P : Program) (s i : Nat) : Option Nat :=
  match P.underlying s with
  | some (.struct fs) => match fs[i]? with
    | some f => match P.info? f.type with
      | some inf => if inf.size = 0 then none else some f.offset
      | none => none
    | none => none
  | _ => none
/-- a field of a struct as a value: offset, size, whether it is an aggregate -/
def tfv (P : Program) (s i : Nat) : Option (Nat × Nat × Bool) :=
  match P.underlying s with
  | some (.struct fs) => match fs[i]? with
    | some f => match P.info? f.type, P.underlying f.type with
      | some inf, some d => some (f.offset, inf.size, aggOf d)
      | _, _ => none
    | none => none
  | _ => none
/-- a slice's element: its type, its size -/
def tel (P : Program) (t : TypeId) : Option (TypeId × Nat) :=
  match P.underlying t with
  | some (.slice e) => (P.info? e).map fun i => (e, i.size)
  | _ => none
/-- an array's length, its element's size, whether that is an aggregate -/
def tar (P : Program) (t : TypeId) : Option (Nat × Nat × Bool) :=
  match P.underlying t with
  | some (.array n e) => match P.info? e, P.underlying e with
    | some inf, some d => some (n, inf.size, aggOf d)
    | _, _ => none
  | _ => none

/-- Constants without a name. -/
def av1 : Value → AV
  | .bool b => .bool b
  | .int k n => .int k n
  | .string s => .str s.data.toList
  | .pointer none => .nilp
  | .slice none 0 0 => .nilsl
  | .map none => .nilmap
  | .nilFunc => .nilfunc
  | .nilIface => .nilif
  | .func (.func f) a b => if a.isEmpty && b.isEmpty then .func f [] [] else .any
  | _ => .any
def avOf : Value → AV
  | .agg cs => if cs.all Value.oneCell' then .agg (cs.toList.map av1) else .any
  | .tuple vs => if vs.isEmpty then .tuple [] else .any
  | .iface t v => .iface t (av1 v)
  | v => av1 v

theorem av1_rel (C : Ctx) (v : Value) : VRel C (av1 v) v := by
  unfold av1
  split <;> (try simp [VRel])
  case h_9 f a b =>
    by_cases h : a = #[] ∧ b = #[]
    · rw [if_pos h]
      obtain ⟨rfl, rfl⟩ := h
      simp only [VRel]
      exact ⟨#[], #[], rfl, VsRel.nil, VsRel.nil⟩
    · rw [if_neg h]; simp [VRel]
theorem av1_list (C : Ctx) : ∀ l : List Value, VsRel C (l.map av1) l
  | [] => VsRel.nil
  | v :: l => VsRel.cons (av1_rel C v) (av1_list C l)
theorem avOf_rel (C : Ctx) (v : Value) : VRel C (avOf v) v := by
  unfold avOf
  split
  · rename_i cs
    split
    · rename_i h
      simp only [VRel]
      exact ⟨cs, rfl, av1_list C _, fun x hx => Array.all_eq_true_iff_forall_mem.1 h x (by simpa using hx)⟩
    · simp [VRel]
  · rename_i vs
    split
    · rename_i h
      rw [Array.isEmpty_iff] at h
      subst h
      simp only [VRel]
      exact ⟨#[], rfl, VsRel.nil⟩
    · simp [VRel]
  · simp only [VRel]
    exact ⟨_, rfl, av1_rel C _⟩
  · exact av1_rel C v

/-- The cells of a value. -/
def acells : AV → Option (List AV)
  | .agg cs => some cs
  | .tuple _ | .any => none
  | v => some [v]
theorem acells_rel {C : Ctx} {x : AV} {v : Value} {l : List AV} (h : VRel C x v) (hl : acells x = some l) : VsRel C l v.cells.toList ∧ ∀ u ∈ v.cells.toList, u.oneCell' = true := by
  cases x <;> simp only [acells, Option.some.injEq, reduceCtorEq] at hl <;> subst hl
  case agg cs =>
    simp only [VRel] at h
    obtain ⟨vs, rfl, h1, h2⟩ := h
    exact ⟨h1, h2⟩
  all_goals
    have h0 := h
    simp only [VRel] at h
  case iface t y => obtain ⟨u, rfl, h1⟩ := h; exact ⟨VsRel.cons h0 VsRel.nil, by simp [Value.cells, Value.oneCell']⟩
  case ptr => obtain ⟨b, o, h1, rfl⟩ := h; exact ⟨VsRel.cons h0 VsRel.nil, by simp [Value.cells, Value.oneCell']⟩
  case rptr => obtain ⟨ad, rfl, h1⟩ := h; exact ⟨VsRel.cons h0 VsRel.nil, by simp [Value.cells, Value.oneCell']⟩
  case sl => obtain ⟨A, cap, rfl, h1⟩ := h; exact ⟨VsRel.cons h0 VsRel.nil, by simp [Value.cells, Value.oneCell']⟩
  case msl => obtain ⟨b, o, ad, cap, h1, rfl, h2⟩ := h; exact ⟨VsRel.cons h0 VsRel.nil, by simp [Value.cells, Value.oneCell']⟩
  case map => obtain ⟨b, h1, rfl⟩ := h; exact ⟨VsRel.cons h0 VsRel.nil, by simp [Value.cells, Value.oneCell']⟩
  case rmap => obtain ⟨r, es, c, rfl, h1⟩ := h; exact ⟨VsRel.cons h0 VsRel.nil, by simp [Value.cells, Value.oneCell']⟩
  case gmap => obtain ⟨r, es, c, σ, rfl, h1⟩ := h; exact ⟨VsRel.cons h0 VsRel.nil, by simp [Value.cells, Value.oneCell']⟩
  case func => obtain ⟨a, b, rfl, h1⟩ := h; exact ⟨VsRel.cons h0 VsRel.nil, by simp [Value.cells, Value.oneCell']⟩
  case yield => obtain ⟨b, h1, rfl⟩ := h; exact ⟨VsRel.cons h0 VsRel.nil, by simp [Value.cells, Value.oneCell']⟩
  all_goals (subst h; exact ⟨VsRel.cons h0 VsRel.nil, by simp [Value.cells, Value.oneCell']⟩)

/-! ### Reading -/
def rowAt (H : AHeap) : AV → Option (List AV × Nat)
  | .ptr id off => match H.get id with
    | .row cs => some (cs, off)
    | _ => none
  | .rptr cs off => some (cs, off)
  | _ => none

theorem Ctx.cell_eq {C : Ctx} {w : World} (h : C.heap = w.heap) (a : Addr) : C.cell? a = w.cell? a := by
  simp only [Ctx.cell?, World.cell?, h]
  split <;> simp_all

section
variable {E : Env} {B : Nat} {C : Ctx} {H : AHeap} {w : World}

/-- What reading asks. -/
structure HRead (E : Env) (C : Ctx) (H : AHeap) (w : World) : Prop where
  heap : C.heap = w.heap
  blk : ∀ i b o, C.al i = some (b, o) → H.get i ≠ .dead → BRel C b o (H.get i)
  glob : ∀ g cells, E.G g = some cells → CellsAt C ⟨g, 0, none⟩ 0 cells

theorem HSim.named (h : HSim E B C H w) {i : Nat} {p : Nat × Nat} (ha : C.al i = some p) : i < H.next := by
  rcases Nat.lt_or_ge i H.next with h1 | h1
  · exact h1
  · rw [h.fresh i h1] at ha; cases ha

theorem HSim.read (h : HSim E B C H w) : HRead E C H w := ⟨h.heap, fun i b o ha hd => by
    obtain ⟨b', o', k1, k2, k3, k4, k5⟩ := h.blk i (h.named ha) hd
    rw [k1] at ha; cases ha; exact k5, h.glob⟩
theorem HRead.sub {H0 : AHeap} (h : HRead E C H w) (hs : ∀ i, H0.get i ≠ .dead → H.get i = H0.get i) : HRead E C H0 w :=
  ⟨h.heap, fun i b o ha hd => by have := h.blk i b o ha (by rw [hs i hd]; exact hd); rwa [hs i hd] at this, h.glob⟩

/-- What a pointer reaches is there, cell by cell. -/
theorem HRead.reach (h : HRead E C H w) {p : AV} {v : Value} (hp : VRel C p v) {cs : List AV} {off : Nat} (hr : rowAt H p = some (cs, off)) :
    ∃ ad, v = .pointer (some ad) ∧ ∀ j x, cs[off + j]? = some x → ∃ u, w.cell? (ad.add j) = some u ∧ u.oneCell' = true ∧ VRel C x u := by
  cases p <;> simp only [rowAt, reduceCtorEq] at hr
  case ptr id o =>
    cases hg : H.get id <;> simp only [hg, Option.some.injEq, Prod.mk.injEq, reduceCtorEq] at hr
    rename_i cells
    obtain ⟨rfl, rfl⟩ := hr
    simp only [VRel] at hp
    obtain ⟨b, q, h1, rfl⟩ := hp
    have k5 := h.blk id b q h1 (by rw [hg]; exact fun e => by cases e)
    rw [hg] at k5
    obtain ⟨c, e, f, m1, m2, m3, m4⟩ := k5
    refine ⟨_, rfl, fun j x hx => ?_⟩
    obtain ⟨u, n1, n2, n3⟩ := m4 (o + j) x hx
    refine ⟨u, ?_, n2, n3⟩
    rw [← Ctx.cell_eq h.heap, Addr.add_none]
    simp only [Ctx.cell?, m1]
    rw [show q + o + j = q + (o + j) from by omega]
    exact n1
  case rptr cells o =>
    simp only [Option.some.injEq, Prod.mk.injEq] at hr
    obtain ⟨rfl, rfl⟩ := hr
    simp only [VRel] at hp
    obtain ⟨ad, rfl, h1⟩ := hp
    refine ⟨_, rfl, fun j x hx => ?_⟩
    obtain ⟨u, n1, n2, n3, n4⟩ := h1.get (o + j) x hx
    refine ⟨u, ?_, n3, VRel.mono C.noal_le _ _ n4⟩
    rw [← Ctx.cell_eq h.heap, Addr.add_add]
    simpa using n2

/-- n cells from there on. -/
theorem HRead.reach_n (h : HRead E C H w) {p : AV} {v : Value} (hp : VRel C p v) {cs : List AV} {off n : Nat} (hr : rowAt H p = some (cs, off)) (hn : off + n ≤ cs.length) :
    ∃ ad vs, v = .pointer (some ad) ∧ vs.length = n ∧ (∀ (j : Nat) u, vs[j]? = some u → w.cell? (ad.add j) = some u) ∧ (∀ u ∈ vs, u.oneCell' = true) ∧ VsRel C ((cs.drop off).take n) vs := by
  obtain ⟨ad, rfl, h1⟩ := h.reach hp hr
  have h2 : ∀ j, j < n → ∃ u, w.cell? (ad.add j) = some u := fun j hj => by
    obtain ⟨u, k1, _⟩ := h1 j cs[off + j] (List.getElem?_eq_getElem (by omega))
    exact ⟨u, k1⟩
  let vs := (List.range n).map fun j => (w.cell? (ad.add j)).getD undef
  have hl : vs.length = n := by simp [vs]
  have hg : ∀ (j : Nat) u, vs[j]? = some u → j < n ∧ w.cell? (ad.add j) = some u := fun j u hj => by
    have hj' : j < n := by
      rcases Nat.lt_or_ge j n with h | h
      · exact h
      · rw [List.getElem?_eq_none (by omega)] at hj; cases hj
    obtain ⟨x, hx⟩ := h2 j hj'
    simp [vs, hj', hx] at hj
    exact ⟨hj', hj ▸ hx⟩
  refine ⟨ad, vs, rfl, hl, fun j u hj => (hg j u hj).2, fun u hu => ?_, VsRel.of_get (by rw [hl]; simp; omega) fun j x u hx hu => ?_⟩
  · obtain ⟨j, hj⟩ := List.getElem?_of_mem hu
    obtain ⟨hj1, hj2⟩ := hg j u hj
    obtain ⟨u', k1, k2, k3⟩ := h1 j (cs[off + j]'(by omega)) (List.getElem?_eq_getElem (by omega))
    rw [hj2] at k1; cases k1; exact k2
  · obtain ⟨hj1, hj2⟩ := hg j u hu
    rw [List.getElem?_take, if_pos hj1, List.getElem?_drop] at hx
    obtain ⟨u', k1, k2, k3⟩ := h1 j x hx
    rw [hj2] at k1; cases k1; exact k3

/-! ### Writing -/
def splice (cs : List AV) (off : Nat) (l : List AV) : List AV := cs.take off ++ l ++ cs.drop (off + l.length)
theorem splice_length {cs l : List AV} {off : Nat} (h : off + l.length ≤ cs.length) : (splice cs off l).length = cs.length := by
  simp [splice]; omega
theorem splice_get {cs l : List AV} {off : Nat} (h : off + l.length ≤ cs.length) (j : Nat) :
    (splice cs off l)[j]? = if off ≤ j ∧ j < off + l.length then l[j - off]? else cs[j]? := by
  unfold splice
  by_cases h1 : j < off
  · rw [if_neg (by omega), List.append_assoc, List.getElem?_append_left (by simp; omega), List.getElem?_take, if_pos h1]
  · by_cases h2 : j < off + l.length
    · rw [if_pos ⟨by omega, h2⟩, List.getElem?_append_left (by simp; omega), List.getElem?_append_right (by simp; omega)]
      congr 1
      simp
      omega
    · rw [if_neg (by omega), List.getElem?_append_right (by simp; omega), List.getElem?_drop]
      congr 1
      simp; omega

theorem heap_setCells (b : Nat) : ∀ (vs : List Value) (o : Nat) (w : World) (c : Array Value) (e : TypeId) (f : Nat × Nat), w.heap[b]? = some (.cells c e f) → o + vs.length ≤ c.size →
    ∃ c', (w.setCells b o vs).heap[b]? = some (.cells c' e f) ∧ c'.size = c.size ∧ ∀ j, c'[j]? = if o ≤ j ∧ j < o + vs.length then vs[j - o]? else c[j]?
  | [], o, w, c, e, f, h, _ => ⟨c, h, rfl, fun j => by rw [if_neg (fun h => by simp at h; omega)]⟩
  | v :: r, o, w, c, e, f, h, hl => by
    have h1 : (w.setCell ⟨b, o, none⟩ v).heap[b]? = some (.cells (c.setIfInBounds o v) e f) := by
      simp [World.setCell, Array.getElem?_modify, h]
    simp only [List.length_cons] at hl
    obtain ⟨c', k1, k2, k3⟩ := heap_setCells b r (o + 1) (w.setCell ⟨b, o, none⟩ v) (c.setIfInBounds o v) e f h1 (by simp; omega)
    refine ⟨c', k1, by simpa using k2, fun j => ?_⟩
    rw [k3 j]
    by_cases h2 : j = o
    · subst h2
      rw [if_neg (by omega), if_pos (by simp)]
      simp [Array.getElem?_setIfInBounds_self_of_lt (show j < c.size by omega)]
    · by_cases h3 : o + 1 ≤ j ∧ j < o + 1 + r.length
      · rw [if_pos h3, if_pos (by simp; omega), show j - o = (j - (o + 1)) + 1 from by omega]
        simp
      · rw [if_neg h3, if_neg (by simp; omega), Array.getElem?_setIfInBounds_ne (fun e => h2 e.symm)]
theorem heap_setCells_ne (b : Nat) : ∀ (vs : List Value) (o : Nat) (w : World) (k : Nat), k ≠ b → (w.setCells b o vs).heap[k]? = w.heap[k]?
  | [], _, _, _, _ => rfl
  | v :: r, o, w, k, h => by
    rw [World.setCells, heap_setCells_ne b r (o + 1) _ k h]
    exact Go.RowKit.Below.heap_setCell _ _ _ _ h
theorem setCells_rest (b : Nat) : ∀ (vs : List Value) (o : Nat) (w : World), (w.setCells b o vs).heap.size = w.heap.size ∧ (w.setCells b o vs).os = w.os ∧ (w.setCells b o vs).tape = w.tape ∧ (w.setCells b o vs).output = w.output
  | [], _, _ => ⟨rfl, rfl, rfl, rfl⟩
  | v :: r, o, w => by
    obtain ⟨h1, h2, h3, h4⟩ := setCells_rest b r (o + 1) (w.setCell ⟨b, o, none⟩ v)
    exact ⟨by rw [World.setCells, h1]; simp, h2, h3, h4⟩

/-- A named row is written. -/
theorem HSim.write (h : HSim E B C H w) {i b o off : Nat} {cells l : List AV} {vs : List Value} (hg : H.get i = .row cells) (ha : C.al i = some (b, o)) (hl : off + l.length ≤ cells.length)
    (hv : VsRel C l vs) (h1 : ∀ u ∈ vs, u.oneCell' = true) :
    Nxt E B C { C with heap := (w.setCells b (o + off) vs).heap } (H.set i (.row (splice cells off l))) w (w.setCells b (o + off) vs) := by
  have hi := h.named ha
  have hd : H.get i ≠ .dead := by rw [hg]; exact fun e => by cases e
  obtain ⟨b', o', k1, k2, k3, k4, k5⟩ := h.blk i hi hd
  rw [k1] at ha; cases ha
  rw [hg] at k5
  obtain ⟨c, e, f, m1, m2, m3, m4⟩ := k5
  have m1' : w.heap[b]? = some (.cells c e f) := h.heap ▸ m1
  have hlen := hv.length
  obtain ⟨c', n1, n2, n3⟩ := heap_setCells b vs (o + off) w c e f m1' (by omega)
  obtain ⟨r1, r2, r3, r4⟩ := setCells_rest b vs (o + off) w
  refine h.turn hi hd k1 (fun k hk => heap_setCells_ne b vs (o + off) w k hk) r1 r2 r3 r4 (fun n ⟨c0, e0, f0, q1, q2⟩ => ?_) (fun ds hds => by rw [m1'] at hds; cases hds) (fun r hr => by rw [m1'] at hr; cases hr) (fun hle _ => ?_)
  · rw [m1] at q1; cases q1
    exact ⟨c', e, f, n1, by omega⟩
  · refine ⟨c', e, f, n1, fun j hj => m2 j (by omega), by rw [splice_length hl]; omega, fun j x hx => ?_⟩
    rw [splice_get hl] at hx
    rw [n3]
    by_cases hin : off ≤ j ∧ j < off + l.length
    · rw [if_pos hin] at hx
      obtain ⟨u, q1, q2⟩ := hv.get _ _ hx
      refine ⟨u, ?_, h1 u (List.mem_of_getElem? q1), VRel.mono hle _ _ q2⟩
      rw [if_pos (by omega), show o + j - (o + off) = j - off from by omega]
      exact q1
    · rw [if_neg hin] at hx
      obtain ⟨u, q1, q2, q3⟩ := m4 j x hx
      exact ⟨u, by rw [if_neg (by omega)]; exact q1, q2, VRel.mono hle _ _ q3⟩

/-- The machine's store of cells into a named row. -/
theorem HSim.run_write (h : HSim E B C H w) {P : Program} {i b o off : Nat} {cells : List AV} {vs : List Value} (hg : H.get i = .row cells) (ha : C.al i = some (b, o)) (hl : off + vs.length ≤ cells.length)
    (h1 : ∀ u ∈ vs, u.oneCell' = true) : (storeCells ⟨b, o + off, none⟩ vs).run P w = .ok () (w.setCells b (o + off) vs) := by
  obtain ⟨b', o', k1, k2, k3, k4, k5⟩ := h.blk i (h.named ha) (by rw [hg]; exact fun e => by cases e)
  rw [k1] at ha; cases ha
  rw [hg] at k5
  obtain ⟨c, e, f, m1, m2, m3, m4⟩ := k5
  rw [h.heap] at m1
  refine run_storeCells_cells b (o + off) vs 0 w (fun j hj => ?_) (fun j hj => ?_) h1
  · simp only [World.cell?, m1]
    simp
    omega
  · simp only [World.frozen?, m1]
    have := m2 (o + off + 0 + j) (by omega)
    simp
    omega
end
end Go.Zk
namespace Go.Zk

inductive AOut where
  | val (v : AV) (H : AHeap)
  | stuck

def aeval (E : Env) (fr : AFr) : Operand → AV
  | .tmp t => fr t
  | .const v => avOf v
  | .global g => match E.G g with
    | some cs => .rptr cs 0
    | none => .any
  | .func f => .func f [] []

/-! ### Numbers, texts, comparisons -/
def aint (op : BinOp) (k : IntKind) (x y : Int) : Option AV :=
  match op with
  | .add => some (.int k (k.wrap (x + y)))
  | .sub => some (.int k (k.wrap (x - y)))
  | .mul => some (.int k (k.wrap (x * y)))
  | .quo => if y = 0 then none else some (.int k (k.wrap (x.tdiv y)))
  | .rem => if y = 0 then none else some (.int k (x.tmod y))
  | .and => some (.int k (k.wrap (BitVec.ofInt k.bits x &&& BitVec.ofInt k.bits y).toNat))
  | .or => some (.int k (k.wrap (BitVec.ofInt k.bits x ||| BitVec.ofInt k.bits y).toNat))
  | .xor => some (.int k (k.wrap (BitVec.ofInt k.bits x ^^^ BitVec.ofInt k.bits y).toNat))
  | .andNot => some (.int k (k.wrap (BitVec.ofInt k.bits x &&& ~~~ BitVec.ofInt k.bits y).toNat))
  | .eql => some (.bool (decide (x = y)))
  | .neq => some (.bool (decide (x ≠ y)))
  | .lss => some (.bool (decide (x < y)))
  | .leq => some (.bool (decide (x ≤ y)))
  | .gtr => some (.bool (decide (y < x)))
  | .geq => some (.bool (decide (y ≤ x)))
  | _ => none
def ashift (op : BinOp) (k : IntKind) (x y : Int) : Option AV :=
  if y < 0 then none else
  match op with
  | .shl => some (.int k (k.wrap (x * 2 ^ min y.toNat k.bits)))
  | .shr => some (.int k (x.fdiv (2 ^ min y.toNat k.bits)))
  | _ => none
def astr (op : BinOp) (x y : List UInt8) : Option AV :=
  match op with
  | .add => if x.length + y.length ≤ 4294967296 then some (.str (x ++ y)) else none
  | .eql => some (.bool (decide (x = y)))
  | .neq => some (.bool (decide (x ≠ y)))
  | .lss => some (.bool (Op.bytesLess x y))
  | .leq => some (.bool (Op.bytesLess x y || decide (x = y)))
  | .gtr => some (.bool (!(Op.bytesLess x y || decide (x = y))))
  | .geq => some (.bool (!Op.bytesLess x y))
  | _ => none
/-- a field that counts of a struct of plain cells: its offset and kind -/
def plain1 : TypeDesc → Bool
  | .bool | .int _ | .string => true
  | _ => false
def aeq1 : TypeDesc → AV → AV → Option Bool
  | .bool, .bool a, .bool b => some (decide (a = b))
  | .int _, .int k a, .int k' b => if k = k' then some (decide (a = b)) else none
  | .string, .str a, .str b => some (decide (a = b))
  | .pointer _, .nilp, .nilp => some true
  | .pointer _, .nilp, .ptr _ _ => some false
  | .pointer _, .nilp, .rptr _ _ => some false
  | .pointer _, .ptr _ _, .nilp => some false
  | .pointer _, .rptr _ _, .nilp => some false
  | .slice _, .nilsl, .nilsl => some true
  | .slice _, .sl n _ _, .nilsl => if n = 0 then none else some false
  | .slice _, .nilsl, .sl n _ _ => if n = 0 then none else some false
  | .slice _, .msl _ _ _ _ _, .nilsl => some false
  | .slice _, .nilsl, .msl _ _ _ _ _ => some false
  | .map _ _, .nilmap, .nilmap => some true
  | .map _ _, .map _, .nilmap => some false
  | .map _ _, .rmap _ _, .nilmap => some false
  | .func _ _ _, .nilfunc, .nilfunc => some true
  | .func _ _ _, .func _ _ _, .nilfunc => some false
  | .func _ _ _, .yield _, .nilfunc => some false
  | .func _ _ _, .nilfunc, .func _ _ _ => some false
  | _, _, _ => none
/-- the offsets and kinds of a struct's or an array's plain cells -/
def tplain (P : Program) (t : TypeId) : Option (List (Nat × TypeDesc)) :=
  match P.underlying t with
  | some (.struct fs) => if P.stoodInHeld t || P.eqGuardType P.depth t then none else
      fs.toList.mapM fun f => if f.name = "_" then none else
        match P.underlying f.type with
        | some d => if plain1 d then some (f.offset, d) else none
        | none => none
  | _ => none
def aeqs : List (Nat × TypeDesc) → List AV → List AV → Option Bool
  | [], _, _ => some true
  | (o, d) :: r, xs, ys => match xs[o]?, ys[o]? with
    | some x, some y => match aeq1 d x y with
      | some b => if b = true then aeqs r xs ys else some false
      | none => none
    | _, _ => none
def aeq (P : Program) (t : TypeId) (x y : AV) : Option Bool :=
  match x, y with
  | .agg xs, .agg ys => match tplain P t with
    | some fs => aeqs fs xs ys
    | none => none
  | x, y => match P.underlying t with
    | some d => aeq1 d x y
    | none => none
def abin (P : Program) (op : BinOp) (t : TypeId) (x y : AV) : Option AV :=
  match x, y with
  | .int k a, .int k' b => match op with
    | .shl => ashift .shl k a b
    | .shr => ashift .shr k a b
    | _ => if k = k' then aint op k a b else none
  | .str a, .str b => astr op a b
  | _, _ => match op with
    | .eql => (aeq P t x y).map .bool
    | .neq => (aeq P t x y).map fun b => .bool !b
    | _ => none
def aun (op : UnOp) (x : AV) : Option AV :=
  match op, x with
  | .neg, .int k n => some (.int k (k.wrap (0 - n)))
  | .xor, .int k n => some (.int k (k.wrap (BitVec.ofInt k.bits (if k.signed then -1 else k.max) ^^^ BitVec.ofInt k.bits n).toNat))
  | .not, .bool b => some (.bool !b)
  | _, _ => none

def pv (o : Option AV) (H : AHeap) : AOut := match o with
  | some v => .val v H
  | none => .stuck

section
variable {E : Env} {B : Nat} {C : Ctx} {H : AHeap} {w : World} {P : Program}

/-- What an operation's run has to come to. -/
def VOk (E : Env) (B : Nat) (C : Ctx) (w : World) (r : Result Value) : AOut → Prop
  | .val av H' => ∃ v w' C', r = .ok v w' ∧ VRel C' av v ∧ Nxt E B C C' H' w w'
  | .stuck => True

theorem VOk.here (h : HSim E B C H w) {r : Result Value} {av : AV} {v : Value} (hr : r = .ok v w) (hv : VRel C av v) : VOk E B C w r (.val av H) :=
  ⟨v, w, C, hr, hv, .refl h⟩
theorem VOk.pv (h : HSim E B C H w) {r : Result Value} {o : Option AV} (hr : ∀ av, o = some av → ∃ v, r = .ok v w ∧ VRel C av v) : VOk E B C w r (pv o H) := by
  cases o with
  | none => trivial
  | some av => obtain ⟨v, h1, h2⟩ := hr av rfl; exact VOk.here h h1 h2

theorem aeval_rel (h : HSim E B C H w) {fr : AFr} {a : Act} (hf : FrRel C fr a.tmps) (x : Operand) : VRel C (aeval E fr x) (a.eval x) := by
  cases x with
  | tmp t => exact hf t
  | const v => exact avOf_rel C v
  | func f => simp only [aeval, Act.eval, VRel]; exact ⟨#[], #[], rfl, VsRel.nil, VsRel.nil⟩
  | global g =>
    simp only [aeval, Act.eval]
    cases hg : E.G g with
    | none => simp [VRel]
    | some cs =>
      simp only [VRel]
      exact ⟨⟨g, 0, none⟩, by simp [Addr.add], h.glob g cs hg⟩


theorem aint_ok {op : BinOp} {k : IntKind} {x y : Int} {av : AV} (h : aint op k x y = some av) (t : TypeId) :
    ∃ v, (binOp op t (.int k x) (.int k y)).run P w = .ok v w ∧ VRel C av v := by
  cases op <;> simp only [aint, Option.some.injEq, reduceCtorEq] at h <;> (try contradiction)
  case quo =>
    split at h
    · cases h
    · rename_i hy
      simp only [Option.some.injEq] at h
      subst h
      exact ⟨_, by simp [binOp, Op.intDiv, hy]; rfl, by simp [VRel]⟩
  case rem =>
    split at h
    · cases h
    · rename_i hy
      simp only [Option.some.injEq] at h
      subst h
      exact ⟨_, by simp [binOp, Op.intDiv, hy]; rfl, by simp [VRel]⟩
  all_goals
    subst h
    refine ⟨_, by simp [binOp, Op.intArith, Op.intBits, Op.intCmp]; rfl, ?_⟩
    simp [VRel]
  all_goals first
    | rfl
    | (rw [Bool.eq_iff_iff]; simp)

theorem ashift_ok {op : BinOp} {k yk : IntKind} {x y : Int} {av : AV} (h : ashift op k x y = some av) (t : TypeId) (ho : op = .shl ∨ op = .shr) :
    ∃ v, (binOp op t (.int k x) (.int yk y)).run P w = .ok v w ∧ VRel C av v := by
  unfold ashift at h
  split at h
  · cases h
  · rename_i hy
    rcases ho with rfl | rfl <;> simp only [Option.some.injEq] at h <;> subst h
    · exact ⟨_, by simp [binOp, Op.shift, hy]; rfl, by simp [VRel]⟩
    · exact ⟨_, by simp [binOp, Op.shift, hy]; rfl, by simp [VRel]⟩

theorem astr_ok {op : BinOp} {x y : List UInt8} {av : AV} (h : astr op x y = some av) (t : TypeId) :
    ∃ v, (binOp op t (.string ⟨x.toArray⟩) (.string ⟨y.toArray⟩)).run P w = .ok v w ∧ VRel C av v := by
  cases op <;> simp only [astr, Option.some.injEq, reduceCtorEq] at h <;> (try contradiction)
  case add =>
    split at h
    · rename_i hl
      simp only [Option.some.injEq] at h
      subst h
      refine ⟨.string ⟨(x ++ y).toArray⟩, ?_, by simp only [VRel]⟩
      have h1 : ¬ ((((⟨x.toArray⟩ : ByteArray).size + (⟨y.toArray⟩ : ByteArray).size : Nat) : Int) > IntKind.i64.max) := by
        have e1 : (⟨x.toArray⟩ : ByteArray).size = x.length := by simp [ByteArray.size]
        have e2 : (⟨y.toArray⟩ : ByteArray).size = y.length := by simp [ByteArray.size]
        rw [e1, e2]
        have e3 : IntKind.i64.max = 9223372036854775807 := by decide
        rw [e3]; omega
      have h2 : (⟨x.toArray⟩ : ByteArray) ++ (⟨y.toArray⟩ : ByteArray) = ⟨(x ++ y).toArray⟩ := by
        apply ByteArray.ext
        simp
      simp only [binOp, Op.stringOp]
      rw [Sem.run_ite, if_neg h1, h2]
      rfl
    · cases h
  all_goals
    subst h
    refine ⟨_, by simp [binOp, Op.stringOp]; rfl, ?_⟩
    simp [VRel]
  all_goals first
    | rfl
    | (rw [Bool.eq_iff_iff]; simp)

theorem bytes_eq_iff (a b : List UInt8) : ((⟨a.toArray⟩ : ByteArray) == ⟨b.toArray⟩) = decide (a = b) := by
  rw [beq_toListBytes]
  simp
  rw [Bool.eq_iff_iff]; simp

theorem aeq1_ok {d : TypeDesc} {x y : AV} {u v : Value} {b : Bool} (h : aeq1 d x y = some b) (hx : VRel C x u) (hy : VRel C y v) (t : TypeId) (ht : P.underlying t = some d) (n : Nat) :
    (Op.equalIn (n + 1) t u v).run P w = .ok b w := by
  unfold aeq1 at h
  split at h <;> (try simp only [Option.some.injEq, reduceCtorEq] at h) <;> simp only [VRel] at hx hy
  · subst hx; subst hy; subst h; rw [run_equalIn_bool' w n t _ _ ht]; first | rfl | (congr 1; rw [Bool.eq_iff_iff]; simp)
  · split at h
    · rename_i hk
      simp only [Option.some.injEq] at h
      subst hk; subst hx; subst hy; subst h; rw [run_equalIn_int w n t _ _ _ _ ht]; first | rfl | (congr 1; rw [Bool.eq_iff_iff]; simp)
    · cases h
  · subst hx; subst hy; subst h; rw [run_equalIn_string w n t _ _ ht]; first | rfl | (congr 1; rw [Bool.eq_iff_iff]; simp)
  · subst hx; subst hy; subst h; simp [Op.equalIn, run_underlying ht]
  · obtain ⟨b', o, h1, rfl⟩ := hy; subst hx; subst h; simp [Op.equalIn, run_underlying ht]
  · obtain ⟨ad, rfl, h1⟩ := hy; subst hx; subst h; simp [Op.equalIn, run_underlying ht]
  · obtain ⟨b', o, h1, rfl⟩ := hx; subst hy; subst h; simp [Op.equalIn, run_underlying ht]
  · obtain ⟨ad, rfl, h1⟩ := hx; subst hy; subst h; simp [Op.equalIn, run_underlying ht]
  · subst hx; subst hy; subst h; simp [Op.equalIn, run_underlying ht]
  · split at h
    · cases h
    · rename_i hn
      simp only [Option.some.injEq] at h
      obtain ⟨A, cap, rfl, h1, h2, h3⟩ := hx
      subst hy; subst h
      rcases h3 with ⟨rfl, h3, _⟩ | ⟨ad, rfl, _⟩
      · omega
      · simp [Op.equalIn, run_underlying ht]
  · split at h
    · cases h
    · rename_i hn
      simp only [Option.some.injEq] at h
      obtain ⟨A, cap, rfl, h1, h2, h3⟩ := hy
      subst hx; subst h
      rcases h3 with ⟨rfl, h3, _⟩ | ⟨ad, rfl, _⟩
      · omega
      · simp [Op.equalIn, run_underlying ht]
  · obtain ⟨b', o, ad, cap, h1, rfl, h2⟩ := hx; subst hy; subst h; simp [Op.equalIn, run_underlying ht]
  · obtain ⟨b', o, ad, cap, h1, rfl, h2⟩ := hy; subst hx; subst h; simp [Op.equalIn, run_underlying ht]
  · subst hx; subst hy; subst h; simp [Op.equalIn, run_underlying ht]
  · obtain ⟨b', h1, rfl⟩ := hx; subst hy; subst h; simp [Op.equalIn, run_underlying ht]
  · obtain ⟨r, es, c, rfl, h1⟩ := hx; subst hy; subst h; simp [Op.equalIn, run_underlying ht]
  · subst hx; subst hy; subst h; simp [Op.equalIn, run_underlying ht]
  · obtain ⟨a, b', rfl, h1⟩ := hx; subst hy; subst h; simp [Op.equalIn, run_underlying ht]
  · obtain ⟨b', h1, rfl⟩ := hx; subst hy; subst h; simp [Op.equalIn, run_underlying ht]
  · obtain ⟨a, b', rfl, h1⟩ := hy; subst hx; subst h; simp [Op.equalIn, run_underlying ht]
  all_goals cases h
end
end Go.Zk
namespace Go.Zk

section
variable {E : Env} {B : Nat} {C : Ctx} {H : AHeap} {w : World} {P : Program}

theorem run_typeInfo {t : TypeId} {i : TypeInfo} (h : P.info? t = some i) (w : World) : (typeInfo t).run P w = .ok i w := by simp [typeInfo, h]
theorem run_sizeOf {t : TypeId} {n : Nat} (h : tsz P t = some n) (w : World) : (sizeOf t).run P w = .ok n w := by
  unfold tsz at h
  cases hi : P.info? t with
  | none => rw [hi] at h; cases h
  | some i => rw [hi] at h; simp at h; subst h; simp [sizeOf, run_typeInfo hi]
theorem run_isAgg {t : TypeId} {b : Bool} (h : tagg P t = some b) (w : World) : (isAgg t).run P w = .ok b w := by
  unfold tagg at h
  cases hu : P.underlying t with
  | none => rw [hu] at h; cases h
  | some d => rw [hu] at h; simp at h; subst h; cases d <;> simp [isAgg, run_underlying hu, aggOf]

/-- A part of a value's cells. -/
def apart (agg : Bool) (n off : Nat) (cs : List AV) : Option AV :=
  if agg = true then (if off + n ≤ cs.length then some (.agg ((cs.drop off).take n)) else none) else cs[off]?
theorem apart_ok {t : TypeId} {agg : Bool} {n off : Nat} {cs : List AV} {vs : Array Value} {av : AV} (h : apart agg n off cs = some av) (hv : VsRel C cs vs.toList) (h1 : ∀ x ∈ vs.toList, x.oneCell' = true)
    (ha : tagg P t = some agg) (hn : tsz P t = some n) : ∃ v, (part t vs off).run P w = .ok v w ∧ VRel C av v := by
  unfold apart at h
  have hlen := hv.length
  simp at hlen
  split at h
  · rename_i hagg
    subst hagg
    split at h
    · rename_i hl
      simp only [Option.some.injEq] at h
      subst h
      refine ⟨.agg (vs.extract off (off + n)), by simp [part, run_isAgg ha, run_sizeOf hn], ?_⟩
      simp only [VRel]
      refine ⟨_, rfl, ?_, fun x hx => ?_⟩
      · have := (hv.drop off).take n
        rw [show (vs.extract off (off + n)).toList = (vs.toList.drop off).take n from by simp [Array.toList_extract, List.extract_eq_take_drop]]
        exact this
      · refine h1 x ?_
        rw [show (vs.extract off (off + n)).toList = (vs.toList.drop off).take n from by simp [Array.toList_extract, List.extract_eq_take_drop]] at hx
        exact List.mem_of_mem_drop (List.mem_of_mem_take hx)
    · cases h
  · rename_i hagg
    have hagg : agg = false := by simpa using hagg
    subst hagg
    obtain ⟨v, k1, k2⟩ := hv.get off av h
    have k1' : vs[off]? = some v := by simpa using k1
    exact ⟨v, by simp [part, run_isAgg ha, k1'], k2⟩

theorem aeqs_ok : ∀ {fs : List Field} {ls : List (Nat × TypeDesc)} (hf : fs.mapM (fun f => if f.name = "_" then none else match P.underlying f.type with | some d => if plain1 d then some (f.offset, d) else none | none => none) = some ls)
    {xs ys : List AV} {us vs : Array Value} {b : Bool} (h : aeqs ls xs ys = some b) (hx : VsRel C xs us.toList) (hy : VsRel C ys vs.toList) (n : Nat),
    (Op.eqFields (n + 1) us vs fs).run P w = .ok b w
  | [], ls, hf, xs, ys, us, vs, b, h, hx, hy, n => by
    simp at hf; subst hf
    simp only [aeqs, Option.some.injEq] at h
    subst h
    simp [Op.eqFields]
  | f :: fs, ls, hf, xs, ys, us, vs, b, h, hx, hy, n => by
    rw [List.mapM_cons] at hf
    by_cases h0 : f.name = "_"
    · simp [h0] at hf
    · cases hu : P.underlying f.type with
      | none => simp [h0, hu] at hf
      | some d =>
        by_cases hp : plain1 d = true
        · cases hm : fs.mapM (fun f => if f.name = "_" then none else match P.underlying f.type with | some d => if plain1 d then some (f.offset, d) else none | none => none) with
          | none => simp [h0, hu, hp, hm] at hf
          | some l =>
            simp [h0, hu, hp, hm] at hf
            subst hf
            simp only [aeqs] at h
            cases hx1 : xs[f.offset]? with
            | none => simp [hx1] at h
            | some x =>
              cases hy1 : ys[f.offset]? with
              | none => simp [hx1, hy1] at h
              | some y =>
                simp only [hx1, hy1] at h
                obtain ⟨u, hu1, hu2⟩ := hx.get _ _ hx1
                obtain ⟨v, hv1, hv2⟩ := hy.get _ _ hy1
                have hu1' : us[f.offset]? = some u := by simpa using hu1
                have hv1' : vs[f.offset]? = some v := by simpa using hv1
                cases ha : aeq1 d x y with
                | none => simp [ha] at h
                | some c =>
                  simp only [ha] at h
                  have hagg : tagg P f.type = some false := by simp only [tagg, hu, Option.map_some]; cases d <;> simp [plain1] at hp <;> rfl
                  have hq := aeq1_ok (w := w) (P := P) ha hu2 hv2 f.type hu n
                  simp only [Op.eqFields, ne_eq, h0, not_false_eq_true, if_true, Sem.run_bind, part, run_isAgg hagg, Result.andThen_ok, Bool.false_eq_true, if_false, hu1', hv1', Sem.run_pure, hq]
                  cases c with
                  | true =>
                    simp only [if_true] at h
                    simp only [Bool.not_true, Bool.false_eq_true, if_false]
                    exact aeqs_ok hm h hx hy n
                  | false =>
                    simp only [Bool.false_eq_true, if_false, Option.some.injEq] at h
                    subst h
                    simp
        · simp [h0, hu, hp] at hf
end
end Go.Zk
