/- Operations that change nothing in memory: one function, one law. Conditions: none. Operations that change nothing in memory: the law. Conditions: none. Operations that change nothing in memory: the law, all of them. Conditions: none. The law of the operations that change nothing in memory; operations that lay a new block. Conditions: none. Maps: looking up. Conditions: none. -/
import Derived.Test.YtiplcbpocpgbbaaGreatDoorA01
set_option linter.unusedSimpArgs false
set_option linter.unusedVariables false
namespace Go.Zk

/-- a bound of a slice expression -/
def abd (v : Option AV) (d top : Nat) : Option Nat :=
  match v with
  | none => some d
  | some (.int _ i) => if 0 ≤ i ∧ i ≤ (top : Int) then some i.toNat else none
  | _ => none
/-- low, high, max of a slice expression over what is known to have length n: low, high, whether max is high -/
def abds (n : Nat) (lo hi mx : Option AV) : Option (Nat × Nat × Bool) :=
  match mx with
  | none => match abd hi n n with
    | some h => match abd lo 0 h with
      | some l => some (l, h, false)
      | none => none
    | none => none
  | some m => match abd (some m) 0 n with
    | some m => match hi with
      | none => none
      | some h => match abd (some h) 0 m with
        | some h => match abd lo 0 h with
          | some l => some (l, h, decide (m = h))
          | none => none
        | none => none
    | none => none
def asl (P : Program) (t : TypeId) (H : AHeap) (x : AV) (lo hi mx : Option AV) : Option AV :=
  match x with
  | .str s => if tsl P t = 1 then match mx with
      | some _ => none
      | none => match abds s.length lo hi none with
        | some (l, h, _) => some (.str ((s.take h).drop l))
        | none => none
    else none
  | .nilsl => match tel P t with
    | some _ => match abds 0 lo hi mx with
      | some _ => some .nilsl
      | none => none
    | none => none
  | .sl len tight cells => match tel P t with
    | some (_, e) => match abds len lo hi mx with
      | some (l, h, b) => some (.sl (h - l) (b || tight && decide (mx.isNone ∧ h = len)) ((cells.take (h * e)).drop (l * e)))
      | none => none
    | none => none
  | .msl id off len esz tight => match tel P t with
    | some (_, e) => if e = esz then match abds len lo hi mx with
      | some (l, h, b) => some (.msl id (off + l * e) (h - l) e (b || tight && decide (mx.isNone ∧ h = len)))
      | none => none
      else none
    | none => none
  | .rptr cells off => match tar P t with
    | some (n, e, _) => if off + n * e ≤ cells.length then match abds n lo hi mx with
      | some (l, h, b) => some (.sl (h - l) (b || decide (mx.isNone ∧ h = n)) (((cells.drop off).take (h * e)).drop (l * e)))
      | none => none
      else none
    | none => none
  | .ptr id off => match tar P t, H.get id with
    | some (n, e, _), .row cells => if off + n * e ≤ cells.length then match abds n lo hi mx with
      | some (l, h, b) => some (.msl id (off + l * e) (h - l) e (b || decide (mx.isNone ∧ h = n)))
      | none => none
      else none
    | _, _ => none
  | _ => none
  where
    tsl (P : Program) (t : TypeId) : Nat := match P.underlying t with
      | some .string => 1
      | _ => 0

def aidx (P : Program) (t : TypeId) (x i : AV) : Option AV :=
  match i with
  | .int _ i => match x with
    | .sl len _ cells => match tel P t with
      | some (_, e) => if 0 ≤ i ∧ i < (len : Int) then some (.rptr cells (i.toNat * e)) else none
      | none => none
    | .msl id off len esz _ => match tel P t with
      | some (_, e) => if 0 ≤ i ∧ i < (len : Int) ∧ e = esz then some (.ptr id (off + i.toNat * e)) else none
      | none => none
    | .rptr cells off => match tar P t with
      | some (n, e, _) => if 0 ≤ i ∧ i < (n : Int) then some (.rptr cells (off + i.toNat * e)) else none
      | none => none
    | .ptr id off => match tar P t with
      | some (n, e, _) => if 0 ≤ i ∧ i < (n : Int) then some (.ptr id (off + i.toNat * e)) else none
      | none => none
    | _ => none
  | _ => none
def aindex (P : Program) (t : TypeId) (x i : AV) : Option AV :=
  match i with
  | .int _ i => match x with
    | .str s => if asl.tsl P t = 1 then (if 0 ≤ i then (s[i.toNat]?).map fun b => .int .u8 b.toNat else none) else none
    | .agg cs => match tar P t with
      | some (n, e, g) => if 0 ≤ i ∧ i < (n : Int) then apart g e (i.toNat * e) cs else none
      | none => none
    | _ => none
  | _ => none
def aload (P : Program) (t : TypeId) (H : AHeap) (p : AV) : Option AV :=
  match tagg P t, tsz P t, rowAt H p with
  | some g, some n, some (cs, off) => apart g n off cs
  | _, _, _ => none
def aextract (x : AV) (i : Nat) : Option AV := match x with
  | .tuple vs => vs[i]?
  | _ => none
def aconv (P : Program) (src dst : TypeId) (x : AV) : Option AV :=
  match P.underlying src, P.underlying dst, x with
  | some (.int _), some (.int k), .int _ n => some (.int k (k.wrap n))
  | some .string, some .string, .str s => some (.str s)
  | _, _, _ => none
def amm (lt : Bool) : AV → AV → Option AV
  | .int k x, .int _ y => some (.int k (if lt = true then (if y < x then y else x) else (if x < y then y else x)))
  | _, _ => none
def amms (lt : Bool) : AV → List AV → Option AV
  | x, [] => some x
  | x, y :: l => match amm lt x y with
    | some z => amms lt z l
    | none => none
def alen (P : Program) (t : TypeId) (H : AHeap) (x : AV) : Option AV :=
  match P.underlying t, x with
  | some .string, .str s => some (.int .i64 s.length)
  | some (.slice _), .nilsl => some (.int .i64 0)
  | some (.slice _), .sl n _ _ => some (.int .i64 n)
  | some (.slice _), .msl _ _ n _ _ => some (.int .i64 n)
  | some (.map _ _), .nilmap => some (.int .i64 0)
  | some (.map _ _), .rmap ks _ => some (.int .i64 ks.length)
  | some (.map _ _), .map id => match H.get id with
    | .map ks _ => some (.int .i64 ks.length)
    | _ => none
  | _, _ => none

def afield (o : Nat) (x : AV) : Option AV :=
  match x with
  | .ptr id off => some (.ptr id (off + o))
  | .rptr cells off => some (.rptr cells (off + o))
  | _ => none
def acall0 (P : Program) (c : Call) (ρ : Operand → AV) (H : AHeap) : Option AV :=
  match c.callee with
  | .builtin .len => match c.args.toList, c.argTypes.toList with
    | [x], [t] => alen P t H (ρ x)
    | _, _ => none
  | .builtin .min => match c.args.toList with
    | x :: l => amms true (ρ x) (l.map ρ)
    | _ => none
  | .builtin .max => match c.args.toList with
    | x :: l => amms false (ρ x) (l.map ρ)
    | _ => none
  | _ => none
/-- The value of an operation that changes nothing in memory. -/
def aval (E : Env) (op : Op) (ρ : Operand → AV) (H : AHeap) : Option AV :=
  match op with
  | .move x | .assign x => some (ρ x)
  | .pick c a b => match ρ c with
    | .bool t => some (if t = true then ρ a else ρ b)
    | _ => none
  | .load t a => aload E.P t H (ρ a)
  | .nilCheck x => match ρ x with
    | .ptr i o => some (.ptr i o)
    | .rptr c o => some (.rptr c o)
    | .func f a b => some (.func f a b)
    | .yield i => some (.yield i)
    | _ => none
  | .binOp op t x y _ => abin E.P op t (ρ x) (ρ y)
  | .unOp op _ x => aun op (ρ x)
  | .convert s d x => aconv E.P s d (ρ x)
  | .makeFunc (.func f) first captured => some (.func f (first.toList.map ρ) (captured.toList.map ρ))
  | .slice t x lo hi mx => asl E.P t H (ρ x) (lo.map ρ) (hi.map ρ) (mx.map ρ)
  | .fieldAddr s x i => match tfa E.P s i with
    | some o => afield o (ρ x)
    | none => none
  | .field s x i => match tfv E.P s i, ρ x with
    | some (o, n, g), .agg cs => apart g n o cs
    | _, _ => none
  | .indexAddr t x i => aidx E.P t (ρ x) (ρ i)
  | .index t x i => aindex E.P t (ρ x) (ρ i)
  | .extract x i => aextract (ρ x) i
  | .call c => acall0 E.P c ρ H
  | _ => none

section
variable {E : Env} {B : Nat} {C : Ctx} {H : AHeap} {w : World} {P : Program}

def ORel (C : Ctx) : Option AV → Option Value → Prop
  | none, none => True
  | some x, some v => VRel C x v
  | _, _ => False
theorem ORel.map {ρ : Operand → AV} {σ : Operand → Value} (h : ∀ x, VRel C (ρ x) (σ x)) (o : Option Operand) : ORel C (o.map ρ) (o.map σ) := by
  cases o with
  | none => trivial
  | some x => exact h x

theorem bound_ok {x : AV} {v : Value} {d top n y : Nat} {code : BoundsCode} (h : abd (some x) d top = some n) (hv : VRel C x v) (hy : top ≤ y) : (Instr.sliceBound v y code).run P w = .ok n w ∧ n ≤ top := by
  unfold abd at h
  split at h
  · rename_i e; cases e
  · rename_i k i e
    simp only [Option.some.injEq] at e
    subst e
    split at h
    · rename_i hi
      simp only [Option.some.injEq] at h
      simp only [VRel] at hv
      subst hv
      subst h
      refine ⟨?_, by omega⟩
      have : 0 ≤ i ∧ i ≤ (y : Int) := ⟨hi.1, by omega⟩
      simp [Instr.sliceBound, asIntOf, this]
    · cases h
  · cases h

theorem bounds_ok {lo hi mx : Option AV} {lo' hi' mx' : Option Value} {n len cap l h : Nat} {b isSlice : Bool} (hb : abds n lo hi mx = some (l, h, b)) (h1 : ORel C lo lo') (h2 : ORel C hi hi') (h3 : ORel C mx mx')
    (hl : len = n) (hc : n ≤ cap) : ∃ m, (Instr.sliceBounds isSlice len cap lo' hi' mx').run P w = .ok (l, h, m) w ∧ l ≤ h ∧ h ≤ n ∧ h ≤ m ∧ m ≤ cap ∧ (mx = none → m = cap) ∧ (b = true → m = h) ∧ (mx = none → b = false) := by
  subst hl
  unfold abds at hb
  cases mx with
  | none =>
    cases mx' with
    | some _ => cases h3
    | none =>
      simp only at hb
      cases hh : abd hi len len with
      | none => simp [hh] at hb
      | some x =>
        cases hl2 : abd lo 0 x with
        | none => simp [hh, hl2] at hb
        | some y =>
          simp only [hh, hl2, Option.some.injEq, Prod.mk.injEq] at hb
          obtain ⟨rfl, rfl, rfl⟩ := hb
          have key : (Instr.sliceBounds isSlice len cap lo' hi' none).run P w = .ok (y, x, cap) w ∧ x ≤ len ∧ y ≤ x := by
            cases hi <;> cases hi' <;> (try cases h2) <;> cases lo <;> cases lo' <;> (try cases h1)
            · simp only [abd, Option.some.injEq] at hh hl2; subst hh; subst hl2
              exact ⟨by simp [Instr.sliceBounds], Nat.le_refl _, Nat.zero_le _⟩
            · simp only [abd, Option.some.injEq] at hh; subst hh
              have k := fun cd => bound_ok (P := P) (w := w) (code := cd) hl2 h1 (Nat.le_refl _)
              exact ⟨by simp [Instr.sliceBounds, (k _).1], Nat.le_refl _, (k .index).2⟩
            · simp only [abd, Option.some.injEq] at hl2; subst hl2
              have k := fun cd => bound_ok (P := P) (w := w) (code := cd) hh h2 hc
              exact ⟨by simp [Instr.sliceBounds, (k _).1], (k .index).2, Nat.zero_le _⟩
            · have k := fun cd => bound_ok (P := P) (w := w) (code := cd) hh h2 hc
              have k2 := fun cd => bound_ok (P := P) (w := w) (code := cd) hl2 h1 (Nat.le_refl _)
              exact ⟨by simp [Instr.sliceBounds, (k _).1, (k2 _).1], (k .index).2, (k2 .index).2⟩
          exact ⟨cap, key.1, key.2.2, key.2.1, by have := key.2.1; omega, Nat.le_refl _, fun _ => rfl, (fun e => by cases e), fun _ => rfl⟩
  | some mv =>
    cases mx' with
    | none => cases h3
    | some mv' =>
      simp only at hb
      cases hm : abd (some mv) 0 len with
      | none => simp [hm] at hb
      | some m =>
        simp only [hm] at hb
        cases hi with
        | none => simp at hb
        | some hv =>
          cases hi' with
          | none => cases h2
          | some hv' =>
            simp only at hb
            cases hh : abd (some hv) 0 m with
            | none => simp [hh] at hb
            | some x =>
              cases hl2 : abd lo 0 x with
              | none => simp [hh, hl2] at hb
              | some y =>
                simp only [hh, hl2, Option.some.injEq, Prod.mk.injEq] at hb
                obtain ⟨rfl, rfl, rfl⟩ := hb
                have hM := fun cd => bound_ok (P := P) (w := w) (code := cd) hm h3 hc
                have hH := bound_ok (P := P) (w := w) (code := .slice3B) hh h2 (Nat.le_refl _)
                have hm2 := (hM .index).2
                have key : (Instr.sliceBounds isSlice len cap lo' (some hv') (some mv')).run P w = .ok (y, x, m) w ∧ y ≤ x := by
                  cases lo <;> cases lo' <;> (try cases h1)
                  · simp only [abd, Option.some.injEq] at hl2; subst hl2
                    exact ⟨by simp [Instr.sliceBounds, (hM _).1, hH.1], Nat.zero_le _⟩
                  · have k := fun cd => bound_ok (P := P) (w := w) (code := cd) hl2 h1 (Nat.le_refl _)
                    exact ⟨by simp [Instr.sliceBounds, (hM _).1, hH.1, (k _).1], (k .index).2⟩
                exact ⟨m, key.1, key.2, by have := hH.2; omega, hH.2, by omega, (fun e => by cases e), (fun e => by simpa using e), (fun e => by cases e)⟩
end
end Go.Zk
namespace Go.Zk

section
variable {E : Env} {B : Nat} {C : Ctx} {H : AHeap} {w : World} {P : Program}

theorem aload_ok (h : HRead E C H w) {t : TypeId} {p : AV} {v : Value} {av : AV} (hp : VRel C p v) (ha : aload P t H p = some av) : ∃ u, (Instr.loadAt t v).run P w = .ok u w ∧ VRel C av u := by
  unfold aload at ha
  split at ha
  · rename_i g n cs off hg hn hr
    unfold apart at ha
    split at ha
    · rename_i hgt
      subst hgt
      split at ha
      · rename_i hl
        simp only [Option.some.injEq] at ha
        subst ha
        obtain ⟨ad, vs, rfl, k1, k2, k3, k4⟩ := h.reach_n hp hr hl
        refine ⟨.agg vs.toArray, ?_, by simp only [VRel]; exact ⟨_, rfl, by simpa using k4, fun x hx => k3 x (by simpa using hx)⟩⟩
        have := run_loadCells_list (P := P) w ad vs k2
        rw [k1] at this
        simp [Instr.loadAt, Instr.sureAddr, loadVar, run_isAgg hg, run_sizeOf hn, this]
      · cases ha
    · rename_i hgf
      have hgf : g = false := by simpa using hgf
      subst hgf
      obtain ⟨ad, rfl, k1⟩ := h.reach hp hr
      obtain ⟨u, k2, k3, k4⟩ := k1 0 av (by simpa using ha)
      simp [Addr.add] at k2
      exact ⟨u, by simp [Instr.loadAt, Instr.sureAddr, loadVar, run_isAgg hg, k2], k4⟩
  · cases ha

theorem tel_ok {t e n : Nat} (h : tel P t = some (e, n)) : P.underlying t = some (.slice e) ∧ tsz P e = some n := by
  unfold tel at h
  split at h
  · rename_i e' hu
    cases hi : P.info? e' with
    | none => simp [hi] at h
    | some i => simp [hi] at h; obtain ⟨rfl, rfl⟩ := h; exact ⟨hu, by simp [tsz, hi]⟩
  · cases h
theorem tar_ok {t n z : Nat} {g : Bool} (h : tar P t = some (n, z, g)) : ∃ e, P.underlying t = some (.array n e) ∧ tsz P e = some z ∧ tagg P e = some g := by
  unfold tar at h
  split at h
  · rename_i n' e hu
    split at h
    · rename_i i d hi hd
      simp at h; obtain ⟨rfl, rfl, rfl⟩ := h; exact ⟨e, hu, by simp [tsz, hi], by simp [tagg, hd]⟩
    · cases h
  · cases h
theorem tsl_ok {t : Nat} (h : asl.tsl P t = 1) : P.underlying t = some .string := by
  unfold asl.tsl at h
  split at h
  · assumption
  · cases h
theorem tfv_ok {s i o n : Nat} {g : Bool} (h : tfv P s i = some (o, n, g)) : ∃ fs f, P.underlying s = some (.struct fs) ∧ fs[i]? = some f ∧ f.offset = o ∧ tsz P f.type = some n ∧ tagg P f.type = some g := by
  unfold tfv at h
  split at h
  · rename_i fs hu
    split at h
    · rename_i f hf
      split at h
      · rename_i inf d hi hd
        simp at h; obtain ⟨rfl, rfl, rfl⟩ := h; exact ⟨fs, f, hu, hf, rfl, by simp [tsz, hi], by simp [tagg, hd]⟩
      · cases h
    · cases h
  · cases h
theorem tfa_ok {s i o : Nat} (h : tfa P s i = some o) : ∃ fs f n, P.underlying s = some (.struct fs) ∧ fs[i]? = some f ∧ f.offset = o ∧ tsz P f.type = some n ∧ n ≠ 0 := by
  unfold tfa at h
  split at h
  · rename_i fs hu
    split at h
    · rename_i f hf
      split at h
      · rename_i inf hi
        split at h
        · cases h
        · rename_i hz
          simp at h; exact ⟨fs, f, inf.size, hu, hf, h, by simp [tsz, hi], hz⟩
      · cases h
    · cases h
  · cases h

theorem fieldAt_ok {s i o : Nat} {x : AV} {v : Value} {av : AV} (hx : VRel C x v) (ho : tfa P s i = some o)
    (ha : afield o x = some av) :
    ∃ u, (Instr.fieldAt s v i).run P w = .ok u w ∧ VRel C av u := by
  obtain ⟨fs, f, n, h1, h2, h3, h4, h5⟩ := tfa_ok ho
  have key : ∀ ad : Addr, (Instr.fieldAt s (.pointer (some ad)) i).run P w = .ok (.pointer (some (ad.add o))) w := fun ad => by
    simp [Instr.fieldAt, run_underlying h1, h2, Instr.sureAddr, fieldPlace, run_sizeOf h4, h5, h3]
  unfold afield at ha
  cases x <;> simp only [reduceCtorEq, Option.some.injEq] at ha <;> subst ha <;> simp only [VRel] at hx ⊢
  · obtain ⟨b, p, k1, rfl⟩ := hx
    exact ⟨_, key _, b, p, k1, by rw [Addr.add_none, Nat.add_assoc]⟩
  · obtain ⟨ad, rfl, k1⟩ := hx
    exact ⟨_, key _, ad, by rw [Addr.add_add], k1⟩

theorem nil_of_len {l : List AV} (h : l.length = 0) : l = [] := List.eq_nil_of_length_eq_zero h

theorem CellsAt.nil {ad : Addr} {i : Nat} : CellsAt C ad i [] := by simp [CellsAt]

theorem asl_ok (h : HRead E C H w) {t : TypeId} {x : AV} {v : Value} {av : AV} {lo hi mx : Option AV} {lo' hi' mx' : Option Value} (hx : VRel C x v) (h1 : ORel C lo lo') (h2 : ORel C hi hi') (h3 : ORel C mx mx')
    (ha : asl P t H x lo hi mx = some av) : ∃ u, (Instr.sliceAt t v lo' hi' mx').run P w = .ok u w ∧ VRel C av u := by
  cases x <;> simp only [asl, reduceCtorEq] at ha
  case str s =>
    split at ha
    · rename_i ht
      have hu := tsl_ok ht
      split at ha
      · cases ha
      · cases hb : abds s.length lo hi none with
        | none => simp [hb] at ha
        | some q =>
          obtain ⟨l, r, b⟩ := q
          simp only [hb, Option.some.injEq] at ha
          subst ha
          simp only [VRel] at hx ⊢
          subst hx
          cases mx' with
          | some _ => cases h3
          | none =>
            obtain ⟨m, k1, k2, k3, k4, k5, k6, k7, k8⟩ := bounds_ok (P := P) (w := w) (isSlice := false) (len := s.length) (cap := s.length) hb h1 h2 h3 rfl (Nat.le_refl _)
            have hs : (⟨s.toArray⟩ : ByteArray).size = s.length := by simp [ByteArray.size]
            refine ⟨.string ((⟨s.toArray⟩ : ByteArray).extract l r), by simp [Instr.sliceAt, Instr.slice, run_underlying hu, hs, k1], ?_⟩
            congr 1
            apply ByteArray.ext
            simp [List.extract_eq_take_drop, List.drop_take]
    · cases ha
  case nilsl =>
    cases ht : tel P t with
    | none => simp [ht] at ha
    | some q =>
      obtain ⟨e, z⟩ := q
      obtain ⟨hu, hz⟩ := tel_ok ht
      cases hb : abds 0 lo hi mx with
      | none => simp [ht, hb] at ha
      | some q =>
        obtain ⟨l, r, b⟩ := q
        simp only [ht, hb, Option.some.injEq] at ha
        subst ha
        simp only [VRel] at hx ⊢
        subst hx
        obtain ⟨m, k1, k2, k3, k4, k5, k6, k7, k8⟩ := bounds_ok (P := P) (w := w) (isSlice := true) (len := 0) (cap := 0) hb h1 h2 h3 rfl (Nat.le_refl _)
        obtain rfl : l = 0 := by omega
        obtain rfl : r = 0 := by omega
        obtain rfl : m = 0 := by omega
        exact ⟨_, by simp [Instr.sliceAt, Instr.slice, run_underlying hu, k1, run_sizeOf hz], rfl⟩
  case sl len tight cells =>
    cases ht : tel P t with
    | none => simp [ht] at ha
    | some q =>
      obtain ⟨e, z⟩ := q
      obtain ⟨hu, hz⟩ := tel_ok ht
      cases hb : abds len lo hi mx with
      | none => simp [ht, hb] at ha
      | some q =>
        obtain ⟨l, r, b⟩ := q
        simp only [ht, hb, Option.some.injEq] at ha
        subst ha
        simp only [VRel] at hx ⊢
        obtain ⟨A, cap, rfl, c1, c2, c3⟩ := hx
        obtain ⟨m, k1, k2, k3, k4, k5, k6, k7, k8⟩ := bounds_ok (P := P) (w := w) (isSlice := true) (len := len) (cap := cap) hb h1 h2 h3 rfl c1
        refine ⟨.slice (if m = l then A else A.map (·.add (l * z))) (r - l) (m - l), by simp [Instr.sliceAt, Instr.slice, run_underlying hu, k1, run_sizeOf hz], _, _, rfl, by omega, fun ht2 => ?_, ?_⟩
        · simp only [Bool.or_eq_true, Bool.and_eq_true, decide_eq_true_eq, Option.isNone_iff_eq_none] at ht2
          rcases ht2 with ht2 | ⟨ht2, ht3, rfl⟩
          · rw [k7 ht2]
          · rw [k6 ht3, c2 ht2]
        · rcases c3 with ⟨rfl, rfl, c4⟩ | ⟨ad, rfl, c4⟩
          · refine .inl ⟨by split <;> rfl, by omega, ?_⟩
            rw [nil_of_len c4]; simp
          · by_cases hm : m = l
            · have : r = l := by omega
              refine .inr ⟨ad, by rw [if_pos hm], ?_⟩
              have e0 : ((cells.take (r * z)).drop (l * z)) = [] := by
                apply nil_of_len; subst this; simp
              rw [e0]; exact CellsAt.nil
            · refine .inr ⟨ad.add (l * z), by rw [if_neg hm]; rfl, ?_⟩
              exact (c4.take (r * z)).drop (l * z)
  case msl id off len esz tight =>
    cases ht : tel P t with
    | none => simp [ht] at ha
    | some q =>
      obtain ⟨e, z⟩ := q
      obtain ⟨hu, hz⟩ := tel_ok ht
      simp only [ht] at ha
      split at ha
      · rename_i hez
        subst hez
        cases hb : abds len lo hi mx with
        | none => simp [hb] at ha
        | some q =>
          obtain ⟨l, r, b⟩ := q
          simp only [hb, Option.some.injEq] at ha
          subst ha
          simp only [VRel] at hx ⊢
          obtain ⟨bk, o, ad, cap, a1, rfl, c1, c2, c3, c4⟩ := hx
          obtain ⟨m, k1, k2, k3, k4, k5, k6, k7, k8⟩ := bounds_ok (P := P) (w := w) (isSlice := true) (len := len) (cap := cap) hb h1 h2 h3 rfl c1
          refine ⟨.slice (if m = l then some ad else some (ad.add (l * z))) (r - l) (m - l), by simp [Instr.sliceAt, Instr.slice, run_underlying hu, k1, run_sizeOf hz], ?_⟩
          refine ⟨bk, o, (if m = l then ad else ad.add (l * z)), m - l, a1, by split <;> rfl, by omega, fun ht2 => ?_, ?_, ?_⟩
          · simp only [Bool.or_eq_true, Bool.and_eq_true, decide_eq_true_eq, Option.isNone_iff_eq_none] at ht2
            rcases ht2 with ht2 | ⟨ht2, ht3, rfl⟩
            · rw [k7 ht2]
            · rw [k6 ht3, c2 ht2]
          · by_cases hm : m = l
            · exact .inl (by omega)
            · rw [if_neg hm]
              rcases c3 with c3 | c3
              · exact .inl (by omega)
              · right; subst c3; rw [Addr.add_none, Nat.add_assoc]
          · obtain ⟨c, x1, f1, d1, d2⟩ := c4
            refine ⟨c, x1, f1, d1, ?_⟩
            have : l * z + (m - l) * z = m * z := by rw [← Nat.add_mul]; congr 1; omega
            have : m * z ≤ cap * z := Nat.mul_le_mul_right _ k5
            omega
      · cases ha
  case rptr cells off =>
    cases ht : tar P t with
    | none => simp [ht] at ha
    | some q =>
      obtain ⟨n, z, g⟩ := q
      obtain ⟨e, hu, hz, hg⟩ := tar_ok ht
      simp only [ht] at ha
      split at ha
      · rename_i hl
        cases hb : abds n lo hi mx with
        | none => simp [hb] at ha
        | some q =>
          obtain ⟨l, r, b⟩ := q
          simp only [hb, Option.some.injEq] at ha
          subst ha
          simp only [VRel] at hx ⊢
          obtain ⟨ad, rfl, c4⟩ := hx
          obtain ⟨m, k1, k2, k3, k4, k5, k6, k7, k8⟩ := bounds_ok (P := P) (w := w) (isSlice := false) (len := n) (cap := n) hb h1 h2 h3 rfl (Nat.le_refl _)
          refine ⟨.slice (some (if m = l then ad.add off else (ad.add off).add (l * z))) (r - l) (m - l), by simp [Instr.sliceAt, Instr.slice, Instr.sureAddr, run_underlying hu, k1, run_sizeOf hz], _, _, rfl, by omega, fun ht2 => ?_, ?_⟩
          · simp only [Bool.or_eq_true, decide_eq_true_eq, Option.isNone_iff_eq_none] at ht2
            rcases ht2 with ht2 | ⟨ht3, rfl⟩
            · rw [k7 ht2]
            · rw [k6 ht3]
          · by_cases hm : m = l
            · have : r = l := by omega
              refine .inr ⟨ad.add off, by rw [if_pos hm], ?_⟩
              have e0 : ((((cells.drop off).take (r * z))).drop (l * z)) = [] := by
                apply nil_of_len; subst this; simp
              rw [e0]; exact CellsAt.nil
            · refine .inr ⟨(ad.add off).add (l * z), by rw [if_neg hm], ?_⟩
              exact ((c4.drop off).take (r * z)).drop (l * z)
      · cases ha
  case ptr id off =>
    cases ht : tar P t with
    | none => simp [ht] at ha
    | some q =>
      obtain ⟨n, z, g⟩ := q
      obtain ⟨e, hu, hz, hg⟩ := tar_ok ht
      cases hr : H.get id <;> simp only [ht, hr, reduceCtorEq] at ha
      rename_i cells
      split at ha
      · rename_i hl
        cases hb : abds n lo hi mx with
        | none => simp [hb] at ha
        | some q =>
          obtain ⟨l, r, b⟩ := q
          simp only [hb, Option.some.injEq] at ha
          subst ha
          simp only [VRel] at hx ⊢
          obtain ⟨bk, o, a1, rfl⟩ := hx
          have k5' := h.blk id bk o a1 (by rw [hr]; exact fun e => by cases e)
          rw [hr] at k5'
          obtain ⟨c, e1, f, m1, m2, m3, m4⟩ := k5'
          obtain ⟨m, k1, k2, k3, k4, k5, k6, k7, k8⟩ := bounds_ok (P := P) (w := w) (isSlice := false) (len := n) (cap := n) hb h1 h2 h3 rfl (Nat.le_refl _)
          refine ⟨.slice (some (if m = l then ⟨bk, o + off, none⟩ else (⟨bk, o + off, none⟩ : Addr).add (l * z))) (r - l) (m - l), by simp [Instr.sliceAt, Instr.slice, Instr.sureAddr, run_underlying hu, k1, run_sizeOf hz], bk, o, _, _, a1, rfl, by omega, fun ht2 => ?_, ?_, ?_⟩
          · simp only [Bool.or_eq_true, decide_eq_true_eq, Option.isNone_iff_eq_none] at ht2
            rcases ht2 with ht2 | ⟨ht3, rfl⟩
            · rw [k7 ht2]
            · rw [k6 ht3]
          · by_cases hm : m = l
            · exact .inl (by omega)
            · rw [if_neg hm]
              right; rw [Addr.add_none, Nat.add_assoc]
          · refine ⟨c, e1, f, m1, ?_⟩
            have : l * z + (m - l) * z = m * z := by rw [← Nat.add_mul]; congr 1; omega
            have : m * z ≤ n * z := Nat.mul_le_mul_right _ k5
            omega
      · cases ha
end
end Go.Zk
namespace Go.Zk

section
variable {E : Env} {B : Nat} {C : Ctx} {H : AHeap} {w : World} {P : Program}

theorem aidx_ok {t : TypeId} {x i : AV} {v u : Value} {av : AV} (hx : VRel C x v) (hi : VRel C i u) (ha : aidx P t x i = some av) : ∃ r, (Instr.indexAt t v u).run P w = .ok r w ∧ VRel C av r := by
  cases i <;> simp only [aidx, reduceCtorEq] at ha
  rename_i k i
  simp only [VRel] at hi
  subst hi
  cases x <;> simp only [reduceCtorEq] at ha
  case sl len tight cells =>
    cases ht : tel P t with
    | none => simp [ht] at ha
    | some q =>
      obtain ⟨e, z⟩ := q
      obtain ⟨hu, hz⟩ := tel_ok ht
      simp only [ht] at ha
      split at ha
      · rename_i hb
        simp only [Option.some.injEq] at ha
        subst ha
        simp only [VRel] at hx ⊢
        obtain ⟨A, cap, rfl, c1, c2, c3⟩ := hx
        rcases c3 with ⟨rfl, rfl, c4⟩ | ⟨ad, rfl, c4⟩
        · omega
        · exact ⟨.pointer (some (ad.add (i.toNat * z))), by simp [Instr.indexAt, asIntOf, run_underlying hu, hb, run_sizeOf hz], ad, rfl, c4⟩
      · cases ha
  case msl id off len esz tight =>
    cases ht : tel P t with
    | none => simp [ht] at ha
    | some q =>
      obtain ⟨e, z⟩ := q
      obtain ⟨hu, hz⟩ := tel_ok ht
      simp only [ht] at ha
      split at ha
      · rename_i hb
        simp only [Option.some.injEq] at ha
        subst ha
        simp only [VRel] at hx ⊢
        obtain ⟨bk, o, ad, cap, a1, rfl, c1, c2, c3, c4⟩ := hx
        have hb' : 0 ≤ i ∧ i < (len : Int) := ⟨hb.1, hb.2.1⟩
        rcases c3 with c3 | rfl
        · omega
        · exact ⟨.pointer (some ((⟨bk, o + off, none⟩ : Addr).add (i.toNat * z))), by simp [Instr.indexAt, asIntOf, run_underlying hu, hb', run_sizeOf hz], bk, o, a1, by rw [Addr.add_none, Nat.add_assoc]⟩
      · cases ha
  case rptr cells off =>
    cases ht : tar P t with
    | none => simp [ht] at ha
    | some q =>
      obtain ⟨n, z, g⟩ := q
      obtain ⟨e, hu, hz, hg⟩ := tar_ok ht
      simp only [ht] at ha
      split at ha
      · rename_i hb
        simp only [Option.some.injEq] at ha
        subst ha
        simp only [VRel] at hx ⊢
        obtain ⟨ad, rfl, c4⟩ := hx
        exact ⟨.pointer (some ((ad.add off).add (i.toNat * z))), by simp [Instr.indexAt, asIntOf, Instr.sureAddr, run_underlying hu, hb, run_sizeOf hz], ad, by rw [Addr.add_add], c4⟩
      · cases ha
  case ptr id off =>
    cases ht : tar P t with
    | none => simp [ht] at ha
    | some q =>
      obtain ⟨n, z, g⟩ := q
      obtain ⟨e, hu, hz, hg⟩ := tar_ok ht
      simp only [ht] at ha
      split at ha
      · rename_i hb
        simp only [Option.some.injEq] at ha
        subst ha
        simp only [VRel] at hx ⊢
        obtain ⟨bk, o, a1, rfl⟩ := hx
        exact ⟨.pointer (some ((⟨bk, o + off, none⟩ : Addr).add (i.toNat * z))), by simp [Instr.indexAt, asIntOf, Instr.sureAddr, run_underlying hu, hb, run_sizeOf hz], bk, o, a1, by rw [Addr.add_none, Nat.add_assoc]⟩
      · cases ha

theorem aindex_ok {t : TypeId} {x i : AV} {v u : Value} {av : AV} (hx : VRel C x v) (hi : VRel C i u) (ha : aindex P t x i = some av) : ∃ r, (Instr.index t v u).run P w = .ok r w ∧ VRel C av r := by
  cases i <;> simp only [aindex, reduceCtorEq] at ha
  rename_i k i
  simp only [VRel] at hi
  subst hi
  cases x <;> simp only [reduceCtorEq] at ha
  case str s =>
    split at ha
    · rename_i ht
      have hu := tsl_ok ht
      split at ha
      · rename_i h0
        cases hs : s[i.toNat]? with
        | none => simp [hs] at ha
        | some b =>
          simp only [hs, Option.map_some, Option.some.injEq] at ha
          subst ha
          simp only [VRel] at hx ⊢
          subst hx
          have h1 : (⟨s.toArray⟩ : ByteArray)[i.toNat]? = some b := by
            have hl : i.toNat < s.length := (List.getElem?_eq_some_iff.1 hs).1
            have he : s[i.toNat] = b := (List.getElem?_eq_some_iff.1 hs).2
            have hlt : i.toNat < (⟨s.toArray⟩ : ByteArray).size := by simpa [ByteArray.size] using hl
            rw [getElem?_pos (⟨s.toArray⟩ : ByteArray) i.toNat hlt]
            exact congrArg some he
          exact ⟨_, by simp [Instr.index, asIntOf, run_underlying hu, h0, h1], rfl⟩
      · cases ha
    · cases ha
  case agg cs =>
    cases ht : tar P t with
    | none => simp [ht] at ha
    | some q =>
      obtain ⟨n, z, g⟩ := q
      obtain ⟨e, hu, hz, hg⟩ := tar_ok ht
      simp only [ht] at ha
      split at ha
      · rename_i hb
        simp only [VRel] at hx
        obtain ⟨vs, rfl, c1, c2⟩ := hx
        obtain ⟨r, k1, k2⟩ := apart_ok (w := w) ha c1 c2 hg hz
        exact ⟨r, by simp [Instr.index, asIntOf, run_underlying hu, hb, run_sizeOf hz, k1], k2⟩
      · cases ha

theorem aconv_ok {s d : TypeId} {x : AV} {v : Value} {av : AV} (hx : VRel C x v) (ha : aconv P s d x = some av) : ∃ r, (convert s d v).run P w = .ok r w ∧ VRel C av r := by
  unfold aconv at ha
  split at ha
  · rename_i k1 k n q hs hd
    simp only [Option.some.injEq] at ha
    subst ha
    simp only [VRel] at hx ⊢
    subst hx
    exact ⟨_, by simp [convert, run_underlying hs, run_underlying hd, Conv.intToInt], rfl⟩
  · rename_i q hs hd
    simp only [Option.some.injEq] at ha
    subst ha
    simp only [VRel] at hx ⊢
    subst hx
    exact ⟨_, by simp [convert, run_underlying hs, run_underlying hd], rfl⟩
  · cases ha

theorem amm_min {x y z : AV} {u v : Value} (ha : amm true x y = some z) (hx : VRel C x u) (hy : VRel C y v) : ∃ r, (Builtin.min2 u v).run P w = .ok r w ∧ VRel C z r := by
  unfold amm at ha
  split at ha
  · simp only [Option.some.injEq, if_true] at ha
    subst ha
    simp only [VRel] at hx hy ⊢
    subst hx; subst hy
    exact ⟨_, rfl, rfl⟩
  · cases ha
theorem amm_max {x y z : AV} {u v : Value} (ha : amm false x y = some z) (hx : VRel C x u) (hy : VRel C y v) : ∃ r, (Builtin.max2 u v).run P w = .ok r w ∧ VRel C z r := by
  unfold amm at ha
  split at ha
  · simp only [Option.some.injEq, Bool.false_eq_true, if_false] at ha
    subst ha
    simp only [VRel] at hx hy ⊢
    subst hx; subst hy
    exact ⟨_, rfl, rfl⟩
  · cases ha
theorem amms_min : ∀ {l : List AV} {vs : List Value} {x z : AV} {u : Value}, amms true x l = some z → VRel C x u → VsRel C l vs → ∃ r, (vs.foldlM Builtin.min2 u).run P w = .ok r w ∧ VRel C z r
  | [], [], x, z, u, h, hx, _ => by simp only [amms, Option.some.injEq] at h; subst h; exact ⟨u, rfl, hx⟩
  | y :: l, v :: vs, x, z, u, h, hx, hl => by
    simp only [VsRel] at hl
    simp only [amms] at h
    cases hm : amm true x y with
    | none => simp [hm] at h
    | some q =>
      simp only [hm] at h
      obtain ⟨r, k1, k2⟩ := amm_min (P := P) (w := w) hm hx hl.1
      obtain ⟨r2, k3, k4⟩ := amms_min h k2 hl.2
      exact ⟨r2, by simp [List.foldlM_cons, k1, k3], k4⟩
  | [], v :: vs, _, _, _, _, _, h => by simp [VsRel] at h
  | c :: cs, [], _, _, _, _, _, h => by simp [VsRel] at h
theorem amms_max : ∀ {l : List AV} {vs : List Value} {x z : AV} {u : Value}, amms false x l = some z → VRel C x u → VsRel C l vs → ∃ r, (vs.foldlM Builtin.max2 u).run P w = .ok r w ∧ VRel C z r
  | [], [], x, z, u, h, hx, _ => by simp only [amms, Option.some.injEq] at h; subst h; exact ⟨u, rfl, hx⟩
  | y :: l, v :: vs, x, z, u, h, hx, hl => by
    simp only [VsRel] at hl
    simp only [amms] at h
    cases hm : amm false x y with
    | none => simp [hm] at h
    | some q =>
      simp only [hm] at h
      obtain ⟨r, k1, k2⟩ := amm_max (P := P) (w := w) hm hx hl.1
      obtain ⟨r2, k3, k4⟩ := amms_max h k2 hl.2
      exact ⟨r2, by simp [List.foldlM_cons, k1, k3], k4⟩
  | [], v :: vs, _, _, _, _, _, h => by simp [VsRel] at h
  | c :: cs, [], _, _, _, _, _, h => by simp [VsRel] at h

theorem alen_ok (h : HRead E C H w) {t ty : TypeId} {x : AV} {v : Value} {av : AV} (hx : VRel C x v) (ha : alen P t H x = some av) : ∃ r, (Builtin.len_ #[t] ty #[v]).run P w = .ok r w ∧ VRel C av r := by
  unfold alen at ha
  split at ha <;> (try simp only [Option.some.injEq, reduceCtorEq] at ha) <;> (try subst ha) <;> simp only [VRel] at hx ⊢
  · rename_i hu
    subst hx
    have hz : ∀ s : List UInt8, (⟨s.toArray⟩ : ByteArray).size = s.length := fun s => by simp [ByteArray.size]
    rename_i s
    refine ⟨goInt (⟨s.toArray⟩ : ByteArray).size, ?_, by show Value.int .i64 _ = _; rw [hz]⟩
    generalize (⟨s.toArray⟩ : ByteArray) = z
    simp [Builtin.len_, run_underlying hu]
  · rename_i hu
    subst hx
    exact ⟨_, by simp [Builtin.len_, run_underlying hu, goInt], rfl⟩
  · rename_i hu
    obtain ⟨A, cap, rfl, _⟩ := hx
    exact ⟨_, by simp [Builtin.len_, run_underlying hu, goInt], rfl⟩
  · rename_i hu
    obtain ⟨bk, o, ad, cap, a1, rfl, _⟩ := hx
    exact ⟨_, by simp [Builtin.len_, run_underlying hu, goInt], rfl⟩
  · rename_i hu
    subst hx
    exact ⟨_, by simp [Builtin.len_, run_underlying hu, goInt], rfl⟩
  · rename_i hu
    obtain ⟨r, es, c, rfl, h1, h2, h3, h4⟩ := hx
    have hl := h3.length
    simp at hl
    rw [h.heap] at h2
    exact ⟨.int .i64 es.size, by simp [Builtin.len_, run_underlying hu, goInt, getObj, Sem.run, h2], by rw [hl]⟩
  · rename_i id hu
    obtain ⟨bk, a1, rfl⟩ := hx
    cases hr : H.get id <;> simp only [hr, Option.some.injEq, reduceCtorEq] at ha
    rename_i ks vs
    subst ha
    have k5 := h.blk id bk 0 a1 (by rw [hr]; exact fun e => by cases e)
    rw [hr] at k5
    obtain ⟨_, es, clock, m1, m2, m3⟩ := k5
    have hl := m2.length
    simp at hl
    rw [h.heap] at m1
    refine ⟨.int .i64 es.size, by simp [Builtin.len_, run_underlying hu, goInt, getObj, Sem.run, m1], ?_⟩
    simp only [VRel]
    rw [hl]

theorem abin_ok {op : BinOp} {t : TypeId} {x y : AV} {u v : Value} {av : AV} (hx : VRel C x u) (hy : VRel C y v) (ha : abin P op t x y = some av) (ox oy : Operand) :
    ∃ r, ((eqGuard op t ox oy u v).run P w = .ok () w) ∧ (binOp op t u v).run P w = .ok r w ∧ VRel C av r := by
  unfold abin at ha
  split at ha
  · rename_i k a k' b
    simp only [VRel] at hx hy
    subst hx; subst hy
    have hg : (eqGuard op t ox oy (.int k a) (.int k' b)).run P w = .ok () w := by cases op <;> simp [eqGuard]
    split at ha
    · obtain ⟨r, k1, k2⟩ := ashift_ok (P := P) (w := w) (C := C) (yk := k') ha t (.inl rfl)
      exact ⟨r, hg, k1, k2⟩
    · obtain ⟨r, k1, k2⟩ := ashift_ok (P := P) (w := w) (C := C) (yk := k') ha t (.inr rfl)
      exact ⟨r, hg, k1, k2⟩
    · split at ha
      · rename_i hk
        subst hk
        obtain ⟨r, k1, k2⟩ := aint_ok (P := P) (w := w) (C := C) ha t
        exact ⟨r, hg, k1, k2⟩
      · cases ha
  · simp only [VRel] at hx hy
    subst hx; subst hy
    obtain ⟨r, k1, k2⟩ := astr_ok (P := P) (w := w) (C := C) ha t
    exact ⟨r, by cases op <;> simp [eqGuard], k1, k2⟩
  · rename_i hn1 hn2
    have key : ∀ b, aeq P t x y = some b → (∀ op', op' = .eql ∨ op' = .neq → (eqGuard op' t ox oy u v).run P w = .ok () w ∧ (binOp op' t u v) = (Op.equal t u v >>= fun c => pure (.bool (if op' = .eql then c else !c)))) ∧ (Op.equal t u v).run P w = .ok b w := by
      intro b hb
      unfold aeq at hb
      split at hb
      · rename_i xs ys
        cases ht : tplain P t with
        | none => simp [ht] at hb
        | some fs =>
          simp only [ht] at hb
          unfold tplain at ht
          split at ht
          · rename_i fields hu
            split at ht
            · cases ht
            · rename_i hno
              simp only [Bool.or_eq_true, not_or, Bool.not_eq_true] at hno
              simp only [VRel] at hx hy
              obtain ⟨us, rfl, h1, h2⟩ := hx
              obtain ⟨vs, rfl, h3, h4⟩ := hy
              have hF : P.fieldsOf t = fields := by simp [Program.fieldsOf, hu]
              refine ⟨fun op' hop => ⟨run_eqGuard_agg w op' t ox oy us vs hno.2, ?_⟩, ?_⟩
              · rcases hop with rfl | rfl <;> simp [binOp]
              · unfold Op.equal Op.maxDepth
                rw [run_equalIn_struct w 9999 t us vs (by rw [hF]; exact hu) hno.1, hF]
                exact aeqs_ok ht hb h1 h3 9998
          · cases ht
      · rename_i hna
        cases hu : P.underlying t with
        | none => simp [hu] at hb
        | some d =>
          simp only [hu] at hb
          refine ⟨fun op' hop => ?_, aeq1_ok hb hx hy t hu 9999⟩
          unfold aeq1 at hb
          split at hb <;> (try cases hb) <;> simp only [VRel] at hx hy
          · subst hx; subst hy; rcases hop with rfl | rfl <;> simp [eqGuard, binOp]
          · rename_i k a k' b'
            exact absurd rfl (hn1 k a k' b' rfl)
          · rename_i a b'
            exact absurd rfl (hn2 a b' rfl)
          · subst hx; subst hy; rcases hop with rfl | rfl <;> simp [eqGuard, binOp]
          · obtain ⟨b', o, h1, rfl⟩ := hy; subst hx; rcases hop with rfl | rfl <;> simp [eqGuard, binOp]
          · obtain ⟨ad, rfl, h1⟩ := hy; subst hx; rcases hop with rfl | rfl <;> simp [eqGuard, binOp]
          · obtain ⟨b', o, h1, rfl⟩ := hx; subst hy; rcases hop with rfl | rfl <;> simp [eqGuard, binOp]
          · obtain ⟨ad, rfl, h1⟩ := hx; subst hy; rcases hop with rfl | rfl <;> simp [eqGuard, binOp]
          · subst hx; subst hy; rcases hop with rfl | rfl <;> simp [eqGuard, binOp]
          · obtain ⟨A, cap, rfl, h1⟩ := hx; subst hy; rcases hop with rfl | rfl <;> simp [eqGuard, binOp]
          · obtain ⟨A, cap, rfl, h1⟩ := hy; subst hx; rcases hop with rfl | rfl <;> simp [eqGuard, binOp]
          · obtain ⟨b', o, ad, cap, h1, rfl, h2⟩ := hx; subst hy; rcases hop with rfl | rfl <;> simp [eqGuard, binOp]
          · obtain ⟨b', o, ad, cap, h1, rfl, h2⟩ := hy; subst hx; rcases hop with rfl | rfl <;> simp [eqGuard, binOp]
          · subst hx; subst hy; rcases hop with rfl | rfl <;> simp [eqGuard, binOp]
          · obtain ⟨b', h1, rfl⟩ := hx; subst hy; rcases hop with rfl | rfl <;> simp [eqGuard, binOp]
          · obtain ⟨r, es, c, rfl, h1⟩ := hx; subst hy; rcases hop with rfl | rfl <;> simp [eqGuard, binOp]
          · subst hx; subst hy; rcases hop with rfl | rfl <;> simp [eqGuard, binOp]
          · obtain ⟨a, b', rfl, h1⟩ := hx; subst hy; rcases hop with rfl | rfl <;> simp [eqGuard, binOp]
          · obtain ⟨b', h1, rfl⟩ := hx; subst hy; rcases hop with rfl | rfl <;> simp [eqGuard, binOp]
          · obtain ⟨a, b', rfl, h1⟩ := hy; subst hx; rcases hop with rfl | rfl <;> simp [eqGuard, binOp]
    split at ha
    · cases hq : aeq P t x y with
      | none => simp [hq] at ha
      | some b =>
        simp only [hq, Option.map_some, Option.some.injEq] at ha
        subst ha
        obtain ⟨k1, k2⟩ := key b hq
        obtain ⟨k3, k4⟩ := k1 .eql (.inl rfl)
        exact ⟨.bool b, k3, by rw [k4]; simp [k2], by simp [VRel]⟩
    · cases hq : aeq P t x y with
      | none => simp [hq] at ha
      | some b =>
        simp only [hq, Option.map_some, Option.some.injEq] at ha
        subst ha
        obtain ⟨k1, k2⟩ := key b hq
        obtain ⟨k3, k4⟩ := k1 .neq (.inr rfl)
        exact ⟨.bool !b, k3, by rw [k4]; simp [k2], by simp [VRel]⟩
    · cases ha
end
end Go.Zk
namespace Go.Zk

section
variable {E : Env} {B : Nat} {C : Ctx} {H : AHeap} {w : World} {P : Program}

theorem rels {ρ : Operand → AV} {σ : Operand → Value} (hρ : ∀ x, VRel C (ρ x) (σ x)) : ∀ l : List Operand, VsRel C (l.map ρ) (l.map σ)
  | [] => VsRel.nil
  | x :: l => VsRel.cons (hρ x) (rels hρ l)

theorem aval_ok (h : HRead E C H w) {ρ : Operand → AV} {σ : Operand → Value} (hρ : ∀ x, VRel C (ρ x) (σ x)) {o : Oper} {av : AV} (ha : aval E o.op ρ H = some av) :
    ∃ v, (execOp σ o).run E.P w = .ok (.value v) w ∧ VRel C av v := by
  obtain ⟨dst, op, ty, pos, after, guard⟩ := o
  cases op <;> simp only [aval, reduceCtorEq] at ha
  case move x => simp only [Option.some.injEq] at ha; subst ha; exact ⟨σ x, by simp [execOp], hρ x⟩
  case assign x => simp only [Option.some.injEq] at ha; subst ha; exact ⟨σ x, by simp [execOp], hρ x⟩
  case pick c a b =>
    cases hc : ρ c <;> simp only [hc, Option.some.injEq, reduceCtorEq] at ha
    rename_i t
    have hv := hρ c
    rw [hc] at hv
    simp only [VRel] at hv
    subst ha
    cases t with
    | true => exact ⟨σ a, by simp [execOp, hv, asBool], hρ a⟩
    | false => exact ⟨σ b, by simp [execOp, hv, asBool], hρ b⟩
  case load t a => obtain ⟨v, k1, k2⟩ := aload_ok h (hρ a) ha; exact ⟨v, by simp [execOp, k1], k2⟩
  case nilCheck x =>
    have hv := hρ x
    cases hc : ρ x <;> simp only [hc, Option.some.injEq, reduceCtorEq] at ha <;> rw [hc] at hv <;> subst ha <;> refine ⟨σ x, ?_, hv⟩ <;> simp only [VRel] at hv
    · obtain ⟨b, o, k1, k2⟩ := hv; simp [execOp, k2]
    · obtain ⟨ad, k1, k2⟩ := hv; simp [execOp, k1]
    · obtain ⟨a, b, k1, k2⟩ := hv; simp [execOp, k1]
    · obtain ⟨b, k1, k2⟩ := hv; simp [execOp, k2]
  case binOp op t x y yt => obtain ⟨v, k1, k2, k3⟩ := abin_ok (w := w) (hρ x) (hρ y) ha x y; exact ⟨v, by simp [execOp, k1, k2], k3⟩
  case unOp op t x =>
    have hv := hρ x
    unfold aun at ha
    split at ha
    · rename_i k n hx
      rw [hx] at hv; simp only [VRel] at hv
      simp only [Option.some.injEq] at ha; subst ha
      exact ⟨_, by simp [execOp, hv, Op.unary, Op.intArith]; rfl, by simp [VRel]⟩
    · rename_i k n hx
      rw [hx] at hv; simp only [VRel] at hv
      simp only [Option.some.injEq] at ha; subst ha
      exact ⟨_, by simp [execOp, hv, Op.unary, Op.intBits]; rfl, by simp [VRel]⟩
    · rename_i b hx
      rw [hx] at hv; simp only [VRel] at hv
      simp only [Option.some.injEq] at ha; subst ha
      exact ⟨_, by simp [execOp, hv, Op.unary]; rfl, by simp [VRel]⟩
    · cases ha
  case convert s d x => obtain ⟨v, k1, k2⟩ := aconv_ok (w := w) (hρ x) ha; exact ⟨v, by simp [execOp, k1], k2⟩
  case makeFunc fn first captured =>
    cases fn <;> simp only [Option.some.injEq, reduceCtorEq] at ha
    subst ha
    refine ⟨_, by simp [execOp, Instr.makeFunc]; rfl, ?_⟩
    simp only [VRel]
    exact ⟨_, _, rfl, by simpa using rels hρ first.toList, by simpa using rels hρ captured.toList⟩
  case slice t x lo hi mx => obtain ⟨v, k1, k2⟩ := asl_ok h (hρ x) (ORel.map hρ lo) (ORel.map hρ hi) (ORel.map hρ mx) ha; exact ⟨v, by simp [execOp, k1], k2⟩
  case fieldAddr s x i =>
    cases ht : tfa E.P s i with
    | none => simp [ht] at ha
    | some o =>
      simp only [ht] at ha
      obtain ⟨v, k1, k2⟩ := fieldAt_ok (w := w) (P := E.P) (hρ x) ht ha
      exact ⟨v, by simp [execOp, k1], k2⟩
  case field s x i =>
    cases ht : tfv E.P s i with
    | none => simp [ht] at ha
    | some q =>
      obtain ⟨o, n, g⟩ := q
      have hv := hρ x
      cases hx : ρ x <;> simp only [ht, hx, reduceCtorEq] at ha
      rw [hx] at hv
      simp only [VRel] at hv
      obtain ⟨vs, k1, k2, k3⟩ := hv
      obtain ⟨fs, f, h1, h2, h3, h4, h5⟩ := tfv_ok ht
      subst h3
      obtain ⟨v, k4, k5⟩ := apart_ok (w := w) ha k2 k3 h5 h4
      exact ⟨v, by simp [execOp, Instr.field, run_underlying h1, h2, k1, asAgg, k4], k5⟩
  case indexAddr t x i => obtain ⟨v, k1, k2⟩ := aidx_ok (w := w) (hρ x) (hρ i) ha; exact ⟨v, by simp [execOp, k1], k2⟩
  case index t x i => obtain ⟨v, k1, k2⟩ := aindex_ok (w := w) (hρ x) (hρ i) ha; exact ⟨v, by simp [execOp, k1], k2⟩
  case extract x i =>
    have hv := hρ x
    unfold aextract at ha
    cases hx : ρ x <;> simp only [hx, reduceCtorEq] at ha
    rename_i vs
    rw [hx] at hv
    simp only [VRel] at hv
    obtain ⟨us, k1, k2⟩ := hv
    obtain ⟨v, k3, k4⟩ := k2.get _ _ ha
    have k3' : us[i]? = some v := by simpa using k3
    exact ⟨v, by simp [execOp, Instr.extract, k1, k3'], k4⟩
  case call c =>
    obtain ⟨callee, args, argTypes⟩ := c
    unfold acall0 at ha
    split at ha
    · rename_i e
      simp only at e
      subst e
      simp only at ha
      split at ha
      · rename_i x t e1 e2
        obtain rfl : args = #[x] := by rw [← Array.toArray_toList (xs := args), e1]
        obtain rfl : argTypes = #[t] := by rw [← Array.toArray_toList (xs := argTypes), e2]
        obtain ⟨v, k1, k2⟩ := alen_ok (ty := ty) h (hρ x) ha
        exact ⟨v, by simp [execOp, resolve, invoke, builtin, k1], k2⟩
      · cases ha
    · rename_i e
      simp only at e
      subst e
      simp only at ha
      split at ha
      · rename_i x l e1
        obtain rfl : args = (x :: l).toArray := by rw [← Array.toArray_toList (xs := args), e1]
        obtain ⟨v, k1, k2⟩ := amms_min (P := E.P) (w := w) ha (hρ x) (rels hρ l)
        exact ⟨v, by simp [execOp, resolve, invoke, builtin, Builtin.min_, k1], k2⟩
      · cases ha
    · rename_i e
      simp only at e
      subst e
      simp only at ha
      split at ha
      · rename_i x l e1
        obtain rfl : args = (x :: l).toArray := by rw [← Array.toArray_toList (xs := args), e1]
        obtain ⟨v, k1, k2⟩ := amms_max (P := E.P) (w := w) ha (hρ x) (rels hρ l)
        exact ⟨v, by simp [execOp, resolve, invoke, builtin, Builtin.max_, k1], k2⟩
      · cases ha
    · cases ha
end
end Go.Zk
namespace Go.Zk

/-- two keys, of a plain kind or arrays of whole numbers -/
def aints : List AV → List AV → Option Bool
  | [], [] => some true
  | .int k a :: x, .int k' b :: y => if k = k' then match aints x y with
    | some c => some (decide (a = b) && c)
    | none => none
    else none
  | _, _ => none
def akey (P : Program) (d : TypeDesc) (x y : AV) : Option Bool :=
  match d, x, y with
  | .int _, .int k a, .int k' b => if k = k' then some (decide (a = b)) else none
  | .string, .str a, .str b => some (decide (a = b))
  | .bool, .bool a, .bool b => some (decide (a = b))
  | .array n e, .agg xs, .agg ys => match P.underlying e with
    | some (.int _) => if tsz P e = some 1 ∧ xs.length = n ∧ ys.length = n then aints xs ys else none
    | _ => none
  | _, _, _ => none
def keyOk (P : Program) (d : TypeDesc) (x : AV) : Bool :=
  match d, x with
  | .int _, .int _ _ => true
  | .string, .str _ => true
  | .bool, .bool _ => true
  | .array n e, .agg xs => match P.underlying e with
    | some (.int _) => decide (tsz P e = some 1 ∧ xs.length = n) && xs.all fun | .int _ _ => true | _ => false
    | _ => false
  | _, _ => false
def afind (P : Program) (d : TypeDesc) (x : AV) : List AV → Nat → Option (Option Nat)
  | [], _ => some none
  | k :: ks, i => match akey P d x k with
    | some b => if b = true then some (some i) else afind P d x ks (i + 1)
    | none => none
def mapAt (H : AHeap) : AV → Option (List AV × List AV)
  | .nilmap => some ([], [])
  | .map id => match H.get id with
    | .map ks vs => some (ks, vs)
    | _ => none
  | .rmap ks vs => some (ks, vs)
  | _ => none
def tzero (P : Program) (t : TypeId) : Option AV := match P.info? t with
  | some i => match i.zero with
    | some v => some (avOf v)
    | none => none
  | none => none
def alookup0 (P : Program) (t : TypeId) (H : AHeap) (m k : AV) (ok : Bool) : Option AV :=
  match P.underlying t with
  | some (.map kt et) => match P.underlying kt with
    | some d => if keyOk P d k = true then match mapAt H m with
      | some (ks, vs) => match afind P d k ks 0 with
        | some (some i) => match vs[i]? with
          | some v => some (if ok = true then .tuple [v, .bool true] else v)
          | none => none
        | some none => match tzero P et with
          | some z => some (if ok = true then .tuple [z, .bool false] else z)
          | none => none
        | none => none
      | none => none
      else none
    | none => none
  | _ => none
/-- A map whose entries lie in an order that is not known: every key is asked. -/
def aglook (P : Program) (t : TypeId) (ks vs : List AV) (k : AV) (ok : Bool) : Option AV :=
  match P.underlying t with
  | some (.map kt et) => match P.underlying kt with
    | some d => if keyOk P d k = true ∧ (ks.all fun y => (akey P d k y).isSome) = true then match afind P d k ks 0 with
      | some (some i) => match vs[i]? with
        | some v => some (if ok = true then .tuple [v, .bool true] else v)
        | none => none
      | some none => match tzero P et with
        | some z => some (if ok = true then .tuple [z, .bool false] else z)
        | none => none
      | none => none
      else none
    | none => none
  | _ => none
def alookup (P : Program) (t : TypeId) (H : AHeap) (m k : AV) (ok : Bool) : Option AV :=
  match m with
  | .gmap ks vs => aglook P t ks vs k ok
  | m => alookup0 P t H m k ok

section
variable {E : Env} {B : Nat} {C : Ctx} {H : AHeap} {w : World} {P : Program}

theorem forIn_unit_ok {f : Nat → PUnit → Sem (ForInStep PUnit)} : ∀ (n s : Nat), (∀ i, s ≤ i → i < s + n → (f i ⟨⟩).run P w = .ok (.yield ⟨⟩) w) → (forIn (List.range' s n) PUnit.unit f).run P w = .ok ⟨⟩ w
  | 0, s, _ => rfl
  | n + 1, s, h => by
    simp only [List.range'_succ, List.forIn_cons, Sem.run_bind, h s (Nat.le_refl _) (by omega), Result.andThen_ok]
    exact forIn_unit_ok n (s + 1) fun i h1 h2 => h i (by omega) (by omega)

theorem ck_int {kt : TypeId} {k k' : IntKind} {q : Int} (hu : P.underlying kt = some (.int k')) (e : Bool) (n : Nat) : (Instr.checkKey e (n + 1) kt (.int k q)).run P w = .ok () w := by
  simp [Instr.checkKey, run_underlying hu]
theorem ck_str {kt : TypeId} {s : ByteArray} (hu : P.underlying kt = some .string) (e : Bool) (n : Nat) : (Instr.checkKey e (n + 1) kt (.string s)).run P w = .ok () w := by
  simp [Instr.checkKey, run_underlying hu]
theorem ck_bool {kt : TypeId} {s : Bool} (hu : P.underlying kt = some .bool) (e : Bool) (n : Nat) : (Instr.checkKey e (n + 1) kt (.bool s)).run P w = .ok () w := by
  simp [Instr.checkKey, run_underlying hu]

/-- what an array key of whole numbers is -/
theorem key_arr {el n : Nat} {xs : List AV} {vs : Array Value} (h1 : VsRel C xs vs.toList) (hl : xs.length = n) (hall : (xs.all fun | .int _ _ => true | _ => false) = true) {kk : IntKind} (hel : P.underlying el = some (.int kk)) :
    ∀ i, i < n → ∃ k q, xs[i]? = some (.int k q) ∧ vs[i]? = some (.int k q) ∧ (part el vs (i * 1)).run P w = .ok (.int k q) w := fun i hi => by
  have hagg : tagg P el = some false := by simp [tagg, hel, aggOf]
  obtain ⟨u, hu1, hu2⟩ := h1.get i (xs[i]'(by omega)) (List.getElem?_eq_getElem (by omega))
  rw [List.all_eq_true] at hall
  have h3 := hall (xs[i]'(by omega)) (List.getElem_mem (by omega))
  cases hxi : (xs[i]'(by omega)) with
  | int k q =>
    rw [hxi] at hu2
    simp only [VRel] at hu2
    subst hu2
    have hu1' : vs[i]? = some (.int k q) := by simpa using hu1
    exact ⟨k, q, by rw [List.getElem?_eq_getElem (by omega), hxi], hu1', by simp [part, run_isAgg hagg, hu1']⟩
  | _ => rw [hxi] at h3; simp at h3

theorem ck_arr {kt el n : Nat} {vs : Array Value} {kk : IntKind} (hu : P.underlying kt = some (.array n el)) (hel : P.underlying el = some (.int kk)) (hz : tsz P el = some 1)
    (hp : ∀ i, i < n → ∃ k q, (part el vs (i * 1)).run P w = .ok (.int k q) w) (e : Bool) (m : Nat) : (Instr.checkKey e (m + 2) kt (.agg vs)).run P w = .ok () w := by
  unfold Instr.checkKey
  simp only [Sem.run_bind, run_underlying hu, Result.andThen_ok]
  simp only [Std.Legacy.Range.forIn_eq_forIn_range', Std.Legacy.Range.size]
  rw [show (n - 0 + 1 - 1) / 1 = n from by omega]
  refine Eq.trans (congrArg (fun r => Result.andThen r _) (forIn_unit_ok n 0 fun i h1 h2 => ?_)) rfl
  obtain ⟨k, q, hq⟩ := hp i (by omega)
  simp only [Sem.run_bind, run_sizeOf hz, Result.andThen_ok, hq, ck_int hel, Sem.run_pure]

theorem checkKey_ok {d : TypeDesc} {kt : TypeId} (hu : P.underlying kt = some d) {x : AV} {v : Value} (hx : VRel C x v) (hk : keyOk P d x = true) (e : Bool) : (Instr.checkKey e 10000 kt v).run P w = .ok () w := by
  unfold keyOk at hk
  split at hk <;> (try simp only [VRel] at hx)
  · subst hx; exact ck_int hu e 9999
  · subst hx; exact ck_str hu e 9999
  · subst hx; exact ck_bool hu e 9999
  · rename_i n el xs
    obtain ⟨vs, rfl, h1, h2⟩ := hx
    split at hk
    · rename_i kk hel
      simp only [Bool.and_eq_true, decide_eq_true_eq] at hk
      obtain ⟨⟨hz, hl⟩, hall⟩ := hk
      exact ck_arr hu hel hz (fun i hi => by obtain ⟨k, q, _, _, h⟩ := key_arr (P := P) (w := w) h1 hl hall hel i hi; exact ⟨k, q, h⟩) e 9998
    · cases hk
  · cases hk

def eqArr (d : Nat) (elem : TypeId) (n : Nat) (xs ys : Array Value) : List Nat → Sem Bool
  | [] => pure true
  | i :: is => do
    let a ← part elem xs (i * n)
    let b ← part elem ys (i * n)
    let r ← Op.equalIn d elem a b
    if (!r) = true then pure false else eqArr d elem n xs ys is
theorem run_equalIn_arr (d : Nat) {t el n len : Nat} (xs ys : Array Value) (ht : P.underlying t = some (.array len el)) (hz : tsz P el = some n) :
    (Op.equalIn (d + 1) t (.agg xs) (.agg ys)).run P w = (eqArr d el n xs ys (List.range' 0 len)).run P w := by
  simp only [Op.equalIn, Sem.run_bind, run_underlying ht, Result.andThen_ok, run_sizeOf hz]
  simp only [Std.Legacy.Range.forIn_eq_forIn_range', Std.Legacy.Range.size]
  rw [show (len - 0 + 1 - 1) / 1 = len from by omega]
  generalize List.range' 0 len = l
  induction l generalizing w with
  | nil => simp [eqArr]
  | cons i l ih =>
    simp only [List.forIn_cons, eqArr, Sem.run_bind]
    generalize (part el xs (i * n)).run P w = r1
    cases r1 with
    | ok a w1 =>
      simp only [Result.andThen_ok]
      generalize (part el ys (i * n)).run P w1 = r2
      cases r2 with
      | ok b w2 =>
        simp only [Result.andThen_ok]
        generalize (Op.equalIn d el a b).run P w2 = r3
        cases r3 with
        | ok r w3 =>
          cases r
          · simp only [Result.andThen_ok, Bool.not_false, if_true, Sem.run_pure]
          · simp only [Result.andThen_ok, Bool.not_true, Bool.false_eq_true, if_false, Sem.run_pure]
            exact ih
        | halt x w3 => simp [Result.andThen]
      | halt x w2 => simp [Result.andThen]
    | halt x w1 => simp [Result.andThen]

theorem aints_ok {d el kk : Nat} : True := trivial

theorem eqArr_ok {el : TypeId} {kk : IntKind} (hel : P.underlying el = some (.int kk)) {us vs : Array Value} (m : Nat) : ∀ {xs ys : List AV} {c : Bool} (s : Nat), aints xs ys = some c →
    VsRel C xs (us.toList.drop s) → VsRel C ys (vs.toList.drop s) → (eqArr (m + 1) el 1 us vs (List.range' s xs.length)).run P w = .ok c w
  | [], [], c, s, h, h1, h2 => by simp only [aints, Option.some.injEq] at h; subst h; rfl
  | x :: xs, y :: ys, c, s, h, h1, h2 => by
    have hagg : tagg P el = some false := by simp [tagg, hel, aggOf]
    cases x <;> cases y <;> simp only [aints, reduceCtorEq] at h
    rename_i k a k' b
    split at h
    · rename_i hk
      subst hk
      cases hr : aints xs ys with
      | none => simp [hr] at h
      | some c' =>
        simp only [hr, Option.some.injEq] at h
        obtain ⟨u, hu1, hu2⟩ := h1.get 0 _ (by simp; rfl)
        obtain ⟨v, hv1, hv2⟩ := h2.get 0 _ (by simp; rfl)
        simp only [VRel] at hu2 hv2
        subst hu2; subst hv2
        have hu3 : us[s]? = some (.int k a) := by simpa using hu1
        have hv3 : vs[s]? = some (.int k b) := by simpa using hv1
        have t1 : VsRel C xs (us.toList.drop (s + 1)) := by
          have := h1.drop 1
          simpa using this
        have t2 : VsRel C ys (vs.toList.drop (s + 1)) := by
          have := h2.drop 1
          simpa using this
        have ih := eqArr_ok hel m (s + 1) hr t1 t2
        simp only [List.length_cons, List.range'_succ, eqArr, Sem.run_bind, Nat.mul_one, part, run_isAgg hagg, Result.andThen_ok, Bool.false_eq_true, if_false, hu3, hv3, Sem.run_pure, run_equalIn_int _ m el _ _ _ _ hel]
        by_cases hab : a = b
        · subst hab
          simp only [BEq.rfl, Bool.not_true, Bool.false_eq_true, if_false, ih]
          simp at h
          rw [h]
        · have : (a == b) = false := by simpa using hab
          simp only [this, Bool.not_false, if_true, Sem.run_pure]
          simp [hab] at h
          rw [h]
    · cases h
  | [], y :: ys, _, _, h, _, _ => by simp [aints] at h
  | x :: xs, [], _, _, h, _, _ => by cases x <;> simp [aints] at h

theorem findNow_ok {d : TypeDesc} {x : AV} {v : Value} (hx : VRel C x v) (hd : ∀ n e, d ≠ .array n e) : ∀ {ks : List AV} {es : List MapEntry} {r : Option Nat} (s : Nat), VsRel C ks (es.map (·.key)) → afind P d x ks s = some r →
    Instr.findNow d v es s = some (r.bind fun i => (es[i - s]?).map fun e => (i, e.val)) ∧ ∀ i, r = some i → s ≤ i ∧ i < s + es.length
  | [], [], r, s, _, h => by simp only [afind, Option.some.injEq] at h; subst h; exact ⟨rfl, fun i e => by cases e⟩
  | k :: ks, e :: es, r, s, h1, h => by
    simp only [List.map_cons, VsRel] at h1
    simp only [afind] at h
    cases hk : akey P d x k with
    | none => simp [hk] at h
    | some b =>
      simp only [hk] at h
      have hs : Instr.sameNow d v e.key = some b := by
        unfold akey at hk
        split at hk <;> (try simp only [VRel] at hx h1)
        · split at hk
          · rename_i hkk
            simp only [Option.some.injEq] at hk
            subst hkk; rw [hx, h1.1]; subst hk
            simp only [Instr.sameNow, if_true, Option.some.injEq]
            rw [Bool.eq_iff_iff]; simp
          · cases hk
        · simp only [Option.some.injEq] at hk
          rw [hx, h1.1]; subst hk
          simp only [Instr.sameNow, Option.some.injEq]
          exact bytes_eq_iff _ _
        · simp only [Option.some.injEq] at hk
          rw [hx, h1.1]; subst hk
          simp only [Instr.sameNow, Option.some.injEq]
          rw [Bool.eq_iff_iff]; simp
        · rename_i n el xs ys; exact absurd rfl (hd n el)
        · cases hk
      cases b with
      | true =>
        simp only [if_true, Option.some.injEq] at h
        subst h
        exact ⟨by simp [Instr.findNow, hs], fun i e => by cases e; exact ⟨Nat.le_refl _, by simp⟩⟩
      | false =>
        simp only [Bool.false_eq_true, if_false] at h
        obtain ⟨k1, k2⟩ := findNow_ok hx hd (s + 1) h1.2 h
        refine ⟨?_, fun i e => by have := k2 i e; simp; omega⟩
        simp only [Instr.findNow, hs, k1]
        cases r with
        | none => rfl
        | some i =>
          have := k2 i rfl
          simp only [Option.bind_some]
          rw [show i - s = (i - (s + 1)) + 1 from by omega]
          simp
  | [], e :: es, _, _, h, _ => by simp [VsRel] at h
  | k :: ks, [], _, _, h, _ => by simp [VsRel] at h

theorem findAsking_ok {n el kt : TypeId} {kk : IntKind} (hu : P.underlying kt = some (.array n el)) (hel : P.underlying el = some (.int kk)) {x : AV} {v : Value} (hx : VRel C x v) :
    ∀ {ks : List AV} {es : List MapEntry} {r : Option Nat} (s : Nat), VsRel C ks (es.map (·.key)) → afind P (.array n el) x ks s = some r →
    (Instr.findAsking kt v es s).run P w = .ok (r.bind fun i => (es[i - s]?).map fun e => (i, e.val)) w ∧ ∀ i, r = some i → s ≤ i ∧ i < s + es.length
  | [], [], r, s, _, h => by simp only [afind, Option.some.injEq] at h; subst h; exact ⟨rfl, fun i e => by cases e⟩
  | k :: ks, e :: es, r, s, h1, h => by
    simp only [List.map_cons, VsRel] at h1
    simp only [afind] at h
    cases hk : akey P (.array n el) x k with
    | none => simp [hk] at h
    | some b =>
      simp only [hk] at h
      have hs : (Op.equal kt v e.key).run P w = .ok b w := by
        unfold akey at hk
        split at hk
        · exact absurd ‹TypeDesc.array n el = TypeDesc.int _› (fun e => by cases e)
        · exact absurd ‹TypeDesc.array n el = TypeDesc.string› (fun e => by cases e)
        · exact absurd ‹TypeDesc.array n el = TypeDesc.bool› (fun e => by cases e)
        · rename_i n' el' xs ys e1
          cases e1
          simp only [VRel] at hx h1
          obtain ⟨us, rfl, a1, a2⟩ := hx
          obtain ⟨⟨vs, hv, b1, b2⟩, h1⟩ := h1
          rw [hv]
          split at hk
          · rename_i kk2 hel2
            split at hk
            · rename_i hc
              unfold Op.equal Op.maxDepth
              rw [run_equalIn_arr (w := w) 9999 us vs hu hc.1]
              have := eqArr_ok (w := w) (P := P) (C := C) hel (us := us) (vs := vs) 9998 0 hk (by simpa using a1) (by simpa using b1)
              rw [hc.2.1] at this
              exact this
            · cases hk
          · cases hk
        · cases hk
      cases b with
      | true =>
        simp only [if_true, Option.some.injEq] at h
        subst h
        exact ⟨by simp [Instr.findAsking, hs], fun i e => by cases e; exact ⟨Nat.le_refl _, by simp⟩⟩
      | false =>
        simp only [Bool.false_eq_true, if_false] at h
        obtain ⟨k1, k2⟩ := findAsking_ok hu hel hx (s + 1) h1.2 h
        refine ⟨?_, fun i e => by have := k2 i e; simp; omega⟩
        simp only [Instr.findAsking, Sem.run_bind, hs, Result.andThen_ok, Bool.false_eq_true, if_false, k1]
        cases r with
        | none => rfl
        | some i =>
          have := k2 i rfl
          simp only [Option.bind_some]
          rw [show i - s = (i - (s + 1)) + 1 from by omega]
          simp
  | [], e :: es, _, _, h, _ => by simp [VsRel] at h
  | k :: ks, [], _, _, h, _ => by simp [VsRel] at h

theorem findKey_ok {d : TypeDesc} {kt : TypeId} (hu : P.underlying kt = some d) {x : AV} {v : Value} (hx : VRel C x v) (hko : keyOk P d x = true) {ks : List AV} {es : List MapEntry} {r : Option Nat} (h1 : VsRel C ks (es.map (·.key)))
    (h : afind P d x ks 0 = some r) : (Instr.findKey kt v es).run P w = .ok (r.bind fun i => (es[i]?).map fun e => (i, e.val)) w ∧ ∀ i, r = some i → i < es.length := by
  by_cases hd : ∀ n e, d ≠ .array n e
  · obtain ⟨k1, k2⟩ := findNow_ok (P := P) hx hd 0 h1 h
    refine ⟨?_, fun i e => by have := k2 i e; omega⟩
    simp only [Instr.findKey, Sem.run_bind, run_underlying hu, Result.andThen_ok, k1, Sem.run_pure, Nat.sub_zero]
  · have : ∃ n e, d = .array n e := by
      cases d <;> first | exact ⟨_, _, rfl⟩ | exact absurd (fun n e h => by cases h) hd
    obtain ⟨n, el, rfl⟩ := this
    have hel : ∃ kk, P.underlying el = some (.int kk) := by
      unfold keyOk at hko
      split at hko
      · exact absurd ‹TypeDesc.array n el = TypeDesc.int _› (fun e => by cases e)
      · exact absurd ‹TypeDesc.array n el = TypeDesc.string› (fun e => by cases e)
      · exact absurd ‹TypeDesc.array n el = TypeDesc.bool› (fun e => by cases e)
      · rename_i n' el' xs e1
        cases e1
        split at hko
        · rename_i kk hel; exact ⟨kk, hel⟩
        · cases hko
      · cases hko
    obtain ⟨kk, hel⟩ := hel
    obtain ⟨k1, k2⟩ := findAsking_ok (P := P) (w := w) hu hel hx 0 h1 h
    refine ⟨?_, fun i e => by have := k2 i e; omega⟩
    simp only [Instr.findKey, Sem.run_bind, run_underlying hu, Result.andThen_ok]
    cases es with
    | nil =>
      cases ks with
      | nil => simp only [afind, Option.some.injEq] at h; subst h; rfl
      | cons k ks => simp [VsRel] at h1
    | cons e es =>
      have hn : Instr.findNow (.array n el) v (e :: es) 0 = none := by
        simp only [Instr.findNow]
        have : Instr.sameNow (.array n el) v e.key = none := by cases v <;> cases e.key <;> rfl
        rw [this]
      rw [hn]
      simpa using k1
end
end Go.Zk
