/- Looking a key up: the law. All operations that change nothing in memory under one name. Conditions: none. Composite values; operations that lay a new block. Conditions: none. Operations that lay a new block: the law. Conditions: none. append, in terms of what is read. Conditions: none. Operations that write: store, append. Conditions: none. -/
import Derived.Laws.AppendOwn
import Derived.Test.YtiplcbpocpgbbaaGreatDoorA02
set_option linter.unusedSimpArgs false
set_option linter.unusedVariables false
namespace Go.Zk

def aval2 (E : Env) (op : Op) (ρ : Operand → AV) (H : AHeap) : Option AV :=
  match op with
  | .lookup t m k ok => alookup E.P t H (ρ m) (ρ k) ok
  | op => aval E op ρ H

section
variable {E : Env} {B : Nat} {C : Ctx} {H : AHeap} {w : World} {P : Program}

theorem mapAt_ok (h : HRead E C H w) {m : AV} {v : Value} (hm : VRel C m v) {ks vs : List AV} (ha : mapAt H m = some (ks, vs)) :
    (v = .map none ∧ ks = [] ∧ vs = []) ∨ ∃ r es clock, v = .map (some r) ∧ w.heap[r]? = some (.map es clock) ∧ VsRel C ks (es.toList.map (·.key)) ∧ VsRel C vs (es.toList.map (·.val)) := by
  cases m <;> simp only [mapAt, Option.some.injEq, Prod.mk.injEq, reduceCtorEq] at ha
  case nilmap => obtain ⟨rfl, rfl⟩ := ha; simp only [VRel] at hm; exact .inl ⟨hm, rfl, rfl⟩
  case map id =>
    cases hr : H.get id <;> simp only [hr, Option.some.injEq, Prod.mk.injEq, reduceCtorEq] at ha
    obtain ⟨rfl, rfl⟩ := ha
    simp only [VRel] at hm
    obtain ⟨b, a1, rfl⟩ := hm
    have k5 := h.blk id b 0 a1 (by rw [hr]; exact fun e => by cases e)
    rw [hr] at k5
    obtain ⟨_, es, clock, m1, m2, m3⟩ := k5
    exact .inr ⟨b, es, clock, rfl, by rw [← h.heap]; exact m1, m2, m3⟩
  case rmap ks' vs' =>
    obtain ⟨rfl, rfl⟩ := ha
    simp only [VRel] at hm
    obtain ⟨r, es, clock, rfl, h1, h2, h3, h4⟩ := hm
    exact .inr ⟨r, es, clock, rfl, by rw [← h.heap]; exact h2, h3.mono C.noal_le, h4.mono C.noal_le⟩

theorem tzero_ok {t : TypeId} {z : AV} (h : tzero P t = some z) : ∃ v, (zeroValue t).run P w = .ok v w ∧ VRel C z v ∧ ∃ i, P.info? t = some i ∧ i.zero = some v := by
  unfold tzero at h
  cases hi : P.info? t with
  | none => simp [hi] at h
  | some i =>
    cases hz : i.zero with
    | none => simp [hi, hz] at h
    | some v =>
      simp only [hi, hz, Option.some.injEq] at h
      subst h
      exact ⟨v, by simp [zeroValue, run_typeInfo hi, hz], avOf_rel C v, i, rfl, hz⟩

theorem alookup0_ok (h : HRead E C H w) {t : TypeId} {m k : AV} {u v : Value} {ok : Bool} {av : AV} (hm : VRel C m u) (hk : VRel C k v) (ha : alookup0 P t H m k ok = some av) :
    ∃ r, (Instr.lookup t u v ok).run P w = .ok r w ∧ VRel C av r := by
  unfold alookup0 at ha
  split at ha
  · rename_i kt et hu
    split at ha
    · rename_i d hd
      split at ha
      · rename_i hko
        split at ha
        · rename_i ks vs hma
          cases hf : afind P d k ks 0 with
          | none => simp [hf] at ha
          | some r =>
            have hck := fun e => checkKey_ok (w := w) hd hk hko e
            rcases mapAt_ok h hm hma with ⟨rfl, rfl, rfl⟩ | ⟨b, es, clock, rfl, m1, m2, m3⟩
            · simp only [afind, Option.some.injEq] at hf
              subst hf
              simp only [afind] at ha
              cases hz : tzero P et with
              | none => simp [hz] at ha
              | some z =>
                simp only [hz, Option.some.injEq] at ha
                obtain ⟨zv, k1, k2, _⟩ := tzero_ok (C := C) (w := w) hz
                have hfk := (findKey_ok (w := w) (P := P) (C := C) hd hk hko (ks := []) (es := []) (r := none) VsRel.nil rfl).1
                subst ha
                refine ⟨if ok = true then .tuple #[zv, .bool false] else zv, ?_, ?_⟩
                · simp only [Instr.lookup, Sem.run_bind, run_underlying hu, Result.andThen_ok, Sem.run_pure, hck, List.toList_toArray, hfk, Option.bind_none, k1]
                · cases ok with
                  | true => simp only [if_true, VRel]; exact ⟨_, rfl, VsRel.cons k2 (VsRel.cons (by simp [VRel]) VsRel.nil)⟩
                  | false => simpa using k2
            · have hfk := findKey_ok (w := w) (P := P) hd hk hko m2 hf
              have hgo : (getObj b).run P w = .ok (.map es clock) w := by simp [getObj, Sem.run, m1]
              cases r with
              | none =>
                simp only [hf] at ha
                cases hz : tzero P et with
                | none => simp [hz] at ha
                | some z =>
                  simp only [hz, Option.some.injEq] at ha
                  obtain ⟨zv, k1, k2, _⟩ := tzero_ok (C := C) (w := w) hz
                  subst ha
                  refine ⟨if ok = true then .tuple #[zv, .bool false] else zv, ?_, ?_⟩
                  · simp only [Instr.lookup, Sem.run_bind, run_underlying hu, Result.andThen_ok, hgo, Sem.run_pure, hck, hfk.1, Option.bind_none, k1]
                  · cases ok with
                    | true => simp only [if_true, VRel]; exact ⟨_, rfl, VsRel.cons k2 (VsRel.cons (by simp [VRel]) VsRel.nil)⟩
                    | false => simpa using k2
              | some i =>
                simp only [hf] at ha
                cases hv : vs[i]? with
                | none => simp [hv] at ha
                | some x =>
                  simp only [hv, Option.some.injEq] at ha
                  obtain ⟨xv, k1, k2⟩ := m3.get _ _ hv
                  subst ha
                  have hes : ∃ e, es.toList[i]? = some e ∧ e.val = xv := by
                    rw [List.getElem?_map] at k1
                    cases he : es.toList[i]? with
                    | none => rw [he] at k1; cases k1
                    | some e => rw [he] at k1; simp at k1; exact ⟨e, rfl, k1⟩
                  obtain ⟨e, he1, he2⟩ := hes
                  have hfk' := hfk.1
                  rw [Option.bind_some, he1, Option.map_some, he2] at hfk'
                  refine ⟨if ok = true then .tuple #[xv, .bool true] else xv, ?_, ?_⟩
                  · simp only [Instr.lookup, Sem.run_bind, run_underlying hu, Result.andThen_ok, hgo, Sem.run_pure, hck, hfk']
                  · cases ok with
                    | true => simp only [if_true, VRel]; exact ⟨_, rfl, VsRel.cons k2 (VsRel.cons (by simp [VRel]) VsRel.nil)⟩
                    | false => simpa using k2
        · cases ha
      · cases ha
    · cases ha
  · cases ha

/-! ### a map in an order that is not known -/
theorem aints_eq : ∀ {x y : List AV}, aints x y = some true → x = y
  | [], [], _ => rfl
  | x :: l, y :: m, h => by
    cases x <;> cases y <;> simp only [aints, reduceCtorEq] at h
    rename_i k a k' b
    split at h
    · rename_i hk
      subst hk
      split at h
      · rename_i c hc
        simp only [Option.some.injEq, Bool.and_eq_true, decide_eq_true_eq] at h
        obtain ⟨rfl, rfl⟩ := h
        rw [aints_eq hc]
      · cases h
    · cases h
  | [], _ :: _, h => by simp [aints] at h
  | x :: _, [], h => by cases x <;> simp [aints] at h
theorem akey_eq {d : TypeDesc} {x y : AV} (h : akey P d x y = some true) : x = y := by
  unfold akey at h
  split at h
  · split at h
    · rename_i hk; subst hk; simp at h; rw [h]
    · cases h
  · simp at h; rw [h]
  · simp at h; rw [h]
  · split at h
    · split at h
      · rw [aints_eq h]
      · cases h
    · cases h
  · cases h
theorem afind_some {d : TypeDesc} {x : AV} : ∀ {ks : List AV} {s i : Nat}, afind P d x ks s = some (some i) → s ≤ i ∧ ks[i - s]? = some x
  | [], _, _, h => by simp [afind] at h
  | k :: ks, s, i, h => by
    unfold afind at h
    split at h
    · rename_i b hb
      split at h
      · rename_i hb2
        subst hb2
        simp only [Option.some.injEq] at h
        subst h
        exact ⟨Nat.le_refl _, by simp [akey_eq hb]⟩
      · obtain ⟨h1, h2⟩ := afind_some h
        refine ⟨by omega, ?_⟩
        rw [show i - s = (i - (s + 1)) + 1 from by omega]
        simpa using h2
    · cases h
theorem afind_none {d : TypeDesc} {x : AV} : ∀ {ks : List AV} {s : Nat}, afind P d x ks s = some none → ∀ k ∈ ks, akey P d x k = some false
  | [], _, _, k, hk => by cases hk
  | k :: ks, s, h, y, hy => by
    unfold afind at h
    split at h
    · rename_i b hb
      split at h
      · cases h
      · rename_i hb2
        rcases List.mem_cons.1 hy with rfl | hy
        · rw [hb]; simpa using hb2
        · exact afind_none h y hy
    · cases h
theorem afind_total {d : TypeDesc} {x : AV} : ∀ {ks : List AV} (s : Nat), (∀ k ∈ ks, (akey P d x k).isSome = true) → ∃ r, afind P d x ks s = some r
  | [], s, _ => ⟨none, rfl⟩
  | k :: ks, s, h => by
    unfold afind
    have hk := h k (by simp)
    cases hb : akey P d x k with
    | none => rw [hb] at hk; cases hk
    | some b =>
      simp only
      split
      · exact ⟨_, rfl⟩
      · exact afind_total (s + 1) fun y hy => h y (by simp [hy])
theorem afind_yes {d : TypeDesc} {x : AV} : ∀ {ks : List AV} (s : Nat), (∀ k ∈ ks, (akey P d x k).isSome = true) → (∃ k ∈ ks, akey P d x k = some true) → ∃ i, afind P d x ks s = some (some i)
  | [], s, _, ⟨k, hk, _⟩ => by cases hk
  | k :: ks, s, h, ⟨y, hy, hy2⟩ => by
    unfold afind
    have hk := h k (by simp)
    cases hb : akey P d x k with
    | none => rw [hb] at hk; cases hk
    | some b =>
      simp only
      split
      · exact ⟨_, rfl⟩
      · rename_i hb2
        refine afind_yes (s + 1) (fun y hy => h y (by simp [hy])) ⟨y, ?_, hy2⟩
        rcases List.mem_cons.1 hy with rfl | hy
        · rw [hb] at hy2; simp only [Option.some.injEq] at hy2; exact absurd hy2 hb2
        · exact hy

/-- Two lists of abstract values follow a permutation. -/
theorem vs_perm {C : Ctx} {σ τ : List MapEntry} (hp : σ.Perm τ) : ∀ {ks vs : List AV}, VsRel C ks (σ.map (·.key)) → VsRel C vs (σ.map (·.val)) →
    ∃ ks' vs', VsRel C ks' (τ.map (·.key)) ∧ VsRel C vs' (τ.map (·.val)) ∧ (ks.zip vs).Perm (ks'.zip vs') := by
  induction hp with
  | nil =>
    intro ks vs h1 h2
    exact ⟨ks, vs, h1, h2, .refl _⟩
  | cons e _ ih =>
    intro ks vs h1 h2
    cases ks with
    | nil => simp [VsRel] at h1
    | cons k ks =>
      cases vs with
      | nil => simp [VsRel] at h2
      | cons v vs =>
        simp only [List.map_cons, VsRel] at h1 h2
        obtain ⟨ks', vs', p1, p2, p3⟩ := ih h1.2 h2.2
        exact ⟨k :: ks', v :: vs', by simp only [List.map_cons, VsRel]; exact ⟨h1.1, p1⟩, by simp only [List.map_cons, VsRel]; exact ⟨h2.1, p2⟩, by simpa using p3.cons (k, v)⟩
  | swap e f l =>
    intro ks vs h1 h2
    match ks, vs with
    | k :: k2 :: ks, v :: v2 :: vs =>
      simp only [List.map_cons, VsRel] at h1 h2
      exact ⟨k2 :: k :: ks, v2 :: v :: vs, by simp only [List.map_cons, VsRel]; exact ⟨h1.2.1, h1.1, h1.2.2⟩, by simp only [List.map_cons, VsRel]; exact ⟨h2.2.1, h2.1, h2.2.2⟩, by simpa using List.Perm.swap (k2, v2) (k, v) (ks.zip vs)⟩
    | [], _ => simp [VsRel] at h1
    | [k], _ => simp [VsRel] at h1
    | _ :: _ :: _, [] => simp [VsRel] at h2
    | _ :: _ :: _, [v] => simp [VsRel] at h2
  | trans _ _ ih1 ih2 =>
    intro ks vs h1 h2
    obtain ⟨k1, v1, p1, p2, p3⟩ := ih1 h1 h2
    obtain ⟨k2, v2, q1, q2, q3⟩ := ih2 p1 p2
    exact ⟨k2, v2, q1, q2, p3.trans q3⟩

theorem zip_fst {ks vs : List AV} (h : ks.length = vs.length) : (ks.zip vs).map Prod.fst = ks := List.map_fst_zip (by omega)
theorem nodup_get {l : List AV} (h : l.Nodup) {i j : Nat} {x : AV} (hi : l[i]? = some x) (hj : l[j]? = some x) : i = j := by
  obtain ⟨hi1, hi2⟩ := List.getElem?_eq_some_iff.1 hi
  obtain ⟨hj1, hj2⟩ := List.getElem?_eq_some_iff.1 hj
  rcases Nat.lt_trichotomy i j with h1 | h1 | h1
  · exact absurd (hi2.trans hj2.symm) (List.pairwise_iff_getElem.1 h i j hi1 hj1 h1)
  · exact h1
  · exact absurd (hj2.trans hi2.symm) (List.pairwise_iff_getElem.1 h j i hj1 hi1 h1)

theorem aglook_ok (h : HRead E C H w) {t : TypeId} {ks vs : List AV} {k : AV} {u v : Value} {ok : Bool} {av : AV} (hm : VRel C (.gmap ks vs) u) (hk : VRel C k v) (ha : aglook P t ks vs k ok = some av) :
    ∃ r, (Instr.lookup t u v ok).run P w = .ok r w ∧ VRel C av r := by
  simp only [VRel] at hm
  obtain ⟨r, es, clock, σ, rfl, m1, m2, m3, m4, m5, m6⟩ := hm
  obtain ⟨ks', vs', q1, q2, q3⟩ := vs_perm m3 m4 m5
  have hl1 : ks.length = vs.length := by have a := VsRel.length m4; have b := VsRel.length m5; simp at a b; omega
  have hl2 : ks'.length = vs'.length := by have a := VsRel.length q1; have b := VsRel.length q2; simp at a b; omega
  have hks : ks.Perm ks' := by have := q3.map Prod.fst; rwa [zip_fst hl1, zip_fst hl2] at this
  have hnd : ks'.Nodup := hks.nodup_iff.1 m6
  refine alookup0_ok h (m := .rmap ks' vs') (by simp only [VRel]; exact ⟨r, es, clock, rfl, m1, m2, q1, q2⟩) hk (t := t) (ok := ok) (P := P) ?_
  unfold aglook at ha
  unfold alookup0
  split at ha
  · rename_i kt et hu
    split at ha
    · rename_i d hd
      split at ha
      · rename_i hc
        rw [if_pos hc.1]
        simp only [mapAt]
        have hall : ∀ y ∈ ks', (akey P d k y).isSome = true := fun y hy => by
          have := List.all_eq_true.1 hc.2 y (hks.mem_iff.2 hy)
          simpa using this
        split at ha
        · rename_i i hf
          obtain ⟨_, hi⟩ := afind_some hf
          simp only [Nat.sub_zero] at hi
          split at ha
          · rename_i x hx
            have hz : (k, x) ∈ ks.zip vs := by
              have : (ks.zip vs)[i]? = some (k, x) := by
                rw [List.getElem?_zip_eq_some]
                exact ⟨hi, hx⟩
              exact List.mem_of_getElem? this
            have hz' := q3.mem_iff.1 hz
            obtain ⟨j, hj⟩ := List.getElem?_of_mem hz'
            rw [List.getElem?_zip_eq_some] at hj
            simp only at hj
            have hself : ∃ y ∈ ks', akey P d k y = some true := by
              refine ⟨k, List.mem_of_getElem? hj.1, ?_⟩
              have hm' : k ∈ ks := List.mem_of_getElem? hi
              have h5 := hall k (List.mem_of_getElem? hj.1)
              cases h6 : akey P d k k with
              | none => rw [h6] at h5; cases h5
              | some b =>
                cases b with
                | true => rfl
                | false =>
                  exfalso
                  have hno : ∀ (l : List AV) (s : Nat) (i : Nat), afind P d k l s = some (some i) → False := by
                    intro l
                    induction l with
                    | nil => intro s i e; simp [afind] at e
                    | cons y l ih =>
                      intro s i e
                      unfold afind at e
                      split at e
                      · rename_i b hb
                        split at e
                        · rename_i hb2
                          subst hb2
                          have := akey_eq hb
                          subst this
                          rw [h6] at hb; cases hb
                        · exact ih _ _ e
                      · cases e
                  exact hno _ _ _ hf
            obtain ⟨i', hi'⟩ := afind_yes 0 hall hself
            obtain ⟨_, hi2⟩ := afind_some hi'
            simp only [Nat.sub_zero] at hi2
            have : i' = j := nodup_get hnd hi2 hj.1
            subst this
            simp only [hi', hj.2]
            exact ha
          · cases ha
        · rename_i hf
          have hn := afind_none hf
          obtain ⟨r', hr'⟩ := afind_total (P := P) (d := d) (x := k) 0 hall
          cases r' with
          | none => simp only [hr']; exact ha
          | some i =>
            exfalso
            obtain ⟨_, hi⟩ := afind_some hr'
            simp only [Nat.sub_zero] at hi
            have hm' : k ∈ ks := hks.mem_iff.2 (List.mem_of_getElem? hi)
            have h6 := hn k hm'
            have hno : ∀ (l : List AV) (s : Nat) (i : Nat), afind P d k l s = some (some i) → False := by
              intro l
              induction l with
              | nil => intro s i e; simp [afind] at e
              | cons y l ih =>
                intro s i e
                unfold afind at e
                split at e
                · rename_i b hb
                  split at e
                  · rename_i hb2
                    subst hb2
                    have := akey_eq hb
                    subst this
                    rw [h6] at hb; cases hb
                  · exact ih _ _ e
                · cases e
            exact hno _ _ _ hr'
        · cases ha
      · cases ha
    · cases ha
  · cases ha
theorem alookup_ok (h : HRead E C H w) {t : TypeId} {m k : AV} {u v : Value} {ok : Bool} {av : AV} (hm : VRel C m u) (hk : VRel C k v) (ha : alookup P t H m k ok = some av) :
    ∃ r, (Instr.lookup t u v ok).run P w = .ok r w ∧ VRel C av r := by
  unfold alookup at ha
  split at ha
  · exact aglook_ok h hm hk ha
  · exact alookup0_ok h hm hk ha

theorem aval2_ok (h : HRead E C H w) {ρ : Operand → AV} {σ : Operand → Value} (hρ : ∀ x, VRel C (ρ x) (σ x)) {o : Oper} {av : AV} (ha : aval2 E o.op ρ H = some av) :
    ∃ v, (execOp σ o).run E.P w = .ok (.value v) w ∧ VRel C av v := by
  unfold aval2 at ha
  split at ha
  · rename_i t m k ok ho
    obtain ⟨v, k1, k2⟩ := alookup_ok h (hρ m) (hρ k) ha
    exact ⟨v, by simp [execOp, ho, k1], k2⟩
  · exact aval_ok h hρ ha
end
end Go.Zk
namespace Go.Zk

def afill (place : Nat → Option (Nat × Nat)) (cells : List AV) : List (Nat × AV) → Option (List AV)
  | [] => some cells
  | (i, v) :: r => match place i, acells v with
    | some (off, size), some l => if l.length = size ∧ off + l.length ≤ cells.length then afill place (splice cells off l) r else none
    | _, _ => none
def tplaces (P : Program) (t : TypeId) : Option (Nat → Option (Nat × Nat)) :=
  match P.underlying t with
  | some (.struct fs) => match fs.toList.mapM fun f => (tsz P f.type).map fun n => (f.offset, n) with
    | some l => some fun i => l[i]?
    | none => none
  | some (.array _ e) => match tsz P e with
    | some z => some fun i => some (i * z, z)
    | none => none
  | _ => none
def abuild (P : Program) (t : TypeId) (parts : List (Nat × AV)) : Option AV :=
  match tzero P t, tplaces P t with
  | some (.agg zs), some pl => match afill pl zs parts with
    | some l => some (.agg l)
    | none => none
  | _, _ => none
/-- the cells of n elements, all zero -/
def tzeros (P : Program) (e z n : Nat) : Option (List AV) :=
  match tzero P e with
  | some x => match acells x with
    | some l => if l.length = z then some ((List.replicate n l).flatten) else none
    | none => none
  | none => none
/-- An operation that lays a new block: its value, hung on the block's name, and the block. -/
def anew (E : Env) (op : Op) (ρ : Operand → AV) : Option ((Nat → AV) × ABlk) :=
  match op with
  | .alloc t => match tzero E.P t with
    | some z => match acells z with
      | some l => some (fun id => .ptr id 0, .row l)
      | none => none
    | none => none
  | .box _ x => match acells (ρ x) with
    | some l => some (fun id => .ptr id 0, .row l)
    | none => none
  | .buildSlice t len parts => match tel E.P t with
    | some (e, z) => if len * z ≤ 16777216 then match tzeros E.P e z len with
      | some zs => match afill (fun i => some (i * z, z)) zs (parts.toList.map fun q => (q.1, ρ q.2)) with
        | some l => some (fun id => .msl id 0 len z true, .row l)
        | none => none
      | none => none
      else none
    | none => none
  | .makeMap _ none => some (fun id => .map id, .map [] [])
  | .makeSlice t l c => match tel E.P t, ρ l, ρ c with
    | some (e, z), .int .i64 n, .int .i64 m => match tby E.P e with
      | some by_ => if 0 ≤ n ∧ n ≤ m ∧ m * by_ ≤ 281474976710656 ∧ m ≤ 9223372036854775807 then match tzeros E.P e z m.toNat with
        | some zs => some (fun id => .msl id 0 n.toNat z (decide (n = m)), .row zs)
        | none => none
        else none
      | none => none
    | _, _, _ => none
  | .range t x => if asl.tsl E.P t = 1 then match ρ x with
    | .str s => some (fun id => .ptr id 0, .sit s 0)
    | _ => none
    else none
  | .convert s d x => match E.P.underlying s, tel E.P d, ρ x with
    | some .string, some (e, 1), .str l => match E.P.underlying e with
      | some (.int .u8) => if l.length ≤ 4294967296 then some (fun id => .msl id 0 l.length 1 false, .row (l.map fun b => .int .u8 b.toNat)) else none
      | _ => none
    | _, _, _ => none
  | _ => none

section
variable {E : Env} {B : Nat} {C : Ctx} {H : AHeap} {w : World} {P : Program}

theorem foldl_set : ∀ (l : List Value) (s off : Nat) (cs : Array Value), off + s + l.length ≤ cs.size →
    ((l.zipIdx s).foldl (fun cs (c, j) => cs.setIfInBounds (off + j) c) cs).size = cs.size ∧
    ∀ k, ((l.zipIdx s).foldl (fun cs (c, j) => cs.setIfInBounds (off + j) c) cs)[k]? = if off + s ≤ k ∧ k < off + s + l.length then l[k - (off + s)]? else cs[k]?
  | [], s, off, cs, h => ⟨rfl, fun k => by rw [if_neg (fun h => by simp at h; omega)]; rfl⟩
  | v :: l, s, off, cs, h => by
    simp only [List.length_cons] at h
    obtain ⟨h1, h2⟩ := foldl_set l (s + 1) off (cs.setIfInBounds (off + s) v) (by simp; omega)
    simp only [List.zipIdx_cons, List.foldl_cons]
    refine ⟨by rw [h1]; simp, fun k => ?_⟩
    rw [h2 k]
    by_cases e : k = off + s
    · subst e
      rw [if_neg (by omega), if_pos (by simp), Array.getElem?_setIfInBounds_self_of_lt (by omega)]
      simp
    · by_cases e2 : off + (s + 1) ≤ k ∧ k < off + (s + 1) + l.length
      · rw [if_pos e2, if_pos (by simp; omega), show k - (off + s) = (k - (off + (s + 1))) + 1 from by omega]
        simp
      · rw [if_neg e2, if_neg (by simp; omega), Array.getElem?_setIfInBounds_ne (fun h => e h.symm)]

theorem afill_ok {place : Nat → Option (Nat × Nat)} : ∀ {parts : List (Nat × AV)} {ps : List (Nat × Value)} {cells l : List AV} {cs : Array Value}, afill place cells parts = some l →
    VsRel C cells cs.toList → (∀ x ∈ cs.toList, x.oneCell' = true) → parts.length = ps.length → (∀ (i : Nat) q p, parts[i]? = some q → ps[i]? = some p → q.1 = p.1 ∧ VRel C q.2 p.2) →
    ∃ r, Instr.fill place cs ps = some r ∧ VsRel C l r.toList ∧ (∀ x ∈ r.toList, x.oneCell' = true) ∧ r.size = cs.size
  | [], [], cells, l, cs, h, h1, h2, _, _ => by simp only [afill, Option.some.injEq] at h; subst h; exact ⟨cs, rfl, h1, h2, rfl⟩
  | (i, x) :: parts, (j, v) :: ps, cells, l, cs, h, h1, h2, hl, hp => by
    obtain ⟨e, hx⟩ := hp 0 _ _ (by simp; rfl) (by simp; rfl)
    simp only at e hx
    subst e
    simp only [afill] at h
    cases hpl : place i with
    | none => simp [hpl] at h
    | some q =>
      obtain ⟨off, size⟩ := q
      cases hac : acells x with
      | none => simp [hpl, hac] at h
      | some lx =>
        simp only [hpl, hac] at h
        split at h
        · rename_i hc
          obtain ⟨a1, a2⟩ := acells_rel hx hac
          have hlen := a1.length
          have hcl := h1.length
          simp at hcl
          simp at hlen
          have hz : v.cells.zipIdx = (v.cells.toList.zipIdx 0).toArray := by
            rw [← Array.toList_inj]; simp
          obtain ⟨f1, f2⟩ := foldl_set v.cells.toList 0 off cs (by simp; omega)
          have hf : (v.cells.zipIdx.foldl (fun cs (c, j) => cs.setIfInBounds (off + j) c) cs) = ((v.cells.toList.zipIdx 0).foldl (fun cs (c, j) => cs.setIfInBounds (off + j) c) cs) := by
            rw [hz]; simp
          simp only [Nat.add_zero] at f2
          obtain ⟨r, k1, k2, k3, k4⟩ := afill_ok (place := place) (parts := parts) (ps := ps) (cs := (v.cells.toList.zipIdx 0).foldl (fun cs (c, j) => cs.setIfInBounds (off + j) c) cs) h
            (VsRel.of_get (by rw [splice_length hc.2, Array.length_toList, f1]; omega) fun k y u hy hu => by
              rw [splice_get hc.2] at hy
              rw [Array.getElem?_toList, f2] at hu
              by_cases hin : off ≤ k ∧ k < off + lx.length
              · rw [if_pos hin] at hy
                rw [if_pos (by simp; omega)] at hu
                obtain ⟨u', q1, q2⟩ := a1.get _ _ hy
                rw [q1] at hu; cases hu; exact q2
              · rw [if_neg hin] at hy
                rw [if_neg (by simp; omega)] at hu
                obtain ⟨u', q1, q2⟩ := h1.get _ _ hy
                rw [Array.getElem?_toList] at q1
                rw [q1] at hu; cases hu; exact q2)
            (fun u hu => by
              obtain ⟨k, hk⟩ := List.getElem?_of_mem hu
              rw [Array.getElem?_toList, f2] at hk
              split at hk
              · exact a2 u (List.mem_of_getElem? hk)
              · exact h2 u (List.mem_of_getElem? (by rw [Array.getElem?_toList]; exact hk)))
            (by simpa using hl) (fun n q p e1 e2 => hp (n + 1) q p (by simpa using e1) (by simpa using e2))
          refine ⟨r, ?_, k2, k3, by rw [k4, f1]⟩
          have hcond : (decide (v.cells.size ≠ size) || decide (off + v.cells.size > cs.size)) = false := by
            simp; omega
          simp only [Instr.fill, hpl, hcond, Bool.false_eq_true, if_false]
          rw [hf]
          exact k1
        · cases h
  | [], p :: ps, _, _, _, _, _, _, h, _ => by simp at h
  | q :: parts, [], _, _, _, _, _, _, h, _ => by simp at h

theorem tplaces_ok {fs : Array Field} {l : List (Nat × Nat)} (h : (fs.toList.mapM fun f => (tsz P f.type).map fun n => (f.offset, n)) = some l) :
    (fs.mapM fun f => do pure (f.offset, ← sizeOf f.type) : Sem (Array (Nat × Nat))).run P w = .ok l.toArray w := by
  rw [Array.mapM_eq_mapM_toList]
  have : ∀ (fl : List Field) (l : List (Nat × Nat)), (fl.mapM fun f => (tsz P f.type).map fun n => (f.offset, n)) = some l → (fl.mapM fun f => do pure (f.offset, ← sizeOf f.type) : Sem (List (Nat × Nat))).run P w = .ok l w := by
    intro fl
    induction fl with
    | nil => intro l h; simp at h; subst h; rfl
    | cons f fl ih =>
      intro l h
      rw [List.mapM_cons] at h ⊢
      cases hf : tsz P f.type with
      | none => simp [hf] at h
      | some n =>
        cases hm : (fl.mapM fun f => (tsz P f.type).map fun n => (f.offset, n)) with
        | none => simp [hf, hm] at h
        | some r =>
          simp [hf, hm] at h
          subst h
          simp only [Sem.run_bind, run_sizeOf hf, Result.andThen_ok, Sem.run_pure, ih r hm]
  rw [Sem.run_map, this fs.toList l h]
  rfl

theorem tzero_cells {t : TypeId} {z : AV} {l : List AV} (h : tzero P t = some z) (hl : acells z = some l) : ∃ v, (zeroValue t).run P w = .ok v w ∧ VsRel C l v.cells.toList ∧ ∀ u ∈ v.cells.toList, u.oneCell' = true := by
  obtain ⟨v, k1, k2, _⟩ := tzero_ok (C := C) (w := w) h
  obtain ⟨k3, k4⟩ := acells_rel k2 hl
  exact ⟨v, k1, k3, k4⟩

theorem parts_rel {ρ : Operand → AV} {σ : Operand → Value} (hρ : ∀ x, VRel C (ρ x) (σ x)) (parts : List (Nat × Operand)) (i : Nat) (q : Nat × AV) (p : Nat × Value)
    (h1 : (parts.map fun q => (q.1, ρ q.2))[i]? = some q) (h2 : (parts.map fun q => (q.1, σ q.2))[i]? = some p) : q.1 = p.1 ∧ VRel C q.2 p.2 := by
  rw [List.getElem?_map] at h1 h2
  cases hp : parts[i]? with
  | none => rw [hp] at h1; cases h1
  | some y => rw [hp] at h1 h2; cases h1; cases h2; exact ⟨rfl, hρ _⟩

theorem abuild_ok {t : TypeId} {ρ : Operand → AV} {σ : Operand → Value} (hρ : ∀ x, VRel C (ρ x) (σ x)) {parts : Array (Nat × Operand)} {av : AV} (ha : abuild P t (parts.toList.map fun q => (q.1, ρ q.2)) = some av) :
    ∃ v, (Instr.build t (parts.map fun (i, x) => (i, σ x))).run P w = .ok v w ∧ VRel C av v := by
  unfold abuild at ha
  split at ha
  · rename_i zs pl hz hpl
    cases hf : afill pl zs (parts.toList.map fun q => (q.1, ρ q.2)) with
    | none => simp [hf] at ha
    | some l =>
      simp only [hf, Option.some.injEq] at ha
      subst ha
      obtain ⟨v, k1, k2, k3⟩ := tzero_cells (C := C) (w := w) hz (l := zs) rfl
      obtain ⟨r, m1, m2, m3, m4⟩ := afill_ok (ps := parts.toList.map fun q => (q.1, σ q.2)) hf k2 k3 (by simp) (fun i q p => parts_rel hρ _ i q p)
      have hpt : (parts.map fun (i, x) => (i, σ x)).toList = parts.toList.map fun q => (q.1, σ q.2) := by simp
      refine ⟨.agg r, ?_, by simp only [VRel]; exact ⟨r, rfl, m2, m3⟩⟩
      unfold tplaces at hpl
      split at hpl
      · rename_i fs hu
        split at hpl
        · rename_i ll hll
          simp only [Option.some.injEq] at hpl
          subst hpl
          have hpl2 := tplaces_ok (w := w) hll
          simp only [Instr.build, Sem.run_bind, k1, Result.andThen_ok, run_underlying hu, hpl2, hpt]
          have he : (fun i : Nat => ll.toArray[i]?) = fun i : Nat => ll[i]? := by funext i; simp
          rw [he, m1]
          rfl
        · cases hpl
      · rename_i n e hu
        split at hpl
        · rename_i z hz2
          simp only [Option.some.injEq] at hpl
          subst hpl
          simp only [Instr.build, Sem.run_bind, k1, Result.andThen_ok, run_underlying hu, run_sizeOf hz2, hpt]
          rw [m1]
          rfl
        · cases hpl
      · cases hpl
  · cases ha
end
end Go.Zk
namespace Go.Zk

section
variable {E : Env} {B : Nat} {C : Ctx} {H : AHeap} {w : World} {P : Program}

theorem flat_get {l : List AV} : ∀ (n i : Nat), ((List.replicate n l).flatten)[i]? = if i < n * l.length then l[i % l.length]? else none
  | 0, i => by simp
  | n + 1, i => by
    rw [List.replicate_succ, List.flatten_cons]
    by_cases h : i < l.length
    · rw [List.getElem?_append_left h, if_pos (by rw [Nat.add_mul]; omega), Nat.mod_eq_of_lt h]
    · rw [List.getElem?_append_right (by omega), flat_get n]
      by_cases h2 : i - l.length < n * l.length
      · rw [if_pos h2, if_pos (by rw [Nat.add_mul]; omega)]
        congr 1
        exact (Nat.mod_eq_sub_mod (by omega)).symm
      · rw [if_neg h2, if_neg (by rw [Nat.add_mul]; omega)]

theorem zeros_ok {e z n : Nat} {zs : List AV} (h : tzeros P e z n = some zs) (hz : tsz P e = some z) :
    ∃ v, (zeroValue e).run P w = .ok v w ∧ v.cells.size = z ∧ (zs.length = n * z) ∧
      VsRel C zs ((Array.range (n * z)).map (v.cells[· % v.cells.size]!)).toList ∧ ∀ x ∈ ((Array.range (n * z)).map (v.cells[· % v.cells.size]!)).toList, x.oneCell' = true := by
  unfold tzeros at h
  cases h1 : tzero P e with
  | none => simp [h1] at h
  | some x =>
    cases h2 : acells x with
    | none => simp [h1, h2] at h
    | some l =>
      simp only [h1, h2] at h
      split at h
      · rename_i hl
        simp only [Option.some.injEq] at h
        subst h
        obtain ⟨v, k1, k2, k3⟩ := tzero_cells (C := C) (w := w) h1 h2
        have hlen := k2.length
        simp at hlen
        have hzl : ((List.replicate n l).flatten).length = n * z := by
          simp [hl]
        have hget : ∀ i, i < n * z → ∃ u, v.cells[i % v.cells.size]? = some u ∧ v.cells[i % v.cells.size]! = u := fun i hi => by
          have hz0 : 0 < v.cells.size := by
            rcases Nat.eq_zero_or_pos v.cells.size with h0 | h0
            · rw [show z = 0 by omega] at hi; omega
            · exact h0
          have hm : i % v.cells.size < v.cells.size := Nat.mod_lt _ hz0
          exact ⟨v.cells[i % v.cells.size], by simp [hm], by simp [hm]⟩
        refine ⟨v, k1, by omega, hzl, VsRel.of_get (by rw [hzl]; simp) fun i c u hc hu => ?_, fun u hu => ?_⟩
        · rw [flat_get] at hc
          split at hc
          · rename_i hi
            rw [hl] at hi
            obtain ⟨q, q1, q2⟩ := hget i hi
            simp [hi] at hu
            rw [q2] at hu
            subst hu
            obtain ⟨q', p1, p2⟩ := k2.get _ _ hc
            rw [show l.length = v.cells.size by omega] at p1
            simp at p1
            rw [q1] at p1; cases p1; exact p2
          · cases hc
        · obtain ⟨i, hi⟩ := List.getElem?_of_mem hu
          have hlt : i < n * z := by
            rcases Nat.lt_or_ge i (n * z) with h | h
            · exact h
            · rw [List.getElem?_eq_none (by simp; omega)] at hi; cases hi
          obtain ⟨q, q1, q2⟩ := hget i hlt
          simp [hlt] at hi
          rw [q2] at hi
          subst hi
          exact k3 q (by simpa using Array.mem_of_getElem? q1)
      · cases h

theorem row_new {C' : Ctx} {b : Nat} {cells : List AV} {vs : Array Value} {e : TypeId} (hle : C.le C') (hh : C'.heap[b]? = some (.cells vs e)) (hv : VsRel C cells vs.toList) (h1 : ∀ x ∈ vs.toList, x.oneCell' = true) :
    BRel C' b 0 (.row cells) := by
  have hlen := hv.length
  simp at hlen
  refine ⟨vs, e, (0, 0), hh, fun i _ h => by omega, by omega, fun i x hx => ?_⟩
  obtain ⟨v, k1, k2⟩ := (hv.mono hle).get _ _ hx
  simp at k1
  exact ⟨v, by simpa using k1, h1 v (by simpa using Array.mem_of_getElem? k1), k2⟩

/-- One block more, and nothing else but what has been drawn. -/
structure Pushed (w : World) (o : Obj) (w' : World) : Prop where
  heap : w'.heap = w.heap.push o
  os : w'.os = w.os
  tape : w'.tape = w.tape
  output : w'.output = w.output
theorem Pushed.alloc (w : World) (o : Obj) : Pushed w o (w.alloc o) := ⟨rfl, rfl, rfl, rfl⟩

theorem anew_ok {ρ : Operand → AV} {σ : Operand → Value} (hρ : ∀ x, VRel C (ρ x) (σ x)) {o : Oper} {f : Nat → AV} {blk : ABlk} (ha : anew E o.op ρ = some (f, blk)) :
    ∃ v ob w', (execOp σ o).run E.P w = .ok (.value v) w' ∧ Pushed w ob w' ∧ (∀ C' : Ctx, C.le C' → C'.heap[w.heap.size]? = some ob → BRel C' w.heap.size 0 blk) ∧
      (∀ (C' : Ctx) id, C'.heap[w.heap.size]? = some ob → C'.al id = some (w.heap.size, 0) → VRel C' (f id) v) := by
  obtain ⟨dst, op, ty, pos, after, guard⟩ := o
  cases op <;> simp only [anew, reduceCtorEq] at ha
  case alloc t =>
    cases h1 : tzero E.P t with
    | none => simp [h1] at ha
    | some z =>
      cases h2 : acells z with
      | none => simp [h1, h2] at ha
      | some l =>
        simp only [h1, h2, Option.some.injEq, Prod.mk.injEq] at ha
        obtain ⟨rfl, rfl⟩ := ha
        obtain ⟨v, k1, k2, k3⟩ := tzero_cells (C := C) (w := w) h1 h2
        refine ⟨.pointer (some ⟨w.heap.size, 0, none⟩), .cells v.cells t, _, ?_, .alloc _ _, fun C' hle hh => row_new hle hh k2 k3, fun C' id hh hal => by simp only [VRel]; exact ⟨_, _, hal, rfl⟩⟩
        simp [execOp, Instr.alloc, k1, newVar, newRow]
  case box t x =>
    cases h2 : acells (ρ x) with
    | none => simp [h2] at ha
    | some l =>
      simp only [h2, Option.some.injEq, Prod.mk.injEq] at ha
      obtain ⟨rfl, rfl⟩ := ha
      obtain ⟨k2, k3⟩ := acells_rel (hρ x) h2
      refine ⟨.pointer (some ⟨w.heap.size, 0, none⟩), .cells (σ x).cells t, _, ?_, .alloc _ _, fun C' hle hh => row_new hle hh k2 k3, fun C' id hh hal => by simp only [VRel]; exact ⟨_, _, hal, rfl⟩⟩
      simp [execOp, Instr.box, newVar, newRow]
  case buildSlice t len parts =>
    cases ht : tel E.P t with
    | none => simp [ht] at ha
    | some q =>
      obtain ⟨e, z⟩ := q
      obtain ⟨hu, hz⟩ := tel_ok ht
      simp only [ht] at ha
      split at ha
      · rename_i hlim
        cases hzs : tzeros E.P e z len with
        | none => simp [hzs] at ha
        | some zs =>
          cases hf : afill (fun i => some (i * z, z)) zs (parts.toList.map fun q => (q.1, ρ q.2)) with
          | none => simp [hzs, hf] at ha
          | some l =>
            simp only [hzs, hf, Option.some.injEq, Prod.mk.injEq] at ha
            obtain ⟨rfl, rfl⟩ := ha
            obtain ⟨zv, k1, k2, k3, k4, k5⟩ := zeros_ok (C := C) (w := w) hzs hz
            have hcs : ∀ zero : Array Value, (zero = if len * z = 0 then #[] else zv.cells) → VsRel C zs ((Array.range (len * z)).map (zero[· % zero.size]!)).toList ∧ ∀ x ∈ ((Array.range (len * z)).map (zero[· % zero.size]!)).toList, x.oneCell' = true := by
              intro zero hzero
              split at hzero
              · rename_i h0
                rw [h0] at k3 ⊢
                have : zs = [] := nil_of_len k3
                subst this
                exact ⟨by simp [VsRel], by simp⟩
              · subst hzero; exact ⟨k4, k5⟩
            obtain ⟨c1, c2⟩ := hcs _ rfl
            have hpt : (parts.map fun (i, x) => (i, σ x)).toList = parts.toList.map fun q => (q.1, σ q.2) := by simp
            obtain ⟨r, m1, m2, m3, m4⟩ := afill_ok (ps := parts.toList.map fun q => (q.1, σ q.2)) hf c1 c2 (by simp) (fun i q p => parts_rel hρ _ i q p)
            refine ⟨.slice (some ⟨w.heap.size, 0, none⟩) len len, .cells r e, _, ?_, .alloc _ _, fun C' hle hh => row_new hle hh m2 m3, fun C' id hh hal => ?_⟩
            · have hlim' : ¬ (len * z > 2 ^ 24) := by omega
              simp only [execOp, Instr.buildSlice, Sem.run_bind, run_underlying hu, Result.andThen_ok, run_sizeOf hz, hlim', if_false, Sem.run_pure, hpt]
              by_cases h0 : len * z = 0
              · simp only [h0, if_true, pure_bind, Sem.run_pure, Result.andThen_ok] at m1 ⊢
                rw [m1]
                simp [newRow]
              · simp only [h0, if_false, bind_assoc, pure_bind, Sem.run_bind, k1, Result.andThen_ok, Sem.run_pure] at m1 ⊢
                rw [m1]
                simp [newRow]
            · simp only [VRel]
              refine ⟨_, _, _, len, hal, rfl, Nat.le_refl _, fun _ => rfl, .inr rfl, ⟨r, e, (0, 0), hh, ?_⟩⟩
              rw [m4]; simp
      · cases ha
  case makeMap t r =>
    cases r with
    | some x => simp at ha
    | none =>
      simp only [Option.some.injEq, Prod.mk.injEq] at ha
      obtain ⟨rfl, rfl⟩ := ha
      refine ⟨.map (some w.heap.size), .map #[] 0, _, ?_, .alloc _ _, fun C' hle hh => ⟨rfl, #[], 0, hh, by simp [VsRel], by simp [VsRel]⟩, fun C' id hh hal => by simp only [VRel]; exact ⟨_, hal, rfl⟩⟩
      simp [execOp, Instr.makeMap]
  case makeSlice t l c =>
    cases ht : tel E.P t with
    | none => simp [ht] at ha
    | some q =>
      obtain ⟨e, z⟩ := q
      obtain ⟨hu, hz⟩ := tel_ok ht
      have hvl := hρ l
      have hvc := hρ c
      simp only [ht] at ha
      split at ha
      · rename_i e' z' n m e1 hl hc
        cases e1
        rw [hl] at hvl
        rw [hc] at hvc
        simp only [VRel] at hvl hvc
        cases hb : tby E.P e with
        | none => simp [hb] at ha
        | some by_ =>
          simp only [hb] at ha
          split at ha
          · rename_i hlim
            cases hzs : tzeros E.P e z m.toNat with
            | none => simp [hzs] at ha
            | some zs =>
              simp only [hzs, Option.some.injEq, Prod.mk.injEq] at ha
              obtain ⟨rfl, rfl⟩ := ha
              obtain ⟨zv, k1, k2, k3, k4, k5⟩ := zeros_ok (C := C) (w := w) hzs hz
              cases hi : E.P.info? e with
              | none => simp [tby, hi] at hb
              | some inf =>
                have hby : inf.bytes = by_ := by simpa [tby, hi] using hb
                have w1 : IntKind.i64.wrap m = m := by
                  have := hlim.2.2.2
                  simp [IntKind.wrap, IntKind.signed, IntKind.bits]; omega
                have w2 : IntKind.i64.wrap n = n := by
                  have := hlim.2.2.2
                  simp [IntKind.wrap, IntKind.signed, IntKind.bits]; omega
                refine ⟨.slice (some ⟨w.heap.size, 0, none⟩) n.toNat m.toNat, .cells ((Array.range (m.toNat * z)).map ((if m.toNat * z = 0 then #[] else zv.cells)[· % (if m.toNat * z = 0 then #[] else zv.cells).size]!)) e, _, ?_, .alloc _ _, fun C' hle hh => ?_, fun C' id hh hal => ?_⟩
                · have hA : (decide (m < 0) || decide ((inf.bytes : Int) * m > 2 ^ 48)) = false := by
                    rw [hby]
                    have := hlim.2.2.1
                    rw [Int.mul_comm] at this
                    simp; omega
                  simp only [execOp, Instr.makeSlice, Sem.run_bind, run_underlying hu, Result.andThen_ok, hvl, hvc, asInt, asIntOf, Sem.run_pure, run_typeInfo hi, w1, w2]
                  simp only [hA]
                  have h1 : ¬ n < 0 := by omega
                  have h2 : ¬ n > m := by omega
                  simp only [h1, h2, decide_false, Bool.or_false, Bool.false_eq_true, if_false, Sem.run_bind, run_askRoom, Result.andThen_ok, run_sizeOf hz, Sem.run_pure]
                  by_cases h0 : m.toNat * z = 0
                  · simp [h0, newRow]
                  · simp [h0, k1, newRow]
                · by_cases h0 : m.toNat * z = 0
                  · have : zs = [] := nil_of_len (by omega)
                    subst this
                    exact ⟨_, e, (0, 0), hh, fun i _ h => by omega, by simp, fun i x hx => by simp at hx⟩
                  · rw [if_neg h0] at hh
                    exact row_new hle hh k4 k5
                · simp only [VRel]
                  refine ⟨_, _, _, m.toNat, hal, rfl, by omega, fun ht2 => by simp at ht2; omega, .inr rfl, ⟨_, e, (0, 0), hh, by simp⟩⟩
          · cases ha
      · cases ha
  case range t x =>
    split at ha
    · rename_i hs
      have hu := tsl_ok hs
      have hv := hρ x
      cases hx : ρ x <;> simp only [hx, Option.some.injEq, Prod.mk.injEq, reduceCtorEq] at ha
      rename_i s
      obtain ⟨rfl, rfl⟩ := ha
      rw [hx] at hv
      simp only [VRel] at hv
      refine ⟨.pointer (some ⟨w.heap.size, 0, none⟩), .stringIter ⟨s.toArray⟩ 0, _, ?_, .alloc _ _, fun C' hle hh => ⟨rfl, hh⟩, fun C' id hh hal => by simp only [VRel]; exact ⟨_, _, hal, rfl⟩⟩
      simp [execOp, Instr.range, run_underlying hu, hv]
    · cases ha
  case convert s d x =>
    split at ha
    · rename_i e l hs ht hx
      obtain ⟨hu, hz⟩ := tel_ok ht
      split at ha
      · rename_i he
        split at ha
        · rename_i hlim
          simp only [Option.some.injEq, Prod.mk.injEq] at ha
          obtain ⟨rfl, rfl⟩ := ha
          have hv := hρ x
          rw [hx] at hv
          simp only [VRel] at hv
          have hsz : (⟨l.toArray⟩ : ByteArray).size = l.length := by simp [ByteArray.size]
          generalize hq : Question.appendCap l.length 0 e = q
          have hfo : q.forced = false := by subst hq; rfl
          have hcap : l.length ≤ q.cut (w.tape w.drawn q) := by
            subst hq; show l.length ≤ l.length + _; omega
          generalize hcp : q.cut (w.tape w.drawn q) = cap at hcap
          generalize hel : (((⟨l.toArray⟩ : ByteArray).data.map fun b => Value.int .u8 b.toNat) ++ Array.replicate (cap - l.length) (Value.int .u8 0)) = cs
          have hcsz : cs.size = cap := by subst hel; simp; omega
          refine ⟨.slice (some ⟨w.heap.size, 0, none⟩) l.length cap, .cells cs e (cs.size, cs.size + 1), ({ w with heap := w.heap.push (Obj.cells cs e), drawn := w.drawn + 1 } : World).freeze ⟨w.heap.size, cs.size, none⟩ 1, ?_, ⟨?_, rfl, rfl, rfl⟩, fun C' hle hh => ?_, fun C' id hh hal => ?_⟩
          · simp only [execOp, hv, convert, Sem.run_bind, run_underlying hs, run_underlying hu, run_underlying he, Result.andThen_ok, Conv.stringToBytes, hsz, hq, run_choose, hfo, Bool.false_eq_true, if_false, hcp, hel, newRow, run_newObj, Sem.run_pure]
            simp only [markStringish, Sem.run_bind, run_shape, Result.andThen_ok]
            have hsh : ({ w with heap := w.heap.push (Obj.cells cs e), drawn := w.drawn + 1 } : World).shape? w.heap.size = some (e, cs.size) := by simp [World.shape?]
            rw [hsh]
            simp only [run_freeze, Result.andThen_ok, Sem.run_pure]
          · simp only [World.freeze]
            rw [if_neg (by decide)]
            apply Array.ext_getElem?
            intro i
            simp only
            rw [Array.getElem?_modify]
            by_cases hi : i = w.heap.size
            · subst hi; simp
            · rw [if_neg (fun e => hi e.symm)]
              simp only [Array.getElem?_push, if_neg hi]
          · refine ⟨cs, e, (cs.size, cs.size + 1), hh, fun i hi h => by omega, by simp; omega, fun i y hy => ?_⟩
            rw [List.getElem?_map] at hy
            cases hli : l[i]? with
            | none => rw [hli] at hy; cases hy
            | some b =>
              rw [hli] at hy; simp at hy; subst hy
              have hil : i < l.length := (List.getElem?_eq_some_iff.1 hli).1
              refine ⟨.int .u8 b.toNat, ?_, rfl, by simp [VRel]⟩
              subst hel
              rw [Nat.zero_add, Array.getElem?_append_left (by simp; omega)]
              simp [hli]
          · simp only [VRel]
            exact ⟨_, _, _, cap, hal, rfl, hcap, fun h => (by cases h), .inr rfl, ⟨cs, e, _, hh, by omega⟩⟩
        · cases ha
      · cases ha
    · cases ha
end
end Go.Zk
namespace Go.Zk

section
variable {E : Env} {B : Nat} {C : Ctx} {H : AHeap} {w : World} {P : Program}

/-- What is appended: n elements of z cells. -/
structure Src (P : Program) (w : World) (z n : Nat) (x : Value) (news : List Value) : Prop where
  len : ∀ w', (Builtin.lenOf x).run P w' = .ok n w'
  cells : (Builtin.firstCells z n x).run P w = .ok news.toArray w
  later : (Builtin.firstCells z n x).run P w.drew = .ok news.toArray w.drew

theorem nums_of_string (l : List UInt8) : ((⟨l.toArray⟩ : ByteArray).extract 0 l.length).data.map (fun b => Value.int .u8 b.toNat) = (l.map fun b => Value.int .u8 b.toNat).toArray := by
  apply Array.ext'
  simp

theorem append_grow {t u ty e : TypeId} {i : TypeInfo} {zv : Value} {z : Nat} (ht : P.underlying t = some (.slice e)) (hu : ∃ d, P.underlying u = some d ∧ ∀ k, d ≠ .int k) (hi : P.info? e = some i) (hz : i.size = z) (hzv : i.zero = some zv)
    {A : Option Addr} {sLen sCap n : Nat} {x : Value} {olds news : List Value} (ho : (Builtin.firstCells z sLen (.slice A sLen sCap)).run P w.drew = .ok olds.toArray w.drew) (hs : Src P w z n x news)
    (hg : sCap < sLen + n) (h32 : sLen + n ≤ 4294967296) (hby : (sLen + n) * i.bytes ≤ 140737488355328) :
    ∃ cap, sLen + n ≤ cap ∧ (Builtin.append_ #[t, u] ty #[.slice A sLen sCap, x]).run P w =
      .ok (.slice (some ⟨w.heap.size, 0, none⟩) (sLen + n) cap) (w.drew.alloc (.cells (olds.toArray ++ news.toArray ++ Builtin.zeroCells zv.cells (cap - (sLen + n))) e)) := by
  subst hz
  obtain ⟨d, hd1, hd2⟩ := hu
  have hzr : ∀ w', (do pure ((← underlying u) matches .int _) : Sem Bool).run P w' = .ok false w' := fun w' => by
    cases d <;> first | exact absurd rfl (hd2 _) | simp [run_underlying hd1]
  refine ⟨grownCap w (sLen + n) sCap e, grownCap_ge w (sLen + n) sCap e, ?_⟩
  have hn : ¬ (sLen + n ≤ sCap) := by omega
  have h63' : ¬ (9223372036854775807 < ((sLen : Int) + (n : Int))) := by omega
  have h48' : ¬ (281474976710656 < Builtin.nextslicecap (sLen + n) sCap * i.bytes) := by have := growslice_fits hg hby; omega
  have hl := hs.len
  have hc := hs.later
  have hd3 : (match d with | .int _ => true | _ => false) = false := by cases d <;> first | exact absurd rfl (hd2 _) | rfl
  simp [Builtin.append_, run_underlying ht, run_underlying hd1, hd3, sizeOf, typeInfo, zeroValue, hi, hzv, hl, hn, h63', h48', Question.forced, hc, ho, newRow, grownCap]
  congr 2
  apply Array.ext'
  simp [List.append_assoc]

theorem append_room {t u ty e : TypeId} {i : TypeInfo} {z : Nat} (ht : P.underlying t = some (.slice e)) (hu : ∃ d, P.underlying u = some d ∧ ∀ k, d ≠ .int k) (hi : P.info? e = some i) (hz : i.size = z)
    {A : Option Addr} {sLen sCap n : Nat} {x : Value} {news : List Value} (hs : Src P w z n x news) (hg : sLen + n ≤ sCap) {w' : World}
    (hst : ∀ a, A = some a → (storeCells (a.add (sLen * z)) news).run P w = .ok () w') (hno : A = none → w' = w) :
    (Builtin.append_ #[t, u] ty #[.slice A sLen sCap, x]).run P w = .ok (.slice A (sLen + n) sCap) w' := by
  subst hz
  obtain ⟨d, hd1, hd2⟩ := hu
  have hl := hs.len
  have hc := hs.cells
  have hd3 : (match d with | .int _ => true | _ => false) = false := by cases d <;> first | exact absurd rfl (hd2 _) | rfl
  cases A with
  | none =>
    have := hno rfl
    subst this
    simp [Builtin.append_, run_underlying ht, run_underlying hd1, hd3, sizeOf, typeInfo, hi, hl, hg, hc]
  | some a =>
    have := hst a rfl
    simp [Builtin.append_, run_underlying ht, run_underlying hd1, hd3, sizeOf, typeInfo, hi, hl, hg, hc, this]
end
end Go.Zk
namespace Go.Zk

def astore (P : Program) (t : TypeId) (H : AHeap) (p x : AV) : Option (AV × AHeap) :=
  match p, acells x, tsz P t with
  | .ptr id off, some l, some n => match H.get id with
    | .row cs => if l.length = n ∧ off + l.length ≤ cs.length then some (.tuple [], H.set id (.row (splice cs off l))) else none
    | _ => none
  | _, _, _ => none

def asrc (H : AHeap) (z : Nat) (x : AV) : Option (Nat × List AV) :=
  match x with
  | .nilsl => some (0, [])
  | .sl n _ cells => if cells.length = n * z then some (n, cells) else none
  | .msl id off n esz _ => match H.get id with
    | .row cs => if esz = z ∧ off + n * z ≤ cs.length then some (n, (cs.drop off).take (n * z)) else none
    | _ => none
  | .str s => if z = 1 then some (s.length, s.map fun b => .int .u8 b.toNat) else none
  | _ => none
def srcType (P : Program) (t : TypeId) : Bool := match P.underlying t with
  | some (.slice _) => true
  | some .string => true
  | _ => false
def agrow (H : AHeap) (z by_ : Nat) (len n : Nat) (olds news : List AV) (dead : Option Nat) : Option (AV × AHeap) :=
  if len + n ≤ 4294967296 ∧ (len + n) * by_ ≤ 140737488355328 then
    some (.msl H.next 0 (len + n) z false, (match dead with | some i => H.set i .dead | none => H).alloc (.row (olds ++ news)))
  else none
def aappend (P : Program) (st xt : TypeId) (H : AHeap) (s x : AV) : Option (AV × AHeap) :=
  match tel P st with
  | some (e, z) => match tby P e, tzero P e with
    | some by_, some zv => if srcType P xt = true ∧ (acells zv).map List.length = some z then match asrc H z x with
      | some (n, news) =>
        if n = 0 then (match s with
          | .nilsl => some (.nilsl, H)
          | .sl len t cells => some (.sl len t cells, H)
          | .msl i o l q t => if q = z then some (.msl i o l q t, H) else none
          | _ => none)
        else (match s with
          | .nilsl => agrow H z by_ 0 n [] news none
          | .sl len tight cells => if tight = true ∧ cells.length = len * z then agrow H z by_ len n cells news none else none
          | .msl id off len esz tight => match H.get id with
            | .row cs => if esz = z ∧ off + len * z ≤ cs.length then agrow H z by_ len n ((cs.drop off).take (len * z)) news (if tight = true then none else some id) else none
            | _ => none
          | _ => none)
      | none => none
      else none
    | _, _ => none
  | none => none

section
variable {E : Env} {B : Nat} {C : Ctx} {H : AHeap} {w : World} {P : Program}

theorem astore_ok (h : HSim E B C H w) {t : TypeId} {p x : AV} {u v : Value} {av : AV} {H' : AHeap} (hp : VRel C p u) (hx : VRel C x v) (ha : astore P t H p x = some (av, H')) :
    ∃ w' C', (Instr.storeAt t u v).run P w = .ok () w' ∧ av = .tuple [] ∧ Nxt E B C C' H' w w' ∧ C'.al = C.al := by
  unfold astore at ha
  split at ha
  · rename_i id off l n hl hn
    cases hr : H.get id <;> simp only [hr, reduceCtorEq] at ha
    rename_i cs
    split at ha
    · rename_i hc
      simp only [Option.some.injEq, Prod.mk.injEq] at ha
      obtain ⟨rfl, rfl⟩ := ha
      simp only [VRel] at hp
      obtain ⟨b, o, a1, rfl⟩ := hp
      obtain ⟨k1, k2⟩ := acells_rel hx hl
      have hlen := k1.length
      have hst := h.run_write (P := P) (off := off) (vs := v.cells.toList) hr a1 (by omega) k2
      refine ⟨_, _, ?_, rfl, h.write hr a1 hc.2 k1 k2, rfl⟩
      have hsz : v.cells.size = n := by have := hlen; simp at this; omega
      simp only [Instr.storeAt, Instr.sureAddr, Sem.run_bind, Sem.run_pure, Result.andThen_ok, storeVar, run_sizeOf hn]
      rw [if_neg (by omega)]
      exact hst
    · cases ha
  · cases ha

theorem firstCells_none (z len cap : Nat) (w : World) : (Builtin.firstCells z len (.slice none len cap)).run P w = .ok #[] w := by simp [Builtin.firstCells]
theorem firstCells_some {z len cap : Nat} {ad : Addr} {w : World} {vs : List Value} (hl : vs.length = len * z) (h : ∀ (j : Nat) u, vs[j]? = some u → w.cell? (ad.add j) = some u) :
    (Builtin.firstCells z len (.slice (some ad) len cap)).run P w = .ok vs.toArray w := by
  have := run_loadCells_list (P := P) w ad vs h
  rw [hl] at this
  simp [Builtin.firstCells, this]

/-- A slice's elements, as the machine reads them. -/
theorem slice_cells (h : HRead E C H w) {x : AV} {v : Value} {z n : Nat} {l : List AV} (hx : VRel C x v) (ha : asrc H z x = some (n, l)) (hns : ∀ s, x ≠ .str s) :
    ∃ A cap vs, v = .slice A n cap ∧ n ≤ cap ∧ vs.length = n * z ∧ VsRel C l vs ∧ (∀ u ∈ vs, u.oneCell' = true) ∧ (∀ w' : World, w'.heap = w.heap → (Builtin.firstCells z n v).run P w' = .ok vs.toArray w') := by
  have hcell : ∀ (w' : World), w'.heap = w.heap → ∀ a, w'.cell? a = w.cell? a := fun w' e a => by simp only [World.cell?, e]
  unfold asrc at ha
  split at ha
  · simp only [Option.some.injEq, Prod.mk.injEq] at ha
    obtain ⟨rfl, rfl⟩ := ha
    simp only [VRel] at hx
    subst hx
    exact ⟨none, 0, [], rfl, Nat.le_refl _, by simp, VsRel.nil, by simp, fun w' _ => firstCells_none _ _ _ _⟩
  · split at ha
    · rename_i hl
      simp only [Option.some.injEq, Prod.mk.injEq] at ha
      obtain ⟨rfl, rfl⟩ := ha
      simp only [VRel] at hx
      obtain ⟨A, cap, rfl, c1, c2, c3⟩ := hx
      rcases c3 with ⟨rfl, rfl, c4⟩ | ⟨ad, rfl, c4⟩
      · rw [nil_of_len c4] at hl ⊢
        exact ⟨none, _, [], rfl, c1, by simpa using hl, VsRel.nil, by simp, fun w' _ => firstCells_none _ _ _ _⟩
      · have hp : VRel C (.rptr ‹List AV› 0) (.pointer (some ad)) := by simp only [VRel]; exact ⟨ad, by simp [Addr.add], c4⟩
        obtain ⟨ad', vs, e, k1, k2, k3, k4⟩ := h.reach_n hp rfl (n := _) (show 0 + (‹List AV›).length ≤ _ by omega)
        cases e
        rw [List.drop_zero, List.take_of_length_le (by omega)] at k4
        exact ⟨some ad, cap, vs, rfl, c1, by omega, k4, k3, fun w' e => firstCells_some (by omega) fun j u hu => by rw [hcell w' e]; exact k2 j u hu⟩
    · cases ha
  · rename_i id off n' esz tight
    cases hr : H.get id <;> simp only [hr, reduceCtorEq] at ha
    rename_i cs
    split at ha
    · rename_i hl
      simp only [Option.some.injEq, Prod.mk.injEq] at ha
      obtain ⟨rfl, rfl⟩ := ha
      simp only [VRel] at hx
      obtain ⟨b, o, ad, cap, a1, rfl, c1, c2, c3, c4⟩ := hx
      rcases c3 with rfl | rfl
      · obtain rfl : n' = 0 := by omega
        simp only [Nat.zero_mul, List.take_zero]
        exact ⟨some ad, 0, [], rfl, Nat.le_refl _, rfl, VsRel.nil, by simp, fun w' _ => firstCells_some (by simp) fun j u hu => by simp at hu⟩
      · have hp : VRel C (.ptr id off) (.pointer (some ⟨b, o + off, none⟩)) := by simp only [VRel]; exact ⟨b, o, a1, rfl⟩
        obtain ⟨ad', vs, e, k1, k2, k3, k4⟩ := h.reach_n hp (show rowAt H (.ptr id off) = some (cs, off) by simp [rowAt, hr]) hl.2
        cases e
        exact ⟨_, cap, vs, rfl, c1, k1, k4, k3, fun w' e => firstCells_some k1 fun j u hu => by rw [hcell w' e]; exact k2 j u hu⟩
    · cases ha
  · rename_i s; exact absurd rfl (hns s)
  · cases ha

theorem asrc_ok (h : HRead E C H w) {x : AV} {v : Value} {z n : Nat} {l : List AV} (hx : VRel C x v) (ha : asrc H z x = some (n, l)) :
    ∃ news, Src P w z n v news ∧ VsRel C l news ∧ (∀ u ∈ news, u.oneCell' = true) ∧ news.length = n * z := by
  by_cases hns : ∀ s, x ≠ .str s
  · obtain ⟨A, cap, vs, rfl, c1, k1, k2, k3, k4⟩ := slice_cells (P := P) h hx ha hns
    exact ⟨vs, ⟨fun w' => by simp [Builtin.lenOf], k4 w rfl, k4 w.drew rfl⟩, k2, k3, k1⟩
  · have : ∃ s, x = .str s := by
      cases x <;> first | exact ⟨_, rfl⟩ | exact absurd (fun s h => by cases h) hns
    obtain ⟨s, rfl⟩ := this
    simp only [asrc] at ha
    split at ha
    · rename_i hz
      subst hz
      simp only [Option.some.injEq, Prod.mk.injEq] at ha
      obtain ⟨rfl, rfl⟩ := ha
      simp only [VRel] at hx
      subst hx
      have hsz : (⟨s.toArray⟩ : ByteArray).size = s.length := by simp [ByteArray.size]
      have hfc : ∀ w' : World, (Builtin.firstCells 1 s.length (.string ⟨s.toArray⟩)).run P w' = .ok (s.map fun b => Value.int .u8 b.toNat).toArray w' := fun w' => by
        simp only [Builtin.firstCells, Sem.run_pure, nums_of_string]
      refine ⟨s.map fun b => .int .u8 b.toNat, ⟨fun w' => by simp [Builtin.lenOf, hsz], hfc w, hfc _⟩, VsRel.of_get (by simp) fun i c v h1 h2 => ?_, fun u hu => ?_, by simp⟩
      · rw [List.getElem?_map] at h1 h2
        cases hs : s[i]? with
        | none => rw [hs] at h1; cases h1
        | some b => rw [hs] at h1 h2; cases h1; cases h2; simp [VRel]
      · obtain ⟨b, _, rfl⟩ := List.mem_map.1 hu; rfl
    · cases ha

/-- A block that lies gets a name. -/
theorem HSim.christen (h : HSim E B C H w) {b o : Nat} (ab : ABlk) (h1 : B ≤ b) (h2 : b < w.heap.size) (h3 : ¬ C.I b) (h4 : ∀ j, j < H.next → H.get j ≠ .dead → ∀ p, C.al j ≠ some (b, p))
    (hb : BRel (C.name H.next (b, o)) b o ab) : Nxt E B C (C.name H.next (b, o)) (H.alloc ab) w w := by
  have hle : C.le (C.name H.next (b, o)) := Ctx.le_name (h.fresh H.next (Nat.le_refl _))
  have hal : ∀ i, i < H.next → (C.name H.next (b, o)).al i = C.al i := fun i hi => upd_ne _ _ (by omega)
  refine ⟨hle, .refl _ _, fun _ h => .inl h, ?_⟩
  refine ⟨h.heap, h.base, h.lt, fun i hi => ?_, fun i hi => ?_, fun i hi hd => ?_, fun i j x p q hi hj hdi hdj ei ej => ?_, fun g cells hg => (h.glob g cells hg).mono hle _ _ _, h.nd⟩
  · have hi' : H.next + 1 ≤ i := hi
    show upd C.al H.next _ i = none
    rw [upd_ne _ _ (by omega)]
    exact h.fresh i (by omega)
  · have hi' : H.next + 1 ≤ i := hi
    exact (upd_ne _ _ (by omega)).trans (h.dead i (by omega))
  · have hi' : i < H.next + 1 := hi
    by_cases e : i = H.next
    · subst e
      refine ⟨b, o, by show upd C.al H.next _ H.next = _; rw [upd_same], h1, h2, h3, ?_⟩
      show BRel _ _ _ (upd H.get H.next ab H.next)
      rw [upd_same]; exact hb
    · have hi2 : i < H.next := by omega
      have hg : (H.alloc ab).get i = H.get i := upd_ne _ _ e
      rw [hg] at hd ⊢
      obtain ⟨b', p, k1, k2, k3, k4, k5⟩ := h.blk i hi2 hd
      exact ⟨b', p, (hal i hi2).trans k1, k2, k3, k4, k5.mono hle rfl⟩
  · have key : ∀ k x p, k < H.next + 1 → (H.alloc ab).get k ≠ .dead → (C.name H.next (b, o)).al k = some (x, p) → (k = H.next ∧ x = b) ∨ (k < H.next ∧ H.get k ≠ .dead ∧ C.al k = some (x, p) ∧ x ≠ b) := by
      intro k x p hk hd e
      by_cases ek : k = H.next
      · subst ek
        refine .inl ⟨rfl, ?_⟩
        have : upd C.al H.next (some (b, o)) H.next = some (x, p) := e
        rw [upd_same] at this
        cases this; rfl
      · have hk2 : k < H.next := by omega
        have hg : (H.alloc ab).get k = H.get k := upd_ne _ _ ek
        rw [hg] at hd
        rw [hal k hk2] at e
        exact .inr ⟨hk2, hd, e, fun e2 => h4 k hk2 hd p (e2 ▸ e)⟩
    rcases key i x p hi hdi ei with ⟨e1, e2⟩ | ⟨e1, e2, e3, e4⟩ <;> rcases key j x q hj hdj ej with ⟨f1, f2⟩ | ⟨f1, f2, f3, f4⟩
    · omega
    · exact absurd e2 f4
    · exact absurd f2 e4
    · exact h.inj i j x p q e1 f1 e2 f2 e3 f3
end
end Go.Zk
