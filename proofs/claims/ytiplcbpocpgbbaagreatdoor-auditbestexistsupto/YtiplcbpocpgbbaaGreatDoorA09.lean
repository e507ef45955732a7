/- A computable evaluator over abstract values: code, calls, rounds; it is sound. Conditions: none. Reading rules for the operations' values. Conditions: none. -/
import Derived.Test.YtiplcbpocpgbbaaGreatDoorA08
set_option linter.unusedSimpArgs false
set_option linter.unusedVariables false
namespace Go.Zk

abbrev DInv := AV → List AV → DH → Option (AR × DH)
abbrev DQt := AV → List AV → DH → Option AV
abbrev DEx := Code → TFr → DH → Option (AExit × TFr × DH)

def dguard (ops : Array Oper) (o : Oper) (fr : TFr) : Option Bool :=
  match o.guard with
  | none => some true
  | some (j, want) => match (ops[j]?).bind (·.dst) with
    | none => some false
    | some t => match fr.fn t with
      | .bool b => some (match b, want with | true, true => true | false, false => true | _, _ => false)
      | .tuple [] => some false
      | _ => none
theorem dguard_true {ops : Array Oper} {o : Oper} {fr : TFr} {X Y : Prop} (h : dguard ops o fr = some true) (x : X) : AGuard ops o fr.fn X Y := by
  unfold dguard at h
  unfold AGuard
  split at h
  · rename_i h1; simp only [h1]; exact x
  · rename_i j want h1
    simp only [h1]
    split at h
    · cases h
    · rename_i t h2
      simp only [h2]
      split at h
      · rename_i b h3
        simp only [h3]
        cases b <;> cases want <;> first | exact x | cases h
      · cases h
      · cases h
theorem dguard_false {ops : Array Oper} {o : Oper} {fr : TFr} {X Y : Prop} (h : dguard ops o fr = some false) (y : Y) : AGuard ops o fr.fn X Y := by
  unfold dguard at h
  unfold AGuard
  split at h
  · cases h
  · rename_i j want h1
    simp only [h1]
    split at h
    · rename_i h2; simp only [h2]; exact y
    · rename_i t h2
      simp only [h2]
      split at h
      · rename_i b h3
        simp only [h3]
        cases b <;> cases want <;> first | exact y | cases h
      · rename_i h3; simp only [h3]; exact y
      · cases h

/-- One operation. -/
def dop (E : Env) (inv : DInv) (op : Op) (fr : TFr) (h : DH) : Option (AR × DH) :=
  match kindOf op with
  | 0 => match aval2 E op (aeval E fr.fn) h.of with
    | some v => some (.ret v, h)
    | none => none
  | 1 => match anew E op (aeval E fr.fn) with
    | some (f, blk) => match okBlk blk, kOk h.next with
      | true, true => some (.ret (f h.next), h.alloc (dBlk blk))
      | _, _ => none
    | none => none
  | 2 => match dwr E op (aeval E fr.fn) h with
    | some (v, h') => some (.ret v, h')
    | none => none
  | 3 => match aval2 E op (aeval E fr.fn) h.of with
    | some v => some (.ret v, h)
    | none => match anew E op (aeval E fr.fn) with
      | some (f, blk) => match okBlk blk, kOk h.next with
        | true, true => some (.ret (f h.next), h.alloc (dBlk blk))
        | _, _ => none
      | none => none
  | 4 => match op with
    | .build t parts => match abuild E.P t (parts.toList.map fun q => (q.1, aeval E fr.fn q.2)) with
      | some v => some (.ret v, h)
      | none => none
    | _ => none
  | 5 => match op with
    | .call c => match c.callee with
      | .value f => inv (aeval E fr.fn f) (c.args.toList.map (aeval E fr.fn)) h
      | _ => none
    | _ => none
  | _ => none

def InvIs (E : Env) (inv : DInv) : Prop := ∀ fv args h r h', inv fv args h = some (r, h') → ∀ Post : AR → AHeap → Prop, Post r h'.of → AInv E fv args h.of Post
def QtIs (E : Env) (qt : DQt) : Prop := ∀ fv args h res, qt fv args h = some res → AQuiet E fv args h.of res
def ExIs (E : Env) (n : Nat) (ex : DEx) : Prop := ∀ c fr h e fr' h', ex c fr h = some (e, fr', h') → ∀ Q : AExit → AFr → AHeap → Prop, Q e fr'.fn h'.of → AWp E n c Q fr.fn h.of

section
variable {E : Env} {n : Nat} {inv : DInv} {qt : DQt}

theorem dop_is (hi : InvIs E inv) {o : Oper} {fr : TFr} {h h' : DH} {r : AR} (e : dop E inv o.op fr h = some (r, h')) {K Qp : AV → AHeap → Prop}
    (hk : match r with | .ret v => K v h'.of | .panic v => Qp v h'.of) : AOp E o fr.fn h.of K Qp := by
  unfold dop at e
  unfold AOp astep
  split at e
  · rename_i hk0
    simp only [hk0]
    split at e
    · rename_i v h1; cases e; simp only [h1]; exact hk
    · cases e
  · rename_i hk0
    simp only [hk0]
    split at e
    · rename_i f blk h1
      split at e
      · rename_i k1 k2
        cases e
        simp only [h1]
        simp only at hk
        rw [DH.alloc_of _ _ (kOk.lt k2), dBlk_of k1] at hk
        exact hk
      · cases e
    · cases e
  · rename_i hk0
    simp only [hk0]
    split at e
    · rename_i v h1 h2; cases e; simp only [dwr_of h2]; exact hk
    · cases e
  · rename_i hk0
    simp only [hk0]
    split at e
    · rename_i v h1; cases e; simp only [h1]; exact hk
    · rename_i h0
      simp only [h0]
      split at e
      · rename_i f blk h1
        split at e
        · rename_i k1 k2
          cases e
          simp only [h1]
          simp only at hk
          rw [DH.alloc_of _ _ (kOk.lt k2), dBlk_of k1] at hk
          exact hk
        · cases e
      · cases e
  · rename_i hk0
    simp only [hk0]
    split at e
    · rename_i t parts h0
      simp only [h0]
      split at e
      · rename_i v h1; cases e; simp only [h1]; exact hk
      · cases e
    · cases e
  · rename_i hk0
    simp only [hk0]
    split at e
    · rename_i c h0
      simp only [h0]
      split at e
      · rename_i f h1
        simp only [h1]
        refine hi _ _ _ _ _ e _ ?_
        cases r <;> exact hk
      · cases e
    · cases e
  · cases e

/-- Operations in the order of the text. -/
def dops (E : Env) (inv : DInv) (n : Nat) (ops : Array Oper) : List Oper → TFr → DH → Option (AExit × TFr × DH)
  | [], fr, h => some (.normal, fr, h)
  | o :: rest, fr, h => match dguard ops o fr with
    | some true => match dop E inv o.op fr h with
      | some (.ret v, h') => match fr.put n o.dst v with
        | some fr' => dops E inv n ops rest fr' h'
        | none => none
      | some (.panic v, h') => some (.panic v, fr, h')
      | none => none
    | some false => match fr.put n o.dst (.tuple []) with
      | some fr' => dops E inv n ops rest fr' h
      | none => none
    | none => none
theorem dops_is (hi : InvIs E inv) {ops : Array Oper} {Q : AExit → AFr → AHeap → Prop} : ∀ (l : List Oper) {fr fr' : TFr} {h h' : DH} {e : AExit}, dops E inv n ops l fr h = some (e, fr', h') → Q e fr'.fn h'.of → AOps E n ops Q l fr.fn h.of
  | [], fr, fr', h, h', e, he, hq => by
    unfold dops at he
    cases he
    rw [AOps]; exact hq
  | o :: rest, fr, fr', h, h', e, he, hq => by
    unfold dops at he
    rw [AOps]
    split at he
    · rename_i hg
      refine dguard_true hg ?_
      split at he
      · rename_i v h1 ho
        split at he
        · rename_i fr1 hp
          refine dop_is hi ho ?_
          show AOps E n ops Q rest (aput n fr.fn o.dst v) h1.of
          rw [← TFr.put_fn hp]
          exact dops_is hi rest he hq
        · cases he
      · rename_i v h1 ho
        cases he
        exact dop_is hi ho hq
      · cases he
    · rename_i hg
      refine dguard_false hg ?_
      split at he
      · rename_i fr1 hp
        rw [← TFr.put_fn hp]
        exact dops_is hi rest he hq
      · cases he
    · cases he

/-- One operation whose turn is open. -/
inductive DEff where
  | no
  | new (b : DBlk)
  | put (id : Nat) (b : DBlk)
def DEff.of : DEff → AEff
  | .no => .no
  | .new b => .new b.of
  | .put i b => .put i b.of
def dquiet (E : Env) (qt : DQt) (op : Op) (fr : TFr) (h : DH) (id : Nat) : Option (AV × DEff × Option (List Nat)) :=
  match kindOf op with
  | 0 => match aval2 E op (aeval E fr.fn) h.of with
    | some v => some (v, .no, some (footOf op (aeval E fr.fn)))
    | none => none
  | 1 => match anew E op (aeval E fr.fn) with
    | some (f, blk) => match okBlk blk with
      | true => some (f id, .new (dBlk blk), some (footOf op (aeval E fr.fn)))
      | _ => none
    | none => none
  | 2 => match op with
    | .store t a x => match aeval E fr.fn a, dstore E.P t h (aeval E fr.fn a) (aeval E fr.fn x) with
      | .ptr i _, some (v, h') => some (v, .put i (h'.get i), some [i])
      | _, _ => none
    | _ => none
  | 3 => match aval2 E op (aeval E fr.fn) h.of with
    | some v => some (v, .no, some (footOf op (aeval E fr.fn)))
    | none => match anew E op (aeval E fr.fn) with
      | some (f, blk) => match okBlk blk with
        | true => some (f id, .new (dBlk blk), some (footOf op (aeval E fr.fn)))
        | _ => none
      | none => none
  | 4 => match op with
    | .build t parts => match abuild E.P t (parts.toList.map fun q => (q.1, aeval E fr.fn q.2)) with
      | some v => some (v, .no, some (footOf op (aeval E fr.fn)))
      | none => none
    | _ => none
  | 5 => match op with
    | .call c => match c.callee with
      | .value f => match qt (aeval E fr.fn f) (c.args.toList.map (aeval E fr.fn)) h with
        | some v => some (v, .no, none)
        | none => none
      | _ => none
    | _ => none
  | _ => none
theorem dquiet_is (hq : QtIs E qt) {o : Oper} {fr : TFr} {h : DH} {id : Nat} {v : AV} {b : DEff} {r : Option (List Nat)} (e : dquiet E qt o.op fr h id = some (v, b, r)) {K : AV → AEff → Option (List Nat) → Prop}
    (hk : K v b.of r) : AQ E o fr.fn h.of id K := by
  unfold dquiet at e
  unfold AQ aquiet
  split at e
  · rename_i hk0
    simp only [hk0]
    split at e
    · rename_i v h1; cases e; simp only [h1]; exact hk
    · cases e
  · rename_i hk0
    simp only [hk0]
    split at e
    · rename_i f blk h1
      split at e
      · rename_i k1
        cases e
        simp only [h1]
        simp only [DEff.of, dBlk_of k1] at hk
        exact hk
      · cases e
    · cases e
  · rename_i hk0
    simp only [hk0]
    split at e
    · rename_i t a x h0
      simp only [h0]
      split at e
      · rename_i i off v1 h1 h2 h3
        cases e
        simp only [h2, dstore_of h3]
        rw [h2] at h3
        simp only [dstore_of h3]
        exact hk
      · cases e
    · cases e
  · rename_i hk0
    simp only [hk0]
    split at e
    · rename_i v h1; cases e; simp only [h1]; exact hk
    · rename_i h0
      simp only [h0]
      split at e
      · rename_i f blk h1
        split at e
        · rename_i k1
          cases e
          simp only [h1]
          simp only [DEff.of, dBlk_of k1] at hk
          exact hk
        · cases e
      · cases e
  · rename_i hk0
    simp only [hk0]
    split at e
    · rename_i t parts h0
      rw [h0] at e
      simp only [h0]
      split at e
      · rename_i v h1; cases e; simp only [h1]; exact hk
      · cases e
    · cases e
  · rename_i hk0
    simp only [hk0]
    split at e
    · rename_i c h0
      simp only [h0]
      split at e
      · rename_i f h1
        simp only [h1]
        split at e
        · rename_i v h2
          cases e
          exact ⟨none, v, hq _ _ _ _ h2, hk⟩
        · cases e
      · cases e
    · cases e
  · cases e

def dsetB (h : DH) (id : Nat) : DEff → Option DH
  | .no => some h
  | .new b => match kOk id with
    | true => some (h.set id b)
    | false => none
  | .put i b => match kOk i with
    | true => some (h.set i b)
    | false => none
theorem dsetB_is {h h' : DH} {id : Nat} {b : DEff} (e : dsetB h id b = some h') : h'.of = setB h.of id b.of := by
  unfold dsetB at e
  split at e
  · cases e; rfl
  · split at e
    · rename_i k; cases e; rw [DH.set_of _ _ _ (kOk.lt k)]; rfl
    · cases e
  · split at e
    · rename_i k; cases e; rw [DH.set_of _ _ _ (kOk.lt k)]; rfl
    · cases e
def dlog (log : ALog) (r : Option (List Nat)) (b : DEff) : ALog := match b with
  | .put i _ => log ++ [(r, some i)]
  | _ => log ++ [(r, none)]
theorem dlog_is {log : ALog} {r : Option (List Nat)} {b : DEff} : dlog log r b = log ++ [(r, effId b.of)] := by cases b <;> rfl
/-- The operations whose turn is open. -/
def dhead (E : Env) (qt : DQt) (n : Nat) (ops : Array Oper) (N : Nat) : List Oper → Nat → ALog → TFr → DH → Option (ALog × TFr × DH)
  | [], _, log, fr, h => some (log, fr, h)
  | o :: rest, i, log, fr, h => match dguard ops o fr with
    | some true => match dquiet E qt o.op fr h (N + i) with
      | some (v, b, r) => match fr.put n o.dst v, dsetB h (N + i) b with
        | some fr', some h' => dhead E qt n ops N rest (i + 1) (dlog log r b) fr' h'
        | _, _ => none
      | none => none
    | some false => match fr.put n o.dst (.tuple []) with
      | some fr' => dhead E qt n ops N rest (i + 1) (log ++ [(some [], none)]) fr' h
      | none => none
    | none => none
theorem dhead_is (hq : QtIs E qt) {ops : Array Oper} {N : Nat} {K : ALog → AFr → AHeap → Prop} : ∀ (l : List Oper) (i : Nat) {log log' : ALog} {fr fr' : TFr} {h h' : DH}, dhead E qt n ops N l i log fr h = some (log', fr', h') → K log' fr'.fn h'.of → AHead E n ops N K l i log fr.fn h.of
  | [], i, log, log', fr, fr', h, h', e, hk => by
    unfold dhead at e
    cases e
    rw [AHead]; exact hk
  | o :: rest, i, log, log', fr, fr', h, h', e, hk => by
    unfold dhead at e
    rw [AHead]
    split at e
    · rename_i hg
      refine dguard_true hg ?_
      split at e
      · rename_i v b r ho
        split at e
        · rename_i fr1 h1 hp hn
          refine dquiet_is hq ho ?_
          rw [← TFr.put_fn hp, ← dsetB_is hn, ← dlog_is]
          exact dhead_is hq rest (i + 1) e hk
        · cases e
      · cases e
    · rename_i hg
      refine dguard_false hg ?_
      split at e
      · rename_i fr1 hp
        rw [← TFr.put_fn hp]
        exact dhead_is hq rest (i + 1) e hk
      · cases e
    · cases e

/-- A plan for a region of open order: where one operation comes behind all others it stands alone. -/
def dplan (ms : List Nat) : Nat → Nat → Nat → List (Nat × Bool)
  | 0, _, _ => []
  | d + 1, s, m => match dlater ms (m + 1) with
    | true => (m + 1, match Nat.beq s m with | true => false | false => true) :: dplan ms d (m + 1) (m + 1)
    | false => dplan ms d s (m + 1)
def dplanOf (ops : Array Oper) : List (Nat × Bool) := dplan (dmasks ops.toList []) ops.size 0 0

def dstage (E : Env) (inv : DInv) (qt : DQt) (n : Nat) (ops : Array Oper) : List (Nat × Bool) → Nat → TFr → DH → Option (AExit × TFr × DH)
  | [], _, fr, h => some (.normal, fr, h)
  | (m, b) :: l, s, fr, h => match b with
    | true => match dhead E qt n ops h.next ((ops.toList.take m).drop s) s [] fr ⟨h.next + m, h.t⟩ with
      | some (log, fr', h') => match logOk ops s log with
        | true => dstage E inv qt n ops l m fr' h'
        | false => none
      | none => none
    | false => match dops E inv n ops ((ops.toList.take m).drop s) fr h with
      | some (e, fr', h') => match e with
        | .normal => dstage E inv qt n ops l m fr' h'
        | e => some (e, fr', h')
      | none => none

def dloop (body : TFr → DH → Option (AExit × TFr × DH)) : Nat → TFr → DH → Option (AExit × TFr × DH)
  | 0, _, _ => none
  | k + 1, fr, h => match body fr h with
    | some (e, fr', h') => match e with
      | .normal => dloop body k fr' h'
      | e => some (e, fr', h')
    | none => none

/-- Code. -/
def dexec (E : Env) (n N : Nat) (inv : DInv) (qt : DQt) : DEx
  | .skip, fr, h => some (.normal, fr, h)
  | .label _, fr, h => some (.normal, fr, h)
  | .ret, fr, h => some (.ret, fr, h)
  | .exit i, fr, h => some (.exit i, fr, h)
  | .goto i, fr, h => some (.goto i, fr, h)
  | .seq a b, fr, h => match dexec E n N inv qt a fr h with
    | some (e, fr', h') => match e with
      | .normal => dexec E n N inv qt b fr' h'
      | e => some (e, fr', h')
    | none => none
  | .cond c t e, fr, h => match aeval E fr.fn c with
    | .bool b => match b with
      | true => dexec E n N inv qt t fr h
      | false => dexec E n N inv qt e fr h
    | _ => none
  | .block i c, fr, h => match dexec E n N inv qt c fr h with
    | some (e, fr', h') => match e with
      | .exit j => match Nat.beq j i with
        | true => some (.normal, fr', h')
        | false => some (.exit j, fr', h')
      | e => some (e, fr', h')
    | none => none
  | .loop c, fr, h => dloop (dexec E n N inv qt c) N fr h
  | .region _ ops false, fr, h => dops E inv n ops ops.toList fr h
  | .region _ ops true, fr, h => match planOk ops (dplanOf ops) with
    | true => dstage E inv qt n ops (dplanOf ops) 0 fr h
    | false => none
  | .rangeFunc f ps x y, fr, h => match kOk h.next with
    | true => match inv (aeval E fr.fn f) [.yield h.next] (h.alloc (.loop ⟨n, fr, ps, x, y, .ready, none⟩)) with
      | some (r, h') => match r with
        | .ret _ => match h'.get h.next with
          | .loop l => match l.state with
            | .busy => none
            | _ => match l.pending with
              | none => some (.normal, fr, h'.set h.next .dead)
              | some .ret => some (.ret, fr, h'.set h.next .dead)
              | some (.exit i) => some (.exit i, fr, h'.set h.next .dead)
              | _ => none
          | _ => none
        | .panic v => some (.panic v, fr, h')
      | none => none
    | false => none
  | .scope _, _, _ => none
  | .refuse _, _, _ => none

theorem AThen_not {next : AFr → AHeap → Prop} {Q : AExit → AFr → AHeap → Prop} {e : AExit} (he : e ≠ .normal) {fr : AFr} {H : AHeap} (h : Q e fr H) : AThen next Q e fr H := by
  cases e <;> first | exact absurd rfl he | exact h

theorem dstage_is (hi : InvIs E inv) (hqt : QtIs E qt) {ops : Array Oper} {Q : AExit → AFr → AHeap → Prop} : ∀ (l : List (Nat × Bool)) (s : Nat) {fr fr' : TFr} {h h' : DH} {e : AExit}, dstage E inv qt n ops l s fr h = some (e, fr', h') → Q e fr'.fn h'.of → AStages E n ops Q l s fr.fn h.of
  | [], s, fr, fr', h, h', e, he, hq => by
    unfold dstage at he
    cases he
    rw [AStages]; exact hq
  | (m, b) :: l, s, fr, fr', h, h', e, he, hq => by
    unfold dstage at he
    cases b with
    | true =>
      rw [AStages]
      simp only at he
      split at he
      · rename_i log fr1 h1 h2
        split at he
        · rename_i hlg
          exact dhead_is (h := ⟨h.next + m, h.t⟩) hqt _ s h2 ⟨hlg, dstage_is hi hqt l m he hq⟩
        · cases he
      · cases he
    | false =>
      rw [AStages]
      simp only at he
      split at he
      · rename_i e1 fr1 h1 h2
        split at he
        · exact dops_is hi _ h2 (dstage_is hi hqt l m he hq)
        · rename_i hne
          cases he
          exact dops_is hi _ h2 (AThen_not hne hq)
      · cases he

theorem dloop_is {c : Code} {body : TFr → DH → Option (AExit × TFr × DH)}
    (hb : ∀ fr h e fr' h', body fr h = some (e, fr', h') → ∀ Q : AExit → AFr → AHeap → Prop, Q e fr'.fn h'.of → AWp E n c Q fr.fn h.of) {k : Nat} {fr fr' : TFr} {h h' : DH} {e : AExit}
    (he : dloop body k fr h = some (e, fr', h')) (Q : AExit → AFr → AHeap → Prop) (hq : Q e fr'.fn h'.of) : AWp E n (.loop c) Q fr.fn h.of := by
  refine wp_loop (fun fr0 H0 m => ∃ fr1 h1, fr0 = TFr.fn fr1 ∧ H0 = DH.of h1 ∧ dloop body m fr1 h1 = some (e, fr', h')) k ⟨fr, h, rfl, rfl, he⟩ ?_
  rintro m _ _ ⟨fr1, h1, rfl, rfl, h2⟩
  cases m with
  | zero => cases h2
  | succ m =>
    unfold dloop at h2
    split at h2
    · rename_i e2 fr2 h3 hb2
      split at h2
      · refine hb _ _ _ _ _ hb2 _ ?_
        exact ⟨m, by omega, fr2, h3, rfl, rfl, h2⟩
      · rename_i hne
        cases h2
        exact hb _ _ _ _ _ hb2 _ (AThen_not hne hq)
    · cases h2

theorem dexec_is (N : Nat) (hi : InvIs E inv) (hqt : QtIs E qt) : ExIs E n (dexec E n N inv qt) := by
  intro c
  induction c with
  | skip => intro fr h e fr' h' he Q hq; unfold dexec at he; cases he; rw [AWp]; exact hq
  | label l => intro fr h e fr' h' he Q hq; unfold dexec at he; cases he; rw [AWp]; exact hq
  | ret => intro fr h e fr' h' he Q hq; unfold dexec at he; cases he; rw [AWp]; exact hq
  | exit i => intro fr h e fr' h' he Q hq; unfold dexec at he; cases he; rw [AWp]; exact hq
  | goto i => intro fr h e fr' h' he Q hq; unfold dexec at he; cases he; rw [AWp]; exact hq
  | scope c ih => intro fr h e fr' h' he Q hq; unfold dexec at he; cases he
  | refuse s => intro fr h e fr' h' he Q hq; unfold dexec at he; cases he
  | seq a b iha ihb =>
    intro fr h e fr' h' he Q hq
    unfold dexec at he
    rw [AWp]
    split at he
    · rename_i e1 fr1 h1 h2
      split at he
      · exact iha _ _ _ _ _ h2 _ (ihb _ _ _ _ _ he _ hq)
      · rename_i hne
        cases he
        exact iha _ _ _ _ _ h2 _ (AThen_not hne hq)
    · cases he
  | cond x t e iht ihe =>
    intro fr h e fr' h' he Q hq
    unfold dexec at he
    rw [AWp]
    split at he
    · rename_i b hb
      simp only [hb]
      split at he
      · exact iht _ _ _ _ _ he _ hq
      · exact ihe _ _ _ _ _ he _ hq
    · cases he
  | block i c ih =>
    intro fr h e fr' h' he Q hq
    unfold dexec at he
    rw [AWp]
    split at he
    · rename_i e1 fr1 h1 h2
      refine ih _ _ _ _ _ h2 _ ?_
      split at he
      · rename_i j
        split at he
        · rename_i hj
          cases he
          have : j = i := Nat.eq_of_beq_eq_true hj
          rw [block_exit, if_pos this]; exact hq
        · rename_i hj
          cases he
          have : j ≠ i := fun e => by rw [Tr.beq_true e] at hj; cases hj
          rw [block_exit, if_neg this]; exact hq
      · rename_i hne
        cases he
        cases e <;> first | exact hq | exact absurd rfl (hne _)
    · cases he
  | loop c ih =>
    intro fr h e fr' h' he Q hq
    unfold dexec at he
    exact dloop_is ih he Q hq
  | region id ops draw =>
    intro fr h e fr' h' he Q hq
    cases draw with
    | false =>
      unfold dexec at he
      rw [AWp]
      exact dops_is hi _ he hq
    | true =>
      unfold dexec at he
      rw [AWp]
      split at he
      · rename_i hp
        exact ⟨.st _, hp, dstage_is hi hqt _ 0 he hq⟩
      · cases he
  | rangeFunc f ps x y ihx ihy =>
    intro fr h e fr' h' he Q hq
    unfold dexec at he
    rw [AWp]
    split at he
    · rename_i hk
      split at he
      · rename_i r h1 h2
        have e0 : h.of.alloc (.loop ⟨n, fr.fn, ps, x, y, .ready, none⟩) = (h.alloc (.loop ⟨n, fr, ps, x, y, .ready, none⟩)).of := (DH.alloc_of h (.loop ⟨n, fr, ps, x, y, .ready, none⟩) (kOk.lt hk)).symm
        have e1 : h.of.next = h.next := rfl
        rw [e0, e1]
        refine hi _ _ _ _ _ h2 _ ?_
        split at he
        · unfold ARanged
          simp only [DH.get_of]
          split at he
          · rename_i l hl
            simp only [hl, DBlk.of, DLoop.of]
            split at he
            · cases he
            · rename_i hb
              refine ⟨hb, ?_⟩
              have e2 : ∀ b, h1.of.set h.next (DBlk.of b) = (h1.set h.next b).of := fun b => (DH.set_of _ _ _ (kOk.lt hk)).symm
              have e3 := e2 .dead
              simp only [DBlk.of] at e3
              rw [e3]
              split at he
              · rename_i hp; cases he; simp only [hp]; exact hq
              · rename_i hp; cases he; simp only [hp]; exact hq
              · rename_i hp; cases he; simp only [hp]; exact hq
              · cases he
          · cases he
        · cases he
          exact hq
      · cases he
    · cases he

/-! ### pure views -/
def dpurL (f : AV → Option AV) : List AV → Option (List AV)
  | [] => some []
  | v :: l => match f v, dpurL f l with
    | some x, some m => some (x :: m)
    | _, _ => none
theorem dpurL_is {f : AV → Option AV} {R : AV → AV → Prop} (hf : ∀ v x, f v = some x → R v x) : ∀ {l m : List AV}, dpurL f l = some m → P2 R l m
  | [], m, e => by cases e; exact P2.nil
  | v :: l, m, e => by
    unfold dpurL at e
    split at e
    · rename_i x m' h1 h2
      cases e
      exact P2.cons (hf _ _ h1) (dpurL_is hf h2)
    · cases e
def dpur (h : DH) : Nat → AV → Option AV
  | 0, v => match v.pur with
    | true => some v
    | false => none
  | k + 1, v => match v.pur with
    | true => some v
    | false => match v with
      | .ptr id off => match h.get id with
        | .row cells => match dpurL (dpur h k) cells with
          | some cs => some (.rptr cs off)
          | none => none
        | _ => none
      | .msl id off len esz tight => match h.get id with
        | .row cells => match dpurL (dpur h k) cells with
          | some cs => some (.sl len tight ((cs.drop off).take (len * esz)))
          | none => none
        | _ => none
      | .map id => match h.get id with
        | .map ks vs => match dpurL (dpur h k) ks, dpurL (dpur h k) vs with
          | some ks', some vs' => some (.rmap ks' vs')
          | _, _ => none
        | _ => none
      | .func f a b => match dpurL (dpur h k) a, dpurL (dpur h k) b with
        | some a', some b' => some (.func f a' b')
        | _, _ => none
      | .iface t x => match dpur h k x with
        | some x' => some (.iface t x')
        | none => none
      | .agg cs => match dpurL (dpur h k) cs with
        | some cs' => some (.agg cs')
        | none => none
      | .tuple cs => match dpurL (dpur h k) cs with
        | some cs' => some (.tuple cs')
        | none => none
      | _ => none
theorem dpur_is {h : DH} : ∀ (k : Nat) {v r : AV}, dpur h k v = some r → Pur h.of k v r
  | 0, v, r, e => by
    unfold dpur at e
    split at e
    · rename_i hp; cases e; rw [Pur]; exact ⟨hp, rfl⟩
    · cases e
  | k + 1, v, r, e => by
    unfold dpur at e
    split at e
    · rename_i hp; cases e; exact Pur.self hp
    · have hx : ∀ {l m : List AV}, dpurL (dpur h k) l = some m → P2 (Pur h.of k) l m := fun h1 => dpurL_is (fun v x => dpur_is k) h1
      cases v <;> (try simp only at e) <;> (try (cases e; done)) <;> simp only [Pur] <;> refine .inr ?_
      · split at e
        · rename_i cells hg
          split at e
          · rename_i cs hc
            cases e
            exact ⟨cells, cs, by rw [DH.get_of, hg]; rfl, hx hc, rfl⟩
          · cases e
        · cases e
      · split at e
        · rename_i cells hg
          split at e
          · rename_i cs hc
            cases e
            exact ⟨cells, cs, _, by rw [DH.get_of, hg]; rfl, hx hc, id, rfl⟩
          · cases e
        · cases e
      · split at e
        · rename_i ks vs hg
          split at e
          · rename_i ks' vs' h1 h2
            cases e
            exact ⟨ks, vs, ks', vs', by rw [DH.get_of, hg]; rfl, hx h1, hx h2, rfl⟩
          · cases e
        · cases e
      · split at e
        · rename_i a' b' h1 h2
          cases e
          exact ⟨a', b', hx h1, hx h2, rfl⟩
        · cases e
      · split at e
        · rename_i x' h1
          cases e
          exact ⟨x', dpur_is k h1, rfl⟩
        · cases e
      · split at e
        · rename_i cs' h1
          cases e
          exact ⟨cs', hx h1, rfl⟩
        · cases e
      · split at e
        · rename_i cs' h1
          cases e
          exact ⟨cs', hx h1, rfl⟩
        · cases e

def dpurF (h : DH) : Nat → AV → Option AV
  | 0, v => match v.flat with
    | true => some v
    | false => none
  | k + 1, v => match v.flat with
    | true => some v
    | false => match v with
      | .ptr id off => match h.get id with
        | .row cells => match dpurL (dpurF h k) cells with
          | some cs => some (.rptr cs off)
          | none => none
        | _ => none
      | .msl id off len esz tight => match h.get id with
        | .row cells => match dpurL (dpurF h k) cells with
          | some cs => some (.sl len tight ((cs.drop off).take (len * esz)))
          | none => none
        | _ => none
      | .map id => match h.get id with
        | .map ks vs => match dpurL (dpurF h k) ks, dpurL (dpurF h k) vs with
          | some ks', some vs' => some (.rmap ks' vs')
          | _, _ => none
        | _ => none
      | .func f a b => match dpurL (dpurF h k) a, dpurL (dpurF h k) b with
        | some a', some b' => some (.func f a' b')
        | _, _ => none
      | .iface t x => match dpurF h k x with
        | some x' => some (.iface t x')
        | none => none
      | .agg cs => match dpurL (dpurF h k) cs with
        | some cs' => some (.agg cs')
        | none => none
      | .tuple cs => match dpurL (dpurF h k) cs with
        | some cs' => some (.tuple cs')
        | none => none
      | _ => none
theorem dpurF_is {h : DH} : ∀ (k : Nat) {v r : AV}, dpurF h k v = some r → PurF h.of k v r
  | 0, v, r, e => by
    unfold dpurF at e
    split at e
    · rename_i hp; cases e; rw [PurF]; exact ⟨hp, rfl⟩
    · cases e
  | k + 1, v, r, e => by
    unfold dpurF at e
    split at e
    · rename_i hp; cases e; exact PurF.self hp
    · have hx : ∀ {l m : List AV}, dpurL (dpurF h k) l = some m → P2 (PurF h.of k) l m := fun h1 => dpurL_is (fun v x => dpurF_is k) h1
      cases v <;> (try simp only at e) <;> (try (cases e; done)) <;> simp only [PurF] <;> refine .inr ?_
      · split at e
        · rename_i cells hg
          split at e
          · rename_i cs hc
            cases e
            exact ⟨cells, cs, by rw [DH.get_of, hg]; rfl, hx hc, rfl⟩
          · cases e
        · cases e
      · split at e
        · rename_i cells hg
          split at e
          · rename_i cs hc
            cases e
            exact ⟨cells, cs, by rw [DH.get_of, hg]; rfl, hx hc, rfl⟩
          · cases e
        · cases e
      · split at e
        · rename_i ks vs hg
          split at e
          · rename_i ks' vs' h1 h2
            cases e
            exact ⟨ks, vs, ks', vs', by rw [DH.get_of, hg]; rfl, hx h1, hx h2, rfl⟩
          · cases e
        · cases e
      · split at e
        · rename_i a' b' h1 h2
          cases e
          exact ⟨a', b', hx h1, hx h2, rfl⟩
        · cases e
      · split at e
        · rename_i x' h1
          cases e
          exact ⟨x', dpurF_is k h1, rfl⟩
        · cases e
      · split at e
        · rename_i cs' h1
          cases e
          exact ⟨cs', hx h1, rfl⟩
        · cases e
      · split at e
        · rename_i cs' h1
          cases e
          exact ⟨cs', hx h1, rfl⟩
        · cases e

/-! ### calls -/
/-- What is read of a function. -/
def dfn (P : Program) (f : FuncId) : Option (Nat × List ResultVar × Code) :=
  match P.funcs[f]? with
  | some fn => match fn.body, fn.name == "runtime.NumGoroutine" with
    | some c, false => some (fn.ntmps, fn.results.toList, c)
    | _, _ => none
  | none => none
theorem dfn_is {P : Program} {f : FuncId} {n : Nat} {rs : List ResultVar} {c : Code} (h : dfn P f = some (n, rs, c)) : FnIs P f n rs c := by
  unfold dfn at h
  split at h
  · rename_i fn h1
    split at h
    · rename_i c' h2 h3
      cases h
      exact ⟨fn, h1, h2, rfl, rfl, h3⟩
    · cases h
  · cases h

def dcall (E : Env) (ex : Nat → DEx) (f : FuncId) (args : List AV) (h : DH) : Option (AR × DH) :=
  match dfn E.P f with
  | some (n, rs, c) => match Nat.ble args.length n, Nat.ble args.length 1048575 with
    | true, true => match ex n c (TFr.args args 0 .leaf) h with
      | some (e, fr, h') => match e with
        | .normal => match aresL E fr.fn h'.of rs with
          | some vs => some (.ret (aresOf vs), h')
          | none => none
        | .ret => match aresL E fr.fn h'.of rs with
          | some vs => some (.ret (aresOf vs), h')
          | none => none
        | .panic v => some (.panic v, h')
        | _ => none
      | none => none
    | _, _ => none
  | none => none
def FnOk (E : Env) (f : FuncId) (args : List AV) (h : AHeap) (r : AR) (h' : AHeap) : Prop :=
  ∃ n rs c, FnIs E.P f n rs c ∧ args.length ≤ n ∧ ∀ Post : AR → AHeap → Prop, Post r h' → ABody E n rs c args h Post
theorem dcall_is {ex : Nat → DEx} (hx : ∀ n, ExIs E n (ex n)) {f : FuncId} {args : List AV} {h h' : DH} {r : AR} (e : dcall E ex f args h = some (r, h')) : FnOk E f args h.of r h'.of := by
  unfold dcall at e
  split at e
  · rename_i n rs c hf
    split at e
    · rename_i k1 k2
      refine ⟨n, rs, c, dfn_is hf, Nat.le_of_ble_eq_true k1, fun Post hp => ?_⟩
      unfold ABody
      rw [← TFr.start_fn _ (Nat.le_of_ble_eq_true k2)]
      split at e
      · rename_i e1 fr1 h1 h2
        refine hx n _ _ _ _ _ _ h2 _ ?_
        split at e
        · split at e
          · rename_i vs hv
            cases e
            rw [ABodyQ, ARes, hv]; exact hp
          · cases e
        · split at e
          · rename_i vs hv
            cases e
            rw [ABodyQ, ARes, hv]; exact hp
          · cases e
        · cases e
          rw [ABodyQ]; exact hp
        · cases e
      · cases e
    · cases e
  · cases e
theorem FnOk.af (hm : E.P.follows .mixedOrders = true) {f : FuncId} {args : List AV} {h h' : AHeap} {r : AR} (k : FnOk E f args h r h') {Post : AR → AHeap → Prop} (hp : Post r h') : AF E f args h Post := by
  obtain ⟨n, rs, c, h1, h2, h3⟩ := k
  exact af_of_body hm h1 h2 (h3 Post hp)
theorem FnOk.ff (hm : E.P.follows .mixedOrders = true) {f : FuncId} {args : List AV} {h' : AHeap} {v res : AV} {k : Nat} (hk : FnOk E f args .nil (.ret v) h') (hp : PurF h' k v res) : FF E f args res := by
  obtain ⟨n, rs, c, h1, h2, h3⟩ := hk
  exact ff_of_body hm h1 h2 (h3 _ ⟨v, k, rfl, hp⟩)
theorem FnOk.pf (hm : E.P.follows .mixedOrders = true) {f : FuncId} {args : List AV} {h' : AHeap} {v res : AV} {k : Nat} (hk : FnOk E f args .nil (.ret v) h') (hp : Pur h' k v res) : PF E f args res := by
  obtain ⟨n, rs, c, h1, h2, h3⟩ := hk
  exact pf_of_body hm h1 h2 (h3 _ ⟨v, k, rfl, hp⟩)

def dputAll (n : Nat) : List (Tmp × AV) → TFr → Option TFr
  | [], fr => some fr
  | (t, v) :: l, fr => match fr.put n (some t) v with
    | some fr' => dputAll n l fr'
    | none => none
theorem dputAll_is : ∀ {l : List (Tmp × AV)} {fr fr' : TFr}, dputAll n l fr = some fr' → fr'.fn = putAll n l fr.fn
  | [], fr, fr', e => by cases e; rfl
  | (t, v) :: l, fr, fr', e => by
    unfold dputAll at e
    split at e
    · rename_i fr1 hp
      rw [putAll, ← TFr.put_fn hp]
      exact dputAll_is e
    · cases e

def isReady : LoopState → Bool
  | .ready => true
  | _ => false
theorem isReady.eq {s : LoopState} (h : isReady s = true) : s = .ready := by cases s <;> first | rfl | cases h
def dround (ex : Nat → DEx) (L : Nat) (args : List AV) (h : DH) : Option (AR × DH) :=
  match kOk L, h.get L with
  | true, .loop lp => match isReady lp.state, Nat.beq args.length lp.params.size with
    | true, true => match dputAll lp.n (lp.params.toList.zip args) lp.fr with
      | some fr0 => match ex lp.n lp.assign fr0 h with
        | some (.normal, fr1, h1) => match h1.get L with
          | .loop lp1 => match isReady lp1.state with
            | true => match ex lp.n lp.body fr1 (h1.set L (.loop { lp1 with state := .busy })) with
              | some (e, _, h2) => match h2.get L with
                | .loop lp2 => match e with
                  | .normal => some (.ret (.bool true), h2.set L (.loop { lp2 with state := .ready, pending := none }))
                  | .ret => some (.ret (.bool false), h2.set L (.loop { lp2 with state := .done, pending := some .ret }))
                  | .exit i => some (.ret (.bool false), h2.set L (.loop { lp2 with state := .done, pending := some (.exit i) }))
                  | _ => none
                | _ => none
              | none => none
            | false => none
          | _ => none
        | _ => none
      | none => none
    | _, _ => none
  | _, _ => none
theorem dround_is {ex : Nat → DEx} (hx : ∀ n, ExIs E n (ex n)) {L : Nat} {args : List AV} {h h' : DH} {r : AR} (e : dround ex L args h = some (r, h')) {Post : AR → AHeap → Prop} (hp : Post r h'.of) : ARound E L args Post h.of := by
  unfold dround at e
  unfold ARound
  split at e
  · rename_i lp hk hg
    simp only [DH.get_of, hg, DBlk.of, DLoop.of]
    split at e
    · rename_i k1 k2
      refine ⟨isReady.eq k1, Nat.eq_of_beq_eq_true k2, ?_⟩
      split at e
      · rename_i fr0 hp0
        rw [← dputAll_is hp0]
        split at e
        · rename_i fr1 h1 he1
          refine hx _ _ _ _ _ _ _ he1 _ ?_
          simp only [AThen, DH.get_of]
          split at e
          · rename_i lp1 hg1
            simp only [hg1, DBlk.of, DLoop.of]
            split at e
            · rename_i k3
              refine ⟨isReady.eq k3, ?_⟩
              split at e
              · rename_i e2 fr2 h2 he2
                have s1 := DH.set_of h1 L (.loop { lp1 with state := .busy }) (kOk.lt hk)
                simp only [DBlk.of, DLoop.of] at s1
                rw [← s1]
                refine hx _ _ _ _ _ _ _ he2 _ ?_
                split at e
                · rename_i lp2 hg2
                  have key : ∀ st pd, h2.of.set L (.loop { (DLoop.of lp2) with state := st, pending := pd }) = (h2.set L (.loop { lp2 with state := st, pending := pd })).of := fun st pd => (DH.set_of h2 L (.loop { lp2 with state := st, pending := pd }) (kOk.lt hk)).symm
                  split at e
                  · cases e
                    simp only [ARoundQ, DH.get_of, hg2, DBlk.of]
                    rw [key]; exact hp
                  · cases e
                    simp only [ARoundQ, DH.get_of, hg2, DBlk.of]
                    rw [key]; exact hp
                  · cases e
                    simp only [ARoundQ, DH.get_of, hg2, DBlk.of]
                    rw [key]; exact hp
                  · cases e
                · cases e
              · cases e
            · cases e
          · cases e
        · cases e
      · cases e
    · cases e
  · cases e

end

/-! ### one value against another -/
def intBeq : Int → Int → Bool
  | .ofNat a, .ofNat b => Nat.beq a b
  | .negSucc a, .negSucc b => Nat.beq a b
  | _, _ => false
theorem intBeq_is {a b : Int} (h : intBeq a b = true) : a = b := by
  cases a <;> cases b <;> first | (cases h; done) | skip
  · exact congrArg Int.ofNat (Nat.eq_of_beq_eq_true h)
  · exact congrArg Int.negSucc (Nat.eq_of_beq_eq_true h)
def bytesBeq : List UInt8 → List UInt8 → Bool
  | [], [] => true
  | a :: l, b :: m => match Nat.beq a.toNat b.toNat with
    | true => bytesBeq l m
    | false => false
  | _, _ => false
theorem bytesBeq_is : ∀ {l m : List UInt8}, bytesBeq l m = true → l = m
  | [], [], _ => rfl
  | a :: l, b :: m, h => by
    unfold bytesBeq at h
    split at h
    · rename_i k
      rw [bytesBeq_is h, UInt8.toNat_inj.1 (Nat.eq_of_beq_eq_true k)]
    · cases h
  | [], _ :: _, h => by cases h
  | _ :: _, [], h => by cases h
def boolBeq : Bool → Bool → Bool
  | true, true => true
  | false, false => true
  | _, _ => false
theorem boolBeq_is {a b : Bool} (h : boolBeq a b = true) : a = b := by cases a <;> cases b <;> first | rfl | cases h
mutual
def AV.beq : AV → AV → Bool
  | .any, .any => true
  | .bool a, .bool b => boolBeq a b
  | .int k a, .int k' b => intBeq a b && decide (k = k')
  | .str a, .str b => bytesBeq a b
  | .nilp, .nilp => true
  | .ptr i o, .ptr i' o' => Nat.beq i i' && Nat.beq o o'
  | .rptr c o, .rptr c' o' => Nat.beq o o' && AV.beqs c c'
  | .nilsl, .nilsl => true
  | .sl n t c, .sl n' t' c' => Nat.beq n n' && (boolBeq t t' && AV.beqs c c')
  | .nilmap, .nilmap => true
  | .rmap k v, .rmap k' v' => AV.beqs k k' && AV.beqs v v'
  | .gmap k v, .gmap k' v' => AV.beqs k k' && AV.beqs v v'
  | .func f a b, .func f' a' b' => Nat.beq f f' && (AV.beqs a a' && AV.beqs b b')
  | .nilfunc, .nilfunc => true
  | .iface t v, .iface t' v' => Nat.beq t t' && AV.beq v v'
  | .nilif, .nilif => true
  | .agg c, .agg c' => AV.beqs c c'
  | .tuple c, .tuple c' => AV.beqs c c'
  | _, _ => false
def AV.beqs : List AV → List AV → Bool
  | [], [] => true
  | a :: l, b :: m => AV.beq a b && AV.beqs l m
  | _, _ => false
end
mutual
theorem AV.beq_is : ∀ (a b : AV), AV.beq a b = true → a = b
  | .any, b, h => by cases b <;> first | rfl | (simp [AV.beq] at h; done)
  | .bool a, b, h => by cases b <;> first | (simp [AV.beq] at h; done) | (simp only [AV.beq] at h; rw [boolBeq_is h])
  | .int k a, b, h => by
    cases b <;> first | (simp [AV.beq] at h; done) | skip
    simp only [AV.beq, Bool.and_eq_true, decide_eq_true_eq] at h
    rw [intBeq_is h.1, h.2]
  | .str a, b, h => by cases b <;> first | (simp [AV.beq] at h; done) | (simp only [AV.beq] at h; rw [bytesBeq_is h])
  | .nilp, b, h => by cases b <;> first | rfl | (simp [AV.beq] at h; done)
  | .ptr i o, b, h => by
    cases b <;> first | (simp [AV.beq] at h; done) | skip
    simp only [AV.beq, Bool.and_eq_true] at h
    rw [Nat.eq_of_beq_eq_true h.1, Nat.eq_of_beq_eq_true h.2]
  | .rptr c o, b, h => by
    cases b <;> first | (simp [AV.beq] at h; done) | skip
    simp only [AV.beq, Bool.and_eq_true] at h
    rw [Nat.eq_of_beq_eq_true h.1, AV.beqs_is _ _ h.2]
  | .nilsl, b, h => by cases b <;> first | rfl | (simp [AV.beq] at h; done)
  | .sl n t c, b, h => by
    cases b <;> first | (simp [AV.beq] at h; done) | skip
    simp only [AV.beq, Bool.and_eq_true] at h
    rw [Nat.eq_of_beq_eq_true h.1, boolBeq_is h.2.1, AV.beqs_is _ _ h.2.2]
  | .msl _ _ _ _ _, b, h => by cases b <;> (simp [AV.beq] at h; done)
  | .nilmap, b, h => by cases b <;> first | rfl | (simp [AV.beq] at h; done)
  | .map _, b, h => by cases b <;> (simp [AV.beq] at h; done)
  | .rmap k v, b, h => by
    cases b <;> first | (simp [AV.beq] at h; done) | skip
    simp only [AV.beq, Bool.and_eq_true] at h
    rw [AV.beqs_is _ _ h.1, AV.beqs_is _ _ h.2]
  | .gmap k v, b, h => by
    cases b <;> first | (simp [AV.beq] at h; done) | skip
    simp only [AV.beq, Bool.and_eq_true] at h
    rw [AV.beqs_is _ _ h.1, AV.beqs_is _ _ h.2]
  | .func f a c, b, h => by
    cases b <;> first | (simp [AV.beq] at h; done) | skip
    simp only [AV.beq, Bool.and_eq_true] at h
    rw [Nat.eq_of_beq_eq_true h.1, AV.beqs_is _ _ h.2.1, AV.beqs_is _ _ h.2.2]
  | .yield _, b, h => by cases b <;> (simp [AV.beq] at h; done)
  | .nilfunc, b, h => by cases b <;> first | rfl | (simp [AV.beq] at h; done)
  | .iface t v, b, h => by
    cases b <;> first | (simp [AV.beq] at h; done) | skip
    simp only [AV.beq, Bool.and_eq_true] at h
    rw [Nat.eq_of_beq_eq_true h.1, AV.beq_is _ _ h.2]
  | .nilif, b, h => by cases b <;> first | rfl | (simp [AV.beq] at h; done)
  | .agg c, b, h => by
    cases b <;> first | (simp [AV.beq] at h; done) | skip
    simp only [AV.beq] at h
    rw [AV.beqs_is _ _ h]
  | .tuple c, b, h => by
    cases b <;> first | (simp [AV.beq] at h; done) | skip
    simp only [AV.beq] at h
    rw [AV.beqs_is _ _ h]
theorem AV.beqs_is : ∀ (a b : List AV), AV.beqs a b = true → a = b
  | [], [], _ => rfl
  | a :: l, b :: m, h => by
    simp only [AV.beqs, Bool.and_eq_true] at h
    rw [AV.beq_is _ _ h.1, AV.beqs_is _ _ h.2]
  | [], _ :: _, h => by simp [AV.beqs] at h
  | _ :: _, [], h => by simp [AV.beqs] at h
end

/-! ### the evaluator -/
/-- Calls whose value is known: of pure arguments; or of arguments as they read, where the value leads to memory of its own alone. -/
inductive KnE where
  | pf (g : List AV → Option AV)
  | ff (g : List AV → Option AV)
abbrev DKn := FuncId → Option KnE
def KnOk (E : Env) (kn : DKn) : Prop := ∀ f, (∀ g, kn f = some (.pf g) → ∀ args r, g args = some r → PF E f args r) ∧ (∀ g, kn f = some (.ff g) → ∀ args r, g args = some r → FF E f args r)
/-- A list of known calls of one function. -/
def dknown (args : List AV) : List (List AV × AV) → Option AV
  | [] => none
  | q :: l => match AV.beqs q.1 args with
    | true => some q.2
    | false => dknown args l
theorem dknown_is {l : List (List AV × AV)} {args : List AV} {r : AV} (e : dknown args l = some r) : (args, r) ∈ l := by
  induction l with
  | nil => cases e
  | cons q l ih =>
    unfold dknown at e
    split at e
    · rename_i h
      cases e
      rw [← AV.beqs_is _ _ h]
      exact List.mem_cons_self
    · exact List.mem_cons_of_mem _ (ih e)
section
variable {E : Env}

structure DK where
  fn : FuncId → List AV → DH → Option (AR × DH)
  rd : Nat → List AV → DH → Option (AR × DH)
def dinvOf (kn : DKn) (p : DK) : DInv := fun fv args h => match fv with
  | .func f a c => match kn f with
    | none => p.fn f (a ++ args ++ c) h
    | some (.pf g) => match g (a ++ args ++ c) with
      | some r => match AV.purs (a ++ args ++ c) with
        | true => some (.ret r, h)
        | false => p.fn f (a ++ args ++ c) h
      | none => p.fn f (a ++ args ++ c) h
    | some (.ff g) => match dpurL (dpur h 64) (a ++ args ++ c) with
      | some l => match g l with
        | some r => some (.ret r, h)
        | none => p.fn f (a ++ args ++ c) h
      | none => p.fn f (a ++ args ++ c) h
  | .yield L => p.rd L args h
  | _ => none
def dqtRun (kn : DKn) (p : DK) (f : FuncId) (l : List AV) : Option AV :=
  match kn f with
  | some (.pf g) => match g l with
    | some r => some r
    | none => match p.fn f l DH.nil with
      | some (.ret v, h') => dpur h' 64 v
      | _ => none
  | _ => match p.fn f l DH.nil with
    | some (.ret v, h') => dpur h' 64 v
    | _ => none
def dqtNew (p : DK) (f : FuncId) (l : List AV) : Option AV :=
  match p.fn f l DH.nil with
  | some (.ret v, h') => dpurF h' 64 v
  | _ => none
def dqtAny (kn : DKn) (p : DK) (f : FuncId) (l : List AV) (h : DH) : Option AV :=
  match AV.purs l with
  | true => dqtRun kn p f l
  | false => match dpurL (dpur h 64) l with
    | some l' => match dqtRun kn p f l' with
      | some r => match r.flat with
        | true => some r
        | false => dqtNew p f l'
      | none => none
    | none => none
def dqtOf (kn : DKn) (p : DK) : DQt := fun fv args h => match fv with
  | .func f a c => match kn f with
    | some (.ff g) => match dpurL (dpur h 64) (a ++ args ++ c) with
      | some l => match g l with
        | some r => some r
        | none => dqtAny kn p f (a ++ args ++ c) h
      | none => dqtAny kn p f (a ++ args ++ c) h
    | _ => dqtAny kn p f (a ++ args ++ c) h
  | _ => none
def dk (E : Env) (kn : DKn) (N : Nat) : Nat → DK
  | 0 => ⟨fun _ _ _ => none, fun _ _ _ => none⟩
  | k + 1 => ⟨dcall E (fun n => dexec E n N (dinvOf kn (dk E kn N k)) (dqtOf kn (dk E kn N k))), dround (fun n => dexec E n N (dinvOf kn (dk E kn N k)) (dqtOf kn (dk E kn N k)))⟩

structure DKOk (E : Env) (p : DK) : Prop where
  fn : ∀ f args h r h', p.fn f args h = some (r, h') → FnOk E f args h.of r h'.of
  rd : ∀ L args h r h', p.rd L args h = some (r, h') → ∀ Post : AR → AHeap → Prop, Post r h'.of → ARound E L args Post h.of

theorem dinvOf_is (hm : E.P.follows .mixedOrders = true) {kn : DKn} (hkn : KnOk E kn) {p : DK} (hp : DKOk E p) : InvIs E (dinvOf kn p) := by
  intro fv args h r h' e Post hpost
  unfold dinvOf at e
  split at e
  · split at e
    · exact ainv_func ((hp.fn _ _ _ _ _ e).af hm hpost)
    · rename_i g hg
      split at e
      · rename_i res h2
        split at e
        · rename_i h1
          cases e
          exact ainv_pf ((hkn _).1 g hg _ _ h2) (.pure h1) hpost
        · exact ainv_func ((hp.fn _ _ _ _ _ e).af hm hpost)
      · exact ainv_func ((hp.fn _ _ _ _ _ e).af hm hpost)
    · rename_i g hg
      split at e
      · rename_i l h1
        split at e
        · rename_i res h2
          cases e
          exact ainv_ff ((hkn _).2 g hg _ _ h2) (dpurL_is (fun v x => dpur_is 64) h1) hpost
        · exact ainv_func ((hp.fn _ _ _ _ _ e).af hm hpost)
      · exact ainv_func ((hp.fn _ _ _ _ _ e).af hm hpost)
  · exact ainv_yield hm (hp.rd _ _ _ _ _ e _ hpost)
  · cases e
theorem dqtRun_is (hm : E.P.follows .mixedOrders = true) {kn : DKn} (hkn : KnOk E kn) {p : DK} (hp : DKOk E p) {f : FuncId} {l : List AV} {r : AV} (e : dqtRun kn p f l = some r) : PF E f l r := by
  have key : (match p.fn f l DH.nil with | some (.ret v, h') => dpur h' 64 v | _ => none) = some r → PF E f l r := by
    intro e
    split at e
    · rename_i v h' h1
      have := hp.fn _ _ _ _ _ h1
      rw [DH.nil_of] at this
      exact this.pf hm (dpur_is 64 e)
    · cases e
  unfold dqtRun at e
  split at e
  · rename_i g hg
    split at e
    · rename_i r' h1; cases e; exact (hkn _).1 g hg _ _ h1
    · exact key e
  · exact key e
theorem dqtNew_is (hm : E.P.follows .mixedOrders = true) {p : DK} (hp : DKOk E p) {f : FuncId} {l : List AV} {r : AV} (e : dqtNew p f l = some r) : FF E f l r := by
  unfold dqtNew at e
  split at e
  · rename_i v h' h1
    have := hp.fn _ _ _ _ _ h1
    rw [DH.nil_of] at this
    exact this.ff hm (dpurF_is 64 e)
  · cases e
theorem dqtAny_is (hm : E.P.follows .mixedOrders = true) {kn : DKn} (hkn : KnOk E kn) {p : DK} (hp : DKOk E p) {f : FuncId} {a args c : List AV} {h : DH} {res : AV} (e : dqtAny kn p f (a ++ args ++ c) h = some res) : AQuiet E (.func f a c) args h.of res := by
  unfold dqtAny at e
  split at e
  · rename_i h1
    exact aquiet_pf (dqtRun_is hm hkn hp e) (.pure h1)
  · split at e
    · rename_i l h1
      split at e
      · rename_i r h2
        split at e
        · rename_i h3
          cases e
          exact aquiet_pf (dqtRun_is hm hkn hp h2) (.inr ⟨h3, 64, dpurL_is (fun v x => dpur_is 64) h1⟩)
        · exact aquiet_ff (dqtNew_is hm hp e) (dpurL_is (fun v x => dpur_is 64) h1)
      · cases e
    · cases e
theorem dqtOf_is (hm : E.P.follows .mixedOrders = true) {kn : DKn} (hkn : KnOk E kn) {p : DK} (hp : DKOk E p) : QtIs E (dqtOf kn p) := by
  intro fv args h res e
  unfold dqtOf at e
  split at e
  · split at e
    · rename_i g hg
      split at e
      · rename_i l h1
        split at e
        · rename_i r h2
          cases e
          exact aquiet_ff ((hkn _).2 g hg _ _ h2) (dpurL_is (fun v x => dpur_is 64) h1)
        · exact dqtAny_is hm hkn hp e
      · exact dqtAny_is hm hkn hp e
    · exact dqtAny_is hm hkn hp e
  · cases e
theorem dk_is (hm : E.P.follows .mixedOrders = true) {kn : DKn} (hkn : KnOk E kn) (N : Nat) : ∀ k, DKOk E (dk E kn N k)
  | 0 => by
    refine ⟨fun _ _ _ _ _ e => ?_, fun _ _ _ _ _ e => ?_⟩ <;> cases e
  | k + 1 => by
    have ih := dk_is hm hkn N k
    have hx : ∀ n, ExIs E n (dexec E n N (dinvOf kn (dk E kn N k)) (dqtOf kn (dk E kn N k))) := fun n => dexec_is N (dinvOf_is hm hkn ih) (dqtOf_is hm hkn ih)
    exact ⟨fun f args h r h' e => dcall_is hx e, fun L args h r h' e Post hpost => dround_is hx e hpost⟩

/-- The value of a call of pure values, computed. -/
def drun (E : Env) (kn : DKn) (N k : Nat) (f : FuncId) (args : List AV) : Option AV :=
  match (dk E kn N k).fn f args DH.nil with
  | some (.ret v, h') => dpur h' 64 v
  | _ => none
theorem drun_is (hm : E.P.follows .mixedOrders = true) {kn : DKn} (hkn : KnOk E kn) {N k : Nat} {f : FuncId} {args : List AV} {r : AV} (e : drun E kn N k f args = some r) : PF E f args r := by
  unfold drun at e
  split at e
  · rename_i v h' h1
    have := (dk_is hm hkn N k).fn _ _ _ _ _ h1
    rw [DH.nil_of] at this
    exact this.pf hm (dpur_is 64 e)
  · cases e
/-- The same; the value leads to memory of its own alone. -/
def drunF (E : Env) (kn : DKn) (N k : Nat) (f : FuncId) (args : List AV) : Option AV :=
  match (dk E kn N k).fn f args DH.nil with
  | some (.ret v, h') => dpurF h' 64 v
  | _ => none
theorem drunF_is (hm : E.P.follows .mixedOrders = true) {kn : DKn} (hkn : KnOk E kn) {N k : Nat} {f : FuncId} {args : List AV} {r : AV} (e : drunF E kn N k f args = some r) : FF E f args r := by
  unfold drunF at e
  split at e
  · rename_i v h' h1
    have := (dk_is hm hkn N k).fn _ _ _ _ _ h1
    rw [DH.nil_of] at this
    exact this.ff hm (dpurF_is 64 e)
  · cases e
end
end Go.Zk
namespace Go.Zk

theorem wrap_of {n : Int} (h1 : -9223372036854775808 ≤ n) (h2 : n ≤ 9223372036854775807) : IntKind.i64.wrap n = n := by
  simp [IntKind.wrap, IntKind.bits, IntKind.signed]
  omega
abbrev I (n : Int) : AV := .int .i64 n

section
variable {P : Program} {t : TypeId} {k : IntKind} {a b : Int} {H : AHeap} {E : Env}
@[simp] theorem bin_add : abin P .add t (.int k a) (.int k b) = some (.int k (k.wrap (a + b))) := by simp [abin, aint]
@[simp] theorem bin_sub : abin P .sub t (.int k a) (.int k b) = some (.int k (k.wrap (a - b))) := by simp [abin, aint]
@[simp] theorem bin_mul : abin P .mul t (.int k a) (.int k b) = some (.int k (k.wrap (a * b))) := by simp [abin, aint]
@[simp] theorem bin_quo : abin P .quo t (.int k a) (.int k b) = if b = 0 then none else some (.int k (k.wrap (a.tdiv b))) := by simp [abin, aint]
@[simp] theorem bin_rem : abin P .rem t (.int k a) (.int k b) = if b = 0 then none else some (.int k (a.tmod b)) := by simp [abin, aint]
@[simp] theorem bin_eql : abin P .eql t (.int k a) (.int k b) = some (.bool (decide (a = b))) := by simp [abin, aint]
@[simp] theorem bin_neq : abin P .neq t (.int k a) (.int k b) = some (.bool (decide (a ≠ b))) := by simp [abin, aint]
@[simp] theorem bin_lss : abin P .lss t (.int k a) (.int k b) = some (.bool (decide (a < b))) := by simp [abin, aint]
@[simp] theorem bin_leq : abin P .leq t (.int k a) (.int k b) = some (.bool (decide (a ≤ b))) := by simp [abin, aint]
@[simp] theorem bin_gtr : abin P .gtr t (.int k a) (.int k b) = some (.bool (decide (b < a))) := by simp [abin, aint]
@[simp] theorem bin_geq : abin P .geq t (.int k a) (.int k b) = some (.bool (decide (b ≤ a))) := by simp [abin, aint]
variable {s u : List UInt8}
@[simp] theorem bin_str_eql : abin P .eql t (.str s) (.str u) = some (.bool (decide (s = u))) := by simp [abin, astr]
@[simp] theorem bin_str_neq : abin P .neq t (.str s) (.str u) = some (.bool (decide (s ≠ u))) := by simp [abin, astr]
@[simp] theorem bin_str_add : abin P .add t (.str s) (.str u) = if s.length + u.length ≤ 4294967296 then some (.str (s ++ u)) else none := by simp [abin, astr]
theorem bin_eq_agg {fs : List (Nat × TypeDesc)} {xs ys : List AV} (h : tplain P t = some fs) : abin P .eql t (.agg xs) (.agg ys) = (aeqs fs xs ys).map .bool := by simp [abin, aeq, h]
theorem bin_ne_agg {fs : List (Nat × TypeDesc)} {xs ys : List AV} (h : tplain P t = some fs) : abin P .neq t (.agg xs) (.agg ys) = (aeqs fs xs ys).map fun b => .bool !b := by simp [abin, aeq, h]
@[simp] theorem un_not {x : Bool} : aun .not (.bool x) = some (.bool !x) := by rfl
@[simp] theorem un_neg : aun .neg (.int k a) = some (.int k (k.wrap (0 - a))) := by rfl
@[simp] theorem av_int : avOf (.int k a) = .int k a := by rfl
@[simp] theorem av_bool {x : Bool} : avOf (.bool x) = .bool x := by rfl
@[simp] theorem av_str {x : ByteArray} : avOf (.string x) = .str x.data.toList := by rfl
@[simp] theorem av_nilsl : avOf (.slice none 0 0) = .nilsl := by rfl
@[simp] theorem av_nilp : avOf (.pointer none) = .nilp := by rfl
@[simp] theorem av_nilmap : avOf (.map none) = .nilmap := by rfl
@[simp] theorem av_nilfunc : avOf .nilFunc = .nilfunc := by rfl
@[simp] theorem av_func {f : FuncId} : avOf (.func (.func f) #[] #[]) = .func f [] [] := by rfl
@[simp] theorem ev_tmp {fr : AFr} {t : Tmp} : aeval E fr (.tmp t) = fr t := by rfl
@[simp] theorem ev_const {fr : AFr} {v : Value} : aeval E fr (.const v) = avOf v := by rfl
@[simp] theorem ev_func {fr : AFr} {f : FuncId} : aeval E fr (.func f) = .func f [] [] := by rfl
/-! reading -/
def rowB (b : ABlk) (off : Nat) : Option (List AV × Nat) := match b with
  | .row cs => some (cs, off)
  | _ => none
@[simp] theorem rowB_row {cs : List AV} {off : Nat} : rowB (.row cs) off = some (cs, off) := rfl
@[simp] theorem row_ptr {id off : Nat} : rowAt H (.ptr id off) = rowB (H.get id) off := by
  simp only [rowAt, rowB]
  cases H.get id <;> rfl
@[simp] theorem row_rptr {cs : List AV} {off : Nat} : rowAt H (.rptr cs off) = some (cs, off) := rfl
def loadX (g : Option Bool) (n : Option Nat) (r : Option (List AV × Nat)) : Option AV := match g, n, r with
  | some g, some n, some (cs, off) => apart g n off cs
  | _, _, _ => none
@[simp] theorem loadX_some {g : Bool} {n off : Nat} {cs : List AV} : loadX (some g) (some n) (some (cs, off)) = apart g n off cs := rfl
@[simp] theorem load_eq {p : AV} : aload P t H p = loadX (tagg P t) (tsz P t) (rowAt H p) := by
  unfold aload loadX; rfl
@[simp] theorem apart_one {n off : Nat} {cs : List AV} : apart false n off cs = cs[off]? := by simp [apart]
theorem apart_agg {n off : Nat} {cs : List AV} : apart true n off cs = if off + n ≤ cs.length then some (.agg ((cs.drop off).take n)) else none := by simp [apart]
@[simp] theorem apart_all {n : Nat} {cs : List AV} : apart true n 0 cs = if n ≤ cs.length then some (.agg (cs.take n)) else none := by simp [apart]
@[simp] theorem fld_ptr {o id off : Nat} : afield o (.ptr id off) = some (.ptr id (off + o)) := rfl
@[simp] theorem fld_rptr {o off : Nat} {cs : List AV} : afield o (.rptr cs off) = some (.rptr cs (off + o)) := rfl
@[simp] theorem ext_tuple {vs : List AV} {i : Nat} : aextract (.tuple vs) i = vs[i]? := rfl
def idxSl (q : Option (TypeId × Nat)) (len : Nat) (cells : List AV) (i : Int) : Option AV := match q with
  | some (_, e) => if 0 ≤ i ∧ i < (len : Int) then some (.rptr cells (i.toNat * e)) else none
  | none => none
@[simp] theorem idxSl_some {x : TypeId} {e len : Nat} {cells : List AV} {i : Int} : idxSl (some (x, e)) len cells i = if 0 ≤ i ∧ i < (len : Int) then some (.rptr cells (i.toNat * e)) else none := rfl
@[simp] theorem idx_sl {len : Nat} {tg : Bool} {cells : List AV} {i : Int} : aidx P t (.sl len tg cells) (.int k i) = idxSl (tel P t) len cells i := rfl
def idxMsl (q : Option (TypeId × Nat)) (id off len esz : Nat) (i : Int) : Option AV := match q with
  | some (_, e) => if 0 ≤ i ∧ i < (len : Int) ∧ e = esz then some (.ptr id (off + i.toNat * e)) else none
  | none => none
@[simp] theorem idxMsl_some {x : TypeId} {e id off len esz : Nat} {i : Int} : idxMsl (some (x, e)) id off len esz i = if 0 ≤ i ∧ i < (len : Int) ∧ e = esz then some (.ptr id (off + i.toNat * e)) else none := rfl
@[simp] theorem idx_msl {id off len esz : Nat} {tg : Bool} {i : Int} : aidx P t (.msl id off len esz tg) (.int k i) = idxMsl (tel P t) id off len esz i := rfl
def idxArr (q : Option (Nat × Nat × Bool)) (i : Int) (f : Nat → AV) : Option AV := match q with
  | some (n, e, _) => if 0 ≤ i ∧ i < (n : Int) then some (f (i.toNat * e)) else none
  | none => none
@[simp] theorem idxArr_some {n e : Nat} {g : Bool} {i : Int} {f : Nat → AV} : idxArr (some (n, e, g)) i f = if 0 ≤ i ∧ i < (n : Int) then some (f (i.toNat * e)) else none := rfl
@[simp] theorem idx_rptr {off : Nat} {cells : List AV} {i : Int} : aidx P t (.rptr cells off) (.int k i) = idxArr (tar P t) i fun x => .rptr cells (off + x) := by
  simp only [aidx, idxArr]; cases tar P t <;> rfl
@[simp] theorem idx_ptr {id off : Nat} {i : Int} : aidx P t (.ptr id off) (.int k i) = idxArr (tar P t) i fun x => .ptr id (off + x) := by
  simp only [aidx, idxArr]; cases tar P t <;> rfl
def index1 (c : Nat) (s : List UInt8) (i : Int) : Option AV := if c = 1 then (if 0 ≤ i then (s[i.toNat]?).map fun b => .int .u8 b.toNat else none) else none
@[simp] theorem index1_one {i : Int} : index1 1 s i = if 0 ≤ i then (s[i.toNat]?).map fun b => .int .u8 b.toNat else none := rfl
@[simp] theorem index_str {i : Int} : aindex P t (.str s) (.int k i) = index1 (asl.tsl P t) s i := rfl
def indexA (q : Option (Nat × Nat × Bool)) (cs : List AV) (i : Int) : Option AV := match q with
  | some (n, e, g) => if 0 ≤ i ∧ i < (n : Int) then apart g e (i.toNat * e) cs else none
  | none => none
@[simp] theorem indexA_some {n e : Nat} {g : Bool} {cs : List AV} {i : Int} : indexA (some (n, e, g)) cs i = if 0 ≤ i ∧ i < (n : Int) then apart g e (i.toNat * e) cs else none := rfl
@[simp] theorem index_agg {cs : List AV} {i : Int} : aindex P t (.agg cs) (.int k i) = indexA (tar P t) cs i := rfl
/-! len -/
def lenX (d : Option TypeDesc) (H : AHeap) (x : AV) : Option AV := match d, x with
  | some .string, .str s => some (.int .i64 s.length)
  | some (.slice _), .nilsl => some (.int .i64 0)
  | some (.slice _), .sl n _ _ => some (.int .i64 n)
  | some (.slice _), .msl _ _ n _ _ => some (.int .i64 n)
  | some (.map _ _), .nilmap => some (.int .i64 0)
  | some (.map _ _), .rmap ks _ => some (.int .i64 ks.length)
  | some (.map _ _), .map id => match H.get id with
    | .map ks _ => some (.int .i64 ks.length)
    | _ => none
  | _, _ => none
@[simp] theorem len_eq {x : AV} : alen P t H x = lenX (P.underlying t) H x := by unfold alen lenX; rfl
@[simp] theorem lenX_str : lenX (some .string) H (.str s) = some (.int .i64 s.length) := rfl
@[simp] theorem lenX_nilsl {e : TypeId} : lenX (some (.slice e)) H .nilsl = some (.int .i64 0) := rfl
@[simp] theorem lenX_sl {e : TypeId} {n : Nat} {tg : Bool} {cs : List AV} : lenX (some (.slice e)) H (.sl n tg cs) = some (.int .i64 n) := rfl
@[simp] theorem lenX_msl {e : TypeId} {id off n z : Nat} {tg : Bool} : lenX (some (.slice e)) H (.msl id off n z tg) = some (.int .i64 n) := rfl
/-! new blocks -/
def newX (o : Option (List AV)) : Option ((Nat → AV) × ABlk) := match o with
  | some l => some (fun id => .ptr id 0, .row l)
  | none => none
@[simp] theorem newX_some {l : List AV} : newX (some l) = some (fun id => .ptr id 0, .row l) := rfl
def newZ (o : Option AV) : Option ((Nat → AV) × ABlk) := match o with
  | some z => newX (acells z)
  | none => none
@[simp] theorem newZ_some {z : AV} : newZ (some z) = newX (acells z) := rfl
@[simp] theorem new_alloc {ρ : Operand → AV} : anew E (.alloc t) ρ = newZ (tzero E.P t) := by
  simp only [anew, newZ, newX]; cases tzero E.P t <;> rfl
@[simp] theorem new_box {ρ : Operand → AV} {x : Operand} : anew E (.box t x) ρ = newX (acells (ρ x)) := by
  simp only [anew, newX]; cases acells (ρ x) <;> rfl
@[simp] theorem new_map {ρ : Operand → AV} : anew E (.makeMap t none) ρ = some (fun id => .map id, .map [] []) := rfl
@[simp] theorem cells_int : acells (.int k a) = some [.int k a] := rfl
@[simp] theorem cells_bool {x : Bool} : acells (.bool x) = some [.bool x] := rfl
@[simp] theorem cells_str : acells (.str s) = some [.str s] := rfl
@[simp] theorem cells_agg {cs : List AV} : acells (.agg cs) = some cs := rfl
@[simp] theorem cells_sl {n : Nat} {tg : Bool} {cs : List AV} : acells (.sl n tg cs) = some [.sl n tg cs] := rfl
@[simp] theorem cells_nilsl : acells .nilsl = some [.nilsl] := rfl
@[simp] theorem cells_msl {id off n z : Nat} {tg : Bool} : acells (.msl id off n z tg) = some [.msl id off n z tg] := rfl
@[simp] theorem cells_func {f : FuncId} {x y : List AV} : acells (.func f x y) = some [.func f x y] := rfl
@[simp] theorem cells_nilfunc : acells .nilfunc = some [.nilfunc] := rfl
@[simp] theorem cells_yield {i : Nat} : acells (.yield i) = some [.yield i] := rfl
@[simp] theorem cells_map {i : Nat} : acells (.map i) = some [.map i] := rfl
@[simp] theorem cells_nilmap : acells .nilmap = some [.nilmap] := rfl
@[simp] theorem cells_ptr {i o : Nat} : acells (.ptr i o) = some [.ptr i o] := rfl
@[simp] theorem cells_rptr {cs : List AV} {o : Nat} : acells (.rptr cs o) = some [.rptr cs o] := rfl
@[simp] theorem cells_nilp : acells .nilp = some [.nilp] := rfl
/-! stores -/
def storeB (b : ABlk) (H : AHeap) (id off : Nat) (l : List AV) (n : Nat) : Option (AV × AHeap) := match b with
  | .row cs => if l.length = n ∧ off + l.length ≤ cs.length then some (.tuple [], H.set id (.row (splice cs off l))) else none
  | _ => none
@[simp] theorem storeB_row {cs l : List AV} {id off n : Nat} : storeB (.row cs) H id off l n = if l.length = n ∧ off + l.length ≤ cs.length then some (.tuple [], H.set id (.row (splice cs off l))) else none := rfl
def storeX (z : Option Nat) (H : AHeap) (id off : Nat) (c : Option (List AV)) : Option (AV × AHeap) := match c, z with
  | some l, some n => storeB (H.get id) H id off l n
  | _, _ => none
@[simp] theorem storeX_some {n id off : Nat} {l : List AV} : storeX (some n) H id off (some l) = storeB (H.get id) H id off l n := rfl
@[simp] theorem store_ptr {id off : Nat} {x : AV} : astore P t H (.ptr id off) x = storeX (tsz P t) H id off (acells x) := by
  simp only [astore, storeX, storeB]
  cases acells x <;> cases tsz P t <;> simp only
  cases H.get id <;> rfl
@[simp] theorem splice_all {cs l : List AV} (h : cs.length ≤ l.length) : splice cs 0 l = l := by simp [splice, List.drop_eq_nil_of_le (by simpa using h)]
/-! composite values -/
def buildX (z : Option AV) (pl : Option (Nat → Option (Nat × Nat))) (parts : List (Nat × AV)) : Option AV := match z, pl with
  | some (.agg zs), some pl => match afill pl zs parts with
    | some l => some (.agg l)
    | none => none
  | _, _ => none
def aggO (o : Option (List AV)) : Option AV := match o with
  | some l => some (.agg l)
  | none => none
@[simp] theorem aggO_some {l : List AV} : aggO (some l) = some (.agg l) := rfl
@[simp] theorem buildX_some {zs : List AV} {pl : Nat → Option (Nat × Nat)} {parts : List (Nat × AV)} : buildX (some (.agg zs)) (some pl) parts = aggO (afill pl zs parts) := by
  unfold buildX aggO; rfl
@[simp] theorem build_eq {parts : List (Nat × AV)} : abuild P t parts = buildX (tzero P t) (tplaces P t) parts := by unfold abuild buildX; rfl
@[simp] theorem fill_nil {pl : Nat → Option (Nat × Nat)} {cs : List AV} : afill pl cs [] = some cs := rfl
def fillX (pl : Nat → Option (Nat × Nat)) (cs : List AV) (r : List (Nat × AV)) (q : Option (Nat × Nat)) (c : Option (List AV)) : Option (List AV) := match q, c with
  | some (off, size), some l => if l.length = size ∧ off + l.length ≤ cs.length then afill pl (splice cs off l) r else none
  | _, _ => none
@[simp] theorem fillX_some {pl : Nat → Option (Nat × Nat)} {cs l : List AV} {r : List (Nat × AV)} {off size : Nat} : fillX pl cs r (some (off, size)) (some l) = if l.length = size ∧ off + l.length ≤ cs.length then afill pl (splice cs off l) r else none := rfl
@[simp] theorem fill_cons {pl : Nat → Option (Nat × Nat)} {cs : List AV} {i : Nat} {v : AV} {r : List (Nat × AV)} : afill pl cs ((i, v) :: r) = fillX pl cs r (pl i) (acells v) := by
  unfold fillX; rw [afill]; rfl
end
end Go.Zk
