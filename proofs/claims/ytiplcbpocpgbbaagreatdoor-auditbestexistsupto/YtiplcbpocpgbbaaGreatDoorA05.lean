/- Code over abstract values: operations, soundness. Conditions: none. Code over abstract values: regions whose order is open, soundness. Conditions: none. Code over abstract values: regions whose order is open, soundness, the main part. Conditions: none. -/
import Derived.Orders
import Derived.Test.YtiplcbpocpgbbaaGreatDoorA04
set_option linter.unusedSimpArgs false
set_option linter.unusedVariables false
namespace Go.Zk

def DefOk (z : Nat) (w : World) (ds : List Deferred) : Prop :=
  z ≤ w.heap.size ∧ ∃ bs : List Nat, ds = bs.map (fun b => { target := .collected b, args := #[] }) ∧ bs.Nodup ∧ ∀ b ∈ bs, z ≤ b ∧ w.heap[b]? = some (.deferred (some []))

structure St (E : Env) (B z : Nat) (r : Option Nat) (n : Nat) (C : Ctx) (fr : AFr) (H : AHeap) (a : Act) (w : World) : Prop where
  hs : HSim E B C H w
  n : a.tmps.size = n
  fr : FrRel C fr a.tmps
  df : DefOk z w a.defers
  ro : ∀ l, r = some l → ∃ rec, w.heap[l]? = some (.loop rec)

section
variable {E : Env} {B z : Nat} {C : Ctx} {H : AHeap} {w : World} {P : Program} {r : Option Nat} {n : Nat} {fr : AFr} {a : Act}

theorem HSim.congr (h : HSim E B C H w) {w' : World} (e : w'.heap = w.heap) : HSim E B C H w' :=
  ⟨h.heap.trans e.symm, by rw [e]; exact h.base, by rw [e]; exact h.lt, h.fresh, h.dead, by rw [e]; exact h.blk, h.inj, h.glob, h.nd⟩

theorem Pushed.ev {o : Obj} {w' : World} (hp : Pushed w o w') (hB : B ≤ w.heap.size) : Ev B w w' := by
  have h := Ev.alloc hB o
  have e : w'.heap = (w.alloc o).heap := hp.heap
  exact ⟨⟨hp.os, hp.tape, hp.output, by rw [e]; exact h.below.size, fun k hk => by rw [e]; exact h.below.block k hk⟩, fun k ds hk => by rw [e]; exact h.dfr k ds hk, fun k r hk => by rw [e]; exact h.lp k r hk⟩

/-- A new block under a name that has been kept free. -/
theorem HSim.allocAt (h : HSim E B C H w) {i : Nat} {o : Obj} {ab : ABlk} {w' : World} (hp : Pushed w o w') (hi : i < H.next) (hd : H.get i = .dead) (ha : C.al i = none)
    (hb : BRel ((C.push o).name i (w.heap.size, 0)) w.heap.size 0 ab) : Nxt E B C ((C.push o).name i (w.heap.size, 0)) (H.set i ab) w w' := by
  have hle0 : C.le (C.push o) := Ctx.le_push (by rw [h.heap]; exact h.lt)
  have hle := hle0.trans (Ctx.le_name (C := C.push o) (i := i) (p := (w.heap.size, 0)) ha)
  have hal : ∀ j, j ≠ i → ((C.push o).name i (w.heap.size, 0)).al j = C.al j := fun j hj => upd_ne _ _ hj
  have hg : ∀ j, j ≠ i → (H.set i ab).get j = H.get j := fun j hj => upd_ne _ _ hj
  have hsz : w'.heap.size = w.heap.size + 1 := by rw [hp.heap]; simp
  refine ⟨hle, hp.ev h.base, fun _ h => .inl h, ?_⟩
  refine ⟨by show C.heap.push o = w'.heap; rw [h.heap, hp.heap], by have := h.base; omega, fun b hb => by have := h.lt b hb; omega, fun j hj => ?_, fun j hj => ?_, fun j hj hdj => ?_, fun j k b p q hj hk hdj hdk ej ek => ?_, fun g cells hg => (h.glob g cells hg).mono hle _ _ _, fun b ds hb e => h.nd b ds hb ((Ctx.push_get (o := o) (by rw [h.heap]; exact h.lt b hb)).symm.trans e)⟩
  · have hj' : H.next ≤ j := hj
    rw [hal j (by omega)]; exact h.fresh j hj'
  · have hj' : H.next ≤ j := hj
    rw [hg j (by omega)]; exact h.dead j hj'
  · by_cases e : j = i
    · subst e
      refine ⟨w.heap.size, 0, upd_same _ _ _, h.base, by omega, fun hI => ?_, ?_⟩
      · have := h.lt _ hI; omega
      · show BRel _ _ _ (upd H.get j ab j)
        rw [upd_same]; exact hb
    · rw [hg j e] at hdj ⊢
      obtain ⟨b, p, h1, h2, h3, h4, h5⟩ := h.blk j hj hdj
      exact ⟨b, p, (hal j e).trans h1, h2, by omega, h4, h5.mono hle (Ctx.push_get (by rw [h.heap]; exact h3))⟩
  · have key : ∀ k b p, k < H.next → (H.set i ab).get k ≠ .dead → ((C.push o).name i (w.heap.size, 0)).al k = some (b, p) → (k = i ∧ b = w.heap.size) ∨ (k ≠ i ∧ H.get k ≠ .dead ∧ C.al k = some (b, p) ∧ b < w.heap.size) := by
      intro k b p hk hd e
      by_cases ek : k = i
      · subst ek
        refine .inl ⟨rfl, ?_⟩
        have : upd C.al k (some (w.heap.size, 0)) k = some (b, p) := e
        rw [upd_same] at this
        cases this; rfl
      · rw [hg k ek] at hd
        rw [hal k ek] at e
        obtain ⟨b', p', h1, h2, h3, h4, h5⟩ := h.blk k hk hd
        rw [h1] at e; cases e
        exact .inr ⟨ek, hd, h1, h3⟩
    rcases key j b p hj hdj ej with ⟨e1, e2⟩ | ⟨e1, e2, e3, e4⟩ <;> rcases key k b q hk hdk ek with ⟨f1, f2⟩ | ⟨f1, f2, f3, f4⟩
    · omega
    · omega
    · omega
    · exact h.inj j k b p q hj hk e2 f2 e3 f3

/-- A new block under the next name. -/
theorem HSim.allocP (h : HSim E B C H w) {o : Obj} {ab : ABlk} {w' : World} (hp : Pushed w o w') (hb : BRel ((C.push o).name H.next (w.heap.size, 0)) w.heap.size 0 ab) :
    Nxt E B C ((C.push o).name H.next (w.heap.size, 0)) (H.alloc ab) w w' := by
  have h1 := h.alloc o ab hb
  exact ⟨h1.le, hp.ev h.base, h1.I, h1.hs.congr hp.heap⟩

theorem astep_ok (h : HSim E B C H w) {ρ : Operand → AV} {σ : Operand → Value} (hρ : ∀ x, VRel C (ρ x) (σ x)) {o : Oper} {av : AV} {H' : AHeap} (ha : astep E o.op ρ H = some (av, H')) :
    (∃ nx v w' C', (execOp σ o).run E.P w = .ok nx w' ∧ (nx = .value v ∨ nx = .skip ∧ v = undef) ∧ VRel C' av v ∧ Nxt E B C C' H' w w') ∧ ∀ c, o.op ≠ .defer c := by
  have hnd : ∀ c, o.op ≠ .defer c := fun c e => by rw [e] at ha; simp [astep, kindOf] at ha
  refine ⟨?_, hnd⟩
  have hval : ∀ v', aval2 E o.op ρ H = some v' → v' = av → H = H' → ∃ nx v w' C', (execOp σ o).run E.P w = .ok nx w' ∧ (nx = .value v ∨ nx = .skip ∧ v = undef) ∧ VRel C' av v ∧ Nxt E B C C' H' w w' := by
    rintro v' h1 rfl rfl
    obtain ⟨v, k1, k2⟩ := aval2_ok h.read hρ h1
    exact ⟨_, v, w, C, k1, .inl rfl, k2, .refl h⟩
  have hnew : ∀ f blk, anew E o.op ρ = some (f, blk) → f H.next = av → H.alloc blk = H' → ∃ nx v w' C', (execOp σ o).run E.P w = .ok nx w' ∧ (nx = .value v ∨ nx = .skip ∧ v = undef) ∧ VRel C' av v ∧ Nxt E B C C' H' w w' := by
    rintro f blk h1 rfl rfl
    obtain ⟨v, ob, w', k1, k2, k3, k4⟩ := anew_ok (w := w) hρ h1
    have hpn : (C.push ob).heap[w.heap.size]? = some ob := by
      have := Ctx.push_new (C := C) (o := ob)
      rw [h.heap] at this
      exact this
    have hle : C.le ((C.push ob).name H.next (w.heap.size, 0)) := (Ctx.le_push (by rw [h.heap]; exact h.lt)).trans (Ctx.le_name (C := C.push ob) (h.fresh H.next (Nat.le_refl _)))
    exact ⟨_, v, w', _, k1, .inl rfl, k4 ((C.push ob).name H.next (w.heap.size, 0)) H.next hpn (upd_same _ _ _), h.allocP k2 (k3 _ hle hpn)⟩
  unfold astep at ha
  split at ha
  · cases h1 : aval2 E o.op ρ H with
    | none => simp [h1] at ha
    | some v => simp only [h1, Option.some.injEq, Prod.mk.injEq] at ha; exact hval v h1 ha.1 ha.2
  · cases h1 : anew E o.op ρ with
    | none => simp [h1] at ha
    | some q => obtain ⟨f, blk⟩ := q; simp only [h1, Option.some.injEq, Prod.mk.injEq] at ha; exact hnew f blk h1 ha.1 ha.2
  · exact awr_ok h hρ ha
  · cases h1 : aval2 E o.op ρ H with
    | some v => simp only [h1, Option.some.injEq, Prod.mk.injEq] at ha; exact hval v h1 ha.1 ha.2
    | none =>
      cases h2 : anew E o.op ρ with
      | none => simp [h1, h2] at ha
      | some q => obtain ⟨f, blk⟩ := q; simp only [h1, h2, Option.some.injEq, Prod.mk.injEq] at ha; exact hnew f blk h2 ha.1 ha.2
  · split at ha
    · rename_i t parts ho
      cases h1 : abuild E.P t (parts.toList.map fun q => (q.1, ρ q.2)) with
      | none => simp [h1] at ha
      | some v =>
        simp only [h1, Option.some.injEq, Prod.mk.injEq] at ha
        obtain ⟨rfl, rfl⟩ := ha
        obtain ⟨u, k1, k2⟩ := abuild_ok (w := w) hρ h1
        exact ⟨.value u, u, w, C, by simp [execOp, ho, k1], .inl rfl, k2, .refl h⟩
    · cases ha
  · cases ha

theorem guard_ok {ops : Array Oper} {o : Oper} {X Y : Prop} (hf : FrRel C fr a.tmps) (h : AGuard ops o fr X Y) :
    (Region.wanted o (yielded ops a.tmps) = true ∧ X) ∨ (Region.wanted o (yielded ops a.tmps) = false ∧ Y) := by
  unfold AGuard at h
  unfold Region.wanted
  split at h
  · rename_i hg; rw [hg]; exact .inl ⟨rfl, h⟩
  · rename_i j want hg
    rw [hg]
    simp only [yielded]
    split at h
    · rename_i hd; rw [hd]; exact .inr ⟨rfl, h⟩
    · rename_i t hd
      rw [hd]
      simp only [Option.bind_some]
      have hv := hf t
      split at h
      · rename_i b hb
        rw [hb] at hv
        simp only [VRel] at hv
        have hlt : t < a.tmps.size := by
          rcases Nat.lt_or_ge t a.tmps.size with h | h
          · exact h
          · rw [Array.getD_eq_getD_getElem?, Array.getElem?_eq_none h] at hv; cases hv
        have he : a.tmps[t]? = some (.bool b) := by
          rw [Array.getD_eq_getD_getElem?, Array.getElem?_eq_getElem hlt] at hv
          rw [Array.getElem?_eq_getElem hlt]; simpa using hv
        rw [he]
        simp only
        split at h
        · rename_i hbw; subst hbw; exact .inl ⟨by simp, h⟩
        · rename_i hbw; exact .inr ⟨by simpa using hbw, h⟩
      · rename_i hb
        rw [hb] at hv
        simp only [VRel] at hv
        obtain ⟨us, e1, e2⟩ := hv
        refine .inr ⟨?_, h⟩
        cases he : a.tmps[t]? with
        | none => rfl
        | some v =>
          rw [Array.getD_eq_getD_getElem?, he] at e1
          simp at e1
          subst e1
          rfl
      · exact h.elim

theorem put_rel {n : Nat} (hn : a.tmps.size = n) (hf : FrRel C fr a.tmps) {dst : Option Tmp} {av : AV} {v : Value} (hv : VRel C av v) : FrRel C (aput n fr dst av) (a.put dst v).tmps ∧ (a.put dst v).tmps.size = n ∧ (a.put dst v).defers = a.defers := by
  cases dst with
  | none => exact ⟨hf, hn, rfl⟩
  | some d =>
    refine ⟨fun i => ?_, by simp [Act.put, hn], rfl⟩
    simp only [aput, Act.put]
    by_cases hd : d < n
    · rw [if_pos hd]
      by_cases e : i = d
      · subst e
        rw [upd_same, Array.getD_eq_getD_getElem?, Array.getElem?_setIfInBounds_self_of_lt (show i < a.tmps.size by rw [hn]; exact hd)]
        exact hv
      · rw [upd_ne _ _ e, Array.getD_eq_getD_getElem?, Array.getElem?_setIfInBounds_ne (fun h => e h.symm), ← Array.getD_eq_getD_getElem?]
        exact hf i
    · rw [if_neg hd]
      rw [Array.setIfInBounds_eq_of_size_le (show a.tmps.size ≤ d by rw [hn]; exact Nat.le_of_not_lt hd)]
      exact hf i

theorem DefOk.ev {w w' : World} {ds : List Deferred} (h : DefOk z w ds) (e : Ev B w w') : DefOk z w' ds := by
  obtain ⟨h0, bs, h1, h2, h3⟩ := h
  exact ⟨Nat.le_trans h0 e.below.size, bs, h1, h2, fun b hb => ⟨(h3 b hb).1, e.dfr b _ (h3 b hb).2⟩⟩

theorem St.next (h : St E B z r n C fr H a w) {C' : Ctx} {H' : AHeap} {w' : World} {fr' : AFr} {a' : Act} (k : Nxt E B C C' H' w w') (h1 : a'.tmps.size = n) (h2 : FrRel C' fr' a'.tmps) (h3 : a'.defers = a.defers) : St E B z r n C' fr' H' a' w' :=
  ⟨k.hs, h1, h2, by rw [h3]; exact h.df.ev k.ev, fun l hl => by obtain ⟨rec, e⟩ := h.ro l hl; exact k.ev.lp l rec e⟩

/-- What is known where a piece of code has ended. -/
def XQ (E : Env) (B z : Nat) (r : Option Nat) (n : Nat) (C0 : Ctx) (w0 : World) (Q : AExit → AFr → AHeap → Prop) (e : Exit) (a : Act) (w : World) : Prop :=
  ∃ ae fr H C, ERel C ae e ∧ St E B z r n C fr H a w ∧ Nxt E B C0 C H w0 w ∧ Q ae fr H

theorem XQ.from {C0 C1 : Ctx} {w0 w1 : World} {H1 : AHeap} {Q : AExit → AFr → AHeap → Prop} {e : Exit} (k : Nxt E B C0 C1 H1 w0 w1) (h : XQ E B z r n C1 w1 Q e a w) : XQ E B z r n C0 w0 Q e a w := by
  obtain ⟨ae, fr, H, C, h1, h2, h3, h4⟩ := h
  exact ⟨ae, fr, H, C, h1, h2, k.trans h3, h4⟩

theorem toList_args (l : List Value) : l.toArray = l.toArray := rfl

theorem call_run {c : Call} {f : Operand} (hc : c.callee = .value f) {σ : Operand → Value} {o : Oper} (ho : o.op = .call c) (P : Program) (w : World) :
    (execOp σ o).run P w = (do let d ← Deferred.ofValue (σ f) (c.args.toList.map σ).toArray; invoke d.target d.args : Sem Next).run P w := by
  simp only [execOp, ho, resolve, hc]
  congr 3
  · apply Array.ext'; simp

theorem aops_sound {ops : Array Oper} {Q : AExit → AFr → AHeap → Prop} : ∀ (l : List Oper) (s : Nat) {C : Ctx} {fr : AFr} {H : AHeap} {a : Act} {w : World}, (∀ j, l[j]? = ops[s + j]?) → AOps E n ops Q l fr H → St E B z r n C fr H a w →
    XOps E.P r ops (List.range' s l.length) (XQ E B z r n C w Q) a w
  | [], s, C, fr, H, a, w, _, h, hst => xo_nil ⟨.normal, fr, H, C, trivial, hst, .refl hst.hs, h⟩
  | o :: rest, s, C, fr, H, a, w, hl, h, hst => by
    have ho : ops[s]? = some o := by have := hl 0; simpa using this.symm
    have hl' : ∀ j, rest[j]? = ops[s + 1 + j]? := fun j => by have := hl (j + 1); rw [show s + 1 + j = s + (j + 1) by omega, ← this]; simp
    simp only [List.length_cons, List.range'_succ]
    simp only [AOps] at h
    have hρ := fun x => aeval_rel (E := E) hst.hs hst.fr x
    rcases guard_ok hst.fr h with ⟨hw, h⟩ | ⟨hw, h⟩
    · unfold AOp at h
      split at h
      · split at h
        · rename_i c hop
          split at h
          · rename_i f hcal
            have hd : ∀ c, o.op ≠ .defer c := fun c e => by rw [hop] at e; cases e
            refine xo_call ho hw hd ?_
            rw [call_run hcal hop]
            refine InvOk.mono (h B C w _ (c.args.toList.map a.eval) hst.hs (hρ f) (rels hρ _)) fun e w' hp => ?_
            obtain ⟨C', H', ar, h1, h2, h3⟩ := hp
            cases e with
            | returned v =>
              cases ar with
              | panic x => exact h1.elim
              | ret av =>
                simp only [EndRel] at h1
                obtain ⟨p1, p2, p3⟩ := put_rel (a := a) (dst := o.dst) hst.n (hst.fr.mono h2.le) h1
                exact (aops_sound rest (s + 1) hl' h3 (hst.next h2 p2 p1 p3)).mono fun e a w hq => hq.from h2
            | panicked ch =>
              cases ar with
              | ret x => exact h1.elim
              | panic av =>
                exact ⟨.panic av, fr, H', C', h1, hst.next h2 hst.n (hst.fr.mono h2.le) rfl, h2, h3⟩
            | outgrown => cases ar <;> exact h1.elim
          · exact h.elim
        · exact h.elim
      · split at h
        · rename_i av H' hs
          obtain ⟨⟨nx, v, w', C', k1, k2, k3, k4⟩, hd⟩ := astep_ok (E := E) hst.hs hρ hs
          obtain ⟨p1, p2, p3⟩ := put_rel (a := a) (dst := o.dst) hst.n (hst.fr.mono k4.le) k3
          exact xo_value ho hw hd k1 k2 ((aops_sound rest (s + 1) hl' h (hst.next k4 p2 p1 p3)).mono fun e a w hq => hq.from k4)
        · exact h.elim
    · have hundef : VRel C (.tuple []) undef := by simp only [VRel]; exact ⟨#[], rfl, VsRel.nil⟩
      obtain ⟨p1, p2, p3⟩ := put_rel (a := a) (dst := o.dst) hst.n hst.fr hundef
      exact xo_skip ho hw (aops_sound rest (s + 1) hl' h (hst.next (.refl hst.hs) p2 p1 p3))
end
end Go.Zk
namespace Go.Zk

section
variable {E : Env} {B : Nat} {C : Ctx} {H : AHeap} {w : World} {P : Program} {r : Option Nat} {n : Nat} {fr : AFr} {a : Act}

/-- A quiet call, seen from whoever holds named memory. -/
theorem HSim.quiet (h : HSim E B C H w) {I' : Nat → Prop} {w' : World} (ev : Ev w.heap.size w w') (h1 : ∀ b, C.I b → I' b) (h2 : ∀ b, I' b → C.I b ∨ w.heap.size ≤ b) (h3 : ∀ b, I' b → b < w'.heap.size) (h4 : ∀ (b : Nat) ds, I' b → w'.heap[b]? ≠ some (.deferred ds)) :
    Nxt E B C ⟨I', C.al, w'.heap⟩ H w w' := by
  have hle : C.le ⟨I', C.al, w'.heap⟩ := ⟨h1, fun _ _ h => h, fun b hb => by rw [h.heap]; exact ev.below.block b (h.lt b hb), fun b k ⟨c, e, f, k1, k2⟩ => by
    have hb := h.heap_lt k1
    rw [h.heap] at k1
    exact ⟨c, e, f, (ev.below.block b hb).trans k1, k2⟩⟩
  refine ⟨hle, ev.mono h.base, fun b hb => (h2 b hb).imp id (fun e => by have := h.base; omega), ?_⟩
  refine ⟨rfl, by have := h.base; have := ev.below.size; omega, h3, h.fresh, h.dead, fun i hi hd => ?_, h.inj, fun g cells hg => (h.glob g cells hg).mono hle _ _ _, fun b ds hb => h4 b ds hb⟩
  obtain ⟨b, o, k1, k2, k3, k4, k5⟩ := h.blk i hi hd
  exact ⟨b, o, k1, k2, by have := ev.below.size; omega, fun hI => by rcases h2 b hI with h | h; exact k4 h; omega, k5.mono hle (by rw [h.heap]; exact ev.below.block b k3)⟩

/-! ### the operations look at their operands alone -/
theorem aval2_congr {op : Op} {ρ ρ' : Operand → AV} (h : ∀ x ∈ op.operands, ρ x = ρ' x) : aval2 E op ρ H = aval2 E op ρ' H := by
  cases op <;> simp only [Op.operands] at h <;> simp only [aval2, aval]
  case makeFunc fn first captured =>
    cases fn <;> simp only
    rw [List.map_congr_left (f := ρ) (g := ρ') (l := first.toList) fun x hx => h x (by simp; left; simpa using hx), List.map_congr_left (f := ρ) (g := ρ') (l := captured.toList) fun x hx => h x (by simp; right; simpa using hx)]
  case call c =>
    have hargs : ∀ x ∈ c.args.toList, ρ x = ρ' x := fun x hx => h x (by simp only [Call.operands, Array.mem_append]; right; simpa using hx)
    unfold acall0
    split
    · split
      · rename_i x t e1 e2; rw [hargs x (by rw [e1]; simp)]
      · rfl
    · split
      · rename_i x l e1; rw [hargs x (by rw [e1]; simp), List.map_congr_left (f := ρ) (g := ρ') (l := l) fun y hy => hargs y (by rw [e1]; simp [hy])]
      · rfl
    · split
      · rename_i x l e1; rw [hargs x (by rw [e1]; simp), List.map_congr_left (f := ρ) (g := ρ') (l := l) fun y hy => hargs y (by rw [e1]; simp [hy])]
      · rfl
    · rfl
  case slice t x lo hi mx => cases lo <;> cases hi <;> cases mx <;> simp_all
  all_goals (first | rfl | (simp_all; done))
theorem parts_congr {ps : Array (Nat × Operand)} {ρ ρ' : Operand → AV} (h : ∀ x ∈ (ps.toList.map (·.2)).toArray, ρ x = ρ' x) : (ps.toList.map fun q => (q.1, ρ q.2)) = ps.toList.map fun q => (q.1, ρ' q.2) :=
  List.map_congr_left fun q hq => by rw [h q.2 (by simp; exact ⟨q.1, by simpa using hq⟩)]
theorem anew_congr {op : Op} {ρ ρ' : Operand → AV} (h : ∀ x ∈ op.operands, ρ x = ρ' x) : anew E op ρ = anew E op ρ' := by
  cases op <;> simp only [Op.operands] at h <;> simp only [anew]
  case buildSlice t len ps => rw [parts_congr h]
  case makeMap t r => cases r <;> rfl
  all_goals (first | rfl | (simp_all; done))
theorem aquiet_congr {op : Op} {ρ ρ' : Operand → AV} {id : Nat} (h : ∀ x ∈ op.operands, ρ x = ρ' x) : aquiet E op ρ H id = aquiet E op ρ' H id := by
  unfold aquiet
  rw [aval2_congr h, anew_congr h]
  split <;> (try rfl)
  split <;> (try rfl)
  rename_i t ps
  simp only [Op.operands] at h
  rw [parts_congr h]

theorem aquiet_ok (hr : HRead E C H w) (hI : ∀ b, C.I b → b < C.heap.size) {ρ : Operand → AV} {σ : Operand → Value} (hρ : ∀ x, VRel C (ρ x) (σ x)) {o : Oper} {id : Nat} {v : AV} {b : Option ABlk} (ha : aquiet E o.op ρ H id = some (v, b)) :
    (∀ c, o.op ≠ .defer c) ∧ (b = none → ∃ u, (execOp σ o).run E.P w = .ok (.value u) w ∧ VRel C v u) ∧
    (∀ blk, b = some blk → ∃ u ob w', (execOp σ o).run E.P w = .ok (.value u) w' ∧ Pushed w ob w' ∧ (∀ C' : Ctx, C.le C' → C'.heap[w.heap.size]? = some ob → BRel C' w.heap.size 0 blk) ∧
      (∀ C' : Ctx, C'.heap[w.heap.size]? = some ob → C'.al id = some (w.heap.size, 0) → VRel C' v u)) := by
  refine ⟨fun c e => by rw [e] at ha; simp [aquiet, kindOf] at ha, ?_⟩
  have hval : ∀ v', aval2 E o.op ρ H = some v' → some (v', (none : Option ABlk)) = some (v, b) → (b = none → ∃ u, (execOp σ o).run E.P w = .ok (.value u) w ∧ VRel C v u) ∧
    (∀ blk, b = some blk → ∃ u ob w', (execOp σ o).run E.P w = .ok (.value u) w' ∧ Pushed w ob w' ∧ (∀ C' : Ctx, C.le C' → C'.heap[w.heap.size]? = some ob → BRel C' w.heap.size 0 blk) ∧
      (∀ C' : Ctx, C'.heap[w.heap.size]? = some ob → C'.al id = some (w.heap.size, 0) → VRel C' v u)) := by
    intro v' h1 e
    simp only [Option.some.injEq, Prod.mk.injEq] at e
    obtain ⟨rfl, rfl⟩ := e
    exact ⟨fun _ => by obtain ⟨u, k1, k2⟩ := aval2_ok hr hρ h1; exact ⟨u, k1, k2⟩, fun blk e => by cases e⟩
  have hnew : ∀ f blk, anew E o.op ρ = some (f, blk) → some (f id, some blk) = some (v, b) → (b = none → ∃ u, (execOp σ o).run E.P w = .ok (.value u) w ∧ VRel C v u) ∧
    (∀ blk, b = some blk → ∃ u ob w', (execOp σ o).run E.P w = .ok (.value u) w' ∧ Pushed w ob w' ∧ (∀ C' : Ctx, C.le C' → C'.heap[w.heap.size]? = some ob → BRel C' w.heap.size 0 blk) ∧
      (∀ C' : Ctx, C'.heap[w.heap.size]? = some ob → C'.al id = some (w.heap.size, 0) → VRel C' v u)) := by
    intro f blk h1 e
    simp only [Option.some.injEq, Prod.mk.injEq] at e
    obtain ⟨rfl, rfl⟩ := e
    obtain ⟨u, ob, w', k1, k2, k3, k4⟩ := anew_ok (w := w) hρ h1
    exact ⟨(fun e => by cases e), fun blk e => by cases e; exact ⟨u, ob, w', k1, k2, k3, fun C' a b => k4 C' id a b⟩⟩
  unfold aquiet at ha
  split at ha
  · cases h1 : aval2 E o.op ρ H with
    | none => simp [h1] at ha
    | some v' => simp only [h1] at ha; exact hval v' h1 ha
  · cases h1 : anew E o.op ρ with
    | none => simp [h1] at ha
    | some q => obtain ⟨f, blk⟩ := q; simp only [h1] at ha; exact hnew f blk h1 ha
  · cases h1 : aval2 E o.op ρ H with
    | some v' => simp only [h1] at ha; exact hval v' h1 ha
    | none =>
      cases h2 : anew E o.op ρ with
      | none => simp [h1, h2] at ha
      | some q => obtain ⟨f, blk⟩ := q; simp only [h1, h2] at ha; exact hnew f blk h2 ha
  · split at ha
    · rename_i t parts ho
      cases h1 : abuild E.P t (parts.toList.map fun q => (q.1, ρ q.2)) with
      | none => simp [h1] at ha
      | some v' =>
        simp only [h1, Option.some.injEq, Prod.mk.injEq] at ha
        obtain ⟨rfl, rfl⟩ := ha
        refine ⟨fun _ => ?_, fun blk e => by cases e⟩
        obtain ⟨u, k1, k2⟩ := abuild_ok (w := w) hρ h1
        exact ⟨u, by simp [execOp, ho, k1], k2⟩
    · cases ha
  · cases ha

/-! ### what has been done of the head -/
def FS (n : Nat) (fr : AFr) (dst : Nat → Option Tmp) (v : Nat → AV) (S : Nat → Bool) : Nat → AFr
  | 0 => fr
  | m + 1 => if S m = true then aput n (FS n fr dst v S m) (dst m) (v m) else FS n fr dst v S m
def HS (H : AHeap) (b : Nat → AEff) (S : Nat → Bool) : Nat → Nat → ABlk
  | 0 => H.get
  | m + 1 => if S m = true then (match b m with | .no => HS H b S m | .new blk => upd (HS H b S m) (H.next + m) blk | .put i blk => upd (HS H b S m) i blk) else HS H b S m
/-- The name that operation j sets, and to what. -/
def setsTo (H : AHeap) (j : Nat) : AEff → Option (Nat × ABlk)
  | .no => none
  | .new blk => some (H.next + j, blk)
  | .put i blk => some (i, blk)
theorem HS_succ {b : Nat → AEff} {S : Nat → Bool} (m : Nat) : HS H b S (m + 1) = if S m = true then (match setsTo H m (b m) with | none => HS H b S m | some (i, blk) => upd (HS H b S m) i blk) else HS H b S m := by
  simp only [HS]
  cases b m <;> rfl

theorem FS_agree {dst : Nat → Option Tmp} {v : Nat → AV} {S T : Nat → Bool} {t : Nat} : ∀ m, (∀ j, j < m → dst j = some t → S j = T j) → FS n fr dst v S m t = FS n fr dst v T m t
  | 0, _ => rfl
  | m + 1, h => by
    have ih := FS_agree (v := v) m fun j hj => h j (by omega)
    by_cases hd : dst m = some t
    · have := h m (by omega) hd
      simp only [FS, this]
      split
      · simp only [aput, hd]
        split
        · rw [upd_same, upd_same]
        · exact ih
      · exact ih
    · have hne : ∀ (f : AFr), aput n f (dst m) (v m) t = f t := fun f => by
        unfold aput
        cases hx : dst m with
        | none => rfl
        | some d =>
          simp only
          split
          · exact upd_ne _ _ (fun e => hd (by rw [hx, e]))
          · rfl
      have hx : ∀ S : Nat → Bool, FS n fr dst v S (m + 1) t = FS n fr dst v S m t := fun S => by
        simp only [FS]
        split
        · exact hne _
        · rfl
      rw [hx, hx]
      exact ih

theorem FS_put {dst : Nat → Option Tmp} {v : Nat → AV} {S : Nat → Bool} {i : Nat} (hS : S i = false) (t : Nat) : ∀ m, (∀ j, i < j → j < m → S j = true → dst i = some t → dst j ≠ some t) →
    FS n fr dst v (fun j => decide (j = i) || S j) m t = if i < m ∧ dst i = some t ∧ t < n then v i else FS n fr dst v S m t
  | 0, _ => by rw [if_neg (by omega)]; rfl
  | m + 1, h => by
    have ih := FS_put (v := v) hS t m fun j h1 h2 => h j h1 (by omega)
    by_cases hm : m = i
    · subst hm
      rw [if_neg (by omega)] at ih
      have e1 : FS n fr dst v S (m + 1) t = FS n fr dst v S m t := by simp only [FS, hS]; simp
      rw [e1]
      simp only [FS, decide_true, Bool.true_or, if_true, aput]
      cases hd : dst m with
      | none => simp [ih]
      | some d =>
        simp only [Option.some.injEq]
        by_cases hn : d < n
        · rw [if_pos hn]
          by_cases ht : d = t
          · subst ht
            rw [upd_same, if_pos ⟨by omega, rfl, hn⟩]
          · rw [if_neg (fun h => ht h.2.1), upd_ne _ _ (fun e => ht e.symm)]; exact ih
        · rw [if_neg hn]
          rw [if_neg (fun h => hn (by obtain ⟨_, h2, h3⟩ := h; rw [h2]; exact h3))]; exact ih
    · have hdm : (decide (m = i) || S m) = S m := by simp [hm]
      simp only [FS, hdm]
      by_cases hs : S m = true
      · rw [if_pos hs, if_pos hs]
        simp only [aput]
        cases hd : dst m with
        | none => simp only; rw [ih]; by_cases h1 : i < m <;> simp [h1, show (i < m + 1) = (i < m) from by simp; omega]
        | some d =>
          simp only
          by_cases ht : d = t
          · subst ht
            have hno : ¬ (i < m + 1 ∧ dst i = some d ∧ d < n) := fun ⟨h1, h2, h3⟩ => h m (by omega) (by omega) hs h2 hd
            rw [if_neg hno]
            split
            · rw [upd_same, upd_same]
            · rename_i hdn
              rw [ih, if_neg (fun h => hdn h.2.2)]
          · split
            · rw [upd_ne _ _ (fun e => ht e.symm), upd_ne _ _ (fun e => ht e.symm), ih]
              by_cases h1 : i < m <;> simp [h1, show (i < m + 1) = (i < m) from by simp; omega]
            · rw [ih]
              by_cases h1 : i < m <;> simp [h1, show (i < m + 1) = (i < m) from by simp; omega]
      · rw [if_neg hs, if_neg hs, ih]
        by_cases h1 : i < m <;> simp [h1, show (i < m + 1) = (i < m) from by simp; omega]

theorem HS_agree {b : Nat → AEff} {S T : Nat → Bool} {k : Nat} : ∀ m, (∀ j, j < m → ∀ blk, setsTo H j (b j) = some (k, blk) → S j = T j) → HS H b S m k = HS H b T m k
  | 0, _ => rfl
  | m + 1, h => by
    have ih := HS_agree (b := b) m fun j hj => h j (by omega)
    rw [HS_succ, HS_succ]
    cases he : setsTo H m (b m) with
    | none => simp only [ite_self]; exact ih
    | some q =>
      obtain ⟨i, blk⟩ := q
      by_cases hk : k = i
      · subst hk
        have := h m (by omega) blk he
        rw [this]
        simp only
        split
        · rw [upd_same, upd_same]
        · exact ih
      · have hx : ∀ (S : Nat → Bool), (if S m = true then upd (HS H b S m) i blk else HS H b S m) k = HS H b S m k := fun S => by
          split
          · exact upd_ne _ _ hk
          · rfl
        simp only
        rw [hx, hx]; exact ih
theorem HS_put {b : Nat → AEff} {S : Nat → Bool} {i : Nat} (hS : S i = false) (k : Nat) : ∀ m, (∀ j, i < j → j < m → S j = true → ∀ x y q, setsTo H i (b i) = some (q, x) → setsTo H j (b j) ≠ some (q, y)) →
    HS H b (fun j => decide (j = i) || S j) m k = (match setsTo H i (b i) with | some (q, blk) => if i < m ∧ k = q then blk else HS H b S m k | none => HS H b S m k)
  | 0, _ => by
    cases setsTo H i (b i) with
    | none => rfl
    | some q => simp only; rw [if_neg (by omega)]; rfl
  | m + 1, h => by
    have ih := HS_put (b := b) hS k m fun j h1 h2 => h j h1 (by omega)
    rw [HS_succ, HS_succ]
    by_cases hm : m = i
    · subst hm
      simp only [decide_true, Bool.true_or, if_true, hS, Bool.false_eq_true, if_false]
      cases he : setsTo H m (b m) with
      | none => simp only [he] at ih ⊢; exact ih
      | some q =>
        obtain ⟨i, blk⟩ := q
        simp only [he] at ih ⊢
        rw [if_neg (by omega)] at ih
        by_cases hk : k = i
        · subst hk; rw [upd_same, if_pos ⟨by omega, rfl⟩]
        · rw [upd_ne _ _ hk, if_neg (fun h => hk h.2)]; exact ih
    · have hdm : (decide (m = i) || S m) = S m := by simp [hm]
      rw [hdm]
      by_cases hs : S m = true
      · rw [if_pos hs, if_pos hs]
        cases he : setsTo H m (b m) with
        | none =>
          simp only
          rw [ih]
          cases hq : setsTo H i (b i) with
          | none => rfl
          | some q =>
            simp only
            by_cases h1 : i < m <;> simp [h1, show (i < m + 1) = (i < m) from by simp; omega]
        | some p =>
          obtain ⟨i', blk'⟩ := p
          simp only
          cases hq : setsTo H i (b i) with
          | none =>
            simp only [hq] at ih ⊢
            by_cases hk : k = i'
            · subst hk; rw [upd_same, upd_same]
            · rw [upd_ne _ _ hk, upd_ne _ _ hk]; exact ih
          | some q =>
            obtain ⟨i2, blk2⟩ := q
            simp only [hq] at ih ⊢
            by_cases hk : k = i'
            · subst hk
              rw [upd_same, upd_same, if_neg]
              rintro ⟨h1, rfl⟩
              exact h m (by omega) (by omega) hs _ _ _ hq he
            · rw [upd_ne _ _ hk, upd_ne _ _ hk, ih]
              by_cases h1 : i < m <;> simp [h1, show (i < m + 1) = (i < m) from by simp; omega]
      · rw [if_neg hs, if_neg hs, ih]
        cases hq : setsTo H i (b i) with
        | none => rfl
        | some q =>
          simp only
          by_cases h1 : i < m <;> simp [h1, show (i < m + 1) = (i < m) from by simp; omega]
theorem HS_lt {b : Nat → AEff} {i : Nat} : ∀ m, i ≤ m → HS H b (fun j => decide (j < i)) m = HS H b (fun _ => true) i
  | 0, h => by
    obtain rfl : i = 0 := by omega
    rfl
  | m + 1, h => by
    by_cases hi : i = m + 1
    · subst hi
      have : ∀ k, k ≤ m + 1 → HS H b (fun j => decide (j < m + 1)) k = HS H b (fun _ => true) k := by
        intro k
        induction k with
        | zero => intro _; rfl
        | succ k ih => intro hk; simp only [HS, ih (by omega), show k < m + 1 by omega, decide_true, if_true]
      exact this _ (Nat.le_refl _)
    · simp only [HS, show ¬ (m < i) by omega, decide_false, Bool.false_eq_true, if_false]
      exact HS_lt m (by omega)

/-- What an operation that changes nothing answers hangs on the names of its operands alone. -/
theorem rowAt_foot {H' : AHeap} {p : AV} (h : ∀ i ∈ idOf p, H'.get i = H.get i) : rowAt H' p = rowAt H p := by
  cases p <;> simp only [rowAt]
  rename_i id off
  rw [h id (by simp [idOf])]
theorem mapAt_foot {H' : AHeap} {p : AV} (h : ∀ i ∈ idOf p, H'.get i = H.get i) : mapAt H' p = mapAt H p := by
  cases p <;> simp only [mapAt]
  rename_i id
  rw [h id (by simp [idOf])]
theorem aval2_foot {H' : AHeap} {op : Op} {ρ : Operand → AV} (h : ∀ i ∈ footOf op ρ, H'.get i = H.get i) : aval2 E op ρ H' = aval2 E op ρ H := by
  have hx : ∀ x ∈ op.operands, ∀ i ∈ idOf (ρ x), H'.get i = H.get i := fun x hx i hi => h i (by
    unfold footOf
    rw [List.mem_flatten]
    exact ⟨_, List.mem_map_of_mem (by simpa using hx), hi⟩)
  cases op <;> try rfl
  case makeFunc fn p q => cases fn <;> rfl
  case load t a =>
    simp only [aval2, aval, aload]
    rw [rowAt_foot (hx a (by simp [Op.operands]))]
  case slice t x lo hi mx =>
    have hx' := hx x (by simp [Op.operands])
    simp only [aval2, aval]
    generalize ρ x = v at hx'
    cases v <;> try rfl
    rename_i id off
    simp only [asl]
    rw [hx' id (by simp [idOf])]
  case lookup t m k ok =>
    have hx' := hx m (by simp [Op.operands])
    simp only [aval2]
    unfold alookup
    generalize ρ m = v at hx'
    cases v <;> try rfl
    all_goals (simp only [alookup0]; rw [mapAt_foot hx'])
  case call c =>
    simp only [aval2, aval, acall0]
    split
    · rename_i hc
      split
      · rename_i x t h1 h2
        have hx' := hx x (by
          simp only [Op.operands, Call.operands, hc]
          have : x ∈ c.args.toList := by rw [h1]; simp
          simpa using this)
        unfold alen
        generalize ρ x = v at hx'
        split <;> try rfl
        rename_i id _
        rw [hx' id (by simp [idOf])]
      · rfl
    · rfl
    · rfl
    · rfl
theorem aquiet_foot {H' : AHeap} {op : Op} {ρ : Operand → AV} {id : Nat} (h : ∀ i ∈ footOf op ρ, H'.get i = H.get i) : aquiet E op ρ H' id = aquiet E op ρ H id := by
  unfold aquiet
  rw [aval2_foot h]
theorem only_get {l : Option (List Nat)} {i : Nat} (h : ∀ l', l = some l' → i ∈ l') : (H.only l).get i = H.get i := by
  cases l with
  | none => rfl
  | some l =>
    have := h l rfl
    simp only [AHeap.only]
    rw [if_pos (by simpa using this)]
theorem only_dead {l : Option (List Nat)} {i : Nat} (h : (H.only l).get i ≠ .dead) : (∀ l', l = some l' → i ∈ l') ∧ (H.only l).get i = H.get i := by
  cases l with
  | none => exact ⟨fun l' e => (by cases e), rfl⟩
  | some l =>
    simp only [AHeap.only] at h ⊢
    split at h
    · rename_i hc
      exact ⟨fun l' e => (by cases e; simpa using hc), by rw [if_pos hc]⟩
    · exact absurd rfl h
theorem HRead.subAl {H0 : AHeap} (h : HRead E C H w) (hs : ∀ i b o, C.al i = some (b, o) → H0.get i ≠ .dead → H.get i = H0.get i) : HRead E C H0 w :=
  ⟨h.heap, fun i b o ha hd => by have := h.blk i b o ha (by rw [hs i b o ha hd]; exact hd); rwa [hs i b o ha hd] at this, h.glob⟩
end
end Go.Zk
namespace Go.Zk

section
variable {E : Env} {B : Nat} {C : Ctx} {H : AHeap} {w : World} {P : Program} {r : Option Nat} {n : Nat} {fr : AFr} {a : Act} {ops : Array Oper}

theorem AGuard.cases (ops : Array Oper) (o : Oper) (fr : AFr) : (∀ X Y, AGuard ops o fr X Y = X) ∨ (∀ X Y, AGuard ops o fr X Y = Y) ∨ (∀ X Y, AGuard ops o fr X Y = False) := by
  unfold AGuard
  split
  · exact .inl fun _ _ => rfl
  · rename_i j want hg
    split
    · exact .inr (.inl fun _ _ => rfl)
    · split
      · rename_i b _
        by_cases h : b = want
        · exact .inl fun X Y => by rw [if_pos h]
        · exact .inr (.inl fun X Y => by rw [if_neg h])
      · exact .inr (.inl fun _ _ => rfl)
      · exact .inr (.inr fun _ _ => rfl)

theorem AGuard.congr {o : Oper} {fr fr' : AFr} {X Y : Prop} (h : ∀ t ∈ looks ops o, fr t = fr' t) : AGuard ops o fr X Y = AGuard ops o fr' X Y := by
  unfold AGuard
  split
  · rfl
  · rename_i j want hg
    split
    · rfl
    · rename_i t ht
      rw [h t (by simp [looks, hg, ht])]

theorem aeval_congr {o : Oper} {fr fr' : AFr} (h : ∀ t ∈ looks ops o, fr t = fr' t) : ∀ x ∈ o.op.operands, aeval E fr x = aeval E fr' x := by
  intro x hx
  cases x with
  | tmp t => exact h t (by unfold looks; exact List.mem_append_left _ (List.mem_filterMap.2 ⟨.tmp t, by simpa using hx, rfl⟩))
  | _ => rfl

def OpIs (E : Env) (n : Nat) (ops : Array Oper) (dst : Nat → Option Tmp) (M : Nat) (H : AHeap) (fr : AFr) (v : Nat → AV) (b : Nat → AEff) (rd : Nat → Option (List Nat)) (j : Nat) : Prop :=
  ∃ o, ops[j]? = some o ∧ AGuard ops o (FS n fr dst v (fun _ => true) j)
    (AQ E o (FS n fr dst v (fun _ => true) j) ⟨M, HS H b (fun _ => true) j⟩ (H.next + j) fun v' b' r' => v' = v j ∧ b' = b j ∧ r' = rd j) (v j = .tuple [] ∧ b j = .no ∧ rd j = some [])

theorem FS_congr {dst : Nat → Option Tmp} {v v' : Nat → AV} {S : Nat → Bool} : ∀ m, (∀ j, j < m → v j = v' j) → FS n fr dst v S m = FS n fr dst v' S m
  | 0, _ => rfl
  | m + 1, h => by
    simp only [FS, FS_congr m fun j hj => h j (by omega), h m (by omega)]
theorem HS_congr {b b' : Nat → AEff} {S T : Nat → Bool} : ∀ m, (∀ j, j < m → b j = b' j ∧ S j = T j) → HS H b S m = HS H b' T m
  | 0, _ => rfl
  | m + 1, h => by
    simp only [HS, HS_congr m fun j hj => h j (by omega), (h m (by omega)).1, (h m (by omega)).2]
theorem FS_lt {dst : Nat → Option Tmp} {v : Nat → AV} {i : Nat} : ∀ m, i ≤ m → FS n fr dst v (fun j => decide (j < i)) m = FS n fr dst v (fun _ => true) i
  | 0, h => by
    obtain rfl : i = 0 := by omega
    rfl
  | m + 1, h => by
    by_cases hi : i = m + 1
    · subst hi
      have : ∀ k, k ≤ m + 1 → FS n fr dst v (fun j => decide (j < m + 1)) k = FS n fr dst v (fun _ => true) k := by
        intro k
        induction k with
        | zero => intro _; rfl
        | succ k ih => intro hk; simp only [FS, ih (by omega), show k < m + 1 by omega, decide_true, if_true]
      exact this _ (Nat.le_refl _)
    · simp only [FS, show ¬ (m < i) by omega, decide_false, Bool.false_eq_true, if_false]
      exact FS_lt m (by omega)

theorem AQ.mono {o : Oper} {id : Nat} {K K' : AV → AEff → Option (List Nat) → Prop} (h : AQ E o fr H id K) (hk : ∀ v b r, K v b r → K' v b r) : AQ E o fr H id K' := by
  unfold AQ at *
  split at h
  · split at h
    · split at h
      · obtain ⟨r, res, h1, h2⟩ := h; exact ⟨r, res, h1, hk _ _ _ h2⟩
      · exact h
    · exact h
  · split at h
    · split at h
      · rename_i h1 h2; exact hk _ _ _ h
      · exact h
    · exact h
  · split at h
    · exact hk _ _ _ h
    · exact h

theorem AQ.pick {o : Oper} {id : Nat} {K : AV → AEff → Option (List Nat) → Prop} (h : AQ E o fr H id K) : ∃ v b r, K v b r ∧ AQ E o fr H id fun v' b' r' => v' = v ∧ b' = b ∧ r' = r := by
  unfold AQ at *
  split at h
  · split at h
    · split at h
      · obtain ⟨r, res, h1, h2⟩ := h; exact ⟨res, .no, r, h2, r, res, h1, rfl, rfl, rfl⟩
      · exact h.elim
    · exact h.elim
  · split at h
    · split at h
      · exact ⟨_, _, _, h, rfl, rfl, rfl⟩
      · exact h.elim
    · exact h.elim
  · split at h
    · rename_i v b hq; exact ⟨v, _, _, h, rfl, rfl, rfl⟩
    · exact h.elim

/-- What has been noted from place s on. -/
def logAt (b : Nat → AEff) (rd : Nat → Option (List Nat)) (s k : Nat) : ALog := (List.range' s k).map fun j => (rd j, effId (b j))
theorem head_trace {dst : Nat → Option Tmp} {K : ALog → AFr → AHeap → Prop} : ∀ (l : List Oper) (s : Nat) (v : Nat → AV) (b : Nat → AEff) (rd : Nat → Option (List Nat)) (M : Nat) (log : ALog), (∀ j, s ≤ j → dst j = (ops[j]?).bind (·.dst)) → (∀ j, j < l.length → l[j]? = ops[s + j]?) →
    AHead E n ops H.next K l s log (FS n fr dst v (fun _ => true) s) ⟨M, HS H b (fun _ => true) s⟩ →
    ∃ v' b' rd', (∀ j, j < s → v' j = v j ∧ b' j = b j ∧ rd' j = rd j) ∧ (∀ j, s ≤ j → j < s + l.length → OpIs E n ops dst M H fr v' b' rd' j) ∧
      K (log ++ logAt b' rd' s l.length) (FS n fr dst v' (fun _ => true) (s + l.length)) ⟨M, HS H b' (fun _ => true) (s + l.length)⟩
  | [], s, v, b, rd, M, log, _, _, h => ⟨v, b, rd, fun _ _ => ⟨rfl, rfl, rfl⟩, fun j h1 h2 => by simp at h2; omega, by rw [AHead] at h; simpa [logAt] using h⟩
  | o :: rest, s, v, b, rd, M, log, hdst, hl, h => by
    have ho : ops[s]? = some o := by have := hl 0 (by simp); simpa using this.symm
    have hl' : ∀ j, j < rest.length → rest[j]? = ops[s + 1 + j]? := fun j hj => by have := hl (j + 1) (by simp; omega); rw [show s + 1 + j = s + (j + 1) by omega, ← this]; simp
    have key : ∀ (x : AV) (y : AEff) (z : Option (List Nat)), AHead E n ops H.next K rest (s + 1) (log ++ [(z, effId y)]) (aput n (FS n fr dst v (fun _ => true) s) o.dst x) (setB ⟨M, HS H b (fun _ => true) s⟩ (H.next + s) y) →
        (∀ (v' : Nat → AV) (b' : Nat → AEff) (rd' : Nat → Option (List Nat)), v' s = x → b' s = y → rd' s = z → (∀ j, j < s → v' j = v j ∧ b' j = b j ∧ rd' j = rd j) → OpIs E n ops dst M H fr v' b' rd' s) →
        ∃ v' b' rd', (∀ j, j < s → v' j = v j ∧ b' j = b j ∧ rd' j = rd j) ∧ (∀ j, s ≤ j → j < s + (o :: rest).length → OpIs E n ops dst M H fr v' b' rd' j) ∧
          K (log ++ logAt b' rd' s (o :: rest).length) (FS n fr dst v' (fun _ => true) (s + (o :: rest).length)) ⟨M, HS H b' (fun _ => true) (s + (o :: rest).length)⟩ := by
      intro x y z hA hop
      have e1 : FS n fr dst (upd v s x) (fun _ => true) (s + 1) = aput n (FS n fr dst v (fun _ => true) s) o.dst x := by
        have hds : dst s = o.dst := by rw [hdst s (Nat.le_refl _), ho]; rfl
        simp only [FS, if_true, hds, upd_same]
        rw [FS_congr (v := upd v s x) (v' := v) s fun j hj => upd_ne _ _ (by omega)]
      have e2 : (⟨M, HS H (upd b s y) (fun _ => true) (s + 1)⟩ : AHeap) = setB ⟨M, HS H b (fun _ => true) s⟩ (H.next + s) y := by
        simp only [HS, if_true, upd_same]
        rw [HS_congr (b := upd b s y) (b' := b) (T := fun _ => true) s fun j hj => ⟨upd_ne _ _ (by omega), rfl⟩]
        cases y <;> rfl
      rw [← e1, ← e2] at hA
      obtain ⟨v', b', rd', k1, k2, k3⟩ := head_trace rest (s + 1) (upd v s x) (upd b s y) (upd rd s z) M (log ++ [(z, effId y)]) (fun j hj => hdst j (by omega)) hl' hA
      have hlow : ∀ j, j < s → v' j = v j ∧ b' j = b j ∧ rd' j = rd j := fun j hj => by
        obtain ⟨q1, q2, q3⟩ := k1 j (by omega)
        exact ⟨by rw [q1, upd_ne _ _ (by omega)], by rw [q2, upd_ne _ _ (by omega)], by rw [q3, upd_ne _ _ (by omega)]⟩
      obtain ⟨q1, q2, q3⟩ := k1 s (by omega)
      rw [upd_same] at q1 q2 q3
      refine ⟨v', b', rd', hlow, fun j h1 h2 => ?_, ?_⟩
      · by_cases hj : j = s
        · subst hj; exact hop v' b' rd' q1 q2 q3 hlow
        · exact k2 j (by omega) (by simp at h2; omega)
      · rw [show s + (o :: rest).length = s + 1 + rest.length by simp; omega]
        have e3 : log ++ logAt b' rd' s (o :: rest).length = log ++ [(z, effId y)] ++ logAt b' rd' (s + 1) rest.length := by
          rw [List.append_assoc]
          congr 1
          simp only [logAt, List.length_cons, List.range'_succ, List.map_cons, q2, q3, List.singleton_append]
        rw [e3]
        exact k3
    simp only [AHead] at h
    rcases AGuard.cases ops o (FS n fr dst v (fun _ => true) s) with hg | hg | hg
    · rw [hg] at h
      obtain ⟨x, y, z, hA, hq⟩ := h.pick
      refine key x y z hA fun v' b' rd' e1 e2 e3 hlow => ⟨o, ho, ?_⟩
      rw [FS_congr (v := v') (v' := v) s fun j hj => (hlow j hj).1, hg, e1, e2, e3, HS_congr (b := b') (b' := b) (T := fun _ => true) s fun j hj => ⟨(hlow j hj).2.1, rfl⟩]
      exact hq
    · rw [hg] at h
      refine key (.tuple []) .no (some []) h fun v' b' rd' e1 e2 e3 hlow => ⟨o, ho, ?_⟩
      rw [FS_congr (v := v') (v' := v) s fun j hj => (hlow j hj).1, hg]
      exact ⟨e1, e2, e3⟩
    · rw [hg] at h; exact h.elim

/-! ### the listed operations -/
def Closed (ops : Array Oper) (S : Nat → Bool) : Prop := ∀ i o, S i = true → ops[i]? = some o → ∀ e ∈ o.after, Region.binds .any e = true → S e.on = true
/-- j comes ahead of i. -/
def Pre (ops : Array Oper) (i j : Nat) : Prop := ∀ S : Nat → Bool, Closed ops S → (∀ o, ops[i]? = some o → ∀ e ∈ o.after, Region.binds .any e = true → S e.on = true) → S j = true
theorem Pre.ready {i j : Nat} (h : Pre ops i j) {S : Nat → Bool} (hc : Closed ops S) {o : Oper} (ho : ops[i]? = some o) (hr : ∀ e ∈ o.after, Region.binds .any e = true → S e.on = true) : S j = true :=
  h S hc fun o' ho' e he hb => by rw [ho] at ho'; cases ho'; exact hr e he hb
theorem Pre.closed {i j : Nat} (h : Pre ops i j) {S : Nat → Bool} (hc : Closed ops S) (hi : S i = true) : S j = true :=
  h S hc fun o ho e he hb => hc i o hi ho e he hb

theorem testBit_shift (a j : Nat) : (Nat.shiftLeft 1 a).testBit j = decide (a = j) := by
  show (1 <<< a).testBit j = _
  rw [Nat.one_shiftLeft, Nat.testBit_two_pow]
theorem dmask_is {acc : List Nat} {j : Nat} : ∀ {es : List Edge}, (dmask acc es).testBit j = true → ∃ e ∈ es, Region.binds .any e = true ∧ (e.on = j ∨ (acc.getD e.on 0).testBit j = true)
  | [], h => by simp [dmask] at h
  | e :: es, h => by
    unfold dmask at h
    split at h
    · rename_i hb
      have h' : ((Nat.shiftLeft 1 e.on ||| acc.getD e.on 0) ||| dmask acc es).testBit j = true := h
      rw [Nat.testBit_or, Nat.testBit_or, testBit_shift, Bool.or_eq_true, Bool.or_eq_true, decide_eq_true_eq] at h'
      rcases h' with h1 | h1
      · exact ⟨e, by simp, hb, h1⟩
      · obtain ⟨e', he, h2⟩ := dmask_is h1
        exact ⟨e', by simp [he], h2⟩
    · obtain ⟨e', he, h2⟩ := dmask_is h
      exact ⟨e', by simp [he], h2⟩
theorem dmasks_is : ∀ (l : List Oper) (acc : List Nat), (∀ k, l[k]? = ops[acc.length + k]?) → (∀ i j, i < acc.length → (acc.getD i 0).testBit j = true → Pre ops i j) →
    (dmasks l acc).length = acc.length + l.length ∧ ∀ i j, i < acc.length + l.length → ((dmasks l acc).getD i 0).testBit j = true → Pre ops i j
  | [], acc, _, h => ⟨rfl, h⟩
  | o :: l, acc, hl, h => by
    have ho : ops[acc.length]? = some o := by have := hl 0; simpa using this.symm
    obtain ⟨k1, k2⟩ := dmasks_is l (acc ++ [dmask acc o.after.toList]) (fun k => by
      have := hl (k + 1)
      rw [List.length_append, List.length_singleton, show acc.length + 1 + k = acc.length + (k + 1) by omega, ← this]; simp) (fun i j hi hb => by
      rw [List.length_append, List.length_singleton] at hi
      by_cases hi2 : i < acc.length
      · refine h i j hi2 ?_
        rw [List.getD_eq_getElem?_getD, List.getElem?_append_left hi2] at hb
        rw [List.getD_eq_getElem?_getD]; exact hb
      · obtain rfl : i = acc.length := by omega
        rw [List.getD_eq_getElem?_getD, List.getElem?_append_right (Nat.le_refl _)] at hb
        simp only [Nat.sub_self, List.getElem?_cons_zero, Option.getD_some] at hb
        obtain ⟨e, he, hbd, hx⟩ := dmask_is hb
        intro S hc hr
        have hon := hr o ho e (by simpa using he) hbd
        rcases hx with rfl | hx
        · exact hon
        · by_cases hel : e.on < acc.length
          · exact (h e.on j hel hx).closed hc hon
          · rw [List.getD_eq_getElem?_getD, List.getElem?_eq_none (by omega)] at hx
            simp at hx)
    unfold dmasks
    rw [List.length_append, List.length_singleton] at k1 k2
    exact ⟨by rw [k1]; simp; omega, fun i j hi => k2 i j (by simp at hi; omega)⟩

theorem dfull_is {k m j : Nat} (h : dfull k m = true) (hj : j < m) : k.testBit j = true := by
  have h1 : k &&& (2 ^ m - 1) = 2 ^ m - 1 := Nat.eq_of_beq_eq_true h
  have h2 := congrArg (fun x => Nat.testBit x j) h1
  simp only [Nat.testBit_and, Nat.testBit_two_pow_sub_one, hj, decide_true, Bool.and_true] at h2
  exact h2

structure StFacts (ops : Array Oper) (s m : Nat) : Prop where
  le : s ≤ m
  sz : m ≤ ops.size
  back : ∀ i o, ops[i]? = some o → ∀ e ∈ o.after, Region.binds .any e = true → e.on < i
  later : ∀ i j, m ≤ i → i < ops.size → j < m → Pre ops i j
def Apart (ops : Array Oper) (s m : Nat) : Prop := ∀ i o j p d, s ≤ i → i < m → s ≤ j → j < m → ops[i]? = some o → ops[j]? = some p → p.dst = some d →
  j = i ∨ (d ∉ looks ops o ∧ o.dst ≠ some d) ∨ (j < i ∧ Pre ops i j) ∨ (¬ j < i ∧ Pre ops j i)
def InText (ops : Array Oper) (s m : Nat) : Prop := ∀ i j, s ≤ i → i < m → j < i → Pre ops i j

theorem dback_is : ∀ (l : List Oper) (s : Nat), (∀ k, l[k]? = ops[s + k]?) → dback l s = true → ∀ i o, s ≤ i → ops[i]? = some o → ∀ e ∈ o.after, Region.binds .any e = true → e.on < i
  | [], s, hl, _, i, o, hi, ho, e, he, hb => by
    have := hl (i - s)
    rw [show s + (i - s) = i by omega, ho] at this
    simp at this
  | p :: l, s, hl, h, i, o, hi, ho, e, he, hb => by
    simp only [dback, Bool.and_eq_true, List.all_eq_true] at h
    by_cases hs : i = s
    · subst hs
      have : ops[i]? = some p := by have := hl 0; simpa using this.symm
      rw [ho] at this; cases this
      have := h.1 e (by simpa using he)
      rw [hb] at this
      simp only [Bool.not_true, Bool.false_or] at this
      simpa [Nat.blt_eq] using this
    · exact dback_is l (s + 1) (fun k => by have := hl (k + 1); rw [show s + 1 + k = s + (k + 1) by omega, ← this]; simp) h.2 i o (by omega) ho e he hb

theorem logRow_is {ms : List Nat} {i : Nat} {ri : Option (List Nat)} {wi : Option Nat} : ∀ {l : ALog} {s : Nat}, logRow ms i ri wi l s = true → ∀ k q, l[k]? = some q → logPair ms i (s + k) ri wi q.2 = true
  | [], s, _, k, q, hk => by simp at hk
  | (r, w) :: l, s, h, k, q, hk => by
    simp only [logRow, Bool.and_eq_true] at h
    cases k with
    | zero => simp at hk; subst hk; exact h.1
    | succ k => rw [show s + (k + 1) = s + 1 + k by omega]; exact logRow_is h.2 k q (by simpa using hk)
theorem logRows_is {ms : List Nat} {all : ALog} {s : Nat} : ∀ {l : ALog} {i : Nat}, logRows ms all s l i = true → ∀ k q, l[k]? = some q → logRow ms (i + k) q.1 q.2 all s = true
  | [], i, _, k, q, hk => by simp at hk
  | (r, w) :: l, i, h, k, q, hk => by
    simp only [logRows, Bool.and_eq_true] at h
    cases k with
    | zero => simp at hk; subst hk; exact h.1
    | succ k => rw [show i + (k + 1) = i + 1 + k by omega]; exact logRows_is h.2 k q (by simpa using hk)
theorem hasPut_no : ∀ {l : ALog}, hasPut l = false → ∀ (k : Nat) (q : Option (List Nat) × Option Nat), l[k]? = some q → q.2 = none
  | [], _, k, q, hk => by simp at hk
  | (r, some w) :: l, h, k, q, hk => by cases h
  | (r, none) :: l, h, k, q, hk => by
    cases k with
    | zero => simp at hk; subst hk; rfl
    | succ k => exact hasPut_no (l := l) h k q (by simpa using hk)
/-- What the log says: what sets a name comes ahead of or behind all that reads or sets it. -/
theorem logOk_is {b : Nat → AEff} {rd : Nat → Option (List Nat)} {s m : Nat} (hm : m ≤ ops.size) (h : logOk ops s (logAt b rd s (m - s)) = true) :
    ∀ i j id blk, s ≤ i → i < m → s ≤ j → j < m → b j = .put id blk → ((∀ l, rd i = some l → id ∈ l) ∨ ∃ blk', b i = .put id blk') → j = i ∨ (j < i ∧ Pre ops i j) ∨ (i < j ∧ Pre ops j i) := by
  obtain ⟨k1, k2⟩ := dmasks_is (ops := ops) ops.toList [] (fun k => by simp) (fun i j hi => by simp at hi)
  unfold logOk at h
  generalize dmasks ops.toList [] = ms at h k1 k2
  simp only [List.length_nil, Nat.zero_add, Array.length_toList] at k1 k2
  intro i j id blk hi1 hi2 hj1 hj2 hb hc
  have hget : ∀ k, s ≤ k → k < m → (logAt b rd s (m - s))[k - s]? = some (rd k, effId (b k)) := fun k h1 h2 => by
    simp only [logAt, List.getElem?_map]
    rw [List.getElem?_range' (by omega)]
    simp [show s + (k - s) = k by omega]
  simp only [Bool.or_eq_true, Bool.not_eq_true'] at h
  rcases h with h | h
  · have := hasPut_no h _ _ (hget j hj1 hj2)
    rw [hb] at this
    simp [effId] at this
  · have h1 := logRows_is h _ _ (hget i hi1 hi2)
    rw [show s + (i - s) = i by omega] at h1
    have h2 := logRow_is h1 _ _ (hget j hj1 hj2)
    rw [show s + (j - s) = j by omega] at h2
    simp only [hb, effId, logPair, Bool.or_eq_true, Bool.not_eq_true'] at h2
    rcases h2 with h2 | h2 | h2
    · exact .inl (Nat.eq_of_beq_eq_true h2).symm
    · unfold dord at h2
      split at h2
      · rename_i hlt; exact .inr (.inl ⟨by simpa [Nat.blt_eq] using hlt, k2 i j (by omega) h2⟩)
      · rename_i hlt
        by_cases e : j = i
        · exact .inl e
        · refine .inr (.inr ⟨?_, k2 j i (by omega) h2⟩)
          rcases Nat.lt_or_ge i j with h5 | h5
          · exact h5
          · rw [show Nat.blt j i = true by simp [Nat.blt_eq]; omega] at hlt; cases hlt
    · exfalso
      rw [Bool.or_eq_false_iff] at h2
      rcases hc with hc | ⟨blk', hc⟩
      · have h3 := h2.1
        split at h3
        · cases h3
        · rename_i l hl
          have := hc l hl
          simp at h3
          exact h3 this
      · have h3 := h2.2
        rw [hc] at h3
        simp [effId] at h3

theorem stages_facts (hb : dback ops.toList 0 = true) {m : Nat} {b : Bool} {l : List (Nat × Bool)} {s : Nat} (h : dstages ops (dmasks ops.toList []) ((m, b) :: l) s = true) :
    StFacts ops s m ∧ (b = true → Apart ops s m) ∧ (b = false → InText ops s m) ∧ dstages ops (dmasks ops.toList []) l m = true := by
  obtain ⟨k1, k2⟩ := dmasks_is (ops := ops) ops.toList [] (fun k => by simp) (fun i j hi => by simp at hi)
  generalize hms : dmasks ops.toList [] = ms at h k1 k2
  simp only [List.length_nil, Nat.zero_add, Array.length_toList] at k1 k2
  simp only [dstages, Bool.and_eq_true] at h
  obtain ⟨⟨h1, h2⟩, h3, h4, h5⟩ := h
  refine ⟨⟨Nat.le_of_ble_eq_true h1, Nat.le_of_ble_eq_true h2, fun i o ho => dback_is ops.toList 0 (fun k => by simp) hb i o (Nat.zero_le _) ho, fun i j hi hlt hj => ?_⟩, fun e => ?_, fun e => ?_, h5⟩
  · refine k2 i j hlt ?_
    simp only [dlater, List.all_eq_true] at h3
    refine dfull_is (h3 (ms.getD i 0) ?_) hj
    rw [List.getD_eq_getElem?_getD, List.getElem?_eq_getElem (by omega), Option.getD_some]
    refine List.mem_of_getElem? (i := i - m) ?_
    rw [List.getElem?_drop, show m + (i - m) = i by omega, List.getElem?_eq_getElem (by omega)]
  · subst e
    simp only [dopen, List.all_eq_true, List.mem_range'_1] at h4
    intro i o j p d hi1 hi2 hj1 hj2 ho hp hd
    have h6 := h4 i (by omega) j (by omega)
    simp only [dpair, ho, hp, hd, Bool.or_eq_true, Bool.and_eq_true, Bool.not_eq_true', bne_iff_ne, ne_eq] at h6
    have hisz : i < ops.size := (Array.getElem?_eq_some_iff.1 ho).1
    have hjsz : j < ops.size := (Array.getElem?_eq_some_iff.1 hp).1
    rcases h6 with h6 | ⟨h6, h7⟩ | h6
    · exact .inl (Nat.eq_of_beq_eq_true h6)
    · exact .inr (.inl ⟨fun hm => by simp at h6; exact h6 hm, h7⟩)
    · split at h6
      · rename_i hlt; exact .inr (.inr (.inl ⟨by simpa [Nat.blt_eq] using hlt, k2 i j hisz h6⟩))
      · rename_i hlt
        refine .inr (.inr (.inr ⟨fun hc => ?_, k2 j i hjsz h6⟩))
        rw [show Nat.blt j i = true by simpa [Nat.blt_eq] using hc] at hlt
        cases hlt
  · subst e
    simp only [dtext, List.all_eq_true, List.mem_range'_1] at h4
    intro i j hi1 hi2 hj
    have := Nat.le_of_ble_eq_true h2
    exact k2 i j (by omega) (dfull_is (h4 i (by omega)) hj)

theorem getD_tf {listed : Array Bool} {i : Nat} (hi : i < listed.size) : listed.getD i true = listed.getD i false := by simp [hi]

/-- Where nothing is left. -/
theorem lin_end {listed : Array Bool} (hl : ∀ i, i < ops.size → listed.getD i false = true) (hsz : listed.size = ops.size) (fuel t : Nat) : Region.linearise.go .any ops fuel t listed [] = [] := by
  have hnone : Region.ready .any ops listed = [] := by
    apply List.eq_nil_iff_forall_not_mem.2
    intro j hj
    obtain ⟨h1, o, ho, _⟩ := mem_ready.1 hj
    have hlt := (Array.getElem?_eq_some_iff.1 ho).1
    rw [getD_tf (by omega), hl j hlt] at h1
    cases h1
  cases fuel with
  | zero => simp [Region.linearise.go]
  | succ fuel =>
    simp only [Region.linearise.go]
    change (match (Region.ready .any ops listed)[t % (Region.ready .any ops listed).length]? with
      | some i => Region.linearise.go .any ops fuel (t / (Region.ready .any ops listed).length) (listed.setIfInBounds i true) [i]
      | none => [].reverse) = _
    rw [hnone]; simp

/-- A piece in the order of the text. -/
theorem lin_text {s m : Nat} (hf : StFacts ops s m) (ht : InText ops s m) : ∀ (d k fuel t : Nat) (listed : Array Bool), s ≤ k → k + d = m → ops.size - k ≤ fuel → listed.size = ops.size → (∀ i, i < ops.size → listed.getD i false = decide (i < k)) →
    ∃ fuel' t' listed', Region.linearise.go .any ops fuel t listed [] = List.range' k d ++ Region.linearise.go .any ops fuel' t' listed' [] ∧ ops.size - m ≤ fuel' ∧ listed'.size = ops.size ∧ ∀ i, i < ops.size → listed'.getD i false = decide (i < m) := by
  intro d
  induction d with
  | zero =>
    intro k fuel t listed hm hk hfu hsz hl
    obtain rfl : k = m := by omega
    exact ⟨fuel, t, listed, by simp, hfu, hsz, hl⟩
  | succ d ih =>
    intro k fuel t listed hm hk hfu hsz hl
    have hsm := hf.sz
    obtain ⟨fuel, rfl⟩ : ∃ f, fuel = f + 1 := ⟨fuel - 1, by omega⟩
    have hkl : k < ops.size := by omega
    have hS : ∀ i, listed.getD i false = decide (i < k) := fun i => by
      by_cases h : i < ops.size
      · exact hl i h
      · have : ¬ i < k := by omega
        simp [this, show ¬ i < listed.size by omega]
    have hclosed : Closed ops (fun i => listed.getD i false) := fun i o hi ho e he hb => by
      simp only [hS, decide_eq_true_eq] at hi ⊢
      have := hf.back i o ho e he hb; omega
    have hall : ∀ j ∈ Region.ready .any ops listed, j = k := fun j hj => by
      obtain ⟨h1, o, ho, h2⟩ := mem_ready.1 hj
      have hlt := (Array.getElem?_eq_some_iff.1 ho).1
      rw [getD_tf (by omega), hS] at h1
      have hge : k ≤ j := by simpa using h1
      by_cases h : j = k
      · exact h
      · have hpre : Pre ops j k := by
          by_cases hjm : j < m
          · exact ht j k (by omega) hjm (by omega)
          · exact hf.later j k (by omega) hlt (by omega)
        have := hpre.ready hclosed ho h2
        simp only [hS] at this
        simp at this
    have hk2 : k ∈ Region.ready .any ops listed := by
      refine mem_ready.2 ⟨by rw [getD_tf (by omega), hS]; simp, ops[k], by simp [hkl], fun e he hb => ?_⟩
      have := hf.back k ops[k] (by simp [hkl]) e he hb
      rw [hS]; simpa using this
    simp only [Region.linearise.go]
    change ∃ fuel' t' listed', (match (Region.ready .any ops listed)[t % (Region.ready .any ops listed).length]? with
      | some i => Region.linearise.go .any ops fuel (t / (Region.ready .any ops listed).length) (listed.setIfInBounds i true) [i]
      | none => [].reverse) = _ ∧ _
    have hpos : 0 < (Region.ready .any ops listed).length := List.length_pos_of_mem hk2
    have hlt := Nat.mod_lt t hpos
    rw [List.getElem?_eq_getElem hlt]
    have he := hall _ (List.getElem_mem hlt)
    rw [he]
    simp only
    rw [linearise_go_acc, List.range'_succ]
    simp only [List.reverse_singleton, List.singleton_append, List.cons_append, List.cons.injEq, true_and]
    refine ih (k + 1) fuel _ _ (by omega) (by omega) (by omega) (by simp [hsz]) fun i hi => ?_
    by_cases h : i = k
    · subst h; simp [show i < listed.size by omega]
    · rw [getD_set_ne false (fun e => h e.symm), hS]
      by_cases h2 : i < k
      · simp [h2, show i < k + 1 by omega]
      · simp [h2, show ¬ i < k + 1 by omega]

theorem filter_lt {p q : Nat → Bool} : ∀ {l : List Nat}, (∀ x, q x = true → p x = true) → (∃ i ∈ l, p i = true ∧ q i = false) → (l.filter q).length < (l.filter p).length
  | [], _, ⟨i, h, _⟩ => by cases h
  | x :: l, h, ⟨i, hi, h1, h2⟩ => by
    have hle : ∀ l : List Nat, (l.filter q).length ≤ (l.filter p).length := by
      intro l
      induction l with
      | nil => simp
      | cons y l ih =>
        simp only [List.filter_cons]
        by_cases hq : q y = true
        · simp [hq, h y hq, ih]
        · simp only [hq, Bool.false_eq_true, if_false]
          split
          · simp; omega
          · exact ih
    rcases List.mem_cons.1 hi with rfl | hm
    · simp only [List.filter_cons, h1, h2, if_true, Bool.false_eq_true, if_false, List.length_cons]
      have := hle l; omega
    · have ih := filter_lt h ⟨i, hm, h1, h2⟩
      simp only [List.filter_cons]
      by_cases hq : q x = true
      · simp [hq, h x hq]; exact ih
      · simp only [hq, Bool.false_eq_true, if_false]
        split
        · simp; omega
        · exact ih
end
end Go.Zk
