/- Functions over abstract values. Conditions: none. Pure views of named memory, and pure calls. Conditions: none. Contracts of functions: pure ones, and over named memory. Conditions: none. A range over a function: its rounds. Conditions: none. -/
import Derived.Test.YtiplcbpocpgbbaaGreatDoorA06
set_option linter.unusedSimpArgs false
set_option linter.unusedVariables false
namespace Go.Zk

def argFr (args : List AV) : AFr := fun i => args.getD i (.tuple [])

def aresOne (E : Env) (fr : AFr) (H : AHeap) : ResultVar → Option AV
  | .tmp t => some (fr t)
  | .cell a t => aload E.P t H (fr a)
def aresL (E : Env) (fr : AFr) (H : AHeap) : List ResultVar → Option (List AV)
  | [] => some []
  | x :: l => match aresOne E fr H x, aresL E fr H l with
    | some v, some vs => some (v :: vs)
    | _, _ => none
def aresOf : List AV → AV
  | [v] => v
  | vs => .tuple vs
def ARes (E : Env) (rs : List ResultVar) (fr : AFr) (H : AHeap) (Post : AR → AHeap → Prop) : Prop :=
  match aresL E fr H rs with
  | some vs => Post (.ret (aresOf vs)) H
  | none => False
def ABodyQ (E : Env) (rs : List ResultVar) (Post : AR → AHeap → Prop) : AExit → AFr → AHeap → Prop
  | .normal, fr, H => ARes E rs fr H Post
  | .ret, fr, H => ARes E rs fr H Post
  | .panic v, _, H => Post (.panic v) H
  | _, _, _ => False
/-- What the body of a function comes to. -/
def ABody (E : Env) (n : Nat) (rs : List ResultVar) (c : Code) (args : List AV) (H : AHeap) (Post : AR → AHeap → Prop) : Prop :=
  AWp E n c (ABodyQ E rs Post) (argFr args) H

section
variable {E : Env} {B z : Nat} {C : Ctx} {H : AHeap} {w : World} {P : Program} {r : Option Nat} {n : Nat} {fr : AFr} {a : Act}

theorem rowAt_ptr {p : AV} {q : List AV × Nat} {v : Value} (h : rowAt H p = some q) (hv : VRel C p v) : ∃ ad, v = .pointer (some ad) := by
  cases p <;> simp [rowAt] at h <;> simp only [VRel] at hv
  · obtain ⟨b, o, _, e⟩ := hv; exact ⟨_, e⟩
  · obtain ⟨ad, e, _⟩ := hv; exact ⟨_, e⟩

def resOne (tmps : Array Value) : ResultVar → Sem Value
  | .tmp t => pure (tmps.getD t undef)
  | .cell a t => do loadVar t (← asAddr (tmps.getD a undef))
theorem results_eq (fn : Func) (tmps : Array Value) : results fn tmps = (do let vs ← fn.results.mapM (resOne tmps); pure (if h : vs.size = 1 then vs[0] else .tuple vs)) := by
  unfold results
  congr 2

theorem aresOne_ok (h : HRead E C H w) {tmps : Array Value} (hf : FrRel C fr tmps) {x : ResultVar} {av : AV} (ha : aresOne E fr H x = some av) :
    ∃ u, (resOne tmps x).run E.P w = .ok u w ∧ VRel C av u := by
  cases x with
  | tmp t => simp only [aresOne, Option.some.injEq] at ha; subst ha; exact ⟨_, by simp [resOne, Sem.run_pure], hf t⟩
  | cell a t =>
    simp only [aresOne] at ha
    obtain ⟨u, k1, k2⟩ := aload_ok h (hf a) ha
    have hp : ∃ q, rowAt H (fr a) = some q := by
      unfold aload at ha
      split at ha
      · exact ⟨_, by assumption⟩
      · cases ha
    obtain ⟨q, hq⟩ := hp
    obtain ⟨ad, e⟩ := rowAt_ptr hq (hf a)
    refine ⟨u, ?_, k2⟩
    simp only [resOne]
    rw [e] at k1 ⊢
    simpa [Instr.loadAt, Instr.sureAddr, asAddr] using k1

theorem aresL_ok (h : HRead E C H w) {tmps : Array Value} (hf : FrRel C fr tmps) : ∀ {l : List ResultVar} {vs : List AV}, aresL E fr H l = some vs →
    ∃ us, (l.mapM (resOne tmps)).run E.P w = .ok us w ∧ VsRel C vs us
  | [], vs, ha => by
    simp only [aresL, Option.some.injEq] at ha; subst ha
    exact ⟨[], by simp [Sem.run_pure], VsRel.nil⟩
  | x :: l, vs, ha => by
    simp only [aresL] at ha
    split at ha
    · rename_i v vs' h1 h2
      simp only [Option.some.injEq] at ha; subst ha
      obtain ⟨u, k1, k2⟩ := aresOne_ok h hf h1
      obtain ⟨us, k3, k4⟩ := aresL_ok h hf h2
      refine ⟨u :: us, ?_, VsRel.cons k2 k4⟩
      rw [List.mapM_cons]
      simp only [Sem.run_bind, k1, Result.andThen, k3, Sem.run_pure]
    · cases ha

theorem results_ok {fn : Func} (h : HRead E C H w) {tmps : Array Value} (hf : FrRel C fr tmps) {vs : List AV} (ha : aresL E fr H fn.results.toList = some vs) :
    ∃ u, (results fn tmps).run E.P w = .ok u w ∧ VRel C (aresOf vs) u := by
  obtain ⟨us, k1, k2⟩ := aresL_ok h hf ha
  have hlen := VsRel.length k2
  refine ⟨if h : us.toArray.size = 1 then us.toArray[0] else .tuple us.toArray, ?_, ?_⟩
  · rw [results_eq, Array.mapM_eq_mapM_toList]
    simp only [Sem.run_bind, Sem.run_map, k1, Result.andThen, Sem.run_pure]
  · match us, vs, k2 with
    | [], [], _ => simp only [aresOf, VRel]; exact ⟨#[], by simp, VsRel.nil⟩
    | [u], [v], k => simpa [aresOf] using k.1
    | u :: u2 :: us, v :: v2 :: vs, k => simp only [aresOf, VRel]; exact ⟨(u :: u2 :: us).toArray, by simp, k⟩

/-- Ahead of its results a function lets go of the marks of its ranges over functions. -/
theorem unwind_ok {fn : Func} {C : Ctx} {H : AHeap} : ∀ (bs : List Nat) (w : World) (fr : Frame) (cs : List Frame), fr.mode ≠ .run → fr.defers = bs.map (fun b => { target := .collected b, args := #[] }) → bs.Nodup →
    (∀ b ∈ bs, z ≤ b ∧ w.heap[b]? = some (.deferred (some []))) → HSim E B C H w →
    ∃ w' C', Steps E.P (lone fr cs w) (lone { fr with defers := [] } cs w') ∧ C.le C' ∧ (∀ b, C'.I b → C.I b) ∧ HSim E B C' H w' ∧ (∀ k, k ∉ bs → w'.heap[k]? = w.heap[k]?) ∧ w'.heap.size = w.heap.size ∧ w'.os = w.os ∧ w'.tape = w.tape ∧ w'.output = w.output
  | [], w, fr, cs, hm, hd, _, _, hs => ⟨w, C, by
      have : ({ fr with defers := [] } : Frame) = fr := by cases fr; simp at hd; subst hd; rfl
      rw [this]; exact .refl _ _, .refl _, fun _ h => h, hs, fun _ _ => rfl, rfl, rfl, rfl, rfl⟩
  | b :: bs, w, fr, cs, hm, hd, hnd, hb, hs => by
    obtain ⟨hb1, hb2⟩ := hb b (by simp)
    have hlt : b < w.heap.size := (Array.getElem?_eq_some_iff.1 hb2).1
    have hstep := step_collected (P := E.P) (cs := cs) hm (d := { target := .collected b, args := #[] }) (ds := bs.map (fun b => { target := .collected b, args := #[] })) (by simpa using hd) rfl (run_takeDeferred hb2)
    have hother : ∀ k, k ≠ b → (w.putObj b (.deferred none)).heap[k]? = w.heap[k]? := fun k hk => World.putObj_heap_other hk
    have hnI : ¬ C.I b := fun hI => hs.nd b _ hI (by rw [hs.heap]; exact hb2)
    have hle : C.le { C with heap := (w.putObj b (.deferred none)).heap } := by
      refine ⟨fun _ h => h, fun _ _ h => h, fun k hk => ?_, fun k n hr => ?_⟩
      · rw [hs.heap]; exact hother k (fun e => hnI (e ▸ hk))
      · obtain ⟨c, x, f, k1, k2⟩ := hr
        rw [hs.heap] at k1
        have hk : k ≠ b := fun e => by subst e; rw [hb2] at k1; cases k1
        exact ⟨c, x, f, (hother k hk).trans k1, k2⟩
    have hs' : HSim E B { C with heap := (w.putObj b (.deferred none)).heap } H (w.putObj b (.deferred none)) := by
      refine ⟨rfl, by have := hs.base; simp; exact this, fun k hk => by have := hs.lt k hk; simp; exact this, hs.fresh, hs.dead, fun i hi hdi => ?_, hs.inj, fun g cells hg => (hs.glob g cells hg).mono hle _ _ _, fun x ds hx e => hs.nd x ds hx (by rw [hs.heap, ← hother x (fun e2 => hnI (e2 ▸ hx))]; exact e)⟩
      obtain ⟨bi, oi, k1, k2, k3, k4, k5⟩ := hs.blk i hi hdi
      refine ⟨bi, oi, k1, k2, by simp; exact k3, k4, k5.mono hle ?_⟩
      show (w.putObj b (.deferred none)).heap[bi]? = _
      rw [hs.heap]
      refine hother bi fun e => ?_
      subst e
      rw [← hs.heap] at hb2
      generalize H.get i = ab at hdi k5
      cases ab with
      | dead => exact hdi rfl
      | row cells => obtain ⟨c, e, f, q, _⟩ := k5; rw [hb2] at q; cases q
      | map ks vs => obtain ⟨_, es, clock, q, _⟩ := k5; rw [hb2] at q; cases q
      | sit s pos => obtain ⟨_, q⟩ := k5; rw [hb2] at q; cases q
      | loop l => obtain ⟨_, r, q, _⟩ := k5; rw [hb2] at q; cases q
    have hnd' := List.nodup_cons.1 hnd
    obtain ⟨w', C', q1, q2, q3, q4, q5, q6, q7, q8, q9⟩ := unwind_ok (fn := fn) bs (w.putObj b (.deferred none)) { fr with defers := [] ++ bs.map (fun b => { target := .collected b, args := #[] }) } cs hm rfl hnd'.2
      (fun k hk => ⟨(hb k (by simp [hk])).1, by rw [hother k (fun e => hnd'.1 (e ▸ hk))]; exact (hb k (by simp [hk])).2⟩) hs'
    refine ⟨w', C', .head hstep q1, hle.trans q2, fun b hb => q3 b hb, q4, fun k hk => ?_, by rw [q6]; simp, q7, q8, q9⟩
    simp only [List.mem_cons, not_or] at hk
    rw [q5 k hk.2, hother k hk.1]

theorem argFr_rel {args : List AV} {vs : List Value} (h : VsRel C args vs) (hn : args.length ≤ n) :
    FrRel C (argFr args) (vs.toArray ++ Array.replicate (n - vs.toArray.size) undef) ∧ (vs.toArray ++ Array.replicate (n - vs.toArray.size) undef).size = n := by
  have hlen := VsRel.length h
  refine ⟨fun i => ?_, by simp; omega⟩
  simp only [argFr, Array.getD_eq_getD_getElem?, List.getD_eq_getElem?_getD]
  rw [Array.getElem?_append]
  by_cases hi : i < vs.length
  · simp only [List.size_toArray, hi, if_true, List.getElem?_toArray]
    obtain ⟨v, h1, h2⟩ := h.get i (args[i]'(by omega)) (by simp [show i < args.length by omega])
    rw [h1]
    simp [show i < args.length by omega]
    exact h2
  · simp only [List.size_toArray, hi, if_false, Array.getElem?_replicate]
    rw [List.getElem?_eq_none (by omega)]
    have hu : VRel C (.tuple []) undef := by simp only [VRel]; exact ⟨#[], rfl, VsRel.nil⟩
    split
    · simpa using hu
    · simpa using hu

theorem acalls_of_body (hm : E.P.follows .mixedOrders = true) {f : FuncId} {fn : Func} {c : Code} {args : List AV} {Post : AR → AHeap → Prop} (hf : E.P.funcs[f]? = some fn) (hb : fn.body = some c) {rs : List ResultVar} (hr : fn.results.toList = rs)
    (hn : fn.ntmps = n) (hn2 : args.length ≤ n) (h : ABody E n rs c args H Post) : ACalls E f args H Post := by
  subst hr hn
  intro B C w vs hs hv
  intro cs
  let b : Frame := { (default : Frame) with fn := f, kind := .normal, roundOf := none }
  have henter : Frame.enter E.P f vs.toArray .normal = b.atR { tmps := vs.toArray ++ Array.replicate (fn.ntmps - vs.toArray.size) undef, defers := [] } [.code c] := by
    simp [Frame.enter, Frame.atR, hf, hb, b]
  obtain ⟨p1, p2⟩ := argFr_rel hv hn2
  have hst : St E B w.heap.size none fn.ntmps C (argFr args) H { tmps := vs.toArray ++ Array.replicate (fn.ntmps - vs.toArray.size) undef, defers := [] } w :=
    ⟨hs, p2, p1, ⟨Nat.le_refl _, [], rfl, List.nodup_nil, fun _ h => by cases h⟩, fun l e => by cases e⟩
  obtain ⟨e, a', w', ⟨ae, fr', H', C', q1, q2, q3, q4⟩, harr⟩ := awp_sound hm c _ h hst b [] cs rfl
  rw [← henter] at harr
  obtain ⟨hz, bs, hbs, hnd, hbk⟩ := q2.df
  -- what the marks let go of
  have fin : ∀ (u : FrameMode) (todo : List Item), u ≠ .run → ∃ w'' C'', Steps E.P (lone { b.atR a' todo with mode := u } cs w') (lone { b.atR a' todo with mode := u, defers := [] } cs w'') ∧ C'.le C'' ∧ HSim E B C'' H' w'' ∧ Nxt E B C C'' H' w w'' := by
    intro u todo hu
    obtain ⟨w'', C'', k1, k2, k3, k4, k5, k6, k7, k8, k9⟩ := unwind_ok (fn := fn) bs w' { b.atR a' todo with mode := u } cs hu hbs hnd hbk q2.hs
    refine ⟨w'', C'', k1, k2, k4, q3.le.trans k2, ?_, fun x hx => q3.I x (k3 x hx), k4⟩
    have hB : B ≤ w.heap.size := hs.base
    have hlow : ∀ k, k < w.heap.size → w''.heap[k]? = w'.heap[k]? := fun k hk => k5 k fun hm => by have := (hbk k hm).1; omega
    refine ⟨⟨k7.trans q3.ev.below.os, k8.trans q3.ev.below.tape, k9.trans q3.ev.below.output, by rw [k6]; exact q3.ev.below.size, fun k hk => ?_⟩, fun k ds hk => ?_, fun k r hk => ?_⟩
    · rw [hlow k (by omega)]; exact q3.ev.below.block k hk
    · rw [hlow k (Array.getElem?_eq_some_iff.1 hk).1]; exact q3.ev.dfr k ds hk
    · rw [hlow k (Array.getElem?_eq_some_iff.1 hk).1]; exact q3.ev.lp k r hk
  have ret : ∀ (todo : List Item), ARes E fn.results.toList fr' H' Post → Steps E.P (lone (Frame.enter E.P f vs.toArray .normal) cs w) (lone { b.atR a' todo with mode := .returning } cs w') →
      ∃ e w' fr, RPost E B C w Post e w' ∧ Comes E.P (lone (Frame.enter E.P f vs.toArray .normal) cs w) (lone fr cs w') e ∧ fr.fn = f ∧ fr.leaving E.P w' e := by
    intro todo hres hsteps
    unfold ARes at hres
    split at hres
    · rename_i rvs hrvs
      obtain ⟨w'', C'', k1, k2, k3, k4⟩ := fin .returning todo (by simp)
      obtain ⟨u, m1, m2⟩ := results_ok (fn := fn) (k3.read) (q2.fr.mono k2) hrvs
      exact ⟨.returned u, w'', _, ⟨C'', H', .ret _, m2, k4, hres⟩, Steps.trans hsteps k1, rfl, rfl, rfl, rfl, fn, hf, m1⟩
    · exact hres.elim
  cases e with
  | normal =>
    cases ae <;> (try exact q1.elim)
    exact ret [] q4 (Steps.trans harr (.one (stepR_end rfl)))
  | ret =>
    cases ae <;> (try exact q1.elim)
    obtain ⟨todo, hs0⟩ := harr
    exact ret (.code .ret :: todo) q4 (Steps.trans hs0 (.one (stepR_ret rfl)))
  | panic chain =>
    cases ae <;> (try exact q1.elim)
    obtain ⟨todo, hs0⟩ := harr
    obtain ⟨w'', C'', k1, k2, k3, k4⟩ := fin (.panicking chain) todo (by simp)
    obtain ⟨v, hv1, hv2⟩ := q1
    exact ⟨.panicked chain, w'', _, ⟨C'', H', .panic _, ⟨v, hv1, VRel.mono k2 _ _ hv2⟩, k4, q4⟩, Steps.trans hs0 k1, rfl, rfl, rfl, fn, hf⟩
  | exit id => cases ae <;> (first | exact q1.elim | exact q4.elim)
  | goto l => cases ae <;> (first | exact q1.elim | exact q4.elim)
  | outgrown => cases ae <;> exact q1.elim
end
end Go.Zk
namespace Go.Zk

mutual
/-- A value that leads to no memory. -/
def AV.flat : AV → Bool
  | .ptr _ _ | .msl _ _ _ _ _ | .map _ | .yield _ | .rptr _ _ | .sl _ _ _ | .rmap _ _ | .gmap _ _ => false
  | .func _ a b => AV.flats a && AV.flats b
  | .iface _ v => AV.flat v
  | .agg cs => AV.flats cs
  | .tuple vs => AV.flats vs
  | _ => true
def AV.flats : List AV → Bool
  | [] => true
  | v :: vs => AV.flat v && AV.flats vs
end

mutual
theorem VRel.flat {C D : Ctx} : ∀ (a : AV) (v : Value), a.flat = true → VRel C a v → VRel D a v
  | .any, _, _, _ => by simp [VRel]
  | .bool b, v, _, h1 => by simpa [VRel] using h1
  | .int k n, v, _, h1 => by simpa [VRel] using h1
  | .str s, v, _, h1 => by simpa [VRel] using h1
  | .nilp, v, _, h1 => by simpa [VRel] using h1
  | .ptr _ _, v, hp, _ => by simp [AV.flat] at hp
  | .rptr _ _, v, hp, _ => by simp [AV.flat] at hp
  | .nilsl, v, _, h1 => by simpa [VRel] using h1
  | .sl _ _ _, v, hp, _ => by simp [AV.flat] at hp
  | .msl _ _ _ _ _, v, hp, _ => by simp [AV.flat] at hp
  | .nilmap, v, _, h1 => by simpa [VRel] using h1
  | .map _, v, hp, _ => by simp [AV.flat] at hp
  | .rmap _ _, v, hp, _ => by simp [AV.flat] at hp
  | .gmap _ _, v, hp, _ => by simp [AV.flat] at hp
  | .func f first captured, v, hp, h1 => by
    simp only [AV.flat, Bool.and_eq_true] at hp
    simp only [VRel] at *
    obtain ⟨a, b, h2, h3, h4⟩ := h1
    exact ⟨a, b, h2, VsRel.flat _ _ hp.1 h3, VsRel.flat _ _ hp.2 h4⟩
  | .yield _, v, hp, _ => by simp [AV.flat] at hp
  | .nilfunc, v, _, h1 => by simpa [VRel] using h1
  | .iface t x, v, hp, h1 => by
    simp only [AV.flat] at hp
    simp only [VRel] at *
    obtain ⟨u, h2, h3⟩ := h1
    exact ⟨u, h2, VRel.flat _ _ hp h3⟩
  | .nilif, v, _, h1 => by simpa [VRel] using h1
  | .agg cs, v, hp, h1 => by
    simp only [AV.flat] at hp
    simp only [VRel] at *
    obtain ⟨vs, h2, h3, h4⟩ := h1
    exact ⟨vs, h2, VsRel.flat _ _ hp h3, h4⟩
  | .tuple vs, v, hp, h1 => by
    simp only [AV.flat] at hp
    simp only [VRel] at *
    obtain ⟨us, h2, h3⟩ := h1
    exact ⟨us, h2, VsRel.flat _ _ hp h3⟩
theorem VsRel.flat {C D : Ctx} : ∀ (l : List AV) (vs : List Value), AV.flats l = true → VsRel C l vs → VsRel D l vs
  | [], [], _, _ => by simp [VsRel]
  | [], _ :: _, _, h1 => by simp [VsRel] at h1
  | _ :: _, [], _, h1 => by simp [VsRel] at h1
  | c :: cs, v :: vs, hp, h1 => by
    simp only [AV.flats, Bool.and_eq_true] at hp
    simp only [VsRel] at *
    exact ⟨VRel.flat _ _ hp.1 h1.1, VsRel.flat _ _ hp.2 h1.2⟩
end

def P2 (R : AV → AV → Prop) (l m : List AV) : Prop := l.length = m.length ∧ ∀ (i : Nat) x y, l[i]? = some x → m[i]? = some y → R x y
theorem P2.nil {R : AV → AV → Prop} : P2 R [] [] := ⟨rfl, fun i x y h => by simp at h⟩
theorem P2.cons {R : AV → AV → Prop} {x y : AV} {l m : List AV} (h : R x y) (k : P2 R l m) : P2 R (x :: l) (y :: m) := by
  refine ⟨by simp [k.1], fun i a b ha hb => ?_⟩
  cases i with
  | zero => simp at ha hb; subst ha hb; exact h
  | succ i => simp at ha hb; exact k.2 i a b ha hb
theorem P2.tail {R : AV → AV → Prop} {x y : AV} {l m : List AV} (h : P2 R (x :: l) (y :: m)) : R x y ∧ P2 R l m :=
  ⟨h.2 0 x y rfl rfl, by have := h.1; simpa using this, fun i a b ha hb => h.2 (i + 1) a b (by simpa using ha) (by simpa using hb)⟩
theorem P2.refl {R : AV → AV → Prop} {l : List AV} (h : ∀ x ∈ l, R x x) : P2 R l l :=
  ⟨rfl, fun i x y hx hy => by rw [hx] at hy; cases hy; exact h x (List.mem_of_getElem? hx)⟩
theorem P2.map {α : Type} {R : AV → AV → Prop} {f g : α → AV} {l : List α} (h : ∀ x ∈ l, R (f x) (g x)) : P2 R (l.map f) (l.map g) :=
  ⟨by simp, fun i x y hx hy => by
    rw [List.getElem?_map] at hx hy
    cases hl : l[i]? with
    | none => rw [hl] at hx; cases hx
    | some a => rw [hl] at hx hy; simp at hx hy; subst hx hy; exact h a (List.mem_of_getElem? hl)⟩

/-- r is what v reads as, were all memory that H names to stay. -/
def Pur (H : AHeap) : Nat → AV → AV → Prop
  | 0, v, r => v.pur = true ∧ r = v
  | k + 1, v, r => (v.pur = true ∧ r = v) ∨ match v with
    | .ptr id off => ∃ cells cs, H.get id = .row cells ∧ P2 (Pur H k) cells cs ∧ r = .rptr cs off
    | .msl id off len esz tight => ∃ cells cs tg, H.get id = .row cells ∧ P2 (Pur H k) cells cs ∧ (tg = true → tight = true) ∧ r = .sl len tg ((cs.drop off).take (len * esz))
    | .nilsl => ∃ tg, r = .sl 0 tg []
    | .sl len tight cells => ∃ tg, (tg = true → tight = true) ∧ r = .sl len tg cells
    | .map id => ∃ ks vs ks' vs', H.get id = .map ks vs ∧ P2 (Pur H k) ks ks' ∧ P2 (Pur H k) vs vs' ∧ r = .rmap ks' vs'
    | .func f a b => ∃ a' b', P2 (Pur H k) a a' ∧ P2 (Pur H k) b b' ∧ r = .func f a' b'
    | .iface t x => ∃ x', Pur H k x x' ∧ r = .iface t x'
    | .agg cs => ∃ cs', P2 (Pur H k) cs cs' ∧ r = .agg cs'
    | .tuple cs => ∃ cs', P2 (Pur H k) cs cs' ∧ r = .tuple cs'
    | _ => False
theorem Pur.self {H : AHeap} {k : Nat} {v : AV} (h : v.pur = true) : Pur H k v v := by
  cases k with
  | zero => exact ⟨h, rfl⟩
  | succ k => exact .inl ⟨h, rfl⟩

/-- The same, of a value that leads to memory of H alone. -/
def PurF (H : AHeap) : Nat → AV → AV → Prop
  | 0, v, r => v.flat = true ∧ r = v
  | k + 1, v, r => (v.flat = true ∧ r = v) ∨ match v with
    | .ptr id off => ∃ cells cs, H.get id = .row cells ∧ P2 (PurF H k) cells cs ∧ r = .rptr cs off
    | .msl id off len esz tight => ∃ cells cs, H.get id = .row cells ∧ P2 (PurF H k) cells cs ∧ r = .sl len tight ((cs.drop off).take (len * esz))
    | .map id => ∃ ks vs ks' vs', H.get id = .map ks vs ∧ P2 (PurF H k) ks ks' ∧ P2 (PurF H k) vs vs' ∧ r = .rmap ks' vs'
    | .func f a b => ∃ a' b', P2 (PurF H k) a a' ∧ P2 (PurF H k) b b' ∧ r = .func f a' b'
    | .iface t x => ∃ x', PurF H k x x' ∧ r = .iface t x'
    | .agg cs => ∃ cs', P2 (PurF H k) cs cs' ∧ r = .agg cs'
    | .tuple cs => ∃ cs', P2 (PurF H k) cs cs' ∧ r = .tuple cs'
    | _ => False
theorem PurF.self {H : AHeap} {k : Nat} {v : AV} (h : v.flat = true) : PurF H k v v := by
  cases k with
  | zero => exact ⟨h, rfl⟩
  | succ k => exact .inl ⟨h, rfl⟩

/-- The blocks of memory that H names. -/
def Nm (C : Ctx) (H : AHeap) (b : Nat) : Prop := ∃ i o, C.al i = some (b, o) ∧ ((∃ cells, H.get i = .row cells) ∨ ∃ ks vs, H.get i = .map ks vs)
def Ctx.still (C : Ctx) (H : AHeap) : Ctx := ⟨fun b => C.I b ∨ Nm C H b, fun _ => none, C.heap⟩

section
variable {E : Env} {B z : Nat} {C : Ctx} {H : AHeap} {w : World} {P : Program} {r : Option Nat} {n : Nat} {fr : AFr} {a : Act}

theorem Ctx.noal_still : C.noal.le (C.still H) := ⟨fun _ h => .inl h, fun _ _ e => by simp [Ctx.noal] at e, fun _ _ => rfl, fun _ _ h => h⟩

theorem VsRel.p2 {D : Ctx} {R : AV → AV → Prop} (hR : ∀ x y v, R x y → VRel C x v → VRel D y v) : ∀ {l m : List AV} {vs : List Value}, P2 R l m → VsRel C l vs → VsRel D m vs
  | [], [], [], _, _ => VsRel.nil
  | [], [], _ :: _, _, h => by simp [VsRel] at h
  | [], _ :: _, _, h, _ => by have := h.1; simp at this
  | _ :: _, [], _, h, _ => by have := h.1; simp at this
  | _ :: _, _ :: _, [], _, h => by simp [VsRel] at h
  | x :: l, y :: m, v :: vs, h, k => by
    simp only [VsRel] at k
    exact VsRel.cons (hR x y v h.tail.1 k.1) (VsRel.p2 hR h.tail.2 k.2)

theorem still_cells (h : HRead E C H w) {k : Nat} (hR : ∀ x y v, Pur H k x y → VRel C x v → VRel (C.still H) y v) {i b o : Nat} {cells cs : List AV} (ha : C.al i = some (b, o)) (hg : H.get i = .row cells)
    (hp : P2 (Pur H k) cells cs) : CellsAt (C.still H) ⟨b, o, none⟩ 0 cs := by
  have hb := h.blk i b o ha (by rw [hg]; exact fun e => by cases e)
  rw [hg] at hb
  obtain ⟨c, e, f, k1, k2, k3, k4⟩ := hb
  refine CellsAt.of_get fun j y hj => ?_
  have hlt : j < cells.length := by rw [hp.1]; exact (List.getElem?_eq_some_iff.1 hj).1
  obtain ⟨v, m1, m2, m3⟩ := k4 j cells[j] (by simp [hlt])
  refine ⟨v, .inr ⟨i, o, ha, .inl ⟨cells, hg⟩⟩, ?_, m2, ?_⟩
  · rw [Addr.add_none]
    simp only [Ctx.cell?, Ctx.still, k1, Nat.zero_add]
    exact m1
  · exact hR _ _ _ (hp.2 j cells[j] y (by simp [hlt]) hj) m3

theorem pur_rel (h : HRead E C H w) : ∀ (k : Nat) (x y : AV) (v : Value), Pur H k x y → VRel C x v → VRel (C.still H) y v
  | 0, x, y, v, hp, hv => by
    obtain ⟨h1, rfl⟩ := hp
    exact VRel.pure Ctx.noal_still _ _ h1 hv
  | k + 1, x, y, v, hp, hv => by
    have ih := pur_rel h k
    rcases hp with ⟨h1, rfl⟩ | hp
    · exact VRel.pure Ctx.noal_still _ _ h1 hv
    · cases x with
      | ptr id off =>
        obtain ⟨cells, cs, h1, h2, rfl⟩ := hp
        simp only [VRel] at hv ⊢
        obtain ⟨b, o, k1, k2⟩ := hv
        exact ⟨⟨b, o, none⟩, by rw [k2, Addr.add_none], still_cells h ih k1 h1 h2⟩
      | msl id off len esz tight =>
        obtain ⟨cells, cs, tg, h1, h2, h3, rfl⟩ := hp
        simp only [VRel] at hv ⊢
        obtain ⟨b, o, ad, cap, k1, k2, k3, k4, k5, k6⟩ := hv
        refine ⟨some ad, cap, k2, k3, fun e => k4 (h3 e), .inr ⟨ad, rfl, ?_⟩⟩
        rcases k5 with k5 | k5
        · have : len = 0 := by omega
          subst this; simp [CellsAt]
        · have := ((still_cells h ih k1 h1 h2).drop off).take (len * esz)
          rw [Addr.add_none] at this
          rw [k5]; exact this
      | map id =>
        obtain ⟨ks, vs, ks', vs', h1, h2, h3, rfl⟩ := hp
        simp only [VRel] at hv ⊢
        obtain ⟨b, k1, k2⟩ := hv
        have hb := h.blk id b 0 k1 (by rw [h1]; exact fun e => by cases e)
        rw [h1] at hb
        obtain ⟨_, es, clock, m1, m2, m3⟩ := hb
        exact ⟨b, es, clock, k2, .inr ⟨id, 0, k1, .inr ⟨ks, vs, h1⟩⟩, m1, VsRel.p2 ih h2 m2, VsRel.p2 ih h3 m3⟩
      | func f p q =>
        obtain ⟨p', q', h1, h2, rfl⟩ := hp
        simp only [VRel] at hv ⊢
        obtain ⟨u, t, k1, k2, k3⟩ := hv
        exact ⟨u, t, k1, VsRel.p2 ih h1 k2, VsRel.p2 ih h2 k3⟩
      | iface t x =>
        obtain ⟨x', h1, rfl⟩ := hp
        simp only [VRel] at hv ⊢
        obtain ⟨u, k1, k2⟩ := hv
        exact ⟨u, k1, ih _ _ _ h1 k2⟩
      | agg cs =>
        obtain ⟨cs', h1, rfl⟩ := hp
        simp only [VRel] at hv ⊢
        obtain ⟨u, k1, k2, k3⟩ := hv
        exact ⟨u, k1, VsRel.p2 ih h1 k2, k3⟩
      | tuple cs =>
        obtain ⟨cs', h1, rfl⟩ := hp
        simp only [VRel] at hv ⊢
        obtain ⟨u, k1, k2⟩ := hv
        exact ⟨u, k1, VsRel.p2 ih h1 k2⟩
      | nilsl =>
        obtain ⟨tg, rfl⟩ := hp
        simp only [VRel] at hv ⊢
        exact ⟨none, 0, hv, Nat.le_refl _, fun _ => rfl, .inl ⟨rfl, rfl, rfl⟩⟩
      | sl len tight cells =>
        obtain ⟨tg, h1, rfl⟩ := hp
        have hv' := VRel.pure (C := C) (D := C.still H) Ctx.noal_still (.sl len tight cells) v rfl hv
        simp only [VRel] at hv' ⊢
        obtain ⟨A, cap, k1, k2, k3, k4⟩ := hv'
        exact ⟨A, cap, k1, k2, fun e => k3 (h1 e), k4⟩
      | _ => exact hp.elim
def Ctx.named (C : Ctx) (H : AHeap) : Ctx := ⟨Nm C H, fun _ => none, C.heap⟩
theorem named_cells (h : HRead E C H w) {k : Nat} (hR : ∀ x y v, PurF H k x y → VRel C x v → VRel (C.named H) y v) {i b o : Nat} {cells cs : List AV} (ha : C.al i = some (b, o)) (hg : H.get i = .row cells)
    (hp : P2 (PurF H k) cells cs) : CellsAt (C.named H) ⟨b, o, none⟩ 0 cs := by
  have hb := h.blk i b o ha (by rw [hg]; exact fun e => by cases e)
  rw [hg] at hb
  obtain ⟨c, e, f, k1, k2, k3, k4⟩ := hb
  refine CellsAt.of_get fun j y hj => ?_
  have hlt : j < cells.length := by rw [hp.1]; exact (List.getElem?_eq_some_iff.1 hj).1
  obtain ⟨v, m1, m2, m3⟩ := k4 j cells[j] (by simp [hlt])
  refine ⟨v, ⟨i, o, ha, .inl ⟨cells, hg⟩⟩, ?_, m2, ?_⟩
  · rw [Addr.add_none]
    simp only [Ctx.cell?, Ctx.named, k1, Nat.zero_add]
    exact m1
  · exact hR _ _ _ (hp.2 j cells[j] y (by simp [hlt]) hj) m3

theorem purF_rel (h : HRead E C H w) : ∀ (k : Nat) (x y : AV) (v : Value), PurF H k x y → VRel C x v → VRel (C.named H) y v
  | 0, x, y, v, hp, hv => by
    obtain ⟨h1, rfl⟩ := hp
    exact VRel.flat _ _ h1 hv
  | k + 1, x, y, v, hp, hv => by
    have ih := purF_rel h k
    rcases hp with ⟨h1, rfl⟩ | hp
    · exact VRel.flat _ _ h1 hv
    · cases x with
      | ptr id off =>
        obtain ⟨cells, cs, h1, h2, rfl⟩ := hp
        simp only [VRel] at hv ⊢
        obtain ⟨b, o, k1, k2⟩ := hv
        exact ⟨⟨b, o, none⟩, by rw [k2, Addr.add_none], named_cells h ih k1 h1 h2⟩
      | msl id off len esz tight =>
        obtain ⟨cells, cs, h1, h2, rfl⟩ := hp
        simp only [VRel] at hv ⊢
        obtain ⟨b, o, ad, cap, k1, k2, k3, k4, k5, k6⟩ := hv
        refine ⟨some ad, cap, k2, k3, k4, .inr ⟨ad, rfl, ?_⟩⟩
        rcases k5 with k5 | k5
        · have : len = 0 := by omega
          subst this; simp [CellsAt]
        · have := ((named_cells h ih k1 h1 h2).drop off).take (len * esz)
          rw [Addr.add_none] at this
          rw [k5]; exact this
      | map id =>
        obtain ⟨ks, vs, ks', vs', h1, h2, h3, rfl⟩ := hp
        simp only [VRel] at hv ⊢
        obtain ⟨b, k1, k2⟩ := hv
        have hb := h.blk id b 0 k1 (by rw [h1]; exact fun e => by cases e)
        rw [h1] at hb
        obtain ⟨_, es, clock, m1, m2, m3⟩ := hb
        exact ⟨b, es, clock, k2, ⟨id, 0, k1, .inr ⟨ks, vs, h1⟩⟩, m1, VsRel.p2 ih h2 m2, VsRel.p2 ih h3 m3⟩
      | func f p q =>
        obtain ⟨p', q', h1, h2, rfl⟩ := hp
        simp only [VRel] at hv ⊢
        obtain ⟨u, t, k1, k2, k3⟩ := hv
        exact ⟨u, t, k1, VsRel.p2 ih h1 k2, VsRel.p2 ih h2 k3⟩
      | iface t x =>
        obtain ⟨x', h1, rfl⟩ := hp
        simp only [VRel] at hv ⊢
        obtain ⟨u, k1, k2⟩ := hv
        exact ⟨u, k1, ih _ _ _ h1 k2⟩
      | agg cs =>
        obtain ⟨cs', h1, rfl⟩ := hp
        simp only [VRel] at hv ⊢
        obtain ⟨u, k1, k2, k3⟩ := hv
        exact ⟨u, k1, VsRel.p2 ih h1 k2, k3⟩
      | tuple cs =>
        obtain ⟨cs', h1, rfl⟩ := hp
        simp only [VRel] at hv ⊢
        obtain ⟨u, k1, k2⟩ := hv
        exact ⟨u, k1, VsRel.p2 ih h1 k2⟩
      | _ => exact hp.elim
end
end Go.Zk
namespace Go.Zk

/-- What is read of a function of the program. -/
structure FnIs (P : Program) (f : FuncId) (n : Nat) (rs : List ResultVar) (c : Code) : Prop where
  ex : ∃ fn, P.funcs[f]? = some fn ∧ fn.body = some c ∧ fn.results.toList = rs ∧ fn.ntmps = n ∧ (fn.name == "runtime.NumGoroutine") = false
theorem FnIs.of {P : Program} {f : FuncId} {fn : Func} {c : Code} (h : P.funcs[f]? = some fn) (hb : fn.body = some c) (hn : (fn.name == "runtime.NumGoroutine") = false) : FnIs P f fn.ntmps fn.results.toList c :=
  ⟨fn, h, hb, rfl, rfl, hn⟩

/-- A function that a call enters. -/
def Callable (E : Env) (f : FuncId) : Prop := ∀ (args : Array Value) (w : World), (callFunc f args).run E.P w = .ok (.enter f args) w
theorem FnIs.callable {E : Env} {f : FuncId} {n : Nat} {rs : List ResultVar} {c : Code} (h : FnIs E.P f n rs c) : Callable E f := by
  intro args w
  obtain ⟨fn, h1, h2, h3, h4, h5⟩ := h
  unfold callFunc
  simp only [Sem.run_bind, run_program, Result.andThen, h1, h5, h2, Bool.false_eq_true, if_false, Option.isNone_some, Sem.run_pure]

structure AF (E : Env) (f : FuncId) (args : List AV) (H : AHeap) (Post : AR → AHeap → Prop) : Prop where
  en : Callable E f
  go : ACalls E f args H Post
structure PF (E : Env) (f : FuncId) (args : List AV) (res : AV) : Prop where
  en : Callable E f
  go : PCalls E f args res

section
variable {E : Env} {B z : Nat} {C : Ctx} {H : AHeap} {w : World} {P : Program} {r : Option Nat} {n : Nat} {fr : AFr} {a : Act}

theorem EndRel.no {C : Ctx} {ar : AR} : ¬ EndRel C ar .outgrown := by cases ar <;> exact fun h => h

theorem ACalls.mono {f : FuncId} {args : List AV} {Post Post' : AR → AHeap → Prop} (h : ACalls E f args H Post) (hp : ∀ ar H, Post ar H → Post' ar H) : ACalls E f args H Post' :=
  fun B C w vs hs hv => (h B C w vs hs hv).mono fun e w' ⟨C', H', ar, h1, h2, h3⟩ => ⟨C', H', ar, h1, h2, hp _ _ h3⟩
theorem AF.mono {f : FuncId} {args : List AV} {Post Post' : AR → AHeap → Prop} (h : AF E f args H Post) (hp : ∀ ar H, Post ar H → Post' ar H) : AF E f args H Post' := ⟨h.en, h.go.mono hp⟩
theorem AInv.mono {f : AV} {args : List AV} {Post Post' : AR → AHeap → Prop} (h : AInv E f args H Post) (hp : ∀ ar H, Post ar H → Post' ar H) : AInv E f args H Post' :=
  fun B C w v vs hs hf hv => (h B C w v vs hs hf hv).mono fun e w' ⟨C', H', ar, h1, h2, h3⟩ => ⟨C', H', ar, h1, h2, hp _ _ h3⟩

theorem af_of_body (hm : E.P.follows .mixedOrders = true) {f : FuncId} {c : Code} {args : List AV} {Post : AR → AHeap → Prop} {rs : List ResultVar} (hf : FnIs E.P f n rs c) (hn : args.length ≤ n) (h : ABody E n rs c args H Post) : AF E f args H Post := by
  refine ⟨hf.callable, ?_⟩
  obtain ⟨fn, h1, h2, h3, h4, h5⟩ := hf
  exact acalls_of_body hm h1 h2 h3 h4 hn h

theorem inv_run {f : FuncId} {x y : Array Value} {vs : List Value} (h : Callable E f) : (do let d ← Deferred.ofValue (.func (.func f) x y) vs.toArray; invoke d.target d.args : Sem Next).run E.P w = .ok (.enter f (x.toList ++ vs ++ y.toList).toArray) w := by
  simp only [Deferred.ofValue, Sem.run_bind, Sem.run_pure, Result.andThen, invoke]
  rw [h]
  congr 2
  apply Array.ext'
  simp

theorem ainv_func {f : FuncId} {first cap args : List AV} {Post : AR → AHeap → Prop} (h : AF E f (first ++ args ++ cap) H Post) : AInv E (.func f first cap) args H Post := by
  intro B C w v vs hs hf hv
  simp only [VRel] at hf
  obtain ⟨x, y, rfl, k1, k2⟩ := hf
  rw [inv_run h.en]
  exact runs_of_calls (h.go B C w _ hs ((k1.append hv).append k2)) fun w ⟨C', H', ar, h1, _⟩ => EndRel.no h1

/-- The memory that a function of pure values starts in. -/
theorem HSim.start {I : Nat → Prop} (h1 : ∀ b, I b → b < w.heap.size) (h2 : ∀ b ds, I b → w.heap[b]? ≠ some (.deferred ds)) (h3 : ∀ g cells, E.G g = some cells → CellsAt ⟨I, fun _ => none, w.heap⟩ ⟨g, 0, none⟩ 0 cells) :
    HSim E w.heap.size ⟨I, fun _ => none, w.heap⟩ .nil w :=
  ⟨rfl, Nat.le_refl _, h1, fun _ _ => rfl, fun _ _ => rfl, (fun i hi => absurd hi (Nat.not_lt_zero _)), (fun i j b o p hi => absurd hi (Nat.not_lt_zero _)), h3, h2⟩

theorem HSim.still_facts (h : HSim E B C H w) : (∀ b, (C.still H).I b → b < w.heap.size) ∧ (∀ b ds, (C.still H).I b → w.heap[b]? ≠ some (.deferred ds)) ∧ (∀ b, (C.still H).I b → C.I b ∨ B ≤ b) := by
  have key : ∀ b, Nm C H b → B ≤ b ∧ b < w.heap.size ∧ ∀ ds, w.heap[b]? ≠ some (.deferred ds) := by
    rintro b ⟨i, o, h1, h2⟩
    have hd : H.get i ≠ .dead := by rcases h2 with ⟨c, h2⟩ | ⟨ks, vs, h2⟩ <;> rw [h2] <;> exact fun e => by cases e
    obtain ⟨b', o', k1, k2, k3, k4, k5⟩ := h.blk i (h.named h1) hd
    rw [h1] at k1; cases k1
    refine ⟨k2, k3, fun ds e => ?_⟩
    rw [← h.heap] at e
    rcases h2 with ⟨c, h2⟩ | ⟨ks, vs, h2⟩ <;> rw [h2] at k5
    · obtain ⟨c, e', f, q, _⟩ := k5; rw [e] at q; cases q
    · obtain ⟨_, es, clock, q, _⟩ := k5; rw [e] at q; cases q
  refine ⟨fun b hb => hb.elim (h.lt b) fun k => (key b k).2.1, fun b ds hb => hb.elim (fun k => by rw [← h.heap]; exact h.nd b ds k) fun k => (key b k).2.2 ds, fun b hb => hb.imp id fun k => (key b k).1⟩

theorem pf_of_body (hm : E.P.follows .mixedOrders = true) {f : FuncId} {c : Code} {args : List AV} {res : AV} {rs : List ResultVar} (hf : FnIs E.P f n rs c) (hn : args.length ≤ n)
    (h : ABody E n rs c args .nil fun ar H' => ∃ v k, ar = .ret v ∧ Pur H' k v res) : PF E f args res := by
  have ha := af_of_body hm hf hn h
  refine ⟨ha.en, fun I w vs h1 h2 h3 hv => (ha.go w.heap.size _ w vs (HSim.start h1 h2 h3) hv).mono fun e w' hp => ?_⟩
  obtain ⟨C', H', ar, k1, k2, v, k, rfl, k3⟩ := hp
  cases e with
  | panicked ch => exact k1.elim
  | outgrown => exact k1.elim
  | returned u =>
    simp only [EndRel] at k1
    obtain ⟨f1, f2, f3⟩ := k2.hs.still_facts
    refine ⟨u, (C'.still H').I, rfl, k2.ev, fun b hb => .inl (k2.le.I b hb), fun b hb => (f3 b hb).elim (k2.I b) .inr, f1, f2, ?_⟩
    have := pur_rel k2.hs.read k v res u k3 k1
    have e : C'.still H' = ⟨(C'.still H').I, fun _ => none, w'.heap⟩ := by
      simp only [Ctx.still, k2.hs.heap]
    rw [e] at this
    exact this

/-- What a call leaves whose value leads to memory of its own alone. -/
def FPost (w : World) (res : AV) (e : Ending) (w' : World) : Prop :=
  ∃ v I', e = .returned v ∧ Ev w.heap.size w w' ∧ (∀ b, I' b → w.heap.size ≤ b) ∧ (∀ b, I' b → b < w'.heap.size) ∧ (∀ b ds, I' b → w'.heap[b]? ≠ some (.deferred ds)) ∧ VRel ⟨I', fun _ => none, w'.heap⟩ res v
structure FF (E : Env) (f : FuncId) (args : List AV) (res : AV) : Prop where
  en : Callable E f
  go : ∀ (I : Nat → Prop) (w : World) (vs : List Value), (∀ b, I b → b < w.heap.size) → (∀ b ds, I b → w.heap[b]? ≠ some (.deferred ds)) → (∀ g cells, E.G g = some cells → CellsAt ⟨I, fun _ => none, w.heap⟩ ⟨g, 0, none⟩ 0 cells) →
    VsRel ⟨I, fun _ => none, w.heap⟩ args vs → Calls E.P f vs.toArray w (FPost w res)
theorem HSim.named_facts (h : HSim E B C H w) : (∀ b, Nm C H b → B ≤ b ∧ b < w.heap.size) ∧ (∀ b ds, Nm C H b → w.heap[b]? ≠ some (.deferred ds)) := by
  have key : ∀ b, Nm C H b → B ≤ b ∧ b < w.heap.size ∧ ∀ ds, w.heap[b]? ≠ some (.deferred ds) := by
    rintro b ⟨i, o, h1, h2⟩
    have hd : H.get i ≠ .dead := by rcases h2 with ⟨c, h2⟩ | ⟨ks, vs, h2⟩ <;> rw [h2] <;> exact fun e => by cases e
    obtain ⟨b', o', k1, k2, k3, k4, k5⟩ := h.blk i (h.named h1) hd
    rw [h1] at k1; cases k1
    refine ⟨k2, k3, fun ds e => ?_⟩
    rw [← h.heap] at e
    rcases h2 with ⟨c, h2⟩ | ⟨ks, vs, h2⟩ <;> rw [h2] at k5
    · obtain ⟨c, e', f, q, _⟩ := k5; rw [e] at q; cases q
    · obtain ⟨_, es, clock, q, _⟩ := k5; rw [e] at q; cases q
  exact ⟨fun b hb => ⟨(key b hb).1, (key b hb).2.1⟩, fun b ds hb => (key b hb).2.2 ds⟩
theorem ff_of_body (hm : E.P.follows .mixedOrders = true) {f : FuncId} {c : Code} {args : List AV} {res : AV} {rs : List ResultVar} (hf : FnIs E.P f n rs c) (hn : args.length ≤ n)
    (h : ABody E n rs c args .nil fun ar H' => ∃ v k, ar = .ret v ∧ PurF H' k v res) : FF E f args res := by
  have ha := af_of_body hm hf hn h
  refine ⟨ha.en, fun I w vs h1 h2 h3 hv => (ha.go w.heap.size _ w vs (HSim.start h1 h2 h3) hv).mono fun e w' hp => ?_⟩
  obtain ⟨C', H', ar, k1, k2, v, k, rfl, k3⟩ := hp
  cases e with
  | panicked ch => exact k1.elim
  | outgrown => exact k1.elim
  | returned u =>
    simp only [EndRel] at k1
    obtain ⟨f1, f2⟩ := k2.hs.named_facts
    refine ⟨u, Nm C' H', rfl, k2.ev, fun b hb => (f1 b hb).1, fun b hb => (f1 b hb).2, f2, ?_⟩
    have := purF_rel k2.hs.read k v res u k3 k1
    have e : C'.named H' = ⟨Nm C' H', fun _ => none, w'.heap⟩ := by
      simp only [Ctx.named, k2.hs.heap]
    rw [e] at this
    exact this

/-- How pure arguments are had: as they are, or (where the result leads to no memory) from named memory too. -/
def Borrow (H : AHeap) (args args' : List AV) (res : AV) : Prop := (AV.purs args = true ∧ args' = args) ∨ (res.flat = true ∧ ∃ k, P2 (Pur H k) args args')
theorem Borrow.pure {args : List AV} {res : AV} (h : AV.purs args = true) : Borrow H args args res := .inl ⟨h, rfl⟩

theorem pf_run {f : FuncId} {args args' : List AV} {res : AV} (h : PF E f args' res) (hb : Borrow H args args' res) (hr : HRead E C H w) (hI : ∀ b, C.I b → b < w.heap.size) (hd : ∀ b ds, C.I b → w.heap[b]? ≠ some (.deferred ds))
    {vs : List Value} (hv : VsRel C args vs) : Calls E.P f vs.toArray w (PPost C.I w res) := by
  rcases hb with ⟨h1, rfl⟩ | ⟨h1, k, h2⟩
  · have hle : C.noal.le (⟨C.I, fun _ => none, w.heap⟩ : Ctx) := ⟨fun _ h => h, fun _ _ e => by simp [Ctx.noal] at e, fun b _ => by show w.heap[b]? = C.heap[b]?; rw [hr.heap], fun b n hn => by
      obtain ⟨c, e, f, q1, q2⟩ := hn
      exact ⟨c, e, f, by show w.heap[b]? = _; rw [← hr.heap]; exact q1, q2⟩⟩
    exact h.go C.I w vs hI hd (fun g cells hg => by
      have := CellsAt.noal_eq C ⟨g, 0, none⟩ cells 0
      have h3 := hr.glob g cells hg
      rw [← this] at h3
      exact h3.mono hle _ _ _) (VsRel.pure hle _ _ h1 hv)
  · have hk : ∀ b, Nm C H b → b < w.heap.size ∧ ∀ ds, w.heap[b]? ≠ some (.deferred ds) := by
      rintro b ⟨i, o, q1, q2⟩
      have hdd : H.get i ≠ .dead := by rcases q2 with ⟨c, q2⟩ | ⟨ks, vs, q2⟩ <;> rw [q2] <;> exact fun e => by cases e
      have k5 := hr.blk i b o q1 hdd
      rcases q2 with ⟨c, q2⟩ | ⟨ks, vs, q2⟩ <;> rw [q2] at k5
      · obtain ⟨c, e', f, q, _⟩ := k5; rw [hr.heap] at q
        exact ⟨(Array.getElem?_eq_some_iff.1 q).1, fun ds e => by rw [e] at q; cases q⟩
      · obtain ⟨_, es, clock, q, _⟩ := k5; rw [hr.heap] at q
        exact ⟨(Array.getElem?_eq_some_iff.1 q).1, fun ds e => by rw [e] at q; cases q⟩
    have e : C.still H = ⟨(C.still H).I, fun _ => none, w.heap⟩ := by
      simp only [Ctx.still, hr.heap]
    have hle : C.noal.le (C.still H) := Ctx.noal_still
    refine (h.go (C.still H).I w vs (fun b hb => hb.elim (hI b) fun k => (hk b k).1) (fun b ds hb => hb.elim (hd b ds) fun k => (hk b k).2 ds) (fun g cells hg => ?_) ?_).mono fun e' w' hp => ?_
    · rw [← e]
      have := CellsAt.noal_eq C ⟨g, 0, none⟩ cells 0
      have h3 := hr.glob g cells hg
      rw [← this] at h3
      exact h3.mono hle _ _ _
    · rw [← e]
      exact VsRel.p2 (pur_rel hr k) h2 hv
    · obtain ⟨v, I', p1, p2, p3, p4, p5, p6, p7⟩ := hp
      exact ⟨v, C.I, p1, p2, fun _ h => h, fun _ h => .inl h, fun b hb => Nat.lt_of_lt_of_le (hI b hb) p2.below.size, fun b ds hb e => by
        rw [p2.below.block b (hI b hb)] at e; exact hd b ds hb e, VRel.flat _ _ h1 p7⟩

theorem ff_run {f : FuncId} {args args' : List AV} {res : AV} {k : Nat} (h : FF E f args' res) (h2 : P2 (Pur H k) args args') (hr : HRead E C H w) (hI : ∀ b, C.I b → b < w.heap.size) (hd : ∀ b ds, C.I b → w.heap[b]? ≠ some (.deferred ds))
    {vs : List Value} (hv : VsRel C args vs) : Calls E.P f vs.toArray w (PPost C.I w res) := by
  have hk : ∀ b, Nm C H b → b < w.heap.size ∧ ∀ ds, w.heap[b]? ≠ some (.deferred ds) := by
    rintro b ⟨i, o, q1, q2⟩
    have hdd : H.get i ≠ .dead := by rcases q2 with ⟨c, q2⟩ | ⟨ks, vs, q2⟩ <;> rw [q2] <;> exact fun e => by cases e
    have k5 := hr.blk i b o q1 hdd
    rcases q2 with ⟨c, q2⟩ | ⟨ks, vs, q2⟩ <;> rw [q2] at k5
    · obtain ⟨c, e', f, q, _⟩ := k5; rw [hr.heap] at q
      exact ⟨(Array.getElem?_eq_some_iff.1 q).1, fun ds e => by rw [e] at q; cases q⟩
    · obtain ⟨_, es, clock, q, _⟩ := k5; rw [hr.heap] at q
      exact ⟨(Array.getElem?_eq_some_iff.1 q).1, fun ds e => by rw [e] at q; cases q⟩
  have e : C.still H = ⟨(C.still H).I, fun _ => none, w.heap⟩ := by
    simp only [Ctx.still, hr.heap]
  have hle : C.noal.le (C.still H) := Ctx.noal_still
  refine (h.go (C.still H).I w vs (fun b hb => hb.elim (hI b) fun k => (hk b k).1) (fun b ds hb => hb.elim (hd b ds) fun k => (hk b k).2 ds) (fun g cells hg => ?_) ?_).mono fun e' w' hp => ?_
  · rw [← e]
    have := CellsAt.noal_eq C ⟨g, 0, none⟩ cells 0
    have h3 := hr.glob g cells hg
    rw [← this] at h3
    exact h3.mono hle _ _ _
  · rw [← e]
    exact VsRel.p2 (pur_rel hr k) h2 hv
  · obtain ⟨v, I', p1, p2, p3, p4, p5, p6⟩ := hp
    refine ⟨v, fun b => C.I b ∨ I' b, p1, p2, fun _ h => .inl h, fun b h => h.imp id (p3 b), fun b hb => hb.elim (fun hb => Nat.lt_of_lt_of_le (hI b hb) p2.below.size) (p4 b), fun b ds hb e => hb.elim (fun hb => by
        rw [p2.below.block b (hI b hb)] at e; exact hd b ds hb e) (fun hb => p5 b ds hb e), ?_⟩
    refine VRel.mono (C := ⟨I', fun _ => none, w'.heap⟩) ?_ _ _ p6
    exact ⟨fun _ h => .inr h, fun _ _ h => h, fun _ _ => rfl, fun _ _ h => h⟩
theorem aquiet_ff {f : FuncId} {first cap args args' : List AV} {res : AV} {k : Nat} (h : FF E f args' res) (hb : P2 (Pur H k) (first ++ args ++ cap) args') : AQuiet E (.func f first cap) args H res := by
  intro C w v vs hr hI hd hf hv
  simp only [VRel] at hf
  obtain ⟨x, y, rfl, k1, k2⟩ := hf
  rw [inv_run h.en]
  exact runs_of_calls (ff_run h hb hr hI hd ((k1.append hv).append k2)) fun w ⟨v, I', h1, _⟩ => by cases h1

theorem af_of_ff {f : FuncId} {args args' : List AV} {res : AV} {k : Nat} {Post : AR → AHeap → Prop} (h : FF E f args' res) (hb : P2 (Pur H k) args args') (hp : Post (.ret res) H) : AF E f args H Post := by
  refine ⟨h.en, fun B C w vs hs hv => (ff_run h hb hs.read hs.lt (fun b ds hb => by rw [← hs.heap]; exact hs.nd b ds hb) hv).mono fun e w' hq => ?_⟩
  obtain ⟨v, I', rfl, p2, p3, p4, p5, p6, p7⟩ := hq
  exact ⟨⟨I', C.al, w'.heap⟩, H, .ret res, VRel.mono (Ctx.noal_le _) _ _ p7, hs.quiet p2 p3 p4 p5 p6, hp⟩
theorem ainv_ff {f : FuncId} {first cap args args' : List AV} {res : AV} {k : Nat} {Post : AR → AHeap → Prop} (h : FF E f args' res) (hb : P2 (Pur H k) (first ++ args ++ cap) args') (hp : Post (.ret res) H) : AInv E (.func f first cap) args H Post :=
  ainv_func (af_of_ff h hb hp)
theorem af_of_pf {f : FuncId} {args args' : List AV} {res : AV} {Post : AR → AHeap → Prop} (h : PF E f args' res) (hb : Borrow H args args' res) (hp : Post (.ret res) H) : AF E f args H Post := by
  refine ⟨h.en, fun B C w vs hs hv => (pf_run h hb hs.read hs.lt (fun b ds hb => by rw [← hs.heap]; exact hs.nd b ds hb) hv).mono fun e w' hq => ?_⟩
  obtain ⟨v, I', rfl, p2, p3, p4, p5, p6, p7⟩ := hq
  exact ⟨⟨I', C.al, w'.heap⟩, H, .ret res, VRel.mono (Ctx.noal_le _) _ _ p7, hs.quiet p2 p3 p4 p5 p6, hp⟩

theorem ainv_pf {f : FuncId} {first cap args args' : List AV} {res : AV} {Post : AR → AHeap → Prop} (h : PF E f args' res) (hb : Borrow H (first ++ args ++ cap) args' res) (hp : Post (.ret res) H) : AInv E (.func f first cap) args H Post :=
  ainv_func (af_of_pf h hb hp)

theorem aquiet_pf {f : FuncId} {first cap args args' : List AV} {res : AV} (h : PF E f args' res) (hb : Borrow H (first ++ args ++ cap) args' res) : AQuiet E (.func f first cap) args H res := by
  intro C w v vs hr hI hd hf hv
  simp only [VRel] at hf
  obtain ⟨x, y, rfl, k1, k2⟩ := hf
  rw [inv_run h.en]
  exact runs_of_calls (pf_run h hb hr hI hd ((k1.append hv).append k2)) fun w ⟨v, I', h1, _⟩ => by cases h1
end
end Go.Zk
namespace Go.Zk

def putAll (n : Nat) : List (Tmp × AV) → AFr → AFr
  | [], fr => fr
  | (t, v) :: l, fr => putAll n l (aput n fr (some t) v)
/-- Where the body of a range over a function has ended. -/
def ARoundQ (L : Nat) (Post : AR → AHeap → Prop) : AExit → AFr → AHeap → Prop
  | .normal, _, H => match H.get L with
    | .loop lp => Post (.ret (.bool true)) (H.set L (.loop { lp with state := .ready, pending := none }))
    | _ => False
  | .ret, _, H => match H.get L with
    | .loop lp => Post (.ret (.bool false)) (H.set L (.loop { lp with state := .done, pending := some .ret }))
    | _ => False
  | .exit i, _, H => match H.get L with
    | .loop lp => Post (.ret (.bool false)) (H.set L (.loop { lp with state := .done, pending := some (.exit i) }))
    | _ => False
  | _, _, _ => False
def ARound (E : Env) (L : Nat) (args : List AV) (Post : AR → AHeap → Prop) (H : AHeap) : Prop :=
  match H.get L with
  | .loop lp => lp.state = .ready ∧ args.length = lp.params.size ∧
    AWp E lp.n lp.assign (AThen (fun fr H1 => match H1.get L with
      | .loop lp1 => lp1.state = .ready ∧ AWp E lp.n lp.body (ARoundQ L Post) fr (H1.set L (.loop { lp1 with state := .busy }))
      | _ => False) (fun _ _ _ => False)) (putAll lp.n (lp.params.toList.zip args) lp.fr) H
  | _ => False

section
variable {E : Env} {B z : Nat} {C : Ctx} {H : AHeap} {w : World} {P : Program} {r : Option Nat} {n : Nat} {fr : AFr} {a : Act}

theorem HSim.loop_at (h : HSim E B C H w) {L : Nat} {lp : ALoop} (hg : H.get L = .loop lp) : ∃ l rec, C.al L = some (l, 0) ∧ w.heap[l]? = some (.loop rec) ∧ rec.state = lp.state ∧ rec.pending = lp.pending ∧ rec.params = lp.params ∧ rec.assign = lp.assign ∧ rec.body = lp.body ∧ rec.tmps.size = lp.n ∧ FrRel C lp.fr rec.tmps := by
  have hd : H.get L ≠ .dead := by rw [hg]; exact fun e => by cases e
  have hlt : L < H.next := by
    rcases Nat.lt_or_ge L H.next with h1 | h1
    · exact h1
    · exact absurd (h.dead L h1) hd
  obtain ⟨b, o, k1, k2, k3, k4, k5⟩ := h.blk L hlt hd
  rw [hg] at k5
  obtain ⟨rfl, rec, q1, q2⟩ := k5
  rw [h.heap] at q1
  exact ⟨b, rec, k1, q1, q2⟩

theorem HSim.loop_put (h : HSim E B C H w) {L l : Nat} {lp : ALoop} {rec : Loop} {st : LoopState} {pd : Option Code} (hg : H.get L = .loop lp) (ha : C.al L = some (l, 0)) (hr : w.heap[l]? = some (.loop rec)) :
    Nxt E B C { C with heap := (w.putObj l (.loop { rec with state := st, pending := pd })).heap } (H.set L (.loop { lp with state := st, pending := pd })) w (w.putObj l (.loop { rec with state := st, pending := pd })) := by
  have hd : H.get L ≠ .dead := by rw [hg]; exact fun e => by cases e
  obtain ⟨l', rec', k1, k2, k3, k4, k5, k6, k7, k8, k9⟩ := h.loop_at hg
  rw [ha] at k1; cases k1
  rw [hr] at k2; cases k2
  exact h.put ha hd hr (fun _ _ _ e => by cases e) (fun _ e => by cases e) (fun r _ => ⟨_, rfl⟩) (fun C' hle hb => ⟨rfl, _, hb, rfl, rfl, k5, k6, k7, k8, k9.mono hle⟩)

theorem putAll_rel : ∀ {ts : List Tmp} {args : List AV} {vs : List Value} {tmps : Array Value} {fr : AFr}, FrRel C fr tmps → tmps.size = n → VsRel C args vs → ts.length = args.length →
    FrRel C (putAll n (ts.zip args) fr) ((ts.zip vs).foldl (fun tmps (t, a) => tmps.setIfInBounds t a) tmps) ∧ ((ts.zip vs).foldl (fun tmps (t, a) => tmps.setIfInBounds t a) tmps).size = n
  | [], _, _, tmps, fr, hf, hn, _, _ => by simpa [putAll] using ⟨hf, hn⟩
  | _ :: _, [], _, _, _, _, _, _, hl => by simp at hl
  | t :: ts, x :: args, [], _, _, _, _, hv, _ => by simp [VsRel] at hv
  | t :: ts, x :: args, v :: vs, tmps, fr, hf, hn, hv, hl => by
    simp only [VsRel] at hv
    simp only [List.zip_cons_cons, putAll, List.foldl_cons]
    obtain ⟨p1, p2, _⟩ := put_rel (a := { tmps, defers := [] }) (dst := some t) hn hf hv.1
    exact putAll_rel p1 p2 hv.2 (by simpa using hl)

theorem ainv_yield (hm : E.P.follows .mixedOrders = true) {L : Nat} {args : List AV} {Post : AR → AHeap → Prop} (h : ARound E L args Post H) : AInv E (.yield L) args H Post := by
  intro B C w v vs hs hf hv
  simp only [VRel] at hf
  obtain ⟨l, hal, rfl⟩ := hf
  unfold ARound at h
  split at h
  · rename_i lp hg
    obtain ⟨h1, h2, h3⟩ := h
    obtain ⟨l', rec, k1, k2, k3, k4, k5, k6, k7, k8, k9⟩ := hs.loop_at hg
    rw [hal] at k1; cases k1
    have hlen := VsRel.length hv
    have hrun : (do let d ← Deferred.ofValue (.func (.yield l) #[] #[]) vs.toArray; invoke d.target d.args : Sem Next).run E.P w = .ok (.round l rec.fn ((rec.params.zip vs.toArray).foldl (fun tmps (t, a) => tmps.setIfInBounds t a) rec.tmps) rec.assign rec.body) w := by
      simp only [Deferred.ofValue, Sem.run_bind, Sem.run_pure, Result.andThen, invoke]
      have := run_yield (P := E.P) (args := vs.toArray) k2 (by rw [k5]; simp; omega)
      simpa using this
    rw [hrun]
    show Runs _ _ _ _
    intro c cs
    let b : Frame := { (default : Frame) with fn := rec.fn, kind := .normal, roundOf := some l }
    obtain ⟨p1, p2⟩ := putAll_rel (ts := rec.params.toList) k9 k8 hv (by rw [k5]; simp; omega)
    have htm : (rec.params.zip vs.toArray).foldl (fun tmps (t, a) => tmps.setIfInBounds t a) rec.tmps = (rec.params.toList.zip vs).foldl (fun tmps (t, a) => tmps.setIfInBounds t a) rec.tmps := by
      rw [← Array.foldl_toList]; simp
    rw [← htm] at p1 p2
    generalize (rec.params.zip vs.toArray).foldl (fun tmps (t, a) => tmps.setIfInBounds t a) rec.tmps = tm at p1 p2
    have hb0 : Frame.round l rec.fn tm rec.assign rec.body .normal = b.atR { tmps := tm, defers := [] } [.code rec.assign, .beginRound, .code rec.body] := by
      simp [Frame.round, Frame.atR, b]
    rw [hb0]
    have hst : St E B w.heap.size (some l) lp.n C (putAll lp.n (lp.params.toList.zip args) lp.fr) H { tmps := tm, defers := [] } w :=
      ⟨hs, p2, by rw [← k5]; exact p1, ⟨Nat.le_refl _, [], rfl, List.nodup_nil, fun _ h => by cases h⟩, fun l0 e => by cases e; exact ⟨rec, k2⟩⟩
    rw [← k6] at h3
    obtain ⟨e1, a1, w1, ⟨ae1, fr1, H1, C1, q1, q2, q3, q4⟩, harr1⟩ := awp_sound hm rec.assign _ h3 hst b [.beginRound, .code rec.body] (c :: cs) rfl
    cases e1 <;> cases ae1 <;> (first | exact q1.elim | exact q4.elim | skip)
    simp only [AThen] at q4
    split at q4
    · rename_i lp1 hg1
      obtain ⟨r1, r2⟩ := q4
      obtain ⟨l'', rec1, m1, m2, m3, m4, m5, m6, m7, m8, m9⟩ := q2.hs.loop_at hg1
      have hal1 : C1.al L = some (l, 0) := q3.le.al _ _ hal
      rw [hal1] at m1; cases m1
      have hbr := run_beginRound (P := E.P) m2 (m3.trans r1)
      have n2 := q2.hs.loop_put (st := .busy) (pd := rec1.pending) hg1 hal1 m2
      have e2 : (.loop { lp1 with state := .busy, pending := rec1.pending } : ABlk) = .loop { lp1 with state := .busy } := by rw [m4]
      rw [e2] at n2
      have e3 : ({ rec1 with state := .busy, pending := rec1.pending } : Loop) = { rec1 with state := .busy } := rfl
      rw [e3] at n2
      have hst2 := q2.next (fr' := fr1) (a' := a1) n2 q2.n (q2.fr.mono n2.le) rfl
      rw [← k7] at r2
      obtain ⟨e4, a4, w4, ⟨ae4, fr4, H4, C4, t1, t2, t3, t4⟩, harr2⟩ := awp_sound hm rec.body _ r2 hst2 b [] (c :: cs) rfl
      have s1 : Steps E.P (lone (b.atR { tmps := tm, defers := [] } [.code rec.assign, .beginRound, .code rec.body]) (c :: cs) w) (lone (b.atR a1 [.code rec.body]) (c :: cs) _) :=
        Steps.trans harr1 (.one (stepR_beginRound rfl hbr))
      have nn := (q3.trans n2).trans t3
      -- the end of the round
      have fin : ∀ (jump : Option Code) (lp4 : ALoop), H4.get L = .loop lp4 → Post (.ret (.bool jump.isNone)) (H4.set L (.loop { lp4 with state := if jump.isNone then .ready else .done, pending := jump })) →
          ∃ w5, (Instr.endRound l jump).run E.P w4 = .ok (.bool jump.isNone) w5 ∧ RPost E B C w Post (.returned (.bool jump.isNone)) w5 := by
        intro jump lp4 hg4 hp
        obtain ⟨l4, rec4, u1, u2, _⟩ := t2.hs.loop_at hg4
        have hal4 : C4.al L = some (l, 0) := t3.le.al _ _ (n2.le.al _ _ hal1)
        rw [hal4] at u1; cases u1
        have n5 := t2.hs.loop_put (st := if jump.isNone then .ready else .done) (pd := jump) hg4 hal4 u2
        exact ⟨_, run_endRound jump u2, _, _, .ret (.bool jump.isNone), rfl, nn.trans n5, hp⟩
      cases e4 <;> cases ae4 <;> (first | exact t1.elim | exact t4.elim | skip)
      · simp only [ARoundQ] at t4
        split at t4
        · rename_i lp4 hg4
          obtain ⟨w5, f1, f2⟩ := fin none lp4 hg4 t4
          exact ⟨.returned _, w5, f2, Steps.trans s1 (Steps.trans harr2 (.one (stepR_round_end rfl rfl f1)))⟩
        · exact t4.elim
      · rename_i i j
        simp only [ERel] at t1
        subst t1
        simp only [ARoundQ] at t4
        split at t4
        · rename_i lp4 hg4
          obtain ⟨w5, f1, f2⟩ := fin (some (.exit _)) lp4 hg4 t4
          obtain ⟨k1', hk1, hs1⟩ := harr2
          exact ⟨.returned _, w5, f2, Steps.trans s1 (Steps.trans hs1 (.one (stepR_round_exit rfl rfl hk1 f1)))⟩
        · exact t4.elim
      · simp only [ARoundQ] at t4
        split at t4
        · rename_i lp4 hg4
          obtain ⟨w5, f1, f2⟩ := fin (some .ret) lp4 hg4 t4
          obtain ⟨k1', hs1⟩ := harr2
          exact ⟨.returned _, w5, f2, Steps.trans s1 (Steps.trans hs1 (.one (stepR_round_ret rfl rfl f1)))⟩
        · exact t4.elim
    · exact q4.elim
  · exact h.elim
end
end Go.Zk
