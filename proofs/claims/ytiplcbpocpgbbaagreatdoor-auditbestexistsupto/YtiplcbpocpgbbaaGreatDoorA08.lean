/- The rules by which code over abstract values is read off: each op once, nothing unfolded that is not needed. Conditions: none. The reading rules with first-order continuations. Conditions: none. Calls opened by contracts, regions of open order read off. Conditions: none. A computable evaluator over abstract values: its data (tables of frames and memory), the writing operations over them. Conditions: none; definitions and laws. -/
import Derived.Test.YtiplcbpocpgbbaaGreatDoorA07
set_option linter.unusedSimpArgs false
set_option linter.unusedVariables false
namespace Go.Zk

def AK (o : Option AV) (K : AV → Prop) : Prop := match o with
  | some v => K v
  | none => False
def AK2 (o : Option (AV × AHeap)) (K : AV → AHeap → Prop) : Prop := match o with
  | some (v, H) => K v H
  | none => False
def AKn (o : Option ((Nat → AV) × ABlk)) (id : Nat) (K : AV → ABlk → Prop) : Prop := match o with
  | some (f, b) => K (f id) b
  | none => False
def AGb (x : AV) (want : Bool) (X Y : Prop) : Prop := match x with
  | .bool b => if b = want then X else Y
  | .tuple [] => Y
  | _ => False
def AGd (t : Option Tmp) (fr : AFr) (want : Bool) (X Y : Prop) : Prop := match t with
  | none => Y
  | some t => AGb (fr t) want X Y
def AG (ops : Array Oper) (g : Option (Nat × Bool)) (fr : AFr) (X Y : Prop) : Prop := match g with
  | none => X
  | some (j, want) => AGd ((ops[j]?).bind (·.dst)) fr want X Y
def AC (x : AV) (X Y : Prop) : Prop := match x with
  | .bool b => if b = true then X else Y
  | _ => False

section
variable {E : Env} {n : Nat} {Q : AExit → AFr → AHeap → Prop} {fr : AFr} {H H0 : AHeap} {ops : Array Oper} {X Y : Prop}

@[simp] theorem ak_some {v : AV} {K : AV → Prop} : AK (some v) K = K v := by unfold AK; exact id rfl
@[simp] theorem ak2_some {v : AV} {K : AV → AHeap → Prop} : AK2 (some (v, H)) K = K v H := by unfold AK2; exact id rfl
@[simp] theorem akn_some {f : Nat → AV} {b : ABlk} {id' : Nat} {K : AV → ABlk → Prop} : AKn (some (f, b)) id' K = K (f id') b := by unfold AKn; exact id rfl
@[simp] theorem agb_bool {b want : Bool} : AGb (.bool b) want X Y = if b = want then X else Y := by unfold AGb; exact id rfl
@[simp] theorem agb_none {want : Bool} : AGb (.tuple []) want X Y = Y := by unfold AGb; exact id rfl
@[simp] theorem agd_some {t : Tmp} {want : Bool} : AGd (some t) fr want X Y = AGb (fr t) want X Y := by unfold AGd; exact id rfl
@[simp] theorem ag_none : AG ops none fr X Y = X := by unfold AG; exact id rfl
@[simp] theorem ag_some {j : Nat} {want : Bool} : AG ops (some (j, want)) fr X Y = AGd ((ops[j]?).bind (·.dst)) fr want X Y := by unfold AG; exact id rfl
@[simp] theorem ac_bool {b : Bool} : AC (.bool b) X Y = if b = true then X else Y := by unfold AC; exact id rfl
theorem ak_congr {o o' : Option AV} {K : AV → Prop} (h : o = o') : AK o K = AK o' K := by rw [h]
theorem ak2_congr {o o' : Option (AV × AHeap)} {K : AV → AHeap → Prop} (h : o = o') : AK2 o K = AK2 o' K := by rw [h]
theorem akn_congr {o o' : Option ((Nat → AV) × ABlk)} {i i' : Nat} {K : AV → ABlk → Prop} (h : o = o') (hi : i = i') : AKn o i K = AKn o' i' K := by rw [h, hi]
theorem agb_congr {x x' : AV} {want : Bool} (h : x = x') : AGb x want X Y = AGb x' want X Y := by rw [h]
theorem agd_congr {t t' : Option Tmp} {want : Bool} (h : t = t') : AGd t fr want X Y = AGd t' fr want X Y := by rw [h]
theorem ac_congr {x x' : AV} (h : x = x') : AC x X Y = AC x' X Y := by rw [h]

/-! ### code -/
@[simp] theorem wp_skip : AWp E n .skip Q fr H = Q .normal fr H := by rw [AWp]
@[simp] theorem wp_label {l : Nat} : AWp E n (.label l) Q fr H = Q .normal fr H := by rw [AWp]
@[simp] theorem wp_ret : AWp E n .ret Q fr H = Q .ret fr H := by rw [AWp]
@[simp] theorem wp_exit {i : Nat} : AWp E n (.exit i) Q fr H = Q (.exit i) fr H := by rw [AWp]
@[simp] theorem wp_goto {i : Nat} : AWp E n (.goto i) Q fr H = Q (.goto i) fr H := by rw [AWp]
@[simp] theorem wp_seq {a b : Code} : AWp E n (.seq a b) Q fr H = AWp E n a (AThen (AWp E n b Q) Q) fr H := by rw [AWp]
theorem wp_cond {c : Operand} {t e : Code} : AWp E n (.cond c t e) Q fr H = AC (aeval E fr c) (AWp E n t Q fr H) (AWp E n e Q fr H) := by rw [AWp]; unfold AC; exact id rfl
@[simp] theorem wp_block {i : Nat} {c : Code} : AWp E n (.block i c) Q fr H = AWp E n c (ABlock i Q) fr H := by rw [AWp]
@[simp] theorem wp_region {i : Nat} {ops : Array Oper} : AWp E n (.region i ops false) Q fr H = AOps E n ops Q ops.toList fr H := by rw [AWp]
theorem wp_draw {i : Nat} {ops : Array Oper} (p : Plan) (h : ADraw E n ops p Q fr H) : AWp E n (.region i ops true) Q fr H := by rw [AWp]; exact ⟨p, h⟩
theorem wp_loop {c : Code} (I : AFr → AHeap → Nat → Prop) (m : Nat) (h0 : I fr H m)
    (h : ∀ m fr H, I fr H m → AWp E n c (AThen (fun fr' H' => ∃ m', m' < m ∧ I fr' H' m') Q) fr H) : AWp E n (.loop c) Q fr H := by rw [AWp]; exact ⟨I, m, h0, h⟩
theorem wp_ranged {f : Operand} {ps : Array Tmp} {x y : Code} (h : AInv E (aeval E fr f) [.yield H.next] (H.alloc (.loop ⟨n, fr, ps, x, y, .ready, none⟩)) (ARanged H.next Q fr)) : AWp E n (.rangeFunc f ps x y) Q fr H := by rw [AWp]; exact h

@[simp] theorem then_normal {next : AFr → AHeap → Prop} : AThen next Q .normal fr H = next fr H := by rw [AThen]
@[simp] theorem then_exit {next : AFr → AHeap → Prop} {i : Nat} : AThen next Q (.exit i) fr H = Q (.exit i) fr H := by rw [AThen]
@[simp] theorem then_goto {next : AFr → AHeap → Prop} {i : Nat} : AThen next Q (.goto i) fr H = Q (.goto i) fr H := by rw [AThen]
@[simp] theorem then_ret {next : AFr → AHeap → Prop} : AThen next Q .ret fr H = Q .ret fr H := by rw [AThen]
@[simp] theorem then_panic {next : AFr → AHeap → Prop} {v : AV} : AThen next Q (.panic v) fr H = Q (.panic v) fr H := by rw [AThen]
@[simp] theorem block_normal {i : Nat} : ABlock i Q .normal fr H = Q .normal fr H := by rw [ABlock]
@[simp] theorem block_exit {i j : Nat} : ABlock i Q (.exit j) fr H = if j = i then Q .normal fr H else Q (.exit j) fr H := by rw [ABlock]
@[simp] theorem block_goto {i j : Nat} : ABlock i Q (.goto j) fr H = Q (.goto j) fr H := by rw [ABlock]
@[simp] theorem block_ret {i : Nat} : ABlock i Q .ret fr H = Q .ret fr H := by rw [ABlock]
@[simp] theorem block_panic {i : Nat} {v : AV} : ABlock i Q (.panic v) fr H = Q (.panic v) fr H := by rw [ABlock]
@[simp] theorem bodyq_normal {rs : List ResultVar} {Post : AR → AHeap → Prop} : ABodyQ E rs Post .normal fr H = ARes E rs fr H Post := by rw [ABodyQ]
@[simp] theorem bodyq_ret {rs : List ResultVar} {Post : AR → AHeap → Prop} : ABodyQ E rs Post .ret fr H = ARes E rs fr H Post := by rw [ABodyQ]
@[simp] theorem bodyq_panic {rs : List ResultVar} {Post : AR → AHeap → Prop} {v : AV} : ABodyQ E rs Post (.panic v) fr H = Post (.panic v) H := by rw [ABodyQ]
@[simp] theorem bodyq_exit {rs : List ResultVar} {Post : AR → AHeap → Prop} {i : Nat} : ABodyQ E rs Post (.exit i) fr H = False := by unfold ABodyQ; exact id rfl
@[simp] theorem res_one {t : Tmp} {Post : AR → AHeap → Prop} : ARes E [.tmp t] fr H Post = Post (.ret (fr t)) H := by simp only [ARes, aresL, aresOne, aresOf]
@[simp] theorem res_two {t u : Tmp} {Post : AR → AHeap → Prop} : ARes E [.tmp t, .tmp u] fr H Post = Post (.ret (.tuple [fr t, fr u])) H := by simp only [ARes, aresL, aresOne, aresOf]
@[simp] theorem res_three {t u v : Tmp} {Post : AR → AHeap → Prop} : ARes E [.tmp t, .tmp u, .tmp v] fr H Post = Post (.ret (.tuple [fr t, fr u, fr v])) H := by simp only [ARes, aresL, aresOne, aresOf]
@[simp] theorem res_nil {Post : AR → AHeap → Prop} : ARes E [] fr H Post = Post (.ret (.tuple [])) H := by simp only [ARes, aresL, aresOf]
@[simp] theorem res_cell {t : Tmp} {ty : TypeId} {Post : AR → AHeap → Prop} : ARes E [.cell t ty] fr H Post = AK (aload E.P ty H (fr t)) fun v => Post (.ret v) H := by
  simp only [ARes, aresL, aresOne, AK]
  cases aload E.P ty H (fr t) <;> simp [aresOf]
@[simp] theorem res_cell_tmp {t u : Tmp} {ty : TypeId} {Post : AR → AHeap → Prop} : ARes E [.cell t ty, .tmp u] fr H Post = AK (aload E.P ty H (fr t)) fun v => Post (.ret (.tuple [v, fr u])) H := by
  simp only [ARes, aresL, aresOne, AK]
  cases aload E.P ty H (fr t) <;> simp [aresOf]

/-! ### operations -/
section
variable {d : Option Tmp} {ty : TypeId} {pos : String} {aft : Array Edge} {g : Option (Nat × Bool)} {rest : List Oper} {op : Op}

theorem guard_eq {o : Oper} : AGuard ops o fr X Y = AG ops o.guard fr X Y := by
  unfold AGuard AG AGd AGb
  cases o.guard with
  | none => rfl
  | some q => rfl
@[simp] theorem ops_nil : AOps E n ops Q [] fr H = Q .normal fr H := by rw [AOps]
theorem ops_cons : AOps E n ops Q (⟨d, op, ty, pos, aft, g⟩ :: rest) fr H = AG ops g fr (AOp E ⟨d, op, ty, pos, aft, g⟩ fr H (fun v H' => AOps E n ops Q rest (aput n fr d v) H') (fun v H' => Q (.panic v) fr H'))
    (AOps E n ops Q rest (aput n fr d (.tuple [])) H) := by rw [AOps, guard_eq]
theorem op_0 {K Qp : AV → AHeap → Prop} (hk : kindOf op = 0) : AOp E ⟨d, op, ty, pos, aft, g⟩ fr H K Qp = AK (aval2 E op (aeval E fr) H) fun v => K v H := by
  unfold AOp astep
  simp only [hk]
  unfold AK
  cases aval2 E op (aeval E fr) H <;> rfl
theorem op_1 {K Qp : AV → AHeap → Prop} (hk : kindOf op = 1) : AOp E ⟨d, op, ty, pos, aft, g⟩ fr H K Qp = AKn (anew E op (aeval E fr)) H.next fun v b => K v (H.alloc b) := by
  unfold AOp astep
  simp only [hk]
  unfold AKn
  cases anew E op (aeval E fr) <;> rfl
theorem op_2 {K Qp : AV → AHeap → Prop} (hk : kindOf op = 2) : AOp E ⟨d, op, ty, pos, aft, g⟩ fr H K Qp = AK2 (awr E op (aeval E fr) H) K := by
  unfold AOp astep
  simp only [hk]
  unfold AK2
  cases awr E op (aeval E fr) H <;> rfl

theorem ops_move {x : Operand} : AOps E n ops Q (⟨d, .move x, ty, pos, aft, g⟩ :: rest) fr H = AG ops g fr (AOps E n ops Q rest (aput n fr d (aeval E fr x)) H) (AOps E n ops Q rest (aput n fr d (.tuple [])) H) := by
  rw [ops_cons, op_0 rfl]; simp only [aval2, aval, ak_some]
theorem ops_assign {x : Operand} : AOps E n ops Q (⟨d, .assign x, ty, pos, aft, g⟩ :: rest) fr H = AG ops g fr (AOps E n ops Q rest (aput n fr d (aeval E fr x)) H) (AOps E n ops Q rest (aput n fr d (.tuple [])) H) := by
  rw [ops_cons, op_0 rfl]; simp only [aval2, aval, ak_some]
def apick (c a b : AV) : Option AV := match c with
  | .bool t => some (if t = true then a else b)
  | _ => none
@[simp] theorem apick_bool {t : Bool} {a b : AV} : apick (.bool t) a b = some (if t = true then a else b) := by unfold apick; exact id rfl
theorem ops_pick {c x y : Operand} : AOps E n ops Q (⟨d, .pick c x y, ty, pos, aft, g⟩ :: rest) fr H = AG ops g fr (AK (apick (aeval E fr c) (aeval E fr x) (aeval E fr y)) fun v => AOps E n ops Q rest (aput n fr d v) H) (AOps E n ops Q rest (aput n fr d (.tuple [])) H) := by
  rw [ops_cons, op_0 rfl]; simp only [aval2, aval]; unfold apick; exact id rfl
theorem ops_load {t : TypeId} {x : Operand} : AOps E n ops Q (⟨d, .load t x, ty, pos, aft, g⟩ :: rest) fr H = AG ops g fr (AK (aload E.P t H (aeval E fr x)) fun v => AOps E n ops Q rest (aput n fr d v) H) (AOps E n ops Q rest (aput n fr d (.tuple [])) H) := by
  rw [ops_cons, op_0 rfl]; simp only [aval2, aval]
theorem ops_binOp {b : BinOp} {t u : TypeId} {x y : Operand} : AOps E n ops Q (⟨d, .binOp b t x y u, ty, pos, aft, g⟩ :: rest) fr H = AG ops g fr (AK (abin E.P b t (aeval E fr x) (aeval E fr y)) fun v => AOps E n ops Q rest (aput n fr d v) H) (AOps E n ops Q rest (aput n fr d (.tuple [])) H) := by
  rw [ops_cons, op_0 rfl]; simp only [aval2, aval]
theorem ops_unOp {b : UnOp} {t : TypeId} {x : Operand} : AOps E n ops Q (⟨d, .unOp b t x, ty, pos, aft, g⟩ :: rest) fr H = AG ops g fr (AK (aun b (aeval E fr x)) fun v => AOps E n ops Q rest (aput n fr d v) H) (AOps E n ops Q rest (aput n fr d (.tuple [])) H) := by
  rw [ops_cons, op_0 rfl]; simp only [aval2, aval]
theorem ops_makeFunc {f : FuncId} {p q : Array Operand} : AOps E n ops Q (⟨d, .makeFunc (.func f) p q, ty, pos, aft, g⟩ :: rest) fr H = AG ops g fr (AOps E n ops Q rest (aput n fr d (.func f (p.toList.map (aeval E fr)) (q.toList.map (aeval E fr)))) H) (AOps E n ops Q rest (aput n fr d (.tuple [])) H) := by
  rw [ops_cons, op_0 rfl]; simp only [aval2, aval, ak_some]
theorem ops_slice {t : TypeId} {x : Operand} {lo hi mx : Option Operand} : AOps E n ops Q (⟨d, .slice t x lo hi mx, ty, pos, aft, g⟩ :: rest) fr H = AG ops g fr (AK (asl E.P t H (aeval E fr x) (lo.map (aeval E fr)) (hi.map (aeval E fr)) (mx.map (aeval E fr))) fun v => AOps E n ops Q rest (aput n fr d v) H) (AOps E n ops Q rest (aput n fr d (.tuple [])) H) := by
  rw [ops_cons, op_0 rfl]; simp only [aval2, aval]
def afa (o : Option Nat) (x : AV) : Option AV := match o with
  | some o => afield o x
  | none => none
@[simp] theorem afa_some {o : Nat} {x : AV} : afa (some o) x = afield o x := by unfold afa; exact id rfl
theorem ops_fieldAddr {t : TypeId} {x : Operand} {i : Nat} : AOps E n ops Q (⟨d, .fieldAddr t x i, ty, pos, aft, g⟩ :: rest) fr H = AG ops g fr (AK (afa (tfa E.P t i) (aeval E fr x)) fun v => AOps E n ops Q rest (aput n fr d v) H) (AOps E n ops Q rest (aput n fr d (.tuple [])) H) := by
  rw [ops_cons, op_0 rfl]; simp only [aval2, aval]; unfold afa; exact id rfl
def afv (o : Option (Nat × Nat × Bool)) (x : AV) : Option AV := match o, x with
  | some (o, n, g), .agg cs => apart g n o cs
  | _, _ => none
@[simp] theorem afv_agg {o n : Nat} {g : Bool} {cs : List AV} : afv (some (o, n, g)) (.agg cs) = apart g n o cs := by unfold afv; exact id rfl
theorem ops_field {t : TypeId} {x : Operand} {i : Nat} : AOps E n ops Q (⟨d, .field t x i, ty, pos, aft, g⟩ :: rest) fr H = AG ops g fr (AK (afv (tfv E.P t i) (aeval E fr x)) fun v => AOps E n ops Q rest (aput n fr d v) H) (AOps E n ops Q rest (aput n fr d (.tuple [])) H) := by
  rw [ops_cons, op_0 rfl]; simp only [aval2, aval]; unfold afv; exact id rfl
theorem ops_indexAddr {t : TypeId} {x i : Operand} : AOps E n ops Q (⟨d, .indexAddr t x i, ty, pos, aft, g⟩ :: rest) fr H = AG ops g fr (AK (aidx E.P t (aeval E fr x) (aeval E fr i)) fun v => AOps E n ops Q rest (aput n fr d v) H) (AOps E n ops Q rest (aput n fr d (.tuple [])) H) := by
  rw [ops_cons, op_0 rfl]; simp only [aval2, aval]
theorem ops_index {t : TypeId} {x i : Operand} : AOps E n ops Q (⟨d, .index t x i, ty, pos, aft, g⟩ :: rest) fr H = AG ops g fr (AK (aindex E.P t (aeval E fr x) (aeval E fr i)) fun v => AOps E n ops Q rest (aput n fr d v) H) (AOps E n ops Q rest (aput n fr d (.tuple [])) H) := by
  rw [ops_cons, op_0 rfl]; simp only [aval2, aval]
theorem ops_extract {x : Operand} {i : Nat} : AOps E n ops Q (⟨d, .extract x i, ty, pos, aft, g⟩ :: rest) fr H = AG ops g fr (AK (aextract (aeval E fr x) i) fun v => AOps E n ops Q rest (aput n fr d v) H) (AOps E n ops Q rest (aput n fr d (.tuple [])) H) := by
  rw [ops_cons, op_0 rfl]; simp only [aval2, aval]
theorem ops_lookup {t : TypeId} {x i : Operand} {ok : Bool} : AOps E n ops Q (⟨d, .lookup t x i ok, ty, pos, aft, g⟩ :: rest) fr H = AG ops g fr (AK (alookup E.P t H (aeval E fr x) (aeval E fr i) ok) fun v => AOps E n ops Q rest (aput n fr d v) H) (AOps E n ops Q rest (aput n fr d (.tuple [])) H) := by
  rw [ops_cons, op_0 rfl]; simp only [aval2]
theorem ops_len {x : Operand} {t : TypeId} : AOps E n ops Q (⟨d, .call ⟨.builtin .len, #[x], #[t]⟩, ty, pos, aft, g⟩ :: rest) fr H = AG ops g fr (AK (alen E.P t H (aeval E fr x)) fun v => AOps E n ops Q rest (aput n fr d v) H) (AOps E n ops Q rest (aput n fr d (.tuple [])) H) := by
  rw [ops_cons, op_0 rfl]; simp only [aval2, aval, acall0]
theorem ops_min {x y : Operand} {ts : Array TypeId} : AOps E n ops Q (⟨d, .call ⟨.builtin .min, #[x, y], ts⟩, ty, pos, aft, g⟩ :: rest) fr H = AG ops g fr (AK (amm true (aeval E fr x) (aeval E fr y)) fun v => AOps E n ops Q rest (aput n fr d v) H) (AOps E n ops Q rest (aput n fr d (.tuple [])) H) := by
  rw [ops_cons, op_0 rfl]; simp only [aval2, aval, acall0, amms, List.map_cons, List.map_nil]
  cases amm true (aeval E fr x) (aeval E fr y) <;> simp [AK]
theorem ops_max {x y : Operand} {ts : Array TypeId} : AOps E n ops Q (⟨d, .call ⟨.builtin .max, #[x, y], ts⟩, ty, pos, aft, g⟩ :: rest) fr H = AG ops g fr (AK (amm false (aeval E fr x) (aeval E fr y)) fun v => AOps E n ops Q rest (aput n fr d v) H) (AOps E n ops Q rest (aput n fr d (.tuple [])) H) := by
  rw [ops_cons, op_0 rfl]; simp only [aval2, aval, acall0, amms, List.map_cons, List.map_nil]
  cases amm false (aeval E fr x) (aeval E fr y) <;> simp [AK]
theorem ops_alloc {t : TypeId} : AOps E n ops Q (⟨d, .alloc t, ty, pos, aft, g⟩ :: rest) fr H = AG ops g fr (AKn (anew E (.alloc t) (aeval E fr)) H.next fun v b => AOps E n ops Q rest (aput n fr d v) (H.alloc b)) (AOps E n ops Q rest (aput n fr d (.tuple [])) H) := by
  rw [ops_cons, op_1 rfl]
theorem ops_box {t : TypeId} {x : Operand} : AOps E n ops Q (⟨d, .box t x, ty, pos, aft, g⟩ :: rest) fr H = AG ops g fr (AKn (anew E (.box t x) (aeval E fr)) H.next fun v b => AOps E n ops Q rest (aput n fr d v) (H.alloc b)) (AOps E n ops Q rest (aput n fr d (.tuple [])) H) := by
  rw [ops_cons, op_1 rfl]
theorem ops_buildSlice {t : TypeId} {l : Nat} {ps : Array (Nat × Operand)} : AOps E n ops Q (⟨d, .buildSlice t l ps, ty, pos, aft, g⟩ :: rest) fr H = AG ops g fr (AKn (anew E (.buildSlice t l ps) (aeval E fr)) H.next fun v b => AOps E n ops Q rest (aput n fr d v) (H.alloc b)) (AOps E n ops Q rest (aput n fr d (.tuple [])) H) := by
  rw [ops_cons, op_1 rfl]
theorem ops_makeMap {t : TypeId} {x : Option Operand} : AOps E n ops Q (⟨d, .makeMap t x, ty, pos, aft, g⟩ :: rest) fr H = AG ops g fr (AKn (anew E (.makeMap t x) (aeval E fr)) H.next fun v b => AOps E n ops Q rest (aput n fr d v) (H.alloc b)) (AOps E n ops Q rest (aput n fr d (.tuple [])) H) := by
  rw [ops_cons, op_1 rfl]
theorem ops_makeSlice {t : TypeId} {x y : Operand} : AOps E n ops Q (⟨d, .makeSlice t x y, ty, pos, aft, g⟩ :: rest) fr H = AG ops g fr (AKn (anew E (.makeSlice t x y) (aeval E fr)) H.next fun v b => AOps E n ops Q rest (aput n fr d v) (H.alloc b)) (AOps E n ops Q rest (aput n fr d (.tuple [])) H) := by
  rw [ops_cons, op_1 rfl]
theorem ops_range {t : TypeId} {x : Operand} : AOps E n ops Q (⟨d, .range t x, ty, pos, aft, g⟩ :: rest) fr H = AG ops g fr (AKn (anew E (.range t x) (aeval E fr)) H.next fun v b => AOps E n ops Q rest (aput n fr d v) (H.alloc b)) (AOps E n ops Q rest (aput n fr d (.tuple [])) H) := by
  rw [ops_cons, op_1 rfl]
theorem ops_store {t : TypeId} {x y : Operand} : AOps E n ops Q (⟨d, .store t x y, ty, pos, aft, g⟩ :: rest) fr H = AG ops g fr (AK2 (astore E.P t H (aeval E fr x) (aeval E fr y)) fun v H' => AOps E n ops Q rest (aput n fr d v) H') (AOps E n ops Q rest (aput n fr d (.tuple [])) H) := by
  rw [ops_cons, op_2 rfl]; simp only [awr]
theorem ops_mapUpdate {t : TypeId} {m x y : Operand} : AOps E n ops Q (⟨d, .mapUpdate t m x y, ty, pos, aft, g⟩ :: rest) fr H = AG ops g fr (AK2 (amapset E.P t H (aeval E fr m) (aeval E fr x) (aeval E fr y)) fun v H' => AOps E n ops Q rest (aput n fr d v) H') (AOps E n ops Q rest (aput n fr d (.tuple [])) H) := by
  rw [ops_cons, op_2 rfl]; simp only [awr]
theorem ops_next {x : Operand} : AOps E n ops Q (⟨d, .next x true, ty, pos, aft, g⟩ :: rest) fr H = AG ops g fr (AK2 (anext H (aeval E fr x)) fun v H' => AOps E n ops Q rest (aput n fr d v) H') (AOps E n ops Q rest (aput n fr d (.tuple [])) H) := by
  rw [ops_cons, op_2 rfl]; simp only [awr, if_true]
theorem ops_append {x y : Operand} {t u : TypeId} : AOps E n ops Q (⟨d, .call ⟨.builtin .append, #[x, y], #[t, u]⟩, ty, pos, aft, g⟩ :: rest) fr H = AG ops g fr (AK2 (aappend E.P t u H (aeval E fr x) (aeval E fr y)) fun v H' => AOps E n ops Q rest (aput n fr d v) H') (AOps E n ops Q rest (aput n fr d (.tuple [])) H) := by
  rw [ops_cons, op_2 rfl]; simp only [awr]
theorem ops_build {t : TypeId} {ps : Array (Nat × Operand)} : AOps E n ops Q (⟨d, .build t ps, ty, pos, aft, g⟩ :: rest) fr H = AG ops g fr (AK (abuild E.P t (ps.toList.map fun q => (q.1, aeval E fr q.2))) fun v => AOps E n ops Q rest (aput n fr d v) H) (AOps E n ops Q rest (aput n fr d (.tuple [])) H) := by
  rw [ops_cons]; unfold AOp astep; simp only [kindOf]; unfold AK
  cases abuild E.P t (ps.toList.map fun q => (q.1, aeval E fr q.2)) <;> exact id rfl
/-- A call of a function value. -/
def ACall (E : Env) (f : AV) (args : List AV) (H : AHeap) (K Qp : AV → AHeap → Prop) : Prop := AInv E f args H fun
  | .ret v, H' => K v H'
  | .panic v, H' => Qp v H'
theorem ops_call {f : Operand} {as : Array Operand} {ts : Array TypeId} : AOps E n ops Q (⟨d, .call ⟨.value f, as, ts⟩, ty, pos, aft, g⟩ :: rest) fr H =
    AG ops g fr (ACall E (aeval E fr f) (as.toList.map (aeval E fr)) H (fun v H' => AOps E n ops Q rest (aput n fr d v) H') (fun v H' => Q (.panic v) fr H')) (AOps E n ops Q rest (aput n fr d (.tuple [])) H) := by
  rw [ops_cons]; unfold AOp; simp only [kindOf]; unfold ACall; exact id rfl
end
end
end Go.Zk
namespace Go.Zk

def R1 (o : Option AV) (E : Env) (n : Nat) (ops : Array Oper) (Q : AExit → AFr → AHeap → Prop) (rest : List Oper) (d : Option Tmp) (fr : AFr) (H : AHeap) : Prop :=
  AK o fun v => AOps E n ops Q rest (aput n fr d v) H
def R2 (o : Option (AV × AHeap)) (E : Env) (n : Nat) (ops : Array Oper) (Q : AExit → AFr → AHeap → Prop) (rest : List Oper) (d : Option Tmp) (fr : AFr) : Prop :=
  AK2 o fun v H' => AOps E n ops Q rest (aput n fr d v) H'
def Rn (o : Option ((Nat → AV) × ABlk)) (E : Env) (n : Nat) (ops : Array Oper) (Q : AExit → AFr → AHeap → Prop) (rest : List Oper) (d : Option Tmp) (fr : AFr) (H : AHeap) : Prop :=
  AKn o H.next fun v b => AOps E n ops Q rest (aput n fr d v) (H.alloc b)
def Rc (f : AV) (args : List AV) (E : Env) (n : Nat) (ops : Array Oper) (Q : AExit → AFr → AHeap → Prop) (rest : List Oper) (d : Option Tmp) (fr : AFr) (H : AHeap) : Prop :=
  ACall E f args H (fun v H' => AOps E n ops Q rest (aput n fr d v) H') (fun v H' => Q (.panic v) fr H')
def Rg (t : Option Tmp) (want : Bool) (o : Oper) (E : Env) (n : Nat) (ops : Array Oper) (Q : AExit → AFr → AHeap → Prop) (rest : List Oper) (fr : AFr) (H : AHeap) : Prop :=
  AGd t fr want (AOps E n ops Q (o :: rest) fr H) (AOps E n ops Q rest (aput n fr o.dst (.tuple [])) H)
def Rb (x : AV) (want : Bool) (o : Oper) (E : Env) (n : Nat) (ops : Array Oper) (Q : AExit → AFr → AHeap → Prop) (rest : List Oper) (fr : AFr) (H : AHeap) : Prop :=
  AGb x want (AOps E n ops Q (o :: rest) fr H) (AOps E n ops Q rest (aput n fr o.dst (.tuple [])) H)
def Ri (x : AV) (E : Env) (n : Nat) (t e : Code) (Q : AExit → AFr → AHeap → Prop) (fr : AFr) (H : AHeap) : Prop := AC x (AWp E n t Q fr H) (AWp E n e Q fr H)

section
variable {E : Env} {n : Nat} {Q : AExit → AFr → AHeap → Prop} {fr : AFr} {H H' : AHeap} {ops : Array Oper} {X Y : Prop} {d : Option Tmp} {ty : TypeId} {pos : String} {aft : Array Edge} {g : Option (Nat × Bool)} {rest : List Oper} {op : Op}
@[simp] theorem r1_some {v : AV} : R1 (some v) E n ops Q rest d fr H = AOps E n ops Q rest (aput n fr d v) H := by rw [R1, ak_some]
@[simp] theorem r2_some {v : AV} : R2 (some (v, H')) E n ops Q rest d fr = AOps E n ops Q rest (aput n fr d v) H' := by rw [R2, ak2_some]
@[simp] theorem rn_some {f : Nat → AV} {b : ABlk} : Rn (some (f, b)) E n ops Q rest d fr H = AOps E n ops Q rest (aput n fr d (f H.next)) (H.alloc b) := by rw [Rn, akn_some]
@[simp] theorem rg_some {t : Tmp} {w : Bool} {o : Oper} : Rg (some t) w o E n ops Q rest fr H = Rb (fr t) w o E n ops Q rest fr H := by rw [Rg, agd_some, Rb]
@[simp] theorem rb_bool {b w : Bool} {d : Option Tmp} : Rb (.bool b) w ⟨d, op, ty, pos, aft, g⟩ E n ops Q rest fr H = if b = w then AOps E n ops Q (⟨d, op, ty, pos, aft, g⟩ :: rest) fr H else AOps E n ops Q rest (aput n fr d (.tuple [])) H := by rw [Rb, agb_bool]
@[simp] theorem rb_none {w : Bool} {d : Option Tmp} : Rb (.tuple []) w ⟨d, op, ty, pos, aft, g⟩ E n ops Q rest fr H = AOps E n ops Q rest (aput n fr d (.tuple [])) H := by rw [Rb, agb_none]
@[simp] theorem ri_bool {b : Bool} {t e : Code} : Ri (.bool b) E n t e Q fr H = if b = true then AWp E n t Q fr H else AWp E n e Q fr H := by rw [Ri, ac_bool]
@[simp] theorem wp_if {c : Operand} {t e : Code} : AWp E n (.cond c t e) Q fr H = Ri (aeval E fr c) E n t e Q fr H := by rw [wp_cond, Ri]
@[simp] theorem r_guard {j : Nat} {w : Bool} : AOps E n ops Q (⟨d, op, ty, pos, aft, some (j, w)⟩ :: rest) fr H = Rg ((ops[j]?).bind (·.dst)) w ⟨d, op, ty, pos, aft, none⟩ E n ops Q rest fr H := by
  rw [Rg, ops_cons, ops_cons, ag_none, ag_some]; exact id rfl

@[simp] theorem r_move {x : Operand} : AOps E n ops Q (⟨d, .move x, ty, pos, aft, none⟩ :: rest) fr H = AOps E n ops Q rest (aput n fr d (aeval E fr x)) H := by rw [ops_move, ag_none]

@[simp] theorem r_assign {x : Operand} : AOps E n ops Q (⟨d, .assign x, ty, pos, aft, none⟩ :: rest) fr H = AOps E n ops Q rest (aput n fr d (aeval E fr x)) H := by rw [ops_assign, ag_none]

@[simp] theorem r_pick {c x y : Operand} : AOps E n ops Q (⟨d, .pick c x y, ty, pos, aft, none⟩ :: rest) fr H = R1 (apick (aeval E fr c) (aeval E fr x) (aeval E fr y)) E n ops Q rest d fr H := by rw [ops_pick, ag_none]; exact id rfl

@[simp] theorem r_load {t : TypeId} {x : Operand} : AOps E n ops Q (⟨d, .load t x, ty, pos, aft, none⟩ :: rest) fr H = R1 (aload E.P t H (aeval E fr x)) E n ops Q rest d fr H := by rw [ops_load, ag_none]; exact id rfl

@[simp] theorem r_binOp {b : BinOp} {t u : TypeId} {x y : Operand} : AOps E n ops Q (⟨d, .binOp b t x y u, ty, pos, aft, none⟩ :: rest) fr H = R1 (abin E.P b t (aeval E fr x) (aeval E fr y)) E n ops Q rest d fr H := by rw [ops_binOp, ag_none]; exact id rfl

@[simp] theorem r_unOp {b : UnOp} {t : TypeId} {x : Operand} : AOps E n ops Q (⟨d, .unOp b t x, ty, pos, aft, none⟩ :: rest) fr H = R1 (aun b (aeval E fr x)) E n ops Q rest d fr H := by rw [ops_unOp, ag_none]; exact id rfl

@[simp] theorem r_makeFunc {f : FuncId} {p q : Array Operand} : AOps E n ops Q (⟨d, .makeFunc (.func f) p q, ty, pos, aft, none⟩ :: rest) fr H = AOps E n ops Q rest (aput n fr d (.func f (p.toList.map (aeval E fr)) (q.toList.map (aeval E fr)))) H := by rw [ops_makeFunc, ag_none]

@[simp] theorem r_slice {t : TypeId} {x : Operand} {lo hi mx : Option Operand} : AOps E n ops Q (⟨d, .slice t x lo hi mx, ty, pos, aft, none⟩ :: rest) fr H = R1 (asl E.P t H (aeval E fr x) (lo.map (aeval E fr)) (hi.map (aeval E fr)) (mx.map (aeval E fr))) E n ops Q rest d fr H := by rw [ops_slice, ag_none]; exact id rfl

@[simp] theorem r_fieldAddr {t : TypeId} {x : Operand} {i : Nat} : AOps E n ops Q (⟨d, .fieldAddr t x i, ty, pos, aft, none⟩ :: rest) fr H = R1 (afa (tfa E.P t i) (aeval E fr x)) E n ops Q rest d fr H := by rw [ops_fieldAddr, ag_none]; exact id rfl

@[simp] theorem r_field {t : TypeId} {x : Operand} {i : Nat} : AOps E n ops Q (⟨d, .field t x i, ty, pos, aft, none⟩ :: rest) fr H = R1 (afv (tfv E.P t i) (aeval E fr x)) E n ops Q rest d fr H := by rw [ops_field, ag_none]; exact id rfl

@[simp] theorem r_indexAddr {t : TypeId} {x i : Operand} : AOps E n ops Q (⟨d, .indexAddr t x i, ty, pos, aft, none⟩ :: rest) fr H = R1 (aidx E.P t (aeval E fr x) (aeval E fr i)) E n ops Q rest d fr H := by rw [ops_indexAddr, ag_none]; exact id rfl

@[simp] theorem r_index {t : TypeId} {x i : Operand} : AOps E n ops Q (⟨d, .index t x i, ty, pos, aft, none⟩ :: rest) fr H = R1 (aindex E.P t (aeval E fr x) (aeval E fr i)) E n ops Q rest d fr H := by rw [ops_index, ag_none]; exact id rfl

@[simp] theorem r_extract {x : Operand} {i : Nat} : AOps E n ops Q (⟨d, .extract x i, ty, pos, aft, none⟩ :: rest) fr H = R1 (aextract (aeval E fr x) i) E n ops Q rest d fr H := by rw [ops_extract, ag_none]; exact id rfl

@[simp] theorem r_lookup {t : TypeId} {x i : Operand} {ok : Bool} : AOps E n ops Q (⟨d, .lookup t x i ok, ty, pos, aft, none⟩ :: rest) fr H = R1 (alookup E.P t H (aeval E fr x) (aeval E fr i) ok) E n ops Q rest d fr H := by rw [ops_lookup, ag_none]; exact id rfl

@[simp] theorem r_len {x : Operand} {t : TypeId} : AOps E n ops Q (⟨d, .call ⟨.builtin .len, #[x], #[t]⟩, ty, pos, aft, none⟩ :: rest) fr H = R1 (alen E.P t H (aeval E fr x)) E n ops Q rest d fr H := by rw [ops_len, ag_none]; exact id rfl

@[simp] theorem r_min {x y : Operand} {ts : Array TypeId} : AOps E n ops Q (⟨d, .call ⟨.builtin .min, #[x, y], ts⟩, ty, pos, aft, none⟩ :: rest) fr H = R1 (amm true (aeval E fr x) (aeval E fr y)) E n ops Q rest d fr H := by rw [ops_min, ag_none]; exact id rfl

@[simp] theorem r_max {x y : Operand} {ts : Array TypeId} : AOps E n ops Q (⟨d, .call ⟨.builtin .max, #[x, y], ts⟩, ty, pos, aft, none⟩ :: rest) fr H = R1 (amm false (aeval E fr x) (aeval E fr y)) E n ops Q rest d fr H := by rw [ops_max, ag_none]; exact id rfl

@[simp] theorem r_alloc {t : TypeId} : AOps E n ops Q (⟨d, .alloc t, ty, pos, aft, none⟩ :: rest) fr H = Rn (anew E (.alloc t) (aeval E fr)) E n ops Q rest d fr H := by rw [ops_alloc, ag_none]; exact id rfl

@[simp] theorem r_box {t : TypeId} {x : Operand} : AOps E n ops Q (⟨d, .box t x, ty, pos, aft, none⟩ :: rest) fr H = Rn (anew E (.box t x) (aeval E fr)) E n ops Q rest d fr H := by rw [ops_box, ag_none]; exact id rfl

@[simp] theorem r_buildSlice {t : TypeId} {l : Nat} {ps : Array (Nat × Operand)} : AOps E n ops Q (⟨d, .buildSlice t l ps, ty, pos, aft, none⟩ :: rest) fr H = Rn (anew E (.buildSlice t l ps) (aeval E fr)) E n ops Q rest d fr H := by rw [ops_buildSlice, ag_none]; exact id rfl

@[simp] theorem r_makeMap {t : TypeId} {x : Option Operand} : AOps E n ops Q (⟨d, .makeMap t x, ty, pos, aft, none⟩ :: rest) fr H = Rn (anew E (.makeMap t x) (aeval E fr)) E n ops Q rest d fr H := by rw [ops_makeMap, ag_none]; exact id rfl

@[simp] theorem r_makeSlice {t : TypeId} {x y : Operand} : AOps E n ops Q (⟨d, .makeSlice t x y, ty, pos, aft, none⟩ :: rest) fr H = Rn (anew E (.makeSlice t x y) (aeval E fr)) E n ops Q rest d fr H := by rw [ops_makeSlice, ag_none]; exact id rfl

@[simp] theorem r_range {t : TypeId} {x : Operand} : AOps E n ops Q (⟨d, .range t x, ty, pos, aft, none⟩ :: rest) fr H = Rn (anew E (.range t x) (aeval E fr)) E n ops Q rest d fr H := by rw [ops_range, ag_none]; exact id rfl

@[simp] theorem r_store {t : TypeId} {x y : Operand} : AOps E n ops Q (⟨d, .store t x y, ty, pos, aft, none⟩ :: rest) fr H = R2 (astore E.P t H (aeval E fr x) (aeval E fr y)) E n ops Q rest d fr := by rw [ops_store, ag_none]; exact id rfl

@[simp] theorem r_mapUpdate {t : TypeId} {m x y : Operand} : AOps E n ops Q (⟨d, .mapUpdate t m x y, ty, pos, aft, none⟩ :: rest) fr H = R2 (amapset E.P t H (aeval E fr m) (aeval E fr x) (aeval E fr y)) E n ops Q rest d fr := by rw [ops_mapUpdate, ag_none]; exact id rfl

@[simp] theorem r_next {x : Operand} : AOps E n ops Q (⟨d, .next x true, ty, pos, aft, none⟩ :: rest) fr H = R2 (anext H (aeval E fr x)) E n ops Q rest d fr := by rw [ops_next, ag_none]; exact id rfl

@[simp] theorem r_append {x y : Operand} {t u : TypeId} : AOps E n ops Q (⟨d, .call ⟨.builtin .append, #[x, y], #[t, u]⟩, ty, pos, aft, none⟩ :: rest) fr H = R2 (aappend E.P t u H (aeval E fr x) (aeval E fr y)) E n ops Q rest d fr := by rw [ops_append, ag_none]; exact id rfl

@[simp] theorem r_build {t : TypeId} {ps : Array (Nat × Operand)} : AOps E n ops Q (⟨d, .build t ps, ty, pos, aft, none⟩ :: rest) fr H = R1 (abuild E.P t (ps.toList.map fun q => (q.1, aeval E fr q.2))) E n ops Q rest d fr H := by rw [ops_build, ag_none]; exact id rfl

@[simp] theorem r_call {f : Operand} {ps : Array Operand} {ts : Array TypeId} : AOps E n ops Q (⟨d, .call ⟨.value f, ps, ts⟩, ty, pos, aft, none⟩ :: rest) fr H = Rc (aeval E fr f) (ps.toList.map (aeval E fr)) E n ops Q rest d fr H := by rw [ops_call, ag_none]; exact id rfl

end
end Go.Zk
namespace Go.Zk
attribute [simp] aeval avOf av1 afield
@[simp] theorem upd_at {α : Type} (f : Nat → α) (i j : Nat) (v : α) : upd f i v j = if j = i then v else f j := by rw [upd]
@[simp] theorem aput_lt {n d : Nat} {fr : AFr} {v : AV} (h : d < n) : aput n fr (some d) v = upd fr d v := by simp only [aput, h, if_true]
@[simp] theorem aput_no {n : Nat} {fr : AFr} {v : AV} : aput n fr none v = fr := by rw [aput]
@[simp] theorem argFr_at {args : List AV} {i : Nat} : argFr args i = args.getD i (.tuple []) := by rw [argFr]
@[simp] theorem next_alloc {H : AHeap} {b : ABlk} : (H.alloc b).next = H.next + 1 := by rw [AHeap.alloc]
@[simp] theorem next_set {H : AHeap} {b : ABlk} {i : Nat} : (H.set i b).next = H.next := by rw [AHeap.set]
@[simp] theorem next_nil : AHeap.nil.next = 0 := by rw [AHeap.nil]
@[simp] theorem get_alloc {H : AHeap} {b : ABlk} {i : Nat} : (H.alloc b).get i = if i = H.next then b else H.get i := by rw [AHeap.alloc]; simp only [upd_at]
@[simp] theorem get_set {H : AHeap} {b : ABlk} {i j : Nat} : (H.set i b).get j = if j = i then b else H.get j := by rw [AHeap.set]; simp only [upd_at]
@[simp] theorem get_nil {i : Nat} : AHeap.nil.get i = .dead := by rw [AHeap.nil]

section
variable {E : Env} {n : Nat} {Q : AExit → AFr → AHeap → Prop} {fr : AFr} {H H' : AHeap} {ops : Array Oper} {d : Option Tmp} {rest : List Oper}

theorem rc_pf {f : FuncId} {first cap args args' : List AV} {res : AV} (h : PF E f args' res) (hb : Borrow H (first ++ args ++ cap) args' res) (k : AOps E n ops Q rest (aput n fr d res) H) :
    Rc (.func f first cap) args E n ops Q rest d fr H := by
  unfold Rc ACall
  exact ainv_pf h hb k
/-- The same with pure arguments. -/
theorem rc_pure {f : FuncId} {first cap args : List AV} {res : AV} (h : PF E f (first ++ args ++ cap) res) (hp : AV.purs (first ++ args ++ cap) = true) (k : AOps E n ops Q rest (aput n fr d res) H) :
    Rc (.func f first cap) args E n ops Q rest d fr H := rc_pf h (.pure hp) k
theorem rc_af {f : FuncId} {first cap args : List AV} (h : AF E f (first ++ args ++ cap) H fun
    | .ret v, H' => AOps E n ops Q rest (aput n fr d v) H'
    | .panic v, H' => Q (.panic v) fr H') : Rc (.func f first cap) args E n ops Q rest d fr H := by
  unfold Rc ACall
  exact ainv_func h

/-! regions of open order -/
def H1 (o : Option AV) (r : Option (List Nat)) (E : Env) (n : Nat) (ops : Array Oper) (N : Nat) (K : ALog → AFr → AHeap → Prop) (rest : List Oper) (i : Nat) (log : ALog) (d : Option Tmp) (fr : AFr) (H : AHeap) : Prop :=
  AK o fun v => AHead E n ops N K rest (i + 1) (log ++ [(r, none)]) (aput n fr d v) H
def Hn (o : Option ((Nat → AV) × ABlk)) (r : Option (List Nat)) (E : Env) (n : Nat) (ops : Array Oper) (N : Nat) (K : ALog → AFr → AHeap → Prop) (rest : List Oper) (i : Nat) (log : ALog) (d : Option Tmp) (fr : AFr) (H : AHeap) : Prop :=
  AKn o (N + i) fun v b => AHead E n ops N K rest (i + 1) (log ++ [(r, none)]) (aput n fr d v) (H.set (N + i) b)
def Hs (p : AV) (o : Option (AV × AHeap)) (E : Env) (n : Nat) (ops : Array Oper) (N : Nat) (K : ALog → AFr → AHeap → Prop) (rest : List Oper) (i : Nat) (log : ALog) (d : Option Tmp) (fr : AFr) (H : AHeap) : Prop :=
  match p, o with
  | .ptr id _, some (v, H') => AHead E n ops N K rest (i + 1) (log ++ [(some [id], some id)]) (aput n fr d v) (H.set id (H'.get id))
  | _, _ => False
def Hc (f : AV) (args : List AV) (E : Env) (n : Nat) (ops : Array Oper) (N : Nat) (K : ALog → AFr → AHeap → Prop) (rest : List Oper) (i : Nat) (log : ALog) (d : Option Tmp) (fr : AFr) (H : AHeap) : Prop :=
  ∃ r res, AQuiet E f args (H.only r) res ∧ AHead E n ops N K rest (i + 1) (log ++ [(r, none)]) (aput n fr d res) H
def Hg (t : Option Tmp) (want : Bool) (o : Oper) (E : Env) (n : Nat) (ops : Array Oper) (N : Nat) (K : ALog → AFr → AHeap → Prop) (rest : List Oper) (i : Nat) (log : ALog) (fr : AFr) (H : AHeap) : Prop :=
  AGd t fr want (AHead E n ops N K (o :: rest) i log fr H) (AHead E n ops N K rest (i + 1) (log ++ [(some [], none)]) (aput n fr o.dst (.tuple [])) H)
def Hb (x : AV) (want : Bool) (o : Oper) (E : Env) (n : Nat) (ops : Array Oper) (N : Nat) (K : ALog → AFr → AHeap → Prop) (rest : List Oper) (i : Nat) (log : ALog) (fr : AFr) (H : AHeap) : Prop :=
  AGb x want (AHead E n ops N K (o :: rest) i log fr H) (AHead E n ops N K rest (i + 1) (log ++ [(some [], none)]) (aput n fr o.dst (.tuple [])) H)
variable {N : Nat} {K : ALog → AFr → AHeap → Prop} {i : Nat} {log : ALog} {r : Option (List Nat)} {ty : TypeId} {pos : String} {aft : Array Edge} {g : Option (Nat × Bool)} {op : Op}
@[simp] theorem h1_some {v : AV} : H1 (some v) r E n ops N K rest i log d fr H = AHead E n ops N K rest (i + 1) (log ++ [(r, none)]) (aput n fr d v) H := by rw [H1, ak_some]
@[simp] theorem hn_some {f : Nat → AV} {b : ABlk} : Hn (some (f, b)) r E n ops N K rest i log d fr H = AHead E n ops N K rest (i + 1) (log ++ [(r, none)]) (aput n fr d (f (N + i))) (H.set (N + i) b) := by rw [Hn, akn_some]
@[simp] theorem hs_some {id off : Nat} {v : AV} : Hs (.ptr id off) (some (v, H')) E n ops N K rest i log d fr H = AHead E n ops N K rest (i + 1) (log ++ [(some [id], some id)]) (aput n fr d v) (H.set id (H'.get id)) := by rw [Hs]
@[simp] theorem hg_some {t : Tmp} {w : Bool} {o : Oper} : Hg (some t) w o E n ops N K rest i log fr H = Hb (fr t) w o E n ops N K rest i log fr H := by rw [Hg, agd_some, Hb]
@[simp] theorem hb_bool {b w : Bool} : Hb (.bool b) w ⟨d, op, ty, pos, aft, g⟩ E n ops N K rest i log fr H = if b = w then AHead E n ops N K (⟨d, op, ty, pos, aft, g⟩ :: rest) i log fr H else AHead E n ops N K rest (i + 1) (log ++ [(some [], none)]) (aput n fr d (.tuple [])) H := by rw [Hb, agb_bool]
@[simp] theorem hb_none {w : Bool} : Hb (.tuple []) w ⟨d, op, ty, pos, aft, g⟩ E n ops N K rest i log fr H = AHead E n ops N K rest (i + 1) (log ++ [(some [], none)]) (aput n fr d (.tuple [])) H := by rw [Hb, agb_none]
@[simp] theorem h_nil : AHead E n ops N K [] i log fr H = K log fr H := by rw [AHead]
theorem h_cons : AHead E n ops N K (⟨d, op, ty, pos, aft, g⟩ :: rest) i log fr H = AG ops g fr (AQ E ⟨d, op, ty, pos, aft, g⟩ fr H (N + i) fun v b r => AHead E n ops N K rest (i + 1) (log ++ [(r, effId b)]) (aput n fr d v) (setB H (N + i) b))
    (AHead E n ops N K rest (i + 1) (log ++ [(some [], none)]) (aput n fr d (.tuple [])) H) := by rw [AHead, guard_eq]
@[simp] theorem h_guard {j : Nat} {w : Bool} : AHead E n ops N K (⟨d, op, ty, pos, aft, some (j, w)⟩ :: rest) i log fr H = Hg ((ops[j]?).bind (·.dst)) w ⟨d, op, ty, pos, aft, none⟩ E n ops N K rest i log fr H := by
  rw [Hg, h_cons, h_cons, ag_none, ag_some]; exact id rfl
theorem h_0 (hk : kindOf op = 0) : AHead E n ops N K (⟨d, op, ty, pos, aft, none⟩ :: rest) i log fr H = H1 (aval2 E op (aeval E fr) H) (some (footOf op (aeval E fr))) E n ops N K rest i log d fr H := by
  rw [h_cons, ag_none]; unfold AQ aquiet; simp only [hk]; unfold H1 AK
  cases aval2 E op (aeval E fr) H <;> exact id rfl
theorem h_1 (hk : kindOf op = 1) : AHead E n ops N K (⟨d, op, ty, pos, aft, none⟩ :: rest) i log fr H = Hn (anew E op (aeval E fr)) (some (footOf op (aeval E fr))) E n ops N K rest i log d fr H := by
  rw [h_cons, ag_none]; unfold AQ aquiet; simp only [hk]; unfold Hn AKn
  cases anew E op (aeval E fr) <;> exact id rfl
/-- What is noted of a reading operation matters only where a name is set: it is kept short. -/
def rdOf (op : Op) (E : Env) (fr : AFr) : Option (List Nat) := some (footOf op (aeval E fr))
theorem h_0' (hk : kindOf op = 0) : AHead E n ops N K (⟨d, op, ty, pos, aft, none⟩ :: rest) i log fr H = H1 (aval2 E op (aeval E fr) H) (rdOf op E fr) E n ops N K rest i log d fr H := h_0 hk
@[simp] theorem h_move {x : Operand} : AHead E n ops N K (⟨d, .move x, ty, pos, aft, none⟩ :: rest) i log fr H = AHead E n ops N K rest (i + 1) (log ++ [(rdOf (.move x) E fr, none)]) (aput n fr d (aeval E fr x)) H := by rw [h_0' rfl]; simp only [aval2, aval, h1_some]
@[simp] theorem h_assign {x : Operand} : AHead E n ops N K (⟨d, .assign x, ty, pos, aft, none⟩ :: rest) i log fr H = AHead E n ops N K rest (i + 1) (log ++ [(rdOf (.assign x) E fr, none)]) (aput n fr d (aeval E fr x)) H := by rw [h_0' rfl]; simp only [aval2, aval, h1_some]
@[simp] theorem h_pick {c x y : Operand} : AHead E n ops N K (⟨d, .pick c x y, ty, pos, aft, none⟩ :: rest) i log fr H = H1 (apick (aeval E fr c) (aeval E fr x) (aeval E fr y)) (rdOf (.pick c x y) E fr) E n ops N K rest i log d fr H := by rw [h_0' rfl]; simp only [aval2, aval]; unfold apick; exact id rfl
@[simp] theorem h_load {t : TypeId} {x : Operand} : AHead E n ops N K (⟨d, .load t x, ty, pos, aft, none⟩ :: rest) i log fr H = H1 (aload E.P t H (aeval E fr x)) (rdOf (.load t x) E fr) E n ops N K rest i log d fr H := by rw [h_0' rfl]; simp only [aval2, aval]
@[simp] theorem h_binOp {b : BinOp} {t u : TypeId} {x y : Operand} : AHead E n ops N K (⟨d, .binOp b t x y u, ty, pos, aft, none⟩ :: rest) i log fr H = H1 (abin E.P b t (aeval E fr x) (aeval E fr y)) (rdOf (.binOp b t x y u) E fr) E n ops N K rest i log d fr H := by rw [h_0' rfl]; simp only [aval2, aval]
@[simp] theorem h_unOp {b : UnOp} {t : TypeId} {x : Operand} : AHead E n ops N K (⟨d, .unOp b t x, ty, pos, aft, none⟩ :: rest) i log fr H = H1 (aun b (aeval E fr x)) (rdOf (.unOp b t x) E fr) E n ops N K rest i log d fr H := by rw [h_0' rfl]; simp only [aval2, aval]
@[simp] theorem h_fieldAddr {t : TypeId} {x : Operand} {j : Nat} : AHead E n ops N K (⟨d, .fieldAddr t x j, ty, pos, aft, none⟩ :: rest) i log fr H = H1 (afa (tfa E.P t j) (aeval E fr x)) (rdOf (.fieldAddr t x j) E fr) E n ops N K rest i log d fr H := by rw [h_0' rfl]; simp only [aval2, aval]; unfold afa; exact id rfl
@[simp] theorem h_field {t : TypeId} {x : Operand} {j : Nat} : AHead E n ops N K (⟨d, .field t x j, ty, pos, aft, none⟩ :: rest) i log fr H = H1 (afv (tfv E.P t j) (aeval E fr x)) (rdOf (.field t x j) E fr) E n ops N K rest i log d fr H := by rw [h_0' rfl]; simp only [aval2, aval]; unfold afv; exact id rfl
@[simp] theorem h_indexAddr {t : TypeId} {x y : Operand} : AHead E n ops N K (⟨d, .indexAddr t x y, ty, pos, aft, none⟩ :: rest) i log fr H = H1 (aidx E.P t (aeval E fr x) (aeval E fr y)) (rdOf (.indexAddr t x y) E fr) E n ops N K rest i log d fr H := by rw [h_0' rfl]; simp only [aval2, aval]
@[simp] theorem h_index {t : TypeId} {x y : Operand} : AHead E n ops N K (⟨d, .index t x y, ty, pos, aft, none⟩ :: rest) i log fr H = H1 (aindex E.P t (aeval E fr x) (aeval E fr y)) (rdOf (.index t x y) E fr) E n ops N K rest i log d fr H := by rw [h_0' rfl]; simp only [aval2, aval]
@[simp] theorem h_extract {x : Operand} {j : Nat} : AHead E n ops N K (⟨d, .extract x j, ty, pos, aft, none⟩ :: rest) i log fr H = H1 (aextract (aeval E fr x) j) (rdOf (.extract x j) E fr) E n ops N K rest i log d fr H := by rw [h_0' rfl]; simp only [aval2, aval]
@[simp] theorem h_lookup {t : TypeId} {x y : Operand} {ok : Bool} : AHead E n ops N K (⟨d, .lookup t x y ok, ty, pos, aft, none⟩ :: rest) i log fr H = H1 (alookup E.P t H (aeval E fr x) (aeval E fr y) ok) (rdOf (.lookup t x y ok) E fr) E n ops N K rest i log d fr H := by rw [h_0' rfl]; simp only [aval2]
@[simp] theorem h_slice {t : TypeId} {x : Operand} {lo hi mx : Option Operand} : AHead E n ops N K (⟨d, .slice t x lo hi mx, ty, pos, aft, none⟩ :: rest) i log fr H = H1 (asl E.P t H (aeval E fr x) (lo.map (aeval E fr)) (hi.map (aeval E fr)) (mx.map (aeval E fr))) (rdOf (.slice t x lo hi mx) E fr) E n ops N K rest i log d fr H := by rw [h_0' rfl]; simp only [aval2, aval]
@[simp] theorem h_makeFunc {f : FuncId} {p q : Array Operand} : AHead E n ops N K (⟨d, .makeFunc (.func f) p q, ty, pos, aft, none⟩ :: rest) i log fr H = AHead E n ops N K rest (i + 1) (log ++ [(rdOf (.makeFunc (.func f) p q) E fr, none)]) (aput n fr d (.func f (p.toList.map (aeval E fr)) (q.toList.map (aeval E fr)))) H := by rw [h_0' rfl]; simp only [aval2, aval, h1_some]
@[simp] theorem h_len {x : Operand} {t : TypeId} : AHead E n ops N K (⟨d, .call ⟨.builtin .len, #[x], #[t]⟩, ty, pos, aft, none⟩ :: rest) i log fr H = H1 (alen E.P t H (aeval E fr x)) (rdOf (.call ⟨.builtin .len, #[x], #[t]⟩) E fr) E n ops N K rest i log d fr H := by rw [h_0' rfl]; simp only [aval2, aval, acall0]
@[simp] theorem h_alloc {t : TypeId} : AHead E n ops N K (⟨d, .alloc t, ty, pos, aft, none⟩ :: rest) i log fr H = Hn (anew E (.alloc t) (aeval E fr)) (rdOf (.alloc t) E fr) E n ops N K rest i log d fr H := h_1 rfl
@[simp] theorem h_box {t : TypeId} {x : Operand} : AHead E n ops N K (⟨d, .box t x, ty, pos, aft, none⟩ :: rest) i log fr H = Hn (anew E (.box t x) (aeval E fr)) (rdOf (.box t x) E fr) E n ops N K rest i log d fr H := h_1 rfl
@[simp] theorem h_buildSlice {t : TypeId} {l : Nat} {ps : Array (Nat × Operand)} : AHead E n ops N K (⟨d, .buildSlice t l ps, ty, pos, aft, none⟩ :: rest) i log fr H = Hn (anew E (.buildSlice t l ps) (aeval E fr)) (rdOf (.buildSlice t l ps) E fr) E n ops N K rest i log d fr H := h_1 rfl
@[simp] theorem h_makeMap {t : TypeId} {x : Option Operand} : AHead E n ops N K (⟨d, .makeMap t x, ty, pos, aft, none⟩ :: rest) i log fr H = Hn (anew E (.makeMap t x) (aeval E fr)) (rdOf (.makeMap t x) E fr) E n ops N K rest i log d fr H := h_1 rfl
@[simp] theorem h_makeSlice {t : TypeId} {x y : Operand} : AHead E n ops N K (⟨d, .makeSlice t x y, ty, pos, aft, none⟩ :: rest) i log fr H = Hn (anew E (.makeSlice t x y) (aeval E fr)) (rdOf (.makeSlice t x y) E fr) E n ops N K rest i log d fr H := h_1 rfl
@[simp] theorem h_store {t : TypeId} {a x : Operand} : AHead E n ops N K (⟨d, .store t a x, ty, pos, aft, none⟩ :: rest) i log fr H = Hs (aeval E fr a) (astore E.P t H (aeval E fr a) (aeval E fr x)) E n ops N K rest i log d fr H := by
  rw [h_cons, ag_none]; unfold AQ; simp only [kindOf]; unfold Hs
  cases aeval E fr a <;> exact id rfl
@[simp] theorem h_build {t : TypeId} {ps : Array (Nat × Operand)} : AHead E n ops N K (⟨d, .build t ps, ty, pos, aft, none⟩ :: rest) i log fr H = H1 (abuild E.P t (ps.toList.map fun q => (q.1, aeval E fr q.2))) (rdOf (.build t ps) E fr) E n ops N K rest i log d fr H := by
  rw [h_cons, ag_none]; unfold AQ aquiet; simp only [kindOf]; unfold H1 AK rdOf
  cases abuild E.P t (ps.toList.map fun q => (q.1, aeval E fr q.2)) <;> exact id rfl
@[simp] theorem h_call {f : Operand} {ps : Array Operand} {ts : Array TypeId} : AHead E n ops N K (⟨d, .call ⟨.value f, ps, ts⟩, ty, pos, aft, none⟩ :: rest) i log fr H = Hc (aeval E fr f) (ps.toList.map (aeval E fr)) E n ops N K rest i log d fr H := by
  rw [h_cons, ag_none]; unfold AQ; simp only [kindOf]; unfold Hc; exact id rfl
/-- Pure arguments. -/
theorem hc_pure {f : FuncId} {first cap args : List AV} {res : AV} (h : PF E f (first ++ args ++ cap) res) (hp : AV.purs (first ++ args ++ cap) = true) (k : AHead E n ops N K rest (i + 1) (log ++ [(some [], none)]) (aput n fr d res) H) :
    Hc (.func f first cap) args E n ops N K rest i log d fr H := ⟨some [], res, aquiet_pf h (.pure hp), k⟩
/-- Arguments from named memory. -/
theorem hc_pf {f : FuncId} {first cap args args' : List AV} {res : AV} (h : PF E f args' res) (hb : Borrow H (first ++ args ++ cap) args' res) (k : AHead E n ops N K rest (i + 1) (log ++ [(none, none)]) (aput n fr d res) H) :
    Hc (.func f first cap) args E n ops N K rest i log d fr H := ⟨none, res, aquiet_pf h hb, k⟩
@[simp] theorem hasPut_nil : hasPut [] = false := rfl
@[simp] theorem hasPut_snoc_none {l : ALog} {r : Option (List Nat)} : hasPut (l ++ [(r, none)]) = hasPut l := by
  induction l with
  | nil => rfl
  | cons q l ih =>
    obtain ⟨r', w⟩ := q
    cases w with
    | none => simpa [hasPut] using ih
    | some w => rfl
theorem logOk_none {s : Nat} {log : ALog} (h : hasPut log = false) : logOk ops s log = true := by unfold logOk; rw [h]; rfl
@[simp] theorem logOk_nil {s : Nat} : logOk ops s [] = true := rfl
/-- A region of open order, by a plan. -/
theorem wp_open {id' : Nat} (l : List (Nat × Bool)) (h : planOk ops l = true) (k : AStages E n ops Q l 0 fr H) : AWp E n (.region id' ops true) Q fr H := wp_draw (.st l) ⟨h, k⟩
/-- A region of open order, order by order. -/
theorem wp_all {id' : Nat} (k : ∀ l ∈ dexts ops ops.size (Array.replicate ops.size false), AOps E n ops Q (l.filterMap fun i => ops[i]?) fr H) : AWp E n (.region id' ops true) Q fr H := wp_draw .all k
@[simp] theorem stages_nil {s : Nat} : AStages E n ops Q [] s fr H = Q .normal fr H := by rw [AStages]
def AK3 (E : Env) (n : Nat) (ops : Array Oper) (Q : AExit → AFr → AHeap → Prop) (l : List (Nat × Bool)) (s m : Nat) : ALog → AFr → AHeap → Prop := fun log fr H => logOk ops s log = true ∧ AStages E n ops Q l m fr H
@[simp] theorem ak3_eq {m s : Nat} {l : List (Nat × Bool)} : AK3 E n ops Q l s m log fr H = (logOk ops s log = true ∧ AStages E n ops Q l m fr H) := by rw [AK3]
@[simp] theorem stages_open {m s : Nat} {l : List (Nat × Bool)} : AStages E n ops Q ((m, true) :: l) s fr H = AHead E n ops H.next (AK3 E n ops Q l s m) ((ops.toList.take m).drop s) s [] fr ⟨H.next + m, H.get⟩ := by rw [AStages]; exact id rfl
@[simp] theorem stages_text {m s : Nat} {l : List (Nat × Bool)} : AStages E n ops Q ((m, false) :: l) s fr H = AOps E n ops (AThen (AStages E n ops Q l m) Q) ((ops.toList.take m).drop s) fr H := by rw [AStages]
end
end Go.Zk
namespace Go.Zk

/-- A table keyed by numbers. -/
inductive Tr (α : Type) where
  | leaf
  | node (v : Option α) (l r : Tr α)

namespace Tr
variable {α : Type}
def get : Tr α → Nat → Option α
  | .leaf, _ => none
  | .node v l r, k => match Nat.beq k 0 with
    | true => v
    | false => match Nat.beq (Nat.mod k 2) 1 with
      | true => get l (Nat.div k 2)
      | false => get r (Nat.sub (Nat.div k 2) 1)
def set : Nat → Tr α → Nat → α → Tr α
  | 0, t, _, _ => t
  | d + 1, .leaf, k, x => match Nat.beq k 0 with
    | true => .node (some x) .leaf .leaf
    | false => match Nat.beq (Nat.mod k 2) 1 with
      | true => .node none (set d .leaf (Nat.div k 2) x) .leaf
      | false => .node none .leaf (set d .leaf (Nat.sub (Nat.div k 2) 1) x)
  | d + 1, .node v l r, k, x => match Nat.beq k 0 with
    | true => .node (some x) l r
    | false => match Nat.beq (Nat.mod k 2) 1 with
      | true => .node v (set d l (Nat.div k 2) x) r
      | false => .node v l (set d r (Nat.sub (Nat.div k 2) 1) x)

theorem beq_false {a b : Nat} (h : a ≠ b) : Nat.beq a b = false := by
  cases e : Nat.beq a b with
  | false => rfl
  | true => exact absurd (Nat.eq_of_beq_eq_true e) h
theorem beq_true {a b : Nat} (h : a = b) : Nat.beq a b = true := by subst h; exact Nat.beq_refl a

theorem get_node (v : Option α) (l r : Tr α) (k : Nat) : (Tr.node v l r).get k = if k = 0 then v else if k % 2 = 1 then l.get (k / 2) else r.get (k / 2 - 1) := by
  rw [get]
  by_cases h0 : k = 0
  · rw [beq_true h0, if_pos h0]
  · rw [beq_false h0, if_neg h0]
    by_cases h1 : k % 2 = 1
    · rw [show Nat.beq (Nat.mod k 2) 1 = true from beq_true h1, if_pos h1]; rfl
    · rw [show Nat.beq (Nat.mod k 2) 1 = false from beq_false h1, if_neg h1]; rfl
theorem set_succ (d : Nat) (t : Tr α) (k : Nat) (x : α) : set (d + 1) t k x =
    if k = 0 then .node (some x) (match t with | .leaf => .leaf | .node _ l _ => l) (match t with | .leaf => .leaf | .node _ _ r => r)
    else if k % 2 = 1 then .node (match t with | .leaf => none | .node v _ _ => v) (set d (match t with | .leaf => .leaf | .node _ l _ => l) (k / 2) x) (match t with | .leaf => .leaf | .node _ _ r => r)
    else .node (match t with | .leaf => none | .node v _ _ => v) (match t with | .leaf => .leaf | .node _ l _ => l) (set d (match t with | .leaf => .leaf | .node _ _ r => r) (k / 2 - 1) x) := by
  cases t with
  | leaf =>
    rw [set]
    by_cases h0 : k = 0
    · rw [beq_true h0, if_pos h0]
    · rw [beq_false h0, if_neg h0]
      by_cases h1 : k % 2 = 1
      · rw [show Nat.beq (Nat.mod k 2) 1 = true from beq_true h1, if_pos h1]; rfl
      · rw [show Nat.beq (Nat.mod k 2) 1 = false from beq_false h1, if_neg h1]; rfl
  | node v l r =>
    rw [set]
    by_cases h0 : k = 0
    · rw [beq_true h0, if_pos h0]
    · rw [beq_false h0, if_neg h0]
      by_cases h1 : k % 2 = 1
      · rw [show Nat.beq (Nat.mod k 2) 1 = true from beq_true h1, if_pos h1]; rfl
      · rw [show Nat.beq (Nat.mod k 2) 1 = false from beq_false h1, if_neg h1]; rfl
theorem get_leaf (k : Nat) : (Tr.leaf : Tr α).get k = none := by cases k <;> rfl
theorem get_set : ∀ (d : Nat) (t : Tr α) (k : Nat) (x : α) (j : Nat), k + 1 < 2 ^ d → (set d t k x).get j = if j = k then some x else t.get j
  | 0, t, k, x, j, h => by
    simp at h
  | d + 1, t, k, x, j, h => by
    have key : t.get j = if j = 0 then (match t with | .leaf => none | .node v _ _ => v) else if j % 2 = 1 then (match t with | .leaf => .leaf | .node _ l _ => l : Tr α).get (j / 2) else (match t with | .leaf => .leaf | .node _ _ r => r : Tr α).get (j / 2 - 1) := by
      cases t with
      | leaf => simp [get_leaf]
      | node v l r => exact get_node v l r j
    rw [set_succ]
    have hp : 2 ^ (d + 1) = 2 * 2 ^ d := by rw [Nat.pow_succ]; omega
    by_cases h0 : k = 0
    · subst h0
      rw [if_pos rfl, get_node, key]
      by_cases hj : j = 0
      · simp [hj]
      · simp [hj]
    · rw [if_neg h0]
      by_cases h1 : k % 2 = 1
      · rw [if_pos h1, get_node, key]
        by_cases hj : j = 0
        · rw [if_pos hj, if_pos hj, if_neg (by omega)]
        · rw [if_neg hj, if_neg hj]
          by_cases hj1 : j % 2 = 1
          · rw [if_pos hj1, if_pos hj1, get_set d _ _ _ _ (by omega)]
            by_cases e : j = k
            · subst e; simp
            · rw [if_neg e, if_neg (by omega)]
          · rw [if_neg hj1, if_neg hj1, if_neg (fun e => hj1 (by rw [e]; exact h1))]
      · rw [if_neg h1, get_node, key]
        by_cases hj : j = 0
        · rw [if_pos hj, if_pos hj, if_neg (by omega)]
        · rw [if_neg hj, if_neg hj]
          by_cases hj1 : j % 2 = 1
          · rw [if_pos hj1, if_pos hj1, if_neg (fun e => h1 (by rw [← e]; exact hj1))]
          · rw [if_neg hj1, if_neg hj1, get_set d _ _ _ _ (by omega)]
            by_cases e : j = k
            · subst e; simp
            · rw [if_neg e, if_neg (by omega)]
end Tr

/-- Frames as tables. -/
abbrev TFr := Tr AV
def TFr.fn (t : TFr) : AFr := fun i => match t.get i with
  | some v => v
  | none => .tuple []
def TFr.put (n : Nat) (t : TFr) (dst : Option Tmp) (v : AV) : Option TFr :=
  match dst with
  | none => some t
  | some d => match Nat.blt d n, Nat.blt d 1048575 with
    | true, true => some (Tr.set 20 t d v)
    | true, false => none
    | false, _ => some t
theorem blt_true {a b : Nat} (h : Nat.blt a b = true) : a < b := by simpa [Nat.blt_eq] using h
theorem blt_false {a b : Nat} (h : Nat.blt a b = false) : ¬ a < b := by
  intro k
  have : Nat.blt a b = true := by simpa [Nat.blt_eq] using k
  rw [this] at h; cases h
theorem TFr.put_fn {n : Nat} {t t' : TFr} {dst : Option Tmp} {v : AV} (h : t.put n dst v = some t') : t'.fn = aput n t.fn dst v := by
  unfold TFr.put at h
  split at h
  · cases h; rfl
  · rename_i d
    split at h
    · rename_i h1 h2
      cases h
      show _ = if d < n then _ else _
      rw [if_pos (blt_true h1)]
      funext j
      unfold TFr.fn
      rw [Tr.get_set 20 t d v j (by have := blt_true h2; omega)]
      unfold upd
      by_cases e : j = d
      · simp [e]
      · simp [e]
    · cases h
    · rename_i h1
      cases h
      show _ = if d < n then _ else _
      rw [if_neg (blt_false h1)]

def TFr.args : List AV → Nat → TFr → TFr
  | [], _, t => t
  | v :: l, i, t => TFr.args l (i + 1) (Tr.set 20 t i v)
theorem TFr.args_fn : ∀ (l : List AV) (i : Nat) (t : TFr) (j : Nat), i + l.length ≤ 1048575 → (TFr.args l i t).fn j = if i ≤ j ∧ j < i + l.length then l.getD (j - i) (.tuple []) else t.fn j
  | [], i, t, j, _ => by simp [TFr.args]; intro h1 h2; omega
  | v :: l, i, t, j, h => by
    simp only [List.length_cons] at h
    rw [TFr.args, TFr.args_fn l (i + 1) _ j (by omega)]
    simp only [List.length_cons]
    by_cases h1 : i + 1 ≤ j ∧ j < i + 1 + l.length
    · rw [if_pos h1, if_pos (by omega)]
      rw [show j - i = (j - (i + 1)) + 1 from by omega]
      simp
    · rw [if_neg h1]
      unfold TFr.fn
      rw [Tr.get_set 20 t i v j (by omega)]
      by_cases e : j = i
      · subst e; simp
      · rw [if_neg e, if_neg (by omega)]
theorem TFr.start_fn (l : List AV) (h : l.length ≤ 1048575) : (TFr.args l 0 .leaf).fn = argFr l := by
  funext j
  rw [TFr.args_fn l 0 _ j (by omega)]
  unfold argFr
  by_cases h1 : j < l.length
  · rw [if_pos (by omega)]; simp
  · rw [if_neg (by omega)]
    unfold TFr.fn
    rw [Tr.get_leaf, List.getD_eq_getElem?_getD, List.getElem?_eq_none (by omega)]; rfl

structure DLoop where
  n : Nat
  fr : TFr
  params : Array Tmp
  assign : Code
  body : Code
  state : LoopState
  pending : Option Code
def DLoop.of (l : DLoop) : ALoop := ⟨l.n, l.fr.fn, l.params, l.assign, l.body, l.state, l.pending⟩
inductive DBlk where
  | dead
  | row (cells : List AV)
  | map (ks vs : List AV)
  | sit (s : List UInt8) (pos : Nat)
  | loop (l : DLoop)
def DBlk.of : DBlk → ABlk
  | .dead => .dead
  | .row c => .row c
  | .map ks vs => .map ks vs
  | .sit s p => .sit s p
  | .loop l => .loop l.of
/-- Memory as a table. -/
structure DH where
  next : Nat
  t : Tr DBlk
def DH.get (h : DH) (i : Nat) : DBlk := match h.t.get i with
  | some b => b
  | none => .dead
def DH.of (h : DH) : AHeap := ⟨h.next, fun i => (h.get i).of⟩
def DH.nil : DH := ⟨0, .leaf⟩
def DH.set (h : DH) (i : Nat) (b : DBlk) : DH := ⟨h.next, Tr.set 40 h.t i b⟩
def DH.alloc (h : DH) (b : DBlk) : DH := ⟨h.next + 1, Tr.set 40 h.t h.next b⟩
theorem DH.nil_of : DH.nil.of = .nil := by
  unfold DH.of DH.nil AHeap.nil DH.get
  congr
theorem DH.get_of (h : DH) (i : Nat) : h.of.get i = (h.get i).of := rfl
theorem DH.set_of (h : DH) (i : Nat) (b : DBlk) (hi : i < 1099511627775) : (h.set i b).of = h.of.set i b.of := by
  unfold DH.of DH.set AHeap.set
  congr
  funext j
  unfold DH.get upd
  rw [Tr.get_set 40 _ i b j (by omega)]
  by_cases e : j = i
  · simp [e]
  · simp [e]
theorem DH.alloc_of (h : DH) (b : DBlk) (hi : h.next < 1099511627775) : (h.alloc b).of = h.of.alloc b.of := by
  unfold DH.of DH.alloc AHeap.alloc
  congr
  funext j
  unfold DH.get upd
  rw [Tr.get_set 40 _ _ b j (by omega)]
  by_cases e : j = h.next
  · simp [e]
  · simp [e]

/-- Keys that the table holds. -/
def kOk (i : Nat) : Bool := Nat.blt i 1099511627775
theorem kOk.lt {i : Nat} (h : kOk i = true) : i < 1099511627775 := blt_true h

def dBlk : ABlk → DBlk
  | .row c => .row c
  | .map ks vs => .map ks vs
  | .sit s p => .sit s p
  | _ => .dead
def okBlk : ABlk → Bool
  | .loop _ => false
  | _ => true
theorem dBlk_of {b : ABlk} (h : okBlk b = true) : (dBlk b).of = b := by
  cases b <;> first | rfl | cases h

/-! ### the writing operations -/
def dstore (P : Program) (t : TypeId) (h : DH) (p x : AV) : Option (AV × DH) :=
  match p, acells x, tsz P t with
  | .ptr id off, some l, some n => match h.get id with
    | .row cs => match decide (l.length = n ∧ off + l.length ≤ cs.length), kOk id with
      | true, true => some (.tuple [], h.set id (.row (splice cs off l)))
      | _, _ => none
    | _ => none
  | _, _, _ => none
theorem dstore_of {P : Program} {t : TypeId} {h h' : DH} {p x v : AV} (e : dstore P t h p x = some (v, h')) : astore P t h.of p x = some (v, h'.of) := by
  unfold dstore at e
  split at e
  · rename_i id off l n h1 h2
    split at e
    · rename_i cs hg
      split at e
      · rename_i k1 k2
        cases e
        unfold astore
        simp only [h1, h2, DH.get_of, hg, DBlk.of]
        rw [if_pos (of_decide_eq_true k1), DH.set_of _ _ _ (kOk.lt k2)]
        rfl
      · cases e
    · cases e
  · cases e

def dsrc (h : DH) (z : Nat) (x : AV) : Option (Nat × List AV) :=
  match x with
  | .nilsl => some (0, [])
  | .sl n _ cells => if cells.length = n * z then some (n, cells) else none
  | .msl id off n esz _ => match h.get id with
    | .row cs => if esz = z ∧ off + n * z ≤ cs.length then some (n, (cs.drop off).take (n * z)) else none
    | _ => none
  | .str s => if z = 1 then some (s.length, s.map fun b => .int .u8 b.toNat) else none
  | _ => none
theorem dsrc_of {h : DH} {z : Nat} {x : AV} {r : Nat × List AV} (e : dsrc h z x = some r) : asrc h.of z x = some r := by
  unfold dsrc at e
  unfold asrc
  split at e <;> simp only at *
  all_goals try exact e
  · rename_i id off n esz _
    split at e
    · rename_i cs hg
      simp only [DH.get_of, hg, DBlk.of]
      exact e
    · cases e
def dgrow (h : DH) (z by_ : Nat) (len n : Nat) (olds news : List AV) (dead : Option Nat) : Option (AV × DH) :=
  match decide (len + n ≤ 4294967296 ∧ (len + n) * by_ ≤ 140737488355328), kOk h.next, (match dead with | some i => kOk i | none => true) with
  | true, true, true => some (.msl h.next 0 (len + n) z false, (match dead with | some i => h.set i .dead | none => h).alloc (.row (olds ++ news)))
  | _, _, _ => none
theorem dgrow_of {h h' : DH} {z by_ len n : Nat} {olds news : List AV} {dead : Option Nat} {v : AV} (e : dgrow h z by_ len n olds news dead = some (v, h')) : agrow h.of z by_ len n olds news dead = some (v, h'.of) := by
  unfold dgrow at e
  split at e
  · rename_i k1 k2 k3
    cases e
    unfold agrow
    rw [if_pos (of_decide_eq_true k1)]
    cases dead with
    | none => simp only; rw [DH.alloc_of _ _ (kOk.lt k2)]; rfl
    | some i =>
      simp only at *
      rw [DH.alloc_of (h.set i .dead) _ (kOk.lt k2), DH.set_of _ _ _ (kOk.lt k3)]; rfl
  · cases e
def dappend (P : Program) (st xt : TypeId) (h : DH) (s x : AV) : Option (AV × DH) :=
  match tel P st with
  | some (e, z) => match tby P e, tzero P e with
    | some by_, some zv => if srcType P xt = true ∧ (acells zv).map List.length = some z then match dsrc h z x with
      | some (n, news) =>
        if n = 0 then (match s with
          | .nilsl => some (.nilsl, h)
          | .sl len t cells => some (.sl len t cells, h)
          | .msl i o l q t => if q = z then some (.msl i o l q t, h) else none
          | _ => none)
        else (match s with
          | .nilsl => dgrow h z by_ 0 n [] news none
          | .sl len tight cells => if tight = true ∧ cells.length = len * z then dgrow h z by_ len n cells news none else none
          | .msl id off len esz tight => match h.get id with
            | .row cs => if esz = z ∧ off + len * z ≤ cs.length then dgrow h z by_ len n ((cs.drop off).take (len * z)) news (if tight = true then none else some id) else none
            | _ => none
          | _ => none)
      | none => none
      else none
    | _, _ => none
  | none => none
theorem dappend_of {P : Program} {st xt : TypeId} {h h' : DH} {s x v : AV} (e : dappend P st xt h s x = some (v, h')) : aappend P st xt h.of s x = some (v, h'.of) := by
  unfold dappend at e
  unfold aappend
  split at e
  · rename_i el z h1
    simp only [h1]
    split at e
    · rename_i by_ zv h2 h3
      simp only [h2, h3]
      split at e
      · rename_i h4
        rw [if_pos h4]
        split at e
        · rename_i n news h5
          simp only [dsrc_of h5]
          split at e
          · rename_i h6
            rw [if_pos h6]
            split at e <;> simp only at *
            · cases e; rfl
            · cases e; rfl
            · split at e
              · rename_i k; rw [if_pos k]; cases e; rfl
              · cases e
            · cases e
          · rename_i h6
            rw [if_neg h6]
            split at e <;> simp only at *
            · exact dgrow_of e
            · split at e
              · rename_i k; rw [if_pos k]; exact dgrow_of e
              · cases e
            · rename_i id off len esz tight
              split at e
              · rename_i cs hg
                simp only [DH.get_of, hg, DBlk.of]
                split at e
                · rename_i k; rw [if_pos k]; exact dgrow_of e
                · cases e
              · cases e
            · cases e
        · cases e
      · cases e
    · cases e
  · cases e
def dmapset (P : Program) (t : TypeId) (h : DH) (m k x : AV) : Option (AV × DH) :=
  match P.underlying t with
  | some (.map kt _) => match P.underlying kt with
    | some d => if keyOk P d k = true then match m with
      | .map id => match h.get id, kOk id with
        | .map ks vs, true => match afind P d k ks 0 with
          | some (some i) => some (.tuple [], h.set id (.map (ks.set i k) (vs.set i x)))
          | some none => some (.tuple [], h.set id (.map (ks ++ [k]) (vs ++ [x])))
          | none => none
        | _, _ => none
      | _ => none
      else none
    | none => none
  | _ => none
theorem dmapset_of {P : Program} {t : TypeId} {h h' : DH} {m k x v : AV} (e : dmapset P t h m k x = some (v, h')) : amapset P t h.of m k x = some (v, h'.of) := by
  unfold dmapset at e
  unfold amapset
  split at e
  · rename_i kt et h1
    simp only [h1]
    split at e
    · rename_i d h2
      simp only [h2]
      split at e
      · rename_i h3
        rw [if_pos h3]
        split at e
        · rename_i id
          split at e
          · rename_i ks vs hg hk
            simp only [DH.get_of, hg, DBlk.of]
            split at e
            · rename_i i h4
              cases e
              simp only [h4]
              rw [DH.set_of _ _ _ (kOk.lt hk)]; rfl
            · rename_i h4
              cases e
              simp only [h4]
              rw [DH.set_of _ _ _ (kOk.lt hk)]; rfl
            · cases e
          · cases e
        · cases e
      · cases e
    · cases e
  · cases e
def dnext (h : DH) (it : AV) : Option (AV × DH) :=
  match it with
  | .ptr id 0 => match h.get id, kOk id with
    | .sit s pos, true => match s[pos]? with
      | some c => if c.toNat < 128 then some (.tuple [.bool true, .int .i64 pos, .int .i32 c.toNat], h.set id (.sit s (pos + 1)))
        else some (.tuple [.bool true, .int .i64 pos, .int .i32 (Utf8.decode ⟨s.toArray⟩ pos).1], h.set id (.sit s (pos + (Utf8.decode ⟨s.toArray⟩ pos).2)))
      | none => if pos = s.length then some (.tuple [.bool false], h) else none
    | _, _ => none
  | _ => none
theorem dnext_of {h h' : DH} {it v : AV} (e : dnext h it = some (v, h')) : anext h.of it = some (v, h'.of) := by
  unfold dnext at e
  unfold anext
  split at e
  · rename_i id
    split at e
    · rename_i s pos hg hk
      simp only [DH.get_of, hg, DBlk.of]
      split at e
      · rename_i c hc
        simp only [hc]
        split at e
        · rename_i k; rw [if_pos k]; cases e; rw [DH.set_of _ _ _ (kOk.lt hk)]; rfl
        · rename_i k; rw [if_neg k]; cases e; rw [DH.set_of _ _ _ (kOk.lt hk)]; rfl
      · rename_i hc
        simp only [hc]
        split at e
        · rename_i k; rw [if_pos k]; cases e; rfl
        · cases e
    · cases e
  · cases e
def dwr (E : Env) (op : Op) (ρ : Operand → AV) (h : DH) : Option (AV × DH) :=
  match op with
  | .store t a x => dstore E.P t h (ρ a) (ρ x)
  | .mapUpdate t m k x => dmapset E.P t h (ρ m) (ρ k) (ρ x)
  | .insert t m k x => dmapset E.P t h (ρ m) (ρ k) (ρ x)
  | .next it s => if s = true then dnext h (ρ it) else none
  | .call c => match c.callee with
    | .builtin .append => match c.args.toList, c.argTypes.toList with
      | [s, x], [t, u] => dappend E.P t u h (ρ s) (ρ x)
      | _, _ => none
    | _ => none
  | _ => none
theorem dwr_of {E : Env} {op : Op} {ρ : Operand → AV} {h h' : DH} {v : AV} (e : dwr E op ρ h = some (v, h')) : awr E op ρ h.of = some (v, h'.of) := by
  unfold dwr at e
  unfold awr
  split at e
  · exact dstore_of e
  · exact dmapset_of e
  · exact dmapset_of e
  · split at e
    · rename_i k; simp only; rw [if_pos k]; exact dnext_of e
    · cases e
  · rename_i c
    simp only
    split at e
    · rename_i hc
      simp only [hc]
      split at e
      · rename_i s x t u h1 h2
        simp only [h1, h2]
        exact dappend_of e
      · cases e
    · cases e
  · cases e
end Go.Zk
