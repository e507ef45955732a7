/- Contracts: chalklineref09.Many, chalklineref06.Size. Conditions: the package variables are laid. Contracts: chalklineref09.Broad, Great. Conditions: the package variables are laid. Weaker ends: code over abstract values is monotone. Conditions: none. Contracts: chalklineref03.Few. Conditions: the package variables are laid. Contracts: chalklineref09.FewRules, chalklineref37.FewPlan. Conditions: the package variables are laid. The plain law of best weeks. Conditions: the package variables are laid. Known calls of closed runs: tables. Conditions: the package variables are laid. -/
import Derived.Test.YtiplcbpocpgbbaaGreatDoorA16
import Derived.Test.YtiplcbpocpgbbaaGreatDoorA18
set_option linter.unusedSectionVars false
set_option linter.unusedSimpArgs false
set_option linter.unusedVariables false
set_option maxRecDepth 10000
namespace Go.Zk
open Go.Proofs
variable {E : Env} [h : IsG E]
section
variable {n : Nat} {ops : Array Oper} {N i : Nat} {K : ALog → AFr → AHeap → Prop} {rest : List Oper} {log : ALog} {d : Option Tmp} {ty : TypeId} {pos : String} {aft : Array Edge} {fr : AFr} {H : AHeap}
end
def capR (n : Nat) : Nat := if n ≤ 2097152 then n else 2097152
theorem capR_le {n : Nat} : capR n ≤ 2097152 := by unfold capR; split <;> omega
def manyRFrom : Nat → List Nat → Nat
  | n, [] => n
  | n, k :: l => manyRFrom (capR (n * k)) l
def manyR (s : SchoolD) (bs : List BindD) : Nat := manyRFrom 1 (bs.map fun b => countE s b.sort)
theorem manyRFrom_le : ∀ {l : List Nat} {n : Nat}, n ≤ 2097152 → manyRFrom n l ≤ 2097152
  | [], n, hn => hn
  | k :: l, n, hn => manyRFrom_le (l := l) (n := capR (n * k)) capR_le
theorem manyR_le {s : SchoolD} {bs : List BindD} : manyR s bs ≤ 2097152 := manyRFrom_le (by decide)
theorem countE_mid {s : SchoolD} (h : s.Mid) (sort : Int) : countE s sort ≤ 1048576 := elems_mid h sort
theorem min_cap {n : Nat} : (if (n : Int) ≤ 2097152 then (n : Int) else 2097152) = (capR n : Nat) := by unfold capR; split <;> split <;> omega
theorem many_43 (s : SchoolD) (bs : List BindD) (hs : s.Mid) (hb : bs.length ≤ 1048576) : PF E 43 [s.av, bindE.sl bs] (I (manyR s bs)) := by
  refine pf_of_body mixed fn_43 (by simp) ?_
  unfold Tryz.f43 ABody
  simp [SchoolD.av]
  refine wp_loop (fun fr H m => ∃ (i n : Nat), fr 1 = bindE.sl bs ∧ fr 2 = .ptr 0 0 ∧ fr 5 = I n ∧ fr 6 = I i ∧ i + m = bs.length ∧ 1 ≤ H.next ∧ H.get 0 = .row s.cells ∧ n ≤ 2097152 ∧ manyR s bs = manyRFrom n ((bs.drop i).map fun b => countE s b.sort)) bs.length ?_ ?_
  · exact ⟨0, 1, by simp [manyR]⟩
  rintro m fr H ⟨i, n, e1, e2, e5, e6, hm, hn, g0, hn5, hx⟩
  by_cases hi : i < bs.length
  · have q0 : ¬ 0 = H.next := by omega
    have hd : bs.drop i = bs[i] :: bs.drop (i + 1) := List.drop_eq_getElem_cons hi
    rw [hd, List.map_cons, manyRFrom] at hx
    have c81 := refCount_81 (E := E) s bs[i].sort hs
    rw [SchoolD.av, SchoolD.cells] at c81
    have hk := countE_mid hs bs[i].sort
    have hmul : n * countE s bs[i].sort ≤ 2097152 * 1048576 := Nat.mul_le_mul hn5 hk
    have hw : IntKind.i64.wrap ((n : Int) * countE s bs[i].sort) = ((n * countE s bs[i].sort : Nat) : Int) := by rw [← Int.natCast_mul]; exact wrap_of (by omega) (by omega)
    have hcap := min_cap (n := n * countE s bs[i].sort)
    rw [Int.natCast_mul] at hw hcap
    simp [e1, e2, e5, e6, hi, Enc.sl]
    refine wp_open [(11, true)] (by rfl) ?_
    simp [e1, e2, e5, e6, hi, Enc.sl, g0, SchoolD.cells]
    rw [show (bindE.cells bs)[i * 2 + 1]? = some (I bs[i].sort) from by have := bindE.cell hi (k := 1) (by decide); simpa [bindE] using this]
    simp [e1, e2, e5, e6]
    refine hc_pure c81 rfl ?_
    simp [e1, e2, e5, e6, hw]
    refine ⟨logOk_none rfl, ?_⟩
    exact ⟨m - 1, by omega, rfl, i + 1, capR (n * countE s bs[i].sort), hcap, wrap_of (by omega) (by omega), by omega, g0, capR_le, by simpa using hx⟩
  · have hd : bs.drop i = [] := List.drop_eq_nil_of_le (by omega)
    rw [hd] at hx
    simp [e1, e2, e5, e6, hi, Enc.sl]
    rw [hx]
    exact ⟨0, Pur.self rfl⟩
theorem size_80 : ∀ (m : Nat) (f : FormD), SizeOf.sizeOf f < m → f.Fit → ∃ n, PF E 80 [f.av] (I n)
  | 0, f, hm, _ => absurd hm (Nat.not_lt_zero _)
  | m + 1, f, hm, hfit => by
    have ih : ∀ i (hi : i < f.subs.length), ∃ n, PF E 80 [f.subs[i].av] (I n) := fun i hi => size_80 m f.subs[i] (by have := subs_lt hi; omega) (hfit.sub hi)
    have hsub := hfit.self.1
    unfold Big at hsub
    let g : Nat → Int := fun i => if hi : i < f.subs.length then (ih i hi).choose else 0
    have hg : ∀ i (hi : i < f.subs.length), PF E 80 [f.subs[i].av] (I (g i)) := fun i hi => by
      have := (ih i hi).choose_spec
      simpa [g, hi] using this
    clear_value g
    let G : Nat → Int := fun i => Nat.rec 1 (fun i a => IntKind.i64.wrap (a + g i)) i
    have hG : ∀ i, G (i + 1) = IntKind.i64.wrap (G i + g i) := fun i => rfl
    have hG0 : G 0 = 1 := rfl
    clear_value G
    refine ⟨G f.subs.length, ?_⟩
    refine pf_of_body mixed fn_80 (by simp) ?_
    unfold Tryz.f80 ABody
    rw [FormD.av, FormD.cells_eq]
    simp
    refine wp_loop (fun fr H m => ∃ (i : Nat), fr 1 = .ptr 0 0 ∧ fr 3 = I (G i) ∧ fr 4 = I i ∧ i + m = f.subs.length ∧ 1 ≤ H.next ∧ H.get 0 = .row [I f.kind, .str f.name, I f.n, termE.sl f.terms, bindE.sl f.binds, formE.sl f.subs]) f.subs.length ?_ ?_
    · exact ⟨0, by simp [hG0]⟩
    rintro m fr H ⟨i, e1, e3, e4, hm', hn, g0⟩
    by_cases hi : i < f.subs.length
    · have hc := hg i hi
      rw [FormD.av] at hc
      have hl6 : f.subs[i].cells.length = 6 := FormD.cells_len _
      have ht6 : List.take 6 f.subs[i].cells = f.subs[i].cells := List.take_of_length_le (by omega)
      simp [e1, e3, e4, hi, g0, Enc.sl]
      rw [show apart true 6 (i * 6) (formE.cells f.subs) = some (.agg (formE.enc f.subs[i])) from formE.part hi]
      simp [e1, e3, e4]
      refine rc_pure hc (by simp [AV.purs, AV.pur, formE, FormD.cells_eq]) ?_
      simp [e1, e3, e4]
      exact ⟨m - 1, by omega, i + 1, (hG i).symm, wrap_of (by omega) (by omega), by omega, by omega, g0⟩
    · have hil : i = f.subs.length := by omega
      simp [e1, e3, e4, hi, g0, Enc.sl, hil]
      exact ⟨0, Pur.self rfl⟩
theorem few_42 : ∀ (m : Nat) (f : FormD), SizeOf.sizeOf f < m → f.Fit → ∃ b, PF E 42 [f.av] (.bool b)
  | 0, f, hm, _ => absurd hm (Nat.not_lt_zero _)
  | m + 1, f, hm, hfit => by
    have ih : ∀ i (hi : i < f.subs.length), ∃ b, PF E 42 [f.subs[i].av] (.bool b) := fun i hi => few_42 m f.subs[i] (by have := subs_lt hi; omega) (hfit.sub hi)
    obtain ⟨n, c80⟩ := size_80 (E := E) _ f (Nat.lt_succ_self _) hfit
    have hsub := hfit.self.1
    unfold Big at hsub
    let g : Nat → Bool := fun i => if hi : i < f.subs.length then (ih i hi).choose else true
    have hg : ∀ i (hi : i < f.subs.length), PF E 42 [f.subs[i].av] (.bool (g i)) := fun i hi => by
      have := (ih i hi).choose_spec
      simpa [g, hi] using this
    clear_value g
    let G : Nat → Bool := fun k => Nat.rec true (fun i a => g (f.subs.length - (i + 1)) && a) k
    have hG : ∀ k, G (k + 1) = (g (f.subs.length - (k + 1)) && G k) := fun i => rfl
    have hG0 : G 0 = true := rfl
    clear_value G
    have hl6 : f.cells.length = 6 := FormD.cells_len _
    rw [FormD.av, FormD.cells_eq] at c80
    by_cases c1 : (f.subs.length : Int) ≤ 4 ∧ (f.terms.length : Int) ≤ 4 ∧ (f.binds.length : Int) ≤ 10 ∧ n ≤ 300
    · obtain ⟨k1, k2, k3, k4⟩ := c1
      have k1' : ¬ (4 : Int) < f.subs.length := by omega
      have k2' : ¬ (4 : Int) < f.terms.length := by omega
      have k3' : ¬ (10 : Int) < f.binds.length := by omega
      have k4' : ¬ (300 : Int) < n := by omega
      refine ⟨G f.subs.length, ?_⟩
      refine pf_of_body mixed fn_42 (by simp) ?_
      unfold Tryz.f42 ABody
      rw [FormD.av, FormD.cells_eq]
      simp [Enc.sl, k1', k2', k3']
      refine rc_pure c80 rfl ?_
      simp [k4']
      refine wp_loop (fun fr H m => ∃ (i : Nat), fr 1 = .ptr 0 0 ∧ fr 3 = I i ∧ i + m = f.subs.length ∧ 1 ≤ H.next ∧ H.get 0 = .row [I f.kind, .str f.name, I f.n, termE.sl f.terms, bindE.sl f.binds, formE.sl f.subs] ∧ G f.subs.length = G m) f.subs.length ?_ ?_
      · exact ⟨0, by simp [Enc.sl]⟩
      rintro m fr H ⟨i, e1, e3, hm', hn, g0, hx⟩
      by_cases hi : i < f.subs.length
      · obtain ⟨m, rfl⟩ : ∃ k, m = k + 1 := ⟨m - 1, by omega⟩
        have hc := hg i hi
        rw [FormD.av] at hc
        rw [hG, show f.subs.length - (m + 1) = i by omega] at hx
        have hl6 : f.subs[i].cells.length = 6 := FormD.cells_len _
        have ht6 : List.take 6 f.subs[i].cells = f.subs[i].cells := List.take_of_length_le (by omega)
        simp [e1, e3, hi, g0, Enc.sl]
        rw [show apart true 6 (i * 6) (formE.cells f.subs) = some (.agg (formE.enc f.subs[i])) from formE.part hi]
        simp [e1, e3]
        refine rc_pure hc (by simp [AV.purs, AV.pur, formE, FormD.cells_eq]) ?_
        cases hgi : g i
        · rw [hgi] at hx
          simp [e1, e3]
          rw [hx]
          exact ⟨0, Pur.self rfl⟩
        · rw [hgi] at hx
          simp [e1, e3]
          exact ⟨m, by omega, i + 1, wrap_of (by omega) (by omega), by omega, by omega, by simpa [Enc.sl] using g0, by simpa using hx⟩
      · have hil : m = 0 := by omega
        subst hil
        simp [e1, e3, hi, g0, Enc.sl]
        rw [hx, hG0]
        exact ⟨0, Pur.self rfl⟩
    · refine ⟨false, ?_⟩
      refine pf_of_body mixed fn_42 (by simp) ?_
      unfold Tryz.f42 ABody
      rw [FormD.av, FormD.cells_eq]
      by_cases k1 : (4 : Int) < f.subs.length
      · simp [Enc.sl, k1]
        exact ⟨0, Pur.self rfl⟩
      by_cases k2 : (4 : Int) < f.terms.length
      · simp [Enc.sl, k1, k2]
        exact ⟨0, Pur.self rfl⟩
      by_cases k3 : (10 : Int) < f.binds.length
      · simp [Enc.sl, k1, k2, k3]
        exact ⟨0, Pur.self rfl⟩
      have k4 : (300 : Int) < n := by
        rcases Int.lt_or_le 300 n with h | h
        · exact h
        · exact absurd ⟨by omega, by omega, by omega, h⟩ c1
      simp [Enc.sl, k1, k2, k3]
      refine rc_pure c80 rfl ?_
      simp [k4]
      exact ⟨0, Pur.self rfl⟩
end Go.Zk
namespace Go.Zk
open Go.Proofs
variable {E : Env} [h : IsG E]
mutual
def broadR (s : SchoolD) : FormD → Nat
  | .mk k nm n ts bs l => capR ((if k ≥ 14 then capR (broadRL s 0 l * manyR s bs) else broadRL s 0 l) + 1)
def broadRL (s : SchoolD) : Nat → List FormD → Nat
  | n, [] => n
  | n, f :: l => broadRL s (capR (n + broadR s f)) l
end
theorem broadR_eq (s : SchoolD) (f : FormD) : broadR s f = capR ((if f.kind ≥ 14 then capR (broadRL s 0 f.subs * manyR s f.binds) else broadRL s 0 f.subs) + 1) := by
  cases f; rw [broadR]; rfl
theorem broadR_le {s : SchoolD} {f : FormD} : broadR s f ≤ 2097152 := by rw [broadR_eq]; exact capR_le
theorem broadRL_le {s : SchoolD} : ∀ {l : List FormD} {n : Nat}, n ≤ 2097152 → broadRL s n l ≤ 2097152
  | [], n, hn => by rw [broadRL]; exact hn
  | f :: l, n, hn => by rw [broadRL]; exact broadRL_le capR_le
/-- Lists of at most a million elements. -/
def FormD.Mid (f : FormD) : Prop := ∀ g ∈ nodes f, g.subs.length ≤ 1048576 ∧ g.binds.length ≤ 1048576
theorem FormD.Mid.self {f : FormD} (hf : f.Mid) : f.subs.length ≤ 1048576 ∧ f.binds.length ≤ 1048576 := hf f (by rw [nodes_eq]; simp)
theorem FormD.Mid.sub {f : FormD} (hf : f.Mid) {i : Nat} (hi : i < f.subs.length) : f.subs[i].Mid := fun g hg => hf g (by
  rw [nodes_eq, List.mem_cons]
  right
  rw [nodesL_split hi]
  simp [hg])
theorem broad_44 : ∀ (m : Nat) (s : SchoolD) (f : FormD), SizeOf.sizeOf f < m → s.Mid → f.Mid → PF E 44 [s.av, f.av] (I (broadR s f))
  | 0, s, f, hm, _, _ => absurd hm (Nat.not_lt_zero _)
  | m + 1, s, f, hm, hs, hf => by
    have ih : ∀ i (hi : i < f.subs.length), PF E 44 [s.av, f.subs[i].av] (I (broadR s f.subs[i])) := fun i hi => broad_44 m s f.subs[i] (by have := subs_lt hi; omega) hs (hf.sub hi)
    obtain ⟨hsub, hbl⟩ := hf.self
    have c43 := many_43 (E := E) s f.binds hs hbl
    refine pf_of_body mixed fn_44 (by simp) ?_
    unfold Tryz.f44 ABody
    rw [FormD.av, FormD.cells_eq, SchoolD.av]
    rw [SchoolD.av, SchoolD.cells] at c43
    simp
    refine wp_loop (fun fr H m => ∃ (i n : Nat), fr 2 = .ptr 0 0 ∧ fr 3 = .ptr 1 0 ∧ fr 5 = I n ∧ fr 6 = I i ∧ i + m = f.subs.length ∧ 2 ≤ H.next ∧ H.get 0 = .row s.cells ∧ H.get 1 = .row [I f.kind, .str f.name, I f.n, termE.sl f.terms, bindE.sl f.binds, formE.sl f.subs] ∧
      n ≤ 2097152 ∧ broadRL s 0 f.subs = broadRL s n (f.subs.drop i)) f.subs.length ?_ ?_
    · exact ⟨0, 0, by simp [Enc.sl]⟩
    rintro m fr H ⟨i, n, e2, e3, e5, e6, hm', hn, g0, g1, hn5, hx⟩
    by_cases hi : i < f.subs.length
    · have hd : f.subs.drop i = f.subs[i] :: f.subs.drop (i + 1) := List.drop_eq_getElem_cons hi
      rw [hd, broadRL] at hx
      have hc := ih i hi
      rw [SchoolD.av, SchoolD.cells, FormD.av] at hc
      have hb := broadR_le (s := s) (f := f.subs[i])
      have hl6 : f.subs[i].cells.length = 6 := FormD.cells_len _
      have ht6 : List.take 6 f.subs[i].cells = f.subs[i].cells := List.take_of_length_le (by omega)
      have hw : IntKind.i64.wrap ((n : Int) + broadR s f.subs[i]) = ((n + broadR s f.subs[i] : Nat) : Int) := by rw [Int.natCast_add]; exact wrap_of (by omega) (by omega)
      have hcap := min_cap (n := n + broadR s f.subs[i])
      rw [Int.natCast_add] at hw hcap
      have q0 : ¬ 0 = H.next := by omega
      have q1 : ¬ 1 = H.next := by omega
      simp [e2, e3, e5, e6, hi, g0, g1, Enc.sl]
      refine wp_open [(11, true)] (by rfl) ?_
      simp [e2, e3, e5, e6, hi, g0, g1, Enc.sl, SchoolD.cells]
      rw [show apart true 6 (i * 6) (formE.cells f.subs) = some (.agg (formE.enc f.subs[i])) from formE.part hi]
      simp [e2, e3, e5, e6, g0, g1]
      refine hc_pure hc (by simp [AV.purs, AV.pur, formE, FormD.cells_eq]) ?_
      simp [e2, e3, e5, e6, hw]
      refine ⟨logOk_none rfl, ?_⟩
      exact ⟨m - 1, by omega, i + 1, capR (n + broadR s f.subs[i]), hcap, wrap_of (by omega) (by omega), by omega, g0, g1, capR_le, by simpa using hx⟩
    · have hd : f.subs.drop i = [] := List.drop_eq_nil_of_le (by omega)
      rw [hd, broadRL] at hx
      have hml := manyR_le (s := s) (bs := f.binds)
      by_cases hk : f.kind ≥ 14
      · have hr : broadR s f = capR (capR (n * manyR s f.binds) + 1) := by rw [broadR_eq, if_pos hk, hx]
        have hmul : n * manyR s f.binds ≤ 2097152 * 2097152 := Nat.mul_le_mul hn5 hml
        have hw : IntKind.i64.wrap ((n : Int) * manyR s f.binds) = ((n * manyR s f.binds : Nat) : Int) := by rw [← Int.natCast_mul]; exact wrap_of (by omega) (by omega)
        have hcap := min_cap (n := n * manyR s f.binds)
        rw [Int.natCast_mul] at hw hcap
        have hcl := capR_le (n := n * manyR s f.binds)
        have hw2 : IntKind.i64.wrap ((capR (n * manyR s f.binds) : Int) + 1) = ((capR (n * manyR s f.binds) + 1 : Nat) : Int) := by rw [Int.natCast_add]; exact wrap_of (by omega) (by omega)
        have hcap2 := min_cap (n := capR (n * manyR s f.binds) + 1)
        rw [Int.natCast_add] at hw2 hcap2
        simp [e2, e3, e5, e6, hi, g0, g1, Enc.sl, hk, SchoolD.cells]
        refine rc_pure c43 rfl ?_
        simp [e2, e3, e5, e6, hw, hcap, hw2]
        simp at hcap2
        rw [hcap2, hr]
        exact ⟨0, Pur.self rfl⟩
      · have hr : broadR s f = capR (n + 1) := by rw [broadR_eq, if_neg hk, hx]
        have hw2 : IntKind.i64.wrap ((n : Int) + 1) = ((n + 1 : Nat) : Int) := by rw [Int.natCast_add]; exact wrap_of (by omega) (by omega)
        have hcap2 := min_cap (n := n + 1)
        rw [Int.natCast_add] at hw2 hcap2
        simp [e2, e3, e5, e6, hi, g0, g1, Enc.sl, hk, SchoolD.cells, hw2]
        simp at hcap2
        rw [hcap2, hr]
        exact ⟨0, Pur.self rfl⟩
/-- The bounds that Great keeps. -/
def greatR (s : SchoolD) : Nat → Nat → List RuleD → Bool
  | n, w, [] => decide (4096 < n) || decide (1048576 < w)
  | n, w, r :: l => if 4096 < manyR s r.each then true else greatR s (capR (n + manyR s r.each)) (capR (w + manyR s r.each * broadR s r.body)) l
structure RuleD.Mid (r : RuleD) : Prop where
  each : r.each.length ≤ 1048576
  body : r.body.Mid
theorem great_46 (s : SchoolD) (l : List RuleD) (hs : s.Mid) (hl : l.length ≤ 1048576) (hr : ∀ r ∈ l, r.Mid) : PF E 46 [s.av, ruleE.sl l] (.bool (greatR s 0 0 l)) := by
  refine pf_of_body mixed fn_46 (by simp) ?_
  unfold Tryz.f46 ABody
  generalize hcs : ruleE.cells l = cs
  simp [SchoolD.av, Enc.sl, hcs]
  refine wp_loop (fun fr H m => ∃ (i n w : Nat), fr 1 = .sl l.length false cs ∧ fr 2 = .ptr 0 0 ∧ fr 5 = I n ∧ fr 6 = I w ∧ fr 7 = I i ∧ i + m = l.length ∧ 1 ≤ H.next ∧ H.get 0 = .row s.cells ∧ n ≤ 2097152 ∧ w ≤ 2097152 ∧ greatR s 0 0 l = greatR s n w (l.drop i)) l.length ?_ ?_
  · exact ⟨0, 0, 0, by simp⟩
  rintro m fr H ⟨i, n, w, e1, e2, e5, e6, e7, hm, hn, g0, hn5, hn6, hx⟩
  by_cases hi : i < l.length
  · have q0 : ¬ 0 = H.next := by omega
    have hd : l.drop i = l[i] :: l.drop (i + 1) := List.drop_eq_getElem_cons hi
    rw [hd, greatR] at hx
    have hri := hr _ (List.getElem_mem hi)
    have c43 := many_43 (E := E) s l[i].each hs hri.each
    have c44 := broad_44 (E := E) _ s l[i].body (Nat.lt_succ_self _) hs hri.body
    rw [SchoolD.av, SchoolD.cells] at c43
    rw [SchoolD.av, SchoolD.cells, FormD.av] at c44
    have hml := manyR_le (s := s) (bs := l[i].each)
    have hbl := broadR_le (s := s) (f := l[i].body)
    have hmul : manyR s l[i].each * broadR s l[i].body ≤ 2097152 * 2097152 := Nat.mul_le_mul hml hbl
    have hcap := min_cap (n := n + manyR s l[i].each)
    have hw : IntKind.i64.wrap ((n : Int) + manyR s l[i].each) = ((n + manyR s l[i].each : Nat) : Int) := by rw [Int.natCast_add]; exact wrap_of (by omega) (by omega)
    rw [Int.natCast_add] at hw hcap
    have hcell : ∀ k, k < 10 → cs[i * 10 + k]? = (ruleE.enc l[i])[k]? := fun k hk => by rw [← hcs]; exact ruleE.cell hi hk
    have hl6 : l[i].body.cells.length = 6 := FormD.cells_len _
    have hbody : apart true 6 (i * 10 + 4) cs = some (.agg l[i].body.cells) := by
      have hp := ruleE.cells_at hi
      rw [hcs] at hp
      have hcl : cs.length = l.length * 10 := by rw [← hcs]; exact ruleE.cells_len
      rw [apart_agg, if_pos (by omega)]
      congr 2
      have : (List.drop 4 (List.take 10 (cs.drop (i * 10)))).take 6 = l[i].body.cells := by
        rw [show (10 : Nat) = ruleE.z from rfl, hp]
        simp [ruleE]
        exact List.take_of_length_le (by omega)
      rw [← this, List.drop_take, List.drop_drop, List.take_take]
      simp
    simp [e1, e2, e5, e6, e7, hi]
    refine wp_open [(8, true)] (by rfl) ?_
    simp [e1, e2, e5, e6, e7, hi, g0, SchoolD.cells]
    rw [hcell 3 (by omega)]
    simp [ruleE]
    refine hc_pure c43 rfl ?_
    simp [e1, e2, e5, e6, e7]
    refine ⟨logOk_none rfl, ?_⟩
    simp [e1, e2, e5, e6, e7, hw, hcap]
    by_cases hg : 4096 < manyR s l[i].each
    · rw [if_pos hg] at hx
      have hg' : (4096 : Int) < manyR s l[i].each := by omega
      simp [hg']
      rw [hx]
      exact ⟨0, Pur.self rfl⟩
    · rw [if_neg hg] at hx
      have hg' : ¬ (4096 : Int) < manyR s l[i].each := by omega
      have hw2 : IntKind.i64.wrap ((manyR s l[i].each : Int) * broadR s l[i].body) = ((manyR s l[i].each * broadR s l[i].body : Nat) : Int) := by rw [← Int.natCast_mul]; exact wrap_of (by omega) (by omega)
      have hw3 : IntKind.i64.wrap ((w : Int) + ((manyR s l[i].each * broadR s l[i].body : Nat) : Int)) = ((w + manyR s l[i].each * broadR s l[i].body : Nat) : Int) := by rw [Int.natCast_add]; exact wrap_of (by omega) (by omega)
      have hcap2 := min_cap (n := w + manyR s l[i].each * broadR s l[i].body)
      rw [Int.natCast_add] at hw3 hcap2
      rw [Int.natCast_mul] at hw2 hw3 hcap2
      simp [hg']
      refine wp_open [(13, true)] (by rfl) ?_
      simp [e1, e2, e5, e6, e7, hi, g0, SchoolD.cells, Enc.sl]
      rw [hbody]
      simp [e1, e2, e5, e6, e7, hi, g0, SchoolD.cells, Enc.sl]
      refine hc_pure c44 (by simp [AV.purs, AV.pur, FormD.cells_eq]) ?_
      simp [e1, e2, e5, e6, e7, hw2, hw3]
      refine ⟨logOk_none rfl, ?_⟩
      exact ⟨m - 1, by omega, i + 1, _, rfl, _, hcap2, wrap_of (by omega) (by omega), by omega, g0, capR_le, capR_le, by simpa using hx⟩
  · have hd : l.drop i = [] := List.drop_eq_nil_of_le (by omega)
    rw [hd, greatR] at hx
    by_cases h1 : 4096 < n
    · have h1' : (4096 : Int) < n := by omega
      have h2' : ¬ (n : Int) ≤ 4096 := by omega
      simp [h1] at hx
      simp [e1, e2, e5, e6, e7, hi, h1', h2', hx]
      exact ⟨0, Pur.self rfl⟩
    · have h1' : ¬ (4096 : Int) < n := by omega
      have h2' : (n : Int) ≤ 4096 := by omega
      simp [h1] at hx
      have : decide ((1048576 : Int) < w) = decide (1048576 < w) := by simp; omega
      simp [e1, e2, e5, e6, e7, hi, h1', h2', hx, this]
      exact ⟨0, Pur.self rfl⟩
end Go.Zk
namespace Go.Zk
section
variable {E : Env} {n : Nat} {ops : Array Oper}
theorem aguard_mono {o : Oper} {fr : AFr} {X Y X' Y' : Prop} (hx : X → X') (hy : Y → Y') (h : AGuard ops o fr X Y) : AGuard ops o fr X' Y' := by
  unfold AGuard at *
  split at h
  · exact hx h
  · split at h
    · exact hy h
    · split at h
      · split at h
        · rename_i k; rw [if_pos k]; exact hx h
        · rename_i k; rw [if_neg k]; exact hy h
      · exact hy h
      · exact h.elim
theorem aop_mono {o : Oper} {fr : AFr} {H : AHeap} {K K' Qp Qp' : AV → AHeap → Prop} (hk : ∀ v H, K v H → K' v H) (hq : ∀ v H, Qp v H → Qp' v H) (h : AOp E o fr H K Qp) : AOp E o fr H K' Qp' := by
  unfold AOp at *
  split at h
  · split at h
    · split at h
      · refine h.mono fun ar H' hp => ?_
        cases ar with
        | ret v => exact hk _ _ hp
        | panic v => exact hq _ _ hp
      · exact h.elim
    · exact h.elim
  · split at h
    · exact hk _ _ h
    · exact h.elim
theorem aops_mono {Q Q' : AExit → AFr → AHeap → Prop} (hq : ∀ e fr H, Q e fr H → Q' e fr H) : ∀ (l : List Oper) {fr : AFr} {H : AHeap}, AOps E n ops Q l fr H → AOps E n ops Q' l fr H
  | [], fr, H, h => by rw [AOps] at *; exact hq _ _ _ h
  | o :: l, fr, H, h => by
    rw [AOps] at *
    exact aguard_mono (aop_mono (fun v H => aops_mono hq l) fun v H => hq _ _ _) (aops_mono hq l) h
theorem aq_mono {o : Oper} {fr : AFr} {H : AHeap} {id : Nat} {K K' : AV → AEff → Option (List Nat) → Prop} (hk : ∀ v b r, K v b r → K' v b r) (h : AQ E o fr H id K) : AQ E o fr H id K' := by
  unfold AQ at *
  split at h
  · split at h
    · split at h
      · obtain ⟨r, res, h1, h2⟩ := h
        exact ⟨r, res, h1, hk _ _ _ h2⟩
      · exact h.elim
    · exact h.elim
  · split at h
    · split at h
      · exact hk _ _ _ h
      · exact h.elim
    · exact h.elim
  · split at h
    · exact hk _ _ _ h
    · exact h.elim
theorem ahead_mono {N : Nat} {K K' : ALog → AFr → AHeap → Prop} (hk : ∀ l fr H, K l fr H → K' l fr H) : ∀ (l : List Oper) {i : Nat} {log : ALog} {fr : AFr} {H : AHeap}, AHead E n ops N K l i log fr H → AHead E n ops N K' l i log fr H
  | [], i, log, fr, H, h => by rw [AHead] at *; exact hk _ _ _ h
  | o :: l, i, log, fr, H, h => by
    rw [AHead] at *
    exact aguard_mono (aq_mono fun v b r => ahead_mono hk l) (ahead_mono hk l) h
theorem athen_mono {next next' : AFr → AHeap → Prop} {Q Q' : AExit → AFr → AHeap → Prop} (hn : ∀ fr H, next fr H → next' fr H) (hq : ∀ e fr H, Q e fr H → Q' e fr H) : ∀ e fr H, AThen next Q e fr H → AThen next' Q' e fr H := by
  intro e fr H h
  cases e <;> simp only [AThen] at * <;> first | exact hn _ _ h | exact hq _ _ _ h
theorem ablock_mono {id : Nat} {Q Q' : AExit → AFr → AHeap → Prop} (hq : ∀ e fr H, Q e fr H → Q' e fr H) : ∀ e fr H, ABlock id Q e fr H → ABlock id Q' e fr H := by
  intro e fr H h
  cases e with
  | exit i =>
    simp only [ABlock] at *
    split at h
    · rename_i k; rw [if_pos k]; exact hq _ _ _ h
    · rename_i k; rw [if_neg k]; exact hq _ _ _ h
  | _ => simp only [ABlock] at *; exact hq _ _ _ h
theorem astages_mono {Q Q' : AExit → AFr → AHeap → Prop} (hq : ∀ e fr H, Q e fr H → Q' e fr H) : ∀ (l : List (Nat × Bool)) (s : Nat) {fr : AFr} {H : AHeap}, AStages E n ops Q l s fr H → AStages E n ops Q' l s fr H
  | [], s, fr, H, h => by rw [AStages] at *; exact hq _ _ _ h
  | (m, true) :: l, s, fr, H, h => by
    rw [AStages] at *
    exact ahead_mono (fun lg fr H ⟨h1, h2⟩ => ⟨h1, astages_mono hq l m h2⟩) _ h
  | (m, false) :: l, s, fr, H, h => by
    rw [AStages] at *
    exact aops_mono (athen_mono (fun fr H => astages_mono hq l m) hq) _ h
theorem adraw_mono {p : Plan} {Q Q' : AExit → AFr → AHeap → Prop} (hq : ∀ e fr H, Q e fr H → Q' e fr H) {fr : AFr} {H : AHeap} (h : ADraw E n ops p Q fr H) : ADraw E n ops p Q' fr H := by
  cases p with
  | st l => exact ⟨h.1, astages_mono hq l 0 h.2⟩
  | all => exact fun l hl => aops_mono hq _ (h l hl)
theorem aranged_mono {L : Nat} {fr : AFr} {Q Q' : AExit → AFr → AHeap → Prop} (hq : ∀ e fr H, Q e fr H → Q' e fr H) : ∀ ar H, ARanged L Q fr ar H → ARanged L Q' fr ar H := by
  intro ar H h
  cases ar with
  | panic v => exact hq _ _ _ h
  | ret v =>
    simp only [ARanged] at *
    split at h
    · refine ⟨h.1, ?_⟩
      have h2 := h.2
      split at h2
      · exact hq _ _ _ h2
      · exact hq _ _ _ h2
      · exact hq _ _ _ h2
      · exact h2.elim
    · exact h.elim
theorem awp_mono : ∀ (c : Code) {Q Q' : AExit → AFr → AHeap → Prop}, (∀ e fr H, Q e fr H → Q' e fr H) → ∀ {fr : AFr} {H : AHeap}, AWp E n c Q fr H → AWp E n c Q' fr H
  | .skip, _, _, hq, _, _, h => by rw [AWp] at *; exact hq _ _ _ h
  | .label _, _, _, hq, _, _, h => by rw [AWp] at *; exact hq _ _ _ h
  | .ret, _, _, hq, _, _, h => by rw [AWp] at *; exact hq _ _ _ h
  | .exit _, _, _, hq, _, _, h => by rw [AWp] at *; exact hq _ _ _ h
  | .goto _, _, _, hq, _, _, h => by rw [AWp] at *; exact hq _ _ _ h
  | .seq a b, _, _, hq, _, _, h => by
    rw [AWp] at *
    exact awp_mono a (athen_mono (fun fr H => awp_mono b hq) hq) h
  | .cond c t e, _, _, hq, _, _, h => by
    rw [AWp] at *
    split at h
    · split at h
      · rename_i k; rw [if_pos k]; exact awp_mono t hq h
      · rename_i k; rw [if_neg k]; exact awp_mono e hq h
    · exact h.elim
  | .block i c, _, _, hq, _, _, h => by
    rw [AWp] at *
    exact awp_mono c (ablock_mono hq) h
  | .loop c, _, _, hq, _, _, h => by
    rw [AWp] at *
    obtain ⟨I, m, h1, h2⟩ := h
    exact ⟨I, m, h1, fun m fr H hi => awp_mono c (athen_mono (fun _ _ k => k) hq) (h2 m fr H hi)⟩
  | .region _ ops false, _, _, hq, _, _, h => by
    rw [AWp] at *
    exact aops_mono hq _ h
  | .region _ ops true, _, _, hq, _, _, h => by
    rw [AWp] at *
    obtain ⟨p, h⟩ := h
    exact ⟨p, adraw_mono hq h⟩
  | .rangeFunc f ps x y, _, _, hq, _, _, h => by
    rw [AWp] at *
    exact h.mono (aranged_mono hq)
  | .scope _, _, _, _, _, _, h => by rw [AWp] at h; exact h.elim
  | .refuse _, _, _, _, _, _, h => by rw [AWp] at h; exact h.elim
/-- A cut: the code ends as P says; P leads on. -/
theorem wp_cut {c : Code} {Q : AExit → AFr → AHeap → Prop} {fr : AFr} {H : AHeap} (P : AExit → AFr → AHeap → Prop) (h1 : AWp E n c P fr H) (h2 : ∀ e fr H, P e fr H → Q e fr H) : AWp E n c Q fr H := awp_mono c h2 h1
/-- A loop left by one exit alone. -/
theorem wp_loop_cut {c : Code} {Q : AExit → AFr → AHeap → Prop} {fr : AFr} {H : AHeap} (i : Nat) (P : AFr → AHeap → Prop) (I : AFr → AHeap → Nat → Prop) (m : Nat) (h0 : I fr H m)
    (h : ∀ m fr H, I fr H m → AWp E n c (AThen (fun fr' H' => ∃ m', m' < m ∧ I fr' H' m') fun e fr H => e = .exit i ∧ P fr H) fr H) (k : ∀ fr H, P fr H → Q (.exit i) fr H) : AWp E n (.loop c) Q fr H :=
  wp_cut (fun e fr H => e = .exit i ∧ P fr H) (wp_loop I m h0 h) fun e fr H ⟨he, hp⟩ => by subst he; exact k fr H hp
end
end Go.Zk
namespace Go.Zk
open Go.Proofs
variable {E : Env} [h : IsG E]
/-- A sum as the machine has it. -/
def sumW (g : Nat → Int) (a : Int) : Nat → Int
  | 0 => a
  | i + 1 => IntKind.i64.wrap (sumW g a i + g i)
def lenAt {α : Type} (l : List α) (f : α → Nat) (i : Nat) : Int := match l[i]? with
  | some x => f x
  | none => 0
@[simp] theorem lenAt_lt {α : Type} {l : List α} {f : α → Nat} {i : Nat} (h : i < l.length) : lenAt l f i = f l[i] := by simp [lenAt, h]
def upTo (n : Nat) : Nat := if n ≤ 80 then n else 80
/-- Lessons count twice: teachers and groups. -/
def sumL (s : SchoolD) (a : Int) : Nat → Int
  | 0 => a
  | i + 1 => IntKind.i64.wrap (IntKind.i64.wrap (sumL s a i + lenAt s.lessons (·.who.length) i) + lenAt s.lessons (·.groups.length) i)
def fewK (s : SchoolD) : Nat → Int → Int → Bool
  | 0, _, a => decide (a ≤ 20000)
  | m + 1, k, a => if 80 < (elems s k).length then false else fewK s m (k + 1) (sumW (lenAt (elems s k) List.length) a (upTo (elems s k).length))
def few03 (s : SchoolD) : Bool :=
  fewK s 5 1 (sumL s (sumW (lenAt s.people (·.away.length)) (sumW (lenAt s.rooms (·.shut.length)) 0 (upTo s.rooms.length)) (upTo s.people.length)) (upTo s.lessons.length))
theorem few_45 (s : SchoolD) (hs : s.Mid) : PF E 45 [s.av] (.bool (few03 s)) := by
  have b1 := hs.rooms
  have b2 := hs.people
  have b3 := hs.lessons
  refine pf_of_body mixed fn_45 (by simp) ?_
  unfold Tryz.f45 ABody
  simp [SchoolD.av]
  have upb : ∀ n, upTo n ≤ n ∧ upTo n ≤ 80 := fun n => by unfold upTo; split <;> omega
  have upn : ∀ n i, ¬ i < upTo n → i ≤ n → ¬ (i < n ∧ (i : Int) < 80) := fun n i h1 h2 => by rintro ⟨h3, h4⟩; unfold upTo at h1; split at h1 <;> omega
  generalize ha1 : sumW (lenAt s.rooms (·.shut.length)) 0 (upTo s.rooms.length) = a1
  generalize ha2 : sumW (lenAt s.people (·.away.length)) a1 (upTo s.people.length) = a2
  generalize ha3 : sumL s a2 (upTo s.lessons.length) = a3
  refine wp_loop_cut 0 (fun fr H => fr 1 = .ptr 0 0 ∧ fr 2 = .bool false ∧ fr 3 = I a1 ∧ 1 ≤ H.next ∧ H.get 0 = .row s.cells)
    (fun fr H m => ∃ i : Nat, fr 1 = .ptr 0 0 ∧ fr 2 = .bool false ∧ fr 3 = I (sumW (lenAt s.rooms (·.shut.length)) 0 i) ∧ fr 4 = I i ∧ i + m = upTo s.rooms.length ∧ 1 ≤ H.next ∧ H.get 0 = .row s.cells) (upTo s.rooms.length) ?_ ?_ ?_
  · exact ⟨0, by simp [sumW]⟩
  · rintro m fr H ⟨i, e1, e2, e3, e4, hm, hn, g0⟩
    have hu := upb s.rooms.length
    by_cases hi : i < upTo s.rooms.length
    · have h1 : i < s.rooms.length := by omega
      have h2 : (i : Int) < 80 := by omega
      have hs1 : sumW (lenAt s.rooms (·.shut.length)) 0 (i + 1) = IntKind.i64.wrap (sumW (lenAt s.rooms (·.shut.length)) 0 i + s.rooms[i].shut.length) := by rw [sumW]; simp [h1]
      simp [e1, e2, e3, e4, h1, h2, g0, SchoolD.cells, Enc.sl]
      rw [show (roomE.cells s.rooms)[i * 4 + 3]? = some (isl s.rooms[i].shut) from by have := roomE.cell h1 (k := 3) (by decide); simpa [roomE] using this]
      simp [e1, e2, e3, e4, isl]
      exact ⟨m - 1, by omega, i + 1, by rw [hs1], wrap_of (by omega) (by omega), by omega, by omega, by simpa [SchoolD.cells, Enc.sl] using g0⟩
    · have hib := upn s.rooms.length i hi (by omega)
      have hil : i = upTo s.rooms.length := by omega
      rw [hil, ha1] at e3
      by_cases h1 : i < s.rooms.length
      · have h2 : ¬ (i : Int) < 80 := fun e => hib ⟨h1, e⟩
        have h2' : (80 : Int) ≤ i := by omega
        simp [e1, e2, e3, e4, h1, h2, h2', g0, SchoolD.cells, Enc.sl]
        first | exact hn | exact ⟨hn, by simpa [SchoolD.cells, Enc.sl] using g0⟩
      · have h1' : s.rooms.length ≤ i := by omega
        simp [e1, e2, e3, e4, h1, h1', g0, SchoolD.cells, Enc.sl]
        first | exact hn | exact ⟨hn, by simpa [SchoolD.cells, Enc.sl] using g0⟩
  rintro fr H ⟨e1, e2, e3, hn, g0⟩
  simp [e1, e2, e3]
  refine wp_loop_cut 2 (fun fr H => fr 1 = .ptr 0 0 ∧ fr 2 = .bool false ∧ fr 3 = I a2 ∧ 1 ≤ H.next ∧ H.get 0 = .row s.cells)
    (fun fr H m => ∃ i : Nat, fr 1 = .ptr 0 0 ∧ fr 2 = .bool false ∧ fr 3 = I (sumW (lenAt s.people (·.away.length)) a1 i) ∧ fr 5 = I i ∧ i + m = upTo s.people.length ∧ 1 ≤ H.next ∧ H.get 0 = .row s.cells) (upTo s.people.length) ?_ ?_ ?_
  · exact ⟨0, by simp [sumW, e1, e2, e3, hn, g0]⟩
  · clear e1 e2 e3 hn g0
    rintro m fr H ⟨i, e1, e2, e3, e4, hm, hn, g0⟩
    have hu := upb s.people.length
    by_cases hi : i < upTo s.people.length
    · have h1 : i < s.people.length := by omega
      have h2 : (i : Int) < 80 := by omega
      have hs1 : sumW (lenAt s.people (·.away.length)) a1 (i + 1) = IntKind.i64.wrap (sumW (lenAt s.people (·.away.length)) a1 i + s.people[i].away.length) := by rw [sumW]; simp [h1]
      simp [e1, e2, e3, e4, h1, h2, g0, SchoolD.cells, Enc.sl]
      rw [show (personE.cells s.people)[i * 2 + 1]? = some (isl s.people[i].away) from by have := personE.cell h1 (k := 1) (by decide); simpa [personE] using this]
      simp [e1, e2, e3, e4, isl]
      exact ⟨m - 1, by omega, i + 1, by rw [hs1], wrap_of (by omega) (by omega), by omega, by omega, by simpa [SchoolD.cells, Enc.sl] using g0⟩
    · have hib := upn s.people.length i hi (by omega)
      have hil : i = upTo s.people.length := by omega
      rw [hil, ha2] at e3
      by_cases h1 : i < s.people.length
      · have h2 : ¬ (i : Int) < 80 := fun e => hib ⟨h1, e⟩
        have h2' : (80 : Int) ≤ i := by omega
        simp [e1, e2, e3, e4, h1, h2, h2', g0, SchoolD.cells, Enc.sl]
        first | exact hn | exact ⟨hn, by simpa [SchoolD.cells, Enc.sl] using g0⟩
      · have h1' : s.people.length ≤ i := by omega
        simp [e1, e2, e3, e4, h1, h1', g0, SchoolD.cells, Enc.sl]
        first | exact hn | exact ⟨hn, by simpa [SchoolD.cells, Enc.sl] using g0⟩
  clear e1 e2 e3 hn g0
  rintro fr H ⟨e1, e2, e3, hn, g0⟩
  simp [e1, e2, e3]
  refine wp_loop_cut 4 (fun fr H => fr 1 = .ptr 0 0 ∧ fr 2 = .bool false ∧ fr 3 = I a3 ∧ 1 ≤ H.next ∧ H.get 0 = .row s.cells)
    (fun fr H m => ∃ i : Nat, fr 1 = .ptr 0 0 ∧ fr 2 = .bool false ∧ fr 3 = I (sumL s a2 i) ∧ fr 6 = I i ∧ i + m = upTo s.lessons.length ∧ 1 ≤ H.next ∧ H.get 0 = .row s.cells) (upTo s.lessons.length) ?_ ?_ ?_
  · exact ⟨0, by simp [sumL, e1, e2, e3, hn, g0]⟩
  · clear e1 e2 e3 hn g0
    rintro m fr H ⟨i, e1, e2, e3, e4, hm, hn, g0⟩
    have hu := upb s.lessons.length
    by_cases hi : i < upTo s.lessons.length
    · have h1 : i < s.lessons.length := by omega
      have h2 : (i : Int) < 80 := by omega
      have hs1 : sumL s a2 (i + 1) = IntKind.i64.wrap (IntKind.i64.wrap (sumL s a2 i + s.lessons[i].who.length) + s.lessons[i].groups.length) := by rw [sumL]; simp [h1]
      simp [e1, e2, e3, e4, h1, h2, g0, SchoolD.cells, Enc.sl]
      refine wp_open [(18, true)] (by rfl) ?_
      simp [e1, e2, e3, e4, h1, h2, g0, SchoolD.cells, Enc.sl]
      rw [show (lessonE.cells s.lessons)[i * 3 + 1]? = some (isl s.lessons[i].who) from by have := lessonE.cell h1 (k := 1) (by decide); simpa [lessonE] using this]
      simp [e1, e2, e3, e4, h1, h2, g0, SchoolD.cells, Enc.sl, isl]
      rw [show (lessonE.cells s.lessons)[i * 3 + 2]? = some (isl s.lessons[i].groups) from by have := lessonE.cell h1 (k := 2) (by decide); simpa [lessonE] using this]
      simp [e1, e2, e3, e4, isl]
      refine ⟨logOk_none rfl, ?_⟩
      exact ⟨m - 1, by omega, i + 1, by rw [hs1], wrap_of (by omega) (by omega), by omega, by simpa [SchoolD.cells, Enc.sl] using g0⟩
    · have hib := upn s.lessons.length i hi (by omega)
      have hil : i = upTo s.lessons.length := by omega
      rw [hil, ha3] at e3
      by_cases h1 : i < s.lessons.length
      · have h2 : ¬ (i : Int) < 80 := fun e => hib ⟨h1, e⟩
        have h2' : (80 : Int) ≤ i := by omega
        simp [e1, e2, e3, e4, h1, h2, h2', g0, SchoolD.cells, Enc.sl]
        first | exact hn | exact ⟨hn, by simpa [SchoolD.cells, Enc.sl] using g0⟩
      · have h1' : s.lessons.length ≤ i := by omega
        simp [e1, e2, e3, e4, h1, h1', g0, SchoolD.cells, Enc.sl]
        first | exact hn | exact ⟨hn, by simpa [SchoolD.cells, Enc.sl] using g0⟩
  clear e1 e2 e3 hn g0
  rintro fr H ⟨e1, e2, e3, hn, g0⟩
  simp [e1, e2, e3]
  have hfew : few03 s = fewK s 5 1 a3 := by rw [few03, ha1, ha2, ha3]
  rw [hfew]
  generalize hR : fewK s 5 1 a3 = R
  refine wp_loop (fun fr H m => ∃ (k a : Int), fr 1 = .ptr 0 0 ∧ fr 2 = .bool false ∧ fr 3 = I a ∧ fr 7 = I k ∧ k + m = 6 ∧ 1 ≤ k ∧ 1 ≤ H.next ∧ H.get 0 = .row s.cells ∧ R = fewK s m k a) 5 ?_ ?_
  · exact ⟨1, a3, by simp [e1, e2, e3, hn, g0, hR]⟩
  clear e1 e2 e3 hn g0
  rintro m fr H ⟨k, a, e1, e2, e3, e7, hm, hk1, hn, g0, hx⟩
  match m with
  | 0 =>
    have hk : ¬ k ≤ 5 := by omega
    have hk' : 5 < k := by omega
    rw [fewK] at hx
    simp [e1, e2, e3, e7, hk, hk']
    rw [hx]
    exact ⟨0, Pur.self rfl⟩
  | m + 1 =>
    have hk : k ≤ 5 := by omega
    have c82 := names_82 (E := E) s k hs
    rw [SchoolD.av, SchoolD.cells] at c82
    have hlen := elems_mid hs k
    rw [fewK] at hx
    simp [e1, e2, e3, e7, hk, g0, SchoolD.cells]
    refine rc_pure c82 rfl ?_
    generalize elems s k = L at *
    generalize hcs : strE.cells L = cs
    simp [e1, e2, e3, e7, hk, Enc.sl, hcs]
    refine wp_loop_cut 8 (fun fr H => fr 1 = .ptr 0 0 ∧ fr 2 = .bool false ∧ fr 3 = I (sumW (lenAt L List.length) a (upTo L.length)) ∧ fr 7 = I k ∧ fr 8 = .sl L.length false cs ∧ 1 ≤ H.next ∧ H.get 0 = .row s.cells)
      (fun fr H m => ∃ i : Nat, fr 1 = .ptr 0 0 ∧ fr 2 = .bool false ∧ fr 3 = I (sumW (lenAt L List.length) a i) ∧ fr 7 = I k ∧ fr 8 = .sl L.length false cs ∧ fr 9 = I i ∧ i + m = upTo L.length ∧ 1 ≤ H.next ∧ H.get 0 = .row s.cells) (upTo L.length) ?_ ?_ ?_
    · exact ⟨0, by simp [sumW, e1, e2, e3, e7, hn, g0]⟩
    · clear e1 e2 e3 e7 hn g0
      rintro m' fr H ⟨i, e1, e2, e3, e7, e8, e9, hm', hn, g0⟩
      have hu := upb L.length
      by_cases hi : i < upTo L.length
      · have h1 : i < L.length := by omega
        have h2 : (i : Int) < 80 := by omega
        have hs1 : sumW (lenAt L List.length) a (i + 1) = IntKind.i64.wrap (sumW (lenAt L List.length) a i + L[i].length) := by rw [sumW]; simp [h1]
        simp [e1, e2, e3, e7, e8, e9, h1, h2, g0]
        rw [show cs[i]? = some (.str L[i]) from by have := strE.cell h1 (k := 0) (by decide); rw [hcs] at this; simpa [strE] using this]
        simp [e1, e2, e3, e7, e8, e9]
        exact ⟨m' - 1, by omega, i + 1, by rw [hs1], wrap_of (by omega) (by omega), by omega, hn, g0⟩
      · have hib := upn L.length i hi (by omega)
        have hil : i = upTo L.length := by omega
        rw [hil] at e3
        by_cases h1 : i < L.length
        · have h2 : ¬ (i : Int) < 80 := fun e => hib ⟨h1, e⟩
          have h2' : (80 : Int) ≤ i := by omega
          simp [e1, e2, e3, e7, e8, e9, h1, h2, h2']
          exact ⟨hn, g0⟩
        · have h1' : L.length ≤ i := by omega
          simp [e1, e2, e3, e7, e8, e9, h1, h1']
          exact ⟨hn, g0⟩
    clear e1 e2 e3 e7 hn g0
    rintro fr H ⟨e1, e2, e3, e7, e8, hn, g0⟩
    by_cases hL : 80 < L.length
    · rw [if_pos hL] at hx
      have hL' : (80 : Int) < L.length := by omega
      simp [e1, e2, e3, e7, e8, hL, hL']
      rw [hx]
      exact ⟨0, Pur.self rfl⟩
    · rw [if_neg hL] at hx
      have hL' : ¬ (80 : Int) < L.length := by omega
      have hwk : IntKind.i64.wrap (k + 1) = k + 1 := wrap_of (by omega) (by omega)
      simp [e1, e2, e3, e7, e8, hL, hL', hwk]
      exact ⟨m, by omega, by omega, by omega, hn, g0, hx⟩
end Go.Zk
namespace Go.Zk
open Go.Proofs
variable {E : Env} [h : IsG E]
open Classical in
noncomputable def few08 (E : Env) (f : FormD) : Bool := if h : ∃ b, PF E 42 [f.av] (.bool b) then h.choose else false
theorem few08_is (f : FormD) (hf : f.Fit) : PF E 42 [f.av] (.bool (few08 E f)) := by
  have hx := few_42 (E := E) _ f (Nat.lt_succ_self _) hf
  unfold few08
  rw [dif_pos hx]
  exact hx.choose_spec
def capS (x : Int) : Int := if x ≤ 1048576 then x else 1048576
noncomputable def fewRFrom (E : Env) (s : SchoolD) : Nat → Int → List RuleD → Option Int
  | 0, a, _ => some a
  | _ + 1, a, [] => some a
  | k + 1, a, r :: l => if few08 E r.body = false ∨ 12 < r.each.length ∨ 100 < r.name.length then none else if r.each.any (fun b => decide (100 < b.name.length)) = true then none
    else fewRFrom E s k (capS (IntKind.i64.wrap (a + IntKind.i64.wrap ((manyR s r.each : Int) * broadR s r.body)))) l
noncomputable def fewRules (E : Env) (s : SchoolD) (l : List RuleD) : Bool := match fewRFrom E s 20 0 l with
  | none => false
  | some a => few03 s && (decide (l.length ≤ 12) && (decide (a ≤ 20000) || greatR s 0 0 l))
structure RuleD.Both (r : RuleD) : Prop where
  fit : r.Fit
  mid : r.Mid
theorem fewRules_17 (s : SchoolD) (l : List RuleD) (hs : s.Mid) (hl : l.length ≤ 1048576) (hr : ∀ r ∈ l, r.Both) : PF E 17 [s.av, ruleE.sl l] (.bool (fewRules E s l)) := by
  refine pf_of_body mixed fn_17 (by simp) ?_
  unfold Tryz.f17 ABody
  generalize hcs : ruleE.cells l = cs
  simp [SchoolD.av, Enc.sl, hcs]
  have hin : 20 ≤ 20 := Nat.le_refl _
  refine wp_cut (fun e fr H => (e = .exit 0 ∧ ∃ a, fewRFrom E s 20 0 l = some a ∧ fr 1 = .sl l.length false cs ∧ fr 2 = .ptr 0 0 ∧ fr 5 = I a ∧ 1 ≤ H.next ∧ H.get 0 = .row s.cells) ∨ (e = .ret ∧ fr 4 = .bool false ∧ fewRFrom E s 20 0 l = none)) ?_ ?_
  · refine wp_loop (fun fr H m => ∃ (i : Nat) (a : Int), fr 1 = .sl l.length false cs ∧ fr 2 = .ptr 0 0 ∧ fr 4 = .bool false ∧ fr 5 = I a ∧ fr 6 = I i ∧ i + m = 20 ∧ i ≤ l.length ∧ 1 ≤ H.next ∧ H.get 0 = .row s.cells ∧ fewRFrom E s 20 0 l = fewRFrom E s m a (l.drop i)) 20 ?_ ?_
    · exact ⟨0, 0, by simp⟩
    rintro m fr H ⟨i, a, e1, e2, e4, e5, e6, hm, hil, hn, g0, hx⟩
    generalize fewRFrom E s 20 0 l = R at *
    by_cases hi : i < l.length
    · have hd : l.drop i = l[i] :: l.drop (i + 1) := List.drop_eq_getElem_cons hi
      match m with
      | 0 =>
        rw [fewRFrom] at hx
        have h20 : i = 20 := by omega
        have h2 : ¬ (i : Int) < 20 := by omega
        have h3 : (20 : Int) ≤ i := by omega
        simp [e1, e2, e4, e5, e6, hi, h2, h3]
        exact ⟨_, hx, rfl, hn, g0⟩
      | m + 1 =>
        rw [hd, fewRFrom] at hx
        have h2 : (i : Int) < 20 := by omega
        have hri := hr _ (List.getElem_mem hi)
        have c42 := few08_is (E := E) l[i].body hri.fit.body
        rw [FormD.av] at c42
        have hcell : ∀ k, k < 10 → cs[i * 10 + k]? = (ruleE.enc l[i])[k]? := fun k hk => by rw [← hcs]; exact ruleE.cell hi hk
        have hl6 : l[i].body.cells.length = 6 := FormD.cells_len _
        have hbody : apart true 6 (i * 10 + 4) cs = some (.agg l[i].body.cells) := by
          have hp := ruleE.cells_at hi
          rw [hcs] at hp
          have hcl : cs.length = l.length * 10 := by rw [← hcs]; exact ruleE.cells_len
          rw [apart_agg, if_pos (by omega)]
          congr 2
          have : (List.drop 4 (List.take 10 (cs.drop (i * 10)))).take 6 = l[i].body.cells := by
            rw [show (10 : Nat) = ruleE.z from rfl, hp]
            simp [ruleE]
            exact List.take_of_length_le (by omega)
          rw [← this, List.drop_take, List.drop_drop, List.take_take]
          simp
        have hc0 := hcell 0 (by omega)
        have hc3 := hcell 3 (by omega)
        simp [ruleE] at hc0 hc3
        simp [e1, e2, e4, e5, e6, hi, h2]
        rw [hbody]
        simp [e1, e2, e4, e5, e6, hi, h2]
        refine rc_pure c42 (by simp [AV.purs, AV.pur, FormD.cells_eq]) ?_
        have hnone : ∀ (b : Bool), R = none → (fewRFrom E s 20 0 l = none) → True := fun _ _ _ => trivial
        cases hb : few08 E l[i].body
        · rw [if_pos (.inl hb)] at hx
          simp [e1, e2, e4, e5, e6, hi, h2]
          exact hx
        by_cases h12 : 12 < l[i].each.length
        · rw [if_pos (.inr (.inl h12))] at hx
          have h12' : (12 : Int) < l[i].each.length := by omega
          simp [e1, e2, e4, e5, e6, hi, h2, hc3, Enc.sl, h12']
          exact hx
        by_cases h100 : 100 < l[i].name.length
        · rw [if_pos (.inr (.inr h100))] at hx
          have h12' : ¬ (12 : Int) < l[i].each.length := by omega
          have h100' : (100 : Int) < l[i].name.length := by omega
          simp [e1, e2, e4, e5, e6, hi, h2, hc3, hc0, Enc.sl, h12', h100']
          exact hx
        rw [if_neg (by simp [hb, h12, h100])] at hx
        have h12' : ¬ (12 : Int) < l[i].each.length := by omega
        have h100' : ¬ (100 : Int) < l[i].name.length := by omega
        have h12x : (l[i].each.length : Int) ≤ 12 := by omega
        have h100x : (l[i].name.length : Int) ≤ 100 := by omega
        simp [e1, e2, e4, e5, e6, hi, h2, hc3, hc0, Enc.sl, h12', h100', h12x, h100x]
        refine wp_cut (fun e fr H => (e = .exit 2 ∧ l[i].each.any (fun b => decide (100 < b.name.length)) = false ∧ fr 1 = .sl l.length false cs ∧ fr 2 = .ptr 0 0 ∧ fr 4 = .bool false ∧ fr 5 = I a ∧ fr 6 = I i ∧ 1 ≤ H.next ∧ H.get 0 = .row s.cells) ∨ (e = .ret ∧ fr 4 = .bool false ∧ l[i].each.any (fun b => decide (100 < b.name.length)) = true)) ?_ ?_
        · refine wp_loop (fun fr H m => ∃ (j : Nat), fr 1 = .sl l.length false cs ∧ fr 2 = .ptr 0 0 ∧ fr 4 = .bool false ∧ fr 5 = I a ∧ fr 6 = I i ∧ fr 7 = I j ∧ j + m = l[i].each.length ∧ 1 ≤ H.next ∧ H.get 0 = .row s.cells ∧ (l[i].each.take j).any (fun b => decide (100 < b.name.length)) = false) l[i].each.length ?_ ?_
          · exact ⟨0, by simp [e1, e2, e4, e5, e6, hn, g0]⟩
          clear e1 e2 e4 e5 e6 hn g0
          rintro m' fr H ⟨j, e1, e2, e4, e5, e6, e7, hm', hn, g0, hy⟩
          have hj12 : l[i].each.length ≤ 12 := by omega
          by_cases hj : j < l[i].each.length
          · have hname : (bindE.cells l[i].each)[j * 2]? = some (.str l[i].each[j].name) := by have := bindE.cell hj (k := 0) (by decide); simpa [bindE] using this
            have htk : (l[i].each.take (j + 1)).any (fun b => decide (100 < b.name.length)) = decide (100 < l[i].each[j].name.length) := by
              rw [List.take_succ_eq_append_getElem hj, List.any_append, hy]; simp
            by_cases hnm : 100 < l[i].each[j].name.length
            · have hnm' : (100 : Int) < l[i].each[j].name.length := by omega
              simp [e1, e2, e4, e5, e6, e7, hi, hj, hc3, Enc.sl, hname, hnm']
              exact ⟨_, List.getElem_mem hj, hnm⟩
            · have hnm' : ¬ (100 : Int) < l[i].each[j].name.length := by omega
              simp [e1, e2, e4, e5, e6, e7, hi, hj, hc3, Enc.sl, hname, hnm']
              simp [hnm] at htk
              exact ⟨m' - 1, by omega, j + 1, wrap_of (by omega) (by omega), by omega, hn, g0, htk⟩
          · simp [e1, e2, e4, e5, e6, e7, hi, hj, hc3, Enc.sl]
            rw [List.take_of_length_le (by omega)] at hy
            simp at hy
            exact ⟨hy, hn, g0⟩
        clear e1 e2 e4 e5 e6 hn g0
        rintro e fr H (⟨rfl, hy, e1, e2, e4, e5, e6, hn, g0⟩ | ⟨rfl, e4, hy⟩)
        · rw [if_neg (by simp [hy])] at hx
          have c43 := many_43 (E := E) s l[i].each hs hri.mid.each
          have c44 := broad_44 (E := E) _ s l[i].body (Nat.lt_succ_self _) hs hri.mid.body
          rw [SchoolD.av, SchoolD.cells] at c43
          rw [SchoolD.av, SchoolD.cells, FormD.av] at c44
          simp [e1, e2, e4, e5, e6]
          refine wp_open [(19, true)] (by rfl) ?_
          simp [e1, e2, e4, e5, e6, hi, g0, SchoolD.cells, hc3]
          refine hc_pure c43 rfl ?_
          simp [e1, e2, e4, e5, e6, hi, g0, SchoolD.cells, hbody]
          refine hc_pure c44 (by simp [AV.purs, AV.pur, FormD.cells_eq]) ?_
          simp [e1, e2, e4, e5, e6]
          refine ⟨logOk_none rfl, ?_⟩
          exact ⟨m, by omega, i + 1, wrap_of (by omega) (by omega), by omega, by omega, g0, by rw [hx]; rfl⟩
        · rw [if_pos hy] at hx
          simp [e4]
          exact hx
    · rw [List.drop_eq_nil_of_le (by omega)] at hx
      have hx' : R = some a := by
        cases m with
        | zero => rw [fewRFrom] at hx; exact hx
        | succ m => rw [fewRFrom] at hx; exact hx
      simp [e1, e2, e4, e5, e6, hi]
      exact ⟨_, hx', rfl, hn, g0⟩
  · rintro e fr H (⟨rfl, a, hR, e1, e2, e5, hn, g0⟩ | ⟨rfl, e4, hR⟩)
    · have c45 := few_45 (E := E) s hs
      have c46 := great_46 (E := E) s l hs hl fun r hm => (hr r hm).mid
      rw [SchoolD.av, SchoolD.cells] at c45 c46
      rw [show ruleE.sl l = .sl l.length false cs from by rw [Enc.sl, hcs]] at c46
      have hres : fewRules E s l = (few03 s && (decide (l.length ≤ 12) && (decide (a ≤ 20000) || greatR s 0 0 l))) := by rw [fewRules, hR]
      simp [e1, e2, e5, g0, SchoolD.cells]
      refine rc_pure c45 rfl ?_
      cases hf : few03 s
      · simp
        rw [hres, hf]
        exact ⟨0, Pur.self rfl⟩
      by_cases h12 : l.length ≤ 12
      · have h12' : (l.length : Int) ≤ 12 := by omega
        by_cases ha : a ≤ 20000
        · have ha' : ¬ 20000 < a := by omega
          simp [e1, e2, e5, g0, h12', ha, ha']
          rw [hres, hf]
          simp [h12, ha]
          exact ⟨0, Pur.self rfl⟩
        · have ha' : 20000 < a := by omega
          simp [e1, e2, e5, g0, h12', ha, ha', SchoolD.cells]
          refine rc_pure c46 (by simp [AV.purs, AV.pur]) ?_
          simp
          rw [hres, hf]
          simp [h12, ha]
          exact ⟨0, Pur.self rfl⟩
      · have h12' : ¬ (l.length : Int) ≤ 12 := by omega
        have h12x : (12 : Int) < l.length := by omega
        simp [e1, e2, e5, g0, h12', h12x]
        rw [hres, hf]
        simp [h12]
        exact ⟨0, Pur.self rfl⟩
    · have hres : fewRules E s l = false := by rw [fewRules, hR]
      simp [e4]
      rw [hres]
      exact ⟨0, Pur.self rfl⟩
noncomputable def fewPlan (E : Env) (c : CaseD) : Bool :=
  fewRules E c.school c.rules && (decide (c.school.lessons.length ≤ 3) && (decide (c.school.slots.length ≤ 3) && (decide (c.school.rooms.length ≤ 2) && decide (c.closed.length ≤ 10))))
theorem fewPlan_6 (c : CaseD) (hs : c.school.Mid) (hl : c.rules.length ≤ 1048576) (hr : ∀ r ∈ c.rules, r.Both) : PF E 6 [c.av] (.bool (fewPlan E c)) := by
  have c17 := fewRules_17 (E := E) c.school c.rules hs hl hr
  refine pf_of_body mixed fn_6 (by simp) ?_
  unfold Tryz.f6 ABody
  rw [CaseD.av, case_cells]
  rw [SchoolD.av, SchoolD.cells] at c17
  simp
  refine rc_pure c17 rfl ?_
  cases h1 : fewRules E c.school c.rules
  · simp [fewPlan, h1]
    exact ⟨0, Pur.self rfl⟩
  by_cases h2 : c.school.lessons.length ≤ 3
  · have h2' : (c.school.lessons.length : Int) ≤ 3 := by omega
    by_cases h3 : c.school.slots.length ≤ 3
    · have h3' : (c.school.slots.length : Int) ≤ 3 := by omega
      by_cases h4 : c.school.rooms.length ≤ 2
      · have h4' : (c.school.rooms.length : Int) ≤ 2 := by omega
        simp [fewPlan, h1, h2, h2', h3, h3', h4, h4', Enc.sl, isl]
        have : decide ((c.closed.length : Int) ≤ 10) = decide (c.closed.length ≤ 10) := by simp; omega
        rw [this]
        exact ⟨0, Pur.self rfl⟩
      · have h4' : ¬ (c.school.rooms.length : Int) ≤ 2 := by omega
        have h4x : (2 : Int) < c.school.rooms.length := by omega
        simp [fewPlan, h1, h2, h2', h3, h3', h4, h4', h4x, Enc.sl]
        exact ⟨0, Pur.self rfl⟩
    · have h3' : ¬ (c.school.slots.length : Int) ≤ 3 := by omega
      have h3x : (3 : Int) < c.school.slots.length := by omega
      simp [fewPlan, h1, h2, h2', h3, h3', h3x, Enc.sl]
      exact ⟨0, Pur.self rfl⟩
  · have h2' : ¬ (c.school.lessons.length : Int) ≤ 3 := by omega
    have h2x : (3 : Int) < c.school.lessons.length := by omega
    simp [fewPlan, h1, h2, h2', h2x, Enc.sl]
    exact ⟨0, Pur.self rfl⟩
end Go.Zk
namespace Go.Zk
open Go.Proofs
variable {E : Env} [h : IsG E]
theorem best_mem {c : CaseD} {old w : List PlaceD} (hw : w ∈ weeks0 E c) (hb : bestE E c old w = true) : w ∈ mayL E c old ∧ ∀ x ∈ mayL E c old, betterB E c old (auditE E c w).2 (movesE E c old w) x = false := by
  unfold bestE at hb
  simp only [Bool.and_eq_true, Bool.not_eq_true'] at hb
  obtain ⟨h1, h2, h3⟩ := hb
  refine ⟨List.mem_filter.2 ⟨hw, by simp [mayB', h1, h2]⟩, fun x hx => ?_⟩
  rw [List.any_eq_false] at h3
  simpa using h3 x hx
theorem best_cost {c : CaseD} {old w1 w2 : List PlaceD} (hw1 : w1 ∈ weeks0 E c) (hw2 : w2 ∈ weeks0 E c) (hb1 : bestE E c old w1 = true) (hb2 : bestE E c old w2 = true) : (auditE E c w1).2 = (auditE E c w2).2 := by
  obtain ⟨m1, n1⟩ := best_mem hw1 hb1
  obtain ⟨m2, n2⟩ := best_mem hw2 hb2
  have k1 := n1 _ m2
  have k2 := n2 _ m1
  unfold betterB at k1 k2
  simp only [Bool.or_eq_false_iff, decide_eq_false_iff_not] at k1 k2
  omega
theorem least_exists {α : Type} (f : α → Int) (g : α → Nat) : ∀ (l : List α), l ≠ [] → ∃ w ∈ l, ∀ x ∈ l, ¬ (f x < f w ∨ (f x = f w ∧ g x < g w))
  | [], h => absurd rfl h
  | a :: l, _ => by
    by_cases hl : l = []
    · subst hl
      exact ⟨a, by simp, fun x hx => by simp at hx; subst hx; omega⟩
    · obtain ⟨w, hw, hmin⟩ := least_exists f g l hl
      by_cases hc : f a < f w ∨ (f a = f w ∧ g a < g w)
      · refine ⟨a, by simp, fun x hx => ?_⟩
        rcases List.mem_cons.1 hx with rfl | hx
        · omega
        · have := hmin x hx; omega
      · refine ⟨w, by simp [hw], fun x hx => ?_⟩
        rcases List.mem_cons.1 hx with rfl | hx
        · exact hc
        · exact hmin x hx
theorem best_exists {c : CaseD} {old : List PlaceD} (hm : mayL E c old ≠ []) : ∃ w ∈ weeks0 E c, bestE E c old w = true := by
  obtain ⟨w, hw, hmin⟩ := least_exists (fun w => (auditE E c w).2) (fun w => movesE E c old w) _ hm
  have hf := List.mem_filter.1 hw
  refine ⟨w, hf.1, ?_⟩
  have hb := hf.2
  unfold mayB' at hb
  simp only [Bool.and_eq_true] at hb
  unfold bestE
  rw [hb.1, hb.2]
  simp only [Bool.true_and, Bool.not_eq_true', List.any_eq_false]
  intro x hx
  have := hmin x hx
  unfold betterB
  simp only [Bool.or_eq_true, Bool.and_eq_true, decide_eq_true_eq]
  exact this
theorem left_300 {a b : Nat} (h : ¬ leftAt 300 a b = 0) : ¬ leftAt 4096 a b = 0 := by
  unfold leftAt at *
  intro e
  apply h
  have : 300 / a ^ b ≤ 4096 / a ^ b := Nat.div_le_div_right (by omega)
  rw [e] at this
  exact Nat.le_zero.1 this
/-- The law, if live() is true. -/
theorem law_4 (c : CaseD) (old : List PlaceD) (hlive : PF E 5 [] (.bool true)) (hc : c.Fit) (hs : c.school.Mid) (hl : c.rules.length ≤ 1048576) (hr : ∀ r ∈ c.rules, r.Both) (ho : old.length ≤ 1048576) :
    PF E 4 [c.av, weekAV old] (.bool true) := by
  have c6 := fewPlan_6 (E := E) c hs hl hr
  have c13 := all_weeks (E := E) c.school 300 hc.school (by omega)
  have hW0 := fun (h1 : ¬ schoolE E c.school ≠ 0) (h2 : ¬ leftAt 300 (c.school.slots.length * c.school.rooms.length) c.school.lessons.length = 0) => (show weeks0 E c = weeksOf c.school by rw [weeks0, if_neg h1, if_neg (left_300 h2)])
  have hlens : ∀ w ∈ weeks0 E c, w.length ≤ 64 := fun w hw => weeks0_len hw
  have hcost := fun w1 h1 w2 h2 => best_cost (E := E) (c := c) (old := old) (w1 := w1) (w2 := w2) h1 h2
  have hex := best_exists (E := E) (c := c) (old := old)
  have hmw : ∀ w, w ∈ weeks0 E c → bestE E c old w = true → w ∈ mayL E c old := fun w hw hb => (best_mem hw hb).1
  have c11 := none_11 (E := E) c old hc (by unfold Big; omega)
  have c9 : ∀ w ∈ weeks0 E c, PF E 9 [c.av, weekAV old, weekAV w] (.bool (bestE E c old w)) := fun w hw => best_9 c old w hc (by unfold Big; omega) (by have := hlens w hw; omega)
  have c7 : ∀ w ∈ weeks0 E c, PF E 7 [c.av, weekAV w] (auditAV E c w) := fun w hw => audit_7 c w hc (by have := hlens w hw; unfold Big; omega)
  refine pf_of_body mixed fn_4 (by simp) ?_
  unfold Tryz.f4 ABody
  simp only [CaseD.av, weekAV] at c6 c9 c7 c11 ⊢
  rw [SchoolD.av] at c13
  have hcl : c.cells.length = 7 := rfl
  have hct : List.take 7 c.cells = c.cells := List.take_of_length_le (by omega)
  have hc5 : List.take 5 c.cells = c.school.cells := rfl
  have hcp : AV.purs c.cells = true := rfl
  generalize c.cells = cc at *
  simp [hcl, hct, hc5]
  refine rc_pure hlive rfl ?_
  simp [hcl, hct, hc5]
  refine rc_pure c6 (by simp [AV.purs, AV.pur, hcp]) ?_
  cases hf : fewPlan E c
  · simp
    exact ⟨0, Pur.self rfl⟩
  by_cases h70 : 70 < old.length
  · have h70' : (70 : Int) < old.length := by omega
    simp [h70', Enc.sl]
    exact ⟨0, Pur.self rfl⟩
  have h70' : ¬ (70 : Int) < old.length := by omega
  simp [h70', Enc.sl, hcl, hct, hc5]
  refine rc_pure c13 rfl ?_
  rw [allAV]
  by_cases h0 : schoolE E c.school ≠ 0
  · rw [if_pos h0]
    simp [h0]
    exact ⟨0, Pur.self rfl⟩
  rw [if_neg h0]
  by_cases hz : leftAt 300 (c.school.slots.length * c.school.rooms.length) c.school.lessons.length = 0
  · rw [if_pos hz]
    simp
    exact ⟨0, Pur.self rfl⟩
  rw [if_neg hz]
  have hfew := weeksOf_few (s := c.school) (most := 300) (by omega) hz
  rw [← hW0 h0 hz] at hfew ⊢
  clear hW0
  generalize weeks0 E c = W at *
  generalize hcs : weekE.cells W = cs
  have hpart : ∀ i (hi : i < W.length), apart true 1 i cs = some (.agg [placeE.sl W[i]]) := fun i hi => by
    have := weekE.part hi
    rw [show weekE.z = 1 from rfl, Nat.mul_one, hcs] at this
    exact this
  simp [Enc.sl, hcs]
  have hold : AV.sl old.length false (placeE.cells old) = placeE.sl old := rfl
  rw [hold]
  refine wp_loop (fun fr H m => ∃ (i n : Nat) (least : Int), fr 2 = .ptr 0 0 ∧ fr 3 = .ptr 1 0 ∧ fr 5 = .sl W.length false cs ∧ fr 7 = I n ∧ fr 8 = I least ∧ fr 9 = I i ∧ i + m = W.length ∧ n ≤ i ∧ 2 ≤ H.next ∧ H.get 0 = .row cc ∧ H.get 1 = .row [placeE.sl old] ∧
    (n = 0 → ∀ w ∈ W.take i, bestE E c old w = false) ∧ (0 < n → ∃ w ∈ W, bestE E c old w = true ∧ (auditE E c w).2 = least)) W.length ?_ ?_
  · exact ⟨0, 0, 0, by simp⟩
  rintro m fr H ⟨i, n, least, e2, e3, e5, e7, e8, e9, hm, hni, hn, g0, g1, hx0, hx1⟩
  by_cases hi : i < W.length
  · have hwm : W[i] ∈ W := List.getElem_mem hi
    have k9 := c9 _ hwm
    have k7 := c7 _ hwm
    have htk : W.take (i + 1) = W.take i ++ [W[i]] := List.take_succ_eq_append_getElem hi
    have hwi : IntKind.i64.wrap ((i : Int) + 1) = i + 1 := wrap_of (by omega) (by omega)
    have hwn : IntKind.i64.wrap ((n : Int) + 1) = n + 1 := wrap_of (by omega) (by omega)
    simp [e2, e3, e5, e7, e8, e9, hi]
    refine wp_open [(8, true)] (by rfl) ?_
    simp [e2, e3, e5, e7, e8, e9, hi, g0, g1, hpart, hcl, hct]
    refine hc_pure k9 (by simp [AV.purs, AV.pur, hcp]) ?_
    simp
    refine ⟨logOk_none rfl, ?_⟩
    cases hb : bestE E c old W[i]
    · simp [e2, e3, e5, e7, e8, e9]
      refine ⟨m - 1, by omega, i + 1, n, rfl, hwi, by omega, by omega, g0, g1, fun h0 w hw => ?_, hx1⟩
      rw [htk, List.mem_append, List.mem_singleton] at hw
      rcases hw with hw | rfl
      · exact hx0 h0 w hw
      · exact hb
    · simp
      refine wp_open [(11, true)] (by rfl) ?_
      simp [e2, e3, e5, e7, e8, e9, hi, g0, g1, hpart, hcl, hct]
      refine hc_pure k7 (by simp [AV.purs, AV.pur, hcp]) ?_
      rw [auditAV]
      simp [e2, e3, e5, e7, e8, e9]
      refine ⟨logOk_none rfl, ?_⟩
      have hcl2 : 0 < n → (auditE E c W[i]).2 = least := fun h0 => by
        obtain ⟨w, hw, hb', hl⟩ := hx1 h0
        rw [← hl]
        exact hcost _ hwm _ hw hb hb'
      by_cases hn0 : 0 < n
      · have hcc := hcl2 hn0
        simp [e2, e3, e5, e7, e8, e9, hn0, hcc, hwn]
        exact ⟨m - 1, by omega, i + 1, n + 1, rfl, hwi, by omega, by omega, g0, g1, fun h => by omega, fun _ => ⟨_, hwm, hb, hcc⟩⟩
      · have hz0 : n = 0 := by omega
        subst hz0
        simp [e2, e3, e5, e7, e8, e9]
        exact ⟨m - 1, by omega, i + 1, 1, rfl, hwi, by omega, by omega, g0, g1, fun h => by omega, fun _ => ⟨_, hwm, hb, rfl⟩⟩
  · have hil : i = W.length := by omega
    rw [hil, List.take_length] at hx0
    simp [e2, e3, e5, e7, e8, e9, hi, g0, g1, hcl, hct]
    refine rc_pure c11 (by simp [AV.purs, AV.pur, hcp]) ?_
    have hne : decide ((n : Int) = 0) = noneE E c old := by
      unfold noneE
      by_cases hn0 : n = 0
      · have hmn : mayL E c old = [] := by
          rcases Classical.em (mayL E c old = []) with h | h
          · exact h
          · obtain ⟨w, hw, hb⟩ := hex h
            rw [hx0 hn0 w hw] at hb
            cases hb
        simp [hn0, hmn]
      · obtain ⟨w, hw, hb, _⟩ := hx1 (by omega)
        have := hmw w hw hb
        have hl : (mayL E c old).length ≠ 0 := fun e => by rw [List.length_eq_zero_iff] at e; rw [e] at this; cases this
        have hn0' : ¬ ((n : Int) = 0) := by omega
        have hl2 : ¬ mayL E c old = [] := fun e => hl (by rw [e]; rfl)
        simp [hn0', hl2]
        intro e; exact absurd e hn0
    have hne2 : decide (n = 0) = noneE E c old := by rw [← hne]; simp
    simp [hne2]
    exact ⟨0, Pur.self rfl⟩
end Go.Zk
namespace Go.Zk
open Go.Proofs
/-- A call: the function, what it is called with, what it answers. -/
abbrev KCall := FuncId × (List AV × AV)
def lookK (f : FuncId) (args : List AV) : List KCall → Option AV
  | [] => none
  | q :: l => match Nat.beq q.1 f with
    | true => match AV.beqs q.2.1 args with
      | true => some q.2.2
      | false => lookK f args l
    | false => lookK f args l
theorem lookK_is {f : FuncId} {args : List AV} {r : AV} : ∀ {l : List KCall}, lookK f args l = some r → (f, (args, r)) ∈ l
  | [], e => by cases e
  | q :: l, e => by
    unfold lookK at e
    split at e
    · rename_i h1
      split at e
      · rename_i h2
        cases e
        have := Nat.eq_of_beq_eq_true h1
        obtain ⟨f', a', r'⟩ := q
        simp only at this h2
        rw [this, AV.beqs_is _ _ h2]
        exact List.mem_cons_self
      · exact List.mem_cons_of_mem _ (lookK_is e)
    · exact List.mem_cons_of_mem _ (lookK_is e)
def hasK (f : Nat) : List Nat → Bool
  | [] => false
  | g :: l => match Nat.beq g f with
    | true => true
    | false => hasK f l
def knT (fs : List Nat) (T : List KCall) : DKn := fun f => match hasK f fs with
  | true => some (.ff fun args => lookK f args T)
  | false => none
theorem knT_ok {E : Env} {fs : List Nat} {T : List KCall} (h : ∀ q ∈ T, FF E q.1 q.2.1 q.2.2) : KnOk E (knT fs T) := by
  intro f
  refine ⟨fun g e => ?_, fun g e args r h1 => ?_⟩
  · unfold knT at e
    split at e <;> cases e
  · unfold knT at e
    split at e
    · cases e
      exact h _ (lookK_is h1)
    · cases e
theorem knT_cons {E : Env} {f : FuncId} {args : List AV} {r : AV} {T : List KCall} (h1 : FF E f args r) (h : ∀ q ∈ T, FF E q.1 q.2.1 q.2.2) : ∀ q ∈ ((f, (args, r)) :: T : List KCall), FF E q.1 q.2.1 q.2.2 := by
  intro q hq
  rcases List.mem_cons.1 hq with rfl | hq
  · exact h1
  · exact h q hq
/-- A value that leads to no memory leads to none but its own. -/
theorem ff_of_pf {E : Env} {f : FuncId} {args : List AV} {res : AV} (h : PF E f args res) (hf : res.flat = true) : FF E f args res :=
  ⟨h.en, fun I w vs h1 h2 h3 hv => (h.go I w vs h1 h2 h3 hv).mono fun e w' ⟨v, I', p1, p2, p3, p4, p5, p6, p7⟩ =>
    ⟨v, fun _ => False, p1, p2, fun b hb => hb.elim, fun b hb => hb.elim, fun b ds hb => hb.elim, VRel.flat _ _ hf p7⟩⟩
/-- The package variables of the program; the width that Go's library chooses is m. -/
def laidG (m : Int) : Nat → Option (List AV)
  | 0 => some [.gmap [I 1, I 2, I 3, I 4, I 5, I 6] [.func 300 [] [], .func 301 [] [], .func 302 [] [], .func 303 [] [], .func 304 [] [], .func 305 [] []]]
  | 1 => some [strMap evalSigns]
  | 2 => some [intMap evalAtoms]
  | 3 => some asksCells
  | 4 => some [I m]
  | 5 => some [intMap arityMap]
  | 6 => some [strMap signMap]
  | 7 => some takesCells
  | 8 => some [strMap resMap]
  | _ => none
noncomputable def envM (m : Int) : Env := ⟨Tryz.prog, laidG m⟩
instance (m : Int) : IsG (envM m) where
  eq := rfl
  g4 := ⟨m, rfl⟩
  g1 := rfl
  g2 := rfl
  g3 := rfl
  g5 := rfl
  g6 := rfl
  g7 := rfl
  g8 := rfl
theorem hasWord (m : Int) (s : Str) (b : Bool) (hs : s.length < 4294967281) (h : Lib.contains words s = b) : FF (envM m) 110 [.str words, .str s] (.bool b) := by
  rw [← h]
  exact ff_of_pf (contains_str words s (by decide)) rfl
end Go.Zk
