/- Contracts: types.walk. Conditions: the package variables are laid. Contracts: types.walk. Conditions: the package variables are laid. Contracts: types.Rule, types.Rules. Conditions: the package variables are laid. Contracts: eval, sizes and bounds. Conditions: the package variables are laid. Contracts: eval.great, cmp.Compare. Conditions: the package variables are laid. Contracts: eval.value, eval.element. Conditions: the package variables are laid. Contracts: eval.value. Conditions: the package variables are laid. Contracts out of contracts; calls whose result is new memory. Conditions: none. Contracts: slices.Clone of environments, eval.with. Conditions: the package variables are laid. Plain: the tuples below given sizes in their order. Conditions: none. -/
import Derived.Test.YtiplcbpocpgbbaaGreatDoorA11
import Derived.Test.YtiplcbpocpgbbaaGreatDoorA14
import Derived.Test.YtiplcbpocpgbbaaGreatDoorA15
set_option linter.unusedSectionVars false
set_option linter.unusedSimpArgs false
set_option linter.unusedVariables false
set_option maxRecDepth 10000
namespace Go.Zk
open Go.Proofs
variable {E : Env} [h : IsG E]
theorem sortsFrom_len {a : List BindD} {want : Option (List Int)} : ∀ {ts : List TermD} {i : Nat} {out l : List Int} {e : Int}, sortsFrom a want i ts out = (some l, e) → e = 0 ∧ l.length = out.length + ts.length
  | [], i, out, l, e, hh => by simp [sortsFrom] at hh; obtain ⟨rfl, rfl⟩ := hh; exact ⟨rfl, rfl⟩
  | t :: ts, i, out, l, e, hh => by
    rw [sortsFrom] at hh
    split at hh
    · obtain ⟨h1, h2⟩ := sortsFrom_len hh
      exact ⟨h1, by simp at h2 ⊢; omega⟩
    · cases hh
theorem sortsFrom_err {a : List BindD} {want : Option (List Int)} : ∀ {ts : List TermD} {i : Nat} {out : List Int} {e : Int}, sortsFrom a want i ts out = (none, e) → e ≠ 0
  | [], i, out, e, hh => by simp [sortsFrom] at hh
  | t :: ts, i, out, e, hh => by
    rw [sortsFrom] at hh
    split at hh
    · exact sortsFrom_err hh
    · rename_i hc
      simp at hh; rw [← hh]; exact hc
theorem asks_len : asksCells.length = 18 := rfl
theorem asks_at (k : Int) (h1 : 0 ≤ k) (h2 : k ≤ 8) : ((asksCells.drop (k.toNat * 2)).take 2) = ints (asksOf k) := by
  have : k = 0 ∨ k = 1 ∨ k = 2 ∨ k = 3 ∨ k = 4 ∨ k = 5 ∨ k = 6 ∨ k = 7 ∨ k = 8 := by omega
  rcases this with rfl | rfl | rfl | rfl | rfl | rfl | rfl | rfl | rfl <;> rfl
def AllFormed (f : FormD) : Prop := ∀ g ∈ nodes f, formedB g = true
theorem AllFormed.self {f : FormD} (hf : AllFormed f) : formedB f = true := hf f (by rw [nodes_eq]; simp)
theorem AllFormed.sub {f : FormD} (hf : AllFormed f) {i : Nat} (hi : i < f.subs.length) : AllFormed f.subs[i] := fun g hg => hf g (by rw [nodes_eq, nodesL_split hi]; simp [hg])
/-- The case of a comparison. -/
theorem walk_cmp (a : List BindD) (f : FormD) (ha : Big a.length) (hf : formedB f = true) (hk : f.kind = 9) : PF E 155 [bindE.sl a, f.av] (I (walkE a f)) := by
  obtain ⟨ht1, ht2⟩ := formed_terms hf (by rw [hk]; rfl)
  have hter : ∀ t ∈ f.terms, termedB t = true := fun t hm => (oddTerm_ok (ht2 t hm)).1
  refine pf_of_body mixed fn_155 (by simp) ?_
  unfold Tryz.f155 ABody
  rw [FormD.av, FormD.cells_eq]
  simp [hk]
  have c194 := sorts_194 (E := E) a f.terms none true ha (by omega) hter (fun w e => by cases e)
  rw [wantAV] at c194
  refine rc_pure c194 (by simp [AV.purs, AV.pur, Enc.sl]) ?_
  have hw : walkE a f = cmpE a f.name f.terms := by rw [walkE_eq, if_pos hk]
  rw [hw, cmpE]
  cases hs : sortsFrom a none 0 f.terms [] with
  | mk o e =>
    cases o with
    | none =>
      have he := sortsFrom_err hs
      simp [sortsAV, he]
      exact ⟨0, Pur.self rfl⟩
    | some l =>
      obtain ⟨he, hl⟩ := sortsFrom_len hs
      simp [ht1] at hl
      match l, hl with
      | [l0, l1], _ =>
        simp [sortsAV, he, isl, afill, splice, ints]
        refine rc_pf (contains_76 [8, 2, 6] l0 (by simp [Big])) (Borrow.by rfl 3 (.cons (Pur.msl (tg' := false) (cells := [I 8, I 2, I 6]) (by simp) rfl (fun e => by cases e)) (.cons (Pur.self rfl) .nil))) ?_
        cases o1 : ([8, 2, 6] : List Int).any fun y => decide (y = l0)
        · by_cases o2 : f.name = [61]
          · simp [o2]
            refine wp_open [(11, true)] (by rfl) ?_
            by_cases d : l0 = l1
            · subst d
              simp [ints, o2]
              refine ⟨logOk_none rfl, ?_⟩
              try simp [orderedB, o1, o2]
              exact ⟨0, Pur.self rfl⟩
            · simp [ints, d, o2]
              refine ⟨logOk_none rfl, ?_⟩
              try simp [orderedB, o1, d, o2]
              exact ⟨0, Pur.self rfl⟩
          · by_cases o3 : f.name = [33, 61]
            · simp [o2, o3]
              refine wp_open [(11, true)] (by rfl) ?_
              by_cases d : l0 = l1
              · subst d
                simp [ints, o2, o3]
                refine ⟨logOk_none rfl, ?_⟩
                try simp [orderedB, o1, o2, o3]
                exact ⟨0, Pur.self rfl⟩
              · simp [ints, d, o2, o3]
                refine ⟨logOk_none rfl, ?_⟩
                try simp [orderedB, o1, d, o2, o3]
                exact ⟨0, Pur.self rfl⟩
            · simp [o2, o3]
              refine wp_open [(11, true)] (by rfl) ?_
              by_cases d : l0 = l1
              · subst d
                simp [ints, o2, o3]
                refine ⟨logOk_none rfl, ?_⟩
                try simp [orderedB, o1, o2, o3]
                exact ⟨0, Pur.self rfl⟩
              · simp [ints, d, o2, o3]
                refine ⟨logOk_none rfl, ?_⟩
                try simp [orderedB, o1, d, o2, o3]
                exact ⟨0, Pur.self rfl⟩
        · simp
          refine wp_open [(11, true)] (by rfl) ?_
          by_cases d : l0 = l1
          · subst d
            simp [ints]
            refine ⟨logOk_none rfl, ?_⟩
            try simp [orderedB, o1]
            exact ⟨0, Pur.self rfl⟩
          · simp [ints, d]
            refine ⟨logOk_none rfl, ?_⟩
            try simp [orderedB, o1, d]
            exact ⟨0, Pur.self rfl⟩
end Go.Zk
namespace Go.Zk
open Go.Proofs
variable {E : Env} [h : IsG E]
def aslP (o : Option (Nat × Nat × Bool)) (cells : List AV) (off : Nat) (lo hi mx : Option AV) : Option AV := match o with
  | some (n, e, _) => if off + n * e ≤ cells.length then match abds n lo hi mx with
    | some (l, h, b) => some (.sl (h - l) (b || decide (mx.isNone ∧ h = n)) (((cells.drop off).take (h * e)).drop (l * e)))
    | none => none
    else none
  | none => none
theorem slice_rptr {P : Program} {t : TypeId} {H : AHeap} {cells : List AV} {off : Nat} {lo hi mx : Option AV} : asl P t H (.rptr cells off) lo hi mx = aslP (tar P t) cells off lo hi mx := by
  simp only [asl, aslP]; rfl
theorem walk_atom (a : List BindD) (f : FormD) (ha : Big a.length) (hf : formedB f = true) (hk : ¬ f.kind = 9) (ht : ¬ f.terms = []) : PF E 155 [bindE.sl a, f.av] (I (walkE a f)) := by
  have hkk : inR3 f.kind 3 9 = true := by
    cases hc : inR3 f.kind 3 9
    · exact absurd (formed_noterms hf hc) ht
    · rfl
  obtain ⟨ht1, ht2⟩ := formed_terms hf hkk
  have hter : ∀ t ∈ f.terms, termedB t = true := fun t hm => (oddTerm_ok (ht2 t hm)).1
  have hk3 : 3 ≤ f.kind ∧ f.kind ≤ 8 := by simp [inR3] at hkk; omega
  have hk0 : 0 ≤ f.kind := by omega
  have hk9 : f.kind < 9 := by omega
  refine pf_of_body mixed fn_155 (by simp) ?_
  unfold Tryz.f155 ABody
  rw [FormD.av, FormD.cells_eq]
  have hasks := asks_at f.kind hk0 hk3.2
  have hle : f.kind.toNat * 2 + 2 ≤ 18 := by omega
  simp [hk, Enc.sl, ht1]
  refine wp_open [(14, true)] (by rfl) ?_
  simp [hk, Enc.sl, ht1, hk0, hk9, asks_len, slice_rptr, aslP, abds_no, hasks, hle]
  have c194 := sorts_194 (E := E) a f.terms (some (asksOf f.kind)) true ha (by omega) hter (fun w e => by cases e; exact ⟨by rw [ht1]; rfl, Nat.succ_ne_zero 1⟩)
  rw [wantAV, show (asksOf f.kind).length = 2 from rfl, Enc.sl, Enc.sl, ht1] at c194
  refine hc_pure c194 (by simp [AV.purs, AV.pur]) ?_
  have hw : walkE a f = (sortsFrom a (some (asksOf f.kind)) 0 f.terms []).2 := by rw [walkE_eq, if_neg hk, if_pos ht]
  rw [hw]
  cases hs : sortsFrom a (some (asksOf f.kind)) 0 f.terms [] with
  | mk o e =>
    cases o with
    | none =>
      simp [sortsAV]
      refine ⟨logOk_none rfl, ?_⟩
      try simp
      exact ⟨0, Pur.self rfl⟩
    | some l =>
      simp [sortsAV]
      refine ⟨logOk_none rfl, ?_⟩
      try simp
      exact ⟨0, Pur.self rfl⟩
theorem addBinds_len {a : List BindD} : ∀ {bs a' : List BindD}, addBinds a bs = some a' → a' = a ++ bs
  | [], a', hh => by cases hh; simp
  | b :: bs, a', hh => by
    rw [addBinds] at hh
    split at hh
    · cases hh
    · have := addBinds_len hh
      simp [this]
theorem walk_155 : ∀ (m : Nat) (f : FormD), SizeOf.sizeOf f < m → f.Fit → AllFormed f → ∀ a : List BindD, a.length + 6 * (nodes f).length ≤ 4000000000 → PF E 155 [bindE.sl a, f.av] (I (walkE a f))
  | 0, f, hm, _, _ => absurd hm (Nat.not_lt_zero _)
  | m + 1, f, hm, hfit, haf => by
    intro a hlen
    have hf := haf.self
    have ha : Big a.length := by unfold Big; omega
    by_cases hk : f.kind = 9
    · exact walk_cmp a f ha hf hk
    by_cases ht : f.terms = []
    · have hbs : f.binds.length ≤ 6 := by
        cases hq : inR3 f.kind 14 17
        · rw [formed_nobinds hf hq]; simp
        · exact (formed_binds hf hq).2.1
      have hsub := hfit.self.1
      unfold Big at hsub
      have hnl : (nodes f).length = (nodesL f.subs).length + 1 := by rw [nodes_eq]; rfl
      have hw : walkE a f = match addBinds a f.binds with | none => 82 | some a' => walkL a' f.subs := by rw [walkE_eq, if_neg hk, if_neg (by simp [ht])]; cases addBinds a f.binds <;> rfl
      refine pf_of_body mixed fn_155 (by simp) ?_
      unfold Tryz.f155 ABody
      rw [FormD.av, FormD.cells_eq]
      simp [hk, Enc.sl, ht]
      refine rc_pure (clip_196 a) rfl ?_
      simp [Enc.sl]
      refine wp_loop (fun fr H m' => ∃ (i : Nat) (cur : List BindD), fr 3 = .ptr 0 0 ∧ fr 78 = bindE.sl f.binds ∧ fr 79 = I f.binds.length ∧ fr 80 = I i ∧ i + m' = f.binds.length ∧
        H.get 0 = .row [I f.kind, .str f.name, I f.n, termE.sl [], bindE.sl f.binds, formE.sl f.subs] ∧ 1 ≤ H.next ∧ cur.length = a.length + i ∧ Acc2 H 1 (fr 10) bindE cur ∧ addBinds a f.binds = addBinds cur (f.binds.drop i)) f.binds.length ?_ ?_
      · exact ⟨0, a, by simp [Enc.sl]; exact .inl rfl⟩
      rintro m' fr H ⟨i, cur, e3, e78, e79, e80, hm', g0, hn, hcl, hacc, hx⟩
      have hcb : Big cur.length := by unfold Big; omega
      by_cases hi : i < f.binds.length
      · have hd : f.binds.drop i = f.binds[i] :: f.binds.drop (i + 1) := List.drop_eq_getElem_cons hi
        rw [hd, addBinds] at hx
        have q0 : ¬ 0 = H.next := by omega
        simp [e3, e78, e79, e80, hi, Enc.sl]
        rw [show apart true 2 (i * 2) (bindE.cells f.binds) = some (.agg (bindE.enc f.binds[i])) from bindE.part hi]
        simp [bindE, e3, e78, e79, e80]
        refine rc_pf (find_193 cur f.binds[i].name hcb) (Borrow.by rfl 3 (.cons ((hacc.keep (by simp) fun j h1 h2 => ?_).pur fun x _ => rfl) (.cons (Pur.self rfl) .nil))) ?_
        · have : ¬ j = H.next := by omega
          simp [this]
        cases hfi : findB cur f.binds[i].name with
        | some j =>
          rw [hfi] at hx
          have hwl : walkE a f = 82 := by rw [hw, hx]; rfl
          have hj : (0 : Int) ≤ j := by omega
          simp [ixOf, hj, hwl]
          exact ⟨0, Pur.self rfl⟩
        | none =>
          rw [hfi] at hx
          simp [-append_eq, ixOf, e3, e78, e79, e80, afill, splice]
          refine r2_push2 bindE f.binds[i] (hacc.keep (by simp <;> omega) fun j h1 h2 => ?_) (by simp <;> omega) (by simp [bindE]) tel_226 tby_87 tzero_87 srcType_226 rfl (by omega) (by omega) fun v' H' q1 q2 q3 => ?_
          · have r1 : ¬ j = H.next := by omega
            have r2 : ¬ j = H.next + 1 := by omega
            simp [r1, r2]
          have k0 := q3 0 (by omega)
          have q5 : ¬ 0 = H.next + 1 := by omega
          simp [q0, q5] at k0 q2
          simp [e3, e78, e79, e80, Enc.sl]
          refine ⟨m' - 1, by omega, rfl, i + 1, wrap_of (by omega) (by omega), by omega, by rw [k0, g0]; rfl, by omega, cur ++ [f.binds[i]], by simp [hcl]; omega, q1, ?_⟩
          rw [hx]; rfl
      · have hend : f.binds.drop i = [] := List.drop_eq_nil_of_le (by omega)
        rw [hend, addBinds] at hx
        have hwl : walkE a f = walkL cur f.subs := by rw [hw, hx]
        simp [e3, e78, e79, e80, hi, g0, Enc.sl]
        refine wp_loop (fun fr H m' => ∃ (i : Nat), fr 95 = formE.sl f.subs ∧ fr 96 = I f.subs.length ∧ fr 97 = I i ∧ i + m' = f.subs.length ∧
          1 ≤ H.next ∧ Acc2 H 1 (fr 10) bindE cur ∧ walkL cur f.subs = walkL cur (f.subs.drop i)) f.subs.length ?_ ?_
        · exact ⟨0, by simp [Enc.sl, hn]; exact hacc⟩
        clear e3 e78 e79 e80 g0 hn hacc
        rintro m'' fr H ⟨i', e95, e96, e97, hm'', hn, hacc, hy⟩
        by_cases hi' : i' < f.subs.length
        · have hd : f.subs.drop i' = f.subs[i'] :: f.subs.drop (i' + 1) := List.drop_eq_getElem_cons hi'
          rw [hd, walkL] at hy
          simp [e95, e96, e97, hi', Enc.sl]
          rw [show apart true 6 (i' * 6) (formE.cells f.subs) = some (.agg (formE.enc f.subs[i'])) from formE.part hi']
          have hl6' : (formE.enc f.subs[i']).length = 6 := FormD.cells_len _
          have ht6 : List.take 6 (formE.enc f.subs[i']) = formE.enc f.subs[i'] := by rw [List.take_of_length_le (by omega)]
          simp [hl6', ht6]
          have hns : (nodes f.subs[i']).length ≤ (nodesL f.subs).length := by rw [nodesL_split hi']; simp; omega
          refine rc_pf (walk_155 m f.subs[i'] (by have := subs_lt hi'; omega) (hfit.sub hi') (haf.sub hi') cur (by omega)) (Borrow.by rfl 3 (.cons ((hacc.keep (by simp) fun j h1 h2 => ?_).pur fun x _ => rfl) (.cons (Pur.self (by simp [AV.pur, AV.purs])) .nil))) ?_
          · have : ¬ j = H.next := by omega
            simp [this]
          by_cases hz : walkE cur f.subs[i'] = 0
          · simp [hz, e95, e96, e97, Enc.sl]
            refine ⟨m'' - 1, by omega, i' + 1, wrap_of (by omega) (by omega), by omega, hacc.keep (by simp) fun j h1 h2 => ?_, ?_⟩
            · have : ¬ j = H.next := by omega
              simp [this]
            · rw [hy, if_neg (by simpa using hz)]
          · simp [hz, hwl]
            rw [hy, if_pos hz]
            exact ⟨0, Pur.self rfl⟩
        · have hend' : f.subs.drop i' = [] := List.drop_eq_nil_of_le (by omega)
          rw [hend', walkL] at hy
          simp [e95, e96, e97, hi', hwl, hy]
          exact ⟨0, Pur.self rfl⟩
    · exact walk_atom a f ha hf hk ht
end Go.Zk
namespace Go.Zk
open Go.Proofs
variable {E : Env} [h : IsG E]
theorem check_formed {f : FormD} (h : checkE f = 0) : AllFormed f ∧ (nodes f).length ≤ 256 ∧ depth f ≤ 24 := by
  unfold checkE at h
  split at h
  · cases h
  · rename_i h1
    split at h
    · cases h
    · rename_i h2
      refine ⟨fun g hg => ?_, by omega, by omega⟩
      simp only [List.any_eq_true, not_exists, not_and] at h1
      have := h1 g hg
      simpa using this
structure RuleD.Fit (r : RuleD) : Prop where
  each : Big r.each.length
  body : r.body.Fit
def badRule (r : RuleD) : Bool := !formedE ⟨r.name, 1⟩ || (decide (r.weight < (if r.hard = true then 0 else 1)) || (decide ((if r.hard = true then (0 : Int) else 1000) < r.weight) || (decide (6 < r.each.length) || r.each.any fun b => !formedE b)))
def ruleErr (r : RuleD) : Int := if badRule r = true then 1 else if checkE r.body ≠ 0 then checkE r.body else if mayB r.each = false then 82 else walkE r.each r.body
def RuleD.av (r : RuleD) : AV := .agg (ruleE.enc r)
theorem rule_115 (r : RuleD) (hr : r.Fit) : PF E 115 [r.av] (I (ruleErr r)) := by
  have hb := hr.each
  have c153 := check_153 (E := E) r.body hr.body
  have cmay := may_154 (E := E) r.each hr.each
  have cnm := formed_151 (E := E) ⟨r.name, 1⟩
  have c152 := contains_152 (E := E) (g := fun b => !formedE b) (k := 150) (a := []) (b := []) rfl r.each hb (fun x _ => odd_150 (E := E) x)
  have cwalk : checkE r.body = 0 → r.each.length ≤ 6 → PF E 155 [bindE.sl r.each, r.body.av] (I (walkE r.each r.body)) := fun hc h6 => by
    obtain ⟨a1, a2, a3⟩ := check_formed hc
    exact walk_155 (SizeOf.sizeOf r.body + 1) r.body (by omega) hr.body a1 r.each (by omega)
  rw [FormD.av, FormD.cells_eq] at c153 cwalk
  rw [Enc.sl] at c152 cmay cwalk
  refine pf_of_body mixed fn_115 (by simp) ?_
  unfold Tryz.f115 ABody
  rw [RuleD.av, ruleE]
  simp only [FormD.cells_eq]
  by_cases hh : r.hard = true
  · simp [hh, Enc.sl, splice]
    refine rc_pure cnm rfl ?_
    by_cases d1 : formedE ⟨r.name, 1⟩ = true
    rotate_left
    · simp only [Bool.not_eq_true] at d1
      have hr0 : ruleErr r = 1 := by unfold ruleErr badRule; simp [d1]
      simp [hh, Enc.sl, splice, d1, hr0]
      exact ⟨0, Pur.self rfl⟩
    by_cases d2 : r.weight < 0
    · have hr0 : ruleErr r = 1 := by unfold ruleErr badRule; simp [d1, d2, hh]
      simp [hh, Enc.sl, splice, d1, d2, hr0]
      exact ⟨0, Pur.self rfl⟩
    by_cases d3 : 0 < r.weight
    · have d3i : ¬ r.weight ≤ 0 := by omega
      have hr0 : ruleErr r = 1 := by unfold ruleErr badRule; simp [d1, d2, d3, hh]
      simp [hh, Enc.sl, splice, d1, d2, d3, d3i, hr0]
      exact ⟨0, Pur.self rfl⟩
    have d3i : r.weight ≤ 0 := by omega
    by_cases d4 : (6 : Int) < r.each.length
    · have d4i : ¬ (r.each.length : Int) ≤ 6 := by omega
      have d4n : 6 < r.each.length := by omega
      have hr0 : ruleErr r = 1 := by unfold ruleErr badRule; simp [d1, d2, d3, d4n, hh]
      simp [hh, Enc.sl, splice, d1, d2, d3, d3i, d4, d4i, hr0]
      exact ⟨0, Pur.self rfl⟩
    have d4i : (r.each.length : Int) ≤ 6 := by omega
    have d4n : ¬ 6 < r.each.length := by omega
    simp [hh, Enc.sl, splice, d1, d2, d3, d3i, d4, d4i]
    refine rc_pure c152 rfl ?_
    cases d5 : r.each.any fun b => !formedE b
    rotate_left
    · have hr0 : ruleErr r = 1 := by unfold ruleErr badRule; rw [d5]; simp
      simp [hh, Enc.sl, splice, d5, hr0]
      exact ⟨0, Pur.self rfl⟩
    have hbad : badRule r = false := by unfold badRule; rw [d5, d1, decide_eq_false d4n]; simp [hh]; omega
    simp [hh, Enc.sl, splice, d5]
    refine rc_pure c153 rfl ?_
    by_cases d6 : checkE r.body = 0
    rotate_left
    · have hr0 : ruleErr r = checkE r.body := by unfold ruleErr; rw [hbad]; simp [d6]
      simp [hh, Enc.sl, splice, d6, hr0]
      exact ⟨0, Pur.self rfl⟩
    simp [hh, Enc.sl, splice, d6]
    refine rc_pure cmay rfl ?_
    cases d7 : mayB r.each
    · have hr0 : ruleErr r = 82 := by unfold ruleErr; rw [hbad]; simp [d6, d7]
      simp [hh, Enc.sl, splice, d7, hr0]
      exact ⟨0, Pur.self rfl⟩
    simp [hh, Enc.sl, splice, d7]
    refine rc_pure (cwalk d6 (by omega)) rfl ?_
    have hr0 : ruleErr r = walkE r.each r.body := by unfold ruleErr; rw [hbad]; simp [d6, d7]
    simp [hh, Enc.sl, splice, hr0]
    exact ⟨0, Pur.self rfl⟩
  · simp only [Bool.not_eq_true] at hh
    simp [hh, Enc.sl, splice]
    refine rc_pure cnm rfl ?_
    by_cases d1 : formedE ⟨r.name, 1⟩ = true
    rotate_left
    · simp only [Bool.not_eq_true] at d1
      have hr0 : ruleErr r = 1 := by unfold ruleErr badRule; simp [d1]
      simp [hh, Enc.sl, splice, d1, hr0]
      exact ⟨0, Pur.self rfl⟩
    by_cases d2 : r.weight < 1
    · have hr0 : ruleErr r = 1 := by unfold ruleErr badRule; simp [d1, d2, hh]
      simp [hh, Enc.sl, splice, d1, d2, hr0]
      exact ⟨0, Pur.self rfl⟩
    by_cases d3 : 1000 < r.weight
    · have d3i : ¬ r.weight ≤ 1000 := by omega
      have hr0 : ruleErr r = 1 := by unfold ruleErr badRule; simp [d1, d2, d3, hh]
      simp [hh, Enc.sl, splice, d1, d2, d3, d3i, hr0]
      exact ⟨0, Pur.self rfl⟩
    have d3i : r.weight ≤ 1000 := by omega
    by_cases d4 : (6 : Int) < r.each.length
    · have d4i : ¬ (r.each.length : Int) ≤ 6 := by omega
      have d4n : 6 < r.each.length := by omega
      have hr0 : ruleErr r = 1 := by unfold ruleErr badRule; simp [d1, d2, d3, d4n, hh]
      simp [hh, Enc.sl, splice, d1, d2, d3, d3i, d4, d4i, hr0]
      exact ⟨0, Pur.self rfl⟩
    have d4i : (r.each.length : Int) ≤ 6 := by omega
    have d4n : ¬ 6 < r.each.length := by omega
    simp [hh, Enc.sl, splice, d1, d2, d3, d3i, d4, d4i]
    refine rc_pure c152 rfl ?_
    cases d5 : r.each.any fun b => !formedE b
    rotate_left
    · have hr0 : ruleErr r = 1 := by unfold ruleErr badRule; rw [d5]; simp
      simp [hh, Enc.sl, splice, d5, hr0]
      exact ⟨0, Pur.self rfl⟩
    have hbad : badRule r = false := by unfold badRule; rw [d5, d1, decide_eq_false d4n]; simp [hh]; omega
    simp [hh, Enc.sl, splice, d5]
    refine rc_pure c153 rfl ?_
    by_cases d6 : checkE r.body = 0
    rotate_left
    · have hr0 : ruleErr r = checkE r.body := by unfold ruleErr; rw [hbad]; simp [d6]
      simp [hh, Enc.sl, splice, d6, hr0]
      exact ⟨0, Pur.self rfl⟩
    simp [hh, Enc.sl, splice, d6]
    refine rc_pure cmay rfl ?_
    cases d7 : mayB r.each
    · have hr0 : ruleErr r = 82 := by unfold ruleErr; rw [hbad]; simp [d6, d7]
      simp [hh, Enc.sl, splice, d7, hr0]
      exact ⟨0, Pur.self rfl⟩
    simp [hh, Enc.sl, splice, d7]
    refine rc_pure (cwalk d6 (by omega)) rfl ?_
    have hr0 : ruleErr r = walkE r.each r.body := by unfold ruleErr; rw [hbad]; simp [d6, d7]
    simp [hh, Enc.sl, splice, hr0]
    exact ⟨0, Pur.self rfl⟩
def rulesFrom : List Str → Nat → List RuleD → Int × Int
  | _, _, [] => (0, 0)
  | seen, i, r :: l => if ruleErr r ≠ 0 then (i, ruleErr r) else if inL r.name seen = true then (i, 82) else rulesFrom (addTo seen r.name) (i + 1) l
def rulesE (l : List RuleD) : Int × Int := rulesFrom [] 0 l
theorem rules_84 (l : List RuleD) (hl : Big l.length) (hf : ∀ r ∈ l, r.Fit) : PF E 84 [ruleE.sl l] (.tuple [I (rulesE l).1, I (rulesE l).2]) := by
  unfold Big at hl
  refine pf_of_body mixed fn_84 (by simp) ?_
  unfold Tryz.f84 ABody
  simp [Enc.sl]
  refine wp_loop (fun fr H m => ∃ (i : Nat) (seen : List Str), fr 4 = .map 0 ∧ fr 9 = ruleE.sl l ∧ fr 10 = I l.length ∧ fr 11 = I i ∧ i + m = l.length ∧ 1 ≤ H.next ∧ H.get 0 = tset .str seen ∧ rulesE l = rulesFrom seen i (l.drop i)) l.length ?_ ?_
  · exact ⟨0, [], by simp [Enc.sl, tset, rulesE]⟩
  rintro m fr H ⟨i, seen, e4, e9, e10, e11, hm, hn, hs, hx⟩
  by_cases hi : i < l.length
  · have hd : l.drop i = l[i] :: l.drop (i + 1) := List.drop_eq_getElem_cons hi
    rw [hd, rulesFrom] at hx
    have q0 : ¬ 0 = H.next := by omega
    simp [e4, e9, e10, e11, hi, Enc.sl]
    rw [show apart true 10 (i * 10) (ruleE.cells l) = some (.agg (ruleE.enc l[i])) from ruleE.part hi]
    have hlen : (ruleE.enc l[i]).length = 10 := ruleE.len _
    have ht : List.take 10 (ruleE.enc l[i]) = ruleE.enc l[i] := List.take_of_length_le (by omega)
    have h0 : (ruleE.enc l[i])[0]? = some (.str l[i].name) := rfl
    have hpur : AV.purs (ruleE.enc l[i]) = true := by simp [ruleE, FormD.cells_eq, AV.purs, AV.pur, Enc.sl]
    simp [hlen, ht]
    refine rc_pure (rule_115 l[i] (hf _ (List.getElem_mem hi))) (by simp [AV.purs, AV.pur, hpur, RuleD.av]) ?_
    by_cases c1 : ruleErr l[i] = 0
    · rw [if_neg (by simpa using c1)] at hx
      have hh0 : (ruleE.enc l[i])[0]'(by omega) = .str l[i].name := rfl
      simp [c1, e4, hlen, h0, hh0]
      rw [lookup_set (P := E.P) (enc := .str) (d := .string) (l := seen) u_122 u_9 tzero_4 (fun _ => rfl) (fun a b => akey_str a b) (by simp [q0, hs])]
      by_cases c2 : inL l[i].name seen = true
      · rw [if_pos c2] at hx
        simp [c2, hx]
        exact ⟨1, .inr ⟨_, .cons (Pur.self rfl) (.cons (Pur.self rfl) .nil), rfl⟩⟩
      · rw [if_neg c2] at hx
        simp only [Bool.not_eq_true] at c2
        simp [c2, e4, hlen, h0, hh0]
        rw [insert_set (P := E.P) (enc := .str) (d := .string) (l := seen) u_122 u_9 (fun _ => rfl) (fun a b => akey_str a b) (by simp [q0, hs])]
        simp [e4, e9, e10, e11, Enc.sl]
        exact ⟨m - 1, by omega, i + 1, wrap_of (by omega) (by omega), by omega, addTo seen l[i].name, rfl, hx⟩
    · rw [if_pos c1] at hx
      simp [c1, hx]
      exact ⟨1, .inr ⟨_, .cons (Pur.self rfl) (.cons (Pur.self rfl) .nil), rfl⟩⟩
  · simp [e4, e9, e10, e11, hi]
    rw [hx, List.drop_eq_nil_of_le (by omega), rulesFrom]
    exact ⟨1, .inr ⟨_, .cons (Pur.self rfl) (.cons (Pur.self rfl) .nil), rfl⟩⟩
end Go.Zk
namespace Go.Zk
open Go.Proofs
variable {E : Env} [h : IsG E]
def most1 : Nat := 1048577
def timesE (a b : Nat) : Nat := if a * b ≤ 1048577 then a * b else 1048577
theorem timesE_le {a b : Nat} : timesE a b ≤ 1048577 := by unfold timesE; split <;> omega
theorem times_133 (a b : Nat) (ha : a ≤ 1048577) (hb : b ≤ 1048577) : PF E 133 [I a, I b] (I (timesE a b)) := by
  have hm : a * b ≤ 1048577 * 1048577 := Nat.mul_le_mul ha hb
  have hw : IntKind.i64.wrap ((a : Int) * b) = ((a * b : Nat) : Int) := by rw [← Int.natCast_mul]; exact wrap_of (by omega) (by omega)
  refine pf_of_body mixed fn_133 (by simp) ?_
  unfold Tryz.f133 ABody
  simp only [Int.natCast_mul] at hw
  by_cases hc : a * b ≤ 1048577
  · have hi : (a : Int) * b ≤ 1048577 := by rw [← Int.natCast_mul]; omega
    simp [hw, hi, timesE, hc]
    exact ⟨0, Pur.self rfl⟩
  · have hi : ¬ (a : Int) * b ≤ 1048577 := by rw [← Int.natCast_mul]; omega
    simp [hw, hi, timesE, hc]
    exact ⟨0, Pur.self rfl⟩
def countE (s : SchoolD) (sort : Int) : Nat := (elems s sort).length
def sizesE (s : SchoolD) (bs : List BindD) : List Int := bs.map fun b => (countE s b.sort : Int)
theorem sizes_134 (s : SchoolD) (bs : List BindD) (hs : s.Small) (hb : bs.length ≤ 1000000) : PF E 134 [s.av, bindE.sl bs] (isl (sizesE s bs)) := by
  refine pf_of_body mixed fn_134 (by simp) ?_
  unfold Tryz.f134 ABody
  simp [SchoolD.av, Enc.sl]
  refine wp_loop (fun fr H m => ∃ i : Nat, fr 2 = .ptr 0 0 ∧ fr 8 = bindE.sl bs ∧ fr 9 = I bs.length ∧ fr 10 = I i ∧ i + m = bs.length ∧ 1 ≤ H.next ∧ H.get 0 = .row s.cells ∧ Acc H 1 (fr 5) intE (sizesE s (bs.take i))) bs.length ?_ ?_
  · exact ⟨0, by simp [Enc.sl]; exact Acc.nil⟩
  rintro m fr H ⟨i, e2, e8, e9, e10, hm, hn, g0, hacc⟩
  by_cases hi : i < bs.length
  · have q0 : ¬ 0 = H.next := by omega
    have hlen : (sizesE s (bs.take i)).length ≤ 1000000 := by unfold sizesE; simp; omega
    simp [e2, e8, e9, e10, hi, Enc.sl]
    rw [show apart true 2 (i * 2) (bindE.cells bs) = some (.agg (bindE.enc bs[i])) from bindE.part hi]
    simp [-append_eq, bindE, e2, e8, e9, e10, q0, g0, SchoolD.cells]
    refine rc_pure (count s bs[i].sort hs) rfl ?_
    simp [-append_eq, e2, e8, e9, e10, afill, splice]
    refine r2_push intE (countE s bs[i].sort : Int) (hacc.keep (by simp <;> omega) fun j h1 h2 => ?_) (by simp <;> omega) (by simp [intE, countE]) tel_30 tby_3 tzero_3 srcType_30 rfl (by omega) (by omega) fun v' H' q1 q2 q3 => ?_
    · have r1 : ¬ j = H.next := by omega
      have r2 : ¬ j = H.next + 1 := by omega
      simp [r1, r2]
    have k0 := q3 0 (by omega)
    have q5 : ¬ 0 = H.next + 1 := by omega
    simp [q0, q5, g0] at k0 q2
    simp [e2, e8, e9, e10, Enc.sl]
    refine ⟨m - 1, by omega, rfl, i + 1, wrap_of (by omega) (by omega), by omega, by omega, k0, ?_⟩
    rw [List.take_succ_eq_append_getElem hi, sizesE, List.map_append]
    exact q1
  · simp [e2, e8, e9, e10, hi]
    rw [List.take_of_length_le (by omega)] at hacc
    refine ⟨1, ?_⟩
    rw [← intE_sl]
    exact hacc.pur' fun x _ => rfl
def manyFrom : Nat → List Nat → Nat
  | n, [] => n
  | n, k :: l => manyFrom (timesE n k) l
def manyE (s : SchoolD) (bs : List BindD) : Nat := manyFrom 1 (bs.map fun b => countE s b.sort)
theorem manyFrom_le : ∀ {l : List Nat} {n : Nat}, n ≤ 1048577 → manyFrom n l ≤ 1048577
  | [], n, hn => hn
  | k :: l, n, hn => manyFrom_le (l := l) (n := timesE n k) timesE_le
theorem manyE_le {s : SchoolD} {bs : List BindD} : manyE s bs ≤ 1048577 := manyFrom_le (by decide)
structure SchoolD.Tiny (s : SchoolD) : Prop extends s.Small where
  count : ∀ sort, countE s sort ≤ 1000
theorem many_116 (s : SchoolD) (bs : List BindD) (hs : s.Tiny) (hb : bs.length ≤ 1000000) : PF E 116 [s.av, bindE.sl bs] (I (manyE s bs)) := by
  refine pf_of_body mixed fn_116 (by simp) ?_
  unfold Tryz.f116 ABody
  simp [SchoolD.av, SchoolD.cells]
  refine rc_pure (sizes_134 s bs hs.toSmall hb) rfl ?_
  have hlen : (sizesE s bs).length = bs.length := by simp [sizesE]
  simp [isl, hlen]
  refine wp_loop (fun fr H m => ∃ i n : Nat, fr 5 = I n ∧ n ≤ 1048577 ∧ fr 10 = isl (sizesE s bs) ∧ fr 11 = I bs.length ∧ fr 12 = I i ∧ i + m = bs.length ∧ manyE s bs = manyFrom n ((bs.drop i).map fun b => countE s b.sort)) bs.length ?_ ?_
  · exact ⟨0, 1, by simp [isl, hlen, manyE]⟩
  rintro m fr H ⟨i, n, e5, hn, e10, e11, e12, hm, hx⟩
  by_cases hi : i < bs.length
  · have hd : bs.drop i = bs[i] :: bs.drop (i + 1) := List.drop_eq_getElem_cons hi
    rw [hd, List.map_cons, manyFrom] at hx
    have hg : (ints (sizesE s bs))[i]? = some (I (countE s bs[i].sort)) := by simp [sizesE, hi]
    have hg' : (ints (sizesE s bs))[i]'(by simp [sizesE, hi]) = I (countE s bs[i].sort) := by simp [sizesE]
    have hil : i < (sizesE s bs).length := by omega
    simp [e5, e10, e11, e12, hi, isl, hlen, hil, hg, hg', sizesE]
    refine rc_pure (times_133 n (countE s bs[i].sort) hn (by have := hs.count bs[i].sort; omega)) rfl ?_
    simp [e5, e10, e11, e12, hlen, sizesE, isl]
    exact ⟨m - 1, by omega, i + 1, timesE n (countE s bs[i].sort), rfl, timesE_le, wrap_of (by omega) (by omega), by omega, by simpa using hx⟩
  · rw [List.drop_eq_nil_of_le (by omega), List.map_nil, manyFrom] at hx
    simp [e5, e10, e11, e12, hi, hx]
    exact ⟨0, Pur.self rfl⟩
theorem min_cast (a b : Nat) : (if (a : Int) ≤ (b : Int) then (a : Int) else (b : Int)) = ((min a b : Nat) : Int) := by split <;> omega
mutual
def broadE (s : SchoolD) : FormD → Nat
  | .mk _ _ _ _ bs l => min (timesE (broadL s 0 l) (manyE s bs) + 1) 1048577
def broadL (s : SchoolD) : Nat → List FormD → Nat
  | n, [] => n
  | n, f :: l => broadL s (min (n + broadE s f) 1048577) l
end
theorem broadE_eq (s : SchoolD) (f : FormD) : broadE s f = min (timesE (broadL s 0 f.subs) (manyE s f.binds) + 1) 1048577 := by cases f; rfl
theorem broadE_le (s : SchoolD) (f : FormD) : broadE s f ≤ 1048577 := by rw [broadE_eq]; omega
theorem broadL_le (s : SchoolD) : ∀ {l : List FormD} {n : Nat}, n ≤ 1048577 → broadL s n l ≤ 1048577
  | [], n, hn => by rw [broadL]; exact hn
  | f :: l, n, hn => by rw [broadL]; exact broadL_le s (by omega)
theorem broad_121 : ∀ (m : Nat) (f : FormD), SizeOf.sizeOf f < m → f.Fit → (∀ g ∈ nodes f, g.binds.length ≤ 6) → ∀ (s : SchoolD), s.Tiny → PF E 121 [s.av, f.av] (I (broadE s f))
  | 0, f, hm, _, _ => absurd hm (Nat.not_lt_zero _)
  | m + 1, f, hm, hfit, h6 => by
    intro s hs
    have hsub := hfit.self.1
    unfold Big at hsub
    have hb6 : f.binds.length ≤ 6 := h6 f (by rw [nodes_eq]; simp)
    have hml := manyE_le (s := s) (bs := f.binds)
    refine pf_of_body mixed fn_121 (by simp) ?_
    unfold Tryz.f121 ABody
    rw [FormD.av, FormD.cells_eq]
    simp [SchoolD.av, Enc.sl]
    refine wp_loop (fun fr H m => ∃ i n : Nat, fr 2 = .ptr 0 0 ∧ fr 3 = .ptr 1 0 ∧ fr 5 = I n ∧ n ≤ 1048577 ∧ fr 9 = formE.sl f.subs ∧ fr 10 = I f.subs.length ∧ fr 11 = I i ∧ i + m = f.subs.length ∧ 2 ≤ H.next ∧
      H.get 0 = .row s.cells ∧ H.get 1 = .row [I f.kind, .str f.name, I f.n, termE.sl f.terms, bindE.sl f.binds, formE.sl f.subs] ∧ broadL s 0 f.subs = broadL s n (f.subs.drop i)) f.subs.length ?_ ?_
    · exact ⟨0, 0, by simp [Enc.sl]⟩
    rintro m' fr H ⟨i, n, e2, e3, e5, hn, e9, e10, e11, hm', hnx, g0, g1, hx⟩
    by_cases hi : i < f.subs.length
    · have hd : f.subs.drop i = f.subs[i] :: f.subs.drop (i + 1) := List.drop_eq_getElem_cons hi
      rw [hd, broadL] at hx
      have q0 : ¬ 0 = H.next := by omega
      have q1 : ¬ 1 = H.next := by omega
      simp [e2, e3, e5, e9, e10, e11, hi, Enc.sl]
      rw [show apart true 6 (i * 6) (formE.cells f.subs) = some (.agg (formE.enc f.subs[i])) from formE.part hi]
      have hl6' : (formE.enc f.subs[i]).length = 6 := FormD.cells_len _
      have ht6 : List.take 6 (formE.enc f.subs[i]) = formE.enc f.subs[i] := by rw [List.take_of_length_le (by omega)]
      simp [hl6', ht6, e2, q0, g0, SchoolD.cells]
      have hns : ∀ g ∈ nodes f.subs[i], g.binds.length ≤ 6 := fun g hg => h6 g (by rw [nodes_eq, nodesL_split hi]; simp [hg])
      refine rc_pure (broad_121 m f.subs[i] (by have := subs_lt hi; omega) (hfit.sub hi) hns s hs) (by simp [AV.purs, AV.pur, FormD.av, SchoolD.av]) ?_
      have hbl := broadE_le s f.subs[i]
      have hw : IntKind.i64.wrap ((n : Int) + broadE s f.subs[i]) = n + broadE s f.subs[i] := wrap_of (by omega) (by omega)
      simp [e2, e3, e5, e9, e10, e11, Enc.sl, hw, q0, q1, g0, g1]
      refine ⟨m' - 1, by omega, i + 1, min (n + broadE s f.subs[i]) 1048577, ?_, by omega, wrap_of (by omega) (by omega), by omega, by omega, rfl, hx⟩
      split <;> omega
    · rw [List.drop_eq_nil_of_le (by omega), broadL] at hx
      simp [e2, e3, e5, e9, e10, e11, hi, g0, g1, SchoolD.cells, Enc.sl]
      have c116 := many_116 (E := E) s f.binds hs (by omega)
      rw [SchoolD.av, SchoolD.cells] at c116
      simp only [Enc.sl] at c116
      refine rc_pure c116 rfl ?_
      simp [e5]
      refine rc_pure (times_133 n (manyE s f.binds) hn hml) rfl ?_
      have htl := timesE_le (a := n) (b := manyE s f.binds)
      have hw : IntKind.i64.wrap ((timesE n (manyE s f.binds) : Int) + 1) = timesE n (manyE s f.binds) + 1 := wrap_of (by omega) (by omega)
      simp [hw]
      rw [broadE_eq, hx]
      have hmc := min_cast (timesE n (manyE s f.binds) + 1) 1048577
      simp only [Int.natCast_add] at hmc
      refine ⟨0, ?_⟩
      rw [show (if (timesE n (manyE s f.binds) : Int) + 1 ≤ 1048577 then (timesE n (manyE s f.binds) : Int) + 1 else 1048577) = ((min (timesE n (manyE s f.binds) + 1) 1048577 : Nat) : Int) from hmc]
      exact Pur.self rfl
end Go.Zk
namespace Go.Zk
open Go.Proofs
variable {E : Env} [h : IsG E]
def greatFrom (s : SchoolD) : Nat → Nat → List RuleD → Nat × Nat
  | n, w, [] => (n, w)
  | n, w, r :: l => greatFrom s (n + manyE s r.each) (min (w + timesE (manyE s r.each) (broadE s r.body)) 1048577) l
def greatE (s : SchoolD) (l : List RuleD) : Bool := decide (4096 < (greatFrom s 0 0 l).1) || decide (1048576 < (greatFrom s 0 0 l).2)
/-- A rule as the bounds need it. -/
structure RuleD.Ok (r : RuleD) : Prop extends r.Fit where
  six : r.each.length ≤ 6
  body6 : ∀ g ∈ nodes r.body, g.binds.length ≤ 6
theorem great_85 (s : SchoolD) (l : List RuleD) (hs : s.Tiny) (hl : l.length ≤ 1000000) (hr : ∀ r ∈ l, r.Ok) : PF E 85 [s.av, ruleE.sl l] (.bool (greatE s l)) := by
  refine pf_of_body mixed fn_85 (by simp) ?_
  unfold Tryz.f85 ABody
  simp [SchoolD.av, Enc.sl]
  generalize hcs : ruleE.cells l = cs
  refine wp_loop (fun fr H m => ∃ i n w : Nat, fr 2 = .ptr 0 0 ∧ fr 5 = I n ∧ n ≤ i * 1048577 ∧ fr 6 = I w ∧ w ≤ 1048577 ∧ fr 10 = .sl l.length false cs ∧ fr 11 = I l.length ∧ fr 12 = I i ∧ i + m = l.length ∧ 1 ≤ H.next ∧
    H.get 0 = .row s.cells ∧ greatFrom s 0 0 l = greatFrom s n w (l.drop i)) l.length ?_ ?_
  · exact ⟨0, 0, 0, by simp, by simp, by omega, by simp, by omega, by simp [Enc.sl], by simp, by simp, by omega, by simp, by simp [SchoolD.cells, Enc.sl], rfl⟩
  rintro m fr H ⟨i, n, w, e2, e5, hn, e6, hw, e10, e11, e12, hm, hnx, g0, hx⟩
  by_cases hi : i < l.length
  · have hd : l.drop i = l[i] :: l.drop (i + 1) := List.drop_eq_getElem_cons hi
    rw [hd, greatFrom] at hx
    have hok := hr _ (List.getElem_mem hi)
    have q0 : ¬ 0 = H.next := by omega
    simp [e2, e5, e6, e10, e11, e12, hi, Enc.sl]
    rw [show apart true 10 (i * 10) cs = some (.agg (ruleE.enc l[i])) from hcs ▸ ruleE.part hi]
    simp [ruleE, FormD.cells_eq, e2, q0, g0, SchoolD.cells]
    have c116 := many_116 (E := E) s l[i].each hs (by have := hok.six; omega)
    have hml := manyE_le (s := s) (bs := l[i].each)
    have hbl := broadE_le s l[i].body
    have htl := timesE_le (a := manyE s l[i].each) (b := broadE s l[i].body)
    refine rc_pure c116 rfl ?_
    have hw1 : IntKind.i64.wrap ((n : Int) + manyE s l[i].each) = n + manyE s l[i].each := by
      exact wrap_of (by omega) (by omega)
    simp [e2, e5, e6, hw1, q0, g0, SchoolD.cells, apart_agg]
    have c121 := broad_121 (E := E) (SizeOf.sizeOf l[i].body + 1) l[i].body (by omega) hok.body hok.body6 s hs
    rw [FormD.av, FormD.cells_eq] at c121
    refine rc_pure c121 rfl ?_
    simp [e6]
    refine rc_pure (times_133 (manyE s l[i].each) (broadE s l[i].body) hml hbl) rfl ?_
    have hw2 : IntKind.i64.wrap ((w : Int) + timesE (manyE s l[i].each) (broadE s l[i].body)) = w + timesE (manyE s l[i].each) (broadE s l[i].body) := wrap_of (by omega) (by omega)
    have hmc := min_cast (w + timesE (manyE s l[i].each) (broadE s l[i].body)) 1048577
    simp only [Int.natCast_add] at hmc
    simp [e2, e5, e6, e10, e11, e12, hw2, q0, g0, Enc.sl]
    refine ⟨m - 1, by omega, i + 1, n + manyE s l[i].each, by omega, by omega, _, hmc, by omega, wrap_of (by omega) (by omega), by omega, rfl, hx⟩
  · rw [List.drop_eq_nil_of_le (by omega), greatFrom] at hx
    by_cases c1 : (4096 : Int) < n
    · have c1' : 4096 < n := by omega
      have hg : greatE s l = true := by unfold greatE; rw [hx]; simp [c1']
      simp [e2, e5, e6, e10, e11, e12, hi, c1, hg]
      exact ⟨0, Pur.self rfl⟩
    · have c1' : ¬ 4096 < n := by omega
      have hg : greatE s l = decide (1048576 < w) := by unfold greatE; rw [hx]; simp [c1']
      simp [e2, e5, e6, e10, e11, e12, hi, c1, hg]
      rw [show decide ((1048576 : Int) < w) = decide (1048576 < w) from decide_eq_decide.2 (by omega)]
      exact ⟨0, Pur.self rfl⟩
end Go.Zk
namespace Go.Zk
open Go.Proofs
variable {E : Env} [h : IsG E]
theorem nan_122 (n : Int) : PF E 122 [I n] (.bool false) := by
  refine pf_of_body mixed fn_122 (by simp) ?_
  unfold Tryz.f122 ABody
  simp
  exact ⟨0, Pur.self rfl⟩
def cmpI (a b : Int) : Int := if a < b then -1 else if b < a then 1 else 0
theorem compare_137 (a b : Int) : PF E 137 [I a, I b] (I (cmpI a b)) := by
  refine pf_of_body mixed fn_137 (by simp) ?_
  unfold Tryz.f137 ABody
  simp
  refine rc_pure (nan_122 a) rfl ?_
  simp
  refine rc_pure (nan_122 b) rfl ?_
  by_cases h1 : a < b
  · simp [h1, cmpI]
    exact ⟨0, Pur.self rfl⟩
  · by_cases h2 : b < a
    · simp [h1, h2, cmpI]
      exact ⟨0, Pur.self rfl⟩
    · simp [h1, h2, cmpI]
      exact ⟨0, Pur.self rfl⟩
def envB (env : List EnvD) : List BindD := env.map fun x => ⟨x.name, x.sort⟩
def findE (env : List EnvD) (name : Str) : Option Nat := env.findIdx? fun x => decide (x.name = name)
theorem findE_eq (env : List EnvD) (name : Str) : findB (envB env) name = findE env name := by
  unfold findB findE envB
  rw [List.findIdx?_map]; rfl
theorem findE_lt {a : List EnvD} {n : Str} {i : Nat} (h : findE a n = some i) : ∃ hi : i < a.length, a[i].name = n := by
  unfold findE at h
  rw [List.findIdx?_eq_some_iff_getElem] at h
  obtain ⟨h1, h2, _⟩ := h
  exact ⟨h1, by simpa using h2⟩
theorem same_169 (t : TermD) (x : EnvD) : PF E 169 [.agg (envE.enc x), .rptr (termE.enc t) 0] (.bool (decide (x.name = t.name))) := by
  refine pf_of_body mixed fn_169 (by simp) ?_
  unfold Tryz.f169 ABody
  simp [envE, termE]
  exact ⟨0, Pur.self rfl⟩
theorem same_171 (t : TermD) (x : EnvD) : PF E 171 [.agg (envE.enc x), .rptr (termE.enc t) 0] (.bool (decide (x.name = t.name))) := by
  refine pf_of_body mixed fn_171 (by simp) ?_
  unfold Tryz.f171 ABody
  simp [envE, termE]
  exact ⟨0, Pur.self rfl⟩
def posOf (env : List EnvD) (name : Str) : Int := match findE env name with
  | some i => ((env[i]?).map (·.pos)).getD 0
  | none => 0
theorem ol_sl {α : Type} {c : Enc α} {l : List α} (h : l ≠ []) : c.ol l = c.sl l := by
  cases l with
  | nil => exact absurd rfl h
  | cons x l => rfl
theorem element_139 (env : List EnvD) (t : TermD) (hl : Big env.length) (hf : (findE env t.name).isSome = true) : PF E 139 [envE.ol env, .agg (termE.enc t)] (I (posOf env t.name)) := by
  obtain ⟨i, hi⟩ := Option.isSome_iff_exists.1 hf
  obtain ⟨hlt, hnm⟩ := findE_lt hi
  have hne : env ≠ [] := fun e => by subst e; simp at hlt
  rw [ol_sl hne]
  have c168 := index_168 (E := E) (g := fun x => decide (x.name = t.name)) (k := 171) (a := []) (b := [.rptr (termE.enc t) 0]) rfl env hl (fun x _ => same_171 t x)
  rw [show env.findIdx? (fun x => decide (x.name = t.name)) = some i from hi] at c168
  refine pf_of_body mixed fn_139 (by simp) ?_
  unfold Tryz.f139 ABody
  simp [termE]
  refine rc_pf c168 (Borrow.by rfl 3 (.cons (Pur.self rfl) (.cons (Pur.fn .nil (.cons (Pur.box (by simp [termE]) rfl) .nil)) .nil))) ?_
  simp [ixOf, Enc.sl, hlt]
  rw [show (envE.cells env)[i * 3 + 2]? = some (I env[i].pos) from Enc.cell (c := envE) (k := 2) hlt (by decide)]
  simp [posOf, hi, hlt]
  exact ⟨0, Pur.self rfl⟩
end Go.Zk
namespace Go.Zk
open Go.Proofs
variable {E : Env} [h : IsG E]
def stCells (s : SchoolD) (w : List PlaceD) : List AV := s.cells ++ [placeE.sl w]
def stAV (s : SchoolD) (w : List PlaceD) : AV := .agg (stCells s w)
def EnvOk (s : SchoolD) (env : List EnvD) : Prop := ∀ x ∈ env, 0 ≤ x.pos ∧ x.pos < countE s x.sort
theorem count_2 (s : SchoolD) : countE s 2 = s.slots.length := by simp [countE, elems]
theorem count_3 (s : SchoolD) : countE s 3 = s.rooms.length := by simp [countE, elems]
theorem count_1 (s : SchoolD) : countE s 1 = s.lessons.length := by simp [countE, elems]
def slotAt (s : SchoolD) (n : Int) : SlotD := (s.slots[n.toNat]?).getD ⟨[], 0, 0⟩
def roomAt (s : SchoolD) (n : Int) : RoomD := (s.rooms[n.toNat]?).getD ⟨[], 0, 0, []⟩
def valueE (s : SchoolD) (env : List EnvD) (t : TermD) : Int :=
  if t.kind = 1 then t.n else
  match findE env t.name with
  | none => 0
  | some i => match env[i]? with
    | none => 0
    | some v => if t.kind = 3 then (slotAt s v.pos).day else if t.kind = 4 then (slotAt s v.pos).hour else if t.kind = 5 then (roomAt s v.pos).house else if t.kind = 6 then (roomAt s v.pos).seats
      else if t.kind = 7 then sizeAt s v.pos else if v.sort = 2 then IntKind.i64.wrap (IntKind.i64.wrap ((slotAt s v.pos).day * 12) + (slotAt s v.pos).hour) else v.pos
theorem takes_sort (k s : Int) (h1 : 3 ≤ k) (h2 : k ≤ 7) (h : takesA k = s) : (k = 3 → s = 2) ∧ (k = 4 → s = 2) ∧ (k = 5 → s = 3) ∧ (k = 6 → s = 3) := by
  subst h
  refine ⟨?_, ?_, ?_, ?_⟩ <;> (rintro rfl; rfl)
theorem value_138 (s : SchoolD) (w : List PlaceD) (env : List EnvD) (t : TermD) (hs : s.Fit) (hl : Big env.length) (hok : EnvOk s env) (ht : termedB t = true) (hst : (sortT (envB env) t).2 = 0) :
    PF E 138 [stAV s w, envE.ol env, .agg (termE.enc t)] (I (valueE s env t)) := by
  by_cases k1 : t.kind = 1
  · refine pf_of_body mixed fn_138 (by simp) ?_
    unfold Tryz.f138 ABody
    simp [stAV, stCells, SchoolD.cells, termE, k1, valueE]
    exact ⟨0, Pur.self rfl⟩
  have hk : 2 ≤ t.kind ∧ t.kind ≤ 7 := by
    simp only [termedB, if_neg k1, Bool.and_eq_true, inR3, decide_eq_true_eq] at ht
    exact ht.1.1
  cases hfi : findE env t.name with
  | none =>
    exfalso
    rw [sortT, if_neg k1, findE_eq, hfi] at hst
    cases hst
  | some i =>
    obtain ⟨hlt, hnm⟩ := findE_lt hfi
    have hne : env ≠ [] := fun e => by subst e; simp at hlt
    rw [ol_sl hne]
    have c168 := index_168 (E := E) (g := fun x => decide (x.name = t.name)) (k := 169) (a := []) (b := [.rptr (termE.enc t) 0]) rfl env hl (fun x _ => same_169 t x)
    rw [show env.findIdx? (fun x => decide (x.name = t.name)) = some i from hfi] at c168
    have hpos := hok _ (List.getElem_mem hlt)
    have hsort : t.kind ≠ 2 → takesA t.kind = env[i].sort := fun h2 => by
      rw [sortT, if_neg k1, findE_eq, hfi] at hst
      simp only [if_neg h2] at hst
      by_cases c : takesA t.kind = env[i].sort
      · exact c
      · rw [if_pos (by simp [envB, hlt]; exact c)] at hst; cases hst
    have hval : valueE s env t = if t.kind = 3 then (slotAt s env[i].pos).day else if t.kind = 4 then (slotAt s env[i].pos).hour else if t.kind = 5 then (roomAt s env[i].pos).house else if t.kind = 6 then (roomAt s env[i].pos).seats
      else if t.kind = 7 then sizeAt s env[i].pos else if env[i].sort = 2 then IntKind.i64.wrap (IntKind.i64.wrap ((slotAt s env[i].pos).day * 12) + (slotAt s env[i].pos).hour) else env[i].pos := by
      rw [valueE, if_neg k1, hfi]
      simp only [List.getElem?_eq_getElem hlt]
    have hpart : apart true 3 (i * 3) (envE.cells env) = some (.agg (envE.enc env[i])) := envE.part hlt
    generalize env[i] = v at *
    have hslot : v.sort = 2 → v.pos.toNat < s.slots.length ∧ v.pos < s.slots.length := fun e => by
      rw [e, count_2] at hpos; omega
    have hroom : v.sort = 3 → v.pos.toNat < s.rooms.length ∧ v.pos < s.rooms.length := fun e => by
      rw [e, count_3] at hpos; omega
    have hp0 := hpos.1
    refine pf_of_body mixed fn_138 (by simp) ?_
    unfold Tryz.f138 ABody
    simp [stAV, stCells, SchoolD.cells, termE, k1]
    refine rc_pf c168 (Borrow.by rfl 3 (.cons (Pur.self rfl) (.cons (Pur.fn .nil (.cons (Pur.box (by simp [termE]) rfl) .nil)) .nil))) ?_
    simp [ixOf, Enc.sl, hlt]
    rw [hpart]
    simp [envE]
    rw [hval]
    by_cases k3 : t.kind = 3
    · obtain ⟨q1, q2⟩ := hslot ((takes_sort t.kind v.sort (by omega) hk.2 (hsort (by omega))).1 k3)
      simp [k3, Enc.sl, hp0, q1, q2]
      rw [show (slotE.cells s.slots)[v.pos.toNat * 3 + 1]? = some (I s.slots[v.pos.toNat].day) from Enc.cell (c := slotE) (k := 1) q1 (by decide)]
      simp [slotAt, q1, k3]
      exact ⟨0, Pur.self rfl⟩
    by_cases k4 : t.kind = 4
    · obtain ⟨q1, q2⟩ := hslot ((takes_sort t.kind v.sort (by omega) hk.2 (hsort (by omega))).2.1 k4)
      simp [k4, Enc.sl, hp0, q1, q2]
      rw [show (slotE.cells s.slots)[v.pos.toNat * 3 + 2]? = some (I s.slots[v.pos.toNat].hour) from Enc.cell (c := slotE) (k := 2) q1 (by decide)]
      simp [slotAt, q1, k4]
      exact ⟨0, Pur.self rfl⟩
    by_cases k5 : t.kind = 5
    · obtain ⟨q1, q2⟩ := hroom ((takes_sort t.kind v.sort (by omega) hk.2 (hsort (by omega))).2.2.1 k5)
      simp [k5, Enc.sl, hp0, q1, q2]
      rw [show (roomE.cells s.rooms)[v.pos.toNat * 4 + 1]? = some (I s.rooms[v.pos.toNat].house) from Enc.cell (c := roomE) (k := 1) q1 (by decide)]
      simp [roomAt, q1, k5]
      exact ⟨0, Pur.self rfl⟩
    by_cases k6 : t.kind = 6
    · obtain ⟨q1, q2⟩ := hroom ((takes_sort t.kind v.sort (by omega) hk.2 (hsort (by omega))).2.2.2 k6)
      simp [k6, Enc.sl, hp0, q1, q2]
      rw [show (roomE.cells s.rooms)[v.pos.toNat * 4 + 2]? = some (I s.rooms[v.pos.toNat].seats) from Enc.cell (c := roomE) (k := 2) q1 (by decide)]
      simp [roomAt, q1, k6]
      exact ⟨0, Pur.self rfl⟩
    by_cases k7 : t.kind = 7
    · simp [k3, k4, k5, k6, k7]
      have csz := size (E := E) s v.pos hs.toSmall hs.in_
      rw [SchoolD.av, SchoolD.cells] at csz
      refine rc_pure csz rfl ?_
      simp
      exact ⟨0, Pur.self rfl⟩
    by_cases k2 : v.sort = 2
    · obtain ⟨q1, q2⟩ := hslot k2
      simp [k3, k4, k5, k6, k7, k2, Enc.sl, hp0, q1, q2]
      rw [show apart true 3 (v.pos.toNat * 3) (slotE.cells s.slots) = some (.agg (slotE.enc s.slots[v.pos.toNat])) from slotE.part q1]
      simp [slotE, slotAt, q1]
      exact ⟨0, Pur.self rfl⟩
    · simp [k3, k4, k5, k6, k7, k2]
      exact ⟨0, Pur.self rfl⟩
end Go.Zk
namespace Go.Zk
section
variable {E : Env} {H : AHeap} {n : Nat} {fr : AFr} {Q : AExit → AFr → AHeap → Prop} {f : FuncId} {args : List AV} {res : AV}
theorem pf_of_af (ha : AF E f args .nil fun ar H' => ∃ v k, ar = .ret v ∧ Pur H' k v res) : PF E f args res := by
  refine ⟨ha.en, fun I w vs h1 h2 h3 hv => (ha.go w.heap.size _ w vs (HSim.start h1 h2 h3) hv).mono fun e w' hp => ?_⟩
  obtain ⟨C', H', ar, k1, k2, v, k, rfl, k3⟩ := hp
  cases e with
  | panicked ch => exact k1.elim
  | outgrown => exact k1.elim
  | returned u =>
    simp only [EndRel] at k1
    obtain ⟨f1, f2, f3⟩ := k2.hs.still_facts
    refine ⟨u, (C'.still H').I, rfl, k2.ev, fun b hb => .inl (k2.le.I b hb), fun b hb => (f3 b hb).elim (k2.I b) .inr, f1, f2, ?_⟩
    have := pur_rel k2.hs.read k v res u k3 k1
    have e : C'.still H' = ⟨(C'.still H').I, fun _ => none, w'.heap⟩ := by
      simp only [Ctx.still, k2.hs.heap]
    rw [e] at this
    exact this
theorem ff_of_af (ha : AF E f args .nil fun ar H' => ∃ v k, ar = .ret v ∧ PurF H' k v res) : FF E f args res := by
  refine ⟨ha.en, fun I w vs h1 h2 h3 hv => (ha.go w.heap.size _ w vs (HSim.start h1 h2 h3) hv).mono fun e w' hp => ?_⟩
  obtain ⟨C', H', ar, k1, k2, v, k, rfl, k3⟩ := hp
  cases e with
  | panicked ch => exact k1.elim
  | outgrown => exact k1.elim
  | returned u =>
    simp only [EndRel] at k1
    obtain ⟨f1, f2⟩ := k2.hs.named_facts
    refine ⟨u, Nm C' H', rfl, k2.ev, fun b hb => (f1 b hb).1, fun b hb => (f1 b hb).2, f2, ?_⟩
    have := purF_rel k2.hs.read k v res u k3 k1
    have e : C'.named H' = ⟨Nm C' H', fun _ => none, w'.heap⟩ := by
      simp only [Ctx.named, k2.hs.heap]
    rw [e] at this
    exact this
theorem hc_ff {ops : Array Oper} {N i k : Nat} {K : ALog → AFr → AHeap → Prop} {rest : List Oper} {log : ALog} {d : Option Tmp} {first cap args' : List AV} (h : FF E f args' res) (hb : P2 (Pur H k) (first ++ args ++ cap) args')
    (kk : AHead E n ops N K rest (i + 1) (log ++ [(none, none)]) (aput n fr d res) H) : Hc (.func f first cap) args E n ops N K rest i log d fr H := ⟨none, res, aquiet_ff h hb, kk⟩
theorem rc_ff {ops : Array Oper} {rest : List Oper} {d : Option Tmp} {first cap args' : List AV} {k : Nat} (h : FF E f args' res) (hb : P2 (Pur H k) (first ++ args ++ cap) args') (kk : AOps E n ops Q rest (aput n fr d res) H) :
    Rc (.func f first cap) args E n ops Q rest d fr H := by
  unfold Rc ACall
  exact ainv_ff h hb kk
end
end Go.Zk
namespace Go.Zk
open Go.Proofs
variable {E : Env} [h : IsG E]
theorem clone_140 (env : List EnvD) (hl : env.length ≤ 100000) (H : AHeap) : AF E 140 [envE.ol env] H (fun ar H' => ∃ v, ar = .ret v ∧ H.next ≤ H'.next ∧ Acc H' H.next v envE env ∧ ∀ j, j < H.next → H'.get j = H.get j) := by
  refine af_of_body mixed fn_140 (by simp) ?_
  unfold Tryz.f140 ABody
  cases env with
  | nil =>
    simp [Enc.ol]
    exact Acc.nil
  | cons x env =>
    have hc : (envE.cells (x :: env)).length = (env.length + 1) * 3 := by rw [envE.cells_len]; rfl
    have hl' : env.length + 1 ≤ 100000 := by simpa using hl
    simp [Enc.ol, Enc.sl, afill, hc]
    rw [if_pos ⟨by omega, by omega⟩]
    simp
    refine ⟨by omega, .inr ⟨by simp, H.next + 1, by omega, by simp, rfl, by simp⟩, fun j hj => ?_⟩
    have e1 : ¬ j = H.next := by omega
    have e2 : ¬ j = H.next + 1 := by omega
    simp [e1, e2]
def withE (env : List EnvD) : List BindD → List Int → List EnvD
  | b :: bs, t :: ts => withE (env ++ [⟨b.name, b.sort, t⟩]) bs ts
  | _, _ => env
theorem with_af (env : List EnvD) (bs : List BindD) (ts : List Int) (hl : env.length + bs.length ≤ 100000) (ht : ts.length = bs.length) :
    AF E 88 [envE.ol env, bindE.sl bs, isl ts] .nil (fun ar H' => ∃ v, ar = .ret v ∧ Acc H' 0 v envE (withE env bs ts)) := by
  refine af_of_body mixed fn_88 (by simp) ?_
  unfold Tryz.f88 ABody
  simp
  refine rc_af ((clone_140 env (by omega) _).mono fun ar H1 hp => ?_)
  obtain ⟨v, rfl, n1, a1, k1⟩ := hp
  simp [Enc.sl]
  refine wp_loop (fun fr H m => ∃ (i : Nat) (cur : List EnvD), fr 2 = isl ts ∧ fr 11 = bindE.sl bs ∧ fr 12 = I bs.length ∧ fr 13 = I i ∧ i + m = bs.length ∧ cur.length = env.length + i ∧ Acc H 0 (fr 0) envE cur ∧
    withE env bs ts = withE cur (bs.drop i) (ts.drop i)) bs.length ?_ ?_
  · exact ⟨0, env, by simp [Enc.sl]; exact a1⟩
  rintro m fr H ⟨i, cur, e2, e11, e12, e13, hm, hcl, hacc, hx⟩
  by_cases hi : i < bs.length
  · have hit : i < ts.length := by omega
    have hd : bs.drop i = bs[i] :: bs.drop (i + 1) := List.drop_eq_getElem_cons hi
    have hdt : ts.drop i = ts[i] :: ts.drop (i + 1) := List.drop_eq_getElem_cons hit
    rw [hd, hdt, withE] at hx
    simp [e2, e11, e12, e13, hi, Enc.sl]
    rw [show apart true 2 (i * 2) (bindE.cells bs) = some (.agg (bindE.enc bs[i])) from bindE.part hi]
    simp [bindE, e2, e11, e12, e13]
    refine wp_open [(11, true), (13, false)] (by rfl) ?_
    simp [-append_eq, e2, e11, e12, e13, isl, hit, afill, splice]
    refine ⟨logOk_none rfl, ?_⟩
    refine r2_push envE ⟨bs[i].name, bs[i].sort, ts[i]⟩ (hacc.keep (by simp <;> omega) fun j h1 h2 => ?_) (by simp) (by simp [envE]) tel_146 tby_148 tzero_148 srcType_146 rfl (by omega) (by omega) fun v' H' q1 q2 q3 => ?_
    · have r1 : ¬ j = H.next := by omega
      have r2 : ¬ j = H.next + 1 + 10 := by omega
      simp [r1, r2]
    simp [e2, e11, e12, e13, Enc.sl, isl]
    exact ⟨m - 1, by omega, rfl, i + 1, wrap_of (by omega) (by omega), by omega, cur ++ [⟨bs[i].name, bs[i].sort, ts[i]⟩], by simp [hcl]; omega, q1, hx⟩
  · simp [e2, e11, e12, e13, hi]
    rw [hx, List.drop_eq_nil_of_le (by omega : bs.length ≤ i)]
    have : withE cur [] (ts.drop i) = cur := by unfold withE; rfl
    rw [this]
    exact hacc
theorem with_88 (env : List EnvD) (bs : List BindD) (ts : List Int) (hl : env.length + bs.length ≤ 100000) (ht : ts.length = bs.length) : PF E 88 [envE.ol env, bindE.sl bs, isl ts] (envE.ol (withE env bs ts)) :=
  pf_of_af ((with_af env bs ts hl ht).mono fun ar H' ⟨v, h1, h2⟩ => ⟨v, 1, h1, h2.pur fun x _ => rfl⟩)
theorem env_flat (l : List EnvD) : ∀ x ∈ envE.cells l, AV.flat x = true := by
  induction l with
  | nil => intro x hx; simp [Enc.cells] at hx
  | cons y l ih =>
    intro x hx
    simp only [Enc.cells, List.flatMap_cons, List.mem_append] at hx
    rcases hx with hx | hx
    · simp [envE] at hx; rcases hx with rfl | rfl | rfl <;> rfl
    · exact ih x hx
theorem with_ff (env : List EnvD) (bs : List BindD) (ts : List Int) (hl : env.length + bs.length ≤ 100000) (ht : ts.length = bs.length) : FF E 88 [envE.ol env, bindE.sl bs, isl ts] (envE.ol (withE env bs ts)) := by
  refine ff_of_af ((with_af env bs ts hl ht).mono fun ar H' ⟨v, h1, h2⟩ => ⟨v, 1, h1, ?_⟩)
  generalize withE env bs ts = l at h2
  rcases h2 with ⟨rfl, rfl⟩ | ⟨k1, id, k2, k3, rfl, k5⟩
  · exact PurF.self rfl
  · refine .inr ⟨envE.cells l, envE.cells l, k5, P2.refl fun x hx => PurF.self (env_flat l x hx), ?_⟩
    rw [List.drop_zero, List.take_of_length_le (by rw [envE.cells_len]; exact Nat.le_refl _)]
    cases l with
    | nil => exact absurd rfl k1
    | cons x l => rfl
end Go.Zk
namespace Go.Zk
/-- The next tuple; the last place first. -/
def incT : List Nat → List Nat → Option (List Nat)
  | z :: zs, d :: ds => if d + 1 = z then (incT zs ds).map (0 :: ·) else some ((d + 1) :: ds)
  | _, _ => none
def okT : List Nat → List Nat → Prop
  | z :: zs, d :: ds => d < z ∧ okT zs ds
  | [], [] => True
  | _, _ => False
def rankT : List Nat → List Nat → Nat
  | z :: zs, d :: ds => d + z * rankT zs ds
  | _, _ => 0
def prodT : List Nat → Nat
  | [] => 1
  | z :: zs => z * prodT zs
theorem okT_len : ∀ {zs ds : List Nat}, okT zs ds → ds.length = zs.length
  | [], [], _ => rfl
  | z :: zs, d :: ds, h => by have := okT_len h.2; simp [this]
  | [], _ :: _, h => h.elim
  | _ :: _, [], h => h.elim
theorem inc_rankT : ∀ {zs ds ds' : List Nat}, okT zs ds → incT zs ds = some ds' → okT zs ds' ∧ rankT zs ds' = rankT zs ds + 1
  | [], _, _, _, h => by simp [incT] at h
  | _ :: _, [], _, h, _ => h.elim
  | z :: zs, d :: ds, ds', ho, h => by
    obtain ⟨h1, h2⟩ := ho
    simp only [incT] at h
    split at h
    · rename_i hd
      cases hi : incT zs ds with
      | none => rw [hi] at h; cases h
      | some d1 =>
        rw [hi] at h; cases h
        obtain ⟨k1, k2⟩ := inc_rankT h2 hi
        refine ⟨⟨by omega, k1⟩, ?_⟩
        simp only [rankT, k2, Nat.mul_add]
        omega
    · cases h
      refine ⟨⟨by omega, h2⟩, ?_⟩
      simp only [rankT]; omega
theorem rank_ltT : ∀ {zs ds : List Nat}, okT zs ds → rankT zs ds < prodT zs
  | [], [], _ => by simp [rankT, prodT]
  | [], _ :: _, h => h.elim
  | _ :: _, [], h => h.elim
  | z :: zs, d :: ds, h => by
    have ih := rank_ltT h.2
    simp only [rankT, prodT]
    have : z * (rankT zs ds + 1) ≤ z * prodT zs := Nat.mul_le_mul_left _ ih
    rw [Nat.mul_add] at this
    have := h.1
    omega
def allT (zs : List Nat) : Nat → List Nat → List (List Nat)
  | 0, _ => []
  | f + 1, l => l.reverse :: (match incT zs l with
    | some l' => allT zs f l'
    | none => [])
theorem allT_len {zs : List Nat} : ∀ {f : Nat} {l : List Nat}, (allT zs f l).length ≤ f
  | 0, l => by simp [allT]
  | f + 1, l => by
    simp only [allT, List.length_cons]
    cases incT zs l with
    | none => simp
    | some l' => have := allT_len (zs := zs) (f := f) (l := l'); simp; omega
def zeroT (n : Nat) : List Nat := List.replicate n 0
theorem zeroT_ok : ∀ {zs : List Nat}, (∀ z ∈ zs, z ≠ 0) → okT zs (zeroT zs.length)
  | [], _ => trivial
  | z :: zs, h => ⟨Nat.pos_of_ne_zero (h z (by simp)), zeroT_ok fun y hy => h y (by simp [hy])⟩
theorem zeroT_rank : ∀ {zs : List Nat} {n : Nat}, rankT zs (zeroT n) = 0
  | [], _ => by cases ‹Nat› <;> simp [rankT]
  | z :: zs, 0 => by simp [zeroT, rankT]
  | z :: zs, n + 1 => by
    have := zeroT_rank (zs := zs) (n := n)
    simp only [zeroT, List.replicate_succ, rankT] at this ⊢
    simp [this]
def tuplesL (sz : List Nat) : List (List Nat) := if sz.any (fun z => decide (z = 0)) = true then [] else allT sz.reverse (prodT sz.reverse) (zeroT sz.length)
theorem allT_ok {zs : List Nat} : ∀ {f : Nat} {l : List Nat}, okT zs l → ∀ w ∈ allT zs f l, okT zs w.reverse
  | 0, _, _, w, hw => by simp [allT] at hw
  | f + 1, l, ho, w, hw => by
    simp only [allT, List.mem_cons] at hw
    rcases hw with rfl | hw
    · simpa using ho
    · cases hi : incT zs l with
      | none => rw [hi] at hw; simp at hw
      | some l' =>
        rw [hi] at hw
        exact allT_ok (inc_rankT ho hi).1 w hw
end Go.Zk
