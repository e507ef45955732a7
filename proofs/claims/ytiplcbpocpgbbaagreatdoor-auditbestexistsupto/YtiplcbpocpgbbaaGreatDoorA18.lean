/- The instances that are broken; bounds. Conditions: none. Contracts: eval.Broken. Conditions: the package variables are laid. Contracts: eval.Judge. Conditions: the package variables are laid. Contracts: audit.was, Holds. Conditions: the package variables are laid. Contracts: audit.moves. Conditions: the package variables are laid. Contracts: audit.bound. Conditions: the package variables are laid. Contracts: audit.bound. Conditions: the package variables are laid. Contracts: audit.may. Conditions: the package variables are laid. Contracts: audit.None. Conditions: the package variables are laid. Contracts: audit.Best. Conditions: the package variables are laid. Contracts: chalklineref03.Names, Count. Conditions: the package variables are laid. -/
import Derived.Test.YtiplcbpocpgbbaaGreatDoorA17
set_option linter.unusedSectionVars false
set_option linter.unusedSimpArgs false
set_option linter.unusedVariables false
set_option maxRecDepth 10000
namespace Go.Zk
open Go.Proofs
theorem timesE_pos {k : Nat} (hk : k ≠ 0) : timesE 1048577 k = 1048577 := by
  unfold timesE
  have : 1048577 * 1 ≤ 1048577 * k := Nat.mul_le_mul_left _ (by omega)
  split <;> omega
theorem prodT_zero : ∀ {l : List Nat}, (∀ k ∈ l, k ≠ 0) → prodT l ≠ 0
  | [], _ => by simp [prodT]
  | k :: l, h => by
    have := prodT_zero (l := l) fun y hy => h y (by simp [hy])
    simp only [prodT]
    exact Nat.mul_ne_zero (h k (by simp)) this
theorem many_sat : ∀ {l : List Nat}, (∀ k ∈ l, k ≠ 0) → manyFrom 1048577 l = 1048577
  | [], _ => rfl
  | k :: l, h => by
    rw [manyFrom, timesE_pos (h k (by simp))]
    exact many_sat fun y hy => h y (by simp [hy])
theorem many_prod : ∀ {l : List Nat} {n : Nat}, n ≤ 1048577 → (∀ k ∈ l, k ≠ 0) → n * prodT l ≤ manyFrom n l ∨ 1048577 ≤ manyFrom n l
  | [], n, hn, _ => by simp [prodT, manyFrom]
  | k :: l, n, hn, h => by
    have hl : ∀ y ∈ l, y ≠ 0 := fun y hy => h y (by simp [hy])
    rw [manyFrom]
    by_cases c : n * k ≤ 1048577
    · rw [timesE, if_pos c, prodT, ← Nat.mul_assoc]
      exact many_prod c hl
    · rw [timesE, if_neg c, many_sat hl]
      exact .inr (Nat.le_refl _)
theorem prodT_perm : ∀ {l : List Nat}, prodT l.reverse = prodT l := by
  have happ : ∀ (a b : List Nat), prodT (a ++ b) = prodT a * prodT b := by
    intro a b
    induction a with
    | nil => simp [prodT]
    | cons x a ih => simp only [List.cons_append, prodT, ih, Nat.mul_assoc]
  intro l
  induction l with
  | nil => rfl
  | cons x l ih => rw [List.reverse_cons, happ, ih]; simp [prodT, Nat.mul_comm]
theorem tups_many {s : SchoolD} {bs : List BindD} (hm : manyE s bs ≤ 1048576) : (tupsOf s bs).length ≤ manyE s bs := by
  unfold tupsOf tuplesL
  split
  · simp
  · rename_i hz
    have hnz : ∀ k ∈ cnts s bs, k ≠ 0 := fun k hk e => hz (by rw [List.any_eq_true]; exact ⟨k, hk, by simp [e]⟩)
    refine Nat.le_trans allT_len ?_
    rw [prodT_perm]
    rcases many_prod (n := 1) (by decide) hnz with h | h
    · rw [Nat.one_mul] at h; exact h
    · unfold manyE cnts at *; omega
def brokenRule (s : SchoolD) (w : List PlaceD) (i : Nat) (r : RuleD) (m : Nat) : List (Nat × List Nat) :=
  (((tupsOf s r.each).take m).filter fun t => !holdsE s w r.body (withE [] r.each (ints' t))).map fun t => (i, t)
def brokenTo (s : SchoolD) (w : List PlaceD) (l : List RuleD) : Nat → List (Nat × List Nat)
  | 0 => []
  | i + 1 => brokenTo s w l i ++ ((l[i]?).map fun r => brokenRule s w i r (tupsOf s r.each).length).getD []
def sumMany (s : SchoolD) (l : List RuleD) : Nat → Nat
  | 0 => 0
  | i + 1 => sumMany s l i + ((l[i]?).map fun r => manyE s r.each).getD 0
theorem sumMany_mono {s : SchoolD} {l : List RuleD} {i j : Nat} (h : i ≤ j) : sumMany s l i ≤ sumMany s l j := by
  induction h with
  | refl => exact Nat.le_refl _
  | step _ ih => rw [sumMany]; omega
theorem great_sum {s : SchoolD} {l : List RuleD} : ∀ (m i n w : Nat), i + m = l.length → (greatFrom s n w (l.drop i)).1 + sumMany s l i = n + sumMany s l l.length
  | 0, i, n, w, h => by
    rw [List.drop_eq_nil_of_le (by omega), greatFrom, show i = l.length by omega]
  | m + 1, i, n, w, h => by
    have hi : i < l.length := by omega
    rw [List.drop_eq_getElem_cons hi, greatFrom]
    have ih := great_sum (s := s) (l := l) m (i + 1) (n + manyE s l[i].each) (min (w + timesE (manyE s l[i].each) (broadE s l[i].body)) 1048577) (by omega)
    rw [sumMany] at ih
    simp [hi] at ih
    omega
theorem great_bound {s : SchoolD} {l : List RuleD} (h : greatE s l = false) : sumMany s l l.length ≤ 4096 := by
  have := great_sum (s := s) (l := l) l.length 0 0 0 (by omega)
  rw [List.drop_zero, sumMany] at this
  unfold greatE at h
  simp at h
  omega
theorem brokenRule_len {s : SchoolD} {w : List PlaceD} {i m : Nat} {r : RuleD} : (brokenRule s w i r m).length ≤ (tupsOf s r.each).length := by
  unfold brokenRule
  rw [List.length_map]
  exact Nat.le_trans (List.length_filter_le _ _) (by simp; omega)
theorem broken_len {s : SchoolD} {w : List PlaceD} {l : List RuleD} (h : greatE s l = false) : ∀ i, i ≤ l.length → (brokenTo s w l i).length ≤ sumMany s l i
  | 0, _ => by simp [brokenTo]
  | i + 1, hi => by
    have ih := broken_len (w := w) h i (by omega)
    have hb := great_bound h
    have hm := sumMany_mono (s := s) (l := l) hi
    rw [brokenTo, sumMany]
    rw [sumMany] at hm
    have hil : i < l.length := by omega
    simp [hil] at hm ⊢
    have := tups_many (s := s) (bs := l[i].each) (by omega)
    have := brokenRule_len (s := s) (w := w) (i := i) (r := l[i]) (m := (tupsOf s l[i].each).length)
    omega
theorem brokenRule_succ {s : SchoolD} {w : List PlaceD} {i m : Nat} {r : RuleD} {t : List Nat} (h : (tupsOf s r.each)[m]? = some t) :
    brokenRule s w i r (m + 1) = brokenRule s w i r m ++ if holdsE s w r.body (withE [] r.each (ints' t)) = true then [] else [(i, t)] := by
  obtain ⟨hi, ht⟩ := List.getElem?_eq_some_iff.1 h
  unfold brokenRule
  rw [List.take_succ_eq_append_getElem hi, List.filter_append, List.map_append, ht]
  by_cases c : holdsE s w r.body (withE [] r.each (ints' t)) = true
  · simp [c]
  · simp only [Bool.not_eq_true] at c; simp [c]
theorem rules_ok {l : List RuleD} : ∀ {seen : List Str} {i : Nat}, (rulesFrom seen i l).2 = 0 → ∀ r ∈ l, ruleErr r = 0 := by
  induction l with
  | nil => intro _ _ _ r hr; simp at hr
  | cons x l ih =>
    intro seen i h r hr
    rw [rulesFrom] at h
    by_cases c : ruleErr x = 0
    · rw [if_neg (by simpa using c)] at h
      split at h
      · cases h
      · simp at hr
        rcases hr with rfl | hr
        · exact c
        · exact ih h r hr
    · rw [if_pos c] at h; exact absurd h c
theorem rule_typed {r : RuleD} (h : ruleErr r = 0) : AllFormed r.body ∧ (nodes r.body).length ≤ 256 ∧ r.each.length ≤ 6 ∧ walkE r.each r.body = 0 := by
  unfold ruleErr at h
  split at h
  · cases h
  · rename_i hb
    split at h
    · rename_i hc; exact absurd h hc
    · rename_i hc
      split at h
      · cases h
      · obtain ⟨a1, a2, _⟩ := check_formed (f := r.body) (by simpa using hc)
        refine ⟨a1, a2, ?_, h⟩
        simp [badRule] at hb
        omega
end Go.Zk
namespace Go.Zk
open Go.Proofs
variable {E : Env} [h : IsG E]
theorem count_tiny {s : SchoolD} (hc : schoolE E s = 0) : ∀ sort, countE s sort ≤ 1000 := by
  obtain ⟨_, h1, h2, h3, h4, h5⟩ := schoolE_ok hc
  intro sort
  unfold countE elems
  repeat' split
  all_goals simp <;> omega
noncomputable def brokenErr (E : Env) [IsG E] (s : SchoolD) (w : List PlaceD) (l : List RuleD) : Int :=
  if weekE' E s w ≠ 0 then weekE' E s w else if (rulesE l).2 ≠ 0 then (rulesE l).2 else if greatE s l = true then 2 else 0
noncomputable def brokenAV (E : Env) [IsG E] (s : SchoolD) (w : List PlaceD) (l : List RuleD) : AV :=
  if brokenErr E s w l ≠ 0 then .tuple [.nilsl, I (brokenErr E s w l)] else .tuple [instE.sl (brokenTo s w l l.length), I 0]
theorem week_ok {s : SchoolD} {w : List PlaceD} (h : weekE' E s w = 0) : schoolE E s = 0 ∧ w.length = s.lessons.length := by
  unfold weekE' at h
  split at h
  · rename_i hc; exact absurd h hc
  · rename_i hc
    split at h
    · cases h
    · rename_i hd
      exact ⟨by simpa using hc, by by_cases e : w.length = s.lessons.length; exact e; exact absurd (.inl e) hd⟩
theorem inst_ne {H : AHeap} {ok : Nat → Prop} {v : AV} {L : List (Nat × List Nat)} {id o n z : Nat} {tg : Bool} {t : List Nat} (hx : BAcc H ok v L) (hv : v = .msl id o n z tg) (hr : H.get id = .row (nints t)) : False := by
  rcases hx with ⟨_, e⟩ | ⟨h0, id', ds, h1, h2, e, h4, h5, h6⟩
  · rw [hv] at e; cases e
  · rw [hv] at e; cases e
    rw [hr] at h4
    cases ds with
    | nil => exact h0 (by simpa using h5)
    | cons d ds =>
      have h4 := ABlk.row.inj h4
      rcases t with _ | ⟨a, _ | ⟨b, t⟩⟩ <;> simp [nints, ints, InstD.cells, I] at h4
theorem broken_47 (s : SchoolD) (w : List PlaceD) (l : List RuleD) (hs : s.Fit) (hw : Big w.length) (hl : l.length ≤ 1000000) (hr : ∀ r ∈ l, r.Fit) : PF E 47 [s.av, weekAV w, ruleE.sl l] (brokenAV E s w l) := by
  have c83 := week_check (E := E) s w hs hw
  have c84 := rules_84 (E := E) l (by unfold Big; omega) hr
  refine pf_of_body mixed fn_47 (by simp) ?_
  unfold Tryz.f47 ABody
  rw [SchoolD.av, weekAV] at *
  simp [SchoolD.cells]
  rw [SchoolD.cells] at c83
  refine rc_pure c83 rfl ?_
  by_cases h1 : weekE' E s w = 0
  · simp [h1]
    refine rc_pure c84 rfl ?_
    by_cases h2 : (rulesE l).2 = 0
    · obtain ⟨hsc, hwl⟩ := week_ok h1
      have hT : s.Tiny := ⟨hs.toSmall, count_tiny hsc⟩
      have hrk := rules_ok (l := l) h2
      have hok : ∀ r ∈ l, r.Ok := fun r hm => by
        obtain ⟨a1, a2, a3, a4⟩ := rule_typed (hrk r hm)
        refine ⟨hr r hm, a3, fun g hg => ?_⟩
        have hf := a1 g hg
        cases hq : inR3 g.kind 14 17
        · rw [formed_nobinds hf hq]; simp
        · exact (formed_binds hf hq).2.1
      have c85 := great_85 (E := E) s l hT hl hok
      rw [SchoolD.av, SchoolD.cells] at c85
      simp [h2]
      refine rc_pure c85 rfl ?_
      cases h3 : greatE s l
      · have he : brokenErr E s w l = 0 := by unfold brokenErr; simp [h1, h2, h3]
        rw [brokenAV, if_neg (by simp [he])]
        generalize hcs : ruleE.cells l = cs
        simp [Enc.sl, hcs]
        refine wp_loop (fun fr H m => ∃ (i : Nat) (v : AV), fr 2 = .sl l.length false cs ∧ fr 3 = .ptr 0 0 ∧ fr 4 = .ptr 1 0 ∧ fr 11 = .ptr 2 0 ∧ fr 32 = .sl l.length false cs ∧ fr 33 = I l.length ∧ fr 34 = I i ∧ i + m = l.length ∧ 3 ≤ H.next ∧
          H.get 0 = .row s.cells ∧ H.get 1 = .row [placeE.sl w] ∧ H.get 2 = .row [v] ∧ BAcc H (fun j => 3 ≤ j) v (brokenTo s w l i)) l.length ?_ ?_
        · exact ⟨0, .nilsl, by simp [SchoolD.cells, Enc.sl, brokenTo]; exact .inl ⟨rfl, rfl⟩⟩
        rintro m fr H ⟨i, v, e2, e3, e4, e11, e32, e33, e34, hm, hnx, g0, g1, g2, hacc⟩
        by_cases hi : i < l.length
        · have hri := hr _ (List.getElem_mem hi)
          have hoki := hok _ (List.getElem_mem hi)
          obtain ⟨a1, a2, a3, a4⟩ := rule_typed (hrk _ (List.getElem_mem hi))
          have hsm := great_bound h3
          have hsi : sumMany s l (i + 1) ≤ 4096 := Nat.le_trans (sumMany_mono (by omega)) hsm
          have hbl := broken_len (w := w) h3 i (by omega)
          rw [sumMany] at hsi
          simp [hi] at hsi
          have htm := tups_many (s := s) (bs := l[i].each) (by omega)
          have c86 := tuples_86 (E := E) s l[i].each hs.toSmall a3
          rw [SchoolD.av, SchoolD.cells] at c86
          have q0 : ¬ 0 = H.next := by omega
          have q1 : ¬ 1 = H.next := by omega
          have q2 : ¬ 2 = H.next := by omega
          have q3 : ¬ 0 = H.next + 1 := by omega
          have q4 : ¬ 1 = H.next + 1 := by omega
          have q5 : ¬ 2 = H.next + 1 := by omega
          simp [e2, e3, e4, e11, e32, e33, e34, hi]
          rw [show apart true 10 (i * 10) cs = some (.agg (ruleE.enc l[i])) from hcs ▸ ruleE.part hi]
          simp [ruleE, FormD.cells_eq, e2, e3, e4, e11, e32, e33, e34, q0, q1, q2, q3, q4, q5, g0, g1, g2, SchoolD.cells]
          refine rc_pure c86 rfl ?_
          simp [e2, e3, e4, e11, e32, e33, e34]
          generalize hN : H.next = N at *
          have hbr : brokenTo s w l (i + 1) = brokenTo s w l i ++ brokenRule s w i l[i] (tupsOf s l[i].each).length := by rw [brokenTo]; simp [hi]
          refine wp_iter (P := weekP) mixed (by simpa using tuples_iter s l[i].each hT a3) (fun N j hj => by have : j = N := hj; omega)
            (fun k H' => H'.get 0 = .row s.cells ∧ H'.get 1 = .row [placeE.sl w] ∧ H'.get N = .row [I i] ∧ H'.get (N + 1) = .row (ruleE.enc l[i]) ∧ ∃ v, H'.get 2 = .row [v] ∧
              BAcc H' (fun j => 3 ≤ j ∧ ¬ j = N ∧ ¬ j = N + 1 ∧ ¬ j = N + 2 ∧ ¬ j = N + 3) v (brokenTo s w l i ++ brokenRule s w i l[i] k)) (fun _ _ => False) ?_ ?_ ?_ ?_ ?_ ?_ ?_
          · rintro k a b hn ⟨x0, x1, x2, x3, v, x4, x5⟩ hk e
            simp [hN] at hn e
            have e' : ∀ j, j < N + 2 → b.get j = a.get j := fun j hj => e j (by omega) (by omega) (by simp [weekP]; omega)
            refine ⟨by rw [e' 0 (by omega)]; exact x0, by rw [e' 1 (by omega)]; exact x1, by rw [e' N (by omega)]; exact x2, by rw [e' (N + 1) (by omega)]; exact x3, v, by rw [e' 2 (by omega)]; exact x4, x5.keep hk (fun j hj hl => e j hl (by omega) (by simp [weekP]; omega)) fun j hj _ => hj⟩
          · intro e a b hn x; exact x.elim
          · have hb0 : brokenRule s w i l[i] 0 = [] := by simp [brokenRule]
            have q6 : ¬ N = 0 := by omega
            rw [hb0]
            simp [hN, q6, q0, q1, q2, q3, q4, q5, g0, g1, g2, ruleE, FormD.cells_eq]
            refine BAcc.keep (H := H) (ok := fun j => 3 ≤ j) hacc ?_ (fun j h1 h2 => ?_) (fun j h1 h2 => by omega)
            · simp [hN]; try omega
            have y0 : ¬ j = N := by omega
            have y1 : ¬ j = N + 1 := by omega
            simp [hN, y0, y1]
          · rintro H' hn ⟨x0, x1, x2, x3, v, x4, x5⟩
            simp [hN] at hn
            simp [e2, e3, e4, e11, e32, e33, e34]
            refine ⟨m - 1, by omega, i + 1, wrap_of (by omega) (by omega), by omega, by omega, x0, x1, v, x4, ?_⟩
            rw [hbr]
            exact x5.keep (Nat.le_refl _) (fun j _ _ => rfl) fun j hj _ => hj.1
          · intro H' hn hj; exact hj.elim
          · intro i H' hn hj; exact hj.elim
          · rintro k hk H1 args hn ⟨x0, x1, x2, x3, v, x4, x5⟩ ⟨id, tg, t, r1, r2, rfl, r4, r5⟩ hgl
            simp [hN] at hn hgl r1
            simp [hN, hgl, putAll]
            have htm2 : t ∈ tupsOf s l[i].each := List.mem_of_getElem? r4
            obtain ⟨o1, o2⟩ := tups_t htm2
            have hsz : (cnts s l[i].each).length = l[i].each.length := by simp [cnts]
            have d3 : ¬ id = N + 2 := by omega
            have d4 : ¬ id = N + 1 + 1 := by omega
            have p0 : ¬ N = 0 := by omega
            have p1 : ¬ N = 1 := by omega
            have p2 : ¬ N = 2 := by omega
            have p3 : ¬ 0 = N + 2 := by omega
            have p4 : ¬ 1 = N + 2 := by omega
            have p5 : ¬ 2 = N + 2 := by omega
            have p6 : ¬ 2 = N + 1 := by omega
            have hsuc := brokenRule_succ (s := s) (w := w) (i := i) (m := k) (r := l[i]) (t := t) r4
            have hff := with_ff (E := E) [] l[i].each (ints' t) (by simp; omega) o2
            rw [isl, o2] at hff
            have hpt := holds_87 (E := E) (SizeOf.sizeOf l[i].body + 1) l[i].body (by omega) hri.body a1 s w (withE [] l[i].each (ints' t)) hs hT hwl (withE_ok (by intro x hx; cases hx) o1) (by rw [withE_envB o2]; simpa [envB] using a4) (by have := congrArg List.length (withE_envB (env := []) o2); simp [envB] at this; omega)
            refine wp_open [(11, true)] (by rfl) ?_
            simp [e2, e3, e4, e11, e32, e33, e34, x0, x1, x2, x3, SchoolD.cells, hsz, splice, ruleE, FormD.cells_eq]
            refine hc_ff (k := 2) hff (.cons (Pur.self rfl) (.cons (Pur.self rfl) (.cons ?_ .nil))) ?_
            · refine .inr ⟨nints t, nints t, false, by simp [d3, d4, r5], P2.self (nints_purs t), (fun e => by cases e), ?_⟩
              have hnl : (nints t).length = l[i].each.length := by rw [n_len]; have := okT_len o1; rw [hsz] at this; exact this
              rw [List.drop_zero, Nat.mul_one, List.take_of_length_le (by omega)]
              rfl
            simp [x3, ruleE, FormD.cells_eq, apart_agg]
            rw [stAV, stCells_eq, FormD.av, FormD.cells_eq] at hpt
            refine hc_pure hpt (by simp [AV.purs, AV.pur, FormD.av]) ?_
            cases hb2 : holdsE s w l[i].body (withE [] l[i].each (ints' t))
            · rw [hb2] at hsuc
              simp
              refine ⟨logOk_none rfl, ?_⟩
              simp [hgl, x0, x1, x2, x3, x4, e2, e3, e4, e11, e32, e33, e34, q0, q1, q2, q3, q4, q5, p0, p1, p2, p3, p4, p5, splice, -append_eq]
              clear hgl
              simp at hsuc
              have htl : t.length = l[i].each.length := by have := okT_len o1; rw [hsz] at this; exact this
              have hbl2 : (brokenRule s w i l[i] k).length ≤ 4096 := by have := brokenRule_len (s := s) (w := w) (i := i) (m := k) (r := l[i]); omega
              refine bacc_push (ok := fun j => 3 ≤ j ∧ ¬ j = N ∧ ¬ j = N + 1 ∧ ¬ j = N + 2 ∧ ¬ j = N + 3) (i := i) (k := id) (tg := tg) (t := t) (L := brokenTo s w l i ++ brokenRule s w i l[i] k) ?_ ?_ ?_ ?_ ?_ ?_ ?_ ?_ ?_
              · refine BAcc.keep (H := H1) (ok := fun j => 3 ≤ j ∧ ¬ j = N ∧ ¬ j = N + 1 ∧ ¬ j = N + 2 ∧ ¬ j = N + 3) x5 (by simp; try omega) (fun j h1 h2 => ?_) (fun j h1 h2 => h1)
                have y0 : ¬ j = N + 1 + 1 := h1.2.2.2.1
                have y1 : ¬ j = N + 1 + 1 + 1 := h1.2.2.2.2
                have y2 : ¬ j = H1.next + 11 := by omega
                simp [y0, y1, y2]
              · simp; omega
              · simp [InstD.cells, htl]
              · refine ⟨by omega, by omega, by omega, by omega, by omega⟩
              · simp; omega
              · have y2 : ¬ id = H1.next + 11 := by omega
                simp [d3, d4, y2, r5]
              · intro id' o n' z tg' hv he'
                subst he'
                exact inst_ne x5 hv r5
              · simp; omega
              · intro v' H' z1 z2 z3
                have u0 : ¬ N = H1.next + 11 := by omega
                have u1 : ¬ N = H1.next + 10 := by omega
                have u2 : ¬ N + 1 = H1.next + 11 := by omega
                have u3 : ¬ N + 1 + 1 = H1.next + 11 := by omega
                have u5 : ¬ N = H1.next + 9 := by omega
                have u4 : ¬ N + 2 = H1.next + 11 := by omega
                have w0 : H'.get 0 = .row s.cells := by rw [z3 0 (by omega)]; simp [q0, q3, p3, x0]
                have w1 : H'.get 1 = .row [placeE.sl w] := by rw [z3 1 (by omega)]; simp [q1, q4, p4, p0, x1]
                have w2 : H'.get 2 = .row [v] := by rw [z3 2 (by omega)]; simp [q2, q5, p1, p5, x4, p0]
                have w3 : H'.get N = .row [I i] := by rw [z3 N (by simp)]; simp [x2, u0]
                have w4 : H'.get (N + 1) = .row (ruleE.enc l[i]) := by rw [z3 (N + 1) (by simp)]; simp [x3, u1, u2]
                have w5 := z3 (N + 1 + 1) (by simp)
                simp [u3, u4, u5] at w5
                have wc := z1.cells
                have u6 : ¬ N + 1 + 1 + 1 = H1.next + 11 := by omega
                have u7 : ¬ N + 2 = H1.next + 10 := by omega
                have w6 := z3 (N + 1 + 1 + 1) (by simp)
                simp [u6, u7, u5] at w6
                simp [e11, w2, wc, p0, w5]
                simp at z2
                refine ⟨by omega, fun j hj hjl => ?_, ?_⟩
                · have hj6 : j = N + 1 + 1 + 1 := hj
                  subst hj6
                  have u8 : ¬ N = H1.next + 8 := by omega
                  simp [u8] at w6
                  simpa using w6
                · refine ⟨w0, w1, by simp [p2, w3], by simp [p1, w4, ruleE, FormD.cells_eq], ?_⟩
                  rw [hsuc, ← List.append_assoc]
                  refine BAcc.keep (H := H') (ok := fun j => 3 ≤ j ∧ ¬ j = N ∧ ¬ j = N + 1 ∧ ¬ j = N + 2 ∧ ¬ j = N + 3) z1 (by simp) (fun j h1 h2 => ?_) (fun j h1 h2 => h1)
                  have y0 : ¬ j = N + 1 + 1 := h1.2.2.2.1
                  have y1 : ¬ j = N + 1 + 1 + 1 := h1.2.2.2.2
                  have y2 : ¬ j = 2 := by omega
                  simp [y0, y1, y2]
            · rw [hb2] at hsuc
              simp
              refine ⟨logOk_none rfl, ?_⟩
              simp [hgl, x0, x1, x2, x3, x4, e2, e3, e4, e11, e32, e33, e34, q0, q1, q2, q3, q4, q5, p0, p1, p2, p3, p4, p5]
              refine ⟨fun j hj _ => ?_, ?_⟩
              · have hj6 : j = N + 1 + 1 + 1 := hj
                subst hj6
                simp
              refine ⟨rfl, by simp [ruleE, FormD.cells_eq], ?_⟩
              simp at hsuc
              rw [hsuc]
              refine BAcc.keep (H := H1) (ok := fun j => 3 ≤ j ∧ ¬ j = N ∧ ¬ j = N + 1 ∧ ¬ j = N + 2 ∧ ¬ j = N + 3) x5 (by simp) (fun j h1 h2 => ?_) (fun j h1 h2 => h1)
              have y0 : ¬ j = N + 1 + 1 := h1.2.2.2.1
              have y1 : ¬ j = N + 1 + 1 + 1 := h1.2.2.2.2
              simp [y0, y1]
        · have hil : i = l.length := by omega
          simp [e2, e3, e4, e11, e32, e33, e34, hi, g2]
          rw [hil] at hacc
          exact ⟨3, .inr ⟨_, .cons hacc.pur (.cons (Pur.self rfl) .nil), rfl⟩⟩
      · have he : brokenErr E s w l = 2 := by unfold brokenErr; simp [h1, h2, h3]
        rw [brokenAV, he]
        simp
        exact ⟨1, .inr ⟨_, .cons (Pur.self rfl) (.cons (Pur.self rfl) .nil), rfl⟩⟩
    · have he : brokenErr E s w l = (rulesE l).2 := by unfold brokenErr; simp [h1, h2]
      rw [brokenAV, he, if_pos h2]
      simp [h2]
      exact ⟨1, .inr ⟨_, .cons (Pur.self rfl) (.cons (Pur.self rfl) .nil), rfl⟩⟩
  · have he : brokenErr E s w l = weekE' E s w := by unfold brokenErr; simp [h1]
    rw [brokenAV, he, if_pos h1]
    simp [h1]
    exact ⟨1, .inr ⟨_, .cons (Pur.self rfl) (.cons (Pur.self rfl) .nil), rfl⟩⟩
end Go.Zk
namespace Go.Zk
open Go.Proofs
variable {E : Env} [h : IsG E]
theorem brokenRule_fst {s : SchoolD} {w : List PlaceD} {i m : Nat} {r : RuleD} : ∀ x ∈ brokenRule s w i r m, x.1 = i := by
  intro x hx
  simp [brokenRule] at hx
  obtain ⟨t, _, rfl⟩ := hx
  rfl
theorem broken_fst {s : SchoolD} {w : List PlaceD} {l : List RuleD} : ∀ i, i ≤ l.length → ∀ x ∈ brokenTo s w l i, x.1 < i
  | 0, _, x, hx => by simp [brokenTo] at hx
  | i + 1, hi, x, hx => by
    have hil : i < l.length := by omega
    rw [brokenTo] at hx
    simp [hil] at hx
    rcases hx with hx | hx
    · have := broken_fst i (by omega) x hx; omega
    · have := brokenRule_fst x hx; omega
def judgeStep (l : List RuleD) (p : Int × Int) (x : Nat × List Nat) : Int × Int :=
  match l[x.1]? with
  | none => p
  | some r => if r.hard = true then (IntKind.i64.wrap (p.1 + 1), p.2) else (p.1, IntKind.i64.wrap (p.2 + r.weight))
def judgeTo (l : List RuleD) (L : List (Nat × List Nat)) : Nat → Int × Int
  | 0 => (0, 0)
  | i + 1 => match L[i]? with
    | none => judgeTo l L i
    | some x => judgeStep l (judgeTo l L i) x
noncomputable def judgeE (E : Env) [IsG E] (s : SchoolD) (w : List PlaceD) (l : List RuleD) : Int × Int :=
  if brokenErr E s w l ≠ 0 then (0, 0) else judgeTo l (brokenTo s w l l.length) (brokenTo s w l l.length).length
noncomputable def judgeAV (E : Env) [IsG E] (s : SchoolD) (w : List PlaceD) (l : List RuleD) : AV :=
  .tuple [I (judgeE E s w l).1, I (judgeE E s w l).2, I (brokenErr E s w l)]
theorem judge_18 (s : SchoolD) (w : List PlaceD) (l : List RuleD) (hs : s.Fit) (hw : Big w.length) (hl : l.length ≤ 1000000) (hr : ∀ r ∈ l, r.Fit) : PF E 18 [s.av, weekAV w, ruleE.sl l] (judgeAV E s w l) := by
  have c47 := broken_47 (E := E) s w l hs hw hl hr
  refine pf_of_body mixed fn_18 (by simp) ?_
  unfold Tryz.f18 ABody
  rw [SchoolD.av, weekAV] at *
  simp [SchoolD.cells]
  rw [SchoolD.cells] at c47
  refine rc_pure c47 rfl ?_
  by_cases he : brokenErr E s w l = 0
  · rw [judgeAV, judgeE, if_neg (by simp [he]), brokenAV, if_neg (by simp [he]), he]
    have hbl : (brokenTo s w l l.length).length ≤ 4096 := by
      have h3 : greatE s l = false := by
        unfold brokenErr at he
        split at he
        · rename_i hc; exact absurd he hc
        · split at he
          · rename_i hc; exact absurd he hc
          · split at he
            · cases he
            · rename_i hc; simpa using hc
      exact Nat.le_trans (broken_len h3 _ (Nat.le_refl _)) (great_bound h3)
    have hfs := broken_fst (s := s) (w := w) (l := l) l.length (Nat.le_refl _)
    generalize brokenTo s w l l.length = L at *
    generalize hcs : instE.cells L = cs
    generalize hrs : ruleE.cells l = rs
    simp [Enc.sl, hcs, hrs]
    refine wp_loop (fun fr H m => ∃ (i : Nat), fr 2 = .sl l.length false rs ∧ fr 6 = I (judgeTo l L i).1 ∧ fr 7 = I (judgeTo l L i).2 ∧ fr 8 = I 0 ∧ fr 20 = .sl L.length false cs ∧ fr 21 = I L.length ∧ fr 22 = I i ∧ i + m = L.length) L.length ?_ ?_
    · exact ⟨0, by simp [judgeTo]⟩
    rintro m fr H ⟨i, e2, e6, e7, e8, e20, e21, e22, hm⟩
    by_cases hi : i < L.length
    · have hx := hfs _ (List.getElem_mem hi)
      have hjs : judgeTo l L (i + 1) = judgeStep l (judgeTo l L i) L[i] := by rw [judgeTo]; simp [hi]
      have hwi : IntKind.i64.wrap ((i : Int) + 1) = i + 1 := wrap_of (by omega) (by omega)
      rw [judgeStep] at hjs
      simp [hx] at hjs
      simp [e2, e6, e7, e8, e20, e21, e22, hi]
      rw [show apart true 6 (i * 6) cs = some (.agg (instE.enc L[i])) from hcs ▸ instE.part hi]
      simp [instE, e2, e6, e7, e8, e20, e21, e22, hx]
      rw [show apart true 10 (L[i].fst * 10) rs = some (.agg (ruleE.enc l[L[i].fst])) from hrs ▸ ruleE.part hx]
      simp [ruleE, FormD.cells_eq, e2, e6, e7, e8, e20, e21, e22]
      cases hh : l[L[i].fst].hard
      · simp [hh] at hjs
        simp [e2, e6, e7, e8, e20, e21, e22]
        exact ⟨m - 1, by omega, i + 1, by rw [hjs], by rw [hjs], hwi, by omega⟩
      · simp [hh] at hjs
        simp [e2, e6, e7, e8, e20, e21, e22]
        exact ⟨m - 1, by omega, i + 1, by rw [hjs], by rw [hjs], hwi, by omega⟩
    · have hil : i = L.length := by omega
      subst hil
      simp [e2, e6, e7, e8, e20, e21, e22]
      exact ⟨1, .inr ⟨_, .cons (Pur.self rfl) (.cons (Pur.self rfl) (.cons (Pur.self rfl) .nil)), rfl⟩⟩
  · rw [judgeAV, judgeE, if_pos (by simp [he]), brokenAV, if_pos (by simp [he])]
    simp
    refine wp_loop (fun fr H m => fr 6 = I 0 ∧ fr 7 = I 0 ∧ fr 8 = I (brokenErr E s w l) ∧ fr 21 = I 0 ∧ fr 22 = I 0) 0 ?_ ?_
    · simp
    rintro m fr H ⟨e6, e7, e8, e21, e22⟩
    simp [e6, e7, e8, e21, e22]
    exact ⟨1, .inr ⟨_, .cons (Pur.self rfl) (.cons (Pur.self rfl) (.cons (Pur.self rfl) .nil)), rfl⟩⟩
end Go.Zk
namespace Go.Zk
open Go.Proofs
variable {E : Env} [h : IsG E]
/-- A case of the audit: school, rules, closed slots. -/
structure CaseD where
  school : SchoolD
  rules : List RuleD
  closed : List Int
def CaseD.cells (c : CaseD) : List AV := c.school.cells ++ [ruleE.sl c.rules, isl c.closed]
def CaseD.av (c : CaseD) : AV := .agg c.cells
theorem case_cells (c : CaseD) : c.cells = [slotE.sl c.school.slots, roomE.sl c.school.rooms, personE.sl c.school.people, groupE.sl c.school.groups, lessonE.sl c.school.lessons, ruleE.sl c.rules, isl c.closed] := rfl
structure CaseD.Fit (c : CaseD) : Prop where
  school : c.school.Fit
  len : c.rules.length ≤ 1000000
  rules : ∀ r ∈ c.rules, r.Fit
  closed : Big c.closed.length
noncomputable def wasE (E : Env) [IsG E] (c : CaseD) (w : List PlaceD) : Bool := decide (weekE' E c.school w = 0)
theorem was_49 (c : CaseD) (w : List PlaceD) (hc : c.Fit) (hw : Big w.length) : PF E 49 [c.av, weekAV w] (.bool (wasE E c w)) := by
  have c83 := week_check (E := E) c.school w hc.school hw
  refine pf_of_body mixed fn_49 (by simp) ?_
  unfold Tryz.f49 ABody
  rw [SchoolD.av, weekAV, SchoolD.cells] at c83
  rw [CaseD.av, case_cells, weekAV]
  simp
  refine rc_pure c83 rfl ?_
  simp
  by_cases h1 : weekE' E c.school w = 0
  · simp [h1, wasE]
    exact ⟨0, Pur.self rfl⟩
  · simp [h1, wasE]
    exact ⟨0, Pur.self rfl⟩
noncomputable def auditE (E : Env) [IsG E] (c : CaseD) (w : List PlaceD) : Bool × Int :=
  if brokenErr E c.school w c.rules ≠ 0 then (false, 0) else (decide ((judgeE E c.school w c.rules).1 = 0), (judgeE E c.school w c.rules).2)
noncomputable def auditAV (E : Env) [IsG E] (c : CaseD) (w : List PlaceD) : AV := .tuple [.bool (auditE E c w).1, I (auditE E c w).2]
theorem audit_7 (c : CaseD) (w : List PlaceD) (hc : c.Fit) (hw : Big w.length) : PF E 7 [c.av, weekAV w] (auditAV E c w) := by
  have c18 := judge_18 (E := E) c.school w c.rules hc.school hw hc.len hc.rules
  refine pf_of_body mixed fn_7 (by simp) ?_
  unfold Tryz.f7 ABody
  rw [SchoolD.av, weekAV, SchoolD.cells] at c18
  rw [CaseD.av, case_cells, weekAV]
  simp
  refine rc_pure c18 rfl ?_
  by_cases h1 : brokenErr E c.school w c.rules = 0
  · simp [h1, judgeAV, auditAV, auditE]
    exact ⟨1, .inr ⟨_, .cons (Pur.self rfl) (.cons (Pur.self rfl) .nil), rfl⟩⟩
  · simp [h1, judgeAV, auditAV, auditE]
    exact ⟨1, .inr ⟨_, .cons (Pur.self rfl) (.cons (Pur.self rfl) .nil), rfl⟩⟩
end Go.Zk
namespace Go.Zk
open Go.Proofs
variable {E : Env} [h : IsG E]
theorem was_len {c : CaseD} {w : List PlaceD} (hw : wasE E c w = true) : w.length ≤ 1000 := by
  obtain ⟨h1, h2⟩ := week_ok (E := E) (s := c.school) (w := w) (by simpa [wasE] using hw)
  have := count_tiny h1 1
  rw [count_1] at this
  omega
noncomputable def movesE (E : Env) [IsG E] (c : CaseD) (old w : List PlaceD) : Nat :=
  if wasE E c old = true then (if old.length = w.length then (diffTo old w w.length).length else 0) else 0
theorem moves_21 (c : CaseD) (old w : List PlaceD) (hc : c.Fit) (ho : Big old.length) (hw : w.length ≤ 4096) : PF E 21 [c.av, weekAV old, weekAV w] (I (movesE E c old w)) := by
  have c49 := was_49 (E := E) c old hc ho
  refine pf_of_body mixed fn_21 (by simp) ?_
  unfold Tryz.f21 ABody
  rw [CaseD.av, case_cells, weekAV] at c49
  rw [CaseD.av, case_cells, weekAV, weekAV]
  simp
  refine rc_pure c49 rfl ?_
  cases h1 : wasE E c old
  · simp [movesE, h1]
    exact ⟨0, Pur.self rfl⟩
  · have hol := was_len h1
    have c51 := diff (E := E) old w (by omega) hw
    rw [weekAV, weekAV] at c51
    simp
    refine rc_pure c51 rfl ?_
    by_cases h2 : old.length = w.length
    · cases hd : diffTo old w w.length with
      | nil =>
        rw [diffAV, if_pos h2, hd]
        simp [movesE, h1, h2, hd, Enc.ol]
        exact ⟨0, Pur.self rfl⟩
      | cons x xs =>
        rw [diffAV, if_pos h2, hd]
        simp [movesE, h1, h2, hd, Enc.ol, Enc.sl]
        exact ⟨0, Pur.self rfl⟩
    · simp [movesE, h1, h2, diffAV]
      exact ⟨0, Pur.self rfl⟩
end Go.Zk
namespace Go.Zk
open Go.Proofs
variable {E : Env} [h : IsG E]
section
variable {n : Nat} {ops : Array Oper} {N i : Nat} {K : ALog → AFr → AHeap → Prop} {rest : List Oper} {log : ALog} {d : Option Tmp} {ty : TypeId} {pos : String} {aft : Array Edge} {fr : AFr} {H : AHeap}
@[simp] theorem h_min {x y : Operand} {t u : TypeId} : AHead E n ops N K (⟨d, .call ⟨.builtin .min, #[x, y], #[t, u]⟩, ty, pos, aft, none⟩ :: rest) i log fr H = H1 (amm true (aeval E fr x) (aeval E fr y)) (rdOf (.call ⟨.builtin .min, #[x, y], #[t, u]⟩) E fr) E n ops N K rest i log d fr H := by
  rw [h_0' rfl]; simp only [aval2, aval, acall0, List.map, amms]
  cases amm true (aeval E fr x) (aeval E fr y) <;> rfl
end
/-- Position i stands in both weeks, with unlike places. -/
def movedAt (old w : List PlaceD) (i : Int) : Bool := decide (0 ≤ i) && (decide (i < min old.length w.length) && !decide (old[i.toNat]? = w[i.toNat]?))
theorem closed_50 (old w : List PlaceD) (i : Int) (ho : old.length ≤ 4096) (hw : w.length ≤ 4096) : PF E 50 [I i, .rptr [placeE.sl old] 0, .rptr [placeE.sl w] 0] (.bool (movedAt old w i)) := by
  refine pf_of_body mixed fn_50 (by simp) ?_
  unfold Tryz.f50 ABody
  simp
  refine wp_open [(26, true), (27, false)] (by rfl) ?_
  by_cases h1 : 0 ≤ i
  · obtain ⟨k, rfl⟩ := Int.eq_ofNat_of_zero_le h1
    by_cases hk : k < old.length ∧ k < w.length
    · obtain ⟨ha, hb⟩ := hk
      have hm : (k : Int) < min old.length w.length := by omega
      have hm' : k < min old.length w.length := by omega
      have hz : (k : Int) < if old.length ≤ w.length then (old.length : Int) else w.length := by split <;> omega
      simp [Enc.sl, ha, hb, hz]
      rw [show apart true 2 (k * 2) (placeE.cells old) = some (.agg (placeE.enc old[k])) from placeE.part ha]
      try simp [ha, hb]
      try rw [show apart true 2 (k * 2) (placeE.cells w) = some (.agg (placeE.enc w[k])) from placeE.part hb]
      try simp [placeE, ne_place]
      refine ⟨logOk_none rfl, ?_⟩
      have heq : (!decide (old[k].slot = w[k].slot) || !decide (old[k].room = w[k].room)) = movedAt old w k := by
        simp only [movedAt, hm, h1, decide_true, Bool.true_and, Int.toNat_natCast, List.getElem?_eq_getElem ha, List.getElem?_eq_getElem hb, Option.some.injEq]
        cases hw : w[k]; cases ho : old[k]
        rename_i a b c d
        by_cases e1 : c = a <;> by_cases e2 : d = b <;> simp [e1, e2]
      refine ⟨0, ?_⟩
      rw [heq]
      exact Pur.self rfl
    · have hm : ¬ (k : Int) < min old.length w.length := by omega
      have hm' : ¬ k < min old.length w.length := by omega
      have hz : ¬ ((k : Int) < if old.length ≤ w.length then (old.length : Int) else w.length) := by split <;> omega
      simp [Enc.sl, hz]
      refine ⟨logOk_none rfl, ?_⟩
      simp [movedAt, hm]
      exact ⟨0, Pur.self rfl⟩
  · simp [h1]
    refine ⟨logOk_none rfl, ?_⟩
    simp [movedAt, h1]
    exact ⟨0, Pur.self rfl⟩
end Go.Zk
namespace Go.Zk
open Go.Proofs
variable {E : Env} [h : IsG E]
noncomputable def boundE (E : Env) [IsG E] (c : CaseD) (old w : List PlaceD) : Bool := if wasE E c old = true then !(c.closed.any (movedAt old w)) else true
theorem bound_20 (c : CaseD) (old w : List PlaceD) (hc : c.Fit) (ho : Big old.length) (hw : w.length ≤ 4096) : PF E 20 [c.av, weekAV old, weekAV w] (.bool (boundE E c old w)) := by
  have c49 := was_49 (E := E) c old hc ho
  refine pf_of_body mixed fn_20 (by simp) ?_
  unfold Tryz.f20 ABody
  rw [CaseD.av, case_cells, weekAV] at c49
  rw [CaseD.av, case_cells, weekAV, weekAV]
  simp
  refine rc_pure c49 rfl ?_
  cases h1 : wasE E c old
  · simp [boundE, h1]
    exact ⟨0, Pur.self rfl⟩
  · have hol := was_len h1
    have c32 := contains_32 (E := E) (k := 50) (g := movedAt old w) (a := []) (b := [.rptr [placeE.sl old] 0, .rptr [placeE.sl w] 0]) (by rfl) c.closed hc.closed (fun x _ => by simpa using closed_50 old w x (by omega) hw)
    simp
    refine rc_pf c32 (Borrow.by rfl 3 (.cons (Pur.self rfl) (.cons (Pur.fn .nil (.cons (Pur.box (by simp) rfl) (.cons (Pur.box (by simp) rfl) .nil))) .nil))) ?_
    simp [boundE, h1]
    exact ⟨0, Pur.self rfl⟩
end Go.Zk
namespace Go.Zk
open Go.Proofs
variable {E : Env} [h : IsG E]
noncomputable def weeks0 (E : Env) [IsG E] (c : CaseD) : List (List PlaceD) :=
  if schoolE E c.school ≠ 0 then [] else if leftAt 4096 (c.school.slots.length * c.school.rooms.length) c.school.lessons.length = 0 then [] else weeksOf c.school
noncomputable def mayB' (E : Env) [IsG E] (c : CaseD) (old w : List PlaceD) : Bool := (auditE E c w).1 && boundE E c old w
noncomputable def mayL (E : Env) [IsG E] (c : CaseD) (old : List PlaceD) : List (List PlaceD) := (weeks0 E c).filter (mayB' E c old)
theorem weeksOf_len {s : SchoolD} (hS : 0 < s.slots.length) (hR : 0 < s.rooms.length) {w : List PlaceD} (hw : w ∈ weeksOf s) : w.length = s.lessons.length := by
  unfold weeksOf weeksL at hw
  have := (allFrom_ok (zero_ok hS hR) w hw).2
  simpa [zeroW] using this
theorem weeks0_len {c : CaseD} {w : List PlaceD} (hw : w ∈ weeks0 E c) : w.length ≤ 64 := by
  unfold weeks0 at hw
  split at hw
  · cases hw
  · rename_i h0
    split at hw
    · cases hw
    · obtain ⟨⟨hS, hR⟩, bS, bR, _, _, bn⟩ := schoolE_ok (E := E) (s := c.school) (by simpa using h0)
      rw [weeksOf_len hS hR hw]; exact bn
theorem weeksOf_few {s : SchoolD} {most : Nat} (hm : most ≤ 4096) (hz : ¬ leftAt most (s.slots.length * s.rooms.length) s.lessons.length = 0) : (weeksOf s).length ≤ most := by
  refine Nat.le_trans weeksL_len ?_
  unfold leftAt at hz
  by_cases hh : (s.slots.length * s.rooms.length) ^ s.lessons.length ≤ most
  · exact hh
  · exact absurd (Nat.div_eq_of_lt (by omega)) hz
theorem weeks0_few {c : CaseD} : (weeks0 E c).length ≤ 4096 := by
  unfold weeks0
  split
  · simp
  · split
    · simp
    · rename_i hz; exact weeksOf_few (Nat.le_refl _) hz
theorem all_weeks0 (c : CaseD) (hc : c.Fit) : ∃ l e, PF E 13 [c.school.av, I 4096] (.tuple [l, I e]) ∧ ((l = .nilsl ∧ weeks0 E c = []) ∨ l = weekE.sl (weeks0 E c)) := by
  have := all_weeks (E := E) c.school 4096 hc.school (Nat.le_refl _)
  unfold allAV at this
  unfold weeks0
  by_cases h0 : schoolE E c.school ≠ 0
  · rw [if_pos h0] at this ⊢
    exact ⟨_, _, this, .inl ⟨rfl, rfl⟩⟩
  · rw [if_neg h0] at this ⊢
    by_cases hz : leftAt 4096 (c.school.slots.length * c.school.rooms.length) c.school.lessons.length = 0
    · rw [if_pos hz] at this ⊢
      exact ⟨_, _, this, .inl ⟨rfl, rfl⟩⟩
    · rw [if_neg hz] at this ⊢
      exact ⟨_, _, this, .inr rfl⟩
def kept (p : List PlaceD → Bool) (W : List (List PlaceD)) (i : Nat) : Nat := ((W.take i).filter p).length
theorem kept_yes {p : List PlaceD → Bool} {W : List (List PlaceD)} {i : Nat} (hi : i < W.length) (hp : p W[i] = true) : kept p W (i + 1) = kept p W i + 1 ∧ (W.filter p)[kept p W i]? = some W[i] ∧ kept p W i < (W.filter p).length := by
  have h1 : W.take (i + 1) = W.take i ++ [W[i]] := List.take_succ_eq_append_getElem hi
  have h2 : W.filter p = (W.take i).filter p ++ W[i] :: (W.drop (i + 1)).filter p := by
    conv => lhs; rw [← List.take_append_drop i W, List.drop_eq_getElem_cons hi]
    rw [List.filter_append, List.filter_cons, if_pos hp]
  refine ⟨by unfold kept; rw [h1, List.filter_append]; simp [hp], ?_, ?_⟩
  · rw [h2]; unfold kept; simp
  · rw [h2]; unfold kept; simp
theorem kept_no {p : List PlaceD → Bool} {W : List (List PlaceD)} {i : Nat} (hi : i < W.length) (hp : p W[i] = false) : kept p W (i + 1) = kept p W i := by
  have h1 : W.take (i + 1) = W.take i ++ [W[i]] := List.take_succ_eq_append_getElem hi
  unfold kept; rw [h1, List.filter_append]; simp [hp]
theorem may_22 (c : CaseD) (old : List PlaceD) : PF E 22 [c.av, weekAV old] (.func 52 [] [.rptr c.cells 0, .rptr [placeE.sl old] 0]) := by
  refine pf_of_body mixed fn_22 (by simp) ?_
  unfold Tryz.f22 ABody
  rw [CaseD.av, case_cells, weekAV]
  simp
  exact ⟨2, Pur.fn .nil (.cons (Pur.box (by simp) rfl) (.cons (Pur.box (by simp) rfl) .nil))⟩
/-- What may yields. -/
noncomputable def mayA (E : Env) [IsG E] (c : CaseD) (old : List PlaceD) : List (List AV) := (mayL E c old).map fun w => [weekAV w, I (auditE E c w).2]
theorem may_52 (c : CaseD) (old : List PlaceD) (hc : c.Fit) (ho : Big old.length) :
    IterG E (fun y H Post => AF E 52 [y, .rptr c.cells 0, .rptr [placeE.sl old] 0] H Post) (mayL E c old).length (Elems (mayA E c old)) noP := by
  intro y H0 J D hy hJ hD h0 step
  obtain ⟨l, e, c13, hl⟩ := all_weeks0 (E := E) c hc
  refine af_of_body mixed fn_52 (by simp) ?_
  unfold Tryz.f52 ABody
  rw [SchoolD.av, SchoolD.cells] at c13
  rw [case_cells]
  simp
  refine rc_pure c13 rfl ?_
  have hfew := weeks0_few (E := E) (c := c)
  have hlens : ∀ w ∈ weeks0 E c, w.length ≤ 64 := fun w hw => weeks0_len hw
  rw [mayL] at step ⊢
  rw [mayA, mayL] at step
  generalize hW : weeks0 E c = W at *
  generalize hcc : ([slotE.sl c.school.slots, roomE.sl c.school.rooms, personE.sl c.school.people, groupE.sl c.school.groups, lessonE.sl c.school.lessons, ruleE.sl c.rules, isl c.closed] : List AV) = cc at *
  have key : ∀ (l : AV) (fr : AFr), (l = .nilsl ∧ W = [] ∨ l = weekE.sl W) → lenX (some (.slice 35)) H0 l = some (I W.length) := by
    rintro l fr (⟨rfl, rfl⟩ | rfl)
    · rfl
    · rfl
  simp
  rw [key l (fun _ => .any) hl]
  simp
  refine wp_loop (fun fr H m => ∃ (i : Nat), fr 0 = y ∧ fr 1 = .rptr cc 0 ∧ fr 2 = .rptr [placeE.sl old] 0 ∧ fr 16 = l ∧ fr 17 = I W.length ∧ fr 18 = I i ∧ i + m = W.length ∧ H0.next ≤ H.next ∧ J (kept (mayB' E c old) W i) H) W.length ?_ ?_
  · exact ⟨0, by simp; exact h0⟩
  rintro m fr H ⟨i, e0, e1, e2, e16, e17, e18, hm, hnx, hj⟩
  by_cases hi : i < W.length
  · have hls : l = weekE.sl W := by
      rcases hl with ⟨_, hw⟩ | hl
      · subst hw; simp at hi
      · exact hl
    have hwm : W[i] ∈ W := List.getElem_mem hi
    have hwl := hlens _ hwm
    have c7 := audit_7 (E := E) c W[i] hc (by unfold Big; omega)
    have c20 := bound_20 (E := E) c old W[i] hc ho (by omega)
    rw [CaseD.av, case_cells, weekAV, hcc] at c7 c20
    rw [weekAV] at c20
    have hcl : cc.length = 7 := by rw [← hcc]; rfl
    have hct : List.take 7 cc = cc := List.take_of_length_le (by omega)
    have hcp : AV.purs cc = true := by rw [← hcc]; rfl
    have hpart : apart true 1 i (weekE.cells W) = some (.agg [placeE.sl W[i]]) := by
      have := weekE.part hi
      rw [show weekE.z = 1 from rfl, Nat.mul_one] at this
      exact this
    have hwi : IntKind.i64.wrap ((i : Int) + 1) = i + 1 := wrap_of (by omega) (by omega)
    have hkeep : ∀ k (b : ABlk) (c : ABlk), J k H → J k ((H.alloc b).set H.next c) := fun k b c hk => hJ k _ _ hnx hk (by simp) fun j hj _ => by
      have : ¬ j = H.next := by omega
      simp [this]
    simp [e0, e1, e2, e16, e17, e18, hi, hls, Enc.sl, hpart, hcl, hct]
    refine rc_pure c7 (by simp [AV.purs, AV.pur, hcp]) ?_
    rw [auditAV]
    cases ha : (auditE E c W[i]).1
    · have hno : mayB' E c old W[i] = false := by simp [mayB', ha]
      simp [e0, e1, e2, e16, e17, e18]
      refine ⟨m - 1, by omega, rfl, hls, i + 1, hwi, by omega, by omega, ?_⟩
      rw [kept_no hi hno]
      exact hkeep _ _ _ hj
    · simp [e0, e1, e2, e16, e17, e18, hcl, hct, Enc.sl]
      refine rc_pure c20 (by simp [AV.purs, AV.pur, hcp]) ?_
      cases hb : boundE E c old W[i]
      · have hno : mayB' E c old W[i] = false := by simp [mayB', ha, hb]
        simp [e0, e1, e2, e16, e17, e18]
        refine ⟨m - 1, by omega, rfl, hls, i + 1, hwi, by omega, by omega, ?_⟩
        rw [kept_no hi hno]
        exact hkeep _ _ _ hj
      · have hyes : mayB' E c old W[i] = true := by simp [mayB', ha, hb]
        obtain ⟨k1, k2, k3⟩ := kept_yes hi hyes
        simp [e0, e1, e2, e16, e17, e18]
        refine rc_yield (step (kept (mayB' E c old) W i) k3 _ _ (by simp; omega) (hkeep _ _ _ hj) ?_) ?_ ?_
        · rw [Elems, List.getElem?_map, k2]; rfl
        · intro H1 p q r
          simp [e0, e1, e2, e16, e17, e18]
          refine ⟨m - 1, by omega, rfl, hls, i + 1, hwi, by omega, ?_, ?_⟩
          · simp at p; omega
          · rw [k1]; exact r
        · intro H1 p q r
          simp [e0, e1, e2, e16, e17, e18]
          simp at p
          exact ⟨by omega, .inr r⟩
  · have hil : i = W.length := by omega
    subst hil
    simp [e0, e1, e2, e16, e17, e18]
    have : (List.filter (mayB' E c old) W).length = kept (mayB' E c old) W W.length := by unfold kept; simp
    rw [this]
    exact ⟨hnx, .inl hj⟩
theorem may_iter (c : CaseD) (old : List PlaceD) (hc : c.Fit) (ho : Big old.length) :
    IterG E (fun y H Post => AInv E (.func 52 [] [.rptr c.cells 0, .rptr [placeE.sl old] 0]) [y] H Post) (mayL E c old).length (Elems (mayA E c old)) noP := by
  intro y H0 J D hy hJ hD h0 step
  exact ainv_func (may_52 c old hc ho y H0 J D hy hJ hD h0 step)
end Go.Zk
namespace Go.Zk
open Go.Proofs
variable {E : Env} [h : IsG E]
noncomputable def noneE (E : Env) [IsG E] (c : CaseD) (old : List PlaceD) : Bool := decide ((mayL E c old).length = 0)
theorem none_11 (c : CaseD) (old : List PlaceD) (hc : c.Fit) (ho : Big old.length) : PF E 11 [c.av, weekAV old] (.bool (noneE E c old)) := by
  have c22 := may_22 (E := E) c old
  refine pf_of_body mixed fn_11 (by simp) ?_
  unfold Tryz.f11 ABody
  rw [CaseD.av, weekAV] at c22
  have hit := may_iter (E := E) c old hc ho
  rw [CaseD.av, weekAV]
  have hcl : c.cells.length = 7 := rfl
  have hct : List.take 7 c.cells = c.cells := List.take_of_length_le (by omega)
  generalize hcc : c.cells = cc at *
  have hcp : AV.purs cc = true := by rw [← hcc]; rfl
  simp [hcl, hct]
  refine rc_pure c22 (by simp [AV.purs, AV.pur, hcp]) ?_
  simp
  obtain ⟨H, hH⟩ : ∃ H, H = ((AHeap.nil.alloc (ABlk.row cc)).alloc (ABlk.row [placeE.sl old])).alloc (ABlk.row [AV.bool false]) := ⟨_, rfl⟩
  rw [← hH]
  have hN : H.next = 3 := by rw [hH]; simp
  have g2 : H.get 2 = .row [.bool false] := by rw [hH]; simp
  clear hH
  refine wp_iter (P := noP) mixed (by simpa using hit) (fun N j hj => hj.elim)
    (fun k H' => k = 0 ∧ H'.get 2 = .row [.bool false]) (fun e H' => e = .ret ∧ H'.get 2 = .row [.bool false] ∧ (mayL E c old).length ≠ 0) ?_ ?_ ?_ ?_ ?_ ?_ ?_
  · rintro i a b hn ⟨h1, h2⟩ h3 h4
    exact ⟨h1, by rw [h4 2 (by omega) (by simp [noP]; omega)]; exact h2⟩
  · rintro i a b hn ⟨h0, h1, h2⟩ h3 h4
    exact ⟨h0, by rw [h4 2 (by omega) (by simp [noP]; omega)]; exact h1, h2⟩
  · exact ⟨rfl, g2⟩
  · rintro H' hn ⟨h1, h2⟩
    simp [h2]
    have : noneE E c old = true := by simp [noneE, h1]
    rw [this]
    exact ⟨0, Pur.self rfl⟩
  · rintro H' hn ⟨-, h2, h1⟩
    simp [h2]
    have : noneE E c old = false := by simp [noneE, h1]
    rw [this]
    exact ⟨0, Pur.self rfl⟩
  · rintro i H' hn ⟨h0, _⟩; cases h0
  · rintro k hk H1 args hn ⟨rfl, h2⟩ ha hg
    have hal : args.length = 2 := by
      rw [Elems, mayA, List.getElem?_map] at ha
      cases hx : (mayL E c old)[0]? with
      | none => rw [hx] at ha; cases ha
      | some w => rw [hx] at ha; cases ha; rfl
    match args, hal with
    | [x, y], _ =>
    simp [putAll, hg]
    have q2 : ¬ 2 = H.next := by omega
    have q3 : ¬ H.next = 2 := by omega
    simp [h2, q2, q3, hg, noP]
    intro e
    rw [e] at hk
    cases hk
end Go.Zk
namespace Go.Zk
open Go.Proofs
variable {E : Env} [h : IsG E]
theorem wp_gen {n : Nat} {code : Code} {Q : AExit → AFr → AHeap → Prop} {fr : AFr} {H : AHeap} (k : ∀ fr' H', fr' = fr → H' = H → AWp E n code Q fr' H') : AWp E n code Q fr H := k fr H rfl rfl
/-- x is better than a week of this cost with so many moves. -/
noncomputable def betterB (E : Env) [IsG E] (c : CaseD) (old : List PlaceD) (cost : Int) (n : Nat) (x : List PlaceD) : Bool :=
  decide ((auditE E c x).2 < cost) || (decide ((auditE E c x).2 = cost) && decide (movesE E c old x < n))
noncomputable def bestE (E : Env) [IsG E] (c : CaseD) (old w : List PlaceD) : Bool :=
  (auditE E c w).1 && (boundE E c old w && !((mayL E c old).any (betterB E c old (auditE E c w).2 (movesE E c old w))))
theorem mayL_len {c : CaseD} {old w : List PlaceD} (hw : w ∈ mayL E c old) : w.length ≤ 64 := by
  unfold mayL at hw
  rw [List.mem_filter] at hw
  exact weeks0_len hw.1
theorem best_9 (c : CaseD) (old w : List PlaceD) (hc : c.Fit) (ho : Big old.length) (hw : w.length ≤ 4096) : PF E 9 [c.av, weekAV old, weekAV w] (.bool (bestE E c old w)) := by
  have c7 := audit_7 (E := E) c w hc (by unfold Big; omega)
  have c20 := bound_20 (E := E) c old w hc ho hw
  have c21 := moves_21 (E := E) c old w hc ho hw
  have c22 := may_22 (E := E) c old
  have m21 := fun x (hx : x ∈ mayL E c old) => moves_21 (E := E) c old x hc ho (by have := mayL_len hx; omega)
  refine pf_of_body mixed fn_9 (by simp) ?_
  unfold Tryz.f9 ABody
  simp only [CaseD.av, weekAV] at c7 c20 c21 c22 m21
  have hit := may_iter (E := E) c old hc ho
  rw [CaseD.av, weekAV, weekAV]
  have hcl : c.cells.length = 7 := rfl
  have hct : List.take 7 c.cells = c.cells := List.take_of_length_le (by omega)
  generalize hcc : c.cells = cc at *
  have hcp : AV.purs cc = true := by rw [← hcc]; rfl
  simp [hcl, hct]
  refine rc_pure c7 (by simp [AV.purs, AV.pur, hcp]) ?_
  rw [auditAV]
  simp
  cases ha : (auditE E c w).1
  · simp [ha]
    have : bestE E c old w = false := by simp [bestE, ha]
    rw [this]
    exact ⟨0, Pur.self rfl⟩
  · simp [ha, hcl, hct]
    refine rc_pure c20 (by simp [AV.purs, AV.pur, hcp]) ?_
    cases hb : boundE E c old w
    · simp
      have : bestE E c old w = false := by simp [bestE, hb]
      rw [this]
      exact ⟨0, Pur.self rfl⟩
    · simp [hcl, hct]
      refine rc_pure c21 (by simp [AV.purs, AV.pur, hcp]) ?_
      simp [hcl, hct]
      refine rc_pure c22 (by simp [AV.purs, AV.pur, hcp]) ?_
      simp
      generalize hco : (auditE E c w).2 = cost at *
      generalize hmv : movesE E c old w = nm at *
      refine wp_gen fun fr H hfr hH => ?_
      have e3 : fr 3 = .ptr 0 0 := by rw [hfr]; simp
      have e4 : fr 4 = .ptr 1 0 := by rw [hfr]; simp
      have e6 : fr 6 = .ptr 3 0 := by rw [hfr]; simp
      have e8 : fr 8 = .ptr 4 0 := by rw [hfr]; simp
      have e9 : fr 9 = .ptr 5 0 := by rw [hfr]; simp
      have e33 : fr 33 = .func 52 [] [.rptr cc 0, .rptr [placeE.sl old] 0] := by rw [hfr]; simp
      have hN : H.next = 6 := by rw [hH]; simp
      have g0 : H.get 0 = .row cc := by rw [hH]; simp
      have g1 : H.get 1 = .row [placeE.sl old] := by rw [hH]; simp
      have g3 : H.get 3 = .row [.bool false] := by rw [hH]; simp
      have g4 : H.get 4 = .row [I cost] := by rw [hH]; simp
      have g5 : H.get 5 = .row [I nm] := by rw [hH]; simp
      clear hH hfr
      have hbest : bestE E c old w = !((mayL E c old).any (betterB E c old cost nm)) := by simp [bestE, ha, hb, hco, hmv]
      refine wp_iter (P := noP) mixed (by simpa [e33] using hit) (fun N j hj => hj.elim)
        (fun k H' => H'.get 0 = .row cc ∧ H'.get 1 = .row [placeE.sl old] ∧ H'.get 3 = .row [.bool false] ∧ H'.get 4 = .row [I cost] ∧ H'.get 5 = .row [I nm] ∧ ((mayL E c old).take k).any (betterB E c old cost nm) = false)
        (fun e H' => e = .ret ∧ H'.get 3 = .row [.bool false] ∧ (mayL E c old).any (betterB E c old cost nm) = true) ?_ ?_ ?_ ?_ ?_ ?_ ?_
      · rintro i a b hn ⟨x0, x1, x3, x4, x5, x6⟩ h3 h4
        have h4' : ∀ j, j < 6 → b.get j = a.get j := fun j hj => h4 j (by omega) (by simp [noP]; omega)
        exact ⟨by rw [h4' 0 (by omega)]; exact x0, by rw [h4' 1 (by omega)]; exact x1, by rw [h4' 3 (by omega)]; exact x3, by rw [h4' 4 (by omega)]; exact x4, by rw [h4' 5 (by omega)]; exact x5, x6⟩
      · rintro i a b hn ⟨h0, h1, h2⟩ h3 h4
        exact ⟨h0, by rw [h4 3 (by omega) (by simp [noP]; omega)]; exact h1, h2⟩
      · exact ⟨g0, g1, g3, g4, g5, by simp⟩
      · rintro H' hn ⟨x0, x1, x3, x4, x5, x6⟩
        simp [e6, x3]
        rw [List.take_length] at x6
        rw [hbest, x6]
        exact ⟨0, Pur.self rfl⟩
      · rintro H' hn ⟨-, h2, h1⟩
        simp [e6, h2]
        rw [hbest, h1]
        exact ⟨0, Pur.self rfl⟩
      · rintro i H' hn ⟨h0, _⟩; cases h0
      · rintro k hk H1 args hn ⟨x0, x1, x3, x4, x5, x6⟩ ha hg
        rw [Elems, mayA, List.getElem?_map, List.getElem?_eq_getElem hk] at ha
        cases ha
        have hxm := List.getElem_mem hk
        have hm := m21 _ hxm
        have d0 : ¬ 0 = H1.next := by omega
        have d1 : ¬ 1 = H1.next := by omega
        have d3 : ¬ 3 = H1.next := by omega
        have d4 : ¬ 4 = H1.next := by omega
        have d5 : ¬ 5 = H1.next := by omega
        have dL : ¬ H.next = H1.next := by omega
        have f0 : ¬ 0 = H.next := by omega
        have f1 : ¬ 1 = H.next := by omega
        have f3 : ¬ 3 = H.next := by omega
        have f4 : ¬ 4 = H.next := by omega
        have f5 : ¬ 5 = H.next := by omega
        have fL : ¬ H1.next = H.next := by omega
        have hsuc : ((mayL E c old).take (k + 1)).any (betterB E c old cost nm) = betterB E c old cost nm (mayL E c old)[k] := by
          rw [List.take_succ_eq_append_getElem hk, List.any_append, x6]; simp
        have hany : betterB E c old cost nm (mayL E c old)[k] = true → (mayL E c old).any (betterB E c old cost nm) = true := fun hb => List.any_eq_true.2 ⟨_, hxm, hb⟩
        generalize hx : (mayL E c old)[k] = x at *
        simp [putAll, hg, weekAV, dL, fL]
        rw [betterB] at hsuc hany
        generalize hoc : (auditE E c x).2 = oc at *
        refine wp_open [(16, true)] (by rfl) ?_
        have hJk : ∀ (x : ABlk), ((H1.alloc x).get 0 = H1.get 0) := fun x => by simp [d0]
        have f6 : ¬ H.next = 3 := by omega
        by_cases c1 : oc < cost
        · have c2 : ¬ cost ≤ oc := by omega
          simp [e3, e4, e6, e8, e9, d0, d1, d3, d4, d5, f0, f1, f3, f4, f5, f6, dL, fL, x0, x1, x3, x4, x5, c1, c2]
          refine ⟨logOk_none rfl, ?_⟩
          simp [f6, noP]
          exact ⟨by omega, x, hxm, by rw [betterB, hoc]; simp [c1]⟩
        · have c2 : cost ≤ oc := by omega
          by_cases c3 : oc = cost
          · simp [e3, e4, e6, e8, e9, d0, d1, d3, d4, d5, f0, f1, f3, f4, f5, f6, dL, fL, x0, x1, x3, x4, x5, c1, c2, c3, hcl, hct]
            refine hc_pure hm (by simp [AV.purs, AV.pur, hcp]) ?_
            simp [e3, e4, e6, e8, e9, d0, d1, d3, d4, d5, f0, f1, f3, f4, f5, f6, dL, fL, x0, x1, x3, x4, x5, c1, c2, c3]
            refine ⟨logOk_none rfl, ?_⟩
            by_cases c4 : movesE E c old x < nm
            · simp [e3, e4, e6, e8, e9, d0, d1, d3, d4, d5, f0, f1, f3, f4, f5, f6, dL, fL, x0, x1, x3, x4, x5, c1, c2, c3, c4, noP]
              exact ⟨by omega, x, hxm, by rw [betterB, hoc]; simp [c1, c3, c4]⟩
            · simp [e3, e4, e6, e8, e9, d0, d1, d3, d4, d5, f0, f1, f3, f4, f5, f6, dL, fL, x0, x1, x3, x4, x5, c1, c2, c3, c4, noP]
              simp [c1, c3, c4] at hsuc
              exact ⟨by omega, hsuc⟩
          · simp [e3, e4, e6, e8, e9, d0, d1, d3, d4, d5, f0, f1, f3, f4, f5, f6, dL, fL, x0, x1, x3, x4, x5, c1, c2, c3]
            refine ⟨logOk_none rfl, ?_⟩
            simp [noP]
            simp [c1, c3] at hsuc
            exact ⟨by omega, hsuc⟩
end Go.Zk
namespace Go.Zk
open Go.Proofs
variable {E : Env} [h : IsG E]
def strE : Enc Str := ⟨1, fun s => [.str s], fun _ => rfl⟩
/-- Lists of at most a million elements. -/
structure SchoolD.Mid (s : SchoolD) : Prop where
  slots : s.slots.length ≤ 1048576
  rooms : s.rooms.length ≤ 1048576
  people : s.people.length ≤ 1048576
  groups : s.groups.length ≤ 1048576
  lessons : s.lessons.length ≤ 1048576
theorem SchoolD.Mid.small {s : SchoolD} (h : s.Mid) : s.Small := ⟨by have := h.slots; unfold Big; omega, by have := h.rooms; unfold Big; omega, by have := h.people; unfold Big; omega, by have := h.groups; unfold Big; omega, by have := h.lessons; unfold Big; omega⟩
theorem elems_mid {s : SchoolD} (h : s.Mid) (sort : Int) : (elems s sort).length ≤ 1048576 := by
  have := h.slots; have := h.rooms; have := h.people; have := h.groups; have := h.lessons
  unfold elems
  repeat' split
  all_goals simp <;> omega
theorem dg6 : (List.range 7).map (fun i => dayW ++ Lib.decDigits i) = [[100, 97, 121, 48], [100, 97, 121, 49], [100, 97, 121, 50], [100, 97, 121, 51], [100, 97, 121, 52], [100, 97, 121, 53], [100, 97, 121, 54]] := by decide +kernel
theorem dg7 : (List.range 8).map (fun i => houseW ++ Lib.decDigits i) = [[104, 111, 117, 115, 101, 48], [104, 111, 117, 115, 101, 49], [104, 111, 117, 115, 101, 50], [104, 111, 117, 115, 101, 51], [104, 111, 117, 115, 101, 52], [104, 111, 117, 115, 101, 53], [104, 111, 117, 115, 101, 54], [104, 111, 117, 115, 101, 55]] := by decide +kernel
theorem names_82 (s : SchoolD) (sort : Int) (hs : s.Mid) : PF E 82 [s.av, I sort] (strE.sl (elems s sort)) := by
  have hfew := elems_mid hs sort
  refine pf_of_body mixed fn_82 (by simp) ?_
  unfold Tryz.f82 ABody
  simp [SchoolD.av, -append_eq]
  have fin : ∀ (H : AHeap) (base : Nat) (v : AV) (l : List Str), Acc H base v strE l → elems s sort = l → ∃ x, Pur H x v (strE.sl (elems s sort)) := fun H base v l ha e => ⟨1, by rw [e]; exact ha.pur' fun x _ => rfl⟩
  by_cases s1 : sort = 1
  · have he : elems s sort = s.lessons.map (·.name) := by simp [elems, s1]
    rw [he] at hfew
    simp at hfew
    simp [s1, -append_eq]
    refine wp_loop (fun fr H m => ∃ i : Nat, fr 2 = .ptr 0 0 ∧ fr 6 = I i ∧ i + m = s.lessons.length ∧ 1 ≤ H.next ∧ H.get 0 = .row s.cells ∧ Acc H 1 (fr 5) strE ((s.lessons.map (·.name)).take i)) s.lessons.length ?_ ?_
    · exact ⟨0, by simp; exact Acc.nil⟩
    rintro m fr H ⟨i, e2, et, hm, hn, g0, hacc⟩
    by_cases hi : i < s.lessons.length
    · have q0 : ¬ 0 = H.next := by omega
      simp [-append_eq, e2, et, hi, g0, SchoolD.cells, Enc.sl]
      rw [show (lessonE.cells s.lessons)[i * 3]? = some (.str s.lessons[i].name) from by have := lessonE.cell hi (k := 0) (by decide); simpa [lessonE] using this]
      simp [-append_eq, e2, et, afill, splice]
      refine r2_push strE s.lessons[i].name (hacc.keep (by simp <;> omega) fun j h1 h2 => ?_) (by simp <;> omega) (by simp [strE]) tel_52 tby_9 tzero_9 srcType_52 rfl (by simp; omega) (by simp; omega) fun v' H' q1 q2 q3 => ?_
      · have r1 : ¬ j = H.next := by omega
        simp [r1]
      have k0 := q3 0 (by omega)
      simp [q0, g0] at k0 q2
      simp [e2, et]
      refine ⟨m - 1, by omega, i + 1, wrap_of (by omega) (by omega), by omega, by omega, by simpa [SchoolD.cells, Enc.sl] using k0, ?_⟩
      have hi' : i < (s.lessons.map (·.name)).length := by simpa using hi
      rw [← List.map_take, List.take_succ_eq_append_getElem hi, List.map_append, List.map_take]
      exact q1
    · simp [e2, et, hi, g0, SchoolD.cells, Enc.sl]
      rw [List.take_of_length_le (by simp; omega)] at hacc
      exact ⟨1, by have := (hacc.pur' (k := 0) fun x _ => rfl); rw [← he] at this; subst s1; exact this⟩
  by_cases s2 : sort = 2
  · have he : elems s sort = s.slots.map (·.name) := by simp [elems, s1, s2]
    rw [he] at hfew
    simp at hfew
    simp [s2, -append_eq]
    refine wp_loop (fun fr H m => ∃ i : Nat, fr 2 = .ptr 0 0 ∧ fr 7 = I i ∧ i + m = s.slots.length ∧ 1 ≤ H.next ∧ H.get 0 = .row s.cells ∧ Acc H 1 (fr 5) strE ((s.slots.map (·.name)).take i)) s.slots.length ?_ ?_
    · exact ⟨0, by simp; exact Acc.nil⟩
    rintro m fr H ⟨i, e2, et, hm, hn, g0, hacc⟩
    by_cases hi : i < s.slots.length
    · have q0 : ¬ 0 = H.next := by omega
      simp [-append_eq, e2, et, hi, g0, SchoolD.cells, Enc.sl]
      rw [show (slotE.cells s.slots)[i * 3]? = some (.str s.slots[i].name) from by have := slotE.cell hi (k := 0) (by decide); simpa [slotE] using this]
      simp [-append_eq, e2, et, afill, splice]
      refine r2_push strE s.slots[i].name (hacc.keep (by simp <;> omega) fun j h1 h2 => ?_) (by simp <;> omega) (by simp [strE]) tel_52 tby_9 tzero_9 srcType_52 rfl (by simp; omega) (by simp; omega) fun v' H' q1 q2 q3 => ?_
      · have r1 : ¬ j = H.next := by omega
        simp [r1]
      have k0 := q3 0 (by omega)
      simp [q0, g0] at k0 q2
      simp [e2, et]
      refine ⟨m - 1, by omega, i + 1, wrap_of (by omega) (by omega), by omega, by omega, by simpa [SchoolD.cells, Enc.sl] using k0, ?_⟩
      have hi' : i < (s.slots.map (·.name)).length := by simpa using hi
      rw [← List.map_take, List.take_succ_eq_append_getElem hi, List.map_append, List.map_take]
      exact q1
    · simp [e2, et, hi, g0, SchoolD.cells, Enc.sl]
      rw [List.take_of_length_le (by simp; omega)] at hacc
      exact ⟨1, by have := (hacc.pur' (k := 0) fun x _ => rfl); rw [← he] at this; subst s2; exact this⟩
  by_cases s3 : sort = 3
  · have he : elems s sort = s.rooms.map (·.name) := by simp [elems, s1, s2, s3]
    rw [he] at hfew
    simp at hfew
    simp [s3, -append_eq]
    refine wp_loop (fun fr H m => ∃ i : Nat, fr 2 = .ptr 0 0 ∧ fr 8 = I i ∧ i + m = s.rooms.length ∧ 1 ≤ H.next ∧ H.get 0 = .row s.cells ∧ Acc H 1 (fr 5) strE ((s.rooms.map (·.name)).take i)) s.rooms.length ?_ ?_
    · exact ⟨0, by simp; exact Acc.nil⟩
    rintro m fr H ⟨i, e2, et, hm, hn, g0, hacc⟩
    by_cases hi : i < s.rooms.length
    · have q0 : ¬ 0 = H.next := by omega
      simp [-append_eq, e2, et, hi, g0, SchoolD.cells, Enc.sl]
      rw [show (roomE.cells s.rooms)[i * 4]? = some (.str s.rooms[i].name) from by have := roomE.cell hi (k := 0) (by decide); simpa [roomE] using this]
      simp [-append_eq, e2, et, afill, splice]
      refine r2_push strE s.rooms[i].name (hacc.keep (by simp <;> omega) fun j h1 h2 => ?_) (by simp <;> omega) (by simp [strE]) tel_52 tby_9 tzero_9 srcType_52 rfl (by simp; omega) (by simp; omega) fun v' H' q1 q2 q3 => ?_
      · have r1 : ¬ j = H.next := by omega
        simp [r1]
      have k0 := q3 0 (by omega)
      simp [q0, g0] at k0 q2
      simp [e2, et]
      refine ⟨m - 1, by omega, i + 1, wrap_of (by omega) (by omega), by omega, by omega, by simpa [SchoolD.cells, Enc.sl] using k0, ?_⟩
      have hi' : i < (s.rooms.map (·.name)).length := by simpa using hi
      rw [← List.map_take, List.take_succ_eq_append_getElem hi, List.map_append, List.map_take]
      exact q1
    · simp [e2, et, hi, g0, SchoolD.cells, Enc.sl]
      rw [List.take_of_length_le (by simp; omega)] at hacc
      exact ⟨1, by have := (hacc.pur' (k := 0) fun x _ => rfl); rw [← he] at this; subst s3; exact this⟩
  by_cases s4 : sort = 4
  · have he : elems s sort = s.people.map (·.name) := by simp [elems, s1, s2, s3, s4]
    rw [he] at hfew
    simp at hfew
    simp [s4, -append_eq]
    refine wp_loop (fun fr H m => ∃ i : Nat, fr 2 = .ptr 0 0 ∧ fr 9 = I i ∧ i + m = s.people.length ∧ 1 ≤ H.next ∧ H.get 0 = .row s.cells ∧ Acc H 1 (fr 5) strE ((s.people.map (·.name)).take i)) s.people.length ?_ ?_
    · exact ⟨0, by simp; exact Acc.nil⟩
    rintro m fr H ⟨i, e2, et, hm, hn, g0, hacc⟩
    by_cases hi : i < s.people.length
    · have q0 : ¬ 0 = H.next := by omega
      simp [-append_eq, e2, et, hi, g0, SchoolD.cells, Enc.sl]
      rw [show (personE.cells s.people)[i * 2]? = some (.str s.people[i].name) from by have := personE.cell hi (k := 0) (by decide); simpa [personE] using this]
      simp [-append_eq, e2, et, afill, splice]
      refine r2_push strE s.people[i].name (hacc.keep (by simp <;> omega) fun j h1 h2 => ?_) (by simp <;> omega) (by simp [strE]) tel_52 tby_9 tzero_9 srcType_52 rfl (by simp; omega) (by simp; omega) fun v' H' q1 q2 q3 => ?_
      · have r1 : ¬ j = H.next := by omega
        simp [r1]
      have k0 := q3 0 (by omega)
      simp [q0, g0] at k0 q2
      simp [e2, et]
      refine ⟨m - 1, by omega, i + 1, wrap_of (by omega) (by omega), by omega, by omega, by simpa [SchoolD.cells, Enc.sl] using k0, ?_⟩
      have hi' : i < (s.people.map (·.name)).length := by simpa using hi
      rw [← List.map_take, List.take_succ_eq_append_getElem hi, List.map_append, List.map_take]
      exact q1
    · simp [e2, et, hi, g0, SchoolD.cells, Enc.sl]
      rw [List.take_of_length_le (by simp; omega)] at hacc
      exact ⟨1, by have := (hacc.pur' (k := 0) fun x _ => rfl); rw [← he] at this; subst s4; exact this⟩
  by_cases s5 : sort = 5
  · have he : elems s sort = s.groups.map (·.name) := by simp [elems, s1, s2, s3, s4, s5]
    rw [he] at hfew
    simp at hfew
    simp [s5, -append_eq]
    refine wp_loop (fun fr H m => ∃ i : Nat, fr 2 = .ptr 0 0 ∧ fr 10 = I i ∧ i + m = s.groups.length ∧ 1 ≤ H.next ∧ H.get 0 = .row s.cells ∧ Acc H 1 (fr 5) strE ((s.groups.map (·.name)).take i)) s.groups.length ?_ ?_
    · exact ⟨0, by simp; exact Acc.nil⟩
    rintro m fr H ⟨i, e2, et, hm, hn, g0, hacc⟩
    by_cases hi : i < s.groups.length
    · have q0 : ¬ 0 = H.next := by omega
      simp [-append_eq, e2, et, hi, g0, SchoolD.cells, Enc.sl]
      rw [show (groupE.cells s.groups)[i * 2]? = some (.str s.groups[i].name) from by have := groupE.cell hi (k := 0) (by decide); simpa [groupE] using this]
      simp [-append_eq, e2, et, afill, splice]
      refine r2_push strE s.groups[i].name (hacc.keep (by simp <;> omega) fun j h1 h2 => ?_) (by simp <;> omega) (by simp [strE]) tel_52 tby_9 tzero_9 srcType_52 rfl (by simp; omega) (by simp; omega) fun v' H' q1 q2 q3 => ?_
      · have r1 : ¬ j = H.next := by omega
        simp [r1]
      have k0 := q3 0 (by omega)
      simp [q0, g0] at k0 q2
      simp [e2, et]
      refine ⟨m - 1, by omega, i + 1, wrap_of (by omega) (by omega), by omega, by omega, by simpa [SchoolD.cells, Enc.sl] using k0, ?_⟩
      have hi' : i < (s.groups.map (·.name)).length := by simpa using hi
      rw [← List.map_take, List.take_succ_eq_append_getElem hi, List.map_append, List.map_take]
      exact q1
    · simp [e2, et, hi, g0, SchoolD.cells, Enc.sl]
      rw [List.take_of_length_le (by simp; omega)] at hacc
      exact ⟨1, by have := (hacc.pur' (k := 0) fun x _ => rfl); rw [← he] at this; subst s5; exact this⟩
  by_cases s6 : sort = 6
  · have he : elems s sort = [[100, 97, 121, 48], [100, 97, 121, 49], [100, 97, 121, 50], [100, 97, 121, 51], [100, 97, 121, 52], [100, 97, 121, 53], [100, 97, 121, 54]] := by subst s6; exact dg6
    rw [he]
    simp [s6, afill, splice]
    exact ⟨1, .inr ⟨_, _, false, by simp; rfl, P2.self (by rfl), (fun e => by cases e), rfl⟩⟩
  by_cases s7 : sort = 7
  · have he : elems s sort = [[104, 111, 117, 115, 101, 48], [104, 111, 117, 115, 101, 49], [104, 111, 117, 115, 101, 50], [104, 111, 117, 115, 101, 51], [104, 111, 117, 115, 101, 52], [104, 111, 117, 115, 101, 53], [104, 111, 117, 115, 101, 54], [104, 111, 117, 115, 101, 55]] := by subst s7; exact dg7
    rw [he]
    simp [s7, afill, splice]
    exact ⟨1, .inr ⟨_, _, false, by simp; rfl, P2.self (by rfl), (fun e => by cases e), rfl⟩⟩
  have he : elems s sort = [] := by simp [elems, s1, s2, s3, s4, s5, s6, s7]
  simp [s1, s2, s3, s4, s5, s6, s7, he]
  exact ⟨1, Pur.nil⟩
theorem refCount_81 (s : SchoolD) (sort : Int) (hs : s.Mid) : PF E 81 [s.av, I sort] (I (countE s sort)) := by
  have c82 := names_82 (E := E) s sort hs
  refine pf_of_body mixed fn_81 (by simp) ?_
  unfold Tryz.f81 ABody
  simp [SchoolD.av, SchoolD.cells]
  rw [SchoolD.av, SchoolD.cells] at c82
  refine rc_pure c82 rfl ?_
  simp [Enc.sl, countE]
  exact ⟨0, Pur.self rfl⟩
end Go.Zk
