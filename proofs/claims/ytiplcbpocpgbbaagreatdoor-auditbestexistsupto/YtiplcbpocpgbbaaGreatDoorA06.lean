/- Code over abstract values: soundness. Conditions: none. Code over abstract values: the predicate is sound. Conditions: none. -/
import Derived.Test.YtiplcbpocpgbbaaGreatDoorA05
set_option linter.unusedSimpArgs false
set_option linter.unusedVariables false
namespace Go.Zk

section
variable {E : Env} {B z : Nat} {C : Ctx} {H : AHeap} {w : World} {P : Program} {r : Option Nat} {n : Nat} {fr : AFr} {a : Act} {ops : Array Oper}

theorem HSim.reserve (h : HSim E B C H w) (m : Nat) : HSim E B C ⟨H.next + m, H.get⟩ w :=
  ⟨h.heap, h.base, h.lt, fun i hi => h.fresh i (by simp at hi; omega), fun i hi => h.dead i (by simp at hi; omega),
    fun i hi hd => h.blk i (by rcases Nat.lt_or_ge i H.next with h1 | h1; exact h1; exact absurd (h.dead i h1) hd) hd,
    fun i j b o p hi hj hdi hdj => h.inj i j b o p (by rcases Nat.lt_or_ge i H.next with h1 | h1; exact h1; exact absurd (h.dead i h1) hdi) (by rcases Nat.lt_or_ge j H.next with h1 | h1; exact h1; exact absurd (h.dead j h1) hdj) hdi hdj, h.glob, h.nd⟩

theorem aput_eq (dst : Option Tmp) (v : AV) (f : AFr) (t : Nat) : aput n f dst v t = if dst = some t ∧ t < n then v else f t := by
  unfold aput
  cases dst with
  | none => simp
  | some d =>
    simp only [Option.some.injEq]
    by_cases hn : d < n
    · rw [if_pos hn]
      by_cases hd : d = t
      · subst hd; rw [upd_same, if_pos ⟨rfl, hn⟩]
      · rw [if_neg (fun h => hd h.1), upd_ne _ _ (fun e => hd e.symm)]
    · rw [if_neg hn, if_neg (fun h => hn (by obtain ⟨h1, h2⟩ := h; rw [h1]; exact h2))]

theorem count_tail (m : Nat) : ∀ z, m ≤ z → ((List.range z).filter fun i => !decide (i < m)).length = z - m
  | 0, h => by simp
  | z + 1, h => by
    rw [List.range_succ, List.filter_append, List.length_append]
    by_cases hm : m = z + 1
    · subst hm
      have : (List.range z).filter (fun i => !decide (i < z + 1)) = [] := by
        rw [List.filter_eq_nil_iff]
        intro i hi
        have := List.mem_range.1 hi
        simp; omega
      rw [this]
      simp
    · rw [count_tail m z (by omega)]
      simp [show ¬ z < m by omega]
      omega

def sdst (ops : Array Oper) (s : Nat) : Nat → Option Tmp := fun i => if s ≤ i then (ops[i]?).bind (·.dst) else none
theorem sdst_some {s j : Nat} {t : Tmp} (h : sdst ops s j = some t) : s ≤ j ∧ (ops[j]?).bind (·.dst) = some t := by
  unfold sdst at h
  split at h
  · rename_i hs; exact ⟨hs, h⟩
  · cases h
theorem sdst_ge {s j : Nat} (h : s ≤ j) : sdst ops s j = (ops[j]?).bind (·.dst) := by unfold sdst; rw [if_pos h]

/-- An operation that sets a block finds it laid. -/
theorem opis_put {dst : Nat → Option Tmp} {M : Nat} {v : Nat → AV} {b : Nat → AEff} {rd : Nat → Option (List Nat)} {j id : Nat} {blk : ABlk} (h : OpIs E n ops dst M H fr v b rd j) (hb : b j = .put id blk) :
    HS H b (fun _ => true) j id ≠ .dead ∧ rd j = some [id] := by
  obtain ⟨o, ho, h⟩ := h
  rcases AGuard.cases ops o (FS n fr dst v (fun _ => true) j) with hg | hg | hg
  · rw [hg] at h
    unfold AQ at h
    split at h
    · split at h
      · split at h
        · obtain ⟨r, res, _, _, h2, _⟩ := h; rw [hb] at h2; cases h2
        · exact h.elim
      · exact h.elim
    · split at h
      · split at h
        · rename_i id' off v' H' h1 h2
          obtain ⟨_, h3, h4⟩ := h
          rw [hb] at h3
          simp only [AEff.put.injEq] at h3
          obtain ⟨rfl, _⟩ := h3
          rw [h1] at h2
          unfold astore at h2
          split at h2
          · rename_i id2 off2 l n2 e1 _ _
            cases e1
            refine ⟨fun e => ?_, h4.symm⟩
            simp only [e] at h2
            cases h2
          · cases h2
        · exact h.elim
      · exact h.elim
    · split at h
      · rename_i v' b' _
        obtain ⟨_, h3, _⟩ := h
        rw [hb] at h3
        cases b' <;> cases h3
      · exact h.elim
  · rw [hg] at h; obtain ⟨_, h2, _⟩ := h; rw [hb] at h2; cases h2
  · rw [hg] at h; exact h.elim
/-- A new block is not there before it is laid. -/
theorem opis_dead {dst : Nat → Option Tmp} {M : Nat} {v : Nat → AV} {b : Nat → AEff} {rd : Nat → Option (List Nat)} {s m : Nat} (hdead : ∀ k, H.next ≤ k → H.get k = .dead) (hop : ∀ j, s ≤ j → j < m → OpIs E n ops dst M H fr v b rd j) (hbn : ∀ j, j < s → b j = .no)
    {j : Nat} : ∀ i, i ≤ j → i ≤ m → HS H b (fun _ => true) i (H.next + j) = .dead
  | 0, _, _ => hdead _ (by omega)
  | i + 1, h1, h2 => by
    have ih := opis_dead hdead hop hbn i (j := j) (by omega) (by omega)
    rw [HS_succ, if_pos rfl]
    cases hb : b i with
    | no => exact ih
    | new blk =>
      simp only [setsTo]
      rw [upd_ne _ _ (by omega)]; exact ih
    | put id blk =>
      simp only [setsTo]
      by_cases e : H.next + j = id
      · subst e
        have his : s ≤ i := by
          rcases Nat.lt_or_ge i s with h | h
          · rw [hbn i h] at hb; cases hb
          · exact h
        exact absurd ih (opis_put (hop i his (by omega)) hb).1
      · rw [upd_ne _ _ e]; exact ih

theorem adraw_head {s m : Nat} (hf : StFacts ops s m) (hap : Apart ops s m) (hdead : ∀ k, H.next ≤ k → H.get k = .dead) {v : Nat → AV} {b : Nat → AEff} {rd : Nat → Option (List Nat)} {Q : AExit → AFr → AHeap → Prop}
    (hop : ∀ j, s ≤ j → j < m → OpIs E n ops (sdst ops s) (H.next + m) H fr v b rd j)
    (hbn : ∀ j, j < s → b j = .no) (hlog : logOk ops s (logAt b rd s (m - s)) = true)
    (hK : ∀ (fuel t : Nat) (listed : Array Bool) (C : Ctx) (a : Act) (w : World), listed.size = ops.size → (∀ i, i < ops.size → listed.getD i false = decide (i < m)) → ops.size - m ≤ fuel →
      St E B z r n C (FS n fr (sdst ops s) v (fun _ => true) m) ⟨H.next + m, HS H b (fun _ => true) m⟩ a w → XOps E.P r ops (Region.linearise.go .any ops fuel t listed []) (XQ E B z r n C w Q) a w) :
    ∀ (fuel t : Nat) (listed : Array Bool) (C : Ctx) (a : Act) (w : World), listed.size = ops.size → Closed ops (fun i => listed.getD i false) → (∀ i, i < s → listed.getD i false = true) → (∀ i, m ≤ i → listed.getD i false = false) →
      ((List.range ops.size).filter fun i => !listed.getD i false).length ≤ fuel →
      (∀ i, i < m → listed.getD i false = false → C.al (H.next + i) = none) → (∀ j, s ≤ j → j < m → listed.getD j false = true → ∀ id blk, b j = .put id blk → C.al id ≠ none) →
      St E B z r n C (FS n fr (sdst ops s) v (fun i => listed.getD i false) m) ⟨H.next + m, HS H b (fun i => listed.getD i false) m⟩ a w →
      XOps E.P r ops (Region.linearise.go .any ops fuel t listed []) (XQ E B z r n C w Q) a w := by
  have hlg := logOk_is hf.sz hlog
  have done : ∀ (fuel t : Nat) (listed : Array Bool) (C : Ctx) (a : Act) (w : World), listed.size = ops.size → (∀ i, m ≤ i → listed.getD i false = false) →
      ((List.range ops.size).filter fun i => !listed.getD i false).length ≤ fuel → (∀ i, i < m → listed.getD i false = true) →
      St E B z r n C (FS n fr (sdst ops s) v (fun i => listed.getD i false) m) ⟨H.next + m, HS H b (fun i => listed.getD i false) m⟩ a w →
      XOps E.P r ops (Region.linearise.go .any ops fuel t listed []) (XQ E B z r n C w Q) a w := by
    intro fuel t listed C a w hsz htl hcnt hall hst
    have hS : ∀ i, listed.getD i false = decide (i < m) := fun i => by
      by_cases h : i < m
      · rw [hall i h]; simp [h]
      · rw [htl i (by omega)]; simp [h]
    have e1 : FS n fr (sdst ops s) v (fun i => listed.getD i false) m = FS n fr (sdst ops s) v (fun _ => true) m :=
      funext fun t => FS_agree _ fun j hj _ => hall j hj
    have e2 : HS H b (fun i => listed.getD i false) m = HS H b (fun _ => true) m := HS_congr _ fun j hj => ⟨rfl, hall j hj⟩
    rw [e1, e2] at hst
    have hc : ((List.range ops.size).filter fun i => !listed.getD i false) = (List.range ops.size).filter fun i => !decide (i < m) := by
      congr 1; funext i; rw [hS]
    rw [hc, count_tail m _ hf.sz] at hcnt
    exact hK fuel t listed C a w hsz (fun i _ => hS i) hcnt hst
  intro fuel
  induction fuel with
  | zero =>
    intro t listed C a w hsz hcl hlo htl hcnt hal hput hst
    refine done 0 t listed C a w hsz htl hcnt (fun i hi => ?_) hst
    have : (List.range ops.size).filter (fun i => !listed.getD i false) = [] := List.eq_nil_of_length_eq_zero (by omega)
    rw [List.filter_eq_nil_iff] at this
    have := this i (by have := hf.sz; simp; omega)
    simpa using this
  | succ fuel ih =>
    intro t listed C a w hsz hcl hlo htl hcnt hal hput hst
    rcases Classical.em (∀ i, i < m → listed.getD i false = true) with hall | hall
    · exact done (fuel + 1) t listed C a w hsz htl hcnt hall hst
    · -- some operation of the head is still to come
      have hex : ∃ i0, i0 < m ∧ listed.getD i0 false = false := by
        have := Classical.not_forall.1 hall
        obtain ⟨i0, h0⟩ := this
        have h0 := Classical.not_imp.1 h0
        exact ⟨i0, h0.1, by simpa using h0.2⟩
      have hready : ∃ i, i ∈ Region.ready .any ops listed := by
        -- the least one
        have key : ∀ k i0, i0 < k → i0 < m → listed.getD i0 false = false → ∃ i, i ∈ Region.ready .any ops listed := by
          intro k
          induction k with
          | zero => intro i0 h; omega
          | succ k ihk =>
            intro i0 h1 h2 h3
            have hlt : i0 < ops.size := by have := hf.sz; omega
            by_cases hp : ∀ e ∈ (ops[i0]'hlt).after, Region.binds .any e = true → listed.getD e.on false = true
            · exact ⟨i0, mem_ready.2 ⟨by rw [getD_tf (by omega)]; exact h3, ops[i0], by simp [hlt], hp⟩⟩
            · have hp' : ∃ e ∈ (ops[i0]'hlt).after, Region.binds .any e = true ∧ listed.getD e.on false = false := by
                apply Classical.byContradiction
                intro hno
                refine hp fun e he hb => ?_
                cases hx : listed.getD e.on false with
                | true => rfl
                | false => exact absurd ⟨e, he, hb, hx⟩ hno
              obtain ⟨e, he, hb, hx⟩ := hp'
              have hback := hf.back i0 _ (by simp [hlt]) e he hb
              exact ihk e.on (by omega) (by omega) hx
        obtain ⟨i0, h1, h2⟩ := hex
        exact key (i0 + 1) i0 (by omega) h1 h2
      simp only [Region.linearise.go]
      change XOps E.P r ops (match (Region.ready .any ops listed)[t % (Region.ready .any ops listed).length]? with
        | some i => Region.linearise.go .any ops fuel (t / (Region.ready .any ops listed).length) (listed.setIfInBounds i true) [i]
        | none => [].reverse) _ a w
      obtain ⟨i1, hi1⟩ := hready
      have hpos : 0 < (Region.ready .any ops listed).length := List.length_pos_of_mem hi1
      have hlt := Nat.mod_lt t hpos
      rw [List.getElem?_eq_getElem hlt]
      generalize hi : (Region.ready .any ops listed)[t % (Region.ready .any ops listed).length] = i
      have hir : i ∈ Region.ready .any ops listed := hi ▸ List.getElem_mem hlt
      obtain ⟨hun, o, ho, hpre⟩ := mem_ready.1 hir
      have hisz : i < ops.size := (Array.getElem?_eq_some_iff.1 ho).1
      rw [getD_tf (by omega)] at hun
      simp only
      rw [linearise_go_acc]
      simp only [List.reverse_singleton, List.singleton_append]
      have him : i < m := by
        rcases Nat.lt_or_ge i m with h | h
        · exact h
        · obtain ⟨i0, h1, h2⟩ := hex
          have := (hf.later i i0 h hisz (by omega)).ready hcl ho hpre
          rw [h2] at this; cases this
      have his : s ≤ i := by
        rcases Nat.lt_or_ge i s with h | h
        · have := hlo i h; rw [hun] at this; cases this
        · exact h
      -- what it sees is what it sees in the order of the text
      have hlook : ∀ t ∈ looks ops o, FS n fr (sdst ops s) v (fun i => listed.getD i false) m t = FS n fr (sdst ops s) v (fun _ => true) i t := by
        intro t ht
        rw [← FS_lt m (show i ≤ m by omega)]
        refine FS_agree m fun j hj hd => ?_
        obtain ⟨p, hp⟩ : ∃ p, ops[j]? = some p := ⟨ops[j]'(by have := hf.sz; omega), by simp [show j < ops.size by have := hf.sz; omega]⟩
        obtain ⟨hjs, hd⟩ := sdst_some hd
        rw [hp, Option.bind_some] at hd
        rcases hap i o j p t his him hjs hj ho hp hd with h | h | h | h
        · subst h; simp [hun]
        · exact absurd ht h.1
        · have := h.2.ready hcl ho hpre
          (try simp only at this)
          simp [h.1, this]
        · have hnj : listed.getD j false = false := by
            cases hx : listed.getD j false with
            | false => rfl
            | true =>
              have := h.2.closed hcl hx
              (try simp only at this)
              rw [hun] at this; cases this
          simp [h.1, hnj]
      obtain ⟨o', ho', hopi⟩ := hop i his him
      rw [ho] at ho'; cases ho'
      rw [← AGuard.congr hlook] at hopi
      have hput0 : FS n fr (sdst ops s) v (fun j => decide (j = i) || listed.getD j false) m = aput n (FS n fr (sdst ops s) v (fun i => listed.getD i false) m) o.dst (v i) := by
        funext t
        rw [aput_eq, FS_put (S := fun i => listed.getD i false) hun t m]
        · simp only [him, true_and, sdst_ge his, ho, Option.bind_some]
        · intro j h1 h2 h3 h4 h5
          rw [sdst_ge his] at h4
          rw [sdst_ge (by omega)] at h5
          simp only [ho, Option.bind_some] at h4
          obtain ⟨p, hp⟩ : ∃ p, ops[j]? = some p := ⟨ops[j]'(by have := hf.sz; omega), by simp [show j < ops.size by have := hf.sz; omega]⟩
          rw [hp, Option.bind_some] at h5
          rcases hap i o j p t his him (by omega) h2 ho hp h5 with h | h | h | h
          · omega
          · exact h.2 h4
          · omega
          · have := h.2.closed hcl h3
            rw [hun] at this; cases this
      have hset : ∀ j, (listed.setIfInBounds i true).getD j false = (decide (j = i) || listed.getD j false) := fun j => by
        by_cases h : j = i
        · subst h; simp [show j < listed.size by omega]
        · rw [getD_set_ne false (fun e => h e.symm)]; simp [h]
      have hfun : (fun j => (listed.setIfInBounds i true).getD j false) = fun j => decide (j = i) || listed.getD j false := funext hset
      -- the rest, once it is done
      have rest : ∀ (C' : Ctx) (a' : Act) (w' : World), (∀ j, j < m → (decide (j = i) || listed.getD j false) = false → C'.al (H.next + j) = none) → C.le C' → (∀ id blk, b i = .put id blk → C'.al id ≠ none) →
          St E B z r n C' (aput n (FS n fr (sdst ops s) v (fun i => listed.getD i false) m) o.dst (v i)) ⟨H.next + m, HS H b (fun j => decide (j = i) || listed.getD j false) m⟩ a' w' →
          XOps E.P r ops (Region.linearise.go .any ops fuel (t / (Region.ready .any ops listed).length) (listed.setIfInBounds i true) []) (XQ E B z r n C' w' Q) a' w' := by
        intro C' a' w' h1 hle h3 h2
        refine ih _ _ C' a' w' (by simp [hsz]) ?_ (fun j hj => by rw [hset, hlo j hj]; simp) ?_ ?_ ?_ ?_ ?_
        · intro j p hj hp e he hb
          simp only [hset, Bool.or_eq_true, decide_eq_true_eq] at hj ⊢
          rcases hj with rfl | hj
          · rw [ho] at hp; cases hp
            exact .inr (hpre e he hb)
          · exact .inr (hcl j p hj hp e he hb)
        · intro j hj
          rw [hset, htl j hj]
          simp; omega
        · have := filter_lt (p := fun i => !listed.getD i false) (q := fun j => !(listed.setIfInBounds i true).getD j false) (l := List.range ops.size) (fun x hx => by
            simp only [hset, Bool.not_eq_true', Bool.or_eq_false_iff] at hx ⊢; exact hx.2) ⟨i, by simpa using hisz, by simp [hun], by simp [hset]⟩
          omega
        · intro j hj hx
          rw [hset] at hx
          exact h1 j hj hx
        · intro j hj1 hj2 hx id blk hb
          rw [hset] at hx
          by_cases e : j = i
          · subst e; exact h3 id blk hb
          · simp only [e, decide_false, Bool.false_or] at hx
            have := hput j hj1 hj2 hx id blk hb
            intro hn
            cases ha : C.al id with
            | none => exact this ha
            | some p => rw [hle.al _ _ ha] at hn; cases hn
        · rw [hfun, hput0]; exact h2
      have hρ := fun x => aeval_rel (E := E) hst.hs hst.fr x
      -- what it reads is what it reads in the order of the text
      have hagree : ∀ id, C.al id ≠ none → ((∀ l, rd i = some l → id ∈ l) ∨ ∃ blk, b i = .put id blk) → HS H b (fun _ => true) i id ≠ .dead → HS H b (fun i => listed.getD i false) m id = HS H b (fun _ => true) i id := by
        intro id hid hr hnd
        rw [← HS_lt m (show i ≤ m by omega)]
        refine HS_agree m fun j hj blk hs => ?_
        have hjs : s ≤ j := by
          rcases Nat.lt_or_ge j s with h | h
          · rw [hbn j h] at hs; cases hs
          · exact h
        cases hb : b j with
        | no => rw [hb] at hs; cases hs
        | new blk' =>
          rw [hb] at hs
          simp only [setsTo, Option.some.injEq, Prod.mk.injEq] at hs
          obtain ⟨rfl, rfl⟩ := hs
          have hSj : listed.getD j false = true := by
            cases hx : listed.getD j false with
            | true => rfl
            | false => exact absurd (hal j hj hx) hid
          have hji : j < i := by
            rcases Nat.lt_or_ge j i with h | h
            · exact h
            · exact absurd (opis_dead hdead hop hbn i h (by omega)) hnd
          rw [hSj]; simp [hji]
        | put id' blk' =>
          rw [hb] at hs
          simp only [setsTo, Option.some.injEq, Prod.mk.injEq] at hs
          obtain ⟨rfl, rfl⟩ := hs
          rcases hlg i j id' blk' his him hjs hj hb hr with h | ⟨h1, h2⟩ | ⟨h1, h2⟩
          · subst h; rw [hun]; simp
          · have := h2.ready hcl ho hpre
            (try simp only at this)
            rw [this]; simp [h1]
          · have hnj : listed.getD j false = false := by
              cases hx : listed.getD j false with
              | false => rfl
              | true =>
                have := h2.closed hcl hx
                (try simp only at this)
                rw [hun] at this; cases this
            rw [hnj]; simp; omega
      have hread : ∀ (l : Option (List Nat)), (∀ l', rd i = some l' → ∃ l2, l = some l2 ∧ ∀ x ∈ l2, x ∈ l') → HRead E C ((⟨H.next + m, HS H b (fun _ => true) i⟩ : AHeap).only l) w := by
        intro l hl
        refine hst.hs.read.subAl fun k p q ha hd => ?_
        obtain ⟨h1, h2⟩ := only_dead hd
        rw [h2] at hd ⊢
        refine hagree k (by rw [ha]; exact fun e => by cases e) (.inl fun l' e => ?_) hd
        obtain ⟨l2, h3, h4⟩ := hl l' e
        exact h4 _ (h1 l2 h3)
      have hnone : b i = .no → HS H b (fun j => decide (j = i) || listed.getD j false) m = HS H b (fun i => listed.getD i false) m := fun e => funext fun k => by
        have hk := HS_put (H := H) (b := b) (S := fun i => listed.getD i false) hun k m (fun j _ _ _ x y q h => by rw [e] at h; cases h)
        rw [e] at hk
        exact hk
      rcases guard_ok hst.fr hopi with ⟨hw, hq⟩ | ⟨hw, hq1, hq2, hq3⟩
      · unfold AQ at hq
        split at hq
        · split at hq
          · rename_i c hopc
            split at hq
            · rename_i f hcal
              obtain ⟨rr, res, hqt, hv, hb, hrr⟩ := hq
              have hd : ∀ c, o.op ≠ .defer c := fun c e => by rw [hopc] at e; cases e
              refine xo_call ho hw hd ?_
              rw [call_run hcal hopc]
              have hcop : ∀ x ∈ o.op.operands, aeval E (FS n fr (sdst ops s) v (fun _ => true) i) x = aeval E (FS n fr (sdst ops s) v (fun i => listed.getD i false) m) x := fun x hx => (aeval_congr hlook x hx).symm
              have hf1 := hcop f (by rw [hopc]; simp [Op.operands, Call.operands, hcal])
              have hf2 : c.args.toList.map (aeval E (FS n fr (sdst ops s) v (fun _ => true) i)) = c.args.toList.map (aeval E (FS n fr (sdst ops s) v (fun i => listed.getD i false) m)) :=
                List.map_congr_left fun x hx => hcop x (by rw [hopc]; simp [Op.operands, Call.operands, hcal]; right; simpa using hx)
              rw [hf1, hf2] at hqt
              refine InvOk.mono (hqt C w _ (c.args.toList.map a.eval) (hread rr fun l' e => ⟨l', by rw [hrr, e], fun _ h => h⟩) (hst.hs.lt) (fun b ds hb => by rw [← hst.hs.heap]; exact hst.hs.nd b ds hb) (hρ f) (rels hρ _)) fun e w' hp => ?_
              obtain ⟨u, I', rfl, p1, p2, p3, p4, p4', p5⟩ := hp
              have hnx := hst.hs.quiet p1 p2 p3 p4 p4'
              have hvr : VRel ⟨I', C.al, w'.heap⟩ res u := VRel.mono ((⟨I', C.al, w'.heap⟩ : Ctx).noal_le) _ _ p5
              obtain ⟨q1, q2, q3⟩ := put_rel (a := a) (dst := o.dst) hst.n (hst.fr.mono hnx.le) hvr
              refine (rest _ _ _ ?_ hnx.le (fun id blk e => by rw [← hb] at e; cases e) ?_).mono fun e a w hq => hq.from hnx
              · intro j hj hx
                simp only [Bool.or_eq_false_iff] at hx
                exact hal j hj hx.2
              · rw [← hv, hnone hb.symm]
                exact hst.next hnx q2 q1 q3
            · exact hq.elim
          · exact hq.elim
        · split at hq
          · rename_i t a0 x0 hops
            split at hq
            · rename_i id off v' H' h1 h2
              obtain ⟨e1, e2, e3⟩ := hq
              have hd : ∀ c, o.op ≠ .defer c := fun c e => by rw [hops] at e; cases e
              have hcop : ∀ x ∈ o.op.operands, aeval E (FS n fr (sdst ops s) v (fun _ => true) i) x = aeval E (FS n fr (sdst ops s) v (fun i => listed.getD i false) m) x := fun x hx => (aeval_congr hlook x hx).symm
              have ha0 := hcop a0 (by rw [hops]; simp [Op.operands])
              have hx0 := hcop x0 (by rw [hops]; simp [Op.operands])
              rw [ha0] at h1
              rw [ha0, hx0] at h2
              have hid : C.al id ≠ none := by
                have hr := hρ a0
                rw [h1] at hr
                simp only [VRel] at hr
                obtain ⟨bb, oo, k1, _⟩ := hr
                rw [k1]; exact fun e => by cases e
              obtain ⟨hnd, hrd⟩ := opis_put ⟨o, ho, by
                have := hopi
                rw [AGuard.congr hlook] at this
                exact this⟩ e2.symm
              have hag := hagree id hid (.inr ⟨_, e2.symm⟩) hnd
              -- the store, over the memory as it is
              have hst2 : ∃ blk, astore E.P t ⟨H.next + m, HS H b (fun i => listed.getD i false) m⟩ (aeval E (FS n fr (sdst ops s) v (fun i => listed.getD i false) m) a0) (aeval E (FS n fr (sdst ops s) v (fun i => listed.getD i false) m) x0) = some (v', AHeap.set ⟨H.next + m, HS H b (fun i => listed.getD i false) m⟩ id blk) ∧ H'.get id = blk := by
                unfold astore at h2 ⊢
                rw [h1] at h2 ⊢
                cases hc : acells (aeval E (FS n fr (sdst ops s) v (fun i => listed.getD i false) m) x0) with
                | none => rw [hc] at h2; cases h2
                | some l =>
                  cases hz : tsz E.P t with
                  | none => rw [hc, hz] at h2; cases h2
                  | some zz =>
                    simp only [hc, hz] at h2 ⊢
                    rw [hag]
                    cases hg : HS H b (fun _ => true) i id with
                    | row cs =>
                      simp only [hg] at h2 ⊢
                      split at h2
                      · rename_i hcnd
                        cases h2
                        rw [if_pos hcnd]
                        exact ⟨_, rfl, upd_same _ _ _⟩
                      · cases h2
                    | _ => simp only [hg] at h2; cases h2
              obtain ⟨blk, hst3, hblk⟩ := hst2
              obtain ⟨w', C', k0, rfl, k4, kal⟩ := astore_ok (P := E.P) hst.hs (hρ a0) (hρ x0) hst3
              have k1 : (execOp a.eval o).run E.P w = .ok .skip w' := by
                obtain ⟨dst, op, ty, pos, after, guard⟩ := o
                simp only at hops
                subst hops
                simp [execOp, k0]
              have k3 : VRel C' (.tuple []) undef := by simp only [VRel]; exact ⟨#[], rfl, VsRel.nil⟩
              obtain ⟨p1, p2, p3⟩ := put_rel (a := a) (dst := o.dst) hst.n (hst.fr.mono k4.le) k3
              have hHe : (⟨H.next + m, HS H b (fun j => decide (j = i) || listed.getD j false) m⟩ : AHeap) = AHeap.set ⟨H.next + m, HS H b (fun i => listed.getD i false) m⟩ id blk := by
                show AHeap.mk _ _ = AHeap.mk _ _
                congr 1
                funext k
                rw [HS_put (S := fun i => listed.getD i false) hun k m, ← e2]
                · simp only [setsTo, him, true_and, upd, hblk]
                · intro j hj1 hj2 hj3 x y q hx hy
                  rw [← e2] at hx
                  simp only [setsTo, Option.some.injEq, Prod.mk.injEq] at hx
                  obtain ⟨rfl, _⟩ := hx
                  cases hbj : b j with
                  | no => rw [hbj] at hy; cases hy
                  | new bl =>
                    rw [hbj] at hy
                    simp only [setsTo, Option.some.injEq, Prod.mk.injEq] at hy
                    obtain ⟨rfl, _⟩ := hy
                    exact hnd (opis_dead hdead hop hbn i (by omega) (by omega))
                  | put id2 bl =>
                    rw [hbj] at hy
                    simp only [setsTo, Option.some.injEq, Prod.mk.injEq] at hy
                    obtain ⟨rfl, _⟩ := hy
                    rcases hlg i j id2 bl his him (by omega) hj2 hbj (.inr ⟨_, e2.symm⟩) with h | ⟨h1, h2⟩ | ⟨h1, h2⟩
                    · omega
                    · omega
                    · have := h2.closed hcl hj3
                      rw [hun] at this; cases this
              refine xo_value ho hw hd k1 (.inr ⟨rfl, rfl⟩) ((rest _ _ w' ?_ k4.le ?_ ?_).mono fun e a w hq => hq.from k4)
              · intro j hj hx
                simp only [Bool.or_eq_false_iff, decide_eq_false_iff_not] at hx
                rw [kal]; exact hal j hj hx.2
              · intro id2 blk2 e
                rw [← e2] at e
                simp only [AEff.put.injEq] at e
                obtain ⟨rfl, _⟩ := e
                intro hn
                cases ha : C.al id with
                | none => exact hid ha
                | some p => rw [k4.le.al _ _ ha] at hn; cases hn
              · rw [hHe, ← e1]
                exact hst.next k4 p2 p1 p3
            · exact hq.elim
          · exact hq.elim
        · have hcop : ∀ x ∈ o.op.operands, aeval E (FS n fr (sdst ops s) v (fun i => listed.getD i false) m) x = aeval E (FS n fr (sdst ops s) v (fun _ => true) i) x := aeval_congr hlook
          have haq : ∀ H0 : AHeap, aquiet E o.op (aeval E (FS n fr (sdst ops s) v (fun i => listed.getD i false) m)) H0 (H.next + i) = aquiet E o.op (aeval E (FS n fr (sdst ops s) v (fun _ => true) i)) H0 (H.next + i) := fun H0 => aquiet_congr hcop
          split at hq
          · rename_i v' b' hqe
            obtain ⟨e1, e2, e3⟩ := hq
            have hqe' : aquiet E o.op (aeval E (FS n fr (sdst ops s) v (fun i => listed.getD i false) m)) ((⟨H.next + m, HS H b (fun _ => true) i⟩ : AHeap).only (rd i)) (H.next + i) = some (v', b') := by
              rw [haq, ← e3, aquiet_foot (H := ⟨H.next + m, HS H b (fun _ => true) i⟩) (fun k hk => only_get fun l' e => by cases e; exact hk)]
              exact hqe
            obtain ⟨hd, hnone', hsome⟩ := aquiet_ok (hread (rd i) fun l' e => ⟨l', e, fun _ h => h⟩) (fun x hx => by rw [hst.hs.heap]; exact hst.hs.lt x hx) hρ hqe'
            cases hb : b' with
            | none =>
              have hbi : b i = .no := by rw [← e2, hb]; rfl
              obtain ⟨u, k1, k2⟩ := hnone' hb
              obtain ⟨q1, q2, q3⟩ := put_rel (a := a) (dst := o.dst) hst.n hst.fr (e1 ▸ k2)
              refine xo_value ho hw hd k1 (.inl rfl) (rest C _ w ?_ (.refl _) (fun id blk e => by rw [hbi] at e; cases e) ?_)
              · intro j hj hx
                simp only [Bool.or_eq_false_iff] at hx
                exact hal j hj hx.2
              · rw [hnone hbi]
                exact hst.next (.refl hst.hs) q2 q1 q3
            | some blk =>
              have hbi : b i = .new blk := by rw [← e2, hb]; rfl
              obtain ⟨u, ob, w', k1, k2, k3, k4⟩ := hsome blk hb
              have hpn : (C.push ob).heap[w.heap.size]? = some ob := by
                have := Ctx.push_new (C := C) (o := ob)
                rw [hst.hs.heap] at this
                exact this
              have hfree := hal i him hun
              have hle : C.le ((C.push ob).name (H.next + i) (w.heap.size, 0)) := (Ctx.le_push (by rw [hst.hs.heap]; exact hst.hs.lt)).trans (Ctx.le_name (C := C.push ob) hfree)
              -- nobody sets the new name before it is laid
              have hlate : ∀ j, j < m → listed.getD j false = true → ∀ y, setsTo H j (b j) ≠ some (H.next + i, y) := by
                intro j hj hx y hs
                cases hbj : b j with
                | no => rw [hbj] at hs; cases hs
                | new bl =>
                  rw [hbj] at hs
                  simp only [setsTo, Option.some.injEq, Prod.mk.injEq] at hs
                  have : j = i := by omega
                  subst this
                  rw [hun] at hx; cases hx
                | put id2 bl =>
                  rw [hbj] at hs
                  simp only [setsTo, Option.some.injEq, Prod.mk.injEq] at hs
                  obtain ⟨rfl, _⟩ := hs
                  have hjs : s ≤ j := by
                    rcases Nat.lt_or_ge j s with h | h
                    · rw [hbn j h] at hbj; cases hbj
                    · exact h
                  exact hput j hjs hj hx _ _ hbj hfree
              have hgd : HS H b (fun i => listed.getD i false) m (H.next + i) = .dead := by
                rw [HS_agree (T := fun _ => false) m fun j hj blk hs => by
                  cases hx : listed.getD j false with
                  | false => rfl
                  | true => exact absurd hs (hlate j hj hx blk)]
                have : ∀ k, HS H b (fun _ => false) k = H.get := by
                  intro k
                  induction k with
                  | zero => rfl
                  | succ k ih => simp only [HS, ih, Bool.false_eq_true, if_false]
                rw [this]
                exact hdead _ (by omega)
              have hnx := hst.hs.allocAt (i := H.next + i) k2 (by simp; omega) hgd hfree (k3 _ hle hpn)
              have hvr := k4 ((C.push ob).name (H.next + i) (w.heap.size, 0)) hpn (upd_same _ _ _)
              obtain ⟨q1, q2, q3⟩ := put_rel (a := a) (dst := o.dst) hst.n (hst.fr.mono hnx.le) (e1 ▸ hvr)
              have hHe : (⟨H.next + m, HS H b (fun j => decide (j = i) || listed.getD j false) m⟩ : AHeap) = AHeap.set ⟨H.next + m, HS H b (fun i => listed.getD i false) m⟩ (H.next + i) blk := by
                show AHeap.mk _ _ = AHeap.mk _ _
                congr 1
                funext k
                rw [HS_put (S := fun i => listed.getD i false) hun k m, hbi]
                · simp only [setsTo, him, true_and, upd]
                · intro j hj1 hj2 hj3 x y q hx hy
                  rw [hbi] at hx
                  simp only [setsTo, Option.some.injEq, Prod.mk.injEq] at hx
                  obtain ⟨rfl, _⟩ := hx
                  exact hlate j hj2 hj3 y hy
              refine xo_value ho hw hd k1 (.inl rfl) ((rest _ _ w' ?_ hnx.le (fun id blk e => by rw [hbi] at e; cases e) ?_).mono fun e a w hq => hq.from hnx)
              · intro j hj hx
                simp only [Bool.or_eq_false_iff, decide_eq_false_iff_not] at hx
                show upd C.al (H.next + i) _ (H.next + j) = none
                rw [upd_ne _ _ (by omega)]
                exact hal j hj hx.2
              · rw [hHe]
                exact hst.next hnx q2 q1 q3
          · exact hq.elim
      · have hundef : VRel C (v i) undef := by rw [hq1]; simp only [VRel]; exact ⟨#[], rfl, VsRel.nil⟩
        obtain ⟨q1, q2, q3⟩ := put_rel (a := a) (dst := o.dst) hst.n hst.fr hundef
        refine xo_skip ho hw (rest C _ w ?_ (.refl _) (fun id blk e => by rw [hq2] at e; cases e) ?_)
        · intro j hj hx
          simp only [Bool.or_eq_false_iff] at hx
          exact hal j hj hx.2
        · rw [hnone hq2]
          exact hst.next (.refl hst.hs) q2 q1 q3
end
end Go.Zk
namespace Go.Zk

section
variable {E : Env} {B z : Nat} {C : Ctx} {H : AHeap} {w : World} {P : Program} {r : Option Nat} {n : Nat} {fr : AFr} {a : Act} {ops : Array Oper}

/-- Operations in the order of the text, and what comes behind. -/
theorem aops_seq {K : AFr → AHeap → Prop} {Q : AExit → AFr → AHeap → Prop} (tl : List Nat)
    (htl : ∀ (C' : Ctx) (fr' : AFr) (H' : AHeap) (a' : Act) (w' : World), K fr' H' → St E B z r n C' fr' H' a' w' → XOps E.P r ops tl (XQ E B z r n C' w' Q) a' w') :
    ∀ (l : List Oper) (s : Nat) {C : Ctx} {fr : AFr} {H : AHeap} {a : Act} {w : World}, (∀ j, j < l.length → l[j]? = ops[s + j]?) → AOps E n ops (AThen K Q) l fr H → St E B z r n C fr H a w →
      XOps E.P r ops (List.range' s l.length ++ tl) (XQ E B z r n C w Q) a w
  | [], s, C, fr, H, a, w, _, h, hst => by
    rw [AOps] at h
    simpa using htl C fr H a w h hst
  | o :: rest, s, C, fr, H, a, w, hl, h, hst => by
    have ho : ops[s]? = some o := by have := hl 0 (by simp); simpa using this.symm
    have hl' : ∀ j, j < rest.length → rest[j]? = ops[s + 1 + j]? := fun j hj => by have := hl (j + 1) (by simp; omega); rw [show s + 1 + j = s + (j + 1) by omega, ← this]; simp
    simp only [List.length_cons, List.range'_succ, List.cons_append]
    simp only [AOps] at h
    have hρ := fun x => aeval_rel (E := E) hst.hs hst.fr x
    rcases guard_ok hst.fr h with ⟨hw, h⟩ | ⟨hw, h⟩
    · unfold AOp at h
      split at h
      · split at h
        · rename_i c hop
          split at h
          · rename_i f hcal
            have hd : ∀ c, o.op ≠ .defer c := fun c e => by rw [hop] at e; cases e
            refine xo_call ho hw hd ?_
            rw [call_run hcal hop]
            refine InvOk.mono (h B C w _ (c.args.toList.map a.eval) hst.hs (hρ f) (rels hρ _)) fun e w' hp => ?_
            obtain ⟨C', H', ar, h1, h2, h3⟩ := hp
            cases e with
            | returned v =>
              cases ar with
              | panic x => exact h1.elim
              | ret av =>
                simp only [EndRel] at h1
                obtain ⟨p1, p2, p3⟩ := put_rel (a := a) (dst := o.dst) hst.n (hst.fr.mono h2.le) h1
                exact (aops_seq tl htl rest (s + 1) hl' h3 (hst.next h2 p2 p1 p3)).mono fun e a w hq => hq.from h2
            | panicked ch =>
              cases ar with
              | ret x => exact h1.elim
              | panic av =>
                exact ⟨.panic av, fr, H', C', h1, hst.next h2 hst.n (hst.fr.mono h2.le) rfl, h2, h3⟩
            | outgrown => cases ar <;> exact h1.elim
          · exact h.elim
        · exact h.elim
      · split at h
        · rename_i av H' hs
          obtain ⟨⟨nx, v, w', C', k1, k2, k3, k4⟩, hd⟩ := astep_ok (E := E) hst.hs hρ hs
          obtain ⟨p1, p2, p3⟩ := put_rel (a := a) (dst := o.dst) hst.n (hst.fr.mono k4.le) k3
          exact xo_value ho hw hd k1 k2 ((aops_seq tl htl rest (s + 1) hl' h (hst.next k4 p2 p1 p3)).mono fun e a w hq => hq.from k4)
        · exact h.elim
    · have hundef : VRel C (.tuple []) undef := by simp only [VRel]; exact ⟨#[], rfl, VsRel.nil⟩
      obtain ⟨p1, p2, p3⟩ := put_rel (a := a) (dst := o.dst) hst.n hst.fr hundef
      exact xo_skip ho hw (aops_seq tl htl rest (s + 1) hl' h (hst.next (.refl hst.hs) p2 p1 p3))

theorem count_at (m : Nat) (listed : Array Bool) (hsz : listed.size = ops.size) (hl : ∀ i, i < ops.size → listed.getD i false = decide (i < m)) (hm : m ≤ ops.size) :
    ((List.range ops.size).filter fun i => !listed.getD i false).length = ops.size - m := by
  rw [← count_tail m _ hm]
  congr 1
  refine List.filter_congr fun i hi => ?_
  rw [hl i (List.mem_range.1 hi)]

theorem astages_sound (hb : dback ops.toList 0 = true) {Q : AExit → AFr → AHeap → Prop} : ∀ (l : List (Nat × Bool)) (s : Nat), dstages ops (dmasks ops.toList []) l s = true → s ≤ ops.size →
    ∀ (fuel t : Nat) (listed : Array Bool) (C : Ctx) (fr : AFr) (H : AHeap) (a : Act) (w : World), listed.size = ops.size → (∀ i, i < ops.size → listed.getD i false = decide (i < s)) → ops.size - s ≤ fuel →
      AStages E n ops Q l s fr H → St E B z r n C fr H a w → XOps E.P r ops (Region.linearise.go .any ops fuel t listed []) (XQ E B z r n C w Q) a w
  | [], s, hd, _, fuel, t, listed, C, fr, H, a, w, hsz, hl, hfu, h, hst => by
    have hs : s = ops.size := Nat.eq_of_beq_eq_true hd
    rw [lin_end (fun i hi => by rw [hl i hi]; simp; omega) hsz]
    rw [AStages] at h
    exact xo_nil ⟨.normal, fr, H, C, trivial, hst, .refl hst.hs, h⟩
  | (m, b) :: l, s, hd, hss, fuel, t, listed, C, fr, H, a, w, hsz, hl, hfu, h, hst => by
    obtain ⟨hf, ha, ht, hd'⟩ := stages_facts hb hd
    have hsm := hf.sz
    have hle := hf.le
    have hlen : ((ops.toList.take m).drop s).length = m - s := by simp; omega
    have hget : ∀ j, j < ((ops.toList.take m).drop s).length → ((ops.toList.take m).drop s)[j]? = ops[s + j]? := fun j hj => by
      rw [hlen] at hj
      rw [List.getElem?_drop, List.getElem?_take, if_pos (by omega)]; simp
    have hS : ∀ i, listed.getD i false = decide (i < s) := fun i => by
      by_cases h : i < ops.size
      · exact hl i h
      · have : ¬ i < s := by omega
        simp [this, show ¬ i < listed.size by omega]
    cases b with
    | false =>
      rw [AStages] at h
      obtain ⟨fuel', t', listed', e, q1, q2, q3⟩ := lin_text hf (ht rfl) (m - s) s fuel t listed (Nat.le_refl _) (by omega) hfu hsz hl
      rw [e, ← hlen]
      exact aops_seq _ (fun C' fr' H' a' w' hk hst' => astages_sound hb l m hd' hsm fuel' t' listed' C' fr' H' a' w' q2 q3 q1 hk hst') _ s hget h hst
    | true =>
      rw [AStages] at h
      obtain ⟨v, b, rd, k1, k2, k3⟩ := head_trace (ops := ops) (dst := sdst ops s) ((ops.toList.take m).drop s) s (fun _ => .tuple []) (fun _ => .no) (fun _ => some []) (H.next + m) [] (fun j hj => sdst_ge hj) hget (by
        have e1 : ∀ k, k ≤ s → FS n fr (sdst ops s) (fun _ => .tuple []) (fun _ => true) k = fr := by
          intro k
          induction k with
          | zero => intro _; rfl
          | succ k ih =>
            intro hk
            simp only [FS, ih (by omega), if_true]
            unfold sdst
            rw [if_neg (by omega)]
            rfl
        have e2 : ∀ k, HS H (fun _ => .no) (fun _ => true) k = H.get := by
          intro k
          induction k with
          | zero => rfl
          | succ k ih => simp only [HS, ih, if_true]
        rw [e1 s (Nat.le_refl _), e2]
        exact h)
      rw [hlen, show s + (m - s) = m by omega] at k2 k3
      rw [List.nil_append] at k3
      obtain ⟨klog, k3⟩ := k3
      have hcl : Closed ops (fun i => listed.getD i false) := fun i o hi ho e he hbd => by
        simp only [hS, decide_eq_true_eq] at hi ⊢
        have := hf.back i o ho e he hbd; omega
      have hbn : ∀ j, j < s → b j = .no := fun j hj => (k1 j hj).2.1
      refine adraw_head (r := r) (B := B) hf (ha rfl) hst.hs.dead (fun j h1 h2 => k2 j h1 h2) hbn klog (fun fuel' t' listed' C' a' w' q1 q2 q3 hst' => astages_sound hb l m hd' hsm fuel' t' listed' C' _ _ a' w' q1 q2 q3 k3 hst')
        fuel t listed C a w hsz hcl (fun i hi => by rw [hS]; simpa using hi) (fun i hi => by rw [hS]; simp; omega) ?_ (fun i _ _ => hst.hs.fresh _ (by omega)) (fun j h1 _ h2 => by rw [hS] at h2; simp at h2; omega) ?_
      · rw [count_at s listed hsz hl hss]; exact hfu
      · have e1 : ∀ k, FS n fr (sdst ops s) v (fun i => listed.getD i false) k = fr := by
          intro k
          induction k with
          | zero => rfl
          | succ k ih =>
            simp only [FS, ih]
            by_cases hk : k < s
            · have hn : sdst ops s k = none := by unfold sdst; rw [if_neg (by omega)]
              rw [hn]
              simp [aput]
            · rw [if_neg]
              rw [hS]; simpa using hk
        have e2 : ∀ k, HS H b (fun i => listed.getD i false) k = H.get := by
          intro k
          induction k with
          | zero => rfl
          | succ k ih =>
            simp only [HS, ih]
            by_cases hk : k < s
            · rw [hbn k hk]; simp
            · rw [if_neg]
              rw [hS]; simpa using hk
        rw [e1, e2]
        exact ⟨hst.hs.reserve m, hst.n, hst.fr, hst.df, hst.ro⟩

theorem dexts_is : ∀ (fuel t : Nat) (listed : Array Bool), Region.linearise.go .any ops fuel t listed [] ∈ dexts ops fuel listed
  | 0, t, listed => by simp [Region.linearise.go, dexts]
  | fuel + 1, t, listed => by
    simp only [Region.linearise.go]
    change (match (Region.ready .any ops listed)[t % (Region.ready .any ops listed).length]? with
      | some i => Region.linearise.go .any ops fuel (t / (Region.ready .any ops listed).length) (listed.setIfInBounds i true) [i]
      | none => [].reverse) ∈ _
    unfold dexts
    cases hr : Region.ready .any ops listed with
    | nil => simp
    | cons x l =>
      have hpos : 0 < (x :: l).length := by simp
      have hlt := Nat.mod_lt t hpos
      rw [List.getElem?_eq_getElem hlt]
      simp only
      rw [linearise_go_acc]
      simp only [List.reverse_singleton, List.singleton_append]
      exact List.mem_flatMap.2 ⟨_, List.getElem_mem hlt, List.mem_map.2 ⟨_, dexts_is fuel _ _, rfl⟩⟩

/-- Operations in any order that is written down. -/
theorem aops_list {Q : AExit → AFr → AHeap → Prop} : ∀ (l : List Nat) {C : Ctx} {fr : AFr} {H : AHeap} {a : Act} {w : World}, (∀ i ∈ l, i < ops.size) → AOps E n ops Q (l.filterMap fun i => ops[i]?) fr H → St E B z r n C fr H a w →
    XOps E.P r ops l (XQ E B z r n C w Q) a w
  | [], C, fr, H, a, w, _, h, hst => by
    simp only [List.filterMap_nil] at h
    rw [AOps] at h
    exact xo_nil ⟨.normal, fr, H, C, trivial, hst, .refl hst.hs, h⟩
  | i :: rest, C, fr, H, a, w, hl, h, hst => by
    have hi := hl i (by simp)
    have ho : ops[i]? = some ops[i] := by simp [hi]
    generalize hoi : ops[i] = o at ho
    have hl' : ∀ j ∈ rest, j < ops.size := fun j hj => hl j (by simp [hj])
    simp only [List.filterMap_cons, ho] at h
    rw [AOps] at h
    have hρ := fun x => aeval_rel (E := E) hst.hs hst.fr x
    rcases guard_ok hst.fr h with ⟨hw, h⟩ | ⟨hw, h⟩
    · unfold AOp at h
      split at h
      · split at h
        · rename_i c hop
          split at h
          · rename_i f hcal
            have hd : ∀ c, o.op ≠ .defer c := fun c e => by rw [hop] at e; cases e
            refine xo_call ho hw hd ?_
            rw [call_run hcal hop]
            refine InvOk.mono (h B C w _ (c.args.toList.map a.eval) hst.hs (hρ f) (rels hρ _)) fun e w' hp => ?_
            obtain ⟨C', H', ar, h1, h2, h3⟩ := hp
            cases e with
            | returned v =>
              cases ar with
              | panic x => exact h1.elim
              | ret av =>
                simp only [EndRel] at h1
                obtain ⟨p1, p2, p3⟩ := put_rel (a := a) (dst := o.dst) hst.n (hst.fr.mono h2.le) h1
                exact (aops_list rest hl' h3 (hst.next h2 p2 p1 p3)).mono fun e a w hq => hq.from h2
            | panicked ch =>
              cases ar with
              | ret x => exact h1.elim
              | panic av =>
                exact ⟨.panic av, fr, H', C', h1, hst.next h2 hst.n (hst.fr.mono h2.le) rfl, h2, h3⟩
            | outgrown => cases ar <;> exact h1.elim
          · exact h.elim
        · exact h.elim
      · split at h
        · rename_i av H' hs
          obtain ⟨⟨nx, v, w', C', k1, k2, k3, k4⟩, hd⟩ := astep_ok (E := E) hst.hs hρ hs
          obtain ⟨p1, p2, p3⟩ := put_rel (a := a) (dst := o.dst) hst.n (hst.fr.mono k4.le) k3
          exact xo_value ho hw hd k1 k2 ((aops_list rest hl' h (hst.next k4 p2 p1 p3)).mono fun e a w hq => hq.from k4)
        · exact h.elim
    · have hundef : VRel C (.tuple []) undef := by simp only [VRel]; exact ⟨#[], rfl, VsRel.nil⟩
      obtain ⟨p1, p2, p3⟩ := put_rel (a := a) (dst := o.dst) hst.n hst.fr hundef
      exact xo_skip ho hw (aops_list rest hl' h (hst.next (.refl hst.hs) p2 p1 p3))

theorem dexts_lt : ∀ (fuel : Nat) (listed : Array Bool), ∀ l ∈ dexts ops fuel listed, ∀ i ∈ l, i < ops.size
  | 0, listed, l, hl, i, hi => by
    simp only [dexts, List.mem_singleton] at hl
    subst hl; cases hi
  | fuel + 1, listed, l, hl, i, hi => by
    unfold dexts at hl
    split at hl
    · simp only [List.mem_singleton] at hl
      subst hl; cases hi
    · rename_i x q hr
      obtain ⟨j, hj, h2⟩ := List.mem_flatMap.1 hl
      obtain ⟨l', h3, rfl⟩ := List.mem_map.1 h2
      rcases List.mem_cons.1 hi with rfl | hi
      · rw [← hr] at hj
        obtain ⟨_, o, ho, _⟩ := mem_ready.1 hj
        exact (Array.getElem?_eq_some_iff.1 ho).1
      · exact dexts_lt fuel _ l' h3 i hi

theorem adraw_sound (hm : E.P.follows .mixedOrders = true) {p : Plan} {id : Nat} {Q : AExit → AFr → AHeap → Prop} (h : ADraw E n ops p Q fr H) (hst : St E B z r n C fr H a w) :
    XWp E.P r (.region id ops true) (XQ E B z r n C w Q) a w := by
  refine x_region_draw fun t => ?_
  rw [hm]
  simp only [Region.schedule, Bool.true_or, if_true]
  have hdr := hst.hs.nxt_drew
  have hfalse : ∀ i, (Array.replicate ops.size false).getD i false = false := fun i => by
    simp [Array.getD_eq_getD_getElem?, Array.getElem?_replicate]
    split <;> simp
  have hst' : St E B z r n C fr H a w.drew := ⟨hst.hs.drew, hst.n, hst.fr, hst.df, hst.ro⟩
  have key : XOps E.P r ops (Region.linearise.go .any ops ops.size t (Array.replicate ops.size false) []) (XQ E B z r n C w.drew Q) a w.drew := by
    cases p with
    | st l =>
      obtain ⟨h1, h2⟩ := h
      simp only [planOk, Bool.and_eq_true] at h1
      exact astages_sound (r := r) (B := B) (z := z) h1.1 l 0 h1.2 (Nat.zero_le _) ops.size t (Array.replicate ops.size false) C fr H a w.drew (by simp) (fun i _ => by rw [hfalse]; simp) (by simp) h2 hst'
    | all =>
      have hmem := dexts_is (ops := ops) ops.size t (Array.replicate ops.size false)
      exact aops_list _ (dexts_lt _ _ _ hmem) (h _ hmem) hst'
  refine key.mono fun e a w hq => ?_
  obtain ⟨ae, fr', H', C', q1, q2, q3, q4⟩ := hq
  exact ⟨ae, fr', H', C', q1, q2, ⟨q3.le, Ev.trans (.drew B _) q3.ev, q3.I, q3.hs⟩, q4⟩

/-- Entering a range over a function, whatever it is that is called. -/
theorem stepR_ranged {b : Frame} {k : List Item} {cs : List Frame} {g : Operand} {ps : Array Tmp} {assign body : Code} {l : Nat} {mark : List Deferred} {w₁ w₂ : World} {nx : Next} {fr0 : Frame}
    (he : (Instr.enterLoop b.fn a.tmps ps assign body b.roundOf).run P w = .ok (l, mark) w₁)
    (hinv : (do let d ← Deferred.ofValue (a.eval g) #[.func (.yield l) #[] #[]]; invoke d.target d.args : Sem Next).run P w₁ = .ok nx w₂)
    (hn : (∃ f args, nx = .enter f args ∧ fr0 = Frame.enter P f args .normal) ∨ (∃ l' f tmps x y, nx = .round l' f tmps x y ∧ fr0 = Frame.round l' f tmps x y .normal)) :
    step P (lone (b.atR a (.code (.rangeFunc g ps assign body) :: k)) cs w) =
      .next (lone fr0 (b.atR { a with defers := mark ++ a.defers } (.inRangeFunc l :: k) :: cs) w₂) :=
  step_lone_go (by
    have hev := Frame.eval_atR b { a with defers := mark ++ a.defers } (.inRangeFunc l :: k)
    simp only [Frame.atR] at hev
    have hval : ({ tmps := a.tmps, defers := mark ++ a.defers } : Act).eval = a.eval := by
      funext x; cases x <;> rfl
    have hinv' : Sem.run P (do let d ← resolve (a.eval) (rangeCall g l) 0; invoke d.target d.args) w₁ = .ok nx w₂ := by
      rw [← hinv]
      simp [resolve, Act.eval]
    rcases hn with ⟨f, args, rfl, rfl⟩ | ⟨l', f, tmps, x, y, rfl, rfl⟩ <;>
    · simp only [Sem.run_bind, Result.andThen] at hinv'
      simp [stepG, stepG.exec, Frame.atR, Sem.runT_eq, he, GStep.bare_after, stepG.apply, hev, hval, Sem.run_bind, hinv', Result.andThen])

theorem getLoop_run {l : Nat} {rec : Loop} (h : w.heap[l]? = some (.loop rec)) : (Instr.getLoop l).run P w = .ok rec w := run_getLoop h

theorem enter_ok (hst : St E B z r n C fr H a w) (fn : FuncId) (ps : Array Tmp) (x y : Code) :
    ∃ l mark w₁ C₁, (Instr.enterLoop fn a.tmps ps x y r).run E.P w = .ok (l, mark) w₁ ∧ C₁.al H.next = some (l, 0) ∧
      Nxt E B C C₁ (H.alloc (.loop ⟨n, fr, ps, x, y, .ready, none⟩)) w w₁ ∧ DefOk z w₁ (mark ++ a.defers) := by
  cases hr : r with
  | none =>
    have n1 := hst.hs.hide (.deferred (some []))
    have hsz : (w.alloc (.deferred (some []))).heap.size = w.heap.size + 1 := by simp
    have n2 := n1.hs.alloc (.loop { state := .ready, pending := none, fn, tmps := a.tmps, params := ps, assign := x, body := y, defers := w.heap.size }) (.loop ⟨n, fr, ps, x, y, .ready, none⟩) (by
      refine ⟨rfl, { state := .ready, pending := none, fn, tmps := a.tmps, params := ps, assign := x, body := y, defers := w.heap.size }, ?_, rfl, rfl, rfl, rfl, rfl, hst.n, ?_⟩
      · have := Ctx.push_new (C := C.push (.deferred (some []))) (o := (.loop { state := .ready, pending := none, fn, tmps := a.tmps, params := ps, assign := x, body := y, defers := w.heap.size }))
        rw [n1.hs.heap] at this
        exact this
      · refine hst.fr.mono (n1.le.trans ((Ctx.le_push (by rw [n1.hs.heap]; exact n1.hs.lt)).trans (Ctx.le_name (C := Ctx.push _ _) (n1.hs.fresh H.next (Nat.le_refl _))))))
    refine ⟨w.heap.size + 1, [{ target := .collected w.heap.size, args := #[] }], _, _, run_enterLoop_outer fn a.tmps ps x y, ?_, n1.trans n2, ?_⟩
    · rw [← hsz]; exact upd_same _ _ _
    · obtain ⟨h0', bs', h1', h2', h3'⟩ := hst.df
      refine ⟨Nat.le_trans h0' (n1.trans n2).ev.below.size, w.heap.size :: bs', by rw [h1']; rfl, List.nodup_cons.2 ⟨fun hm => ?_, h2'⟩, fun b hb => ?_⟩
      · have := (Array.getElem?_eq_some_iff.1 (h3' _ hm).2).1
        omega
      · rcases List.mem_cons.1 hb with rfl | hb
        · exact ⟨h0', n2.ev.dfr _ _ (World.alloc_heap_new w _)⟩
        · exact ⟨(h3' b hb).1, (n1.trans n2).ev.dfr _ _ (h3' b hb).2⟩
  | some l0 =>
    obtain ⟨rec, hrec⟩ := hst.ro l0 hr
    have n2 := hst.hs.alloc (.loop { state := .ready, pending := none, fn, tmps := a.tmps, params := ps, assign := x, body := y, defers := rec.defers }) (.loop ⟨n, fr, ps, x, y, .ready, none⟩) (by
      refine ⟨rfl, { state := .ready, pending := none, fn, tmps := a.tmps, params := ps, assign := x, body := y, defers := rec.defers }, ?_, rfl, rfl, rfl, rfl, rfl, hst.n, ?_⟩
      · have := Ctx.push_new (C := C) (o := (.loop { state := .ready, pending := none, fn, tmps := a.tmps, params := ps, assign := x, body := y, defers := rec.defers }))
        rw [hst.hs.heap] at this
        exact this
      · refine hst.fr.mono ((Ctx.le_push (by rw [hst.hs.heap]; exact hst.hs.lt)).trans (Ctx.le_name (C := Ctx.push _ _) (hst.hs.fresh H.next (Nat.le_refl _)))))
    refine ⟨w.heap.size, [], _, _, ?_, upd_same _ _ _, n2, ?_⟩
    · unfold Instr.enterLoop
      simp only [Sem.run_bind, run_newObj_alloc, Result.andThen, Sem.run_pure, run_getLoop hrec]
    · exact hst.df.ev n2.ev

theorem arange_sound {g : Operand} {ps : Array Tmp} {x y : Code} {Q : AExit → AFr → AHeap → Prop}
    (h : AInv E (aeval E fr g) [.yield H.next] (H.alloc (.loop ⟨n, fr, ps, x, y, .ready, none⟩)) (ARanged H.next Q fr)) (hst : St E B z r n C fr H a w) :
    XWp E.P r (.rangeFunc g ps x y) (XQ E B z r n C w Q) a w := by
  intro b k cs hb
  obtain ⟨l, mark, w₁, C₁, he, hal, n1, hdf⟩ := enter_ok hst b.fn ps x y
  rw [← hb] at he
  have hinv := h B C₁ w₁ (a.eval g) [.func (.yield l) #[] #[]] n1.hs (VRel.mono n1.le _ _ (aeval_rel (E := E) hst.hs hst.fr g)) (VsRel.cons ⟨l, hal, rfl⟩ VsRel.nil)
  have main : ∀ (fr0 : Frame) (w2 : World), step E.P (lone (b.atR a (.code (.rangeFunc g ps x y) :: k)) cs w) = .next (lone fr0 (b.atR { a with defers := mark ++ a.defers } (.inRangeFunc l :: k) :: cs) w2) →
      Runs E.P fr0 w2 (RPost E B C₁ w₁ (ARanged H.next Q fr)) → ∃ e a' w', XQ E B z r n C w Q e a' w' ∧ XArr E.P (lone (b.atR a (.code (.rangeFunc g ps x y) :: k)) cs w) b k cs e a' w' := by
    intro fr0 w2 hst1 hrun
    obtain ⟨e, w3, ⟨C3, H3, ar, hend, n3, hpost⟩, hs⟩ := hrun (b.atR { a with defers := mark ++ a.defers } (.inRangeFunc l :: k)) cs
    have nn := n1.trans n3
    cases e with
    | outgrown => exact hs.elim
    | panicked ch =>
      cases ar with
      | ret v => exact hend.elim
      | panic av =>
        refine ⟨.panic ch, { a with defers := mark ++ a.defers }, w3, ⟨.panic av, fr, H3, C3, hend, ⟨nn.hs, hst.n, hst.fr.mono nn.le, hdf.ev n3.ev, fun l hl => by obtain ⟨rec, e⟩ := hst.ro l hl; exact nn.ev.lp l rec e⟩, nn, hpost⟩, ?_⟩
        simp only at hs
        rw [Frame.raise_atR] at hs
        exact ⟨_, .head hst1 hs⟩
    | returned v =>
      cases ar with
      | panic av => exact hend.elim
      | ret av =>
        simp only [ARanged] at hpost
        split at hpost
        · rename_i lp hlp
          obtain ⟨hbusy, hpost⟩ := hpost
          have hnd : H3.get H.next ≠ .dead := by rw [hlp]; exact fun e => by cases e
          have hlt : H.next < H3.next := by
            rcases Nat.lt_or_ge H.next H3.next with h | h
            · exact h
            · exact absurd (n3.hs.dead _ h) hnd
          obtain ⟨b0, o0, k1, k2, k3, k4, k5⟩ := n3.hs.blk H.next hlt hnd
          rw [hlp] at k5
          obtain ⟨rfl, rec, k6, k7, k8, k9⟩ := k5
          have hal3 : C3.al H.next = some (l, 0) := n3.le.al _ _ hal
          rw [hal3] at k1; cases k1
          rw [n3.hs.heap] at k6
          have hendl := run_endLoop (P := E.P) k6 (by rw [k7]; exact hbusy)
          have n4 := n3.hs.put (i := H.next) (o' := .loop { rec with state := .exhausted }) (ab := .dead) hal3 hnd k6 (fun _ _ _ e => by cases e) (fun _ e => by cases e) (fun r _ => ⟨_, rfl⟩) (fun _ _ _ => trivial)
          generalize w3.putObj l (.loop { rec with state := .exhausted }) = w4 at hendl n4
          rw [k8] at hendl
          have nn4 := nn.trans n4
          have hst4 : St E B z r n _ fr (H3.set H.next .dead) { a with defers := mark ++ a.defers } w4 :=
            ⟨nn4.hs, hst.n, hst.fr.mono nn4.le, hdf.ev (n3.trans n4).ev, fun l hl => by obtain ⟨rec, e⟩ := hst.ro l hl; exact nn4.ev.lp l rec e⟩
          simp only at hs
          rw [finish_atR_inRangeFunc] at hs
          have hs2 : Steps E.P _ _ := Steps.trans (.head hst1 hs) (.one (stepR_endRangeFunc (b := b) (a := { a with defers := mark ++ a.defers }) (k := k) (cs := cs) hendl))
          split at hpost
          · rename_i hpn
            rw [hpn] at hs2
            exact ⟨.normal, _, _, ⟨.normal, fr, _, _, trivial, hst4, nn4, hpost⟩, hs2⟩
          · rename_i hpn
            rw [hpn] at hs2
            exact ⟨.ret, _, _, ⟨.ret, fr, _, _, trivial, hst4, nn4, hpost⟩, _, hs2⟩
          · rename_i i hpn
            rw [hpn] at hs2
            exact ⟨.exit i, _, _, ⟨.exit i, fr, _, _, rfl, hst4, nn4, hpost⟩, k, rfl, hs2⟩
          · exact hpost.elim
        · exact hpost.elim
  unfold InvOk at hinv
  split at hinv
  · rename_i f args w2 hrun
    exact main _ _ (stepR_ranged he hrun (.inl ⟨f, args, rfl, rfl⟩)) hinv
  · rename_i l' f tmps x' y' w2 hrun
    exact main _ _ (stepR_ranged he hrun (.inr ⟨l', f, tmps, x', y', rfl, rfl⟩)) hinv
  · exact hinv.elim

theorem awp_sound (hm : E.P.follows .mixedOrders = true) : ∀ (c : Code) (Q : AExit → AFr → AHeap → Prop) {C : Ctx} {fr : AFr} {H : AHeap} {a : Act} {w : World}, AWp E n c Q fr H → St E B z r n C fr H a w →
    XWp E.P r c (XQ E B z r n C w Q) a w
  | .skip, Q, C, fr, H, a, w, h, hst => x_skip ⟨.normal, fr, H, C, trivial, hst, .refl hst.hs, h⟩
  | .label l, Q, C, fr, H, a, w, h, hst => x_label ⟨.normal, fr, H, C, trivial, hst, .refl hst.hs, h⟩
  | .ret, Q, C, fr, H, a, w, h, hst => x_ret ⟨.ret, fr, H, C, trivial, hst, .refl hst.hs, h⟩
  | .exit i, Q, C, fr, H, a, w, h, hst => x_exit ⟨.exit i, fr, H, C, rfl, hst, .refl hst.hs, h⟩
  | .goto l, Q, C, fr, H, a, w, h, hst => x_goto ⟨.goto l, fr, H, C, rfl, hst, .refl hst.hs, h⟩
  | .seq x y, Q, C, fr, H, a, w, h, hst => by
    refine x_seq ((awp_sound hm x _ h hst).mono fun e a1 w1 hq => ?_)
    obtain ⟨ae, fr1, H1, C1, q1, q2, q3, q4⟩ := hq
    cases ae <;> cases e <;> (try exact q1.elim)
    · exact .inl ⟨rfl, (awp_sound hm y Q q4 q2).mono fun e a w hq => hq.from q3⟩
    all_goals exact .inr ⟨(fun e => by cases e), _, fr1, H1, C1, q1, q2, q3, q4⟩
  | .cond c t e, Q, C, fr, H, a, w, h, hst => by
    simp only [AWp] at h
    have hρ := aeval_rel (E := E) hst.hs hst.fr c
    split at h
    · rename_i b hb
      rw [hb] at hρ
      simp only [VRel] at hρ
      refine x_cond hρ ?_
      split at h
      · rename_i hbt; subst hbt; exact awp_sound hm t Q h hst
      · rename_i hbt
        have : b = false := by cases b <;> simp_all
        subst this; exact awp_sound hm e Q h hst
    · exact h.elim
  | .block i c, Q, C, fr, H, a, w, h, hst => by
    refine x_block ((awp_sound hm c _ h hst).mono fun e a1 w1 hq => ?_)
    obtain ⟨ae, fr1, H1, C1, q1, q2, q3, q4⟩ := hq
    cases ae <;> cases e <;> (try exact q1.elim)
    · exact ⟨.normal, fr1, H1, C1, trivial, q2, q3, q4⟩
    · rename_i j j'
      simp only [ERel] at q1
      subst q1
      simp only [ABlock] at q4
      simp only [Exit.inBlock]
      split at q4
      · rename_i hj; rw [if_pos hj]; exact ⟨.normal, fr1, H1, C1, trivial, q2, q3, q4⟩
      · rename_i hj; rw [if_neg hj]; exact ⟨.exit j, fr1, H1, C1, rfl, q2, q3, q4⟩
    all_goals exact ⟨_, fr1, H1, C1, q1, q2, q3, q4⟩
  | .loop c, Q, C, fr, H, a, w, h, hst => by
    obtain ⟨I, m, h0, hround⟩ := h
    refine x_loop (fun a1 w1 m1 => ∃ fr1 H1 C1, St E B z r n C1 fr1 H1 a1 w1 ∧ Nxt E B C C1 H1 w w1 ∧ I fr1 H1 m1) ⟨fr, H, C, hst, .refl hst.hs, h0⟩ fun m1 a1 w1 hI => ?_
    obtain ⟨fr1, H1, C1, s1, s2, s3⟩ := hI
    refine (awp_sound hm c _ (hround m1 fr1 H1 s3) s1).mono fun e a2 w2 hq => ?_
    obtain ⟨ae, fr2, H2, C2, q1, q2, q3, q4⟩ := hq
    cases ae <;> cases e <;> (try exact q1.elim)
    · obtain ⟨m2, hm2, hI2⟩ := q4
      exact .inl ⟨rfl, m2, hm2, fr2, H2, C2, q2, s2.trans q3, hI2⟩
    all_goals exact .inr ⟨(fun e => by cases e), _, fr2, H2, C2, q1, q2, s2.trans q3, q4⟩
  | .region id ops false, Q, C, fr, H, a, w, h, hst => by
    have := aops_sound (r := r) (B := B) ops.toList 0 (fun j => by simp) h hst
    refine x_region ?_
    rw [List.range_eq_range']
    simpa using this
  | .region id ops true, Q, C, fr, H, a, w, h, hst => by
    obtain ⟨m, h⟩ := h
    exact adraw_sound hm h hst
  | .rangeFunc g ps x y, Q, C, fr, H, a, w, h, hst => arange_sound h hst
  | .scope c, Q, C, fr, H, a, w, h, hst => h.elim
  | .refuse s, Q, C, fr, H, a, w, h, hst => h.elim
end
end Go.Zk
