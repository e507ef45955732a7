/- Contracts: slices.Clone of whole numbers, eval.tuples. Conditions: the package variables are laid. Contracts: the atoms of formulas. Conditions: the package variables are laid. The meaning of formulas, and what well-typed formulas have. Conditions: none. Contracts: eval.holds, the connectives. Conditions: the package variables are laid. Contracts: eval.holds, comparisons and atoms. Conditions: the package variables are laid. Contracts: eval.holds, quantifiers. Conditions: the package variables are laid. Contracts: eval.holds. Conditions: the package variables are laid. Contracts: eval.Broken. Conditions: the package variables are laid. -/
import Derived.Test.YtiplcbpocpgbbaaGreatDoorA16
set_option linter.unusedSectionVars false
set_option linter.unusedSimpArgs false
set_option linter.unusedVariables false
set_option maxRecDepth 10000
namespace Go.Zk
open Go.Proofs
variable {E : Env} [h : IsG E]
def nints (l : List Nat) : List AV := ints (l.map fun (k : Nat) => (k : Int))
theorem clone_35 (id n : Nat) (w : List Nat) (H : AHeap) (hg : H.get id = .row (nints w)) (hn : w.length = n) (hb : n ≤ 4096) (hid : id < H.next) :
    AF E 35 [.msl id 0 n 1 true] H (fun ar H' => ∃ id' tg, H.next ≤ id' ∧ id' < H'.next ∧ ar = .ret (.msl id' 0 n 1 tg) ∧ H'.get id' = .row (nints w) ∧ ∀ j, j < H.next → H'.get j = H.get j) := by
  refine af_of_body mixed fn_35 (by simp) ?_
  unfold Tryz.f35 ABody
  have hne : ¬ id = H.next := by omega
  cases n with
  | zero =>
    have : w = [] := List.length_eq_zero_iff.1 hn
    subst this
    simp [hg, hne, afill]
    exact ⟨H.next, Nat.le_refl _, by omega, rfl, by simp [nints, ints], fun j hj e => absurd e (by omega)⟩
  | succ n =>
    have hc : (nints w).length = n + 1 := by simp [nints, hn]
    simp [hg, hne, afill, hc]
    rw [if_pos ⟨by omega, by omega⟩]
    simp
    refine ⟨H.next + 1, by omega, by omega, rfl, ?_, fun j hj => ?_⟩
    · simp
      rw [List.take_of_length_le (by omega)]
    · have e1 : ¬ j = H.next := by omega
      have e2 : ¬ j = H.next + 1 := by omega
      simp [e1, e2]
theorem n_len {l : List Nat} : (nints l).length = l.length := by simp [nints]
theorem n_mid {t r : List Nat} {d : Nat} : nints (t ++ d :: r) = nints t ++ I d :: nints r := by simp [nints, ints]
theorem n_at {t r : List Nat} {d : Nat} : (nints (t ++ d :: r))[t.length]? = some (I d) := by
  rw [n_mid, List.getElem?_append_right (by rw [n_len]; exact Nat.le_refl _), n_len]; simp
theorem n_get {t r : List Nat} {d : Nat} {h : t.length < (nints (t ++ d :: r)).length} : (nints (t ++ d :: r))[t.length] = I d := by
  have := n_at (t := t) (r := r) (d := d)
  rw [List.getElem?_eq_getElem h] at this
  exact Option.some.inj this
theorem n_set {t r : List Nat} {d v : Nat} : splice (nints (t ++ d :: r)) t.length [I v] = nints (t ++ v :: r) := by
  rw [n_mid, n_mid, splice, List.take_left' n_len, List.drop_append, List.drop_eq_nil_of_le (by rw [n_len]; simp), n_len]
  simp
theorem zeroT_snoc (z : Nat) : zeroT (z + 1) = zeroT z ++ [0] := by unfold zeroT; rw [List.replicate_succ']
theorem zeroT_rev (z : Nat) : (zeroT z).reverse = zeroT z := by unfold zeroT; simp
theorem okT_le {M : Nat} : ∀ {zs ds : List Nat}, (∀ z ∈ zs, z ≤ M) → okT zs ds → ∀ d ∈ ds, d ≤ M
  | [], [], _, _, d, hd => by simp at hd
  | [], _ :: _, _, h, _, _ => h.elim
  | _ :: _, [], _, h, _, _ => h.elim
  | z :: zs, d :: ds, hz, h, x, hx => by
    simp at hx
    rcases hx with rfl | hx
    · have := hz z (by simp); have := h.1; omega
    · exact okT_le (fun y hy => hz y (by simp [hy])) h.2 x hx
def TupA (sz : List Nat) : Nat → Nat → AHeap → List AV → Prop := fun N i H args => ∃ id tg t, N < id ∧ id < H.next ∧ args = [.msl id 0 sz.length 1 tg] ∧ (tuplesL sz)[i]? = some t ∧ H.get id = .row (nints t)
theorem tuples_135 (sz : List Nat) (bs : List BindD) (hb : bs.length = sz.length) (h6 : sz.length ≤ 6) (hz : ∀ z ∈ sz, z ≤ 1000) :
    IterG E (fun y H Post => AF E 135 [y, .rptr [isl (sz.map fun (k : Nat) => (k : Int))] 0, .rptr [bindE.sl bs] 0] H Post) (tuplesL sz).length (TupA sz) weekP := by
  intro y H0 J D hy hJ hD h0 step
  refine af_of_body mixed fn_135 (by simp) ?_
  unfold Tryz.f135 ABody
  have c76 := contains_76 (E := E) (sz.map fun (k : Nat) => (k : Int)) 0 (by simp [Big]; omega)
  have hany : ((sz.map fun (k : Nat) => (k : Int)).any fun y => decide (y = 0)) = sz.any (fun z => decide (z = 0)) := by
    rw [List.any_map]; congr 1; funext z; simp
  rw [hany] at c76
  simp
  refine rc_pure c76 rfl ?_
  cases hz0 : sz.any (fun z => decide (z = 0))
  · simp [Enc.sl, hb]
    rw [if_pos ⟨by omega, by omega⟩]
    simp
    have hzero : List.replicate sz.length (AV.int IntKind.i64 0) = nints (zeroT sz.length) := by simp [nints, zeroT, ints]
    rw [hzero]
    have hno : ∀ z ∈ sz.reverse, z ≠ 0 := fun z hm e => by
      have := List.any_eq_false.1 hz0 z (by simpa using hm)
      simp [e] at this
    have hL : tuplesL sz = allT sz.reverse (prodT sz.reverse) (zeroT sz.length) := by unfold tuplesL; rw [if_neg (by simp [hz0])]
    generalize hn : sz.length = n at *
    refine wp_loop (fun fr H m => ∃ (i f : Nat) (l : List Nat), fr 0 = y ∧ fr 1 = .rptr [isl (sz.map fun (k : Nat) => (k : Int))] 0 ∧ fr 4 = .msl H0.next 0 n 1 true ∧ H0.next < H.next ∧ H.get H0.next = .row (nints l.reverse) ∧ okT sz.reverse l ∧
      f + rankT sz.reverse l = prodT sz.reverse ∧ (tuplesL sz).drop i = allT sz.reverse f l ∧ i + m = (tuplesL sz).length ∧ J i H) (tuplesL sz).length ?_ ?_
    · refine ⟨0, prodT sz.reverse, zeroT n, ?_⟩
      simp [zeroT_rev, isl]
      refine ⟨by have := zeroT_ok hno; rw [List.length_reverse, hn] at this; exact this, zeroT_rank, hL, hJ 0 _ _ (Nat.le_refl _) h0 (by simp) fun j hj hp => ?_⟩
      have : ¬ j = H0.next := hp
      simp [this]
    rintro m fr H ⟨i, f, l, e0, e1, e4, hN, hg, ho, hf, hd, hm, hj⟩
    have hrk := rank_ltT ho
    have hll : l.length = n := by have := okT_len ho; simpa [hn] using this
    obtain ⟨f, rfl⟩ : ∃ k, f = k + 1 := ⟨f - 1, by omega⟩
    rw [allT] at hd
    have hi : i < (tuplesL sz).length := by
      rcases Nat.lt_or_ge i (tuplesL sz).length with h | h
      · exact h
      · rw [List.drop_eq_nil_of_le h] at hd; cases hd
    have hwi : (tuplesL sz)[i]? = some l.reverse := by
      have := congrArg (fun l => l[0]?) hd
      simpa using this
    simp [e0, e1, e4]
    refine rc_af ((clone_35 H0.next n l.reverse H hg (by simp [hll]) (by omega) hN).mono fun ar H1 hp => ?_)
    obtain ⟨id', tg, p1, p2, rfl, p4, p5⟩ := hp
    simp [e0, e1, e4]
    refine rc_yield (step i hi H1 _ (by omega) (hJ i _ _ (by omega) hj (by omega) fun j hj _ => p5 j hj) ⟨id', tg, l.reverse, by omega, p2, by rw [hn], hwi, p4⟩) ?_ ?_
    · intro H2 p q r
      have hg1 : H2.get H0.next = .row (nints l.reverse) := by rw [q _ rfl (by omega), p5 _ hN]; exact hg
      simp [e0, e1, e4]
      refine wp_loop (fun fr H m => ∃ (t : List Nat) (z : Nat), fr 0 = y ∧ fr 1 = .rptr [isl (sz.map fun (k : Nat) => (k : Int))] 0 ∧ fr 4 = .msl H0.next 0 n 1 true ∧ fr 5 = I ((t.length : Int) - 1) ∧ H0.next < H.next ∧ H.get H0.next = .row (nints (t ++ zeroT z)) ∧
        t.length + z = n ∧ (∀ d ∈ t, d ≤ 1000) ∧ incT sz.reverse l = (incT (sz.take t.length).reverse t.reverse).map (zeroT z ++ ·) ∧ t.length = m ∧ J (i + 1) H) n ?_ ?_
      · refine ⟨l.reverse, 0, ?_⟩
        simp [e0, e1, e4, hll, zeroT, hg1, isl]
        refine ⟨wrap_of (by omega) (by omega), by omega, ?_, ?_, r⟩
        · exact okT_le (fun z hm => hz z (by simpa using hm)) ho
        · rw [List.take_of_length_le (by omega)]
      rintro m' fr H3 ⟨t, z, e0, e1, e4, e5, hN2, hg2, ht, hb2, hinc, rfl, hj2⟩
      have hx2 : (tuplesL sz).drop (i + 1) = (match incT sz.reverse l with | some l' => allT sz.reverse f l' | none => []) := by
        rw [← List.drop_drop, hd]; rfl
      rcases List.eq_nil_or_concat t with rfl | ⟨t, d, rfl⟩
      · simp
        refine wp_open [(14, true)] (by rfl) ?_
        simp [e0, e1, e4, e5]
        refine ⟨logOk_none rfl, ?_⟩
        have hnone : incT sz.reverse l = none := hinc
        rw [hnone] at hd
        have : i + 1 = (tuplesL sz).length := by
          have := congrArg List.length hd
          simp at this; omega
        rw [← this]
        exact ⟨by omega, .inl (hJ _ _ _ (by omega) hj2 (by simp) fun j _ _ => rfl)⟩
      · have hlt : t.length < n := by simp at ht; omega
        have ht' : t.length + 1 + z = n := by simpa using ht
        have htz : t.length < sz.length := by omega
        have e5' : fr 5 = I t.length := by rw [e5]; simp
        have hd1 : d ≤ 1000 := hb2 d (by simp)
        have hbt : ∀ d ∈ t, d ≤ 1000 := fun x hx => hb2 x (by simp [hx])
        simp only [List.concat_eq_append, List.append_assoc, List.singleton_append] at hg2
        simp only [List.concat_eq_append, List.length_append, List.length_singleton, List.take_succ_eq_append_getElem htz, List.reverse_append, List.reverse_cons, List.reverse_nil, List.nil_append, List.singleton_append, incT] at hinc
        have hnl : (nints (t ++ d :: zeroT z)).length = n := by rw [n_len]; simp [zeroT]; omega
        have hsg : (ints (sz.map fun (k : Nat) => (k : Int)))[t.length]? = some (I sz[t.length]) := by simp [htz]
        have hw1 : IntKind.i64.wrap ((d : Int) + 1) = d + 1 := wrap_of (by omega) (by omega)
        simp
        refine wp_open [(14, true)] (by rfl) ?_
        simp [e0, e1, e4, e5', isl, hlt, hg2, n_at, n_get, hnl, hsg, hw1, htz]
        refine ⟨logOk_none rfl, ?_⟩
        have hnl' : ∀ d : Nat, (nints (t ++ d :: zeroT z)).length = n := fun d => by rw [n_len]; simp [zeroT]; omega
        have hs0 : splice (nints (t ++ d :: zeroT z)) t.length [AV.int IntKind.i64 0] = nints (t ++ 0 :: zeroT z) := n_set (v := 0)
        have hs1 : splice (nints (t ++ d :: zeroT z)) t.length [AV.int IntKind.i64 ((d : Int) + 1)] = nints (t ++ (d + 1) :: zeroT z) := n_set (v := d + 1)
        by_cases b : d + 1 = sz[t.length]
        · have bi : (d : Int) + 1 = sz[t.length] := by omega
          rw [if_pos b] at hinc
          simp [bi, e0, e1, e4, e5', isl, hlt, hg2, hnl, hs0, show t.length + 1 ≤ n by omega]
          refine ⟨t.length, by omega, t, wrap_of (by omega) (by omega), by omega, z + 1, ?_, by omega, hbt, ?_, rfl, hJ _ _ _ (by omega) hj2 (by simp) fun j _ hp => ?_⟩
          · rw [show zeroT (z + 1) = 0 :: zeroT z from by unfold zeroT; rw [List.replicate_succ]]
          · rw [hinc, zeroT_snoc]
            cases incT (List.take t.length sz).reverse t.reverse <;> simp
          · have : ¬ j = H0.next := hp
            simp [this]
        · have bi : ¬ (d : Int) + 1 = sz[t.length] := by omega
          rw [if_neg b] at hinc
          have hnn : ¬ (t.length : Int) < 0 := by omega
          simp [bi, e0, e1, e4, e5', isl, hlt, hg2, hnl, n_at, n_get, hw1, hs1, hnn, show t.length + 1 ≤ n by omega]
          obtain ⟨z1, z2⟩ := inc_rankT ho hinc
          refine ⟨m - 1, by omega, by omega, i + 1, f, _, ?_, z1, by omega, by rw [hx2, hinc]; rfl, by omega, hJ _ _ _ (by omega) hj2 (by simp) fun j _ hp => ?_⟩
          · simp [zeroT_rev]
          · have : ¬ j = H0.next := hp
            simp [this]
    · intro H2 p q r
      simp [e0, e1, e4]
      exact ⟨by omega, .inr r⟩
  · have ht : tuplesL sz = [] := by unfold tuplesL; rw [if_pos hz0]
    simp [ht] at step ⊢
    exact .inl h0
def cnts (s : SchoolD) (bs : List BindD) : List Nat := bs.map fun b => countE s b.sort
theorem sizes_cnts (s : SchoolD) (bs : List BindD) : sizesE s bs = (cnts s bs).map fun (k : Nat) => (k : Int) := by simp [sizesE, cnts]
def tuplesF (s : SchoolD) (bs : List BindD) : AV := .func 135 [] [.rptr [isl (sizesE s bs)] 0, .rptr [bindE.sl bs] 0]
theorem tuples_86 (s : SchoolD) (bs : List BindD) (hs : s.Small) (hb : bs.length ≤ 6) : PF E 86 [s.av, bindE.sl bs] (tuplesF s bs) := by
  refine pf_of_body mixed fn_86 (by simp) ?_
  unfold Tryz.f86 ABody
  simp [SchoolD.av, SchoolD.cells, Enc.sl]
  have c134 := sizes_134 (E := E) s bs hs (by omega)
  rw [SchoolD.av, SchoolD.cells] at c134
  simp only [Enc.sl] at c134
  refine rc_pure c134 rfl ?_
  simp [isl]
  exact ⟨3, Pur.fn .nil (.cons (Pur.box (by simp [isl]) rfl) (.cons (Pur.box (by simp [Enc.sl]) rfl) .nil))⟩
def tupsOf (s : SchoolD) (bs : List BindD) : List (List Nat) := tuplesL (cnts s bs)
theorem tuples_iter (s : SchoolD) (bs : List BindD) (hs : s.Tiny) (hb : bs.length ≤ 6) : IterG E (fun y H Post => AInv E (tuplesF s bs) [y] H Post) (tupsOf s bs).length (TupA (cnts s bs)) weekP := by
  intro y H0 J D hy hJ hD h0 step
  have := tuples_135 (E := E) (cnts s bs) bs (by simp [cnts]) (by simp [cnts]; exact hb) (fun z hz => by
    simp [cnts] at hz; obtain ⟨b, _, rfl⟩ := hz; exact hs.count b.sort) y H0 J D hy hJ hD h0 step
  rw [← sizes_cnts] at this
  exact ainv_func this
end Go.Zk
namespace Go.Zk
open Go.Proofs
variable {E : Env} [h : IsG E]
def hasG {α : Type} (l : List α) (a : Int) (f : α → List Int) (n : Int) : Bool := if 0 ≤ a ∧ a < l.length then ((l[a.toNat]?).map fun x => (f x).any fun y => decide (y = n)).getD false else false
theorem list_328 (x : LessonD) : PF E 328 [.agg (lessonE.enc x)] (isl x.who) := by
  refine pf_of_body mixed fn_328 (by simp) ?_
  unfold Tryz.f328 ABody
  simp [lessonE]
  exact ⟨0, Pur.self rfl⟩
theorem list_329 (x : LessonD) : PF E 329 [.agg (lessonE.enc x)] (isl x.groups) := by
  refine pf_of_body mixed fn_329 (by simp) ?_
  unfold Tryz.f329 ABody
  simp [lessonE]
  exact ⟨0, Pur.self rfl⟩
theorem list_331 (x : PersonD) : PF E 331 [.agg (personE.enc x)] (isl x.away) := by
  refine pf_of_body mixed fn_331 (by simp) ?_
  unfold Tryz.f331 ABody
  simp [personE]
  exact ⟨0, Pur.self rfl⟩
theorem list_333 (x : RoomD) : PF E 333 [.agg (roomE.enc x)] (isl x.shut) := by
  refine pf_of_body mixed fn_333 (by simp) ?_
  unfold Tryz.f333 ABody
  simp [roomE]
  exact ⟨0, Pur.self rfl⟩
theorem has_327 (l : List LessonD) (a n : Int) (k : FuncId) (f : LessonD → List Int) (hk : ∀ x, PF E k [.agg (lessonE.enc x)] (isl (f x))) (hb : ∀ x ∈ l, Big (f x).length) : PF E 327 [lessonE.sl l, I a, .func k [] [], I n] (.bool (hasG l a f n)) := by
  refine pf_of_body mixed fn_327 (by simp) ?_
  unfold Tryz.f327 ABody
  by_cases h0 : 0 ≤ a
  · by_cases h1 : a < l.length
    · have hl : a.toNat < l.length := by omega
      simp [h0, h1, hl, Enc.sl]
      rw [show apart true 3 (a.toNat * 3) (lessonE.cells l) = some (.agg (lessonE.enc l[a.toNat])) from lessonE.part hl]
      simp
      refine rc_pure (hk l[a.toNat]) (by simp [AV.purs, AV.pur, lessonE]) ?_
      simp
      refine rc_pure (contains_76 (f l[a.toNat]) n (hb _ (List.getElem_mem hl))) rfl ?_
      simp [hasG, h0, h1, hl]
      exact ⟨0, Pur.self rfl⟩
    · simp [h0, h1, hasG, Enc.sl]
      exact ⟨0, Pur.self rfl⟩
  · simp [h0, hasG]
    exact ⟨0, Pur.self rfl⟩
theorem has_330 (l : List PersonD) (a n : Int) (k : FuncId) (f : PersonD → List Int) (hk : ∀ x, PF E k [.agg (personE.enc x)] (isl (f x))) (hb : ∀ x ∈ l, Big (f x).length) : PF E 330 [personE.sl l, I a, .func k [] [], I n] (.bool (hasG l a f n)) := by
  refine pf_of_body mixed fn_330 (by simp) ?_
  unfold Tryz.f330 ABody
  by_cases h0 : 0 ≤ a
  · by_cases h1 : a < l.length
    · have hl : a.toNat < l.length := by omega
      simp [h0, h1, hl, Enc.sl]
      rw [show apart true 2 (a.toNat * 2) (personE.cells l) = some (.agg (personE.enc l[a.toNat])) from personE.part hl]
      simp
      refine rc_pure (hk l[a.toNat]) (by simp [AV.purs, AV.pur, personE]) ?_
      simp
      refine rc_pure (contains_76 (f l[a.toNat]) n (hb _ (List.getElem_mem hl))) rfl ?_
      simp [hasG, h0, h1, hl]
      exact ⟨0, Pur.self rfl⟩
    · simp [h0, h1, hasG, Enc.sl]
      exact ⟨0, Pur.self rfl⟩
  · simp [h0, hasG]
    exact ⟨0, Pur.self rfl⟩
theorem has_332 (l : List RoomD) (a n : Int) (k : FuncId) (f : RoomD → List Int) (hk : ∀ x, PF E k [.agg (roomE.enc x)] (isl (f x))) (hb : ∀ x ∈ l, Big (f x).length) : PF E 332 [roomE.sl l, I a, .func k [] [], I n] (.bool (hasG l a f n)) := by
  refine pf_of_body mixed fn_332 (by simp) ?_
  unfold Tryz.f332 ABody
  by_cases h0 : 0 ≤ a
  · by_cases h1 : a < l.length
    · have hl : a.toNat < l.length := by omega
      simp [h0, h1, hl, Enc.sl]
      rw [show apart true 4 (a.toNat * 4) (roomE.cells l) = some (.agg (roomE.enc l[a.toNat])) from roomE.part hl]
      simp
      refine rc_pure (hk l[a.toNat]) (by simp [AV.purs, AV.pur, roomE]) ?_
      simp
      refine rc_pure (contains_76 (f l[a.toNat]) n (hb _ (List.getElem_mem hl))) rfl ?_
      simp [hasG, h0, h1, hl]
      exact ⟨0, Pur.self rfl⟩
    · simp [h0, h1, hasG, Enc.sl]
      exact ⟨0, Pur.self rfl⟩
  · simp [h0, hasG]
    exact ⟨0, Pur.self rfl⟩
theorem school_320 (s : SchoolD) (a b : Int) (hs : s.Fit) : PF E 320 [s.av, I a, I b] (.bool (hasG s.lessons b LessonD.who a)) := by
  refine pf_of_body mixed fn_320 (by simp) ?_
  unfold Tryz.f320 ABody
  simp [SchoolD.av, SchoolD.cells]
  refine rc_pure (has_327 s.lessons b a 328 LessonD.who list_328 hs.who) rfl ?_
  simp
  exact ⟨0, Pur.self rfl⟩
theorem school_322 (s : SchoolD) (a b : Int) (hs : s.Fit) : PF E 322 [s.av, I a, I b] (.bool (hasG s.lessons b LessonD.groups a)) := by
  refine pf_of_body mixed fn_322 (by simp) ?_
  unfold Tryz.f322 ABody
  simp [SchoolD.av, SchoolD.cells]
  refine rc_pure (has_327 s.lessons b a 329 LessonD.groups list_329 hs.in_) rfl ?_
  simp
  exact ⟨0, Pur.self rfl⟩
theorem school_324 (s : SchoolD) (a b : Int) (hs : s.Fit) : PF E 324 [s.av, I a, I b] (.bool (hasG s.people a PersonD.away b)) := by
  refine pf_of_body mixed fn_324 (by simp) ?_
  unfold Tryz.f324 ABody
  simp [SchoolD.av, SchoolD.cells]
  refine rc_pure (has_330 s.people a b 331 PersonD.away list_331 hs.away) rfl ?_
  simp
  exact ⟨0, Pur.self rfl⟩
theorem school_326 (s : SchoolD) (a b : Int) (hs : s.Fit) : PF E 326 [s.av, I a, I b] (.bool (hasG s.rooms a RoomD.shut b)) := by
  refine pf_of_body mixed fn_326 (by simp) ?_
  unfold Tryz.f326 ABody
  simp [SchoolD.av, SchoolD.cells]
  refine rc_pure (has_332 s.rooms a b 333 RoomD.shut list_333 hs.shut) rfl ?_
  simp
  exact ⟨0, Pur.self rfl⟩
def placeAt (w : List PlaceD) (a : Int) : PlaceD := (w[a.toNat]?).getD ⟨0, 0⟩
def atomE (s : SchoolD) (w : List PlaceD) (k a b : Int) : Bool :=
  if k = 3 then decide ((placeAt w a).slot = b) else if k = 4 then decide ((placeAt w a).room = b) else if k = 5 then hasG s.lessons b LessonD.who a else if k = 6 then hasG s.lessons b LessonD.groups a
  else if k = 7 then hasG s.people a PersonD.away b else hasG s.rooms a RoomD.shut b
theorem atom_317 (s : SchoolD) (w : List PlaceD) (a b : Int) (h0 : 0 ≤ a) (h1 : a < w.length) : PF E 317 [stAV s w, I a, I b] (.bool (decide ((placeAt w a).slot = b))) := by
  have hl : a.toNat < w.length := by omega
  refine pf_of_body mixed fn_317 (by simp) ?_
  unfold Tryz.f317 ABody
  simp [stAV, stCells, SchoolD.cells, h0, h1, hl, Enc.sl]
  rw [show (placeE.cells w)[a.toNat * 2]? = some (I w[a.toNat].slot) from Enc.cell (c := placeE) (k := 0) hl (by decide)]
  simp [placeAt, hl]
  exact ⟨0, Pur.self rfl⟩
theorem atom_318 (s : SchoolD) (w : List PlaceD) (a b : Int) (h0 : 0 ≤ a) (h1 : a < w.length) : PF E 318 [stAV s w, I a, I b] (.bool (decide ((placeAt w a).room = b))) := by
  have hl : a.toNat < w.length := by omega
  refine pf_of_body mixed fn_318 (by simp) ?_
  unfold Tryz.f318 ABody
  simp [stAV, stCells, SchoolD.cells, h0, h1, hl, Enc.sl]
  rw [show (placeE.cells w)[a.toNat * 2 + 1]? = some (I w[a.toNat].room) from Enc.cell (c := placeE) (k := 1) hl (by decide)]
  simp [placeAt, hl]
  exact ⟨0, Pur.self rfl⟩
theorem atom_319 (s : SchoolD) (w : List PlaceD) (a b : Int) (hs : s.Fit) : PF E 319 [stAV s w, I a, I b] (.bool (hasG s.lessons b LessonD.who a)) := by
  refine pf_of_body mixed fn_319 (by simp) ?_
  unfold Tryz.f319 ABody
  simp [stAV, stCells, SchoolD.cells]
  have c := school_320 (E := E) s a b hs
  rw [SchoolD.av, SchoolD.cells] at c
  refine rc_pure c rfl ?_
  simp
  exact ⟨0, Pur.self rfl⟩
theorem atom_321 (s : SchoolD) (w : List PlaceD) (a b : Int) (hs : s.Fit) : PF E 321 [stAV s w, I a, I b] (.bool (hasG s.lessons b LessonD.groups a)) := by
  refine pf_of_body mixed fn_321 (by simp) ?_
  unfold Tryz.f321 ABody
  simp [stAV, stCells, SchoolD.cells]
  have c := school_322 (E := E) s a b hs
  rw [SchoolD.av, SchoolD.cells] at c
  refine rc_pure c rfl ?_
  simp
  exact ⟨0, Pur.self rfl⟩
theorem atom_323 (s : SchoolD) (w : List PlaceD) (a b : Int) (hs : s.Fit) : PF E 323 [stAV s w, I a, I b] (.bool (hasG s.people a PersonD.away b)) := by
  refine pf_of_body mixed fn_323 (by simp) ?_
  unfold Tryz.f323 ABody
  simp [stAV, stCells, SchoolD.cells]
  have c := school_324 (E := E) s a b hs
  rw [SchoolD.av, SchoolD.cells] at c
  refine rc_pure c rfl ?_
  simp
  exact ⟨0, Pur.self rfl⟩
theorem atom_325 (s : SchoolD) (w : List PlaceD) (a b : Int) (hs : s.Fit) : PF E 325 [stAV s w, I a, I b] (.bool (hasG s.rooms a RoomD.shut b)) := by
  refine pf_of_body mixed fn_325 (by simp) ?_
  unfold Tryz.f325 ABody
  simp [stAV, stCells, SchoolD.cells]
  have c := school_326 (E := E) s a b hs
  rw [SchoolD.av, SchoolD.cells] at c
  refine rc_pure c rfl ?_
  simp
  exact ⟨0, Pur.self rfl⟩
/-- The function of an atom's kind. -/
def atomF (k : Int) : FuncId := if k = 3 then 317 else if k = 4 then 318 else if k = 5 then 319 else if k = 6 then 321 else if k = 7 then 323 else 325
theorem atom_get (k : Int) : getK evalAtoms k = if 3 ≤ k ∧ k ≤ 8 then some (.func (atomF k) [] []) else none := by
  by_cases hk : 3 ≤ k ∧ k ≤ 8
  · rw [if_pos hk]
    have : k = 3 ∨ k = 4 ∨ k = 5 ∨ k = 6 ∨ k = 7 ∨ k = 8 := by omega
    rcases this with rfl | rfl | rfl | rfl | rfl | rfl <;> rfl
  · rw [if_neg hk]
    have : ∀ i : Int, 3 ≤ i ∧ i ≤ 8 → decide (i = k) = false := fun i hi => by simp; omega
    simp only [getK, evalAtoms, List.find?_cons, this 3 (by omega), this 4 (by omega), this 5 (by omega), this 6 (by omega), this 7 (by omega), this 8 (by omega)]
    rfl
theorem atom_pf (s : SchoolD) (w : List PlaceD) (k a b : Int) (hs : s.Fit) (hk : 3 ≤ k ∧ k ≤ 8) (ha : k ≤ 4 → 0 ≤ a ∧ a < w.length) : PF E (atomF k) [stAV s w, I a, I b] (.bool (atomE s w k a b)) := by
  have : k = 3 ∨ k = 4 ∨ k = 5 ∨ k = 6 ∨ k = 7 ∨ k = 8 := by omega
  rcases this with rfl | rfl | rfl | rfl | rfl | rfl
  · obtain ⟨h0, h1⟩ := ha (by omega)
    exact atom_317 s w a b h0 h1
  · obtain ⟨h0, h1⟩ := ha (by omega)
    exact atom_318 s w a b h0 h1
  · exact atom_319 s w a b hs
  · exact atom_321 s w a b hs
  · exact atom_323 s w a b hs
  · exact atom_325 s w a b hs
end Go.Zk
namespace Go.Zk
open Go.Proofs
def signE (nm : Str) (c : Int) : Bool := if nm = [33, 61] then decide (¬ c = 0) else if nm = [60] then decide (c < 0) else if nm = [60, 61] then decide (c ≤ 0) else if nm = [61] then decide (c = 0) else if nm = [62] then decide (0 < c) else decide (0 ≤ c)
def termAt (ts : List TermD) (i : Nat) : TermD := (ts[i]?).getD ⟨0, [], 0⟩
def ints' (t : List Nat) : List Int := t.map fun (k : Nat) => (k : Int)
def countT (s : SchoolD) (env : List EnvD) (bs : List BindD) (g : List EnvD → Bool) : Nat := ((tupsOf s bs).filter fun t => g (withE env bs (ints' t))).length
def partAt (hs : List (List EnvD → Bool)) (env : List EnvD) (i : Nat) : Bool := ((hs[i]?).map fun g => g env).getD false
def holdsK (s : SchoolD) (w : List PlaceD) (k : Int) (nm : Str) (n : Int) (ts : List TermD) (bs : List BindD) (hs : List (List EnvD → Bool)) (env : List EnvD) : Bool :=
  if k = 1 then true else if k = 2 then false
  else if k = 9 then signE nm (cmpI (valueE s env (termAt ts 0)) (valueE s env (termAt ts 1)))
  else if k = 10 then !partAt hs env 0 else if k = 11 then partAt hs env 0 && partAt hs env 1 else if k = 12 then partAt hs env 0 || partAt hs env 1
  else if k = 13 then !partAt hs env 0 || partAt hs env 1
  else if 3 ≤ k ∧ k ≤ 8 then atomE s w k (posOf env (termAt ts 0).name) (posOf env (termAt ts 1).name)
  else if k = 14 then decide (countT s env bs (fun e => partAt hs e 0) = (tupsOf s bs).length) else if k = 15 then decide (0 < countT s env bs (fun e => partAt hs e 0))
  else if k = 16 then decide (n ≤ countT s env bs (fun e => partAt hs e 0)) else decide ((countT s env bs (fun e => partAt hs e 0) : Int) ≤ n)
mutual
def holdsE (s : SchoolD) (w : List PlaceD) : FormD → List EnvD → Bool
  | .mk k nm n ts bs l => holdsK s w k nm n ts bs (holdsL s w l)
def holdsL (s : SchoolD) (w : List PlaceD) : List FormD → List (List EnvD → Bool)
  | [] => []
  | f :: l => holdsE s w f :: holdsL s w l
end
theorem holdsE_eq (s : SchoolD) (w : List PlaceD) (f : FormD) (env : List EnvD) : holdsE s w f env = holdsK s w f.kind f.name f.n f.terms f.binds (holdsL s w f.subs) env := by cases f; rfl
theorem holdsL_at (s : SchoolD) (w : List PlaceD) : ∀ {l : List FormD} {i : Nat} (h : i < l.length), (holdsL s w l)[i]? = some (holdsE s w l[i])
  | f :: l, 0, _ => rfl
  | f :: l, i + 1, h => by
    simp only [holdsL, List.getElem?_cons_succ, List.getElem_cons_succ]
    exact holdsL_at s w (by simpa using h)
theorem partAt_eq (s : SchoolD) (w : List PlaceD) {l : List FormD} {i : Nat} (h : i < l.length) (env : List EnvD) : partAt (holdsL s w l) env i = holdsE s w l[i] env := by
  unfold partAt; rw [holdsL_at s w h]; rfl
theorem withE_len : ∀ {bs : List BindD} {ts : List Int} {env : List EnvD}, ts.length = bs.length → (withE env bs ts).length = env.length + bs.length
  | [], [], env, _ => rfl
  | b :: bs, t :: ts, env, h => by
    rw [withE, withE_len (by simpa using h)]; simp; omega
  | [], _ :: _, _, h => by simp at h
  | _ :: _, [], _, h => by simp at h
theorem withE_envB : ∀ {bs : List BindD} {ts : List Int} {env : List EnvD}, ts.length = bs.length → envB (withE env bs ts) = envB env ++ bs
  | [], [], env, _ => by simp [withE]
  | b :: bs, t :: ts, env, h => by
    rw [withE, withE_envB (by simpa using h)]; simp [envB]
  | [], _ :: _, _, h => by simp at h
  | _ :: _, [], _, h => by simp at h
theorem okT_iff : ∀ {zs ds : List Nat}, okT zs ds ↔ ds.length = zs.length ∧ ∀ (i d z : Nat), ds[i]? = some d → zs[i]? = some z → d < z
  | [], [] => by simp [okT]
  | [], d :: ds => by simp [okT]
  | z :: zs, [] => by simp [okT]
  | z :: zs, d :: ds => by
    simp only [okT, okT_iff (zs := zs) (ds := ds)]
    constructor
    · rintro ⟨h1, h2, h3⟩
      refine ⟨by simp [h2], fun i d' z' hd hz => ?_⟩
      cases i with
      | zero => simp at hd hz; omega
      | succ i => exact h3 i d' z' (by simpa using hd) (by simpa using hz)
    · rintro ⟨h1, h2⟩
      exact ⟨h2 0 d z rfl rfl, by simpa using h1, fun i d' z' hd hz => h2 (i + 1) d' z' (by simpa using hd) (by simpa using hz)⟩
theorem okT_rev {zs ds : List Nat} (h : okT zs.reverse ds.reverse) : okT zs ds := by
  rw [okT_iff] at h ⊢
  obtain ⟨h1, h2⟩ := h
  simp at h1
  refine ⟨h1, fun i d z hd hz => ?_⟩
  have hi : i < ds.length := (List.getElem?_eq_some_iff.1 hd).1
  refine h2 (ds.length - 1 - i) d z ?_ ?_
  · rw [List.getElem?_reverse (by omega), show ds.length - 1 - (ds.length - 1 - i) = i by omega]; exact hd
  · rw [List.getElem?_reverse (by omega), show zs.length - 1 - (ds.length - 1 - i) = i by omega]; exact hz
theorem tuples_ok {sz t : List Nat} (h : t ∈ tuplesL sz) : okT sz t := by
  unfold tuplesL at h
  split at h
  · simp at h
  · rename_i hz
    refine okT_rev (allT_ok ?_ t h)
    have := zeroT_ok (zs := sz.reverse) fun z hm e => hz (by rw [List.any_eq_true]; exact ⟨z, by simpa using hm, by simp [e]⟩)
    rwa [List.length_reverse] at this
theorem withE_ok {s : SchoolD} : ∀ {bs : List BindD} {t : List Nat} {env : List EnvD}, EnvOk s env → okT (cnts s bs) t → EnvOk s (withE env bs (ints' t))
  | [], [], env, h, _ => h
  | b :: bs, d :: t, env, h, ho => by
    refine withE_ok (bs := bs) (t := t) (fun x hx => ?_) ho.2
    simp at hx
    rcases hx with hx | rfl
    · exact h x hx
    · have := ho.1
      simp
      omega
  | [], _ :: _, _, _, h => h.elim
  | _ :: _, [], _, _, h => h.elim
theorem walkL_zero {a : List BindD} : ∀ {l : List FormD}, walkL a l = 0 → ∀ {i : Nat} (h : i < l.length), walkE a l[i] = 0
  | f :: l, h, 0, _ => by
    rw [walkL] at h
    by_cases c : walkE a f = 0
    · exact c
    · rw [if_pos c] at h; exact absurd h c
  | f :: l, h, i + 1, hi => by
    rw [walkL] at h
    by_cases c : walkE a f = 0
    · rw [if_neg (by simpa using c)] at h
      exact walkL_zero h (by simpa using hi)
    · rw [if_pos c] at h; exact absurd h c
theorem sortE_zero {a : List BindD} {want : Option (List Int)} {i : Nat} {t : TermD} (h : sortE a want i t = 0) : (sortT a t).2 = 0 ∧ ∀ w, want = some w → (w[i]?).getD 0 = (sortT a t).1 := by
  unfold sortE at h
  split at h
  · cases h
  · rename_i hc
    refine ⟨h, fun w hw => ?_⟩
    subst hw
    by_cases e : (w[i]?).getD 0 = (sortT a t).1
    · exact e
    · exact absurd ⟨h, by simp [differs, e]⟩ hc
theorem sorts_two {a : List BindD} {want : Option (List Int)} {t0 t1 : TermD} (h : (sortsFrom a want 0 [t0, t1] []).2 = 0) : sortE a want 0 t0 = 0 ∧ sortE a want 1 t1 = 0 := by
  rw [sortsFrom] at h
  split at h
  · rename_i h0
    rw [sortsFrom] at h
    split at h
    · rename_i h1
      exact ⟨h0, h1⟩
    · rename_i h1; exact absurd h h1
  · rename_i h0; exact absurd h h0
theorem cmp_two {a : List BindD} {nm : Str} {ts : List TermD} (h : cmpE a nm ts = 0) : (sortsFrom a none 0 ts []).2 = 0 := by
  unfold cmpE at h
  cases hs : sortsFrom a none 0 ts [] with
  | mk o e =>
    cases o with
    | none => rw [hs] at h; exact h
    | some l => exact (sortsFrom_len hs).1
end Go.Zk
namespace Go.Zk
open Go.Proofs
variable {E : Env} [h : IsG E]
@[simp] theorem cells_ol {α : Type} {c : Enc α} {l : List α} : acells (c.ol l) = some [c.ol l] := by cases l <;> rfl
@[simp] theorem pur_ol {α : Type} {c : Enc α} {l : List α} : (c.ol l).pur = true := by cases l <;> rfl
theorem stCells_eq (s : SchoolD) (w : List PlaceD) : stCells s w = [slotE.sl s.slots, roomE.sl s.rooms, personE.sl s.people, groupE.sl s.groups, lessonE.sl s.lessons, placeE.sl w] := rfl
theorem part_136 (s : SchoolD) (w : List PlaceD) (env : List EnvD) (f : FormD) (i : Nat) (hi : i < f.subs.length) {b : Bool} (hp : PF E 87 [stAV s w, envE.ol env, f.subs[i].av] (.bool b)) :
    PF E 136 [I i, .rptr (stCells s w) 0, .rptr [envE.ol env] 0, .rptr f.cells 0] (.bool b) := by
  have hl6 : (formE.enc f.subs[i]).length = 6 := FormD.cells_len _
  have ht6 : List.take 6 (formE.enc f.subs[i]) = formE.enc f.subs[i] := by rw [List.take_of_length_le (by omega)]
  refine pf_of_body mixed fn_136 (by simp) ?_
  unfold Tryz.f136 ABody
  rw [FormD.cells_eq]
  simp
  refine wp_open [(9, true)] (by rfl) ?_
  simp [stCells_eq, Enc.sl, hi]
  rw [show apart true 6 (i * 6) (formE.cells f.subs) = some (.agg (formE.enc f.subs[i])) from formE.part hi]
  rw [stAV, stCells_eq] at hp
  simp only [Enc.sl] at hp
  simp
  refine hc_pure hp (by simp [AV.purs, AV.pur, FormD.av]) ?_
  simp
  refine ⟨logOk_none rfl, ?_⟩
  exact ⟨0, Pur.self rfl⟩
theorem holds_const (s : SchoolD) (w : List PlaceD) (env : List EnvD) (f : FormD) (k0 : f.kind = 1 ∨ f.kind = 2) : PF E 87 [stAV s w, envE.ol env, f.av] (.bool (holdsE s w f env)) := by
  refine pf_of_body mixed fn_87 (by simp) ?_
  unfold Tryz.f87 ABody
  rw [stAV, FormD.av, FormD.cells_eq, holdsE_eq]
  rcases k0 with k0 | k0
  · simp [stCells_eq, k0, holdsK]
    exact ⟨0, Pur.self rfl⟩
  · simp [stCells_eq, k0, holdsK]
    exact ⟨0, Pur.self rfl⟩
theorem holds_not (s : SchoolD) (w : List PlaceD) (env : List EnvD) (f : FormD) (k0 : f.kind = 10) (hl : 0 < f.subs.length) (hp : PF E 87 [stAV s w, envE.ol env, f.subs[0].av] (.bool (holdsE s w f.subs[0] env))) :
    PF E 87 [stAV s w, envE.ol env, f.av] (.bool (holdsE s w f env)) := by
  have c0 := part_136 s w env f 0 hl hp
  refine pf_of_body mixed fn_87 (by simp) ?_
  unfold Tryz.f87 ABody
  rw [stAV, FormD.av, FormD.cells_eq, holdsE_eq]
  rw [holdsK, partAt_eq s w hl]
  simp [stCells_eq, k0]
  refine rc_pf c0 (Borrow.by rfl 3 (.cons (Pur.self rfl) (.cons (Pur.box (by simp [stCells_eq, k0]) rfl) (.cons (Pur.box (by simp) (by simp [AV.purs])) (.cons (Pur.box (by simp [FormD.cells_eq, k0]) (by simp)) .nil))))) ?_
  simp
  exact ⟨0, Pur.self rfl⟩
theorem holds_and (s : SchoolD) (w : List PlaceD) (env : List EnvD) (f : FormD) (k0 : f.kind = 11) (hl : 1 < f.subs.length) (hp : PF E 87 [stAV s w, envE.ol env, f.subs[0].av] (.bool (holdsE s w f.subs[0] env))) (hq : PF E 87 [stAV s w, envE.ol env, f.subs[1].av] (.bool (holdsE s w f.subs[1] env))) :
    PF E 87 [stAV s w, envE.ol env, f.av] (.bool (holdsE s w f env)) := by
  have c0 := part_136 s w env f 0 (by omega) hp
  have c1 := part_136 s w env f 1 hl hq
  refine pf_of_body mixed fn_87 (by simp) ?_
  unfold Tryz.f87 ABody
  rw [stAV, FormD.av, FormD.cells_eq, holdsE_eq]
  rw [holdsK, partAt_eq s w (show 0 < f.subs.length by omega), partAt_eq s w hl]
  simp [stCells_eq, k0]
  refine rc_pf c0 (Borrow.by rfl 3 (.cons (Pur.self rfl) (.cons (Pur.box (by simp [stCells_eq, k0]) rfl) (.cons (Pur.box (by simp) (by simp [AV.purs])) (.cons (Pur.box (by simp [FormD.cells_eq, k0]) (by simp)) .nil))))) ?_
  cases hb : holdsE s w f.subs[0] env
  · simp
    exact ⟨0, Pur.self rfl⟩
  · simp
    refine rc_pf c1 (Borrow.by rfl 3 (.cons (Pur.self rfl) (.cons (Pur.box (by simp [stCells_eq, k0]) rfl) (.cons (Pur.box (by simp) (by simp [AV.purs])) (.cons (Pur.box (by simp [FormD.cells_eq, k0]) (by simp)) .nil))))) ?_
    simp
    exact ⟨0, Pur.self rfl⟩
theorem holds_or (s : SchoolD) (w : List PlaceD) (env : List EnvD) (f : FormD) (k0 : f.kind = 12) (hl : 1 < f.subs.length) (hp : PF E 87 [stAV s w, envE.ol env, f.subs[0].av] (.bool (holdsE s w f.subs[0] env))) (hq : PF E 87 [stAV s w, envE.ol env, f.subs[1].av] (.bool (holdsE s w f.subs[1] env))) :
    PF E 87 [stAV s w, envE.ol env, f.av] (.bool (holdsE s w f env)) := by
  have c0 := part_136 s w env f 0 (by omega) hp
  have c1 := part_136 s w env f 1 hl hq
  refine pf_of_body mixed fn_87 (by simp) ?_
  unfold Tryz.f87 ABody
  rw [stAV, FormD.av, FormD.cells_eq, holdsE_eq]
  rw [holdsK, partAt_eq s w (show 0 < f.subs.length by omega), partAt_eq s w hl]
  simp [stCells_eq, k0]
  refine rc_pf c0 (Borrow.by rfl 3 (.cons (Pur.self rfl) (.cons (Pur.box (by simp [stCells_eq, k0]) rfl) (.cons (Pur.box (by simp) (by simp [AV.purs])) (.cons (Pur.box (by simp [FormD.cells_eq, k0]) (by simp)) .nil))))) ?_
  cases hb : holdsE s w f.subs[0] env
  · simp
    refine rc_pf c1 (Borrow.by rfl 3 (.cons (Pur.self rfl) (.cons (Pur.box (by simp [stCells_eq, k0]) rfl) (.cons (Pur.box (by simp) (by simp [AV.purs])) (.cons (Pur.box (by simp [FormD.cells_eq, k0]) (by simp)) .nil))))) ?_
    simp
    exact ⟨0, Pur.self rfl⟩
  · simp
    exact ⟨0, Pur.self rfl⟩
theorem holds_imp (s : SchoolD) (w : List PlaceD) (env : List EnvD) (f : FormD) (k0 : f.kind = 13) (hl : 1 < f.subs.length) (hp : PF E 87 [stAV s w, envE.ol env, f.subs[0].av] (.bool (holdsE s w f.subs[0] env))) (hq : PF E 87 [stAV s w, envE.ol env, f.subs[1].av] (.bool (holdsE s w f.subs[1] env))) :
    PF E 87 [stAV s w, envE.ol env, f.av] (.bool (holdsE s w f env)) := by
  have c0 := part_136 s w env f 0 (by omega) hp
  have c1 := part_136 s w env f 1 hl hq
  refine pf_of_body mixed fn_87 (by simp) ?_
  unfold Tryz.f87 ABody
  rw [stAV, FormD.av, FormD.cells_eq, holdsE_eq]
  rw [holdsK, partAt_eq s w (show 0 < f.subs.length by omega), partAt_eq s w hl]
  simp [stCells_eq, k0]
  refine rc_pf c0 (Borrow.by rfl 3 (.cons (Pur.self rfl) (.cons (Pur.box (by simp [stCells_eq, k0]) rfl) (.cons (Pur.box (by simp) (by simp [AV.purs])) (.cons (Pur.box (by simp [FormD.cells_eq, k0]) (by simp)) .nil))))) ?_
  cases hb : holdsE s w f.subs[0] env
  · simp
    exact ⟨0, Pur.self rfl⟩
  · simp
    refine rc_pf c1 (Borrow.by rfl 3 (.cons (Pur.self rfl) (.cons (Pur.box (by simp [stCells_eq, k0]) rfl) (.cons (Pur.box (by simp) (by simp [AV.purs])) (.cons (Pur.box (by simp [FormD.cells_eq, k0]) (by simp)) .nil))))) ?_
    simp
    exact ⟨0, Pur.self rfl⟩
theorem sign_311 (c : Int) : PF E 311 [I c] (.bool (decide (c = 0))) := by
  refine pf_of_body mixed fn_311 (by simp) ?_
  unfold Tryz.f311 ABody
  simp; exact ⟨0, Pur.self rfl⟩
theorem sign_312 (c : Int) : PF E 312 [I c] (.bool (decide (¬ c = 0))) := by
  refine pf_of_body mixed fn_312 (by simp) ?_
  unfold Tryz.f312 ABody
  simp; exact ⟨0, Pur.self rfl⟩
theorem sign_313 (c : Int) : PF E 313 [I c] (.bool (decide (c < 0))) := by
  refine pf_of_body mixed fn_313 (by simp) ?_
  unfold Tryz.f313 ABody
  simp; exact ⟨0, Pur.self rfl⟩
theorem sign_314 (c : Int) : PF E 314 [I c] (.bool (decide (c ≤ 0))) := by
  refine pf_of_body mixed fn_314 (by simp) ?_
  unfold Tryz.f314 ABody
  simp; exact ⟨0, Pur.self rfl⟩
theorem sign_315 (c : Int) : PF E 315 [I c] (.bool (decide (0 < c))) := by
  refine pf_of_body mixed fn_315 (by simp) ?_
  unfold Tryz.f315 ABody
  simp; exact ⟨0, Pur.self rfl⟩
theorem sign_316 (c : Int) : PF E 316 [I c] (.bool (decide (0 ≤ c))) := by
  refine pf_of_body mixed fn_316 (by simp) ?_
  unfold Tryz.f316 ABody
  simp; exact ⟨0, Pur.self rfl⟩
theorem sign_fn (nm : Str) (hs : signB nm = true) : ∃ k, getK evalSigns nm = some (.func k [] []) ∧ ∀ c, PF E k [I c] (.bool (signE nm c)) := by
  by_cases h1 : nm = [33, 61]
  · subst h1; exact ⟨312, rfl, fun c => sign_312 c⟩
  by_cases h2 : nm = [60]
  · subst h2; exact ⟨313, rfl, fun c => sign_313 c⟩
  by_cases h3 : nm = [60, 61]
  · subst h3; exact ⟨314, rfl, fun c => sign_314 c⟩
  by_cases h4 : nm = [61]
  · subst h4; exact ⟨311, rfl, fun c => sign_311 c⟩
  by_cases h5 : nm = [62]
  · subst h5; exact ⟨315, rfl, fun c => sign_315 c⟩
  by_cases h6 : nm = [62, 61]
  · subst h6; exact ⟨316, rfl, fun c => sign_316 c⟩
  have e : getK signMap nm = none := by
    have : ∀ i : Str, ¬ nm = i → decide (i = nm) = false := fun i hi => by simp; exact fun e => hi e.symm
    simp only [getK, signMap, List.find?_cons, this _ h1, this _ h2, this _ h3, this _ h4, this _ h5, this _ h6]
    rfl
  rw [signB, e] at hs; cases hs
end Go.Zk
namespace Go.Zk
open Go.Proofs
variable {E : Env} [h : IsG E]
@[simp] theorem tzero_98 : tzero E.P 98 = some .nilfunc := by rw [h.eq]; kernel_rfl
@[simp] theorem tzero_213 : tzero E.P 213 = some .nilfunc := by rw [h.eq]; kernel_rfl
theorem two_terms (t0 t1 : TermD) : termE.sl [t0, t1] = .sl 2 false [I t0.kind, .str t0.name, I t0.n, I t1.kind, .str t1.name, I t1.n] := rfl
theorem holds_cmp (s : SchoolD) (w : List PlaceD) (env : List EnvD) (f : FormD) (k0 : f.kind = 9) (t0 t1 : TermD) (ht : f.terms = [t0, t1]) (hsg : signB f.name = true)
    (hv0 : PF E 138 [stAV s w, envE.ol env, .agg (termE.enc t0)] (I (valueE s env t0))) (hv1 : PF E 138 [stAV s w, envE.ol env, .agg (termE.enc t1)] (I (valueE s env t1))) :
    PF E 87 [stAV s w, envE.ol env, f.av] (.bool (holdsE s w f env)) := by
  obtain ⟨k, hk1, hk2⟩ := sign_fn (E := E) f.name hsg
  have hlk : ∀ H : AHeap, alookup E.P 211 H (strMap evalSigns) (.str f.name) false = some (.func k [] []) := fun H => by
    rw [ask_str evalSigns _ _ u_211 tzero_98, hk1]; rfl
  refine pf_of_body mixed fn_87 (by simp) ?_
  unfold Tryz.f87 ABody
  rw [stAV, FormD.av, FormD.cells_eq, holdsE_eq, holdsK]
  rw [stAV] at hv0 hv1
  rw [stCells_eq] at *
  simp [k0, ht, termAt]
  refine wp_open [(21, true)] (by rfl) ?_
  simp [hlk, two_terms, apart_agg]
  refine hc_pure hv0 (by simp [AV.purs, AV.pur, termE]) ?_
  simp [two_terms, apart_agg]
  refine hc_pure hv1 (by simp [AV.purs, AV.pur, termE]) ?_
  simp
  refine hc_pure (compare_137 _ _) rfl ?_
  simp
  refine hc_pure (hk2 _) rfl ?_
  simp
  refine ⟨logOk_none rfl, ?_⟩
  exact ⟨0, Pur.self rfl⟩
theorem holds_atom (s : SchoolD) (w : List PlaceD) (env : List EnvD) (f : FormD) (k0 : 3 ≤ f.kind ∧ f.kind ≤ 8) (t0 t1 : TermD) (ht : f.terms = [t0, t1]) (hl : Big env.length)
    (hf0 : (findE env t0.name).isSome = true) (hf1 : (findE env t1.name).isSome = true) (ha : PF E (atomF f.kind) [stAV s w, I (posOf env t0.name), I (posOf env t1.name)] (.bool (atomE s w f.kind (posOf env t0.name) (posOf env t1.name)))) :
    PF E 87 [stAV s w, envE.ol env, f.av] (.bool (holdsE s w f env)) := by
  have he0 := element_139 (E := E) env t0 hl hf0
  have he1 := element_139 (E := E) env t1 hl hf1
  have hlk : ∀ H : AHeap, alookup E.P 215 H (intMap evalAtoms) (I f.kind) true = some (.tuple [.func (atomF f.kind) [] [], .bool true]) := fun H => by
    rw [ask_int evalAtoms _ _ u_215 tzero_213, atom_get, if_pos k0]; rfl
  have n1 : ¬ f.kind = 1 := by omega
  have n2 : ¬ f.kind = 2 := by omega
  have n9 : ¬ f.kind = 9 := by omega
  have n10 : ¬ f.kind = 10 := by omega
  have n11 : ¬ f.kind = 11 := by omega
  have n12 : ¬ f.kind = 12 := by omega
  have n13 : ¬ f.kind = 13 := by omega
  refine pf_of_body mixed fn_87 (by simp) ?_
  unfold Tryz.f87 ABody
  rw [stAV, FormD.av, FormD.cells_eq, holdsE_eq, holdsK]
  rw [stAV] at ha
  rw [stCells_eq] at *
  simp [k0, n1, n2, n9, n10, n11, n12, n13, hlk, ht, termAt]
  refine wp_open [(16, true)] (by rfl) ?_
  simp [two_terms, apart_agg]
  refine hc_pure he0 (by simp [AV.purs, AV.pur, termE]) ?_
  simp [two_terms, apart_agg]
  refine hc_pure he1 (by simp [AV.purs, AV.pur, termE]) ?_
  simp
  refine hc_pure ha rfl ?_
  simp
  refine ⟨logOk_none rfl, ?_⟩
  exact ⟨0, Pur.self rfl⟩
end Go.Zk
namespace Go.Zk
open Go.Proofs
variable {E : Env} [h : IsG E]
theorem prodT_le {M : Nat} : ∀ {zs : List Nat}, (∀ z ∈ zs, z ≤ M) → prodT zs ≤ M ^ zs.length
  | [], _ => by simp [prodT]
  | z :: zs, hz => by
    have := prodT_le (M := M) (zs := zs) fun y hy => hz y (by simp [hy])
    simp only [prodT, List.length_cons, Nat.pow_succ]
    rw [Nat.mul_comm (M ^ zs.length)]
    exact Nat.mul_le_mul (hz z (by simp)) this
theorem tups_len {s : SchoolD} {bs : List BindD} (hs : s.Tiny) (hb : bs.length ≤ 6) : (tupsOf s bs).length ≤ 1000000000000000000 := by
  unfold tupsOf tuplesL
  split
  · simp
  · refine Nat.le_trans allT_len (Nat.le_trans (prodT_le (M := 1000) fun z hz => ?_) ?_)
    · simp [cnts] at hz
      obtain ⟨b, _, rfl⟩ := hz
      exact hs.count b.sort
    · have : (cnts s bs).reverse.length ≤ 6 := by simp [cnts]; exact hb
      exact Nat.pow_le_pow_right (by decide) this
theorem tups_t {s : SchoolD} {bs : List BindD} {t : List Nat} (h : t ∈ tupsOf s bs) : okT (cnts s bs) t ∧ (ints' t).length = bs.length := by
  have ho := tuples_ok h
  refine ⟨ho, ?_⟩
  have := okT_len ho
  simp [ints', this, cnts]
def countTo (s : SchoolD) (env : List EnvD) (bs : List BindD) (g : List EnvD → Bool) (i : Nat) : Nat := (((tupsOf s bs).take i).filter fun t => g (withE env bs (ints' t))).length
theorem countTo_succ {s : SchoolD} {env : List EnvD} {bs : List BindD} {g : List EnvD → Bool} {i : Nat} {t : List Nat} (h : (tupsOf s bs)[i]? = some t) :
    countTo s env bs g (i + 1) = countTo s env bs g i + if g (withE env bs (ints' t)) = true then 1 else 0 := by
  obtain ⟨hi, ht⟩ := List.getElem?_eq_some_iff.1 h
  unfold countTo
  rw [List.take_succ_eq_append_getElem hi, List.filter_append, List.length_append, ht]
  by_cases c : g (withE env bs (ints' t)) = true
  · simp [c]
  · simp only [Bool.not_eq_true] at c; simp [c]
theorem countTo_le {s : SchoolD} {env : List EnvD} {bs : List BindD} {g : List EnvD → Bool} {i : Nat} : countTo s env bs g i ≤ i := by
  unfold countTo
  exact Nat.le_trans (List.length_filter_le _ _) (by simp; omega)
theorem nints_purs (t : List Nat) : AV.purs (nints t) = true := by
  unfold nints ints
  generalize t.map (fun (k : Nat) => (k : Int)) = l
  induction l with
  | nil => rfl
  | cons x l ih => exact ih
theorem holds_quant (s : SchoolD) (w : List PlaceD) (env : List EnvD) (f : FormD) (k0 : 14 ≤ f.kind ∧ f.kind ≤ 17) (hs : s.Tiny) (hsub : 0 < f.subs.length) (hb : f.binds.length ≤ 6) (hl : env.length + f.binds.length ≤ 100000)
    (hp : ∀ t ∈ tupsOf s f.binds, PF E 87 [stAV s w, envE.ol (withE env f.binds (ints' t)), f.subs[0].av] (.bool (holdsE s w f.subs[0] (withE env f.binds (ints' t))))) :
    PF E 87 [stAV s w, envE.ol env, f.av] (.bool (holdsE s w f env)) := by
  have hlk : ∀ H : AHeap, alookup E.P 215 H (intMap evalAtoms) (I f.kind) true = some (.tuple [.nilfunc, .bool false]) := fun H => by
    rw [ask_int evalAtoms _ _ u_215 tzero_213, atom_get, if_neg (by omega)]; rfl
  have n1 : ¬ f.kind = 1 := by omega
  have n2 : ¬ f.kind = 2 := by omega
  have n9 : ¬ f.kind = 9 := by omega
  have n10 : ¬ f.kind = 10 := by omega
  have n11 : ¬ f.kind = 11 := by omega
  have n12 : ¬ f.kind = 12 := by omega
  have n13 : ¬ f.kind = 13 := by omega
  have n38 : ¬ (3 ≤ f.kind ∧ f.kind ≤ 8) := by omega
  have htl := tups_len hs hb
  have c86 := tuples_86 (E := E) s f.binds hs.toSmall hb
  refine pf_of_body mixed fn_87 (by simp) ?_
  unfold Tryz.f87 ABody
  rw [stAV, FormD.av, FormD.cells_eq, holdsE_eq, holdsK, if_neg n1, if_neg n2, if_neg n9, if_neg n10, if_neg n11, if_neg n12, if_neg n13, if_neg n38]
  rw [SchoolD.av, SchoolD.cells] at c86
  generalize hg : (fun e => partAt (holdsL s w f.subs) e 0) = g
  have hge : ∀ e, g e = holdsE s w f.subs[0] e := fun e => by rw [← hg]; exact partAt_eq s w hsub e
  have hct : countT s env f.binds g = countTo s env f.binds g (tupsOf s f.binds).length := by unfold countT countTo; rw [List.take_length]
  rw [hct]
  rw [stCells_eq] at *
  simp [n1, n2, n9, n10, n11, n12, n13, hlk]
  refine rc_pure c86 rfl ?_
  simp
  refine wp_iter (P := weekP) mixed (by simpa using tuples_iter s f.binds hs hb) (fun N j hj => by have : j = N := hj; omega)
    (fun i H => H.get 0 = .row (stCells s w) ∧ H.get 1 = .row [envE.ol env] ∧ H.get 2 = .row [I f.kind, .str f.name, I f.n, termE.sl f.terms, bindE.sl f.binds, formE.sl f.subs] ∧ H.get 3 = .row [I (countTo s env f.binds g i)] ∧ H.get 4 = .row [I i]) (fun _ _ => False) ?_ ?_ ?_ ?_ ?_ ?_ ?_
  · rintro i a b hn ⟨x0, x1, x2, x3, x4⟩ hk e
    simp at hn e
    have e' : ∀ j, j < 5 → b.get j = a.get j := fun j hj => e j (by omega) (by omega) (by simp [weekP]; omega)
    rw [e' 0 (by omega), e' 1 (by omega), e' 2 (by omega), e' 3 (by omega), e' 4 (by omega)]
    exact ⟨x0, x1, x2, x3, x4⟩
  · intro e a b hn x; exact x.elim
  · simp [stCells_eq, countTo]
  · rintro H' hn ⟨x0, x1, x2, x3, x4⟩
    by_cases k14 : f.kind = 14
    · simp [x2, x3, x4, k14]
      rw [show decide ((countTo s env f.binds g (tupsOf s f.binds).length : Int) = ((tupsOf s f.binds).length : Int)) = decide (countTo s env f.binds g (tupsOf s f.binds).length = (tupsOf s f.binds).length) from decide_eq_decide.2 (by omega)]
      exact ⟨0, Pur.self rfl⟩
    by_cases k15 : f.kind = 15
    · simp [x2, x3, x4, k14, k15]
      exact ⟨0, Pur.self rfl⟩
    by_cases k16 : f.kind = 16
    · simp [x2, x3, x4, k14, k15, k16]
      exact ⟨0, Pur.self rfl⟩
    · simp [x2, x3, x4, k14, k15, k16]
      exact ⟨0, Pur.self rfl⟩
  · intro H' hn hj; exact hj.elim
  · intro i H' hn hj; exact hj.elim
  · rintro i hi H1 args hn ⟨x0, x1, x2, x3, x4⟩ ⟨id, tg, t, q1, q2, rfl, q4, q5⟩ hgl
    simp at hn hgl q1
    have htm : t ∈ tupsOf s f.binds := List.mem_of_getElem? q4
    obtain ⟨o1, o2⟩ := tups_t htm
    have hpt := hp t htm
    have hsz : (cnts s f.binds).length = f.binds.length := by simp [cnts]
    have hw : IntKind.i64.wrap ((i : Int) + 1) = i + 1 := wrap_of (by omega) (by omega)
    have hff := with_ff (E := E) env f.binds (ints' t) hl o2
    have d3 : ¬ id = 4 := by omega
    have d4 : ¬ id = 5 := by omega
    rw [isl, o2] at hff
    simp [hgl, putAll, x4, hw]
    refine wp_open [(11, true)] (by rfl) ?_
    simp [x0, x1, x2, stCells_eq, hsz]
    refine hc_ff (k := 2) hff (.cons (Pur.self pur_ol) (.cons (Pur.self rfl) (.cons ?_ .nil))) ?_
    · refine .inr ⟨nints t, nints t, false, by simp [d3, d4, q5], P2.self (nints_purs t), (fun e => by cases e), ?_⟩
      have hnl : (nints t).length = f.binds.length := by rw [n_len]; have := okT_len o1; rw [hsz] at this; exact this
      rw [List.drop_zero, Nat.mul_one, List.take_of_length_le (by omega)]
      rfl
    have hsub6 : List.take 6 (formE.cells f.subs) = f.subs[0].cells := by
      have := formE.cells_at hsub
      rw [Nat.zero_mul, List.drop_zero] at this
      exact this
    have hsubl : 6 ≤ (formE.cells f.subs).length := by
      rw [formE.cells_len]; show 6 ≤ f.subs.length * 6; omega
    simp [x2, Enc.sl, hsub, hsub6, hsubl]
    rw [stAV, stCells_eq] at hpt
    simp only [Enc.sl] at hpt
    refine hc_pure hpt (by simp [AV.purs, AV.pur, FormD.av]) ?_
    have hcs := countTo_succ (env := env) (g := g) q4
    have hcl := countTo_le (s := s) (env := env) (bs := f.binds) (g := g) (i := i)
    cases hb2 : holdsE s w f.subs[0] (withE env f.binds (ints' t))
    · have hgf : g (withE env f.binds (ints' t)) = false := by rw [hge, hb2]
      simp
      refine ⟨logOk_none rfl, ?_⟩
      simp [hgl, x0, x1, x2, x3, x4]
      refine ⟨fun j hj _ => ?_, rfl, ⟨rfl, rfl, rfl⟩, ?_⟩
      · have hj6 : j = 6 := hj
        subst hj6
        simp
      · rw [hcs, hgf]; simp
    · have hgf : g (withE env f.binds (ints' t)) = true := by rw [hge, hb2]
      have hw2 : IntKind.i64.wrap ((countTo s env f.binds g i : Int) + 1) = countTo s env f.binds g i + 1 := wrap_of (by omega) (by omega)
      simp
      refine ⟨logOk_none rfl, ?_⟩
      simp [hgl, x0, x1, x2, x3, x4, hw2]
      refine ⟨fun j hj _ => ?_, rfl, ⟨rfl, rfl, rfl⟩, ?_⟩
      · have hj6 : j = 6 := hj
        subst hj6
        simp
      · rw [hcs, hgf]; simp
end Go.Zk
namespace Go.Zk
open Go.Proofs
variable {E : Env} [h : IsG E]
theorem two_of {ts : List TermD} (h : ts.length = 2) : ∃ t0 t1, ts = [t0, t1] := by
  match ts, h with
  | [t0, t1], _ => exact ⟨t0, t1, rfl⟩
theorem formed_sign {f : FormD} (h : formedB f = true) (hk : f.kind = 9) : signB f.name = true := by
  unfold formedB at h
  split at h
  · cases h
  · iterate 5 (split at h; · cases h)
    split at h
    · cases h
    · rename_i hc
      cases hs : signB f.name
      · exact absurd ⟨hk, hs⟩ hc
      · rfl
theorem sort_found {env : List EnvD} {t : TermD} (hk : t.kind = 2) (h : (sortT (envB env) t).2 = 0) : ∃ (i : Nat) (hi : i < env.length), findE env t.name = some i ∧ (sortT (envB env) t).1 = env[i].sort := by
  rw [sortT, if_neg (by omega), findE_eq] at h
  cases hf : findE env t.name with
  | none => rw [hf] at h; cases h
  | some i =>
    obtain ⟨hi, _⟩ := findE_lt hf
    refine ⟨i, hi, rfl, ?_⟩
    rw [sortT, if_neg (by omega), findE_eq, hf]
    simp [hk, envB, hi]
theorem holds_87 : ∀ (m : Nat) (f : FormD), SizeOf.sizeOf f < m → f.Fit → AllFormed f → ∀ (s : SchoolD) (w : List PlaceD) (env : List EnvD), s.Fit → s.Tiny → w.length = s.lessons.length → EnvOk s env → walkE (envB env) f = 0 →
    env.length + 6 * (nodes f).length ≤ 100000 → PF E 87 [stAV s w, envE.ol env, f.av] (.bool (holdsE s w f env))
  | 0, f, hm, _, _ => absurd hm (Nat.not_lt_zero _)
  | m + 1, f, hm, hfit, haf => by
    intro s w env hs hst hw hok hty hlen
    have hf := haf.self
    obtain ⟨ar, har, hsl⟩ := formed_ar hf
    have hkr : 1 ≤ f.kind ∧ f.kind ≤ 17 := by
      unfold arOf at har
      by_cases h1 : 1 ≤ f.kind ∧ f.kind ≤ 9
      · omega
      · rw [if_neg h1] at har
        by_cases h2 : f.kind = 10
        · omega
        · rw [if_neg h2] at har
          by_cases h3 : 11 ≤ f.kind ∧ f.kind ≤ 13
          · omega
          · rw [if_neg h3] at har
            by_cases h4 : 14 ≤ f.kind ∧ f.kind ≤ 17
            · omega
            · rw [if_neg h4] at har; cases har
    have hbig : Big env.length := by unfold Big; omega
    have hnl : (nodes f).length = (nodesL f.subs).length + 1 := by rw [nodes_eq]; rfl
    have hns : ∀ i (hi : i < f.subs.length), (nodes f.subs[i]).length ≤ (nodesL f.subs).length := fun i hi => by rw [nodesL_split hi]; simp; omega
    by_cases k12 : f.kind = 1 ∨ f.kind = 2
    · exact holds_const s w env f k12
    by_cases k39 : 3 ≤ f.kind ∧ f.kind ≤ 9
    · obtain ⟨ht1, ht2⟩ := formed_terms hf (by simp [inR3]; omega)
      obtain ⟨t0, t1, htt⟩ := two_of ht1
      have m0 := oddTerm_ok (ht2 t0 (by simp [htt]))
      have m1 := oddTerm_ok (ht2 t1 (by simp [htt]))
      by_cases k9 : f.kind = 9
      · rw [walkE_eq, if_pos k9, htt] at hty
        obtain ⟨z0, z1⟩ := sorts_two (cmp_two hty)
        exact holds_cmp s w env f k9 t0 t1 htt (formed_sign hf k9) (value_138 s w env t0 hs hbig hok m0.1 (sortE_zero z0).1) (value_138 s w env t1 hs hbig hok m1.1 (sortE_zero z1).1)
      · rw [walkE_eq, if_neg k9, if_pos (by rw [htt]; simp), htt] at hty
        obtain ⟨z0, z1⟩ := sorts_two hty
        obtain ⟨i0, hi0, f0, s0⟩ := sort_found (m0.2 k9) (sortE_zero z0).1
        obtain ⟨i1, hi1, f1, s1⟩ := sort_found (m1.2 k9) (sortE_zero z1).1
        refine holds_atom s w env f (by omega) t0 t1 htt hbig (by rw [f0]; rfl) (by rw [f1]; rfl) (atom_pf s w f.kind _ _ hs (by omega) fun h4 => ?_)
        have hw0 := (sortE_zero z0).2 _ rfl
        have hso : env[i0].sort = 1 := by
          rw [← s0, ← hw0]
          have : f.kind = 3 ∨ f.kind = 4 := by omega
          rcases this with e | e <;> (rw [e]; rfl)
        have hp := hok _ (List.getElem_mem hi0)
        rw [hso, count_1] at hp
        have hpo : posOf env t0.name = env[i0].pos := by simp [posOf, f0, hi0]
        rw [hpo, hw]
        exact hp
    · have ht0 : f.terms = [] := formed_noterms hf (by simp [inR3]; omega)
      rw [walkE_eq, if_neg (by omega), if_neg (by simp [ht0])] at hty
      by_cases kq : 14 ≤ f.kind ∧ f.kind ≤ 17
      · obtain ⟨b1, b2, b3, b4⟩ := formed_binds hf (by simp [inR3]; omega)
        have hs1 : f.subs.length = 1 := by
          have : arOf f.kind = some 1 := by
            unfold arOf
            rw [if_neg (by omega), if_neg (by omega), if_neg (by omega), if_pos kq]
          rw [this] at har; cases har; exact hsl
        cases hab : addBinds (envB env) f.binds with
        | none => rw [hab] at hty; cases hty
        | some a' =>
          rw [hab] at hty
          have ha' := addBinds_len hab
          refine holds_quant s w env f kq hst (by omega) b2 (by omega) fun t ht => ?_
          obtain ⟨o1, o2⟩ := tups_t ht
          have hsub := subs_lt (f := f) (i := 0) (by omega)
          refine holds_87 m f.subs[0] (by omega) (hfit.sub (by omega)) (haf.sub (by omega)) s w _ hs hst hw (withE_ok hok o1) ?_ ?_
          · rw [withE_envB o2, ← ha']
            exact walkL_zero hty (by omega)
          · rw [withE_len o2]
            have := hns 0 (by omega)
            omega
      · have hb0 : f.binds = [] := formed_nobinds hf (by simp [inR3]; omega)
        rw [hb0, addBinds] at hty
        have hpart : ∀ i (hi : i < f.subs.length), PF E 87 [stAV s w, envE.ol env, f.subs[i].av] (.bool (holdsE s w f.subs[i] env)) := fun i hi => by
          have hsub := subs_lt hi
          have := hns i hi
          exact holds_87 m f.subs[i] (by omega) (hfit.sub hi) (haf.sub hi) s w env hs hst hw hok (walkL_zero hty hi) (by omega)
        by_cases k10 : f.kind = 10
        · have : f.subs.length = 1 := by rw [k10] at har; cases har; exact hsl
          exact holds_not s w env f k10 (by omega) (hpart 0 (by omega))
        · have hs2 : f.subs.length = 2 := by
            have : arOf f.kind = some 2 := by
              unfold arOf
              rw [if_neg (by omega), if_neg (by omega), if_pos (by omega)]
            rw [this] at har; cases har; exact hsl
          have : f.kind = 11 ∨ f.kind = 12 ∨ f.kind = 13 := by omega
          rcases this with e | e | e
          · exact holds_and s w env f e (by omega) (hpart 0 (by omega)) (hpart 1 (by omega))
          · exact holds_or s w env f e (by omega) (hpart 0 (by omega)) (hpart 1 (by omega))
          · exact holds_imp s w env f e (by omega) (hpart 0 (by omega)) (hpart 1 (by omega))
end Go.Zk
namespace Go.Zk
open Go.Proofs
variable {E : Env} [h : IsG E]
/-- An instance in memory: the rule's place, the block of its tuple. -/
structure InstD where
  rule : Nat
  k : Nat
  tg : Bool
  t : List Nat
def InstD.cells (d : InstD) : List AV := [I d.rule, .msl d.k 0 d.t.length 1 d.tg, I 0, I 0, I 0, .nilsl]
def InstD.pair (d : InstD) : Nat × List Nat := (d.rule, d.t)
def instE : Enc (Nat × List Nat) := ⟨6, fun x => [I x.1, isl (ints' x.2), I 0, I 0, I 0, .nilsl], fun _ => rfl⟩
theorem inst_len : ∀ {ds : List InstD}, (ds.flatMap InstD.cells).length = ds.length * 6
  | [] => rfl
  | d :: ds => by
    have := inst_len (ds := ds)
    simp only [List.flatMap_cons, List.length_append, List.length_cons, this, InstD.cells, List.length_nil]; omega
def BAcc (H : AHeap) (ok : Nat → Prop) (v : AV) (L : List (Nat × List Nat)) : Prop :=
  (L = [] ∧ v = .nilsl) ∨ (L ≠ [] ∧ ∃ (id : Nat) (ds : List InstD), ok id ∧ id < H.next ∧ v = .msl id 0 L.length 6 false ∧ H.get id = .row (ds.flatMap InstD.cells) ∧ L = ds.map InstD.pair ∧
    ∀ d ∈ ds, ok d.k ∧ d.k < H.next ∧ d.k ≠ id ∧ H.get d.k = .row (nints d.t))
theorem BAcc.keep {ok ok' : Nat → Prop} {v : AV} {L : List (Nat × List Nat)} {H H' : AHeap} (h : BAcc H ok v L) (hn : H.next ≤ H'.next) (hk : ∀ j, ok j → j < H.next → H'.get j = H.get j) (ho : ∀ j, ok j → j < H.next → ok' j) : BAcc H' ok' v L := by
  rcases h with h | ⟨h0, id, ds, h1, h2, h3, h4, h5, h6⟩
  · exact .inl h
  · refine .inr ⟨h0, id, ds, ho _ h1 h2, by omega, h3, by rw [hk id h1 h2]; exact h4, h5, fun d hd => ?_⟩
    obtain ⟨e3, e4, e5, e6⟩ := h6 d hd
    exact ⟨ho _ e3 e4, by omega, e5, by rw [hk _ e3 e4]; exact e6⟩
theorem BAcc.cells {ok : Nat → Prop} {v : AV} {L : List (Nat × List Nat)} {H : AHeap} (h : BAcc H ok v L) : acells v = some [v] := by
  rcases h with ⟨_, rfl⟩ | ⟨_, id, vs, _, _, rfl, _⟩ <;> rfl
theorem BAcc.lt {ok : Nat → Prop} {id n o : Nat} {L : List (Nat × List Nat)} {H : AHeap} {z : Nat} {tg : Bool} (h : BAcc H ok (.msl id o n z tg) L) : id < H.next := by
  rcases h with ⟨_, e⟩ | ⟨_, id', vs, _, h2, e, _⟩
  · cases e
  · cases e; exact h2
theorem P2.append {R : AV → AV → Prop} : ∀ {a b c d : List AV}, P2 R a b → P2 R c d → P2 R (a ++ c) (b ++ d)
  | [], [], _, _, _, h => h
  | x :: a, y :: b, _, _, h, k => by
    obtain ⟨h1, h2⟩ := h.tail
    exact P2.cons h1 (P2.append h2 k)
  | [], _ :: _, _, _, h, _ => by have := h.1; simp at this
  | _ :: _, [], _, _, h, _ => by have := h.1; simp at this
theorem inst_p2 {H : AHeap} {k : Nat} : ∀ {ds : List InstD}, (∀ d ∈ ds, H.get d.k = .row (nints d.t)) → P2 (Pur H (k + 1)) (ds.flatMap InstD.cells) (instE.cells (ds.map InstD.pair))
  | [], _ => P2.nil
  | d :: ds, h => by
    have ih := inst_p2 (k := k) (ds := ds) fun x hx => h x (by simp [hx])
    simp only [List.flatMap_cons, List.map_cons, Enc.cells] at ih ⊢
    refine P2.append ?_ ih
    refine .cons (Pur.self rfl) (.cons ?_ (.cons (Pur.self rfl) (.cons (Pur.self rfl) (.cons (Pur.self rfl) (.cons (Pur.self rfl) .nil)))))
    refine .inr ⟨nints d.t, nints d.t, false, h d (by simp), P2.self (nints_purs _), (fun e => by cases e), ?_⟩
    rw [List.drop_zero, Nat.mul_one, List.take_of_length_le (by rw [n_len]; exact Nat.le_refl _)]
    simp [isl, ints', nints, InstD.pair]
theorem BAcc.pur {ok : Nat → Prop} {v : AV} {L : List (Nat × List Nat)} {H : AHeap} {k : Nat} (h : BAcc H ok v L) : Pur H (k + 2) v (instE.sl L) := by
  rcases h with ⟨rfl, rfl⟩ | ⟨h0, id, ds, h1, h2, rfl, h4, h5, h6⟩
  · exact Pur.nil
  · have hcl : (instE.cells L).length = L.length * 6 := instE.cells_len
    refine .inr ⟨_, instE.cells L, false, h4, by rw [h5]; exact inst_p2 fun d hd => (h6 d hd).2.2.2, fun e => e, ?_⟩
    rw [List.drop_zero, List.take_of_length_le (by omega), Enc.sl]
theorem bacc_push {ok : Nat → Prop} {v : AV} {L : List (Nat × List Nat)} {H : AHeap} {e k i : Nat} {t : List Nat} {tg : Bool} {nn : Nat} {ops : Array Oper} {Q : AExit → AFr → AHeap → Prop} {rest : List Oper} {d : Option Tmp} {fr : AFr}
    (h : BAcc H ok v L) (hb : ok H.next) (he : H.get e = .row (InstD.cells ⟨i, k, tg, t⟩)) (hk1 : ok k) (hk2 : k < H.next) (hg : H.get k = .row (nints t)) (hke : ∀ id o n z tg, v = .msl id o n z tg → k ≠ id) (hL : L.length ≤ 100000)
    (kk : ∀ v' H', BAcc H' ok v' (L ++ [(i, t)]) → H'.next = H.next + 1 → (∀ j, ¬ ok j → H'.get j = H.get j) → AOps E nn ops Q rest (aput nn fr d v') H') :
    R2 (aappend E.P 109 109 H v (.msl e 0 1 6 true)) E nn ops Q rest d fr := by
  have hsrc : asrc H 6 (.msl e 0 1 6 true) = some (1, InstD.cells ⟨i, k, tg, t⟩) := by
    rw [src_msl, he, srcR_row, if_pos ⟨rfl, by simp [InstD.cells]⟩]; rfl
  have hkn : ¬ k = H.next := by omega
  rw [append_eq, tel_109, appT_some, tby_116, tzero_116, appU_some, srcType_109]
  rw [show (acells (AV.agg [AV.int IntKind.i64 0, AV.nilsl, AV.int IntKind.i64 0, AV.int IntKind.i64 0, AV.int IntKind.i64 0, AV.nilsl])).map List.length = some 6 from rfl, appV_true, if_pos rfl, hsrc, appW_some]
  rcases h with ⟨rfl, rfl⟩ | ⟨h0, id, ds, h1, h2, rfl, h4, h5, h6⟩
  · rw [appN_nil, if_pos (by omega)]
    refine kk _ _ (.inr ⟨by simp, H.next, [⟨i, k, tg, t⟩], hb, by simp, by simp, by simp, rfl, fun d hd => ?_⟩) (by simp) fun j hj => ?_
    · simp at hd; subst hd
      exact ⟨hk1, by simp; omega, hkn, by simp [hkn]; exact hg⟩
    · have : ¬ j = H.next := fun e => hj (e ▸ hb)
      simp [this]
  · have hne := hke id _ _ _ _ rfl
    have hdl : ds.length = L.length := by rw [h5]; simp
    rw [appN_msl, h4, appR_row, if_pos ⟨rfl, by rw [inst_len]; omega⟩]
    simp only [Bool.false_eq_true, if_false, grow_some]
    rw [if_pos ⟨by omega, by omega⟩]
    refine kk _ _ (.inr ⟨by simp, H.next, ds ++ [⟨i, k, tg, t⟩], hb, by simp, by simp, ?_, by simp [h5, InstD.pair], fun d hd => ?_⟩) (by simp) fun j hj => ?_
    · rw [List.drop_zero, List.take_of_length_le (by rw [inst_len]; omega)]; simp
    · simp at hd
      rcases hd with hd | rfl
      · obtain ⟨e3, e4, e5, e6⟩ := h6 d hd
        have e1 : ¬ d.k = H.next := by omega
        exact ⟨e3, by simp; omega, e1, by simp [e1, e5]; exact e6⟩
      · exact ⟨hk1, by simp; omega, hkn, by simp [hkn, hne]; exact hg⟩
    · have e1 : ¬ j = H.next := fun e => hj (e ▸ hb)
      have e2 : ¬ j = id := fun e => hj (e ▸ h1)
      simp [e1, e2]
end Go.Zk
