/- Contracts: the elements of a school. Conditions: none. Contracts: the elements of a school. Conditions: none. Contracts: school.Count, school.Size. Conditions: none. Contracts: school.Size, school.Check. Conditions: none. Sets of plain keys, kept as maps to true. Conditions: none. Contracts: school.Check. Conditions: none. Contracts: week.Check. Conditions: none. More reading rules: append, slices of given parts. Conditions: none. Lists that grow by append. Conditions: none. Contracts: week.Diff. Conditions: none. Plain: the weeks of a school in their order. Conditions: none. -/
import Derived.Test.YtiplcbpocpgbbaaGreatDoorA11
import Derived.Test.YtiplcbpocpgbbaaGreatDoorA12
set_option linter.unusedSectionVars false
set_option linter.unusedSimpArgs false
set_option linter.unusedVariables false
set_option maxRecDepth 10000
namespace Go.Zk
open Go.Proofs
variable {E : Env} [h : Is E]
theorem name_96 (x : LessonD) : PF E 96 [.agg (lessonE.enc x)] (.str x.name) := by
  refine pf_of_body mixed fn_96 (by simp) ?_
  unfold Tryz.f96 ABody
  simp [lessonE]
  exact ⟨0, Pur.self rfl⟩
theorem name_98 (x : SlotD) : PF E 98 [.agg (slotE.enc x)] (.str x.name) := by
  refine pf_of_body mixed fn_98 (by simp) ?_
  unfold Tryz.f98 ABody
  simp [slotE]
  exact ⟨0, Pur.self rfl⟩
theorem name_100 (x : RoomD) : PF E 100 [.agg (roomE.enc x)] (.str x.name) := by
  refine pf_of_body mixed fn_100 (by simp) ?_
  unfold Tryz.f100 ABody
  simp [roomE]
  exact ⟨0, Pur.self rfl⟩
theorem name_102 (x : PersonD) : PF E 102 [.agg (personE.enc x)] (.str x.name) := by
  refine pf_of_body mixed fn_102 (by simp) ?_
  unfold Tryz.f102 ABody
  simp [personE]
  exact ⟨0, Pur.self rfl⟩
theorem name_104 (x : GroupD) : PF E 104 [.agg (groupE.enc x)] (.str x.name) := by
  refine pf_of_body mixed fn_104 (by simp) ?_
  unfold Tryz.f104 ABody
  simp [groupE]
  exact ⟨0, Pur.self rfl⟩
theorem row_106 (word : Str) (y : AV) (hy : acells y = some [y]) (H : AHeap) : AF E 106 [.str word, y] H (fun ar H' => ar = .ret (.func 146 [] [.ptr (H.next + 1) 0, .ptr H.next 0]) ∧ H' = (H.alloc (.row [.str word])).alloc (.row [y])) := by
  refine af_of_body mixed fn_106 (by simp) ?_
  unfold Tryz.f106 ABody
  simp [hy]
theorem digits_len (i : Nat) (hi : i < 100) : (Lib.decDigits i).length ≤ 20 := by
  by_cases h : i < 10
  · rw [Lib.decDigits_one h]; simp
  · rw [Lib.decDigits_two h hi]; simp
theorem row_146 (word : Str) (y : AV) (i : Nat) (hi : i < 100) (hw : word.length < 100) (a b : Nat) (P : Nat → Prop) (H : AHeap) (ok no : AHeap → Prop) (ha : H.get a = .row [y]) (hb : H.get b = .row [.str word])
    (hP : ∀ j, P j → j < H.next) (hy : ∀ H', H.next ≤ H'.next → (∀ j < H.next, H'.get j = H.get j) → AInv E y [I i, .str (word ++ Lib.decDigits i)] H' (YPost P H' ok no)) :
    AF E 146 [I i, .str [], .ptr a 0, .ptr b 0] H (YPost P H ok no) := by
  have hl := digits_len i hi
  refine af_of_body mixed fn_146 (by simp) ?_
  unfold Tryz.f146 ABody
  simp
  refine wp_open [(6, true), (8, false)] (by rfl) ?_
  simp [ha, hb]
  refine hc_pure (itoa i hi) rfl ?_
  have l1 : word.length + (Lib.decDigits i).length ≤ 4294967296 := by omega
  simp [l1]
  refine ⟨logOk_none rfl, ?_⟩
  refine rc_yield (hy _ (by simp) (fun j hj => rfl)) ?_ ?_
  · intro H' p q r
    simp at p q ⊢
    exact ⟨by omega, fun j hj hl => q j hj (by omega), r⟩
  · intro H' p q r
    simp at p q ⊢
    exact ⟨by omega, fun j hj hl => q j hj (by omega), r⟩
end Go.Zk
namespace Go.Zk
open Go.Proofs
variable {E : Env} [h : Is E]
structure SchoolD.Small (s : SchoolD) : Prop where
  slots : Big s.slots.length
  rooms : Big s.rooms.length
  people : Big s.people.length
  groups : Big s.groups.length
  lessons : Big s.lessons.length
def dayW : Str := [100, 97, 121]
def houseW : Str := [104, 111, 117, 115, 101]
def elems (s : SchoolD) (sort : Int) : List Str :=
  if sort = 1 then s.lessons.map (·.name) else if sort = 2 then s.slots.map (·.name) else if sort = 3 then s.rooms.map (·.name) else if sort = 4 then s.people.map (·.name)
  else if sort = 5 then s.groups.map (·.name) else if sort = 6 then (List.range 7).map fun i => dayW ++ Lib.decDigits i else if sort = 7 then (List.range 8).map fun i => houseW ++ Lib.decDigits i else []
def yl (l : List Str) : Nat → Nat → AHeap → List AV → Prop := fun _ i _ args => ∃ n, l[i]? = some n ∧ args = [I i, .str n]
def elP (sort : Int) : Nat → Nat → Prop := fun N j => (sort = 6 ∨ sort = 7) ∧ N ≤ j ∧ j < N + 3
theorem iter_yl {α : Type} {l : List α} {nm : α → Str} {call : AV → AHeap → (AR → AHeap → Prop) → Prop} (hi : IterG E call l.length (Elems (l.mapIdx fun i x => [I i, .str (nm x)])) noP) :
    IterG E call (l.map nm).length (yl (l.map nm)) noP := by
  intro y H0 J D hy hJ hD h0 step
  rw [List.length_map] at step ⊢
  refine hi y H0 J D hy hJ hD h0 fun i hi H args hn hj ha => step i hi H args hn hj ?_
  simp only [Elems, List.getElem?_mapIdx] at ha
  simp only [yl, List.getElem?_map]
  cases hc : l[i]? with
  | none => rw [hc] at ha; cases ha
  | some x => rw [hc] at ha; simp at ha; exact ⟨nm x, rfl, ha.symm⟩
theorem row_iter (word : Str) (hw : word.length < 100) (n ms a b : Nat) (tg : Bool) (hn : n ≤ 100) (y : AV) (P : Nat → Prop) (H0 H1 : AHeap) (J : Nat → AHeap → Prop) (D : AHeap → Prop) (hJ : ∀ i, Local H0.next P (J i)) (hD : Local H0.next P D) (h0 : J 0 H1)
    (step : ∀ i, i < n → ∀ H, H0.next ≤ H.next → J i H → AInv E y [I i, .str (word ++ Lib.decDigits i)] H (YPost P H (J (i + 1)) D))
    (h1 : H0.next ≤ H1.next) (gm : H1.get ms = .row []) (ga : H1.get a = .row [y]) (gb : H1.get b = .row [.str word])
    (lm : P ms) (la : P a) (lb : P b) (hP : ∀ j, P j → j < H1.next) :
    AF E 105 [.msl ms 0 n 0 tg, .nilfunc, .func 146 [] [.ptr a 0, .ptr b 0]] H1 (IPost H0.next (J n) D) := by
  refine (each_105 n ms tg (by simp [Big]; omega) _ H1 (fun i H => J i H ∧ H.get ms = .row [] ∧ H.get a = .row [y] ∧ H.get b = .row [.str word]) D ?_ ?_ ?_ ?_ ?_).mono ?_
  · rintro i p q hn ⟨x1, x2, x3, x4⟩ hk e
    exact ⟨hJ i p q (by omega) x1 hk fun j hj _ => e j hj id, by rw [e _ (Nat.lt_of_lt_of_le (hP _ lm) hn) id]; exact x2, by rw [e _ (Nat.lt_of_lt_of_le (hP _ la) hn) id]; exact x3, by rw [e _ (Nat.lt_of_lt_of_le (hP _ lb) hn) id]; exact x4⟩
  · exact fun p q hn x hk e => hD p q (by omega) x hk fun j hj _ => e j hj id
  · exact ⟨h0, gm, ga, gb⟩
  · exact fun i H x => x.2.1
  · rintro i hi H hN ⟨x1, x2, x3, x4⟩
    refine (ainv_func (first := []) (cap := [.ptr a 0, .ptr b 0]) (row_146 word y i (by omega) hw a b P H (J (i + 1)) D x3 x4 (fun j hj => Nat.lt_of_lt_of_le (hP j hj) hN) fun H' p q => ?_)).mono ?_
    · exact step i hi H' (by omega) (hJ i _ _ (by omega) x1 p fun j hj _ => q j hj)
    · refine YPost.mono (fun j hj => hj.elim) (fun H' p q => ⟨p, ?_, ?_, ?_⟩) fun H' p q => p
      · rw [q _ lm (Nat.lt_of_lt_of_le (hP _ lm) hN)]; exact x2
      · rw [q _ la (Nat.lt_of_lt_of_le (hP _ la) hN)]; exact x3
      · rw [q _ lb (Nat.lt_of_lt_of_le (hP _ lb) hN)]; exact x4
  · intro ar H' hp
    cases ar with
    | ret v => exact ⟨Nat.le_trans h1 hp.1, hp.2.imp (fun x => x.1) id⟩
    | panic v => exact hp.elim
theorem elems6 {s : SchoolD} {word : Str} {n : Nat} {sort : Int} (he : elems s sort = (List.range n).map fun i => word ++ Lib.decDigits i) {N i : Nat} {H : AHeap} (hi : i < n) : yl (elems s sort) N i H [I i, .str (word ++ Lib.decDigits i)] := by
  rw [he]; exact ⟨_, by simp [hi], rfl⟩
theorem elements_94 (s : SchoolD) (sort : Int) (hs : s.Small) : IterG E (fun y H Post => AF E 94 [y, .rptr [I sort] 0, .rptr s.cells 0] H Post) (elems s sort).length (yl (elems s sort)) (elP sort) := by
  intro y H0 J D hy hJ hD h0 step
  refine af_of_body mixed fn_94 (by simp) ?_
  unfold Tryz.f94 ABody
  by_cases c1 : sort = 1
  · simp [c1, SchoolD.cells]
    refine rc_af ((((iter_yl (each_95 s.lessons hs.lessons 96 _ name_96)).mono (fun N j hj => hj.elim)) y H0 J D hy hJ hD h0 (by simpa [elems, c1] using step)).mono fun ar H' hp => ?_)
    cases ar with
    | ret v => simpa [elems, c1] using hp
    | panic v => exact hp.elim
  by_cases c2 : sort = 2
  · simp [c2, SchoolD.cells]
    refine rc_af ((((iter_yl (each_97 s.slots hs.slots 98 _ name_98)).mono (fun N j hj => hj.elim)) y H0 J D hy hJ hD h0 (by simpa [elems, c2] using step)).mono fun ar H' hp => ?_)
    cases ar with
    | ret v => simpa [elems, c2] using hp
    | panic v => exact hp.elim
  by_cases c3 : sort = 3
  · simp [c3, SchoolD.cells]
    refine rc_af ((((iter_yl (each_99 s.rooms hs.rooms 100 _ name_100)).mono (fun N j hj => hj.elim)) y H0 J D hy hJ hD h0 (by simpa [elems, c3] using step)).mono fun ar H' hp => ?_)
    cases ar with
    | ret v => simpa [elems, c3] using hp
    | panic v => exact hp.elim
  by_cases c4 : sort = 4
  · simp [c4, SchoolD.cells]
    refine rc_af ((((iter_yl (each_101 s.people hs.people 102 _ name_102)).mono (fun N j hj => hj.elim)) y H0 J D hy hJ hD h0 (by simpa [elems, c4] using step)).mono fun ar H' hp => ?_)
    cases ar with
    | ret v => simpa [elems, c4] using hp
    | panic v => exact hp.elim
  by_cases c5 : sort = 5
  · simp [c5, SchoolD.cells]
    refine rc_af ((((iter_yl (each_103 s.groups hs.groups 104 _ name_104)).mono (fun N j hj => hj.elim)) y H0 J D hy hJ hD h0 (by simpa [elems, c5] using step)).mono fun ar H' hp => ?_)
    cases ar with
    | ret v => simpa [elems, c5] using hp
    | panic v => exact hp.elim
  by_cases c6 : sort = 6
  · simp [c6, SchoolD.cells]
    have he : elems s sort = (List.range 7).map fun i => dayW ++ Lib.decDigits i := by simp [elems, c6]
    have hlen : (elems s sort).length = 7 := by simp [he]
    have hlen6 : (elems s 6).length = 7 := by rw [c6] at hlen; exact hlen
    rw [hlen] at step
    refine wp_orders [[0, 1, 2, 3], [1, 0, 2, 3], [1, 2, 0, 3]] (by kernel_rfl) fun l hl => ?_
    simp at hl
    rcases hl with rfl | rfl | rfl
    · simp
      refine rc_af ((row_106 dayW y hy _).mono fun ar H' hp => ?_)
      obtain ⟨rfl, rfl⟩ := hp
      simp
      refine rc_af ((row_iter dayW (by decide) 7 H0.next (H0.next + 2) (H0.next + 1) true (by omega) y (elP sort H0.next) H0 _ J D hJ hD (hJ 0 _ _ (Nat.le_refl _) h0 (by simp <;> omega) fun j hj _ => ?_) (fun i hi H hn hj => step i hi H _ hn hj (elems6 he hi)) (by simp <;> omega) ?_ ?_ ?_ (by simp [elP, c6] <;> omega) (by simp [elP, c6] <;> omega) (by simp [elP, c6] <;> omega) (fun j hj => by have := hj.2; simp <;> omega)).mono fun ar H' hp => ?_)
      · have e1 : ¬ j = H0.next := by omega
        have e2 : ¬ j = H0.next + 1 := by omega
        have e3 : ¬ j = H0.next + 2 := by omega
        simp [e1, e2, e3]
      · simp <;> omega
      · simp <;> omega
      · simp <;> omega
      · cases ar with
        | ret v => simpa [hlen6] using hp
        | panic v => exact hp.elim
    · simp
      refine rc_af ((row_106 dayW y hy _).mono fun ar H' hp => ?_)
      obtain ⟨rfl, rfl⟩ := hp
      simp
      refine rc_af ((row_iter dayW (by decide) 7 H0.next (H0.next + 2) (H0.next + 1) true (by omega) y (elP sort H0.next) H0 _ J D hJ hD (hJ 0 _ _ (Nat.le_refl _) h0 (by simp <;> omega) fun j hj _ => ?_) (fun i hi H hn hj => step i hi H _ hn hj (elems6 he hi)) (by simp <;> omega) ?_ ?_ ?_ (by simp [elP, c6] <;> omega) (by simp [elP, c6] <;> omega) (by simp [elP, c6] <;> omega) (fun j hj => by have := hj.2; simp <;> omega)).mono fun ar H' hp => ?_)
      · have e1 : ¬ j = H0.next := by omega
        have e2 : ¬ j = H0.next + 1 := by omega
        have e3 : ¬ j = H0.next + 2 := by omega
        simp [e1, e2, e3]
      · simp <;> omega
      · simp <;> omega
      · simp <;> omega
      · cases ar with
        | ret v => simpa [hlen6] using hp
        | panic v => exact hp.elim
    · simp
      refine rc_af ((row_106 dayW y hy _).mono fun ar H' hp => ?_)
      obtain ⟨rfl, rfl⟩ := hp
      simp
      refine rc_af ((row_iter dayW (by decide) 7 (H0.next + 2) (H0.next + 1) H0.next true (by omega) y (elP sort H0.next) H0 _ J D hJ hD (hJ 0 _ _ (Nat.le_refl _) h0 (by simp <;> omega) fun j hj _ => ?_) (fun i hi H hn hj => step i hi H _ hn hj (elems6 he hi)) (by simp <;> omega) ?_ ?_ ?_ (by simp [elP, c6] <;> omega) (by simp [elP, c6] <;> omega) (by simp [elP, c6] <;> omega) (fun j hj => by have := hj.2; simp <;> omega)).mono fun ar H' hp => ?_)
      · have e1 : ¬ j = H0.next := by omega
        have e2 : ¬ j = H0.next + 1 := by omega
        have e3 : ¬ j = H0.next + 2 := by omega
        simp [e1, e2, e3]
      · simp <;> omega
      · simp <;> omega
      · simp <;> omega
      · cases ar with
        | ret v => simpa [hlen6] using hp
        | panic v => exact hp.elim
  by_cases c7 : sort = 7
  · simp [c7, SchoolD.cells]
    have he : elems s sort = (List.range 8).map fun i => houseW ++ Lib.decDigits i := by simp [elems, c7]
    have hlen : (elems s sort).length = 8 := by simp [he]
    have hlen7 : (elems s 7).length = 8 := by rw [c7] at hlen; exact hlen
    rw [hlen] at step
    refine wp_orders [[0, 1, 2, 3], [1, 0, 2, 3], [1, 2, 0, 3]] (by kernel_rfl) fun l hl => ?_
    simp at hl
    rcases hl with rfl | rfl | rfl
    · simp
      refine rc_af ((row_106 houseW y hy _).mono fun ar H' hp => ?_)
      obtain ⟨rfl, rfl⟩ := hp
      simp
      refine rc_af ((row_iter houseW (by decide) 8 H0.next (H0.next + 2) (H0.next + 1) true (by omega) y (elP sort H0.next) H0 _ J D hJ hD (hJ 0 _ _ (Nat.le_refl _) h0 (by simp <;> omega) fun j hj _ => ?_) (fun i hi H hn hj => step i hi H _ hn hj (elems6 he hi)) (by simp <;> omega) ?_ ?_ ?_ (by simp [elP, c7] <;> omega) (by simp [elP, c7] <;> omega) (by simp [elP, c7] <;> omega) (fun j hj => by have := hj.2; simp <;> omega)).mono fun ar H' hp => ?_)
      · have e1 : ¬ j = H0.next := by omega
        have e2 : ¬ j = H0.next + 1 := by omega
        have e3 : ¬ j = H0.next + 2 := by omega
        simp [e1, e2, e3]
      · simp <;> omega
      · simp <;> omega
      · simp <;> omega
      · cases ar with
        | ret v => simpa [hlen7] using hp
        | panic v => exact hp.elim
    · simp
      refine rc_af ((row_106 houseW y hy _).mono fun ar H' hp => ?_)
      obtain ⟨rfl, rfl⟩ := hp
      simp
      refine rc_af ((row_iter houseW (by decide) 8 H0.next (H0.next + 2) (H0.next + 1) true (by omega) y (elP sort H0.next) H0 _ J D hJ hD (hJ 0 _ _ (Nat.le_refl _) h0 (by simp <;> omega) fun j hj _ => ?_) (fun i hi H hn hj => step i hi H _ hn hj (elems6 he hi)) (by simp <;> omega) ?_ ?_ ?_ (by simp [elP, c7] <;> omega) (by simp [elP, c7] <;> omega) (by simp [elP, c7] <;> omega) (fun j hj => by have := hj.2; simp <;> omega)).mono fun ar H' hp => ?_)
      · have e1 : ¬ j = H0.next := by omega
        have e2 : ¬ j = H0.next + 1 := by omega
        have e3 : ¬ j = H0.next + 2 := by omega
        simp [e1, e2, e3]
      · simp <;> omega
      · simp <;> omega
      · simp <;> omega
      · cases ar with
        | ret v => simpa [hlen7] using hp
        | panic v => exact hp.elim
    · simp
      refine rc_af ((row_106 houseW y hy _).mono fun ar H' hp => ?_)
      obtain ⟨rfl, rfl⟩ := hp
      simp
      refine rc_af ((row_iter houseW (by decide) 8 (H0.next + 2) (H0.next + 1) H0.next true (by omega) y (elP sort H0.next) H0 _ J D hJ hD (hJ 0 _ _ (Nat.le_refl _) h0 (by simp <;> omega) fun j hj _ => ?_) (fun i hi H hn hj => step i hi H _ hn hj (elems6 he hi)) (by simp <;> omega) ?_ ?_ ?_ (by simp [elP, c7] <;> omega) (by simp [elP, c7] <;> omega) (by simp [elP, c7] <;> omega) (fun j hj => by have := hj.2; simp <;> omega)).mono fun ar H' hp => ?_)
      · have e1 : ¬ j = H0.next := by omega
        have e2 : ¬ j = H0.next + 1 := by omega
        have e3 : ¬ j = H0.next + 2 := by omega
        simp [e1, e2, e3]
      · simp <;> omega
      · simp <;> omega
      · simp <;> omega
      · cases ar with
        | ret v => simpa [hlen7] using hp
        | panic v => exact hp.elim
  · simp [c1, c2, c3, c4, c5, c6, c7, SchoolD.cells]
    simpa [elems, c1, c2, c3, c4, c5, c6, c7] using .inl h0
end Go.Zk
namespace Go.Zk
open Go.Proofs
variable {E : Env} [h : Is E]
def elemsF (s : SchoolD) (sort : Int) : AV := .func 94 [] [.rptr [I sort] 0, .rptr s.cells 0]
theorem elements_56 (s : SchoolD) (sort : Int) : PF E 56 [s.av, I sort] (elemsF s sort) := by
  refine pf_of_body mixed fn_56 (by simp) ?_
  unfold Tryz.f56 ABody
  simp [SchoolD.av]
  exact ⟨2, Pur.fn .nil (.cons (Pur.box (by simp) rfl) (.cons (Pur.box (by simp) rfl) .nil))⟩
theorem elems_iter (s : SchoolD) (sort : Int) (hs : s.Small) : IterG E (fun y H Post => AInv E (elemsF s sort) [y] H Post) (elems s sort).length (yl (elems s sort)) (elP sort) := by
  intro y H0 J D hy hJ hD h0 step
  exact ainv_func (elements_94 s sort hs y H0 J D hy hJ hD h0 step)
theorem elP_le (sort : Int) : ∀ N j, elP sort N j → N ≤ j := fun N j hj => hj.2.1
theorem elems_big (s : SchoolD) (sort : Int) (hs : s.Small) : Big (elems s sort).length := by
  obtain ⟨h1, h2, h3, h4, h5⟩ := hs
  unfold Big at *
  unfold elems
  repeat' split
  all_goals simp <;> omega
theorem count (s : SchoolD) (sort : Int) (hs : s.Small) : PF E 158 [s.av, I sort] (I (elems s sort).length) := by
  have hb := elems_big s sort hs
  unfold Big at hb
  refine pf_of_body mixed fn_158 (by simp) ?_
  unfold Tryz.f158 ABody
  simp [SchoolD.av, SchoolD.cells]
  refine rc_pure (elements_56 s sort) rfl ?_
  simp
  refine wp_iter mixed (by simpa using elems_iter s sort hs) (elP_le sort) (fun i H => H.get 1 = .row [I i]) (fun _ _ => False) ?_ ?_ ?_ ?_ ?_ ?_ ?_
  · intro i a b hn x hk e
    simp at hn e
    rw [e 1 (by omega) (by omega) (fun hp => by have := elP_le _ _ _ hp; omega)]; exact x
  · intro e a b hn x; exact x.elim
  · simp
  · intro H' hn hj
    simp [hj]
    exact ⟨0, Pur.self rfl⟩
  · intro H' hn hj; exact hj.elim
  · intro i H' hn hj; exact hj.elim
  · intro i hi H1 args hn hj ha hg
    obtain ⟨nm, h1, rfl⟩ := ha
    simp at hn hg hj
    have e2 : ¬ 2 = H1.next := by omega
    have e1 : ¬ 1 = H1.next := by omega
    have hw : IntKind.i64.wrap ((i : Int) + 1) = i + 1 := wrap_of (by omega) (by omega)
    simp [hg, hj, putAll, hw]
    intro j hp _
    have h1 := elP_le _ _ _ hp
    have e1 : ¬ j = 1 := by omega
    have e2 : ¬ j = 2 := by omega
    simp [e1, e2]
end Go.Zk
namespace Go.Zk
open Go.Proofs
variable {E : Env} [h : Is E]
/-- The sum as the program counts it. -/
def sumTo (gs : List GroupD) : Int → List Int → Int
  | n, [] => n
  | n, g :: l => sumTo gs (if 0 ≤ g ∧ g < gs.length then IntKind.i64.wrap (n + (gs[g.toNat]?.map GroupD.size).getD 0) else n) l
def sizeAt (s : SchoolD) (at_ : Int) : Int := if at_ < 0 ∨ s.lessons.length ≤ at_ then 0 else sumTo s.groups 0 ((s.lessons[at_.toNat]?.map LessonD.groups).getD [])
theorem size (s : SchoolD) (n : Int) (hs : s.Small) (hg : ∀ x ∈ s.lessons, Big x.groups.length) : PF E 170 [s.av, I n] (I (sizeAt s n)) := by
  refine pf_of_body mixed fn_170 (by simp) ?_
  unfold Tryz.f170 ABody
  by_cases c1 : n < 0
  · simp [SchoolD.av, SchoolD.cells, c1, sizeAt]
    exact ⟨0, Pur.self rfl⟩
  by_cases c2 : s.lessons.length ≤ n
  · have c2' : ¬ n < s.lessons.length := by omega
    have c1' : 0 ≤ n := by omega
    simp [SchoolD.av, SchoolD.cells, c1, c2, c1', c2', sizeAt, Enc.sl]
    exact ⟨0, Pur.self rfl⟩
  have c1' : 0 ≤ n := by omega
  obtain ⟨k, rfl⟩ := Int.eq_ofNat_of_zero_le c1'
  have hk : k < s.lessons.length := by omega
  have hb := hg _ (List.getElem_mem hk)
  unfold Big at hb
  simp [SchoolD.av, SchoolD.cells, c1, c2, c1', hk, sizeAt, Enc.sl]
  rw [show (lessonE.cells s.lessons)[k * 3 + 2]? = some (isl s.lessons[k].groups) from Enc.cell (c := lessonE) (k := 2) hk (by decide)]
  simp [isl]
  generalize s.lessons[k].groups = l at hb
  refine wp_loop (fun fr H m => ∃ (i : Nat) (a : Int), fr 5 = I a ∧ fr 2 = .ptr 0 0 ∧ fr 22 = isl l ∧ fr 23 = I l.length ∧ fr 24 = I i ∧ i + m = l.length ∧ H.get 0 = .row [slotE.sl s.slots, roomE.sl s.rooms, personE.sl s.people, groupE.sl s.groups, lessonE.sl s.lessons] ∧ sumTo s.groups 0 l = sumTo s.groups a (l.drop i)) l.length ?_ ?_
  · exact ⟨0, by simp [isl, Enc.sl]⟩
  rintro m fr H ⟨i, a, e5, e2, e22, e23, e24, hm, hH, hx⟩
  by_cases hi : i < l.length
  · have hd : l.drop i = l[i] :: l.drop (i + 1) := List.drop_eq_getElem_cons hi
    rw [hd, sumTo] at hx
    by_cases d1 : 0 ≤ l[i]
    · by_cases d2 : l[i] < s.groups.length
      · have hgl : l[i].toNat < s.groups.length := by omega
        simp [d1, d2, hgl] at hx
        simp [e5, e2, e22, e23, e24, hi, isl, d1, d2, hH, Enc.sl]
        rw [show (groupE.cells s.groups)[l[i].toNat * 2 + 1]? = some (I s.groups[l[i].toNat].size) from Enc.cell (c := groupE) (k := 1) hgl (by decide)]
        simp [e5, e2, e22, e23, e24, hi, isl, d1, d2, hH, Enc.sl]
        exact ⟨m - 1, by omega, i + 1, wrap_of (by omega) (by omega), by omega, hx⟩
      · simp [d1, d2] at hx
        simp [e5, e2, e22, e23, e24, hi, isl, d1, d2, hH, Enc.sl]
        exact ⟨m - 1, by omega, i + 1, wrap_of (by omega) (by omega), by omega, hx⟩
    · simp [d1] at hx
      simp [e5, e2, e22, e23, e24, hi, isl, d1, hH, Enc.sl]
      exact ⟨m - 1, by omega, i + 1, wrap_of (by omega) (by omega), by omega, hx⟩
  · simp [e5, e2, e22, e23, e24, hi, isl]
    rw [List.drop_eq_nil_of_le (by omega), sumTo] at hx
    rw [hx]
    exact ⟨0, Pur.self rfl⟩
end Go.Zk
namespace Go.Zk
section
variable {P : Program} {t kt et : TypeId} {H : AHeap} {E : Env} {α : Type} [DecidableEq α] {enc : α → AV} {d : TypeDesc} {id : Nat} {a : α}
def tset (enc : α → AV) (l : List α) : ABlk := .map (l.map enc) (l.map fun _ => .bool true)
theorem afind_enc (hd : ∀ a b, akey P d (enc a) (enc b) = some (decide (a = b))) : ∀ (l : List α) (n : Nat), afind P d (enc a) (l.map enc) n = some (if a ∈ l then some (n + l.idxOf a) else none)
  | [], n => rfl
  | b :: l, n => by
    simp only [List.map_cons, afind, hd]
    by_cases e : a = b
    · subst e; simp
    · rw [decide_eq_false e]
      simp only [Bool.false_eq_true, if_false]
      rw [afind_enc hd l (n + 1)]
      have : ¬ b = a := fun h => e h.symm
      by_cases hm : a ∈ l
      · have e2 : (b == a) = false := by simpa using this
        simp [hm, e, List.idxOf_cons, e2]; omega
      · simp [hm, e]
def inL (a : α) (l : List α) : Bool := decide (a ∈ l)
theorem lookup_set {l : List α} (hu : P.underlying t = some (.map kt et)) (hk : P.underlying kt = some d) (hz : tzero P et = some (.bool false)) (ho : ∀ a, keyOk P d (enc a) = true)
    (hd : ∀ a b, akey P d (enc a) (enc b) = some (decide (a = b))) (hg : H.get id = tset enc l) : alookup P t H (.map id) (enc a) false = some (.bool (inL a l)) := by
  unfold inL
  simp only [alookup, alookup0, hu, hk, ho, if_true, mapAt, hg, tset, afind_enc hd]
  by_cases hm : a ∈ l
  · have := List.idxOf_lt_length_of_mem hm
    simp [hm, this]
  · simp [hm, hz]
def addTo (l : List α) (a : α) : List α := if a ∈ l then l else l ++ [a]
theorem insert_set {l : List α} (hu : P.underlying t = some (.map kt et)) (hk : P.underlying kt = some d) (ho : ∀ a, keyOk P d (enc a) = true)
    (hd : ∀ a b, akey P d (enc a) (enc b) = some (decide (a = b))) (hg : H.get id = tset enc l) : amapset P t H (.map id) (enc a) (.bool true) = some (.tuple [], H.set id (tset enc (addTo l a))) := by
  simp only [amapset, hu, hk, ho, if_true, hg, tset, afind_enc hd]
  by_cases hm : a ∈ l
  · have hi := List.idxOf_lt_length_of_mem hm
    have e1 : (l.map enc).set (l.idxOf a) (enc a) = l.map enc := by
      apply List.ext_getElem (by simp)
      intro i h1 h2
      simp only [List.getElem_set, List.getElem_map]
      split
      · rename_i e; subst e; rw [List.getElem_idxOf]
      · rfl
    have e2 : (l.map fun _ => AV.bool true).set (l.idxOf a) (.bool true) = l.map fun _ => .bool true := by
      apply List.ext_getElem (by simp)
      intro i h1 h2
      simp only [List.getElem_set, List.getElem_map]
      split <;> rfl
    simp [hm, addTo, e1, e2]
  · simp [hm, addTo]
theorem akey_str (a b : List UInt8) : akey P .string (.str a) (.str b) = some (decide (a = b)) := rfl
theorem akey_pair {e : TypeId} {k : IntKind} (hu : P.underlying e = some (.int k)) (hz : tsz P e = some 1) (a b : Int × Int) : akey P (.array 2 e) (.agg [.int .i64 a.1, .int .i64 a.2]) (.agg [.int .i64 b.1, .int .i64 b.2]) = some (decide (a = b)) := by
  simp [akey, hu, hz, aints, Prod.ext_iff]
theorem keyOk_pair {e : TypeId} {k : IntKind} (hu : P.underlying e = some (.int k)) (hz : tsz P e = some 1) (a : Int × Int) : keyOk P (.array 2 e) (.agg [.int .i64 a.1, .int .i64 a.2]) = true := by
  simp [keyOk, hu, hz]
end
end Go.Zk
namespace Go.Zk
open Go.Proofs
variable {E : Env} [h : Is4 E]
noncomputable def named (E : Env) [Is4 E] (s : Str) : Bool := Classical.choose (named_all (E := E) s)
theorem named_pf (s : Str) : PF E 57 [.str s] (.bool (named E s)) := Classical.choose_spec (named_all (E := E) s)
@[simp] theorem tplaces_128 : tplaces E.P 128 = some (fun i => some (i * 1, 1)) := by rw [h.eq]; kernel_rfl
def pairE (a : Int × Int) : AV := .agg [.int .i64 a.1, .int .i64 a.2]
def badN (g : Str → Bool) : List Str → List Str → Bool
  | _, [] => false
  | seen, x :: l => (inL x seen || !g x) || badN g (addTo seen x) l
def badNs (g : Str → Bool) (s : SchoolD) : Nat → Bool
  | 0 => false
  | m + 1 => badN g [] (elems s (5 - m)) || badNs g s m
def badS : List (Int × Int) → List SlotD → Bool
  | _, [] => false
  | seen, x :: l => (inL (x.day, x.hour) seen || !inR x.day 6 || !inR x.hour 11) || badS (addTo seen (x.day, x.hour)) l
def oddSchool (s : SchoolD) : Bool := s.rooms.any (oddRoom s.slots.length) || s.people.any (oddPerson s.slots.length) || s.groups.any oddGroup || s.lessons.any (oddLesson s.people.length s.groups.length)
def greatSchool (s : SchoolD) : Bool := decide (50 < s.slots.length) || decide (32 < s.rooms.length) || decide (64 < s.people.length) || decide (64 < s.groups.length) || decide (64 < s.lessons.length)
noncomputable def schoolE (E : Env) [Is4 E] (s : SchoolD) : Int :=
  if badNs (named E) s 5 = true then 1 else if badS [] s.slots = true then 1 else if s.slots.length = 0 ∨ s.rooms.length = 0 then 1 else if oddSchool s = true then 1 else if greatSchool s = true then 2 else 0
structure SchoolD.Fit (s : SchoolD) : Prop extends s.Small where
  who : ∀ x ∈ s.lessons, Big x.who.length
  in_ : ∀ x ∈ s.lessons, Big x.groups.length
  shut : ∀ x ∈ s.rooms, Big x.shut.length
  away : ∀ x ∈ s.people, Big x.away.length
theorem school_check (s : SchoolD) (hs : s.Fit) : PF E 26 [s.av] (I (schoolE E s)) := by
  refine pf_of_body mixed fn_26 (by simp) ?_
  unfold Tryz.f26 ABody
  simp [SchoolD.av]
  refine wp_loop (fun fr H m => ∃ n : Nat, fr 1 = .ptr 0 0 ∧ fr 2 = .ptr 1 0 ∧ fr 3 = I (6 - n) ∧ n = m ∧ n ≤ 5 ∧ 2 ≤ H.next ∧ H.get 0 = .row s.cells ∧ H.get 1 = .row [I 0] ∧ badNs (named E) s 5 = badNs (named E) s n) 5 ?_ ?_
  · exact ⟨5, by simp⟩
  rintro m fr H ⟨n, e1, e2, e3, rfl, hn, hN, g0, g1, hx⟩
  match n with
  | n + 1 =>
    have c1 : (6 - ((n : Int) + 1)) ≤ 5 := by omega
    have d0 : ¬ 0 = H.next := by omega
    have d1 : ¬ 1 = H.next := by omega
    have d2 : ¬ 0 = H.next + 1 := by omega
    have d3 : ¬ 1 = H.next + 1 := by omega
    have d4 : ¬ H.next = 0 := by omega
    have d5 : ¬ H.next = 1 := by omega
    simp [e1, e2, e3, c1, g0, g1, d0, d1, d2, d3, SchoolD.cells]
    refine rc_pure (elements_56 s (6 - ((n : Int) + 1))) rfl ?_
    simp [e1, e2, e3]
    generalize hls : elems s (6 - ((n : Int) + 1)) = names
    refine wp_iter (A := yl names) (len := names.length) mixed (by rw [← hls]; simpa using elems_iter s _ hs.toSmall) (elP_le _)
      (fun i H' => H'.get 0 = .row s.cells ∧ H'.get 1 = .row [I 0] ∧ H'.get (H.next + 1) = .row [.map H.next] ∧ ∃ seen, H'.get H.next = tset .str seen ∧ badN (named E) [] names = badN (named E) seen (names.drop i))
      (fun e H' => e = .ret ∧ H'.get 1 = .row [I 1] ∧ badN (named E) [] names = true) ?_ ?_ ?_ ?_ ?_ ?_ ?_
    · rintro i a b hna ⟨x0, x1, x2, x3⟩ hk e
      simp at hna e
      have e' : ∀ j, j < H.next + 1 + 1 → b.get j = a.get j := fun j hj => e j (by omega) (by omega) fun hp => by have := elP_le _ _ _ hp; omega
      rw [e' 0 (by omega), e' 1 (by omega), e' _ (by omega), e' H.next (by omega)]
      exact ⟨x0, x1, x2, x3⟩
    · rintro e a b hna ⟨x0, x1, x2⟩ hk hh
      simp at hna hh
      exact ⟨x0, by rw [hh 1 (by omega) (by omega) (fun hp => by have := elP_le _ _ _ hp; omega)]; exact x1, x2⟩
    · simp [d0, d1, d2, d3, d4, d5, g0, g1]
      exact ⟨[], rfl, rfl⟩
    · rintro H' hn' ⟨x0, x1, x2, seen, x3, x4⟩
      simp [e1, e2, e3] at hn' ⊢
      rw [List.drop_length, badN] at x4
      refine ⟨n, by omega, n, ?_, rfl, by omega, by omega, x0, x1, ?_⟩
      · rw [wrap_of (by omega) (by omega)]; omega
      · rw [hx, badNs, show (5 - (n : Int)) = 6 - ((n : Int) + 1) by omega, hls, x4]; rfl
    · rintro H' hn' ⟨x0, x1, x2⟩
      have : schoolE E s = 1 := by
        unfold schoolE
        rw [if_pos]
        rw [hx, badNs, show (5 - (n : Int)) = 6 - ((n : Int) + 1) by omega, hls, x2]; rfl
      simp [x1, e1, e2, e3, this]
      exact ⟨0, Pur.self rfl⟩
    · rintro i H' hn' ⟨x0, x1, x2⟩
      cases x0
    · rintro i hi H1 args hn' ⟨x0, x1, x2, seen, x3, x4⟩ ha hg
      simp at hn' ha hg
      obtain ⟨nm, a1, rfl⟩ := ha
      have hi' : names[i]? = some nm := a1
      have hd : names.drop i = nm :: names.drop (i + 1) := by
        rw [List.getElem?_eq_some_iff] at hi'
        obtain ⟨h1, h2⟩ := hi'
        rw [List.drop_eq_getElem_cons h1, h2]
      rw [hd, badN] at x4
      have q1 : ¬ H.next + 1 + 1 = H1.next := by omega
      have q2 : ¬ H.next + 1 = H1.next := by omega
      have q3 : ¬ H.next = H1.next := by omega
      have q4 : ¬ 1 = H1.next := by omega
      have q5 : ¬ 1 = H.next + 1 + 1 := by omega
      simp [hg, putAll, x2]
      rw [lookup_set (P := E.P) (enc := .str) (d := .string) (l := seen) u_122 u_9 tzero_4 (fun _ => rfl) (fun a b => akey_str a b) (by simp [x3])]
      by_cases m1 : inL nm seen = true
      · simp [m1, e2, x1, hg]
        refine ⟨fun j hp _ => ?_, x4.trans (by simp [m1])⟩
        have h1 := elP_le _ _ _ hp
        have r1 : ¬ j = H.next + 1 + 1 := by omega
        have r2 : ¬ j = 1 := by omega
        simp [r1, r2]
      simp [m1]
      refine rc_pure (named_pf nm) rfl ?_
      by_cases m2 : named E nm = true
      · simp [m1, m2, x2]
        rw [insert_set (P := E.P) (enc := .str) (d := .string) (l := seen) u_122 u_9 (fun _ => rfl) (fun a b => akey_str a b) (by simp [x3])]
        simp [hg, x0, x1, x2]
        refine ⟨fun j hp _ => ?_, fun e => absurd e d0, fun e => absurd e d1, addTo seen nm, rfl, ?_⟩
        · have h1 := elP_le _ _ _ hp
          have r1 : ¬ j = H.next + 1 + 1 := by omega
          have r2 : ¬ j = H.next := by omega
          simp [r1, r2]
        · rw [x4, m2]; simp at m1; rw [m1]; rfl
      · simp [m1, m2, e2, x1, hg]
        refine ⟨fun j hp _ => ?_, x4.trans (by simp [m1, m2])⟩
        have h1 := elP_le _ _ _ hp
        have r1 : ¬ j = H.next + 1 + 1 := by omega
        have r2 : ¬ j = 1 := by omega
        simp [r1, r2]
  | 0 =>
    have d0 : ¬ 0 = H.next := by omega
    have d1 : ¬ 1 = H.next := by omega
    rw [badNs] at hx
    have hsl := hs.slots
    unfold Big at hsl
    simp [e1, e2, e3, g0, g1, d0, d1, SchoolD.cells, Enc.sl]
    refine wp_loop (fun fr H1 m => ∃ (i : Nat) (seen : List (Int × Int)), fr 1 = .ptr 0 0 ∧ fr 2 = .ptr 1 0 ∧ fr 7 = .map H.next ∧ fr 40 = slotE.sl s.slots ∧ fr 41 = I s.slots.length ∧ fr 42 = I i ∧ i + m = s.slots.length ∧
      H.next < H1.next ∧ H1.get 0 = .row s.cells ∧ H1.get 1 = .row [I 0] ∧ H1.get H.next = tset pairE seen ∧ badS [] s.slots = badS seen (s.slots.drop i)) s.slots.length ?_ ?_
    · exact ⟨0, [], by simp [e1, e2, g0, g1, d0, d1, SchoolD.cells, Enc.sl, tset]⟩
    have hsch : badS [] s.slots = true → schoolE E s = 1 := fun hb => by
      unfold schoolE; rw [hx, hb]; rfl
    rintro m fr H1 ⟨i, seen, e1, e2, e7, e40, e41, e42, hm, hn1, x0, x1, x3, x4⟩
    by_cases hi : i < s.slots.length
    · have hd : s.slots.drop i = s.slots[i] :: s.slots.drop (i + 1) := List.drop_eq_getElem_cons hi
      rw [hd, badS] at x4
      have q1 : ¬ 0 = H1.next := by omega
      have q2 : ¬ 1 = H1.next := by omega
      have q3 : ¬ H.next = H1.next := by omega
      have q4 : ¬ 0 = H1.next + 1 := by omega
      have q5 : ¬ 1 = H1.next + 1 := by omega
      have q6 : ¬ H.next = H1.next + 1 := by omega
      have q7 : ¬ H1.next = 0 := by omega
      have q8 : ¬ H1.next = 1 := by omega
      simp [e1, e2, e7, e40, e41, e42, hi, Enc.sl]
      rw [show apart true 3 (i * 3) (slotE.cells s.slots) = some (.agg (slotE.enc s.slots[i])) from slotE.part hi]
      simp [slotE, e7, splice]
      rw [show ∀ (HH : AHeap) (x y : Int), HH.get H.next = tset pairE seen → alookup E.P 127 HH (.map H.next) (.agg [I x, I y]) false = some (.bool (inL (x, y) seen)) from fun HH x y hh => lookup_set (P := E.P) (enc := pairE) (a := (x, y)) u_127 u_128 tzero_4 (keyOk_pair u_3 tsz_3) (akey_pair u_3 tsz_3) hh]
      rotate_left
      · simp [q3, q6, x3]
      by_cases m1 : inL (s.slots[i].day, s.slots[i].hour) seen = true
      · simp [m1, e2, x1, q2, q5, q7, q8]
        rw [hsch (x4.trans (by rw [m1]; rfl))]
        exact ⟨0, Pur.self rfl⟩
      simp [m1]
      refine rc_pure (within _ _) rfl ?_
      by_cases m2 : inR s.slots[i].day 6 = true
      · simp [m2]
        refine rc_pure (within _ _) rfl ?_
        by_cases m3 : inR s.slots[i].hour 11 = true
        · simp [m3, e7]
          rw [show ∀ (HH : AHeap) (x y : Int), HH.get H.next = tset pairE seen → amapset E.P 127 HH (.map H.next) (.agg [I x, I y]) (.bool true) = some (.tuple [], HH.set H.next (tset pairE (addTo seen (x, y)))) from fun HH x y hh => insert_set (P := E.P) (enc := pairE) (a := (x, y)) u_127 u_128 (keyOk_pair u_3 tsz_3) (akey_pair u_3 tsz_3) hh]
          rotate_left
          · simp [q3, q6, x3]
          simp [e1, e2, e7, e40, e41, e42]
          have r1 : ¬ 0 = H.next := by omega
          have r2 : ¬ 1 = H.next := by omega
          simp only [r1, r2, q1, q2, q4, q5, q7, q8, if_false]
          refine ⟨m - 1, by omega, rfl, i + 1, wrap_of (by omega) (by omega), by omega, by omega, x0, x1, _, rfl, ?_⟩
          simp at m1
          rw [x4, m1, m2, m3]; rfl
        · simp [m3, e2, x1, q2, q5, q7, q8]
          simp at m3
          rw [hsch (x4.trans (by rw [m3]; simp))]
          exact ⟨0, Pur.self rfl⟩
      · simp [m2, e2, x1, q2, q5, q7, q8]
        simp at m2
        rw [hsch (x4.trans (by rw [m2]; simp))]
        exact ⟨0, Pur.self rfl⟩
    · simp [e1, e2, e7, e40, e41, e42, hi]
      rw [List.drop_eq_nil_of_le (by omega), badS] at x4
      have q1 : ¬ 0 = H1.next := by omega
      have q2 : ¬ 1 = H1.next := by omega
      have q7 : ¬ H1.next = 0 := by omega
      have q8 : ¬ H1.next = 1 := by omega
      refine wp_open [(15, true)] (by rfl) ?_
      simp [e1, e2, x0, x1, SchoolD.cells, Enc.sl]
      refine ⟨logOk_of [0, 1, 3, 0, 8, 24, 0, 64, 192, 0, 0, 0, 3591, 7743, 16383] (by kernel_rfl) ?_, ?_⟩
      · simp (decide := true) [logRows, logRow, logPair, rdOf, footOf, Op.operands, Call.operands, idOf, e1, e2]
      have hb : badS [] s.slots = false := x4
      by_cases s1 : s.slots = []
      · simp [s1, e1, e2, x1, q2, q7, q8]
        have hr : schoolE E s = 1 := by unfold schoolE; rw [hx, hb]; simp [s1]
        rw [hr]
        exact ⟨0, Pur.self rfl⟩
      by_cases s2 : s.rooms = []
      · simp [s1, s2, e1, e2, x0, x1, q2, q7, q8, SchoolD.cells, Enc.sl]
        have hr : schoolE E s = 1 := by unfold schoolE; rw [hx, hb]; simp [s1, s2]
        rw [hr]
        exact ⟨0, Pur.self rfl⟩
      have hodd : oddSchool s = true → schoolE E s = 1 := fun ho => by unfold schoolE; rw [hx, hb, ho]; simp [s1, s2]
      simp [s1, s2, e1, e2, x0, x1, q2, q7, q8, SchoolD.cells, Enc.sl]
      have c64 := contains_64 (E := E) (g := oddRoom s.slots.length) (k := 59) (a := []) (b := [.rptr [I s.slots.length] 0]) rfl s.rooms hs.rooms (fun x hx => odd_room _ x (hs.shut x hx))
      refine rc_pf c64 (Borrow.by rfl 3 (.cons (Pur.self rfl) (.cons (Pur.fn .nil (.cons (Pur.box (by simp) rfl) .nil)) .nil))) ?_
      by_cases o1 : s.rooms.any (oddRoom s.slots.length) = true
      · simp only [o1]
        simp [s1, s2, e1, e2, x0, x1, q2, q7, q8, SchoolD.cells, Enc.sl]
        rw [hodd (by unfold oddSchool; rw [o1]; rfl)]
        exact ⟨0, Pur.self rfl⟩
      have o1' : s.rooms.any (oddRoom s.slots.length) = false := by simpa using o1
      simp only [o1']
      simp [s1, s2, e1, e2, x0, x1, q2, q7, q8, SchoolD.cells, Enc.sl]
      have c65 := contains_65 (E := E) (g := oddPerson s.slots.length) (k := 61) (a := []) (b := [.rptr [I s.slots.length] 0]) rfl s.people hs.people (fun x hx => odd_person _ x (hs.away x hx))
      refine rc_pf c65 (Borrow.by rfl 3 (.cons (Pur.self rfl) (.cons (Pur.fn .nil (.cons (Pur.box (by simp) rfl) .nil)) .nil))) ?_
      by_cases o2 : s.people.any (oddPerson s.slots.length) = true
      · simp only [o2]
        simp [s1, s2, e1, e2, x0, x1, q2, q7, q8, SchoolD.cells, Enc.sl]
        rw [hodd (by unfold oddSchool; rw [o1', o2]; rfl)]
        exact ⟨0, Pur.self rfl⟩
      have o2' : s.people.any (oddPerson s.slots.length) = false := by simpa using o2
      simp only [o2']
      simp [s1, s2, e1, e2, x0, x1, q2, q7, q8, SchoolD.cells, Enc.sl]
      have c66 := contains_66 (E := E) (g := oddGroup) (k := 62) (a := []) (b := []) rfl s.groups hs.groups (fun x hx => odd_group x)
      refine rc_pure c66 rfl ?_
      by_cases o3 : s.groups.any oddGroup = true
      · simp only [o3]
        simp [s1, s2, e1, e2, x0, x1, q2, q7, q8, SchoolD.cells, Enc.sl]
        rw [hodd (by unfold oddSchool; rw [o1', o2', o3]; rfl)]
        exact ⟨0, Pur.self rfl⟩
      have o3' : s.groups.any oddGroup = false := by simpa using o3
      simp only [o3']
      simp [s1, s2, e1, e2, x0, x1, q2, q7, q8, SchoolD.cells, Enc.sl]
      have c67 := contains_67 (E := E) (g := oddLesson s.people.length s.groups.length) (k := 63) (a := []) (b := [.rptr [I s.people.length] 0, .rptr [I s.groups.length] 0]) rfl s.lessons hs.lessons (fun x hx => odd_lesson _ _ x (hs.who x hx) (hs.in_ x hx))
      refine rc_pf c67 (Borrow.by rfl 3 (.cons (Pur.self rfl) (.cons (Pur.fn .nil (.cons (Pur.box (by simp) rfl) (.cons (Pur.box (by simp) rfl) .nil))) .nil))) ?_
      by_cases o4 : s.lessons.any (oddLesson s.people.length s.groups.length) = true
      · simp only [o4]
        simp [s1, s2, e1, e2, x0, x1, q2, q7, q8, SchoolD.cells, Enc.sl]
        rw [hodd (by unfold oddSchool; rw [o1', o2', o3', o4]; rfl)]
        exact ⟨0, Pur.self rfl⟩
      have o4' : s.lessons.any (oddLesson s.people.length s.groups.length) = false := by simpa using o4
      have hno : oddSchool s = false := by unfold oddSchool; rw [o1', o2', o3', o4']; rfl
      simp only [o4']
      have hlast : schoolE E s = if greatSchool s = true then 2 else 0 := by unfold schoolE; rw [hx, hb, hno]; simp [s1, s2]
      rw [hlast]
      by_cases z1 : (50 : Int) < s.slots.length
      · have hg : greatSchool s = true := by unfold greatSchool; rw [decide_eq_true (by omega : 50 < s.slots.length)]; rfl
        have z1' : ¬ (s.slots.length : Int) ≤ 50 := by omega
        simp [s1, s2, e1, e2, x0, x1, q2, q7, q8, SchoolD.cells, Enc.sl, z1, z1', hg]
        exact ⟨0, Pur.self rfl⟩
      have z1' : (s.slots.length : Int) ≤ 50 := by omega
      by_cases z2 : (32 : Int) < s.rooms.length
      · have hg : greatSchool s = true := by unfold greatSchool; rw [decide_eq_true (by omega : 32 < s.rooms.length)]; simp
        have z2' : ¬ (s.rooms.length : Int) ≤ 32 := by omega
        simp [s1, s2, e1, e2, x0, x1, q2, q7, q8, SchoolD.cells, Enc.sl, z1, z1', z2, z2', hg]
        exact ⟨0, Pur.self rfl⟩
      have z2' : (s.rooms.length : Int) ≤ 32 := by omega
      by_cases z3 : (64 : Int) < s.people.length
      · have hg : greatSchool s = true := by unfold greatSchool; rw [decide_eq_true (by omega : 64 < s.people.length)]; simp
        have z3' : ¬ (s.people.length : Int) ≤ 64 := by omega
        simp [s1, s2, e1, e2, x0, x1, q2, q7, q8, SchoolD.cells, Enc.sl, z1, z1', z2, z2', z3, z3', hg]
        exact ⟨0, Pur.self rfl⟩
      have z3' : (s.people.length : Int) ≤ 64 := by omega
      by_cases z4 : (64 : Int) < s.groups.length
      · have hg : greatSchool s = true := by unfold greatSchool; rw [decide_eq_true (by omega : 64 < s.groups.length)]; simp
        have z4' : ¬ (s.groups.length : Int) ≤ 64 := by omega
        simp [s1, s2, e1, e2, x0, x1, q2, q7, q8, SchoolD.cells, Enc.sl, z1, z1', z2, z2', z3, z3', z4, z4', hg]
        exact ⟨0, Pur.self rfl⟩
      have z4' : (s.groups.length : Int) ≤ 64 := by omega
      by_cases z5 : (64 : Int) < s.lessons.length
      · have hg : greatSchool s = true := by unfold greatSchool; rw [decide_eq_true (by omega : 64 < s.lessons.length)]; simp
        have z5' : ¬ (s.lessons.length : Int) ≤ 64 := by omega
        simp [s1, s2, e1, e2, x0, x1, q2, q7, q8, SchoolD.cells, Enc.sl, z1, z1', z2, z2', z3, z3', z4, z4', z5, z5', hg]
        exact ⟨0, Pur.self rfl⟩
      have z5' : (s.lessons.length : Int) ≤ 64 := by omega
      have hg : greatSchool s = false := by
        unfold greatSchool
        rw [decide_eq_false (by omega : ¬ 50 < s.slots.length), decide_eq_false (by omega : ¬ 32 < s.rooms.length), decide_eq_false (by omega : ¬ 64 < s.people.length), decide_eq_false (by omega : ¬ 64 < s.groups.length), decide_eq_false (by omega : ¬ 64 < s.lessons.length)]; rfl
      simp [s1, s2, e1, e2, x0, x1, q2, q7, q8, SchoolD.cells, Enc.sl, z1, z1', z2, z2', z3, z3', z4, z4', z5, z5', hg]
      exact ⟨0, Pur.self rfl⟩
end Go.Zk
namespace Go.Zk
open Go.Proofs
variable {E : Env} [h : Is4 E]
def in2 (n m : Int) : Bool := decide (0 ≤ n ∧ n < m)
theorem within2 (n m : Int) : PF E 131 [I n, I m] (.bool (in2 n m)) := by
  refine pf_of_body mixed fn_131 (by simp) ?_
  unfold Tryz.f131 ABody
  by_cases h0 : 0 ≤ n <;> simp [h0, in2] <;> exact ⟨0, Pur.self rfl⟩
def lost (s : SchoolD) (p : PlaceD) : Bool := !in2 p.slot s.slots.length || !in2 p.room s.rooms.length
theorem lost_pf (s : SchoolD) (p : PlaceD) : PF E 130 [.agg (placeE.enc p), .rptr s.cells 0] (.bool (lost s p)) := by
  refine pf_of_body mixed fn_130 (by simp) ?_
  unfold Tryz.f130 ABody
  simp [placeE, SchoolD.cells, Enc.sl]
  refine rc_pure (within2 _ _) rfl ?_
  by_cases h1 : in2 p.slot s.slots.length = true
  · simp [h1]
    refine rc_pure (within2 _ _) rfl ?_
    simp [lost, h1]
    exact ⟨0, Pur.self rfl⟩
  · simp at h1
    simp [h1, lost]
    exact ⟨0, Pur.self rfl⟩
noncomputable def weekE' (E : Env) [Is4 E] (s : SchoolD) (w : List PlaceD) : Int :=
  if schoolE E s ≠ 0 then schoolE E s else if w.length ≠ s.lessons.length ∨ w.any (lost s) = true then 40 else 0
theorem week_check (s : SchoolD) (w : List PlaceD) (hs : s.Fit) (hw : Big w.length) : PF E 83 [s.av, weekAV w] (I (weekE' E s w)) := by
  refine pf_of_body mixed fn_83 (by simp) ?_
  unfold Tryz.f83 ABody
  simp [SchoolD.av, weekAV]
  refine rc_pure (school_check s hs) rfl ?_
  by_cases c0 : schoolE E s = 0
  · by_cases c1 : w.length = s.lessons.length
    · simp [c0, c1, SchoolD.cells, Enc.sl]
      have c132 := contains_132 (E := E) (g := lost s) (k := 130) (a := []) (b := [.rptr s.cells 0]) rfl w hw (fun x _ => lost_pf s x)
      rw [Enc.sl, c1] at c132
      refine rc_pf c132 (Borrow.by rfl 3 (.cons (Pur.self rfl) (.cons (Pur.fn .nil (.cons (Pur.box (by simp [SchoolD.cells, Enc.sl]) rfl) .nil)) .nil))) ?_
      by_cases c2 : w.any (lost s) = true
      · simp only [c2]; simp [weekE', c0, c1, c2]
        exact ⟨0, Pur.self rfl⟩
      · simp only [Bool.not_eq_true] at c2; simp only [c2]; simp [weekE', c0, c1, c2]
        exact ⟨0, Pur.self rfl⟩
    · have c1' : ¬ (w.length : Int) = s.lessons.length := by omega
      simp [c0, c1, c1', SchoolD.cells, Enc.sl, weekE']
      exact ⟨0, Pur.self rfl⟩
  · simp [c0, weekE']
    exact ⟨0, Pur.self rfl⟩
end Go.Zk
namespace Go.Zk
section
variable {P : Program} {t : TypeId} {H : AHeap} {E : Env}
/-! slices of given parts -/
def newBW (z len : Nat) : Option (List AV) → Option ((Nat → AV) × ABlk)
  | some l => some (fun id => .msl id 0 len z true, .row l)
  | none => none
def newBV (c : Option (List AV)) (z len : Nat) (parts : List (Nat × AV)) : Option ((Nat → AV) × ABlk) := match c with
  | some l => if l.length = z then newBW z len (afill (fun i => some (i * z, z)) (List.replicate len l).flatten parts) else none
  | none => none
def newBU (zv : Option AV) (z len : Nat) (parts : List (Nat × AV)) : Option ((Nat → AV) × ABlk) := match zv with
  | some x => newBV (acells x) z len parts
  | none => none
def newBS (P : Program) (o : Option (TypeId × Nat)) (len : Nat) (parts : List (Nat × AV)) : Option ((Nat → AV) × ABlk) := match o with
  | some (e, z) => if len * z ≤ 16777216 then newBU (tzero P e) z len parts else none
  | none => none
@[simp] theorem newBW_some {z len : Nat} {l : List AV} : newBW z len (some l) = some (fun id => .msl id 0 len z true, .row l) := rfl
@[simp] theorem newBV_some {z len : Nat} {l : List AV} {parts : List (Nat × AV)} : newBV (some l) z len parts = if l.length = z then newBW z len (afill (fun i => some (i * z, z)) (List.replicate len l).flatten parts) else none := rfl
@[simp] theorem newBU_some {z len : Nat} {x : AV} {parts : List (Nat × AV)} : newBU (some x) z len parts = newBV (acells x) z len parts := rfl
@[simp] theorem newBS_some {e z len : Nat} {parts : List (Nat × AV)} : newBS P (some (e, z)) len parts = if len * z ≤ 16777216 then newBU (tzero P e) z len parts else none := rfl
@[simp] theorem new_parts {ρ : Operand → AV} {len : Nat} {ps : Array (Nat × Operand)} : anew E (.buildSlice t len ps) ρ = newBS E.P (tel E.P t) len (ps.toList.map fun q => (q.1, ρ q.2)) := by
  simp only [anew]
  cases tel E.P t with
  | none => rfl
  | some p =>
    obtain ⟨e, z⟩ := p
    simp only [newBS_some]
    split
    · simp only [tzeros]
      cases tzero E.P e with
      | none => rfl
      | some x =>
        simp only [newBU_some]
        cases acells x with
        | none => rfl
        | some l =>
          simp only [newBV_some]
          by_cases hl : l.length = z
          · simp only [hl, if_true]
            cases afill (fun i => some (i * z, z)) (List.replicate len l).flatten (ps.toList.map fun q => (q.1, ρ q.2)) <;> rfl
          · simp only [hl, if_false]
    · rfl
/-! append -/
def appN (z by_ : Nat) (n : Nat) (news : List AV) (H : AHeap) (s : AV) : Option (AV × AHeap) :=
  if n = 0 then (match s with
    | .nilsl => some (.nilsl, H)
    | .sl len t cells => some (.sl len t cells, H)
    | .msl i o l q t => if q = z then some (.msl i o l q t, H) else none
    | _ => none)
  else (match s with
    | .nilsl => agrow H z by_ 0 n [] news none
    | .sl len tight cells => if tight = true ∧ cells.length = len * z then agrow H z by_ len n cells news none else none
    | .msl id off len esz tight => match H.get id with
      | .row cs => if esz = z ∧ off + len * z ≤ cs.length then agrow H z by_ len n ((cs.drop off).take (len * z)) news (if tight = true then none else some id) else none
      | _ => none
    | _ => none)
def appW (z by_ : Nat) (H : AHeap) (s : AV) : Option (Nat × List AV) → Option (AV × AHeap)
  | some (n, news) => appN z by_ n news H s
  | none => none
def appV (st : Bool) (k : Option Nat) (z by_ : Nat) (H : AHeap) (s x : AV) : Option (AV × AHeap) := if st = true ∧ k = some z then appW z by_ H s (asrc H z x) else none
def appU (b : Option Nat) (zv : Option AV) (st : Bool) (z : Nat) (H : AHeap) (s x : AV) : Option (AV × AHeap) := match b, zv with
  | some by_, some zv => appV st ((acells zv).map List.length) z by_ H s x
  | _, _ => none
def appT (P : Program) (o : Option (TypeId × Nat)) (st : Bool) (H : AHeap) (s x : AV) : Option (AV × AHeap) := match o with
  | some (e, z) => appU (tby P e) (tzero P e) st z H s x
  | none => none
@[simp] theorem appT_some {e z : Nat} {st : Bool} {s x : AV} : appT P (some (e, z)) st H s x = appU (tby P e) (tzero P e) st z H s x := rfl
@[simp] theorem appU_some {by_ z : Nat} {zv : AV} {st : Bool} {s x : AV} : appU (some by_) (some zv) st z H s x = appV st ((acells zv).map List.length) z by_ H s x := rfl
@[simp] theorem appV_true {k z by_ : Nat} {s x : AV} : appV true (some k) z by_ H s x = if k = z then appW z by_ H s (asrc H z x) else none := by simp [appV]
@[simp] theorem appW_some {n z by_ : Nat} {news : List AV} {s : AV} : appW z by_ H s (some (n, news)) = appN z by_ n news H s := rfl
@[simp] theorem append_eq {xt : TypeId} {s x : AV} : aappend P t xt H s x = appT P (tel P t) (srcType P xt) H s x := by
  unfold aappend appT
  cases tel P t with
  | none => rfl
  | some p =>
    obtain ⟨e, z⟩ := p
    simp only
    unfold appU
    cases tby P e with
    | none => rfl
    | some by_ =>
      cases tzero P e with
      | none => rfl
      | some zv =>
        simp only [appV]
        split
        · cases asrc H z x with
          | none => rfl
          | some q => rfl
        · rfl
def srcR (z off n esz : Nat) : ABlk → Option (Nat × List AV)
  | .row cs => if esz = z ∧ off + n * z ≤ cs.length then some (n, (cs.drop off).take (n * z)) else none
  | _ => none
@[simp] theorem src_nil {z : Nat} : asrc H z .nilsl = some (0, []) := rfl
@[simp] theorem src_sl {z n : Nat} {tg : Bool} {cells : List AV} : asrc H z (.sl n tg cells) = if cells.length = n * z then some (n, cells) else none := rfl
@[simp] theorem src_msl {z id off n esz : Nat} {tg : Bool} : asrc H z (.msl id off n esz tg) = srcR z off n esz (H.get id) := by
  simp only [asrc, srcR]; cases H.get id <;> rfl
@[simp] theorem srcR_row {z off n esz : Nat} {cs : List AV} : srcR z off n esz (.row cs) = if esz = z ∧ off + n * z ≤ cs.length then some (n, (cs.drop off).take (n * z)) else none := rfl
@[simp] theorem appN_zero_nil {z by_ : Nat} {news : List AV} : appN z by_ 0 news H .nilsl = some (.nilsl, H) := rfl
@[simp] theorem appN_zero_sl {z by_ n : Nat} {news : List AV} {tg : Bool} {cs : List AV} : appN z by_ 0 news H (.sl n tg cs) = some (.sl n tg cs, H) := rfl
@[simp] theorem appN_zero_msl {z by_ i o l q : Nat} {news : List AV} {tg : Bool} : appN z by_ 0 news H (.msl i o l q tg) = if q = z then some (.msl i o l q tg, H) else none := rfl
@[simp] theorem appN_nil {z by_ n : Nat} {news : List AV} : appN z by_ (n + 1) news H .nilsl = if n + 1 ≤ 4294967296 ∧ (n + 1) * by_ ≤ 140737488355328 then some (.msl H.next 0 (n + 1) z false, H.alloc (.row news)) else none := by
  unfold appN agrow; simp
def appR (z by_ n off len : Nat) (news : List AV) (kill : Option Nat) (esz : Nat) (H : AHeap) : ABlk → Option (AV × AHeap)
  | .row cs => if esz = z ∧ off + len * z ≤ cs.length then agrow H z by_ len n ((cs.drop off).take (len * z)) news kill else none
  | _ => none
@[simp] theorem appN_msl {z by_ n i o l q : Nat} {news : List AV} {tg : Bool} : appN z by_ (n + 1) news H (.msl i o l q tg) = appR z by_ (n + 1) o l news (if tg = true then none else some i) q H (H.get i) := by
  unfold appN appR; simp
@[simp] theorem appR_row {z by_ n off len esz : Nat} {news cs : List AV} {kill : Option Nat} : appR z by_ n off len news kill esz H (.row cs) = if esz = z ∧ off + len * z ≤ cs.length then agrow H z by_ len n ((cs.drop off).take (len * z)) news kill else none := rfl
@[simp] theorem grow_none {z by_ len n : Nat} {olds news : List AV} : agrow H z by_ len n olds news none = if len + n ≤ 4294967296 ∧ (len + n) * by_ ≤ 140737488355328 then some (.msl H.next 0 (len + n) z false, H.alloc (.row (olds ++ news))) else none := rfl
@[simp] theorem grow_some {z by_ len n i : Nat} {olds news : List AV} : agrow H z by_ len n olds news (some i) = if len + n ≤ 4294967296 ∧ (len + n) * by_ ≤ 140737488355328 then some (.msl H.next 0 (len + n) z false, (H.set i .dead).alloc (.row (olds ++ news))) else none := rfl
end
end Go.Zk
namespace Go.Zk
section
variable {P : Program} {t : TypeId} {H : AHeap} {E : Env} {α : Type} {c : Enc α}
/-- v is the list l, in memory of its own from base on. -/
def Acc (H : AHeap) (base : Nat) (v : AV) (c : Enc α) (l : List α) : Prop :=
  (l = [] ∧ v = .nilsl) ∨ (l ≠ [] ∧ ∃ id, base ≤ id ∧ id < H.next ∧ v = .msl id 0 l.length c.z false ∧ H.get id = .row (c.cells l))
theorem Acc.nil {base : Nat} : Acc H base .nilsl c [] := .inl ⟨rfl, rfl⟩
theorem Acc.keep {H' : AHeap} {base : Nat} {v : AV} {l : List α} (h : Acc H base v c l) (hn : H.next ≤ H'.next) (hk : ∀ j, base ≤ j → j < H.next → H'.get j = H.get j) : Acc H' base v c l := by
  rcases h with h | ⟨h1, id, h2, h3, h4, h5⟩
  · exact .inl h
  · exact .inr ⟨h1, id, h2, by omega, h4, by rw [hk id h2 h3]; exact h5⟩
/-- What the list reads as. -/
def Enc.ol (c : Enc α) (l : List α) : AV := match l with
  | [] => .nilsl
  | _ => c.sl l
theorem Acc.pur {base k : Nat} {v : AV} {l : List α} (h : Acc H base v c l) (hp : ∀ x ∈ l, AV.purs (c.enc x) = true) : Pur H (k + 1) v (c.ol l) := by
  rcases h with ⟨rfl, rfl⟩ | ⟨h1, id, h2, h3, rfl, h5⟩
  · exact Pur.self rfl
  · have hcells : AV.purs (c.cells l) = true := by
      clear h5 h1 h2 h3
      induction l with
      | nil => rfl
      | cons x l ih =>
        have : ∀ a b : List AV, AV.purs a = true → AV.purs b = true → AV.purs (a ++ b) = true := by
          intro a b ha hb
          induction a with
          | nil => exact hb
          | cons y a ih => simp only [AV.purs, Bool.and_eq_true, List.cons_append] at ha ⊢; exact ⟨ha.1, ih ha.2⟩
        simp only [Enc.cells, List.flatMap_cons]
        exact this _ _ (hp x (by simp)) (ih fun y hy => hp y (by simp [hy]))
    have := Pur.msl (k := k) (off := 0) (len := l.length) (esz := c.z) (tg := false) (tg' := false) h5 hcells (fun e => e)
    cases l with
    | nil => exact absurd rfl h1
    | cons x l =>
      simp only [Enc.ol, Enc.sl]
      rw [List.drop_zero, List.take_of_length_le (by rw [c.cells_len]; exact Nat.le_refl _)] at this
      exact this
theorem Acc.pur' {base k : Nat} {v : AV} {l : List α} (h : Acc H base v c l) (hp : ∀ x ∈ l, AV.purs (c.enc x) = true) : Pur H (k + 1) v (c.sl l) := by
  have := h.pur (k := k) hp
  cases l with
  | nil =>
    rcases h with ⟨_, rfl⟩ | ⟨h1, _⟩
    · exact Pur.nil
    · exact absurd rfl h1
  | cons x l => exact this
theorem Enc.cells_snoc {l : List α} {x : α} : c.cells (l ++ [x]) = c.cells l ++ c.enc x := by simp [Enc.cells]
theorem acc_push {base e ee by_ : Nat} {v zv : AV} {l : List α} {x : α} (h : Acc H base v c l) (hb : base ≤ H.next) (hx : H.get e = .row (c.enc x)) (h1 : tel P t = some (ee, c.z)) (h2 : tby P ee = some by_) (h3 : tzero P ee = some zv)
    (h4 : srcType P t = true) (h5 : (acells zv).map List.length = some c.z) (h6 : l.length + 1 ≤ 4294967296) (h7 : (l.length + 1) * by_ ≤ 140737488355328) :
    ∃ v' H', aappend P t t H v (.msl e 0 1 c.z true) = some (v', H') ∧ Acc H' base v' c (l ++ [x]) ∧ H'.next = H.next + 1 ∧ ∀ j, j < base → H'.get j = H.get j := by
  have hlen := c.len x
  have hsrc : asrc H c.z (.msl e 0 1 c.z true) = some (1, c.enc x) := by
    rw [src_msl, hx, srcR_row, if_pos ⟨rfl, by omega⟩]
    rw [List.drop_zero, List.take_of_length_le (by omega)]
  rw [append_eq, h1, appT_some, h2, h3, appU_some, h4, h5, appV_true, if_pos rfl, hsrc, appW_some]
  rcases h with ⟨rfl, rfl⟩ | ⟨k1, id, k2, k3, rfl, k5⟩
  · rw [appN_nil, if_pos (by simp at h7 ⊢; omega)]
    refine ⟨_, _, rfl, .inr ⟨by simp, H.next, hb, by simp, rfl, by simp [Enc.cells]⟩, by simp, fun j hj => ?_⟩
    have : ¬ j = H.next := by omega
    simp [this]
  · rw [appN_msl, k5, appR_row, if_pos ⟨rfl, by rw [c.cells_len]; omega⟩]
    simp only [Bool.false_eq_true, if_false, grow_some]
    rw [if_pos ⟨h6, h7⟩]
    refine ⟨_, _, rfl, .inr ⟨by simp, H.next, hb, by simp, by simp, ?_⟩, by simp, fun j hj => ?_⟩
    · rw [c.cells_snoc, List.drop_zero, List.take_of_length_le (by rw [c.cells_len]; exact Nat.le_refl _)]; simp
    · have e1 : ¬ j = H.next := by omega
      have e2 : ¬ j = id := by omega
      simp [e1, e2]
theorem r2_push {n : Nat} {ops : Array Oper} {Q : AExit → AFr → AHeap → Prop} {rest : List Oper} {d : Option Tmp} {fr : AFr} {base e ee by_ : Nat} {v zv : AV} {l : List α} (c : Enc α) (x : α) (h : Acc H base v c l) (hb : base ≤ H.next) (hx : H.get e = .row (c.enc x)) (h1 : tel E.P t = some (ee, c.z)) (h2 : tby E.P ee = some by_) (h3 : tzero E.P ee = some zv)
    (h4 : srcType E.P t = true) (h5 : (acells zv).map List.length = some c.z) (h6 : l.length + 1 ≤ 4294967296) (h7 : (l.length + 1) * by_ ≤ 140737488355328)
    (k : ∀ v' H', Acc H' base v' c (l ++ [x]) → H'.next = H.next + 1 → (∀ j, j < base → H'.get j = H.get j) → AOps E n ops Q rest (aput n fr d v') H') :
    R2 (aappend E.P t t H v (.msl e 0 1 c.z true)) E n ops Q rest d fr := by
  obtain ⟨v', H', e1, e2, e3, e4⟩ := acc_push h hb hx h1 h2 h3 h4 h5 h6 h7
  rw [e1]
  exact k v' H' e2 e3 e4
end
end Go.Zk
namespace Go.Zk
open Go.Proofs
variable {E : Env} [h : Is E]
theorem ne_place (a b c d : Int) : abin E.P .neq 48 (.agg [I a, I b]) (.agg [I c, I d]) = some (.bool (decide (¬ (a = c ∧ b = d)))) := by
  rw [bin_ne_agg tplain_48]
  simp [aeqs, aeq1]
  by_cases h1 : a = c <;> by_cases h2 : b = d <;> simp [h1, h2]
def moveE : Enc (Nat × PlaceD) := ⟨3, fun x => [I x.1, I x.2.slot, I x.2.room], fun _ => rfl⟩
def diffTo (old w : List PlaceD) : Nat → List (Nat × PlaceD)
  | 0 => []
  | i + 1 => diffTo old w i ++ (if w[i]? = old[i]? then [] else (w[i]?.map fun p => (i, p)).toList)
theorem diffTo_len (old w : List PlaceD) : ∀ i, (diffTo old w i).length ≤ i
  | 0 => by simp [diffTo]
  | i + 1 => by
    have := diffTo_len old w i
    simp only [diffTo]
    split
    · simp; omega
    · cases w[i]? <;> simp <;> omega
def diffAV (old w : List PlaceD) : AV := if old.length = w.length then .tuple [moveE.ol (diffTo old w w.length), I 0] else .tuple [.nilsl, I 1]
theorem diff (old w : List PlaceD) (h1 : old.length ≤ 4096) (h2 : w.length ≤ 4096) : PF E 51 [weekAV old, weekAV w] (diffAV old w) := by
  refine pf_of_body mixed fn_51 (by simp) ?_
  unfold Tryz.f51 ABody
  by_cases c : old.length = w.length
  · have c' : (old.length : Int) = w.length := by omega
    simp [weekAV, Enc.sl, c']
    refine wp_loop (fun fr H m => ∃ i : Nat, fr 2 = .ptr 0 0 ∧ fr 3 = .ptr 1 0 ∧ fr 5 = I 0 ∧ fr 16 = placeE.sl w ∧ fr 17 = I w.length ∧ fr 18 = I i ∧ i + m = w.length ∧ 2 ≤ H.next ∧
      H.get 0 = .row [placeE.sl old] ∧ H.get 1 = .row [placeE.sl w] ∧ Acc H 2 (fr 4) moveE (diffTo old w i)) w.length ?_ ?_
    · exact ⟨0, by simp [Enc.sl, c]; exact Acc.nil⟩
    rintro m fr H ⟨i, e2, e3, e5, e16, e17, e18, hm, hn, g0, g1, ha⟩
    by_cases hi : i < w.length
    · have hj : i < old.length := by omega
      have q0 : ¬ 0 = H.next := by omega
      have q1 : ¬ 1 = H.next := by omega
      simp [e2, e3, e5, e16, e17, e18, hi, Enc.sl]
      rw [show apart true 2 (i * 2) (placeE.cells w) = some (.agg (placeE.enc w[i])) from placeE.part hi]
      simp [placeE]
      refine wp_open [(7, true)] (by rfl) ?_
      simp [e2, e3, e5, e16, e17, e18, hi, Enc.sl, g0, g1, q0, q1, hj]
      rw [show apart true 2 (i * 2) (placeE.cells old) = some (.agg (placeE.enc old[i])) from placeE.part hj]
      simp [placeE, ne_place]
      refine ⟨logOk_none rfl, ?_⟩
      have hdec : (w[i].slot = old[i].slot → ¬ w[i].room = old[i].room) ↔ ¬ w[i] = old[i] := by
        cases hw : w[i]; cases ho : old[i]; simp
      have hlen := diffTo_len old w i
      by_cases d : w[i] = old[i]
      · have hd : diffTo old w (i + 1) = diffTo old w i := by simp [diffTo, d, hi, hj]
        simp [hdec, d, e2, e3, e5, e16, e17, e18, Enc.sl]
        refine ⟨m - 1, by omega, rfl, i + 1, wrap_of (by omega) (by omega), by omega, by simp [q0, g0, Enc.sl, placeE], by simp [q1, g1, Enc.sl, placeE], ?_⟩
        rw [hd]
        refine ha.keep (by simp; omega) fun j h1 h2 => ?_
        have : ¬ j = H.next := by omega
        simp [this]
      · have hd : diffTo old w (i + 1) = diffTo old w i ++ [(i, w[i])] := by simp [diffTo, d, hi, hj]
        have hor : ¬ w[i].slot = old[i].slot ∨ ¬ w[i].room = old[i].room := by
          by_cases x : w[i].slot = old[i].slot
          · exact .inr (hdec.2 d x)
          · exact .inl x
        simp [-append_eq, hor, e2, e3, e5, e16, e17, e18, Enc.sl, splice]
        refine r2_push moveE (i, w[i]) (ha.keep (by simp <;> omega) fun j h1 h2 => ?_) (by simp <;> omega) (by simp [moveE]) tel_117 tby_172 tzero_172 srcType_117 rfl (by omega) (by omega) fun v' H' a b k => ?_
        · have e1 : ¬ j = H.next := by omega
          have e2 : ¬ j = H.next + 1 + 7 := by omega
          simp [e1, e2]
        have k0 := k 0 (by omega)
        have k1 := k 1 (by omega)
        have q2 : ¬ 0 = H.next + 1 + 7 := by omega
        have q3 : ¬ 1 = H.next + 1 + 7 := by omega
        simp [q0, q1, q2, q3, g0, g1] at k0 k1 b
        simp [e2, e3, e5, e16, e17, e18, Enc.sl]
        refine ⟨m - 1, by omega, rfl, i + 1, wrap_of (by omega) (by omega), by omega, by omega, k0, k1, ?_⟩
        rw [hd]
        exact a
    · simp [e2, e3, e5, e16, e17, e18, hi]
      have : i = w.length := by omega
      subst this
      refine ⟨2, ?_⟩
      rw [diffAV, if_pos c]
      refine .inr ⟨_, .cons (ha.pur fun x _ => rfl) (.cons (Pur.self rfl) .nil), rfl⟩
  · have c' : ¬ (old.length : Int) = w.length := by omega
    simp [weekAV, Enc.sl, c, c', diffAV]
    exact ⟨0, Pur.self rfl⟩
end Go.Zk
namespace Go.Zk
/-- The next week; the last place first. -/
def incR (S R : Nat) : List PlaceD → Option (List PlaceD)
  | [] => none
  | p :: l => if p.room + 1 < R then some (⟨p.slot, p.room + 1⟩ :: l) else if p.slot + 1 < S then some (⟨p.slot + 1, 0⟩ :: l) else (incR S R l).map (⟨0, 0⟩ :: ·)
def okPlaces (S R : Nat) (l : List PlaceD) : Prop := ∀ p ∈ l, (0 ≤ p.slot ∧ p.slot < S) ∧ 0 ≤ p.room ∧ p.room < R
def rankR (S R : Nat) : List PlaceD → Nat
  | [] => 0
  | p :: l => (p.slot.toNat * R + p.room.toNat) + (S * R) * rankR S R l
theorem digit_lt {S R a b : Nat} (ha : a < S) (hb : b < R) : a * R + b < S * R := by
  have : (a + 1) * R ≤ S * R := Nat.mul_le_mul_right _ ha
  rw [Nat.add_mul] at this; omega
theorem inc_rank {S R : Nat} : ∀ {l l' : List PlaceD}, okPlaces S R l → incR S R l = some l' → okPlaces S R l' ∧ rankR S R l' = rankR S R l + 1 ∧ l'.length = l.length
  | [], l', _, h => by cases h
  | p :: l, l', ho, h => by
    have hp := ho p (by simp)
    have hl : okPlaces S R l := fun q hq => ho q (by simp [hq])
    simp only [incR] at h
    split at h
    · cases h
      refine ⟨?_, ?_, rfl⟩
      · intro q hq
        simp at hq
        rcases hq with rfl | hq
        · exact ⟨hp.1, by simp only; omega, by simp only; omega⟩
        · exact hl q hq
      · simp only [rankR]
        rw [show (p.room + 1).toNat = p.room.toNat + 1 by omega]; omega
    · split at h
      · cases h
        refine ⟨?_, ?_, rfl⟩
        · intro q hq
          simp at hq
          rcases hq with rfl | hq
          · exact ⟨⟨by simp only; omega, by simp only; omega⟩, by simp only; omega, by simp only; omega⟩
          · exact hl q hq
        · simp only [rankR]
          rw [show (p.slot + 1).toNat = p.slot.toNat + 1 by omega, show p.room.toNat = R - 1 by omega, Nat.add_mul]
          simp; omega
      · cases hi : incR S R l with
        | none => rw [hi] at h; cases h
        | some l1 =>
          rw [hi] at h
          cases h
          obtain ⟨h1, h2, h3⟩ := inc_rank hl hi
          refine ⟨?_, ?_, by simp [h3]⟩
          · intro q hq
            simp at hq
            rcases hq with rfl | hq
            · exact ⟨⟨by simp, by simp only; omega⟩, by simp, by simp only; omega⟩
            · exact h1 q hq
          · simp only [rankR, h2, Nat.mul_add]
            have e1 : p.slot.toNat = S - 1 := by omega
            have e2 : p.room.toNat = R - 1 := by omega
            rw [e1, e2]
            have e3 : (S - 1 + 1) * R = S * R := by rw [show S - 1 + 1 = S by omega]
            rw [Nat.add_mul] at e3
            simp
            omega
theorem rank_lt {S R : Nat} : ∀ {l : List PlaceD}, okPlaces S R l → rankR S R l < (S * R) ^ l.length
  | [], _ => by simp [rankR]
  | p :: l, ho => by
    have hp := ho p (by simp)
    have ih := rank_lt (S := S) (R := R) (l := l) fun q hq => ho q (by simp [hq])
    have hd := digit_lt (S := S) (R := R) (a := p.slot.toNat) (b := p.room.toNat) (by omega) (by omega)
    simp only [rankR, List.length_cons, Nat.pow_succ]
    have : (rankR S R l + 1) * (S * R) ≤ (S * R) ^ l.length * (S * R) := Nat.mul_le_mul_right _ ih
    rw [Nat.add_mul, Nat.mul_comm (rankR S R l)] at this
    omega
def allFrom (S R : Nat) : Nat → List PlaceD → List (List PlaceD)
  | 0, _ => []
  | f + 1, l => l.reverse :: (match incR S R l with
    | some l' => allFrom S R f l'
    | none => [])
theorem allFrom_len {S R : Nat} : ∀ {f : Nat} {l : List PlaceD}, (allFrom S R f l).length ≤ f
  | 0, _ => by simp [allFrom]
  | f + 1, l => by
    simp only [allFrom, List.length_cons]
    cases incR S R l with
    | none => simp
    | some l' => have := allFrom_len (S := S) (R := R) (f := f) (l := l'); simp; omega
def zeroW (n : Nat) : List PlaceD := List.replicate n ⟨0, 0⟩
theorem zero_ok {S R n : Nat} (hS : 0 < S) (hR : 0 < R) : okPlaces S R (zeroW n) := by
  intro p hp
  have := List.eq_of_mem_replicate hp
  subst this
  exact ⟨⟨by simp, by simp only; omega⟩, by simp, by simp only; omega⟩
theorem zero_rank {S R : Nat} : ∀ {n : Nat}, rankR S R (zeroW n) = 0
  | 0 => rfl
  | n + 1 => by
    have := zero_rank (S := S) (R := R) (n := n)
    simp only [zeroW, List.replicate_succ, rankR] at this ⊢
    simp [this]
def weeksL (S R n : Nat) : List (List PlaceD) := allFrom S R ((S * R) ^ n) (zeroW n)
theorem weeksL_len {S R n : Nat} : (weeksL S R n).length ≤ (S * R) ^ n := allFrom_len
theorem allFrom_ok {S R : Nat} : ∀ {f : Nat} {l : List PlaceD}, okPlaces S R l → ∀ w ∈ allFrom S R f l, okPlaces S R w ∧ w.length = l.length
  | 0, _, _, w, hw => by simp [allFrom] at hw
  | f + 1, l, ho, w, hw => by
    simp only [allFrom, List.mem_cons] at hw
    rcases hw with rfl | hw
    · exact ⟨fun p hp => ho p (by simpa using hp), by simp⟩
    · cases hi : incR S R l with
      | none => rw [hi] at hw; simp at hw
      | some l' =>
        rw [hi] at hw
        obtain ⟨h1, _, h3⟩ := inc_rank ho hi
        obtain ⟨k1, k2⟩ := allFrom_ok h1 w hw
        exact ⟨k1, by omega⟩
end Go.Zk
