/- Contracts: week.weeks. Conditions: none. Contracts: week.All. Conditions: none. Contracts: week.All. Conditions: none. More reading rules: checks of nil, slices of texts and lists, the lesser and the greater. Conditions: none. Contracts: strings.Trim over the letters of names. Conditions: none. Maps of package variables: asked by plain keys. Conditions: none. Contracts: formula, the parts of formed. Conditions: the package variables are laid. -/
import Derived.Test.YtiplcbpocpgbbaaGreatDoorA13
set_option linter.unusedSectionVars false
set_option linter.unusedSimpArgs false
set_option linter.unusedVariables false
set_option maxRecDepth 10000
namespace Go.Zk
open Go.Proofs
variable {E : Env} [h : Is E]
theorem cells_mid {t r : List PlaceD} {p : PlaceD} : placeE.cells (t ++ p :: r) = placeE.cells t ++ I p.slot :: I p.room :: placeE.cells r := by
  simp [Enc.cells]; rfl
theorem cells_two {t : List PlaceD} : (placeE.cells t).length = t.length * 2 := placeE.cells_len
theorem cell_slot {t r : List PlaceD} {p : PlaceD} : (placeE.cells (t ++ p :: r))[t.length * 2]? = some (I p.slot) := by
  rw [cells_mid, List.getElem?_append_right (by rw [cells_two]; exact Nat.le_refl _), cells_two]; simp
theorem cell_room {t r : List PlaceD} {p : PlaceD} : (placeE.cells (t ++ p :: r))[t.length * 2 + 1]? = some (I p.room) := by
  rw [cells_mid, List.getElem?_append_right (by rw [cells_two]; omega), cells_two]; simp
theorem cell_slot_get {t r : List PlaceD} {p : PlaceD} {h : t.length * 2 < (placeE.cells (t ++ p :: r)).length} : (placeE.cells (t ++ p :: r))[t.length * 2] = I p.slot := by
  have := cell_slot (t := t) (r := r) (p := p)
  rw [List.getElem?_eq_getElem h] at this
  exact Option.some.inj this
theorem cell_room_get {t r : List PlaceD} {p : PlaceD} {h : t.length * 2 + 1 < (placeE.cells (t ++ p :: r)).length} : (placeE.cells (t ++ p :: r))[t.length * 2 + 1] = I p.room := by
  have := cell_room (t := t) (r := r) (p := p)
  rw [List.getElem?_eq_getElem h] at this
  exact Option.some.inj this
theorem set_slot {t r : List PlaceD} {p : PlaceD} {v : Int} : splice (placeE.cells (t ++ p :: r)) (t.length * 2) [I v] = placeE.cells (t ++ ⟨v, p.room⟩ :: r) := by
  rw [cells_mid, cells_mid, splice, List.take_left' cells_two, List.drop_append, List.drop_eq_nil_of_le (by rw [cells_two]; simp), cells_two]
  simp
theorem set_room {t r : List PlaceD} {p : PlaceD} {v : Int} : splice (placeE.cells (t ++ p :: r)) (t.length * 2 + 1) [I v] = placeE.cells (t ++ ⟨p.slot, v⟩ :: r) := by
  rw [cells_mid, cells_mid, splice, List.drop_append, List.drop_eq_nil_of_le (by rw [cells_two]; simp; omega), cells_two, List.take_append, cells_two]
  rw [List.take_of_length_le (by rw [cells_two]; omega)]
  simp [show t.length * 2 + 1 - t.length * 2 = 1 by omega, show t.length * 2 + 1 + 1 - t.length * 2 = 2 by omega]
theorem cells_fits {t r : List PlaceD} {p : PlaceD} {k : Nat} (hk : k < 2) : t.length * 2 + k + 1 ≤ (placeE.cells (t ++ p :: r)).length := by
  rw [cells_two]; simp; omega
def WeekA (S R n : Nat) : Nat → Nat → AHeap → List AV → Prop := fun N i H args => ∃ w, N < H.next ∧ args = [.msl N 0 n 2 true] ∧ (weeksL S R n)[i]? = some w ∧ H.get N = .row (placeE.cells w)
def weekP : Nat → Nat → Prop := fun N j => j = N
theorem zeroW_snoc (z : Nat) : zeroW (z + 1) = zeroW z ++ [⟨0, 0⟩] := by unfold zeroW; rw [List.replicate_succ']
theorem zeroW_rev (z : Nat) : (zeroW z).reverse = zeroW z := by unfold zeroW; simp
theorem weeks_68 (s : SchoolD) (hS : 0 < s.slots.length) (hR : 0 < s.rooms.length) (bS : s.slots.length ≤ 50) (bR : s.rooms.length ≤ 32) (bn : s.lessons.length ≤ 64) :
    IterG E (fun y H Post => AF E 68 [y, .rptr s.cells 0] H Post) (weeksL s.slots.length s.rooms.length s.lessons.length).length (WeekA s.slots.length s.rooms.length s.lessons.length) weekP := by
  intro y H0 J D hy hJ hD h0 step
  generalize hSS : s.slots.length = S at *
  generalize hRR : s.rooms.length = R at *
  generalize hnn : s.lessons.length = n at *
  refine af_of_body mixed fn_68 (by simp) ?_
  unfold Tryz.f68 ABody
  simp [SchoolD.cells, Enc.sl, hSS, hRR, hnn]
  rw [if_pos ⟨by omega, by omega⟩]
  simp
  have hzero : (List.replicate n [AV.int IntKind.i64 0, AV.int IntKind.i64 0]).flatten = placeE.cells (zeroW n) := by
    clear bn hnn step
    induction n with
    | zero => rfl
    | succ n ih => simp only [List.replicate_succ, List.flatten_cons, ih, zeroW, Enc.cells, List.flatMap_cons]; rfl
  rw [hzero]
  refine wp_loop (fun fr H m => ∃ (i f : Nat) (l : List PlaceD), fr 0 = y ∧ fr 1 = .rptr s.cells 0 ∧ fr 3 = .msl H0.next 0 n 2 true ∧ H0.next < H.next ∧ H.get H0.next = .row (placeE.cells l.reverse) ∧ okPlaces S R l ∧ l.length = n ∧
    f + rankR S R l = (S * R) ^ n ∧ (weeksL S R n).drop i = allFrom S R f l ∧ i + m = (weeksL S R n).length ∧ J i H) (weeksL S R n).length ?_ ?_
  · refine ⟨0, (S * R) ^ n, zeroW n, ?_⟩
    simp [SchoolD.cells, Enc.sl, hSS, hRR, hnn, zeroW_rev]
    refine ⟨zero_ok hS hR, by simp [zeroW], zero_rank, rfl, hJ 0 _ _ (Nat.le_refl _) h0 (by simp) fun j hj hp => ?_⟩
    have : ¬ j = H0.next := hp
    simp [this]
  rintro m fr H ⟨i, f, l, e0, e1, e3, hN, hg, ho, hl, hf, hd, hm, hj⟩
  have hrk := rank_lt ho
  rw [hl] at hrk
  obtain ⟨f, rfl⟩ : ∃ k, f = k + 1 := ⟨f - 1, by omega⟩
  rw [allFrom] at hd
  have hi : i < (weeksL S R n).length := by
    rcases Nat.lt_or_ge i (weeksL S R n).length with h | h
    · exact h
    · rw [List.drop_eq_nil_of_le h] at hd; cases hd
  have hwi : (weeksL S R n)[i]? = some l.reverse := by
    have := congrArg (fun l => l[0]?) hd
    simpa using this
  simp [e0, e1, e3]
  refine rc_yield (step i hi H _ (by omega) hj ⟨l.reverse, hN, rfl, hwi, hg⟩) ?_ ?_
  · intro H1 p q r
    have hg1 : H1.get H0.next = .row (placeE.cells l.reverse) := by rw [q _ rfl hN]; exact hg
    simp [e0, e1, e3]
    refine wp_loop (fun fr H m => ∃ (t : List PlaceD) (z : Nat), fr 0 = y ∧ fr 1 = .rptr s.cells 0 ∧ fr 3 = .msl H0.next 0 n 2 true ∧ fr 4 = I ((t.length : Int) - 1) ∧ H0.next < H.next ∧ H.get H0.next = .row (placeE.cells (t ++ zeroW z)) ∧ okPlaces S R t ∧
      t.length + z = n ∧ incR S R l = (incR S R t.reverse).map (zeroW z ++ ·) ∧ t.length = m ∧ J (i + 1) H) n ?_ ?_
    · refine ⟨l.reverse, 0, ?_⟩
      simp [e0, e1, e3, hl, zeroW, hg1]
      refine ⟨wrap_of (by omega) (by omega), by omega, fun x hx => ho x (by simpa using hx), r⟩
    rintro m' fr H2 ⟨t, z, e0, e1, e3, e4, hN2, hg2, ho2, ht, hinc, rfl, hj2⟩
    rcases List.eq_nil_or_concat t with rfl | ⟨t, p, rfl⟩
    · simp [e0, e1, e3, e4]
      have hno : incR S R l = none := hinc
      rw [hno] at hd
      have : i + 1 = (weeksL S R n).length := by
        have := congrArg List.length hd
        simp at this; omega
      rw [← this]
      exact ⟨by omega, .inl hj2⟩
    · have hp := ho2 p (by simp)
      have hto : okPlaces S R t := fun x hx => ho2 x (by simp [hx])
      have ht' : t.length + 1 + z = n := by simpa using ht
      have htn : t.length < n := by omega
      have e4' : fr 4 = I t.length := by rw [e4]; simp
      simp only [List.concat_eq_append, List.append_assoc, List.singleton_append] at hg2
      simp only [List.concat_eq_append, List.reverse_append, List.reverse_cons, List.reverse_nil, List.nil_append, List.singleton_append, incR] at hinc
      have hc1 : ∀ p : PlaceD, (placeE.cells (t ++ p :: zeroW z)).length = n * 2 := fun p => by rw [cells_two]; simp [zeroW]; omega
      have hw1 : IntKind.i64.wrap (p.room + 1) = p.room + 1 := wrap_of (by omega) (by omega)
      have hw2 : IntKind.i64.wrap (p.slot + 1) = p.slot + 1 := wrap_of (by omega) (by omega)
      have hf1 : t.length * 2 + 1 + 1 ≤ n * 2 := by omega
      have hf0 : t.length * 2 + 1 ≤ n * 2 := by omega
      have hx2 : (weeksL S R n).drop (i + 1) = (match incR S R l with | some l' => allFrom S R f l' | none => []) := by
        rw [← List.drop_drop, hd]; rfl
      simp [e0, e1, e3, e4', htn, hg2, cell_room, set_room, hc1, hw1, hf1]
      refine wp_open [(9, true)] (by rfl) ?_
      simp [e0, e1, e3, e4', htn, hg2, cell_room, set_room, hc1, hw1, hf1, SchoolD.cells, Enc.sl, hRR]
      refine ⟨logOk_none rfl, ?_⟩
      have hnl : ¬ (t.length : Int) < 0 := by omega
      have fin : ∀ (p' : PlaceD) (N' : Nat) (G : Nat → ABlk), incR S R l = some (zeroW z ++ p' :: t.reverse) → H2.next ≤ N' → (∀ j, ¬ j = H0.next → G j = H2.get j) → ∃ m', m' < m ∧ H0.next < N' ∧ ∃ x x_1 x_2,
          placeE.cells (t ++ p' :: zeroW z) = placeE.cells x_2.reverse ∧ okPlaces S R x_2 ∧ x_2.length = n ∧ x_1 + rankR S R x_2 = (S * R) ^ n ∧ List.drop x (weeksL S R n) = allFrom S R x_1 x_2 ∧ x + m' = (weeksL S R n).length ∧ J x ⟨N', G⟩ := by
        intro p' N' G hs hnx hget
        obtain ⟨k1, k2, k3⟩ := inc_rank ho hs
        refine ⟨m - 1, by omega, by omega, i + 1, f, _, ?_, k1, by omega, by omega, by rw [hx2, hs], by omega, hJ _ _ _ (by omega) hj2 hnx fun j _ hj => hget j hj⟩
        simp [zeroW_rev]
      by_cases b1 : p.room + 1 < R
      · rw [if_pos b1] at hinc
        simp [b1, e0, e1, e3, e4', hnl]
        refine fin _ _ _ (by rw [hinc]; rfl) ?_ fun j hj => ?_
        · simp
        · simp [hj]
      · rw [if_neg b1] at hinc
        simp [b1, e0, e1, e3, e4', htn, cell_slot, cell_room, cell_slot_get, cell_room_get, set_room, set_slot, hc1, hf1, hf0, hw2]
        refine wp_open [(9, true)] (by rfl) ?_
        simp [e0, e1, e3, e4', htn, cell_slot, cell_room, cell_slot_get, cell_room_get, set_slot, hc1, hf1, SchoolD.cells, Enc.sl, hSS]
        refine ⟨logOk_none rfl, ?_⟩
        by_cases b2 : p.slot + 1 < S
        · rw [if_pos b2] at hinc
          simp [b2, e0, e1, e3, e4', hnl, hSS, hRR]
          refine fin _ _ _ (by rw [hinc]; rfl) ?_ fun j hj => ?_
          · omega
          · simp [hj]
        · rw [if_neg b2] at hinc
          simp [b2, e0, e1, e3, e4', htn, cell_slot, cell_room, cell_slot_get, cell_room_get, set_slot, hc1, hf1, hf0, hw2]
          refine ⟨t.length, by omega, by simp [SchoolD.cells, Enc.sl, hSS, hRR], t, wrap_of (by omega) (by omega), by omega, z + 1, ?_, hto, by omega, ?_, rfl, hJ _ _ _ (by omega) hj2 (by simp <;> omega) fun j _ hj => ?_⟩
          · rw [show zeroW (z + 1) = ⟨0, 0⟩ :: zeroW z from by unfold zeroW; rw [List.replicate_succ]]
          · rw [hinc, zeroW_snoc]
            cases incR S R t.reverse <;> simp
          · have : ¬ j = H0.next := hj
            simp [this]
  · intro H1 p q r
    simp [e0, e1, e3]
    exact ⟨by omega, .inr r⟩
end Go.Zk
namespace Go.Zk
open Go.Proofs
variable {E : Env} [h : Is4 E]
theorem clone_28 (id n : Nat) (w : List PlaceD) (H : AHeap) (hg : H.get id = .row (placeE.cells w)) (hn : w.length = n) (hb : n ≤ 4096) (hid : id < H.next) :
    AF E 28 [.msl id 0 n 2 true] H (fun ar H' => ∃ id' tg, H.next ≤ id' ∧ id' < H'.next ∧ ar = .ret (.msl id' 0 n 2 tg) ∧ H'.get id' = .row (placeE.cells w) ∧ ∀ j, j < H.next → H'.get j = H.get j) := by
  refine af_of_body mixed fn_28 (by simp) ?_
  unfold Tryz.f28 ABody
  have hne : ¬ id = H.next := by omega
  cases n with
  | zero =>
    have : w = [] := List.length_eq_zero_iff.1 hn
    subst this
    simp [hg, hne, afill]
    exact ⟨H.next, Nat.le_refl _, by omega, rfl, by simp [Enc.cells], fun j hj e => absurd e (by omega)⟩
  | succ n =>
    have hc : (placeE.cells w).length = (n + 1) * 2 := by rw [placeE.cells_len, hn]; rfl
    simp [hg, hne, afill, hc]
    rw [if_pos ⟨by omega, by omega⟩]
    simp
    refine ⟨H.next + 1, by omega, by omega, rfl, ?_, fun j hj => ?_⟩
    · simp
      rw [List.take_of_length_le (by omega)]
    · have e1 : ¬ j = H.next := by omega
      have e2 : ¬ j = H.next + 1 := by omega
      simp [e1, e2]
theorem weeks_27 (s : SchoolD) : PF E 27 [s.av] (.func 68 [] [.rptr s.cells 0]) := by
  refine pf_of_body mixed fn_27 (by simp) ?_
  unfold Tryz.f27 ABody
  simp [SchoolD.av]
  exact ⟨2, Pur.fn .nil (.cons (Pur.box (by simp) rfl) .nil)⟩
def WAcc (W : List (List PlaceD)) (n : Nat) (H : AHeap) (base : Nat) (v : AV) (i : Nat) : Prop :=
  (i = 0 ∧ v = .nilsl) ∨ (0 < i ∧ ∃ id vs, base ≤ id ∧ id < H.next ∧ v = .msl id 0 i 1 false ∧ H.get id = .row vs ∧ vs.length = i ∧
    ∀ j, j < i → ∃ k tg w, vs[j]? = some (.msl k 0 n 2 tg) ∧ base ≤ k ∧ k < H.next ∧ k ≠ id ∧ W[j]? = some w ∧ H.get k = .row (placeE.cells w))
theorem WAcc.keep {W : List (List PlaceD)} {n base i : Nat} {H H' : AHeap} {v : AV} (h : WAcc W n H base v i) (hn : H.next ≤ H'.next) (hk : ∀ j, base ≤ j → j < H.next → H'.get j = H.get j) : WAcc W n H' base v i := by
  rcases h with h | ⟨h0, id, vs, h1, h2, h3, h4, h5, h6⟩
  · exact .inl h
  · refine .inr ⟨h0, id, vs, h1, by omega, h3, by rw [hk id h1 h2]; exact h4, h5, fun j hj => ?_⟩
    obtain ⟨k, tg, w, k1, k2, k3, k4, k5, k6⟩ := h6 j hj
    exact ⟨k, tg, w, k1, k2, by omega, k4, k5, by rw [hk k k2 k3]; exact k6⟩
theorem wacc_push {W : List (List PlaceD)} {n base i e k : Nat} {tg : Bool} {w : List PlaceD} {H : AHeap} {v : AV} {nn : Nat} {ops : Array Oper} {Q : AExit → AFr → AHeap → Prop} {rest : List Oper} {d : Option Tmp} {fr : AFr}
    (h : WAcc W n H base v i) (hb : base ≤ H.next) (he : H.get e = .row [.msl k 0 n 2 tg]) (hk1 : base ≤ k) (hk2 : k < H.next) (hw : W[i]? = some w) (hg : H.get k = .row (placeE.cells w)) (hke : ∀ id, v = .msl id 0 i 1 false → k ≠ id) (hi : i ≤ 4096)
    (kk : ∀ v' H', WAcc W n H' base v' (i + 1) → H'.next = H.next + 1 → (∀ j, j < base → H'.get j = H.get j) → AOps E nn ops Q rest (aput nn fr d v') H') :
    R2 (aappend E.P 42 42 H v (.msl e 0 1 1 true)) E nn ops Q rest d fr := by
  have hsrc : asrc H 1 (.msl e 0 1 1 true) = some (1, [.msl k 0 n 2 tg]) := by
    rw [src_msl, he, srcR_row, if_pos ⟨rfl, by simp⟩]; rfl
  rw [append_eq, tel_42, appT_some, tby_35, tzero_35, appU_some, srcType_42]
  rw [show (acells (AV.agg [AV.nilsl])).map List.length = some 1 from rfl, appV_true, if_pos rfl, hsrc, appW_some]
  rcases h with ⟨rfl, rfl⟩ | ⟨h0, id, vs, h1, h2, rfl, h4, h5, h6⟩
  · rw [appN_nil, if_pos (by omega)]
    refine kk _ _ (.inr ⟨by omega, H.next, _, hb, by simp, rfl, by simp; rfl, rfl, fun j hj => ?_⟩) (by simp) fun j hj => ?_
    · have : j = 0 := by omega
      subst this
      have e1 : ¬ k = H.next := by omega
      exact ⟨k, tg, w, rfl, hk1, by simp; omega, e1, hw, by simp [e1]; exact hg⟩
    · have : ¬ j = H.next := by omega
      simp [this]
  · have hne := hke id rfl
    rw [appN_msl, h4, appR_row, if_pos ⟨rfl, by omega⟩]
    simp only [Bool.false_eq_true, if_false, grow_some]
    rw [if_pos ⟨by omega, by omega⟩]
    refine kk _ _ (.inr ⟨by omega, H.next, vs ++ [.msl k 0 n 2 tg], hb, by simp, by simp, ?_, by simp [h5], fun j hj => ?_⟩) (by simp) fun j hj => ?_
    · rw [List.drop_zero, List.take_of_length_le (by omega)]; simp
    · by_cases e : j = i
      · subst e
        have e1 : ¬ k = H.next := by omega
        exact ⟨k, tg, w, by rw [List.getElem?_append_right (by omega)]; simp [h5], hk1, by simp; omega, e1, hw, by simp [e1, hne]; exact hg⟩
      · obtain ⟨k', tg', w', k1, k2, k3, k4, k5, k6⟩ := h6 j (by omega)
        have e1 : ¬ k' = H.next := by omega
        exact ⟨k', tg', w', by rw [List.getElem?_append_left (by omega)]; exact k1, k2, by simp; omega, e1, k5, by simp [e1, k4]; exact k6⟩
    · have e1 : ¬ j = H.next := by omega
      have e2 : ¬ j = id := by omega
      simp [e1, e2]
theorem WAcc.cells {W : List (List PlaceD)} {n base i : Nat} {H : AHeap} {v : AV} (h : WAcc W n H base v i) : acells v = some [v] := by
  rcases h with ⟨_, rfl⟩ | ⟨_, id, vs, _, _, rfl, _⟩ <;> rfl
theorem WAcc.lt {W : List (List PlaceD)} {n base i id : Nat} {H : AHeap} (h : WAcc W n H base (.msl id 0 i 1 false) i) : id < H.next := by
  rcases h with ⟨_, e⟩ | ⟨_, id', vs, _, h2, e, _⟩
  · cases e
  · cases e; exact h2
end Go.Zk
namespace Go.Zk
open Go.Proofs
variable {E : Env} [h : Is4 E]
theorem schoolE_ok {s : SchoolD} (hc : schoolE E s = 0) : (0 < s.slots.length ∧ 0 < s.rooms.length) ∧ s.slots.length ≤ 50 ∧ s.rooms.length ≤ 32 ∧ s.people.length ≤ 64 ∧ s.groups.length ≤ 64 ∧ s.lessons.length ≤ 64 := by
  unfold schoolE at hc
  repeat' (split at hc; · cases hc)
  rename_i h1 h2 h3 h4 h5
  simp [greatSchool] at h5
  omega
theorem WAcc.pur {W : List (List PlaceD)} {n base k : Nat} {H : AHeap} {v : AV} (h : WAcc W n H base v W.length) (hw : ∀ w ∈ W, w.length = n) : Pur H (k + 2) v (weekE.sl W) := by
  rcases h with ⟨h0, rfl⟩ | ⟨h0, id, vs, h1, h2, rfl, h4, h5, h6⟩
  · rw [List.length_eq_zero_iff] at h0
    subst h0
    exact Pur.nil
  · have hcl : (weekE.cells W).length = W.length := by rw [weekE.cells_len]; exact Nat.mul_one _
    refine .inr ⟨vs, weekE.cells W, false, h4, ⟨by rw [hcl]; exact h5, fun j x y hx hy => ?_⟩, fun e => e, ?_⟩
    · have hj : j < W.length := by rw [← h5]; exact (List.getElem?_eq_some_iff.1 hx).1
      obtain ⟨k', tg, w, q1, q2, q3, q4, q5, q6⟩ := h6 j hj
      rw [hx] at q1; cases q1
      have hc := Enc.cell (c := weekE) (l := W) (i := j) (k := 0) hj (by decide)
      rw [show j * weekE.z + 0 = j from by show j * 1 + 0 = j; omega] at hc
      rw [hc] at hy
      rw [List.getElem?_eq_getElem hj] at q5
      cases q5
      cases hy
      have hwn := hw _ (List.getElem_mem hj)
      have hp := Pur.msl (H := H) (k := k) (off := 0) (len := n) (esz := 2) (tg := tg) (tg' := false) q6 (by
        generalize W[j] = w
        induction w with
        | nil => rfl
        | cons p w ih => exact ih) (fun e => by cases e)
      rw [List.drop_zero, List.take_of_length_le (by rw [placeE.cells_len, hwn]; exact Nat.le_refl _)] at hp
      rw [Enc.sl, hwn]
      exact hp
    · rw [List.drop_zero, List.take_of_length_le (by rw [hcl]; omega), Enc.sl]
def leftAt (most k i : Nat) : Nat := most / k ^ i
theorem left_le {most k i : Nat} : leftAt most k i ≤ most := Nat.div_le_self _ _
theorem left_succ {most k i : Nat} : leftAt most k i / k = leftAt most k (i + 1) := by unfold leftAt; rw [Nat.div_div_eq_div_mul, Nat.pow_succ]
def weeksOf (s : SchoolD) : List (List PlaceD) := weeksL s.slots.length s.rooms.length s.lessons.length
noncomputable def allAV (E : Env) [Is4 E] (s : SchoolD) (most : Nat) : AV :=
  if schoolE E s ≠ 0 then .tuple [.nilsl, I (schoolE E s)]
  else if leftAt most (s.slots.length * s.rooms.length) s.lessons.length = 0 then .tuple [.nilsl, I 2]
  else .tuple [weekE.sl (weeksOf s), I 0]
theorem weeks_iter (s : SchoolD) (hS : 0 < s.slots.length) (hR : 0 < s.rooms.length) (bS : s.slots.length ≤ 50) (bR : s.rooms.length ≤ 32) (bn : s.lessons.length ≤ 64) :
    IterG E (fun y H Post => AInv E (.func 68 [] [.rptr s.cells 0]) [y] H Post) (weeksOf s).length (WeekA s.slots.length s.rooms.length s.lessons.length) weekP := by
  intro y H0 J D hy hJ hD h0 step
  exact ainv_func (weeks_68 s hS hR bS bR bn y H0 J D hy hJ hD h0 step)
theorem all_weeks (s : SchoolD) (most : Nat) (hs : s.Fit) (hm : most ≤ 4096) : PF E 13 [s.av, I most] (allAV E s most) := by
  refine pf_of_body mixed fn_13 (by simp) ?_
  unfold Tryz.f13 ABody
  simp [SchoolD.av]
  refine rc_pure (school_check s hs) rfl ?_
  by_cases c0 : schoolE E s = 0
  · obtain ⟨⟨hS, hR⟩, bS, bR, _, _, bn⟩ := schoolE_ok c0
    have hmn : ¬ (most : Int) < 0 := by omega
    generalize hSS : s.slots.length = S at *
    generalize hRR : s.rooms.length = R at *
    generalize hnn : s.lessons.length = n at *
    simp [c0, hmn, SchoolD.cells, Enc.sl, hSS, hRR, hnn]
    refine wp_loop (fun fr H m => ∃ (i : Nat), fr 1 = I most ∧ fr 2 = .ptr 0 0 ∧ fr 4 = .ptr 1 0 ∧ fr 5 = I 0 ∧ fr 6 = I (leftAt most (S * R) i) ∧ fr 18 = I n ∧ fr 19 = I i ∧ i + m = n ∧ H.next = 2 ∧ H.get 0 = .row s.cells ∧ H.get 1 = .row [.nilsl]) n ?_ ?_
    · exact ⟨0, by simp [leftAt, SchoolD.cells, Enc.sl, hSS, hRR, hnn]⟩
    rintro m fr H ⟨i, e1, e2, e4, e5, e6, e18, e19, hm', hnx, g0, g1⟩
    by_cases hi : i < n
    · have hk : S * R ≤ 50 * 32 := Nat.mul_le_mul bS bR
      have hk0 : 0 < S * R := Nat.mul_pos hS hR
      have hkz : ¬ ((S : Int) * R = 0) := by
        have : ((S * R : Nat) : Int) ≠ 0 := by omega
        simpa using this
      have hw1 : IntKind.i64.wrap ((S : Int) * R) = S * R := by
        rw [← Int.natCast_mul]; exact wrap_of (by omega) (by omega)
      have hle : leftAt most (S * R) (i + 1) ≤ most := left_le
      have hdiv : (leftAt most (S * R) i : Int).tdiv ((S : Int) * R) = leftAt most (S * R) (i + 1) := by
        rw [← Int.natCast_mul, ← Int.ofNat_tdiv, left_succ]
      have hw2 : IntKind.i64.wrap (leftAt most (S * R) (i + 1) : Int) = leftAt most (S * R) (i + 1) := wrap_of (by omega) (by omega)
      simp [e1, e2, e4, e5, e6, e18, e19, hi, g0, g1, SchoolD.cells, Enc.sl, hSS, hRR, hw1, hkz, hdiv, hw2]
      exact ⟨m - 1, by omega, i + 1, rfl, wrap_of (by omega) (by omega), by omega, hnx⟩
    · have hin : i = n := by omega
      subst hin
      by_cases hz : leftAt most (S * R) i = 0
      · simp [e1, e2, e4, e5, e6, e18, e19, g0, g1, hz]
        rw [allAV, if_neg (by simpa using c0), hSS, hRR, hnn, if_pos hz]
        exact ⟨0, Pur.self rfl⟩
      · simp [e1, e2, e4, e5, e6, e18, e19, g0, g1, hz, SchoolD.cells]
        refine rc_pure (weeks_27 s) rfl ?_
        simp [e1, e2, e4, e5, e6, e18, e19, g0, g1, hz, SchoolD.cells]
        have hit := weeks_iter (E := E) s (by omega) (by omega) (by omega) (by omega) (by omega)
        rw [hSS, hRR, hnn] at hit
        have hW : weeksOf s = weeksL S R i := by rw [weeksOf, hSS, hRR, hnn]
        have hwl : ∀ w ∈ weeksOf s, w.length = i := fun w hw => by
          rw [hW] at hw
          have := (allFrom_ok (zero_ok hS hR) w hw).2
          simpa [zeroW] using this
        have hlen : (weeksOf s).length ≤ 4096 := by
          rw [hW]
          refine Nat.le_trans weeksL_len (Nat.le_trans ?_ hm)
          unfold leftAt at hz
          by_cases hh : (S * R) ^ i ≤ most
          · exact hh
          · exact absurd (Nat.div_eq_of_lt (by omega)) hz
        refine wp_iter mixed (by simpa [SchoolD.cells] using hit) (fun N j hj => by have : j = N := hj; omega) (fun k H' => ∃ v, H'.get 1 = .row [v] ∧ WAcc (weeksOf s) i H' 4 v k) (fun _ _ => False) ?_ ?_ ?_ ?_ ?_ ?_ ?_
        · rintro k a b hn ⟨v, x1, x2⟩ hk e
          simp at hn e
          refine ⟨v, by rw [e 1 (by omega) (by omega) (by simp [weekP, hnx])]; exact x1, x2.keep hk fun j h1 h2 => e j h2 (by omega) (by simp [weekP, hnx]; omega)⟩
        · intro e a b hn x; exact x.elim
        · exact ⟨.nilsl, by simp [g1], .inl ⟨rfl, rfl⟩⟩
        · rintro H' hn ⟨v, x1, x2⟩
          simp [e1, e2, e4, e5, x1, x2.cells]
          rw [allAV, if_neg (by simpa using c0), hSS, hRR, hnn, if_neg hz]
          refine ⟨3, .inr ⟨_, .cons (WAcc.pur (x2.keep (by simp) fun j h1 h2 => ?_) hwl) (.cons (Pur.self rfl) .nil), rfl⟩⟩
          have : ¬ j = 1 := by omega
          simp [this]
        · intro H' hn hj; exact hj.elim
        · intro i H' hn hj; exact hj.elim
        · rintro k hk H1 args hn ⟨v, x1, x2⟩ ⟨w, hNN, rfl, hw, hgw⟩ hg
          rw [hnx] at hn hNN hgw hg ⊢
          rw [← hW] at hw
          simp [putAll, hg]
          have d1 : ¬ 1 = H1.next := by omega
          have d2 : ¬ 2 = H1.next := by omega
          have d3 : ¬ 3 = H1.next := by omega
          refine wp_orders [[0, 1, 2, 3, 4, 5, 6], [1, 0, 2, 3, 4, 5, 6], [1, 2, 0, 3, 4, 5, 6], [1, 2, 3, 0, 4, 5, 6], [1, 2, 3, 4, 0, 5, 6]] (by kernel_rfl) fun l hl => ?_
          simp at hl
          rcases hl with rfl | rfl | rfl | rfl | rfl
          · simp [e4, x1]
            refine rc_af ((clone_28 3 i w _ ?_ (hwl w (List.mem_of_getElem? hw)) (by omega) ?_).mono fun ar H2 hp => ?_)
            · simp [hgw]
            · simp; omega
            obtain ⟨id', tg, p1, p2, rfl, p4, p5⟩ := hp
            simp at p1
            have g2 := p5 2 (by simp; omega)
            have g1' := p5 1 (by simp; omega)
            have w2 : WAcc (weeksOf s) i H2 4 v k := x2.keep (by omega) fun j h1 h2 => by
              rw [p5 j (by simpa using h2)]
              have : ¬ j = 2 := by omega
              simp [this]
            simp [x1] at g1' g2
            have d4 : ¬ 1 = H2.next := by omega
            have d5 : ¬ 2 = H2.next := by omega
            have d6 : ¬ id' = H2.next := by omega
            simp [-append_eq, g1', e4, x1, afill, splice, d4]
            refine wacc_push (k := id') (tg := tg) (w2.keep (by simp) fun j h1 h2 => ?_) ?_ ?_ ?_ ?_ hw ?_ ?_ ?_ fun v' H4 q1 q2 q3 => ?_
            · have : ¬ j = H2.next := by omega
              simp [this]
            · simp; omega
            · simp
            · omega
            · simp; omega
            · simp [d6, p4]
            · intro id e
              subst e
              have := x2.lt
              omega
            · omega
            have k1 := q3 1 (by omega)
            have k2 := q3 2 (by omega)
            have k3 := q3 3 (by omega)
            have d7 : ¬ 3 = H2.next := by omega
            have p53 := p5 3 (by simp; omega)
            simp [d4, d5, d7, g1', g2, p53] at k1 k2 k3 q2
            simp [e4, k1, k2, k3, q1.cells]
            refine ⟨by omega, fun j hj _ => ?_, q1.keep (by simp) fun j h1 h2 => ?_⟩
            · have hj3 : j = 3 := hj
              subst hj3
              simp [k3]
            · have r1 : ¬ j = 1 := by omega
              have r2 : ¬ j = 2 := by omega
              simp [r1, r2]
          · simp [e4, x1]
            refine rc_af ((clone_28 3 i w _ ?_ (hwl w (List.mem_of_getElem? hw)) (by omega) ?_).mono fun ar H2 hp => ?_)
            · simp [hgw]
            · simp; omega
            obtain ⟨id', tg, p1, p2, rfl, p4, p5⟩ := hp
            simp at p1
            have g2 := p5 2 (by simp; omega)
            have g1' := p5 1 (by simp; omega)
            have w2 : WAcc (weeksOf s) i H2 4 v k := x2.keep (by omega) fun j h1 h2 => by
              rw [p5 j (by simpa using h2)]
              have : ¬ j = 2 := by omega
              simp [this]
            simp [x1] at g1' g2
            have d4 : ¬ 1 = H2.next := by omega
            have d5 : ¬ 2 = H2.next := by omega
            have d6 : ¬ id' = H2.next := by omega
            simp [-append_eq, g1', e4, x1, afill, splice, d4]
            refine wacc_push (k := id') (tg := tg) (w2.keep (by simp) fun j h1 h2 => ?_) ?_ ?_ ?_ ?_ hw ?_ ?_ ?_ fun v' H4 q1 q2 q3 => ?_
            · have : ¬ j = H2.next := by omega
              simp [this]
            · simp; omega
            · simp
            · omega
            · simp; omega
            · simp [d6, p4]
            · intro id e
              subst e
              have := x2.lt
              omega
            · omega
            have k1 := q3 1 (by omega)
            have k2 := q3 2 (by omega)
            have k3 := q3 3 (by omega)
            have d7 : ¬ 3 = H2.next := by omega
            have p53 := p5 3 (by simp; omega)
            simp [d4, d5, d7, g1', g2, p53] at k1 k2 k3 q2
            simp [e4, k1, k2, k3, q1.cells]
            refine ⟨by omega, fun j hj _ => ?_, q1.keep (by simp) fun j h1 h2 => ?_⟩
            · have hj3 : j = 3 := hj
              subst hj3
              simp [k3]
            · have r1 : ¬ j = 1 := by omega
              have r2 : ¬ j = 2 := by omega
              simp [r1, r2]
          · simp [e4, x1]
            refine rc_af ((clone_28 3 i w _ ?_ (hwl w (List.mem_of_getElem? hw)) (by omega) ?_).mono fun ar H2 hp => ?_)
            · simp [hgw]
            · simp; omega
            obtain ⟨id', tg, p1, p2, rfl, p4, p5⟩ := hp
            simp at p1
            have g2 := p5 2 (by simp; omega)
            have g1' := p5 1 (by simp; omega)
            have w2 : WAcc (weeksOf s) i H2 4 v k := x2.keep (by omega) fun j h1 h2 => by
              rw [p5 j (by simpa using h2)]
              have : ¬ j = 2 := by omega
              simp [this]
            simp [x1] at g1' g2
            have d4 : ¬ 1 = H2.next := by omega
            have d5 : ¬ 2 = H2.next := by omega
            have d6 : ¬ id' = H2.next := by omega
            simp [-append_eq, g1', e4, x1, afill, splice, d4]
            refine wacc_push (k := id') (tg := tg) (w2.keep (by simp) fun j h1 h2 => ?_) ?_ ?_ ?_ ?_ hw ?_ ?_ ?_ fun v' H4 q1 q2 q3 => ?_
            · have : ¬ j = H2.next := by omega
              simp [this]
            · simp; omega
            · simp
            · omega
            · simp; omega
            · simp [d6, p4]
            · intro id e
              subst e
              have := x2.lt
              omega
            · omega
            have k1 := q3 1 (by omega)
            have k2 := q3 2 (by omega)
            have k3 := q3 3 (by omega)
            have d7 : ¬ 3 = H2.next := by omega
            have p53 := p5 3 (by simp; omega)
            simp [d4, d5, d7, g1', g2, p53] at k1 k2 k3 q2
            simp [e4, k1, k2, k3, q1.cells]
            refine ⟨by omega, fun j hj _ => ?_, q1.keep (by simp) fun j h1 h2 => ?_⟩
            · have hj3 : j = 3 := hj
              subst hj3
              simp [k3]
            · have r1 : ¬ j = 1 := by omega
              have r2 : ¬ j = 2 := by omega
              simp [r1, r2]
          · simp [e4, x1]
            refine rc_af ((clone_28 3 i w _ ?_ (hwl w (List.mem_of_getElem? hw)) (by omega) ?_).mono fun ar H2 hp => ?_)
            · simp [hgw]
            · simp; omega
            obtain ⟨id', tg, p1, p2, rfl, p4, p5⟩ := hp
            simp at p1
            have g2 := p5 2 (by simp; omega)
            have g1' := p5 1 (by simp; omega)
            have w2 : WAcc (weeksOf s) i H2 4 v k := x2.keep (by omega) fun j h1 h2 => by
              rw [p5 j (by simpa using h2)]
              have : ¬ j = 2 := by omega
              simp [this]
            simp [x1] at g1' g2
            have d4 : ¬ 1 = H2.next := by omega
            have d5 : ¬ 2 = H2.next := by omega
            have d6 : ¬ id' = H2.next := by omega
            simp [-append_eq, g1', e4, x1, afill, splice, d4]
            refine wacc_push (k := id') (tg := tg) (w2.keep (by simp) fun j h1 h2 => ?_) ?_ ?_ ?_ ?_ hw ?_ ?_ ?_ fun v' H4 q1 q2 q3 => ?_
            · have : ¬ j = H2.next := by omega
              simp [this]
            · simp; omega
            · simp
            · omega
            · simp; omega
            · simp [d6, p4]
            · intro id e
              subst e
              have := x2.lt
              omega
            · omega
            have k1 := q3 1 (by omega)
            have k2 := q3 2 (by omega)
            have k3 := q3 3 (by omega)
            have d7 : ¬ 3 = H2.next := by omega
            have p53 := p5 3 (by simp; omega)
            simp [d4, d5, d7, g1', g2, p53] at k1 k2 k3 q2
            simp [e4, k1, k2, k3, q1.cells]
            refine ⟨by omega, fun j hj _ => ?_, q1.keep (by simp) fun j h1 h2 => ?_⟩
            · have hj3 : j = 3 := hj
              subst hj3
              simp [k3]
            · have r1 : ¬ j = 1 := by omega
              have r2 : ¬ j = 2 := by omega
              simp [r1, r2]
          · simp [e4, x1]
            refine rc_af ((clone_28 3 i w _ ?_ (hwl w (List.mem_of_getElem? hw)) (by omega) ?_).mono fun ar H2 hp => ?_)
            · simp [hgw]
            · simp; omega
            obtain ⟨id', tg, p1, p2, rfl, p4, p5⟩ := hp
            simp at p1
            have g2 := p5 2 (by simp; omega)
            have g1' := p5 1 (by simp; omega)
            have w2 : WAcc (weeksOf s) i H2 4 v k := x2.keep (by omega) fun j h1 h2 => by
              rw [p5 j (by simpa using h2)]
              have : ¬ j = 2 := by omega
              simp [this]
            simp [x1] at g1' g2
            have d4 : ¬ 1 = H2.next := by omega
            have d5 : ¬ 2 = H2.next := by omega
            have d6 : ¬ id' = H2.next := by omega
            simp [-append_eq, g1', e4, x1, afill, splice, d4]
            refine wacc_push (k := id') (tg := tg) (w2.keep (by simp) fun j h1 h2 => ?_) ?_ ?_ ?_ ?_ hw ?_ ?_ ?_ fun v' H4 q1 q2 q3 => ?_
            · have : ¬ j = H2.next := by omega
              simp [this]
            · simp; omega
            · simp
            · omega
            · simp; omega
            · simp [d6, p4]
            · intro id e
              subst e
              have := x2.lt
              omega
            · omega
            have k1 := q3 1 (by omega)
            have k2 := q3 2 (by omega)
            have k3 := q3 3 (by omega)
            have d7 : ¬ 3 = H2.next := by omega
            have p53 := p5 3 (by simp; omega)
            simp [d4, d5, d7, g1', g2, p53] at k1 k2 k3 q2
            simp [e4, k1, k2, k3, q1.cells]
            refine ⟨by omega, fun j hj _ => ?_, q1.keep (by simp) fun j h1 h2 => ?_⟩
            · have hj3 : j = 3 := hj
              subst hj3
              simp [k3]
            · have r1 : ¬ j = 1 := by omega
              have r2 : ¬ j = 2 := by omega
              simp [r1, r2]
  · simp [c0, allAV]
    exact ⟨1, .inr ⟨_, .cons (Pur.self rfl) (.cons (Pur.self rfl) .nil), rfl⟩⟩
end Go.Zk
namespace Go.Zk
section
variable {P : Program} {t : TypeId} {H : AHeap} {E : Env} {n : Nat} {ops : Array Oper} {Q : AExit → AFr → AHeap → Prop} {rest : List Oper} {d : Option Tmp} {fr : AFr} {ty : TypeId} {pos : String} {aft : Array Edge} {g : Option (Nat × Bool)}
def nilX : AV → Option AV
  | .ptr i o => some (.ptr i o)
  | .rptr c o => some (.rptr c o)
  | .func f a b => some (.func f a b)
  | .yield i => some (.yield i)
  | _ => none
@[simp] theorem nilX_ptr {i o : Nat} : nilX (.ptr i o) = some (.ptr i o) := rfl
@[simp] theorem nilX_rptr {c : List AV} {o : Nat} : nilX (.rptr c o) = some (.rptr c o) := rfl
@[simp] theorem nilX_func {f : FuncId} {a b : List AV} : nilX (.func f a b) = some (.func f a b) := rfl
@[simp] theorem nilX_yield {i : Nat} : nilX (.yield i) = some (.yield i) := rfl
theorem ops_nilCheck {x : Operand} : AOps E n ops Q (⟨d, .nilCheck x, ty, pos, aft, g⟩ :: rest) fr H = AG ops g fr (AK (nilX (aeval E fr x)) fun v => AOps E n ops Q rest (aput n fr d v) H) (AOps E n ops Q rest (aput n fr d (.tuple [])) H) := by
  rw [ops_cons, op_0 rfl]; simp only [aval2, aval]; unfold nilX; exact id rfl
@[simp] theorem r_nilCheck {x : Operand} : AOps E n ops Q (⟨d, .nilCheck x, ty, pos, aft, none⟩ :: rest) fr H = R1 (nilX (aeval E fr x)) E n ops Q rest d fr H := by rw [ops_nilCheck, ag_none]; exact id rfl
@[simp] theorem h_nilCheck {N i : Nat} {K : ALog → AFr → AHeap → Prop} {log : ALog} {x : Operand} : AHead E n ops N K (⟨d, .nilCheck x, ty, pos, aft, none⟩ :: rest) i log fr H = H1 (nilX (aeval E fr x)) (rdOf (.nilCheck x) E fr) E n ops N K rest i log d fr H := by rw [h_0' rfl]; simp only [aval2, aval]; unfold nilX; exact id rfl
/-! slices -/
def aslS (k : Nat) (s : List UInt8) (o : Option (Nat × Nat × Bool)) : Option AV := if k = 1 then match o with
  | some (l, h, _) => some (.str ((s.take h).drop l))
  | none => none
  else none
@[simp] theorem slice_str {s : List UInt8} {lo hi : Option AV} : asl P t H (.str s) lo hi none = aslS (asl.tsl P t) s (abds s.length lo hi none) := by
  simp only [asl, aslS]; rfl
@[simp] theorem aslS_some {s : List UInt8} {l h : Nat} {b : Bool} : aslS 1 s (some (l, h, b)) = some (.str ((s.take h).drop l)) := rfl
theorem abds_lo {n : Nat} {i : Int} (h0 : 0 ≤ i) (h1 : i ≤ n) : abds n (some (.int .i64 i)) none none = some (i.toNat, n, false) := by simp [abds, abd, h0, h1]
theorem abds_hi {n : Nat} {i : Int} (h0 : 0 ≤ i) (h1 : i ≤ n) : abds n none (some (.int .i64 i)) none = some (0, i.toNat, false) := by simp [abds, abd, h0, h1]
theorem abds_no {n : Nat} : abds n none none none = some (0, n, false) := by simp [abds, abd]
theorem abds_clip {n : Nat} : abds n none (some (.int .i64 n)) (some (.int .i64 n)) = some (0, n, true) := by simp [abds, abd]
def aslL (len : Nat) (tight : Bool) (cells : List AV) (o : Option (TypeId × Nat)) (mx : Bool) (r : Option (Nat × Nat × Bool)) : Option AV := match o with
  | some (_, e) => match r with
    | some (l, h, b) => some (.sl (h - l) (b || tight && decide (mx = true ∧ h = len)) ((cells.take (h * e)).drop (l * e)))
    | none => none
  | none => none
theorem slice_sl {len : Nat} {tight : Bool} {cells : List AV} {lo hi mx : Option AV} : asl P t H (.sl len tight cells) lo hi mx = aslL len tight cells (tel P t) mx.isNone (abds len lo hi mx) := by
  simp only [asl, aslL]; rfl
/-! the lesser and the greater -/
@[simp] theorem min_int {a b : Int} : amm true (.int .i64 a) (.int .i64 b) = some (.int .i64 (if a ≤ b then a else b)) := by
  simp only [amm, if_true, Option.some.injEq, AV.int.injEq, true_and]
  split <;> split <;> omega
@[simp] theorem max_int {a b : Int} : amm false (.int .i64 a) (.int .i64 b) = some (.int .i64 (if b ≤ a then a else b)) := by
  simp only [amm, Bool.false_eq_true, if_false, Option.some.injEq, AV.int.injEq, true_and]
  split <;> split <;> omega
@[simp] theorem neqS {n : Nat} {tg : Bool} {cs : List AV} : abin P .neq t (.sl n tg cs) .nilsl = (eqX (P.underlying t) (.sl n tg cs) .nilsl).map fun b => .bool !b := rfl
@[simp] theorem neqM {id off n z : Nat} {tg : Bool} : abin P .neq t (.msl id off n z tg) .nilsl = (eqX (P.underlying t) (.msl id off n z tg) .nilsl).map fun b => .bool !b := rfl
@[simp] theorem neqL : abin P .neq t .nilsl .nilsl = (eqX (P.underlying t) .nilsl .nilsl).map fun b => .bool !b := rfl
end
section
variable {P : Program} {t : TypeId} {H : AHeap} {E : Env} {α : Type} {c : Enc α}
/-- v is the list l: a tight slice of pure parts, or memory of its own from base on. -/
def Acc2 (H : AHeap) (base : Nat) (v : AV) (c : Enc α) (l : List α) : Prop :=
  v = .sl l.length true (c.cells l) ∨ (∃ id, base ≤ id ∧ id < H.next ∧ v = .msl id 0 l.length c.z false ∧ H.get id = .row (c.cells l))
theorem Acc2.keep {H' : AHeap} {base : Nat} {v : AV} {l : List α} (h : Acc2 H base v c l) (hn : H.next ≤ H'.next) (hk : ∀ j, base ≤ j → j < H.next → H'.get j = H.get j) : Acc2 H' base v c l := by
  rcases h with h | ⟨id, h2, h3, h4, h5⟩
  · exact .inl h
  · exact .inr ⟨id, h2, by omega, h4, by rw [hk id h2 h3]; exact h5⟩
theorem cells_purs {l : List α} (hp : ∀ x ∈ l, AV.purs (c.enc x) = true) : AV.purs (c.cells l) = true := by
  induction l with
  | nil => rfl
  | cons x l ih =>
    have : ∀ a b : List AV, AV.purs a = true → AV.purs b = true → AV.purs (a ++ b) = true := by
      intro a b ha hb
      induction a with
      | nil => exact hb
      | cons y a ih => simp only [AV.purs, Bool.and_eq_true, List.cons_append] at ha ⊢; exact ⟨ha.1, ih ha.2⟩
    simp only [Enc.cells, List.flatMap_cons]
    exact this _ _ (hp x (by simp)) (ih fun y hy => hp y (by simp [hy]))
theorem Acc2.pur {base k : Nat} {v : AV} {l : List α} (h : Acc2 H base v c l) (hp : ∀ x ∈ l, AV.purs (c.enc x) = true) : Pur H (k + 1) v (c.sl l) := by
  rcases h with rfl | ⟨id, h2, h3, rfl, h5⟩
  · exact Pur.sl fun e => by cases e
  · have := Pur.msl (k := k) (off := 0) (len := l.length) (esz := c.z) (tg := false) (tg' := false) h5 (cells_purs hp) (fun e => e)
    rw [List.drop_zero, List.take_of_length_le (by rw [c.cells_len]; exact Nat.le_refl _)] at this
    exact this
theorem appN_tight {z by_ n len : Nat} {news cs : List AV} (h : cs.length = len * z) : appN z by_ (n + 1) news H (.sl len true cs) = agrow H z by_ len (n + 1) cs news none := by
  unfold appN; simp [h]
theorem r2_push2 {n : Nat} {ops : Array Oper} {Q : AExit → AFr → AHeap → Prop} {rest : List Oper} {d : Option Tmp} {fr : AFr} {base e ee by_ : Nat} {v zv : AV} {l : List α} (c : Enc α) (x : α) (h : Acc2 H base v c l) (hb : base ≤ H.next) (hx : H.get e = .row (c.enc x)) (h1 : tel E.P t = some (ee, c.z)) (h2 : tby E.P ee = some by_) (h3 : tzero E.P ee = some zv)
    (h4 : srcType E.P t = true) (h5 : (acells zv).map List.length = some c.z) (h6 : l.length + 1 ≤ 4294967296) (h7 : (l.length + 1) * by_ ≤ 140737488355328)
    (k : ∀ v' H', Acc2 H' base v' c (l ++ [x]) → H'.next = H.next + 1 → (∀ j, j < base → H'.get j = H.get j) → AOps E n ops Q rest (aput n fr d v') H') :
    R2 (aappend E.P t t H v (.msl e 0 1 c.z true)) E n ops Q rest d fr := by
  have hlen := c.len x
  have hsrc : asrc H c.z (.msl e 0 1 c.z true) = some (1, c.enc x) := by
    rw [src_msl, hx, srcR_row, if_pos ⟨rfl, by omega⟩]
    rw [List.drop_zero, List.take_of_length_le (by omega)]
  rw [append_eq, h1, appT_some, h2, h3, appU_some, h4, h5, appV_true, if_pos rfl, hsrc, appW_some]
  rcases h with rfl | ⟨id, k2, k3, rfl, k5⟩
  · rw [appN_tight c.cells_len, grow_none, if_pos ⟨h6, h7⟩]
    refine k _ _ (.inr ⟨H.next, hb, by simp, by simp, by simp [c.cells_snoc]⟩) (by simp) fun j hj => ?_
    have : ¬ j = H.next := by omega
    simp [this]
  · rw [appN_msl, k5, appR_row, if_pos ⟨rfl, by rw [c.cells_len]; omega⟩]
    simp only [Bool.false_eq_true, if_false, grow_some]
    rw [if_pos ⟨h6, h7⟩]
    refine k _ _ (.inr ⟨H.next, hb, by simp, by simp, ?_⟩) (by simp) fun j hj => ?_
    · rw [c.cells_snoc, List.drop_zero, List.take_of_length_le (by rw [c.cells_len]; exact Nat.le_refl _)]; simp
    · have e1 : ¬ j = H.next := by omega
      have e2 : ¬ j = id := by omega
      simp [e1, e2]
end
end Go.Zk
namespace Go.Zk
open Go.Proofs
variable {E : Env} [h : Is E]
def cutS : Str := (List.range 26).map (fun i => UInt8.ofNat (97 + i)) ++ (List.range 10).map (fun i => UInt8.ofNat (48 + i)) ++ [95]
def inCut (i : Nat) : Bool := (Nat.ble 97 i && Nat.ble i 122) || (Nat.ble 48 i && Nat.ble i 57) || Nat.beq i 95
def cutCells : List AV := (List.range 256).map fun i => .bool (inCut i)
theorem cut_len : cutCells.length = 256 := by simp [cutCells]
theorem cut_at {i : Nat} (h : i < 256) : cutCells[i]? = some (.bool (inCut i)) := by simp [cutCells, h]
def noKn : DKn := fun _ => none
theorem noKn_ok : KnOk E noKn := fun f => ⟨fun g e => (nomatch e), fun g e => (nomatch e)⟩
theorem ascii_run (G : Nat → Option (List AV)) : drun ⟨Tryz.prog, G⟩ noKn 100000 1000 267 [.str cutS] = some (.tuple [.agg cutCells, .bool true]) := by kernel_rfl
theorem env_eq : E = ⟨Tryz.prog, E.G⟩ := by
  have := h.eq
  cases E
  simp at this
  subst this
  rfl
theorem ascii_set : PF E 267 [.str cutS] (.tuple [.agg cutCells, .bool true]) := by
  have e := ascii_run E.G
  rw [← env_eq] at e
  exact drun_is mixed noKn_ok e
theorem ascii_has (c : UInt8) : PF E 275 [.rptr cutCells 0, .int .u8 c.toNat] (.bool (inCut c.toNat)) := by
  have hc : c.toNat < 256 := c.toNat_lt
  refine pf_of_body mixed fn_275 (by simp) ?_
  unfold Tryz.f275 ABody
  have hc' : (c.toNat : Int) < 256 := by omega
  have hg : cutCells[c.toNat]'(by rw [cut_len]; exact hc) = .bool (inCut c.toNat) := by
    have := cut_at hc
    rw [List.getElem?_eq_getElem (by rw [cut_len]; exact hc)] at this
    exact Option.some.inj this
  simp [cut_at hc, hc, hc', cut_len, hg]
  exact ⟨0, Pur.self rfl⟩
def cutB (c : UInt8) : Bool := inCut c.toNat
theorem trim_left (s : Str) : PF E 268 [.str s, .rptr cutCells 0] (.str (s.dropWhile cutB)) := by
  refine pf_of_body mixed fn_268 (by simp) ?_
  unfold Tryz.f268 ABody
  simp
  refine wp_loop (fun fr H m => ∃ t : Str, fr 0 = .str t ∧ fr 1 = .rptr cutCells 0 ∧ t.length = m ∧ t.length ≤ s.length ∧ s.dropWhile cutB = t.dropWhile cutB) s.length ?_ ?_
  · exact ⟨s, by simp⟩
  rintro m fr H ⟨t, e0, e1, rfl, hl, hx⟩
  cases t with
  | nil =>
    simp [e0, e1, hx]
    exact ⟨0, Pur.self rfl⟩
  | cons c t =>
    simp [e0, e1]
    refine rc_pure (ascii_has c) rfl ?_
    by_cases hb : cutB c = true
    · simp [show inCut c.toNat = true from hb, e0, e1]
      rw [abds_lo (by omega) (by simp; omega)]
      simp [e1]
      refine ⟨t.length, by omega, rfl, ?_, ?_⟩
      · simp at hl; omega
      · rw [hx, List.dropWhile_cons, if_pos hb]
    · simp at hb
      simp [show inCut c.toNat = false from hb, e0, hx, hb]
      exact ⟨0, Pur.self rfl⟩
def trimR (s : Str) : Str := (s.reverse.dropWhile cutB).reverse
theorem trimR_snoc {t : Str} {c : UInt8} : trimR (t ++ [c]) = if cutB c = true then trimR t else t ++ [c] := by
  unfold trimR
  rw [List.reverse_append, List.reverse_singleton, List.singleton_append, List.dropWhile_cons]
  split <;> simp
theorem trim_right (s : Str) (hb : Big s.length) : PF E 269 [.str s, .rptr cutCells 0] (.str (trimR s)) := by
  unfold Big at hb
  refine pf_of_body mixed fn_269 (by simp) ?_
  unfold Tryz.f269 ABody
  simp
  refine wp_loop (fun fr H m => ∃ t : Str, fr 0 = .str t ∧ fr 1 = .rptr cutCells 0 ∧ t.length = m ∧ t.length ≤ s.length ∧ trimR s = trimR t) s.length ?_ ?_
  · exact ⟨s, by simp⟩
  rintro m fr H ⟨t, e0, e1, rfl, hl, hx⟩
  rcases List.eq_nil_or_concat t with rfl | ⟨t, c, rfl⟩
  · simp [e0, e1, hx]
    exact ⟨0, Pur.self rfl⟩
  · rw [List.concat_eq_append] at *
    have hll : t.length + 1 ≤ s.length := by simpa using hl
    have hw : IntKind.i64.wrap (t.length : Int) = t.length := wrap_of (by omega) (by omega)
    rw [trimR_snoc] at hx
    simp [e0, e1, hw]
    refine rc_pure (ascii_has c) rfl ?_
    by_cases hcb : cutB c = true
    · simp [show inCut c.toNat = true from hcb, e0, e1, hw]
      rw [abds_hi (by omega) (by simp; omega)]
      simp [e1]
      refine ⟨t.length, by omega, rfl, by omega, ?_⟩
      rw [hx, if_pos hcb]
    · simp at hcb
      simp [show inCut c.toNat = false from hcb, e0, hx, hcb]
      exact ⟨0, Pur.self rfl⟩
theorem splice_cut {zs : List AV} (hz : zs.length = 256) : splice zs 0 cutCells = cutCells := by
  unfold splice
  rw [cut_len, List.drop_eq_nil_of_le (by omega)]
  simp
def trimS (s : Str) : Str := (trimR s).dropWhile cutB
theorem trim (s : Str) (hb : Big s.length) : PF E 251 [.str s, .str cutS] (.str (if s = [] then [] else trimS s)) := by
  refine pf_of_body mixed fn_251 (by simp) ?_
  unfold Tryz.f251 ABody
  by_cases h0 : s = []
  · simp [h0]
    exact ⟨0, Pur.self rfl⟩
  have hc1 : ¬ cutS = [] := by decide
  have hc2 : cutS.length = 37 := by decide
  simp [h0, hc1, hc2]
  refine rc_pure ascii_set rfl ?_
  simp [cut_len, splice_cut]
  have htl : Big (trimR s).length := by
    unfold Big at *
    have : (trimR s).length ≤ s.length := by
      unfold trimR
      rw [List.length_reverse]
      exact Nat.le_trans (List.Sublist.length_le (List.dropWhile_sublist _)) (by simp)
    omega
  refine rc_pf (trim_right s hb) (Borrow.by rfl 3 (.cons (Pur.self rfl) (.cons (Pur.box (by simp) ?_) .nil))) ?_
  · rfl
  simp
  refine rc_pf (trim_left (trimR s)) (Borrow.by rfl 3 (.cons (Pur.self rfl) (.cons (Pur.box (by simp) ?_) .nil))) ?_
  · rfl
  simp
  exact ⟨0, Pur.self rfl⟩
end Go.Zk
namespace Go.Zk
section
variable {P : Program} {t kt et : TypeId} {H : AHeap} {α : Type} [DecidableEq α] {enc : α → AV} {d : TypeDesc} {a : α} {z : AV}
def getK (l : List (α × AV)) (a : α) : Option AV := (l.find? fun p => decide (p.1 = a)).map Prod.snd
def askK (z : AV) (ok : Bool) : Option AV → AV
  | some v => if ok = true then .tuple [v, .bool true] else v
  | none => if ok = true then .tuple [z, .bool false] else z
theorem getK_idx : ∀ {l : List (α × AV)} {a : α}, getK l a = if a ∈ l.map Prod.fst then (l.map Prod.snd)[(l.map Prod.fst).idxOf a]? else none
  | [], a => by simp [getK]
  | p :: l, a => by
    by_cases e : p.1 = a
    · simp [getK, e]
    · have e' : ¬ a = p.1 := fun h => e h.symm
      have ih := getK_idx (l := l) (a := a)
      simp only [getK, List.find?_cons, e, decide_false] at ih ⊢
      rw [ih]
      have e2 : (p.1 == a) = false := by simpa using e
      have e3 : (a ∈ List.map Prod.fst (p :: l)) = (a ∈ List.map Prod.fst l) := by rw [List.map_cons, List.mem_cons]; simp [e']
      simp only [e3]
      simp [List.idxOf_cons, e2]
theorem glook (l : List (α × AV)) (hu : P.underlying t = some (.map kt et)) (hk : P.underlying kt = some d) (hz : tzero P et = some z) (ho : ∀ a, keyOk P d (enc a) = true)
    (hd : ∀ a b, akey P d (enc a) (enc b) = some (decide (a = b))) (ok : Bool) : alookup P t H (.gmap (l.map fun p => enc p.1) (l.map Prod.snd)) (enc a) ok = some (askK z ok (getK l a)) := by
  have hm : (l.map fun p => enc p.1) = (l.map Prod.fst).map enc := by simp
  have hall : ((l.map Prod.fst).map enc).all (fun y => (akey P d (enc a) y).isSome) = true := by
    rw [List.all_eq_true]
    intro y hy
    rw [List.mem_map] at hy
    obtain ⟨b, _, rfl⟩ := hy
    rw [hd]; rfl
  simp only [alookup, aglook, hu, hk, ho, hm, hall, and_self, if_true, afind_enc hd, getK_idx]
  by_cases hmem : a ∈ l.map Prod.fst
  · have hi := List.idxOf_lt_length_of_mem hmem
    rw [if_pos hmem, if_pos hmem]
    simp only [Nat.zero_add]
    have hlt : (l.map Prod.fst).idxOf a < (l.map Prod.snd).length := by simpa using hi
    rw [List.getElem?_eq_getElem hlt]
    simp [askK]
  · rw [if_neg hmem, if_neg hmem]
    simp [hz, askK]
end
end Go.Zk
namespace Go.Zk
open Go.Proofs
def resWords : List Str := [[97, 108, 108], [97, 116], [97, 116, 116, 101, 110, 100, 115], [97, 119, 97, 121], [100, 97, 121], [101, 97, 99, 104], [102, 97, 108, 115, 101], [103, 114, 111, 117, 112], [104, 97, 114, 100], [104, 111, 117, 114], [104, 111, 117, 115, 101], [105, 110], [108, 101, 97, 115, 116], [108, 101, 115, 115, 111, 110], [109, 111, 115, 116], [112, 101, 114, 115, 111, 110], [114, 111, 111, 109], [115, 101, 97, 116, 115], [115, 104, 117, 116], [115, 105, 122, 101], [115, 108, 111, 116], [115, 111, 102, 116], [115, 111, 109, 101], [116, 101, 97, 99, 104, 101, 115], [116, 114, 117, 101]]
def resMap : List (Str × AV) := resWords.map fun w => (w, .bool true)
def arityMap : List (Int × AV) := [(1, I 0), (2, I 0), (3, I 0), (4, I 0), (5, I 0), (6, I 0), (7, I 0), (8, I 0), (9, I 0), (10, I 1), (11, I 2), (12, I 2), (13, I 2), (14, I 1), (15, I 1), (16, I 1), (17, I 1)]
def signMap : List (Str × AV) := [([33, 61], .str [61]), ([60], .str [62, 61]), ([60, 61], .str [62]), ([61], .str [33, 61]), ([62], .str [60, 61]), ([62, 61], .str [60])]
def evalSigns : List (Str × AV) := [([33, 61], .func 312 [] []), ([60], .func 313 [] []), ([60, 61], .func 314 [] []), ([61], .func 311 [] []), ([62], .func 315 [] []), ([62, 61], .func 316 [] [])]
def evalAtoms : List (Int × AV) := [(3, .func 317 [] []), (4, .func 318 [] []), (5, .func 319 [] []), (6, .func 321 [] []), (7, .func 323 [] []), (8, .func 325 [] [])]
def asksCells : List AV := [0, 0, 0, 0, 0, 0, 1, 2, 1, 3, 4, 1, 5, 1, 4, 2, 3, 2].map I
def takesCells : List AV := [0, 0, 0, 0, 0, 0, 2, 6, 2, 8, 3, 7, 3, 8, 1, 8].map I
def strMap (l : List (Str × AV)) : AV := .gmap (l.map fun p => .str p.1) (l.map Prod.snd)
def intMap (l : List (Int × AV)) : AV := .gmap (l.map fun p => I p.1) (l.map Prod.snd)
/-- The package variables that the code reads. -/
class IsG (E : Env) : Prop extends Is4 E where
  g1 : E.G 1 = some [strMap evalSigns]
  g2 : E.G 2 = some [intMap evalAtoms]
  g3 : E.G 3 = some asksCells
  g5 : E.G 5 = some [intMap arityMap]
  g6 : E.G 6 = some [strMap signMap]
  g7 : E.G 7 = some takesCells
  g8 : E.G 8 = some [strMap resMap]
variable {E : Env} [h : IsG E]
@[simp] theorem G1 : E.G 1 = some [strMap evalSigns] := h.g1
@[simp] theorem G2 : E.G 2 = some [intMap evalAtoms] := h.g2
@[simp] theorem G3 : E.G 3 = some asksCells := h.g3
@[simp] theorem G5 : E.G 5 = some [intMap arityMap] := h.g5
@[simp] theorem G6 : E.G 6 = some [strMap signMap] := h.g6
@[simp] theorem G7 : E.G 7 = some takesCells := h.g7
@[simp] theorem G8 : E.G 8 = some [strMap resMap] := h.g8
theorem ask_str {t et : TypeId} {H : AHeap} {z : AV} (l : List (Str × AV)) (s : Str) (ok : Bool) (hu : E.P.underlying t = some (.map 9 et)) (hz : tzero E.P et = some z) : alookup E.P t H (strMap l) (.str s) ok = some (askK z ok (getK l s)) :=
  glook (enc := AV.str) l hu u_9 hz (fun _ => rfl) (fun a b => akey_str a b) ok
theorem ask_int {t et : TypeId} {H : AHeap} {z : AV} (l : List (Int × AV)) (s : Int) (ok : Bool) (hu : E.P.underlying t = some (.map 3 et)) (hz : tzero E.P et = some z) : alookup E.P t H (intMap l) (I s) ok = some (askK z ok (getK l s)) :=
  glook (enc := I) l hu u_3 hz (fun _ => rfl) (fun a b => by simp [akey]) ok
theorem mem_set {l : List Str} {s : Str} : askK (.bool false) false (getK (l.map fun w => (w, AV.bool true)) s) = .bool (inL s l) := by
  unfold inL
  induction l with
  | nil => rfl
  | cons w l ih =>
    by_cases e : w = s
    · subst e; simp [getK, askK]
    · have e' : ¬ s = w := fun h => e h.symm
      simp only [getK, List.map_cons, List.find?_cons, e, decide_false] at ih ⊢
      rw [ih]
      simp [e']
def inR3 (n a b : Int) : Bool := decide (a ≤ n ∧ n ≤ b)
theorem atom_218 (n : Int) : PF E 218 [I n] (.bool (inR3 n 3 9)) := by
  refine pf_of_body mixed fn_218 (by simp) ?_
  unfold Tryz.f218 ABody
  by_cases h0 : 3 ≤ n <;> simp [h0, inR3] <;> exact ⟨0, Pur.self rfl⟩
theorem quant_219 (n : Int) : PF E 219 [I n] (.bool (inR3 n 14 17)) := by
  refine pf_of_body mixed fn_219 (by simp) ?_
  unfold Tryz.f219 ABody
  by_cases h0 : 14 ≤ n <;> simp [h0, inR3] <;> exact ⟨0, Pur.self rfl⟩
theorem number_226 (n : Int) : PF E 226 [I n] (.bool (inR3 n 0 1099511627776)) := by
  refine pf_of_body mixed fn_226 (by simp) ?_
  unfold Tryz.f226 ABody
  by_cases h0 : 0 ≤ n <;> simp [h0, inR3] <;> exact ⟨0, Pur.self rfl⟩
def countsB (n : Int) : Bool := decide (n = 16 ∨ n = 17)
theorem counts_220 (n : Int) : PF E 220 [I n] (.bool (countsB n)) := by
  refine pf_of_body mixed fn_220 (by simp) ?_
  unfold Tryz.f220 ABody
  by_cases h0 : n = 16 <;> simp [h0, countsB] <;> exact ⟨0, Pur.self rfl⟩
/-- A name, as package formula has it. -/
def fnamed : Str → Bool
  | [] => false
  | c :: s => if 64 < (c :: s).length then false else if inL (c :: s) resWords = true then false else decide (trimS (c :: s) = []) && decide (97 ≤ c.toNat)
theorem named_225 (s : Str) : PF E 225 [.str s] (.bool (fnamed s)) := by
  refine pf_of_body mixed fn_225 (by simp) ?_
  unfold Tryz.f225 ABody
  cases s with
  | nil => simp [fnamed]; exact ⟨0, Pur.self rfl⟩
  | cons c s =>
    by_cases h2 : (64 : Int) < (s.length : Int) + 1
    · have h2' : ¬ (s.length : Int) + 1 ≤ 64 := by omega
      have hf : fnamed (c :: s) = false := by
        rw [fnamed, if_pos (by simp; omega)]
      simp [h2, h2', hf]
      exact ⟨0, Pur.self rfl⟩
    have h2' : (s.length : Int) + 1 ≤ 64 := by omega
    have hbig : Big (c :: s).length := by simp [Big]; omega
    have hl : ∀ H : AHeap, alookup E.P 122 H (strMap resMap) (.str (c :: s)) false = some (.bool (inL (c :: s) resWords)) := fun H => by
      rw [ask_str resMap _ _ u_122 tzero_4]
      unfold resMap
      rw [mem_set]
    by_cases h3 : inL (c :: s) resWords = true
    · have hf : fnamed (c :: s) = false := by
        rw [fnamed, if_neg (by simp; omega), if_pos h3]
      simp [h2, h2', hf, hl, h3]
      exact ⟨0, Pur.self rfl⟩
    · have hf : fnamed (c :: s) = (decide (trimS (c :: s) = []) && decide (97 ≤ c.toNat)) := by
        rw [fnamed, if_neg (by simp; omega), if_neg h3]
      simp at h3
      simp [h2, h2', hl, h3]
      refine rc_pure (trim (c :: s) hbig) (by rfl) ?_
      by_cases h4 : trimS (c :: s) = []
      · by_cases h5 : (97 : Int) ≤ c.toNat
        · have h5' : 97 ≤ c.toNat := by omega
          simp [h4, h5, hf, h5']
          exact ⟨0, Pur.self rfl⟩
        · have h5' : ¬ 97 ≤ c.toNat := by omega
          simp [h4, h5, hf, h5']
          exact ⟨0, Pur.self rfl⟩
      · simp [h4, hf]
        exact ⟨0, Pur.self rfl⟩
def termedB (t : TermD) : Bool := if t.kind = 1 then decide (t.name = []) && inR3 t.n 0 1099511627776 else inR3 t.kind 2 7 && fnamed t.name && decide (t.n = 0)
theorem termed_222 (t : TermD) : PF E 222 [.agg (termE.enc t)] (.bool (termedB t)) := by
  refine pf_of_body mixed fn_222 (by simp) ?_
  unfold Tryz.f222 ABody
  by_cases c1 : t.kind = 1
  · by_cases c2 : t.name = []
    · simp [termE, c1, c2]
      refine rc_pure (number_226 _) rfl ?_
      simp [termedB, c1, c2]
      exact ⟨0, Pur.self rfl⟩
    · simp [termE, c1, c2, termedB]
      exact ⟨0, Pur.self rfl⟩
  by_cases c3 : inR3 t.kind 2 7 = true
  · have c3' : 2 ≤ t.kind ∧ t.kind ≤ 7 := by simpa [inR3] using c3
    simp [termE, c1, c3']
    refine rc_pure (named_225 _) rfl ?_
    by_cases c4 : fnamed t.name = true
    · simp [c4, termedB, c1, c3]
      exact ⟨0, Pur.self rfl⟩
    · simp at c4
      simp [c4, termedB, c1, c3]
      exact ⟨0, Pur.self rfl⟩
  · have hf : termedB t = false := by simp at c3; simp [termedB, c1, c3]
    by_cases c5 : 2 ≤ t.kind
    · have c6 : ¬ t.kind ≤ 7 := by simp [inR3, c5] at c3; omega
      simp [termE, c1, c5, c6, hf]
      exact ⟨0, Pur.self rfl⟩
    · simp [termE, c1, c5, hf]
      exact ⟨0, Pur.self rfl⟩
def oddTerm (k : Int) (t : TermD) : Bool := !termedB t || (decide (k ≠ 9) && decide (t.kind ≠ 2))
theorem formed1_221 (f : FormD) (t : TermD) : PF E 221 [.agg (termE.enc t), .rptr f.cells 0] (.bool (oddTerm f.kind t)) := by
  refine pf_of_body mixed fn_221 (by simp) ?_
  unfold Tryz.f221 ABody
  rw [FormD.cells_eq]
  simp [termE]
  refine rc_pure (termed_222 t) rfl ?_
  by_cases c1 : termedB t = true
  · by_cases c2 : f.kind = 9
    · simp [c1, c2, oddTerm]
      exact ⟨0, Pur.self rfl⟩
    · simp [c1, c2, oddTerm]
      exact ⟨0, Pur.self rfl⟩
  · simp at c1
    simp [c1, oddTerm]
    exact ⟨0, Pur.self rfl⟩
def oddBind (b : BindD) : Bool := !fnamed b.name || decide (b.sort < 1) || decide (7 < b.sort)
theorem formed2_224 (b : BindD) : PF E 224 [.agg (bindE.enc b)] (.bool (oddBind b)) := by
  refine pf_of_body mixed fn_224 (by simp) ?_
  unfold Tryz.f224 ABody
  simp [bindE]
  refine rc_pure (named_225 _) rfl ?_
  by_cases c1 : fnamed b.name = true
  · by_cases c2 : b.sort < 1
    · simp [c1, c2, oddBind]
      exact ⟨0, Pur.self rfl⟩
    · simp [c1, c2, oddBind]
      exact ⟨0, Pur.self rfl⟩
  · simp at c1
    simp [c1, oddBind]
    exact ⟨0, Pur.self rfl⟩
end Go.Zk
