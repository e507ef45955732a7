/- append: the law. Conditions: none. Operations that write: maps, the iterator over a text. All writing operations under one name. Conditions: none. Running code: the machine's steps in one predicate. Conditions: none. Code over abstract values: the predicate. Conditions: none; definitions. -/
import Derived.AtR
import Derived.Laws.RangeString
import Derived.Orders
import Derived.RangeFuncIn
import Derived.Test.YtiplcbpocpgbbaaGreatDoorA03
set_option linter.unusedSimpArgs false
set_option linter.unusedVariables false
namespace Go.Zk

section
variable {E : Env} {B : Nat} {C : Ctx} {H : AHeap} {w : World} {P : Program}

theorem HSim.room_lt (h : HSim E B C H w) {b n : Nat} (hr : C.room b n) : b < w.heap.size := by
  obtain ⟨c, e, f, h1, _⟩ := hr
  exact h.heap_lt h1

/-- What a list of related cells is in a block. -/
theorem bad_idx {α : Type} {l : List α} {i : Nat} {x : α} (h : l[i]? = some x) : i < l.length := (List.getElem?_eq_some_iff.1 h).1

theorem zero_cells_size {e z : Nat} {zv : AV} {i : TypeInfo} {v : Value} (h1 : tzero P e = some zv) (h2 : (acells zv).map List.length = some z) (h3 : P.info? e = some i) (h4 : i.zero = some v) : v.cells.size = z := by
  obtain ⟨v', k1, k2, i', k3, k4⟩ := tzero_ok (C := ⟨fun _ => False, fun _ => none, #[]⟩) (w := default) h1
  rw [h3] at k3; cases k3
  rw [h4] at k4; cases k4
  cases ha : acells zv with
  | none => rw [ha] at h2; cases h2
  | some l =>
    rw [ha] at h2
    simp at h2
    have := (acells_rel k2 ha).1.length
    simp at this
    omega

/-- The append that lays a new row. -/
theorem grow_ok (h : HSim E B C H w) {t u ty e z by_ len n : Nat} {zv : AV} {A : Option Addr} {cap : Nat} {x : Value} {olds news : List AV} {ovs nvs : List Value} {dead : Option Nat} {av : AV} {H' : AHeap}
    (ht : P.underlying t = some (.slice e)) (hu : srcType P u = true) (hz : tsz P e = some z) (hb : tby P e = some by_) (hzv : tzero P e = some zv) (hzl : (acells zv).map List.length = some z)
    (ho : ∀ w' : World, w'.heap = w.heap → (Builtin.firstCells z len (.slice A len cap)).run P w' = .ok ovs.toArray w') (hs : Src P w z n x nvs)
    (r1 : VsRel C olds ovs) (r2 : VsRel C news nvs) (o1 : ∀ u ∈ ovs, u.oneCell' = true) (o2 : ∀ u ∈ nvs, u.oneCell' = true) (l1 : ovs.length = len * z) (l2 : nvs.length = n * z)
    (hg : cap < len + n) (ha : agrow H z by_ len n olds news dead = some (av, H')) (hd : dead = none) :
    ∃ v w' C', (Builtin.append_ #[t, u] ty #[.slice A len cap, x]).run P w = .ok v w' ∧ VRel C' av v ∧ Nxt E B C C' H' w w' := by
  subst hd
  unfold agrow at ha
  split at ha
  · rename_i hlim
    simp only [Option.some.injEq, Prod.mk.injEq] at ha
    obtain ⟨rfl, rfl⟩ := ha
    obtain ⟨zval, k1, k2, i, hi, hzr⟩ := tzero_ok (C := C) (w := w) hzv
    have hsz : i.size = z := by simpa [tsz, hi] using hz
    have hby : i.bytes = by_ := by simpa [tby, hi] using hb
    have hzc := zero_cells_size hzv hzl hi hzr
    have hu' : ∃ d, P.underlying u = some d ∧ ∀ k, d ≠ .int k := by
      unfold srcType at hu
      split at hu
      · rename_i e' h; exact ⟨_, h, fun k e => by cases e⟩
      · rename_i h; exact ⟨_, h, fun k e => by cases e⟩
      · cases hu
    obtain ⟨cap', c1, c2⟩ := append_grow (ty := ty) (zv := zval) (z := z) (sLen := len) (sCap := cap) (n := n) (x := x) (olds := ovs) (news := nvs) ht hu' hi hsz hzr (ho w.drew rfl) hs hg hlim.1 (by rw [hby]; exact hlim.2)
    generalize hcs : (ovs.toArray ++ nvs.toArray ++ Builtin.zeroCells zval.cells (cap' - (len + n))) = cs at c2
    have hsz2 : cs.size = cap' * z := by
      rw [← hcs]
      simp only [Array.size_append, List.size_toArray, l1, l2, size_zeroCells, hzc]
      rw [← Nat.add_mul, ← Nat.add_mul]
      rw [show len + n + (cap' - (len + n)) = cap' from by omega]
    have hget : ∀ (j : Nat) v, (ovs ++ nvs)[j]? = some v → cs[j]? = some v := fun j v q1 => by
      rw [← hcs, Array.getElem?_append_left (by have := bad_idx q1; simpa using this)]
      simpa using q1
    have hpn : (C.push (.cells cs e)).heap[w.heap.size]? = some (.cells cs e) := by
      have := Ctx.push_new (C := C) (o := .cells cs e)
      rw [h.heap] at this
      exact this
    have hr := VsRel.append r1 r2
    have hl := hr.length
    have hfit : (olds ++ news).length ≤ cs.size := by
      rw [← hl, hsz2]
      have : (len + n) * z ≤ cap' * z := Nat.mul_le_mul_right _ c1
      rw [Nat.add_mul] at this
      simp; omega
    have hn := h.drew.alloc (.cells cs e) (.row (olds ++ news)) (by
      have hle : C.le ((C.push (.cells cs e)).name H.next (w.heap.size, 0)) :=
        (Ctx.le_push (by rw [h.heap]; exact h.lt)).trans (Ctx.le_name (h.fresh H.next (Nat.le_refl _)))
      refine ⟨cs, e, (0, 0), hpn, fun i _ h => by omega, by omega, fun j y hy => ?_⟩
      obtain ⟨v, q1, q2⟩ := (hr.mono hle).get _ _ hy
      refine ⟨v, by rw [Nat.zero_add]; exact hget j v q1, ?_, q2⟩
      rcases List.mem_append.1 (List.mem_of_getElem? q1) with hm | hm
      · exact o1 v hm
      · exact o2 v hm)
    refine ⟨_, _, _, c2, ?_, (h.nxt_drew).trans hn⟩
    simp only [VRel]
    refine ⟨w.heap.size, 0, _, cap', ?_, rfl, c1, (fun e => by cases e), .inr rfl, ⟨cs, e, (0, 0), hpn, by omega⟩⟩
    show upd C.al H.next _ H.next = _; rw [upd_same]; rfl
  · cases ha

theorem aappend_ok (h : HSim E B C H w) {t u ty : TypeId} {s x : AV} {sv xv : Value} {av : AV} {H' : AHeap} (hs : VRel C s sv) (hx : VRel C x xv) (ha : aappend P t u H s x = some (av, H')) :
    ∃ v w' C', (Builtin.append_ #[t, u] ty #[sv, xv]).run P w = .ok v w' ∧ VRel C' av v ∧ Nxt E B C C' H' w w' := by
  unfold aappend at ha
  cases ht : tel P t with
  | none => simp [ht] at ha
  | some q =>
    obtain ⟨e, z⟩ := q
    obtain ⟨htu, hz⟩ := tel_ok ht
    cases hb : tby P e with
    | none => simp [ht, hb] at ha
    | some by_ =>
      cases hzv : tzero P e with
      | none => simp [ht, hb, hzv] at ha
      | some zv =>
        simp only [ht, hb, hzv] at ha
        split at ha
        · rename_i hc
          obtain ⟨hsrc, hzl⟩ := hc
          cases hxs : asrc H z x with
          | none => simp [hxs] at ha
          | some q =>
            obtain ⟨n, news⟩ := q
            simp only [hxs] at ha
            obtain ⟨nvs, k1, k2, k3, k4⟩ := asrc_ok (P := P) h.read hx hxs
            have hu' : ∃ d, P.underlying u = some d ∧ ∀ k, d ≠ .int k := by
              unfold srcType at hsrc
              split at hsrc
              · rename_i e' h; exact ⟨_, h, fun k e => by cases e⟩
              · rename_i h; exact ⟨_, h, fun k e => by cases e⟩
              · cases hsrc
            have hi : ∃ i, P.info? e = some i ∧ i.size = z := by
              cases hi : P.info? e with
              | none => simp [tsz, hi] at hz
              | some i => exact ⟨i, rfl, by simpa [tsz, hi] using hz⟩
            obtain ⟨i, hi, hiz⟩ := hi
            split at ha
            · -- nothing is appended
              rename_i hn
              subst hn
              have hnil : nvs = [] := List.eq_nil_of_length_eq_zero (by omega)
              subst hnil
              have hroom : ∀ A len cap, len ≤ cap → (Builtin.append_ #[t, u] ty #[.slice A len cap, xv]).run P w = .ok (.slice A len cap) w := fun A len cap hle => by
                have := append_room (ty := ty) (A := A) (sLen := len) (sCap := cap) htu hu' hi hiz k1 (by omega) (w' := w) (fun a _ => rfl) (fun _ => rfl)
                simpa using this
              split at ha
              · simp only [Option.some.injEq, Prod.mk.injEq] at ha
                obtain ⟨rfl, rfl⟩ := ha
                have hs0 := hs
                simp only [VRel] at hs
                subst hs
                exact ⟨_, w, C, hroom _ _ _ (Nat.le_refl _), hs0, .refl h⟩
              · simp only [Option.some.injEq, Prod.mk.injEq] at ha
                obtain ⟨rfl, rfl⟩ := ha
                have hs0 := hs
                simp only [VRel] at hs
                obtain ⟨A, cap, rfl, c1, c2⟩ := hs
                exact ⟨_, w, C, hroom _ _ _ c1, hs0, .refl h⟩
              · split at ha
                · simp only [Option.some.injEq, Prod.mk.injEq] at ha
                  obtain ⟨rfl, rfl⟩ := ha
                  have hs0 := hs
                  simp only [VRel] at hs
                  obtain ⟨b, o, ad, cap, a1, rfl, c1, c2⟩ := hs
                  exact ⟨_, w, C, hroom _ _ _ c1, hs0, .refl h⟩
                · cases ha
              · cases ha
            · rename_i hn
              split at ha
              · simp only [VRel] at hs
                subst hs
                exact grow_ok h htu hsrc hz hb hzv hzl (fun w' _ => firstCells_none _ _ _ _) k1 VsRel.nil k2 (by simp) k3 (by simp) k4 (by omega) ha rfl
              · split at ha
                · rename_i hc
                  obtain ⟨A, cap, vs, e1, c1, m1, m2, m3, m4⟩ := slice_cells (P := P) (z := z) h.read hs (by simp only [asrc, hc.2, if_true]; rfl) (fun s e => by cases e)
                  simp only [VRel] at hs
                  obtain ⟨A', cap', e2, d1, d2, d3⟩ := hs
                  rw [e2] at e1
                  cases e1
                  have := d2 hc.1
                  rw [e2]
                  exact grow_ok h htu hsrc hz hb hzv hzl (by rw [← e2]; exact m4) k1 m2 k2 m3 k3 m1 k4 (by omega) ha rfl
                · cases ha
              · rename_i id off len esz tight
                cases hr : H.get id <;> simp only [hr, reduceCtorEq] at ha
                rename_i cs
                split at ha
                · rename_i hc
                  obtain ⟨rfl, hcl⟩ := hc
                  have hs0 := hs
                  obtain ⟨A, cap, vs, e1, c1, m1, m2, m3, m4⟩ := slice_cells (P := P) (z := esz) h.read hs (show asrc H esz _ = some (len, (cs.drop off).take (len * esz)) by simp [asrc, hr, hcl]) (fun s e => by cases e)
                  simp only [VRel] at hs
                  obtain ⟨b, o, ad, cap', a1, e2, d1, d2, d3, d4⟩ := hs
                  rw [e2] at e1
                  cases e1
                  rw [e2] at m4 ⊢
                  by_cases htg : tight = true
                  · rw [if_pos htg] at ha
                    have := d2 htg
                    exact grow_ok h htu hsrc hz hb hzv hzl m4 k1 m2 k2 m3 k3 m1 k4 (by omega) ha rfl
                  · rw [if_neg htg] at ha
                    have hk := h.kill id
                    by_cases hfit : len + n ≤ cap
                    · -- room is there
                      have had : ad = ⟨b, o + off, none⟩ := d3.resolve_left (by omega)
                      subst had
                      unfold agrow at ha
                      split at ha
                      · simp only [Option.some.injEq, Prod.mk.injEq] at ha
                        obtain ⟨rfl, rfl⟩ := ha
                        have hid := h.named a1
                        have hdd : H.get id ≠ .dead := by rw [hr]; exact fun e => by cases e
                        obtain ⟨b', o', q1, q2, q3, q4, q5⟩ := h.blk id hid hdd
                        rw [a1] at q1; cases q1
                        rw [hr] at q5
                        obtain ⟨c, te, f, p1, p2, p3, p4⟩ := q5
                        obtain ⟨c', te', f', r1, r2⟩ := d4
                        rw [p1] at r1; cases r1
                        have p1' : w.heap[b]? = some (.cells c te f) := h.heap ▸ p1
                        have hroomz : (len + n) * esz ≤ cap * esz := Nat.mul_le_mul_right _ hfit
                        rw [Nat.add_mul] at hroomz
                        have hst : (storeCells ((⟨b, o + off, none⟩ : Addr).add (len * esz)) nvs).run P w = .ok () (w.setCells b (o + off + len * esz) nvs) := by
                          rw [Addr.add_none]
                          refine run_storeCells_cells b (o + off + len * esz) nvs 0 w (fun j hj => ?_) (fun j hj => ?_) k3
                          · simp only [World.cell?, p1']
                            simp
                            omega
                          · simp only [World.frozen?, p1']
                            have := p2 (o + off + len * esz + 0 + j) (by omega)
                            simp
                            omega
                        have hrun := append_room (ty := ty) (A := some ⟨b, o + off, none⟩) (sLen := len) (sCap := cap) htu hu' hi hiz k1 hfit (w' := w.setCells b (o + off + len * esz) nvs) (fun a e => by cases e; exact hst) (fun e => by cases e)
                        obtain ⟨n1, n2, n3⟩ := heap_setCells b nvs (o + off + len * esz) w c te f p1' (by omega)
                        obtain ⟨z1, z2, z3, z4⟩ := setCells_rest b nvs (o + off + len * esz) w
                        have hstep := h.turn hid hdd a1 (ab := .dead) (w' := w.setCells b (o + off + len * esz) nvs) (fun k hk => heap_setCells_ne b nvs _ w k hk) z1 z2 z3 z4
                          (fun m ⟨c0, e0, f0, q1, q2⟩ => by rw [p1] at q1; cases q1; exact ⟨_, te, f, n2, by omega⟩) (fun ds hds => by rw [p1'] at hds; cases hds) (fun r hr => by rw [p1'] at hr; cases hr) (fun _ hne => absurd rfl hne)
                        have hnl : ∀ j, j < H.next → (H.set id .dead).get j ≠ .dead → ∀ p, C.al j ≠ some (b, p) := fun j hj hdj p e => by
                          have e1 : j ≠ id := fun e1 => hdj (by subst e1; exact upd_same _ _ _)
                          have hg : (H.set id .dead).get j = H.get j := upd_ne _ _ e1
                          rw [hg] at hdj
                          exact e1 (h.inj j id b p o hj hid hdj hdd e a1)
                        have hch := hstep.hs.christen (b := b) (o := o + off) (.row ((cs.drop off).take (len * esz) ++ news)) q2 (by rw [z1]; exact q3) q4 hnl (by
                          have hr2 := VsRel.append m2 k2
                          have hle2 : C.le (({ C with heap := (w.setCells b (o + off + len * esz) nvs).heap } : Ctx).name (H.set id .dead).next (b, o + off)) := hstep.le.trans (Ctx.le_name (h.fresh H.next (Nat.le_refl _)))
                          have hl := hr2.length
                          refine ⟨n1, te, f, n2, fun j hj => p2 j (by omega), ?_, fun j y hy => ?_⟩
                          · rw [← hl]; simp; omega
                          · obtain ⟨v, g1, g2⟩ := (hr2.mono hle2).get _ _ hy
                            refine ⟨v, ?_, ?_, g2⟩
                            · rw [n3.2]
                              have hjl := bad_idx g1
                              simp at hjl
                              by_cases hj : j < len * esz
                              · rw [if_neg (by omega)]
                                rw [List.getElem?_append_left (by omega)] at g1
                                have := m4 w rfl
                                have hvj : w.cell? ((⟨b, o + off, none⟩ : Addr).add j) = some v := by
                                  obtain ⟨ad', vs', e9, t1, t2, t3, t4⟩ := h.read.reach_n (p := .ptr id off) (v := .pointer (some ⟨b, o + off, none⟩)) (by simp only [VRel]; exact ⟨b, o, a1, rfl⟩) (show rowAt H (.ptr id off) = some (cs, off) by simp [rowAt, hr]) hcl
                                  cases e9
                                  have hsame := firstCells_some (P := P) (z := esz) (len := len) (cap := cap) (ad := ⟨b, o + off, none⟩) (w := w) t1 t2
                                  rw [this] at hsame
                                  cases hsame
                                  exact t2 j v g1
                                rw [Addr.add_none] at hvj
                                simp only [World.cell?, p1'] at hvj
                                exact hvj
                              · rw [if_pos (by omega)]
                                rw [List.getElem?_append_right (by omega)] at g1
                                rw [show o + off + j - (o + off + len * esz) = j - vs.length from by omega]
                                exact g1
                            · rcases List.mem_append.1 (List.mem_of_getElem? g1) with hm | hm
                              · exact m3 v hm
                              · exact k3 v hm)
                        refine ⟨_, _, _, hrun, ?_, hstep.trans hch⟩
                        simp only [VRel]
                        refine ⟨b, o + off, _, cap, ?_, rfl, hfit, (fun e => by cases e), .inr (by simp), ⟨n1, te, f, n2, by omega⟩⟩
                        show upd C.al H.next _ H.next = _; rw [upd_same]
                      · cases ha
                    · -- a new row
                      have ha2 : agrow (H.set id .dead) esz by_ len n ((cs.drop off).take (len * esz)) news none = some (av, H') := by
                        unfold agrow at ha ⊢
                        exact ha
                      exact grow_ok hk htu hsrc hz hb hzv hzl m4 k1 m2 k2 m3 k3 m1 k4 (by omega) ha2 rfl
                · cases ha
              · cases ha
        · cases ha
end
end Go.Zk
namespace Go.Zk

def amapset (P : Program) (t : TypeId) (H : AHeap) (m k x : AV) : Option (AV × AHeap) :=
  match P.underlying t with
  | some (.map kt _) => match P.underlying kt with
    | some d => if keyOk P d k = true then match m with
      | .map id => match H.get id with
        | .map ks vs => match afind P d k ks 0 with
          | some (some i) => some (.tuple [], H.set id (.map (ks.set i k) (vs.set i x)))
          | some none => some (.tuple [], H.set id (.map (ks ++ [k]) (vs ++ [x])))
          | none => none
        | _ => none
      | _ => none
      else none
    | none => none
  | _ => none

/-- the next character of a text: ASCII alone -/
def anext (H : AHeap) (it : AV) : Option (AV × AHeap) :=
  match it with
  | .ptr id 0 => match H.get id with
    | .sit s pos => match s[pos]? with
      | some c => if c.toNat < 128 then some (.tuple [.bool true, .int .i64 pos, .int .i32 c.toNat], H.set id (.sit s (pos + 1)))
        else some (.tuple [.bool true, .int .i64 pos, .int .i32 (Utf8.decode ⟨s.toArray⟩ pos).1], H.set id (.sit s (pos + (Utf8.decode ⟨s.toArray⟩ pos).2)))
      | none => if pos = s.length then some (.tuple [.bool false], H) else none
    | _ => none
  | _ => none

def awr (E : Env) (op : Op) (ρ : Operand → AV) (H : AHeap) : Option (AV × AHeap) :=
  match op with
  | .store t a x => astore E.P t H (ρ a) (ρ x)
  | .mapUpdate t m k x => amapset E.P t H (ρ m) (ρ k) (ρ x)
  | .insert t m k x => amapset E.P t H (ρ m) (ρ k) (ρ x)
  | .next it s => if s = true then anext H (ρ it) else none
  | .call c => match c.callee with
    | .builtin .append => match c.args.toList, c.argTypes.toList with
      | [s, x], [t, u] => aappend E.P t u H (ρ s) (ρ x)
      | _, _ => none
    | _ => none
  | _ => none

section
variable {E : Env} {B : Nat} {C : Ctx} {H : AHeap} {w : World} {P : Program}

theorem sameBits_ints : ∀ {xs ys : List AV} {us vs : List Value} {b : Bool}, aints xs ys = some true → VsRel C xs us → VsRel C ys vs → ∀ n, us.length = vs.length ∧ (us.zip vs).all (fun (x, y) => Instr.sameBits n x y) = true
  | [], [], [], [], _, _, _, _, n => ⟨rfl, rfl⟩
  | x :: xs, y :: ys, u :: us, v :: vs, b, h, h1, h2, n => by
    simp only [VsRel] at h1 h2
    cases x <;> cases y <;> simp only [aints, reduceCtorEq] at h
    split at h
    · rename_i hk
      subst hk
      cases hr : aints xs ys with
      | none => simp [hr] at h
      | some c =>
        simp only [hr, Option.some.injEq, Bool.and_eq_true, decide_eq_true_eq] at h
        obtain ⟨rfl, rfl⟩ := h
        obtain ⟨k1, k2⟩ := sameBits_ints (b := true) hr h1.2 h2.2 n
        simp only [VRel] at h1 h2
        obtain ⟨rfl, _⟩ := h1
        obtain ⟨rfl, _⟩ := h2
        refine ⟨by simp [k1], ?_⟩
        simp only [List.zip_cons_cons, List.all_cons, k2, Bool.and_true]
        cases n <;> simp [Instr.sameBits]
    · cases h
  | [], y :: ys, _, _, _, h, _, _, _ => by simp [aints] at h
  | x :: xs, [], _, _, _, h, _, _, _ => by cases x <;> simp [aints] at h
  | [], [], u :: us, _, _, _, h, _, _ => by simp [VsRel] at h
  | [], [], [], v :: vs, _, _, _, h, _ => by simp [VsRel] at h
  | x :: xs, y :: ys, [], _, _, _, h, _, _ => by simp [VsRel] at h
  | x :: xs, y :: ys, u :: us, [], _, _, _, h, _ => by simp [VsRel] at h

theorem sameBits_ok {d : TypeDesc} {x y : AV} {u v : Value} (h : akey P d x y = some true) (hx : VRel C x u) (hy : VRel C y v) : Instr.sameBits 10000 v u = true := by
  have e : (10000 : Nat) = 9999 + 1 := rfl
  unfold akey at h
  split at h <;> (try simp only [VRel] at hx hy)
  · split at h
    · rename_i hk
      simp only [Option.some.injEq, decide_eq_true_eq] at h
      subst hk; subst h; rw [hx, hy, e]; simp [Instr.sameBits]
    · cases h
  · simp only [Option.some.injEq, decide_eq_true_eq] at h
    subst h; rw [hx, hy, e]; simp only [Instr.sameBits]; rw [bytes_eq_iff]; simp
  · simp only [Option.some.injEq, decide_eq_true_eq] at h
    subst h; rw [hx, hy, e]; simp [Instr.sameBits]
  · rename_i n el xs ys
    obtain ⟨us, rfl, h1, _⟩ := hx
    obtain ⟨vs, rfl, h2, _⟩ := hy
    split at h
    · split at h
      · have hsym : ∀ {xs ys : List AV}, aints xs ys = some true → aints ys xs = some true := by
          intro xs
          induction xs with
          | nil => intro ys h; cases ys <;> simp [aints] at h ⊢
          | cons x xs ih =>
            intro ys h
            cases ys with
            | nil => cases x <;> simp [aints] at h
            | cons y ys =>
              cases x <;> cases y <;> simp only [aints, reduceCtorEq] at h ⊢
              split at h
              · rename_i hk
                subst hk
                simp only [if_true]
                cases hr : aints xs ys with
                | none => simp [hr] at h
                | some c =>
                  simp only [hr, Option.some.injEq, Bool.and_eq_true, decide_eq_true_eq] at h
                  obtain ⟨rfl, rfl⟩ := h
                  rw [ih hr]
                  simp
              · cases h
        obtain ⟨k1, k2⟩ := sameBits_ints (b := true) (hsym h) h2 h1 9999
        rw [e]
        simp only [Instr.sameBits]
        simp at k1
        simp only [Bool.and_eq_true]
        exact ⟨by simpa using k1, k2⟩
      · cases h
    · cases h
  · cases h

theorem afind_hit {d : TypeDesc} {x : AV} : ∀ {ks : List AV} {s i : Nat}, afind P d x ks s = some (some i) → s ≤ i ∧ ∃ k, ks[i - s]? = some k ∧ akey P d x k = some true
  | [], s, i, h => by simp [afind] at h
  | k :: ks, s, i, h => by
    simp only [afind] at h
    cases hk : akey P d x k with
    | none => simp [hk] at h
    | some b =>
      cases b with
      | true => simp [hk] at h; subst h; exact ⟨Nat.le_refl _, k, by simp, hk⟩
      | false =>
        simp [hk] at h
        obtain ⟨h1, k', h2, h3⟩ := afind_hit h
        exact ⟨by omega, k', by rw [show i - s = (i - (s + 1)) + 1 from by omega]; simpa using h2, h3⟩

/-- An object that is no row of cells changes. -/
theorem HSim.put (h : HSim E B C H w) {i b : Nat} {o o' : Obj} {ab : ABlk} (ha : C.al i = some (b, 0)) (hd : H.get i ≠ .dead) (ho : w.heap[b]? = some o) (hc : ∀ c e f, o ≠ .cells c e f) (hdf : ∀ ds, o ≠ .deferred ds)
    (hlp : ∀ r, o = .loop r → ∃ r', o' = .loop r') (hb : ∀ C' : Ctx, C.le C' → C'.heap[b]? = some o' → BRel C' b 0 ab) :
    Nxt E B C { C with heap := (w.putObj b o').heap } (H.set i ab) w (w.putObj b o') := by
  have hlt : b < w.heap.size := (Array.getElem?_eq_some_iff.1 ho).1
  have hsame : (w.putObj b o').heap[b]? = some o' := World.putObj_heap_same hlt
  have hother : ∀ k, k ≠ b → (w.putObj b o').heap[k]? = w.heap[k]? := fun k hk => World.putObj_heap_other hk
  refine h.turn (h.named ha) hd ha hother (by simp [World.putObj]) rfl rfl rfl (fun n ⟨c, e, f, h1, _⟩ => ?_) (fun ds hds => ?_) (fun r hr => ?_) (fun hle _ => hb _ hle hsame)
  · rw [h.heap, ho] at h1; cases h1; exact absurd rfl (hc c e f)
  · rw [ho] at hds; cases hds; exact absurd rfl (hdf ds)
  · rw [ho] at hr; cases hr
    obtain ⟨r', e⟩ := hlp r rfl
    exact ⟨r', by rw [hsame, e]⟩

theorem amapset_ok (h : HSim E B C H w) {t : TypeId} {m k x : AV} {mv kv xv : Value} {av : AV} {H' : AHeap} (hm : VRel C m mv) (hk : VRel C k kv) (hx : VRel C x xv) (ha : amapset P t H m k x = some (av, H')) :
    ∃ w' C', (Instr.mapUpdate t mv kv xv).run P w = .ok () w' ∧ av = .tuple [] ∧ Nxt E B C C' H' w w' := by
  unfold amapset at ha
  split at ha
  · rename_i kt et hu
    split at ha
    · rename_i d hd
      split at ha
      · rename_i hko
        cases m <;> simp only [reduceCtorEq] at ha
        rename_i id
        cases hr : H.get id <;> simp only [hr, reduceCtorEq] at ha
        rename_i ks vs
        simp only [VRel] at hm
        obtain ⟨b, a1, rfl⟩ := hm
        have hdd : H.get id ≠ .dead := by rw [hr]; exact fun e => by cases e
        have k5 := h.read.blk id b 0 a1 hdd
        rw [hr] at k5
        obtain ⟨_, es, clock, m1, m2, m3⟩ := k5
        rw [h.heap] at m1
        have hck := checkKey_ok (w := w) hd hk hko false
        have hgo : (getObj b).run P w = .ok (.map es clock) w := by simp [getObj, Sem.run, m1]
        have hso : ∀ o', (setObj b o').run P w = .ok () (w.putObj b o') := fun o' => by simp [setObj, Sem.run, m1, World.putObj]
        cases hf : afind P d k ks 0 with
        | none => simp [hf] at ha
        | some r =>
          have hfk := findKey_ok (w := w) (P := P) hd hk hko m2 hf
          cases r with
          | none =>
            simp only [hf, Option.some.injEq, Prod.mk.injEq] at ha
            obtain ⟨rfl, rfl⟩ := ha
            refine ⟨w.putObj b (.map (es.push { key := kv, val := xv, born := clock }) (clock + 1)), _, ?_, rfl, h.put a1 hdd m1 (fun c e f h => by cases h) (fun ds h => by cases h) (fun r h => by cases h) (fun C' hle hh => ⟨rfl, _, _, hh, ?_, ?_⟩)⟩
            · simp only [Instr.mapUpdate, Sem.run_bind, run_underlying hu, Result.andThen_ok, hgo, hck, hfk.1, Option.bind_none, hso]
            · simpa using VsRel.append (m2.mono hle) (VsRel.cons (hk.mono hle _ _) VsRel.nil)
            · simpa using VsRel.append (m3.mono hle) (VsRel.cons (hx.mono hle _ _) VsRel.nil)
          | some i =>
            simp only [hf, Option.some.injEq, Prod.mk.injEq] at ha
            obtain ⟨rfl, rfl⟩ := ha
            have hi := hfk.2 i rfl
            simp at hi
            obtain ⟨_, k0, hk0, hk1⟩ := afind_hit hf
            rw [Nat.sub_zero] at hk0
            obtain ⟨ov, ho1, ho2⟩ := m2.get _ _ hk0
            have hoe : es[i]? = some es[i] := by simp [hi]
            have hov : es[i].key = ov := by simpa [hi] using ho1
            have hsb := sameBits_ok hk1 hk (hov ▸ ho2)
            have hf1 := hfk.1
            rw [Option.bind_some] at hf1
            rw [show es.toList[i]? = some es[i] by simp [hi]] at hf1
            simp only [Option.map_some] at hf1
            refine ⟨w.putObj b (.map (es.modify i fun e => { e with key := kv, val := xv }) clock), _, ?_, rfl, h.put a1 hdd m1 (fun c e f h => by cases h) (fun ds h => by cases h) (fun r h => by cases h) (fun C' hle hh => ⟨rfl, _, _, hh, ?_, ?_⟩)⟩
            · simp only [Instr.mapUpdate, Sem.run_bind, run_underlying hu, Result.andThen_ok, hgo, hck, hf1, hoe, Option.map_some, Option.getD_some, Instr.keyThatStays, hsb, if_true, Sem.run_pure, hso]
            · have := (m2.mono hle).set i (hk.mono hle _ _)
              rw [show ((es.modify i fun e => { e with key := kv, val := xv }).toList.map (·.key)) = (es.toList.map (·.key)).set i kv from ?_]
              · exact this
              · apply List.ext_getElem?
                intro j
                simp only [Array.toList_modify, List.getElem?_map, List.getElem?_modify, List.getElem?_set]
                by_cases e : i = j
                · subst e; simp [hi]
                · simp [e]
            · have := (m3.mono hle).set i (hx.mono hle _ _)
              rw [show ((es.modify i fun e => { e with key := kv, val := xv }).toList.map (·.val)) = (es.toList.map (·.val)).set i xv from ?_]
              · exact this
              · apply List.ext_getElem?
                intro j
                simp only [Array.toList_modify, List.getElem?_map, List.getElem?_modify, List.getElem?_set]
                by_cases e : i = j
                · subst e; simp [hi]
                · simp [e]
      · cases ha
    · cases ha
  · cases ha

theorem anext_ok (h : HSim E B C H w) {it : AV} {v : Value} {ty : TypeId} {av : AV} {H' : AHeap} (hv : VRel C it v) (ha : anext H it = some (av, H')) :
    ∃ u w' C', (Instr.next v true ty).run P w = .ok u w' ∧ VRel C' av u ∧ Nxt E B C C' H' w w' := by
  unfold anext at ha
  split at ha
  · rename_i id
    cases hr : H.get id <;> simp only [hr, reduceCtorEq] at ha
    rename_i s pos
    simp only [VRel] at hv
    obtain ⟨b, o, a1, rfl⟩ := hv
    have hdd : H.get id ≠ .dead := by rw [hr]; exact fun e => by cases e
    have k5 := h.read.blk id b o a1 hdd
    rw [hr] at k5
    obtain ⟨rfl, m1⟩ := k5
    rw [h.heap] at m1
    have hsz : (⟨s.toArray⟩ : ByteArray).size = s.length := by simp [ByteArray.size]
    have hgo : (getObj b).run P w = .ok (.stringIter ⟨s.toArray⟩ pos) w := by simp [getObj, Sem.run, m1]
    have hso : ∀ o', (setObj b o').run P w = .ok () (w.putObj b o') := fun o' => by simp [setObj, Sem.run, m1, World.putObj]
    split at ha
    · rename_i c hc
      split at ha
      · rename_i hasc
        simp only [Option.some.injEq, Prod.mk.injEq] at ha
        obtain ⟨rfl, rfl⟩ := ha
        have hpl : pos < s.length := bad_idx hc
        have hpl2 : pos < (⟨s.toArray⟩ : ByteArray).size := by omega
        have hce : (⟨s.toArray⟩ : ByteArray)[pos]'hpl2 = c := (List.getElem?_eq_some_iff.1 hc).2
        have hdec := decode_ascii ⟨s.toArray⟩ pos hpl2 (by rw [hce]; exact hasc)
        rw [hce] at hdec
        refine ⟨.tuple #[.bool true, .int .i64 pos, .int .i32 c.toNat], w.putObj b (.stringIter ⟨s.toArray⟩ (pos + 1)), _, ?_, ?_, h.put a1 hdd m1 (fun c e f h => by cases h) (fun ds h => by cases h) (fun r h => by cases h) (fun C' hle hh => ⟨rfl, hh⟩)⟩
        · simp only [Instr.next, Sem.run_bind, hgo, Result.andThen_ok, hpl2, if_true, hdec, hso, Sem.run_pure, goInt]
        · simp only [VRel]
          exact ⟨_, rfl, VsRel.cons (by simp [VRel]) (VsRel.cons (by simp [VRel]) (VsRel.cons (by simp [VRel]) VsRel.nil))⟩
      · simp only [Option.some.injEq, Prod.mk.injEq] at ha
        obtain ⟨rfl, rfl⟩ := ha
        have hpl : pos < s.length := bad_idx hc
        have hpl2 : pos < (⟨s.toArray⟩ : ByteArray).size := by omega
        refine ⟨.tuple #[.bool true, .int .i64 pos, .int .i32 (Utf8.decode ⟨s.toArray⟩ pos).1], w.putObj b (.stringIter ⟨s.toArray⟩ (pos + (Utf8.decode ⟨s.toArray⟩ pos).2)), _, ?_, ?_, h.put a1 hdd m1 (fun c e f h => by cases h) (fun ds h => by cases h) (fun r h => by cases h) (fun C' hle hh => ⟨rfl, hh⟩)⟩
        · simp only [Instr.next, Sem.run_bind, hgo, Result.andThen_ok, hpl2, if_true, hso, Sem.run_pure, goInt]
        · simp only [VRel]
          exact ⟨_, rfl, VsRel.cons (by simp [VRel]) (VsRel.cons (by simp [VRel]) (VsRel.cons (by simp [VRel]) VsRel.nil))⟩
    · split at ha
      · rename_i hp
        simp only [Option.some.injEq, Prod.mk.injEq] at ha
        obtain ⟨rfl, rfl⟩ := ha
        refine ⟨.tuple #[.bool false], w, C, ?_, ?_, .refl h⟩
        · have : ¬ (pos < (⟨s.toArray⟩ : ByteArray).size) := by omega
          simp only [Instr.next, Sem.run_bind, hgo, Result.andThen_ok, this, if_false, Sem.run_pure]
        · simp only [VRel]
          exact ⟨_, rfl, VsRel.cons (by simp [VRel]) VsRel.nil⟩
      · cases ha
  · cases ha

theorem awr_ok (h : HSim E B C H w) {ρ : Operand → AV} {σ : Operand → Value} (hρ : ∀ x, VRel C (ρ x) (σ x)) {o : Oper} {av : AV} {H' : AHeap} (ha : awr E o.op ρ H = some (av, H')) :
    ∃ nx v w' C', (execOp σ o).run E.P w = .ok nx w' ∧ (nx = .value v ∨ nx = .skip ∧ v = undef) ∧ VRel C' av v ∧ Nxt E B C C' H' w w' := by
  have hundef : ∀ C : Ctx, VRel C (.tuple []) undef := fun C => by simp only [VRel]; exact ⟨#[], rfl, VsRel.nil⟩
  obtain ⟨dst, op, ty, pos, after, guard⟩ := o
  cases op <;> simp only [awr, reduceCtorEq] at ha
  case store t a x =>
    obtain ⟨w', C', k1, rfl, k2, _⟩ := astore_ok (P := E.P) h (hρ a) (hρ x) ha
    exact ⟨.skip, undef, w', C', by simp [execOp, k1], .inr ⟨rfl, rfl⟩, hundef _, k2⟩
  case mapUpdate t m k x =>
    obtain ⟨w', C', k1, rfl, k2⟩ := amapset_ok (P := E.P) h (hρ m) (hρ k) (hρ x) ha
    exact ⟨.skip, undef, w', C', by simp [execOp, k1], .inr ⟨rfl, rfl⟩, hundef _, k2⟩
  case insert t m k x =>
    obtain ⟨w', C', k1, rfl, k2⟩ := amapset_ok (P := E.P) h (hρ m) (hρ k) (hρ x) ha
    exact ⟨.skip, undef, w', C', by simp [execOp, k1], .inr ⟨rfl, rfl⟩, hundef _, k2⟩
  case next it s =>
    split at ha
    · rename_i hs
      subst hs
      obtain ⟨u, w', C', k1, k2, k3⟩ := anext_ok (P := E.P) (ty := ty) h (hρ it) ha
      exact ⟨.value u, u, w', C', by simp [execOp, k1], .inl rfl, k2, k3⟩
    · cases ha
  case call c =>
    obtain ⟨callee, args, argTypes⟩ := c
    simp only at ha
    split at ha
    · split at ha
      · rename_i s x t u e1 e2
        obtain rfl : args = #[s, x] := by rw [← Array.toArray_toList (xs := args), e1]
        obtain rfl : argTypes = #[t, u] := by rw [← Array.toArray_toList (xs := argTypes), e2]
        obtain ⟨v, w', C', k1, k2, k3⟩ := aappend_ok (P := E.P) (ty := ty) h (hρ s) (hρ x) ha
        exact ⟨.value v, v, w', C', by simp [execOp, resolve, invoke, builtin, k1], .inl rfl, k2, k3⟩
      · cases ha
    · cases ha
end
end Go.Zk
namespace Go.Zk

/-- Where a piece of code has come to. -/
def XArr (P : Program) (m : Machine) (b : Frame) (k : List Item) (cs : List Frame) : Exit → Act → World → Prop
  | .normal, a, w => Steps P m (lone (b.atR a k) cs w)
  | .exit id, a, w => ∃ k1, exitTo id k1 = exitTo id k ∧ Steps P m (lone (b.atR a (.code (.exit id) :: k1)) cs w)
  | .goto l, a, w => ∃ k1, gotoIn l k1 = gotoIn l k ∧ Steps P m (lone (b.atR a (.code (.goto l) :: k1)) cs w)
  | .ret, a, w => ∃ k1, Steps P m (lone (b.atR a (.code .ret :: k1)) cs w)
  | .panic ch, a, w => ∃ k1, Steps P m (lone { b.atR a k1 with mode := .panicking ch } cs w)
  | .outgrown, _, _ => False

theorem XArr.of_steps {P : Program} {m m1 : Machine} {b : Frame} {k : List Item} {cs : List Frame} {e : Exit} {a : Act} {w : World} (h : Steps P m m1) (h' : XArr P m1 b k cs e a w) : XArr P m b k cs e a w := by
  cases e with
  | normal => exact h.trans h'
  | exit id => obtain ⟨k1, h1, h2⟩ := h'; exact ⟨k1, h1, h.trans h2⟩
  | goto l => obtain ⟨k1, h1, h2⟩ := h'; exact ⟨k1, h1, h.trans h2⟩
  | ret => obtain ⟨k1, h2⟩ := h'; exact ⟨k1, h.trans h2⟩
  | panic ch => obtain ⟨k1, h2⟩ := h'; exact ⟨k1, h.trans h2⟩
  | outgrown => exact h'

theorem XArr.pass {P : Program} {m : Machine} {b : Frame} {x : Item} {k : List Item} {cs : List Frame} {e : Exit} {a : Act} {w : World} (hx : x.plain = true) (he : e ≠ .normal) (h : XArr P m b (x :: k) cs e a w) : XArr P m b k cs e a w := by
  cases e with
  | normal => exact absurd rfl he
  | exit id => obtain ⟨k1, h1, h2⟩ := h; exact ⟨k1, by rw [h1]; cases x <;> simp_all [exitTo, Item.plain], h2⟩
  | goto l => obtain ⟨k1, h1, h2⟩ := h; exact ⟨k1, by rw [h1]; cases x <;> simp_all [gotoIn, Item.plain], h2⟩
  | ret => exact h
  | panic ch => exact h
  | outgrown => exact h

def XWp (P : Program) (r : Option Nat) (c : Code) (Q : Exit → Act → World → Prop) (a : Act) (w : World) : Prop :=
  ∀ (b : Frame) (k : List Item) (cs : List Frame), b.roundOf = r → ∃ e a' w', Q e a' w' ∧ XArr P (lone (b.atR a (.code c :: k)) cs w) b k cs e a' w'

/-- The operations of a region in this order. -/
def XOps (P : Program) (r : Option Nat) (ops : Array Oper) (l : List Nat) (Q : Exit → Act → World → Prop) (a : Act) (w : World) : Prop :=
  ∀ (b : Frame) (k : List Item) (cs : List Frame), b.roundOf = r → ∃ e a' w', Q e a' w' ∧ XArr P (lone (b.atR a (.inRegion ops l :: k)) cs w) b k cs e a' w'

section
variable {P : Program} {r : Option Nat} {Q : Exit → Act → World → Prop} {a : Act} {w : World}

theorem XWp.mono {c : Code} {Q' : Exit → Act → World → Prop} (h : XWp P r c Q a w) (hq : ∀ e a w, Q e a w → Q' e a w) : XWp P r c Q' a w :=
  fun b k cs hb => let ⟨e, a', w', q, s⟩ := h b k cs hb; ⟨e, a', w', hq _ _ _ q, s⟩
theorem XOps.mono {ops : Array Oper} {l : List Nat} {Q' : Exit → Act → World → Prop} (h : XOps P r ops l Q a w) (hq : ∀ e a w, Q e a w → Q' e a w) : XOps P r ops l Q' a w :=
  fun b k cs hb => let ⟨e, a', w', q, s⟩ := h b k cs hb; ⟨e, a', w', hq _ _ _ q, s⟩
theorem x_skip (h : Q .normal a w) : XWp P r .skip Q a w := fun _ _ _ _ => ⟨.normal, a, w, h, .one stepR_skip⟩
theorem x_label {l : Nat} (h : Q .normal a w) : XWp P r (.label l) Q a w := fun _ _ _ _ => ⟨.normal, a, w, h, .one stepR_label⟩
theorem x_exit {id : Nat} (h : Q (.exit id) a w) : XWp P r (.exit id) Q a w := fun _ k _ _ => ⟨.exit id, a, w, h, k, rfl, .refl _ _⟩
theorem x_goto {l : Nat} (h : Q (.goto l) a w) : XWp P r (.goto l) Q a w := fun _ k _ _ => ⟨.goto l, a, w, h, k, rfl, .refl _ _⟩
theorem x_ret (h : Q .ret a w) : XWp P r .ret Q a w := fun _ k _ _ => ⟨.ret, a, w, h, k, .refl _ _⟩

theorem x_seq {x y : Code} (h : XWp P r x (fun e a w => (e = .normal ∧ XWp P r y Q a w) ∨ (e ≠ .normal ∧ Q e a w)) a w) : XWp P r (.seq x y) Q a w := by
  intro b k cs hb
  obtain ⟨e, a1, w1, hq, harr⟩ := h b (.code y :: k) cs hb
  rcases hq with ⟨rfl, hq⟩ | ⟨hne, hq⟩
  · obtain ⟨e2, a2, w2, hq2, harr2⟩ := hq b k cs hb
    exact ⟨e2, a2, w2, hq2, .of_steps (.head stepR_seq harr) harr2⟩
  · exact ⟨e, a1, w1, hq, .of_steps (.one stepR_seq) (.pass (x := .code y) rfl hne harr)⟩
theorem x_cond {c : Operand} {x y : Code} {t : Bool} (hc : a.eval c = .bool t) (h : XWp P r (if t then x else y) Q a w) : XWp P r (.cond c x y) Q a w :=
  fun b k cs hb => let ⟨e, a', w', q, s⟩ := h b k cs hb; ⟨e, a', w', q, .of_steps (.one (stepR_cond hc)) s⟩
theorem x_block {id : Nat} {c : Code} (h : XWp P r c (Exit.inBlock id Q) a w) : XWp P r (.block id c) Q a w := by
  intro b k cs hb
  obtain ⟨e, a1, w1, hq, harr⟩ := h b (.inBlock id :: k) cs hb
  cases e with
  | normal => exact ⟨.normal, a1, w1, hq, .head stepR_block (Steps.trans harr (.one stepR_inBlock))⟩
  | exit id' =>
    obtain ⟨k1, h1, h2⟩ := harr
    by_cases he : id' = id
    · subst he
      simp only [Exit.inBlock, if_true] at hq
      refine ⟨.normal, a1, w1, hq, .head stepR_block (h2.trans (.one (stepR_exit ?_)))⟩
      rw [h1]; simp [exitTo]
    · simp only [Exit.inBlock, he, if_false] at hq
      have hne : (id == id') = false := by simp; exact fun e => he e.symm
      exact ⟨.exit id', a1, w1, hq, k1, by rw [h1]; simp [exitTo, hne], .head stepR_block h2⟩
  | goto l => obtain ⟨k1, h1, h2⟩ := harr; exact ⟨.goto l, a1, w1, hq, k1, by rw [h1]; simp [gotoIn], .head stepR_block h2⟩
  | ret => exact ⟨_, a1, w1, hq, .of_steps (e := .ret) (.one stepR_block) harr⟩
  | panic ch => exact ⟨_, a1, w1, hq, .of_steps (e := .panic ch) (.one stepR_block) harr⟩
  | outgrown => exact harr.elim
theorem x_loop {c : Code} (I : Act → World → Nat → Prop) {n0 : Nat} (h0 : I a w n0)
    (round : ∀ n a w, I a w n → XWp P r c (fun e a' w' => (e = .normal ∧ ∃ m, m < n ∧ I a' w' m) ∨ (e ≠ .normal ∧ Q e a' w')) a w) : XWp P r (.loop c) Q a w := by
  intro b k cs hb
  have key : ∀ n a w, I a w n → ∃ e a' w', Q e a' w' ∧ XArr P (lone (b.atR a (.code c :: .inLoop c :: k)) cs w) b k cs e a' w' := by
    intro n
    induction n using Nat.strongRecOn with
    | _ n ih =>
      intro a w hI
      obtain ⟨e, a1, w1, hq, harr⟩ := round n a w hI b (.inLoop c :: k) cs hb
      rcases hq with ⟨rfl, m, hm, hI1⟩ | ⟨hne, hq⟩
      · obtain ⟨e2, a2, w2, hq2, harr2⟩ := ih m hm a1 w1 hI1
        exact ⟨e2, a2, w2, hq2, .of_steps (Steps.trans harr (.one stepR_inLoop)) harr2⟩
      · exact ⟨e, a1, w1, hq, .pass (x := .inLoop c) rfl hne harr⟩
  obtain ⟨e, a', w', hq, harr⟩ := key n0 a w h0
  exact ⟨e, a', w', hq, .of_steps (.one stepR_loop) harr⟩
theorem x_region {id : Nat} {ops : Array Oper} (h : XOps P r ops (List.range ops.size) Q a w) : XWp P r (.region id ops false) Q a w :=
  fun b k cs hb => let ⟨e, a', w', q, s⟩ := h b k cs hb; ⟨e, a', w', q, .of_steps (.one stepR_region) s⟩
theorem x_region_draw {id : Nat} {ops : Array Oper} (h : ∀ t, XOps P r ops (Region.schedule (P.follows .mixedOrders) ops t) Q a w.drew) : XWp P r (.region id ops true) Q a w :=
  fun b k cs hb => let ⟨e, a', w', q, s⟩ := h _ b k cs hb; ⟨e, a', w', q, .of_steps (.one stepR_region_draw) s⟩

theorem xo_nil {ops : Array Oper} (h : Q .normal a w) : XOps P r ops [] Q a w := fun _ _ _ _ => ⟨.normal, a, w, h, .one stepR_region_end⟩
theorem xo_skip {ops : Array Oper} {i : Nat} {l : List Nat} {o : Oper} (ho : ops[i]? = some o) (hw : Region.wanted o (yielded ops a.tmps) = false) (h : XOps P r ops l Q (a.put o.dst undef) w) : XOps P r ops (i :: l) Q a w := by
  intro b k cs hb
  obtain ⟨e, a', w', q, s⟩ := h b k cs hb
  have hs := stepR_op_skip (P := P) (b := b) (a := a) (k := k) (cs := cs) (w := w) (ops := ops) (i := i) (rest := l) (by simp [ho, hw])
  simp only [ho, Option.bind_some] at hs
  exact ⟨e, a', w', q, .of_steps (.one hs) s⟩
theorem xo_value {ops : Array Oper} {i : Nat} {l : List Nat} {o : Oper} {nx : Next} {v : Value} {w1 : World} (ho : ops[i]? = some o) (hw : Region.wanted o (yielded ops a.tmps) = true) (hd : ∀ c, o.op ≠ .defer c)
    (hr : (execOp a.eval o).run P w = .ok nx w1) (hn : nx = .value v ∨ nx = .skip ∧ v = undef) (h : XOps P r ops l Q (a.put o.dst v) w1) : XOps P r ops (i :: l) Q a w := by
  intro b k cs hb
  obtain ⟨e, a', w', q, s⟩ := h b k cs hb
  refine ⟨e, a', w', q, .of_steps (.one (step_lone_go ?_)) s⟩
  have hg := stepGR_op (P := P) (b := b) (k := k) (cs := cs) (w := w) (rest := l) ho hw
  rw [Oper.semAt_eq _ _ _ hd] at hg
  have hfin : (b.atR a (.inRegion ops (i :: l) :: k)).finish v = b.atR (a.put o.dst v) (.inRegion ops l :: k) := by rw [Frame.finish_atR, ho]; rfl
  rw [hg, ← hfin]
  rcases hn with rfl | ⟨rfl, rfl⟩ <;> simp [stepG.apply, hr]

/-- A frame that has been pushed runs to its end, whoever called. -/
def Runs (P : Program) (fr0 : Frame) (w : World) (R : Ending → World → Prop) : Prop :=
  ∀ (c : Frame) (cs : List Frame), ∃ e w', R e w' ∧ match e with
    | .returned v => Steps P (lone fr0 (c :: cs) w) (lone (c.finish v) cs w')
    | .panicked ch => Steps P (lone fr0 (c :: cs) w) (lone (c.raise ch) cs w')
    | .outgrown => False
theorem Runs.mono {fr0 : Frame} {R R' : Ending → World → Prop} (h : Runs P fr0 w R) (hr : ∀ e w, R e w → R' e w) : Runs P fr0 w R' :=
  fun c cs => let ⟨e, w', q, s⟩ := h c cs; ⟨e, w', hr _ _ q, s⟩
theorem runs_of_calls {f : FuncId} {args : Array Value} {R : Ending → World → Prop} (h : Calls P f args w R) (hno : ∀ w, ¬ R .outgrown w) : Runs P (Frame.enter P f args .normal) w R := by
  intro c cs
  obtain ⟨e, w', fr, hR, hs, _, hl⟩ := h (c :: cs)
  cases e with
  | returned v => exact ⟨.returned v, w', hR, Steps.trans hs (.one (step_leave_returned hl))⟩
  | panicked ch => exact ⟨.panicked ch, w', hR, Steps.trans hs (.one (step_leave_panicked hl))⟩
  | outgrown => exact (hno w' hR).elim

/-- What an invocation comes to. -/
def InvOk (P : Program) (r : Result Next) (R : Ending → World → Prop) : Prop :=
  match r with
  | .ok (.enter f args) w => Runs P (Frame.enter P f args .normal) w R
  | .ok (.round l f tmps x y) w => Runs P (Frame.round l f tmps x y .normal) w R
  | _ => False
theorem InvOk.mono {rr : Result Next} {R R' : Ending → World → Prop} (h : InvOk P rr R) (hr : ∀ e w, R e w → R' e w) : InvOk P rr R' := by
  unfold InvOk at *
  split at h
  · exact Runs.mono h hr
  · exact Runs.mono h hr
  · exact h

theorem xo_call {ops : Array Oper} {i : Nat} {l : List Nat} {o : Oper} (ho : ops[i]? = some o) (hw : Region.wanted o (yielded ops a.tmps) = true) (hd : ∀ c, o.op ≠ .defer c)
    (hr : InvOk P ((execOp a.eval o).run P w) fun e w' => match e with
      | .returned v => XOps P r ops l Q (a.put o.dst v) w'
      | .panicked ch => Q (.panic ch) a w'
      | .outgrown => False) : XOps P r ops (i :: l) Q a w := by
  intro b k cs hb
  have hg := stepGR_op (P := P) (b := b) (k := k) (cs := cs) (w := w) (rest := l) ho hw
  rw [Oper.semAt_eq _ _ _ hd] at hg
  have hfin : ∀ v, (b.atR a (.inRegion ops (i :: l) :: k)).finish v = b.atR (a.put o.dst v) (.inRegion ops l :: k) := fun v => by rw [Frame.finish_atR, ho]; rfl
  have main : ∀ (fr0 : Frame) (w1 : World), step P (lone (b.atR a (.inRegion ops (i :: l) :: k)) cs w) = .next (lone fr0 (b.atR a (.inRegion ops (i :: l) :: k) :: cs) w1) →
      Runs P fr0 w1 (fun e w' => match e with
      | .returned v => XOps P r ops l Q (a.put o.dst v) w'
      | .panicked ch => Q (.panic ch) a w'
      | .outgrown => False) → ∃ e a' w', Q e a' w' ∧ XArr P (lone (b.atR a (.inRegion ops (i :: l) :: k)) cs w) b k cs e a' w' := by
    intro fr0 w1 hst hrun
    obtain ⟨e, w', hR, hs⟩ := hrun (b.atR a (.inRegion ops (i :: l) :: k)) cs
    cases e with
    | returned v =>
      obtain ⟨e2, a2, w2, q, s⟩ := hR b k cs hb
      simp only at hs
      rw [hfin] at hs
      exact ⟨e2, a2, w2, q, .of_steps (.head hst hs) s⟩
    | panicked ch =>
      simp only at hs
      rw [Frame.raise_atR] at hs
      exact ⟨.panic ch, a, w', hR, _, .head hst hs⟩
    | outgrown => exact hR.elim
  unfold InvOk at hr
  split at hr
  · rename_i f args w1 hrun
    exact main _ _ (step_lone_go (by rw [hg]; simp [stepG.apply, hrun, Frame.atR])) hr
  · rename_i l' f tmps x y w1 hrun
    exact main _ _ (step_lone_go (by rw [hg]; simp [stepG.apply, hrun, Frame.atR])) hr
  · exact hr.elim
end
end Go.Zk
namespace Go.Zk

inductive AR where
  | ret (v : AV)
  | panic (v : AV)
inductive AExit where
  | normal
  | exit (id : Nat)
  | goto (l : Nat)
  | ret
  | panic (v : AV)

def EndRel (C : Ctx) : AR → Ending → Prop
  | .ret av, .returned v => VRel C av v
  | .panic av, .panicked ch => ∃ v, ch = [{ v, recovered := false }] ∧ VRel C av v
  | _, _ => False
def ERel (C : Ctx) : AExit → Exit → Prop
  | .normal, .normal => True
  | .exit i, .exit j => i = j
  | .goto i, .goto j => i = j
  | .ret, .ret => True
  | .panic av, .panic ch => ∃ v, ch = [{ v, recovered := false }] ∧ VRel C av v
  | _, _ => False

/-- What a call comes to, over the caller's abstract memory. -/
def RPost (E : Env) (B : Nat) (C : Ctx) (w : World) (Post : AR → AHeap → Prop) (e : Ending) (w' : World) : Prop :=
  ∃ C' H' ar, EndRel C' ar e ∧ Nxt E B C C' H' w w' ∧ Post ar H'
/-- A function called over the caller's abstract memory. -/
def ACalls (E : Env) (f : FuncId) (args : List AV) (H : AHeap) (Post : AR → AHeap → Prop) : Prop :=
  ∀ B C w vs, HSim E B C H w → VsRel C args vs → Calls E.P f vs.toArray w (RPost E B C w Post)
/-- A function value called over the caller's abstract memory. -/
def AInv (E : Env) (fv : AV) (args : List AV) (H : AHeap) (Post : AR → AHeap → Prop) : Prop :=
  ∀ B C w v vs, HSim E B C H w → VRel C fv v → VsRel C args vs → InvOk E.P ((do let d ← Deferred.ofValue v vs.toArray; invoke d.target d.args : Sem Next).run E.P w) (RPost E B C w Post)

/-- What a call leaves that only lays new blocks: the value reads in memory that stays. -/
def PPost (I : Nat → Prop) (w : World) (res : AV) (e : Ending) (w' : World) : Prop :=
  ∃ v I', e = .returned v ∧ Ev w.heap.size w w' ∧ (∀ b, I b → I' b) ∧ (∀ b, I' b → I b ∨ w.heap.size ≤ b) ∧ (∀ b, I' b → b < w'.heap.size) ∧ (∀ b ds, I' b → w'.heap[b]? ≠ some (.deferred ds)) ∧ VRel ⟨I', fun _ => none, w'.heap⟩ res v
/-- A function of pure values. -/
def PCalls (E : Env) (f : FuncId) (args : List AV) (res : AV) : Prop :=
  ∀ (I : Nat → Prop) (w : World) (vs : List Value), (∀ b, I b → b < w.heap.size) → (∀ b ds, I b → w.heap[b]? ≠ some (.deferred ds)) → (∀ g cells, E.G g = some cells → CellsAt ⟨I, fun _ => none, w.heap⟩ ⟨g, 0, none⟩ 0 cells) →
    VsRel ⟨I, fun _ => none, w.heap⟩ args vs → Calls E.P f vs.toArray w (PPost I w res)
/-- A call that is quiet over this abstract memory. -/
def AQuiet (E : Env) (fv : AV) (args : List AV) (H : AHeap) (res : AV) : Prop :=
  ∀ C w v vs, HRead E C H w → (∀ b, C.I b → b < w.heap.size) → (∀ b ds, C.I b → w.heap[b]? ≠ some (.deferred ds)) → VRel C fv v → VsRel C args vs →
    InvOk E.P ((do let d ← Deferred.ofValue v vs.toArray; invoke d.target d.args : Sem Next).run E.P w) (PPost C.I w res)

def kindOf : Op → Nat
  | .alloc _ => 1 | .box _ _ => 1 | .buildSlice _ _ _ => 1 | .makeMap _ _ => 1 | .makeSlice _ _ _ => 1 | .range _ _ => 1
  | .store _ _ _ => 2 | .mapUpdate _ _ _ _ => 2 | .insert _ _ _ _ => 2 | .next _ _ => 2
  | .convert _ _ _ => 3
  | .build _ _ => 4
  | .call c => match c.callee with
    | .builtin .append => 2
    | .builtin _ => 0
    | .value _ => 5
    | .invoke _ _ => 6
  | .move _ => 0 | .assign _ => 0 | .pick _ _ _ => 0 | .load _ _ => 0 | .nilCheck _ => 0 | .binOp _ _ _ _ _ => 0 | .unOp _ _ _ => 0
  | .makeFunc _ _ _ => 0 | .slice _ _ _ _ _ => 0 | .fieldAddr _ _ _ => 0 | .field _ _ _ => 0 | .indexAddr _ _ _ => 0 | .index _ _ _ => 0 | .lookup _ _ _ _ => 0 | .extract _ _ => 0
  | _ => 6
/-- An operation that makes no call: its value, and the memory behind it. -/
def astep (E : Env) (op : Op) (ρ : Operand → AV) (H : AHeap) : Option (AV × AHeap) :=
  match kindOf op with
  | 0 => match aval2 E op ρ H with
    | some v => some (v, H)
    | none => none
  | 1 => match anew E op ρ with
    | some (f, blk) => some (f H.next, H.alloc blk)
    | none => none
  | 2 => awr E op ρ H
  | 3 => match aval2 E op ρ H with
    | some v => some (v, H)
    | none => match anew E op ρ with
      | some (f, blk) => some (f H.next, H.alloc blk)
      | none => none
  | 4 => match op with
    | .build t parts => match abuild E.P t (parts.toList.map fun q => (q.1, ρ q.2)) with
      | some v => some (v, H)
      | none => none
    | _ => none
  | _ => none
/-- The same for an operation whose turn is open: it reads H alone; its new block gets the name id. -/
def aquiet (E : Env) (op : Op) (ρ : Operand → AV) (H : AHeap) (id : Nat) : Option (AV × Option ABlk) :=
  match kindOf op with
  | 0 => match aval2 E op ρ H with
    | some v => some (v, none)
    | none => none
  | 1 => match anew E op ρ with
    | some (f, blk) => some (f id, some blk)
    | none => none
  | 3 => match aval2 E op ρ H with
    | some v => some (v, none)
    | none => match anew E op ρ with
      | some (f, blk) => some (f id, some blk)
      | none => none
  | 4 => match op with
    | .build t parts => match abuild E.P t (parts.toList.map fun q => (q.1, ρ q.2)) with
      | some v => some (v, none)
      | none => none
    | _ => none
  | _ => none

def aput (n : Nat) (fr : AFr) (dst : Option Tmp) (v : AV) : AFr :=
  match dst with
  | none => fr
  | some d => if d < n then upd fr d v else fr

/-- Whether an operation is wanted: if it is, X; if not, Y. -/
def AGuard (ops : Array Oper) (o : Oper) (fr : AFr) (X Y : Prop) : Prop :=
  match o.guard with
  | none => X
  | some (j, want) => match (ops[j]?).bind (·.dst) with
    | none => Y
    | some t => match fr t with
      | .bool b => if b = want then X else Y
      | .tuple [] => Y
      | _ => False

def AOp (E : Env) (o : Oper) (fr : AFr) (H : AHeap) (K : AV → AHeap → Prop) (Qp : AV → AHeap → Prop) : Prop :=
  match kindOf o.op with
  | 5 => match o.op with
    | .call c => match c.callee with
      | .value f => AInv E (aeval E fr f) (c.args.toList.map (aeval E fr)) H fun
        | .ret v, H' => K v H'
        | .panic v, H' => Qp v H'
      | _ => False
    | _ => False
  | _ => match astep E o.op (aeval E fr) H with
    | some (v, H') => K v H'
    | none => False

def AOps (E : Env) (n : Nat) (ops : Array Oper) (Q : AExit → AFr → AHeap → Prop) : List Oper → AFr → AHeap → Prop
  | [], fr, H => Q .normal fr H
  | o :: rest, fr, H => AGuard ops o fr
      (AOp E o fr H (fun v H' => AOps E n ops Q rest (aput n fr o.dst v) H') (fun v H' => Q (.panic v) fr H'))
      (AOps E n ops Q rest (aput n fr o.dst (.tuple [])) H)

/-- What an operation whose turn is open does to memory: nothing; it lays a new block; it sets a block anew. -/
inductive AEff where
  | no
  | new (b : ABlk)
  | put (id : Nat) (b : ABlk)
def effOf : Option ABlk → AEff
  | none => .no
  | some b => .new b
def setB (H : AHeap) (id : Nat) : AEff → AHeap
  | .no => H
  | .new b => H.set id b
  | .put i b => H.set i b
/-- H, as far as the names of l go (none: all). -/
def AHeap.only (H : AHeap) : Option (List Nat) → AHeap
  | none => H
  | some l => ⟨H.next, fun i => if l.contains i = true then H.get i else .dead⟩
def idOf : AV → List Nat
  | .ptr i _ => [i]
  | .msl i _ _ _ _ => [i]
  | .map i => [i]
  | _ => []
/-- The names that an operation's operands bear. -/
def footOf (op : Op) (ρ : Operand → AV) : List Nat := (op.operands.toList.map fun x => idOf (ρ x)).flatten
def AQ (E : Env) (o : Oper) (fr : AFr) (H : AHeap) (id : Nat) (K : AV → AEff → Option (List Nat) → Prop) : Prop :=
  match kindOf o.op with
  | 5 => match o.op with
    | .call c => match c.callee with
      | .value f => ∃ r res, AQuiet E (aeval E fr f) (c.args.toList.map (aeval E fr)) (H.only r) res ∧ K res .no r
      | _ => False
    | _ => False
  | 2 => match o.op with
    | .store t a x => match aeval E fr a, astore E.P t H (aeval E fr a) (aeval E fr x) with
      | .ptr i _, some (v, H') => K v (.put i (H'.get i)) (some [i])
      | _, _ => False
    | _ => False
  | _ => match aquiet E o.op (aeval E fr) H id with
    | some (v, b) => K v (effOf b) (some (footOf o.op (aeval E fr)))
    | none => False

/-- What is noted of an operation whose turn is open: the names it reads, the name it sets. -/
abbrev ALog := List (Option (List Nat) × Option Nat)
def effId : AEff → Option Nat
  | .put i _ => some i
  | _ => none
/-- The operations of a piece whose turn is open, in the order of the text. New names: N + place. -/
def AHead (E : Env) (n : Nat) (ops : Array Oper) (N : Nat) (K : ALog → AFr → AHeap → Prop) : List Oper → Nat → ALog → AFr → AHeap → Prop
  | [], _, log, fr, H => K log fr H
  | o :: rest, i, log, fr, H => AGuard ops o fr
      (AQ E o fr H (N + i) fun v b r => AHead E n ops N K rest (i + 1) (log ++ [(r, effId b)]) (aput n fr o.dst v) (setB H (N + i) b))
      (AHead E n ops N K rest (i + 1) (log ++ [(some [], none)]) (aput n fr o.dst (.tuple [])) H)

/-! the order that a drawing region leaves open -/
def looks (ops : Array Oper) (o : Oper) : List Tmp :=
  (o.op.operands.toList.filterMap fun | .tmp t => some t | _ => none) ++ (match o.guard with
    | some (g, _) => ((ops[g]?).bind (·.dst)).toList
    | none => [])
/-- The operations that come before: bit j of the i-th number. -/
def dmask (acc : List Nat) : List Edge → Nat
  | [] => 0
  | e :: es => match Region.binds .any e with
    | true => Nat.lor (Nat.lor (Nat.shiftLeft 1 e.on) (acc.getD e.on 0)) (dmask acc es)
    | false => dmask acc es
def dmasks : List Oper → List Nat → List Nat
  | [], acc => acc
  | o :: l, acc => dmasks l (acc ++ [dmask acc o.after.toList])
def dfull (k m : Nat) : Bool := Nat.beq (Nat.land k (Nat.sub (Nat.pow 2 m) 1)) (Nat.sub (Nat.pow 2 m) 1)
/-- Every operation from m on comes behind all ahead of m. -/
def dlater (ms : List Nat) (m : Nat) : Bool := (ms.drop m).all fun k => dfull k m
def dback : List Oper → Nat → Bool
  | [], _ => true
  | o :: l, i => (o.after.toList.all fun e => !Region.binds .any e || Nat.blt e.on i) && dback l (i + 1)
def dpair (ops : Array Oper) (ms : List Nat) (i j : Nat) : Bool :=
  match ops[i]?, ops[j]? with
  | some o, some p => match p.dst with
    | none => true
    | some d => Nat.beq j i || ((!(looks ops o).contains d && o.dst != some d) || (match Nat.blt j i with
      | true => Nat.testBit (ms.getD i 0) j
      | false => Nat.testBit (ms.getD j 0) i))
  | _, _ => false
/-- The operations from s up to m may take any turn among themselves. -/
def dopen (ops : Array Oper) (ms : List Nat) (s m : Nat) : Bool := (List.range' s (m - s)).all fun i => (List.range' s (m - s)).all fun j => dpair ops ms i j
/-- j comes ahead of i, or i ahead of j, as the text has it. -/
def dord (ms : List Nat) (i j : Nat) : Bool := match Nat.blt j i with
  | true => Nat.testBit (ms.getD i 0) j
  | false => Nat.testBit (ms.getD j 0) i
def logPair (ms : List Nat) (i j : Nat) (ri : Option (List Nat)) (wi wj : Option Nat) : Bool :=
  match wj with
  | none => true
  | some id => Nat.beq i j || (dord ms i j || !((match ri with
    | none => true
    | some l => l.contains id) || wi == some id))
def logRow (ms : List Nat) (i : Nat) (ri : Option (List Nat)) (wi : Option Nat) : ALog → Nat → Bool
  | [], _ => true
  | (_, wj) :: l, j => logPair ms i j ri wi wj && logRow ms i ri wi l (j + 1)
def logRows (ms : List Nat) (all : ALog) (s : Nat) : ALog → Nat → Bool
  | [], _ => true
  | (ri, wi) :: l, i => logRow ms i ri wi all s && logRows ms all s l (i + 1)
def hasPut : ALog → Bool
  | [] => false
  | (_, some _) :: _ => true
  | (_, none) :: l => hasPut l
/-- What sets a name comes, as the text has it, ahead of or behind all that reads or sets it. -/
def logOk (ops : Array Oper) (s : Nat) (log : ALog) : Bool := !hasPut log || logRows (dmasks ops.toList []) log s log s
/-- The operations from s up to m come in the order of the text. -/
def dtext (ms : List Nat) (s m : Nat) : Bool := (List.range' s (m - s)).all fun i => dfull (ms.getD i 0) i
def dstages (ops : Array Oper) (ms : List Nat) : List (Nat × Bool) → Nat → Bool
  | [], s => Nat.beq s ops.size
  | (m, b) :: l, s => (Nat.ble s m && Nat.ble m ops.size) && (dlater ms m && ((match b with
    | true => dopen ops ms s m
    | false => dtext ms s m) && dstages ops ms l m))
/-- A plan for a region: pieces that end at m, of open order or in the order of the text. -/
def planOk (ops : Array Oper) (l : List (Nat × Bool)) : Bool := dback ops.toList 0 && dstages ops (dmasks ops.toList []) l 0

def AThen (next : AFr → AHeap → Prop) (Q : AExit → AFr → AHeap → Prop) : AExit → AFr → AHeap → Prop
  | .normal, fr, H => next fr H
  | .exit i, fr, H => Q (.exit i) fr H
  | .goto i, fr, H => Q (.goto i) fr H
  | .ret, fr, H => Q .ret fr H
  | .panic v, fr, H => Q (.panic v) fr H
def ABlock (id : Nat) (Q : AExit → AFr → AHeap → Prop) : AExit → AFr → AHeap → Prop
  | .normal, fr, H => Q .normal fr H
  | .exit i, fr, H => if i = id then Q .normal fr H else Q (.exit i) fr H
  | .goto i, fr, H => Q (.goto i) fr H
  | .ret, fr, H => Q .ret fr H
  | .panic v, fr, H => Q (.panic v) fr H
/-- behind a range over a function -/
def ARanged (L : Nat) (Q : AExit → AFr → AHeap → Prop) (fr : AFr) : AR → AHeap → Prop
  | .ret _, H => match H.get L with
    | .loop l => l.state ≠ .busy ∧ match l.pending with
      | none => Q .normal fr (H.set L .dead)
      | some .ret => Q .ret fr (H.set L .dead)
      | some (.exit i) => Q (.exit i) fr (H.set L .dead)
      | _ => False
    | _ => False
  | .panic v, H => Q (.panic v) fr H

def AStages (E : Env) (n : Nat) (ops : Array Oper) (Q : AExit → AFr → AHeap → Prop) : List (Nat × Bool) → Nat → AFr → AHeap → Prop
  | [], _, fr, H => Q .normal fr H
  | (m, b) :: l, s, fr, H => match b with
    | true => AHead E n ops H.next (fun log fr' H' => logOk ops s log = true ∧ AStages E n ops Q l m fr' H') ((ops.toList.take m).drop s) s [] fr ⟨H.next + m, H.get⟩
    | false => AOps E n ops (AThen (AStages E n ops Q l m) Q) ((ops.toList.take m).drop s) fr H
/-- Every order that a region leaves open. -/
def dexts (ops : Array Oper) : Nat → Array Bool → List (List Nat)
  | 0, _ => [[]]
  | k + 1, listed => match Region.ready .any ops listed with
    | [] => [[]]
    | x :: l => (x :: l).flatMap fun i => (dexts ops k (listed.setIfInBounds i true)).map (i :: ·)
inductive Plan where
  | st (l : List (Nat × Bool))
  | all
def ADraw (E : Env) (n : Nat) (ops : Array Oper) (p : Plan) (Q : AExit → AFr → AHeap → Prop) (fr : AFr) (H : AHeap) : Prop :=
  match p with
  | .st l => planOk ops l = true ∧ AStages E n ops Q l 0 fr H
  | .all => ∀ l ∈ dexts ops ops.size (Array.replicate ops.size false), AOps E n ops Q (l.filterMap fun i => ops[i]?) fr H

def AWp (E : Env) (n : Nat) : Code → (AExit → AFr → AHeap → Prop) → AFr → AHeap → Prop
  | .skip, Q, fr, H => Q .normal fr H
  | .label _, Q, fr, H => Q .normal fr H
  | .ret, Q, fr, H => Q .ret fr H
  | .exit i, Q, fr, H => Q (.exit i) fr H
  | .goto l, Q, fr, H => Q (.goto l) fr H
  | .seq a b, Q, fr, H => AWp E n a (AThen (AWp E n b Q) Q) fr H
  | .cond c t e, Q, fr, H => match aeval E fr c with
    | .bool b => if b = true then AWp E n t Q fr H else AWp E n e Q fr H
    | _ => False
  | .block i c, Q, fr, H => AWp E n c (ABlock i Q) fr H
  | .loop c, Q, fr, H => ∃ (I : AFr → AHeap → Nat → Prop) (m : Nat), I fr H m ∧ ∀ m fr H, I fr H m → AWp E n c (AThen (fun fr' H' => ∃ m', m' < m ∧ I fr' H' m') Q) fr H
  | .region _ ops false, Q, fr, H => AOps E n ops Q ops.toList fr H
  | .region _ ops true, Q, fr, H => ∃ p, ADraw E n ops p Q fr H
  | .rangeFunc f ps x y, Q, fr, H => AInv E (aeval E fr f) [.yield H.next] (H.alloc (.loop ⟨n, fr, ps, x, y, .ready, none⟩)) (ARanged H.next Q fr)
  | .scope _, _, _, _ => False
  | .refuse _, _, _, _ => False
end Go.Zk
