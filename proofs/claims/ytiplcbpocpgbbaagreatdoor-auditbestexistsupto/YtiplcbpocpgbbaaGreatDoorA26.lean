/- AuditBestExists: what the call leaves, for every argument that fits. Conditions: bulk at most 1048576; the row's list is laid. -/
import Derived.Carry
import Derived.ProofKit
import Derived.Test.YtiplcbpocpgbbaaGreatDoorA22
import Derived.Test.YtiplcbpocpgbbaaGreatDoorA25
set_option linter.unusedSimpArgs false
set_option linter.unusedVariables false
set_option maxRecDepth 100000
namespace Go.Zk
open Go.Proofs Go.ChangeShapes Go.RowKit
open Go.Proofs.YtiplcbpocpgbbaaGreatDoor (Rows.uptoBulk Rows.uptoBulkAll)
section
variable {H : Type} {enc : TypeId × Value → H} {W : World}
/-- Nothing that was there before has turned; the arguments read as they did; nothing of theirs is frozen. -/
theorem post_kept {P : Program} {f : Func} {s : ChangeSpec} {apart fresh handsOn again : Bool} {W' : World} {args : Array Value} {v : Value} {ds gs : List (DataW H)} {before : List MemPlace}
    (hW : DataW.Whole enc P f.params.toList s.vars apart W args.toList ds gs before)
    (hres : ∀ (b : Nat) (sp : Nat → Bool) (hd : Bool), DataW.TrodAll enc P W' b sp hd f.resultTypes.toList (v.resultList f.resultTypes.size) (s.fn H (ds ++ gs)).results [])
    (hargs : ∀ sp : Nat → Bool, (∀ p ∈ before, sp p.block = true) → DataW.TrodAll enc P W' 0 sp true f.params.toList args.toList (s.fn H (ds ++ gs)).args before)
    (hvars : ∀ sp : Nat → Bool, DataW.TrodVars enc P W' sp s.vars (s.fn H (ds ++ gs)).vars []) (hb : Below W.heap.size W W')
    (hok : ∀ (j : Nat) (t : TypeId) (r : Value), f.resultTypes[j]? = some t → (v.resultList f.resultTypes.size)[j]? = some r → Value.okWide P W' .any 0 t r) :
    s.post enc P f apart fresh handsOn again W args v W' := by
  have hlt : ∀ p ∈ before, p.block < W.heap.size := fun p hp => by simpa using hW.lt p hp
  have hold : ∀ p ∈ before, (fun b => decide (b < W.heap.size)) p.block = true := fun p hp => by simpa using hlt p hp
  have hwh := trodAll_append (hargs _ fun _ _ => rfl) (hres 0 (fun _ => true) true)
  obtain ⟨_, _, _, _, _, hz, hn⟩ := id hW
  refine ⟨ds, gs, before, [], before, [], hW, hres _ _ _, hargs _ hold, hvars _, World.keptBut_mono (fun p hp => ⟨hp, ?_⟩) (hb.frame (· ∈ before)), fun _ => ⟨hok, _, _, _, ⟨_, _, hwh, hvars _, rfl, fun b off hp => ?_, fun ha => ?_⟩, fun p hp _ => ?_⟩⟩
  · exact .inr (.inl hp)
  · have hp' : MemPlace.cell b off ∈ before := by simpa using hp
    rw [hb.frozen (hlt _ hp')]
    exact hz b off hp'
  · simpa using hn ha
  · simpa using hp
/-- A struct argument. -/
theorem agg_arg {t : Nat} {fs : Array Field} {base : Nat} {v : Value} (hu : Tryz.prog.underlying t = some (.struct fs)) (h : Value.okWide Tryz.prog W .any base t v) : ∃ cs, v = .agg cs := by
  unfold Value.okWide at h
  rw [hu] at h
  obtain ⟨cs, h, _⟩ := h
  exact ⟨cs, h⟩
theorem agg_rel {cells : List AV} {cs : Array Value} (h : CR W cells cs.toList) : VRel (cW W) (.agg cells) (.agg cs) := by
  rw [VRel]
  exact ⟨cs, rfl, h.1, h.2⟩
theorem school_fit {s : SchoolD} {n : Nat} (h : schoolQ n s) (hn : n ≤ 1048576) : s.Fit ∧ s.Mid := by
  have h1 := h.slots; have h2 := h.rooms; have h3 := h.people; have h4 := h.groups; have h5 := h.lessons
  refine ⟨{ slots := ?_, rooms := ?_, people := ?_, groups := ?_, lessons := ?_, who := fun x hx => ?_, in_ := fun x hx => ?_, shut := fun x hx => ?_, away := fun x hx => ?_ }, ⟨by omega, by omega, by omega, by omega, by omega⟩⟩
  · unfold Big; omega
  · unfold Big; omega
  · unfold Big; omega
  · unfold Big; omega
  · unfold Big; omega
  · have := (h.who x hx).1; unfold Big; omega
  · have := (h.who x hx).2; unfold Big; omega
  · have : x.shut.length ≤ n := h.shut x hx; unfold Big; omega
  · have : x.away.length ≤ n := h.away x hx; unfold Big; omega
theorem form_fit {f : FormD} {n : Nat} (h : formQ n f) (hn : n ≤ 1048576) : f.Fit ∧ f.Mid := by
  obtain ⟨h1, h2⟩ := h
  refine ⟨⟨fun g hg => ?_, by unfold Big; omega⟩, fun g hg => ?_⟩
  · obtain ⟨p, q, r⟩ := h2 g hg; unfold Big; omega
  · obtain ⟨p, q, r⟩ := h2 g hg; omega
theorem rule_fit {r : RuleD} {n : Nat} (h : ruleQ n r) (hn : n ≤ 1048576) : r.Both := by
  obtain ⟨_, h1, h2⟩ := h
  obtain ⟨f1, f2⟩ := form_fit h2 hn
  exact ⟨⟨by unfold Big; omega, f1⟩, ⟨by omega, f2⟩⟩
theorem plan_fit {c : CaseD} {n : Nat} (h : planQ n c) (hn : n ≤ 1048576) : c.Fit ∧ c.school.Mid ∧ c.rules.length ≤ 1048576 ∧ ∀ r ∈ c.rules, r.Both := by
  obtain ⟨s1, s2⟩ := school_fit h.school hn
  have h2 := h.len
  have h4 := h.closed
  exact ⟨⟨s1, by omega, fun r hr => (rule_fit (h.rules r hr) hn).fit, by unfold Big; omega⟩, s2, by omega, fun r hr => rule_fit (h.rules r hr) hn⟩
abbrev spec := Go.Proofs.YtiplcbpocpgbbaaGreatDoor.Rows.auditBestExistsSpec
theorem laidOut : laidOutB Tryz.prog = true := by kernel_rfl
theorem contract (H : Type) (enc : TypeId × Value → H) (W : World) (base : Nat) (args : Array Value) (ds gs : List (DataW H)) (before : List MemPlace)
    (hval : ∀ (j : Nat) t v, Tryz.f4.params[j]? = some t → args[j]? = some v → Value.okWide Tryz.prog W .any base t v)
    (hW : DataW.Whole enc Tryz.prog Tryz.f4.params.toList spec.vars false W args.toList ds gs before) (hk : Rows.uptoBulkAll (ds ++ gs) ≤ 1048576) (hL : laidMetH Tryz.prog lst W) (hS : W.ShapedOpen Tryz.prog) :
    Calls Tryz.prog 4 args W fun e W' => ∃ v, e = .returned v ∧ spec.post enc Tryz.prog Tryz.f4 false true false false W args v W' := by
  have hW' := hW
  obtain ⟨p, q, hA0, hV, rfl, hfz, hnd⟩ := hW
  have hA : DataW.TrodAll enc Tryz.prog W 0 (fun _ => true) true Tryz.f4.params.toList args.toList ds p := hA0
  rw [Tryz.params4] at hA hval
  obtain ⟨v0, v1, d0, d1, p0, p1, rfl, rfl, rfl, h0, h1⟩ := trodAll_two hA
  obtain ⟨rfl, rfl⟩ := trodVars_none hV
  obtain ⟨cs0, rfl⟩ := agg_arg Tryz.underlying32 (hval 0 32 v0 rfl rfl)
  obtain ⟨cs1, rfl⟩ := agg_arg Tryz.underlying35 (hval 1 35 v1 rfl rfl)
  obtain ⟨n0, r0⟩ := id h0
  obtain ⟨n1, r1⟩ := id h1
  obtain ⟨c, g0, q0⟩ := rd_32 (N := n0) n0 (Nat.le_refl _) _ _ _ r0
  obtain ⟨old, g1, q1⟩ := rd_35 (N := n1) n1 (Nat.le_refl _) _ _ _ r1
  simp only [List.append_nil, Rows.uptoBulkAll] at hk
  obtain ⟨f1, f2, f3, f4⟩ := plan_fit q0 (by omega)
  have f5 : old.length ≤ 1048576 := Nat.le_trans q1 (by omega)
  obtain ⟨m, hG⟩ := laid_all hL hS
  have law := law_4 (E := envM m) c old (live_true m) f1 f2 f3 f4 f5
  have hv : VsRel ⟨stay W, fun _ => none, W.heap⟩ [c.av, weekAV old] [.agg cs0, .agg cs1] := VsRel.cons (agg_rel g0) (VsRel.cons (agg_rel g1) VsRel.nil)
  have run := law.go (stay W) W [.agg cs0, .agg cs1] (fun b hb => hb.1) (fun b ds hb => hb.2 ds) hG hv
  refine run.mono fun e W' ⟨v, I', he, hev, _, _, _, _, hr⟩ => ?_
  subst he
  rw [VRel] at hr
  subst hr
  refine ⟨_, rfl, ?_⟩
  simp only [List.append_nil] at hW'
  have hlt : ∀ x ∈ p0 ++ p1, x.block < W.heap.size := fun x hx => by simpa using hW'.lt x hx
  refine post_kept hW' (fun b sp hd => trodAll_mk1 (shut_bool Tryz.underlying4 true)) (fun sp hsp => ?_) (fun sp => rfl) hev.below (ok_one (by kernel_rfl) rfl (okWide_bool_mk Tryz.underlying4 true))
  refine trodAll_mk2 (WideElems.Trod_stays laidOut (by kernel_rfl) (of_decide_eq_true (by kernel_rfl)) h0 (fun x hx => hev.below.same (hlt x (by simp [hx]))) fun x hx => hsp x (by simp [hx])) (WideElems.Trod_stays laidOut (by kernel_rfl) (of_decide_eq_true (by kernel_rfl)) h1 (fun x hx => hev.below.same (hlt x (by simp [hx]))) fun x hx => hsp x (by simp [hx]))
end
end Go.Zk
