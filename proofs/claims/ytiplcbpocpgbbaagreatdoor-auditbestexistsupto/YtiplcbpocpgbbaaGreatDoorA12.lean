/- Contracts: slices.IndexFunc, slices.ContainsFunc at the program's types. Conditions: none. Contracts: package school, the closures of Check; names. Conditions: none. More reading rules: texts, slices that are made. Conditions: none. Two contracts of Go's library at this program: strings.Contains, strconv.Itoa of small numbers. Conditions: their own. Contracts: strings, names. Conditions: the length variable of bytealg is laid. Functions that yield: a rule for ranges over them. Conditions: none. Contracts: iterators of package school. Conditions: none. -/
import Derived.Ground.Names2Prog
import Derived.Ground.SlgnProg
import Derived.Lib.QuoteLoop
import Derived.Shelf.LaysM
import Derived.Shelf.Slices.Cells
import Derived.Shelf.Slices.Clone
import Derived.Shelf.Slices.CompactI
import Derived.Shelf.Slices.Delete
import Derived.Shelf.Slices.Empties
import Derived.Shelf.Slices.Reverse
import Derived.Shelf.Slices.SearchI
import Derived.Shelf.SlicesE.Clone
import Derived.Shelf.Small.Bits
import Derived.Shelf.Small.Strs
import Derived.Shelf.Small.Utf8
import Derived.Shelf.Strconv.Itoa0
import Derived.Shelf.Strconv.Itoa1
import Derived.Shelf.Strconv.Itoa2
import Derived.Shelf.Strconv.Itoa3
import Derived.Shelf.Strings.AsciiSet
import Derived.Shelf.Strings.Runes
import Derived.Shelf.Strings.Search1
import Derived.Shelf.Strings.Search2
import Derived.Shelf.Strings.Search3
import Derived.Shelf.Strings.Shaped
import Derived.Shelf.Unicode.Decode
import Derived.Shelf.Unicode.DecodeAny
import Derived.Shelf.Unicode.DecodeLast
import Derived.Shelf.Unicode.DecodeSlow
import Derived.Test.YtiplcbpocpgbbaaGreatDoorA09
import Derived.Test.YtiplcbpocpgbbaaGreatDoorA11
import Derived.Test.YtiplcbpocpgbbaaGreatDoorProg
set_option linter.unusedSectionVars false
set_option linter.unusedSimpArgs false
set_option linter.unusedVariables false
set_option maxRecDepth 10000
namespace Go.Zk
open Go.Proofs
variable {E : Env} [h : Is E]
theorem index_112 {g : PersonD → Bool} {k : FuncId} {a b : List AV} (hp : (AV.purs a && AV.purs b) = true) (l : List PersonD) (hl : Big l.length) (hg : ∀ x ∈ l, PF E k (a ++ [.agg (personE.enc x)] ++ b) (.bool (g x))) :
    PF E 112 [personE.sl l, .func k a b] (I (ixOf (l.findIdx? g))) := by
  unfold Big at hl
  simp only [Bool.and_eq_true] at hp
  refine pf_of_body mixed fn_112 (by simp) ?_
  unfold Tryz.f112 ABody
  simp [Enc.sl]
  refine wp_loop (fun fr H m => ∃ i : Nat, fr 0 = personE.sl l ∧ fr 1 = .func k a b ∧ fr 7 = I l.length ∧ fr 8 = I i ∧ i + m = l.length ∧ H = .nil ∧ ∀ j (h : j < i) (h2 : j < l.length), g l[j] = false) l.length ?_ ?_
  · exact ⟨0, by simp [Enc.sl]⟩
  rintro m fr H ⟨i, h0, h1, h7, h8, hm, rfl, hx⟩
  by_cases hi : i < l.length
  · simp [h0, h1, h7, h8, hi, Enc.sl]
    rw [show apart true 2 (i * 2) (personE.cells l) = some (.agg (personE.enc l[i])) from personE.part hi]
    simp
    refine rc_pure (hg l[i] (List.getElem_mem hi)) (by simp [purs_append, hp, AV.purs, AV.pur, personE]) ?_
    by_cases hgi : g l[i] = true
    · simp [h0, h1, h7, h8, hi, hgi]
      rw [findIdx_at hi hgi fun j h => hx j h (by omega)]
      exact ⟨0, Pur.self rfl⟩
    · simp [h0, h1, h7, h8, hi, hgi]
      refine ⟨m - 1, by omega, rfl, i + 1, wrap_of (by omega) (by omega), by omega, fun j h1 h2 => ?_⟩
      by_cases e : j = i
      · subst e; simpa using hgi
      · exact hx j (by omega) h2
  · simp [h0, h1, h7, h8, hi, Enc.sl]
    rw [findIdx_no fun j h => hx j (by omega) h]
    exact ⟨0, Pur.self rfl⟩
theorem contains_65 {g : PersonD → Bool} {k : FuncId} {a b : List AV} (hp : (AV.purs a && AV.purs b) = true) (l : List PersonD) (hl : Big l.length) (hg : ∀ x ∈ l, PF E k (a ++ [.agg (personE.enc x)] ++ b) (.bool (g x))) :
    PF E 65 [personE.sl l, .func k a b] (.bool (l.any g)) := by
  refine pf_of_body mixed fn_65 (by simp) ?_
  unfold Tryz.f65 ABody
  simp
  refine rc_pure (index_112 hp l hl hg) (by simp only [Bool.and_eq_true] at hp; simp [AV.purs, AV.pur, hp]) ?_
  simp
  rw [← ixOf_any]
  exact ⟨0, Pur.self rfl⟩
theorem index_113 {g : GroupD → Bool} {k : FuncId} {a b : List AV} (hp : (AV.purs a && AV.purs b) = true) (l : List GroupD) (hl : Big l.length) (hg : ∀ x ∈ l, PF E k (a ++ [.agg (groupE.enc x)] ++ b) (.bool (g x))) :
    PF E 113 [groupE.sl l, .func k a b] (I (ixOf (l.findIdx? g))) := by
  unfold Big at hl
  simp only [Bool.and_eq_true] at hp
  refine pf_of_body mixed fn_113 (by simp) ?_
  unfold Tryz.f113 ABody
  simp [Enc.sl]
  refine wp_loop (fun fr H m => ∃ i : Nat, fr 0 = groupE.sl l ∧ fr 1 = .func k a b ∧ fr 7 = I l.length ∧ fr 8 = I i ∧ i + m = l.length ∧ H = .nil ∧ ∀ j (h : j < i) (h2 : j < l.length), g l[j] = false) l.length ?_ ?_
  · exact ⟨0, by simp [Enc.sl]⟩
  rintro m fr H ⟨i, h0, h1, h7, h8, hm, rfl, hx⟩
  by_cases hi : i < l.length
  · simp [h0, h1, h7, h8, hi, Enc.sl]
    rw [show apart true 2 (i * 2) (groupE.cells l) = some (.agg (groupE.enc l[i])) from groupE.part hi]
    simp
    refine rc_pure (hg l[i] (List.getElem_mem hi)) (by simp [purs_append, hp, AV.purs, AV.pur, groupE]) ?_
    by_cases hgi : g l[i] = true
    · simp [h0, h1, h7, h8, hi, hgi]
      rw [findIdx_at hi hgi fun j h => hx j h (by omega)]
      exact ⟨0, Pur.self rfl⟩
    · simp [h0, h1, h7, h8, hi, hgi]
      refine ⟨m - 1, by omega, rfl, i + 1, wrap_of (by omega) (by omega), by omega, fun j h1 h2 => ?_⟩
      by_cases e : j = i
      · subst e; simpa using hgi
      · exact hx j (by omega) h2
  · simp [h0, h1, h7, h8, hi, Enc.sl]
    rw [findIdx_no fun j h => hx j (by omega) h]
    exact ⟨0, Pur.self rfl⟩
theorem contains_66 {g : GroupD → Bool} {k : FuncId} {a b : List AV} (hp : (AV.purs a && AV.purs b) = true) (l : List GroupD) (hl : Big l.length) (hg : ∀ x ∈ l, PF E k (a ++ [.agg (groupE.enc x)] ++ b) (.bool (g x))) :
    PF E 66 [groupE.sl l, .func k a b] (.bool (l.any g)) := by
  refine pf_of_body mixed fn_66 (by simp) ?_
  unfold Tryz.f66 ABody
  simp
  refine rc_pure (index_113 hp l hl hg) (by simp only [Bool.and_eq_true] at hp; simp [AV.purs, AV.pur, hp]) ?_
  simp
  rw [← ixOf_any]
  exact ⟨0, Pur.self rfl⟩
theorem index_114 {g : LessonD → Bool} {k : FuncId} {a b : List AV} (hp : (AV.purs a && AV.purs b) = true) (l : List LessonD) (hl : Big l.length) (hg : ∀ x ∈ l, PF E k (a ++ [.agg (lessonE.enc x)] ++ b) (.bool (g x))) :
    PF E 114 [lessonE.sl l, .func k a b] (I (ixOf (l.findIdx? g))) := by
  unfold Big at hl
  simp only [Bool.and_eq_true] at hp
  refine pf_of_body mixed fn_114 (by simp) ?_
  unfold Tryz.f114 ABody
  simp [Enc.sl]
  refine wp_loop (fun fr H m => ∃ i : Nat, fr 0 = lessonE.sl l ∧ fr 1 = .func k a b ∧ fr 7 = I l.length ∧ fr 8 = I i ∧ i + m = l.length ∧ H = .nil ∧ ∀ j (h : j < i) (h2 : j < l.length), g l[j] = false) l.length ?_ ?_
  · exact ⟨0, by simp [Enc.sl]⟩
  rintro m fr H ⟨i, h0, h1, h7, h8, hm, rfl, hx⟩
  by_cases hi : i < l.length
  · simp [h0, h1, h7, h8, hi, Enc.sl]
    rw [show apart true 3 (i * 3) (lessonE.cells l) = some (.agg (lessonE.enc l[i])) from lessonE.part hi]
    simp
    refine rc_pure (hg l[i] (List.getElem_mem hi)) (by simp [purs_append, hp, AV.purs, AV.pur, lessonE]) ?_
    by_cases hgi : g l[i] = true
    · simp [h0, h1, h7, h8, hi, hgi]
      rw [findIdx_at hi hgi fun j h => hx j h (by omega)]
      exact ⟨0, Pur.self rfl⟩
    · simp [h0, h1, h7, h8, hi, hgi]
      refine ⟨m - 1, by omega, rfl, i + 1, wrap_of (by omega) (by omega), by omega, fun j h1 h2 => ?_⟩
      by_cases e : j = i
      · subst e; simpa using hgi
      · exact hx j (by omega) h2
  · simp [h0, h1, h7, h8, hi, Enc.sl]
    rw [findIdx_no fun j h => hx j (by omega) h]
    exact ⟨0, Pur.self rfl⟩
theorem contains_67 {g : LessonD → Bool} {k : FuncId} {a b : List AV} (hp : (AV.purs a && AV.purs b) = true) (l : List LessonD) (hl : Big l.length) (hg : ∀ x ∈ l, PF E k (a ++ [.agg (lessonE.enc x)] ++ b) (.bool (g x))) :
    PF E 67 [lessonE.sl l, .func k a b] (.bool (l.any g)) := by
  refine pf_of_body mixed fn_67 (by simp) ?_
  unfold Tryz.f67 ABody
  simp
  refine rc_pure (index_114 hp l hl hg) (by simp only [Bool.and_eq_true] at hp; simp [AV.purs, AV.pur, hp]) ?_
  simp
  rw [← ixOf_any]
  exact ⟨0, Pur.self rfl⟩
theorem index_167 {g : PlaceD → Bool} {k : FuncId} {a b : List AV} (hp : (AV.purs a && AV.purs b) = true) (l : List PlaceD) (hl : Big l.length) (hg : ∀ x ∈ l, PF E k (a ++ [.agg (placeE.enc x)] ++ b) (.bool (g x))) :
    PF E 167 [placeE.sl l, .func k a b] (I (ixOf (l.findIdx? g))) := by
  unfold Big at hl
  simp only [Bool.and_eq_true] at hp
  refine pf_of_body mixed fn_167 (by simp) ?_
  unfold Tryz.f167 ABody
  simp [Enc.sl]
  refine wp_loop (fun fr H m => ∃ i : Nat, fr 0 = placeE.sl l ∧ fr 1 = .func k a b ∧ fr 7 = I l.length ∧ fr 8 = I i ∧ i + m = l.length ∧ H = .nil ∧ ∀ j (h : j < i) (h2 : j < l.length), g l[j] = false) l.length ?_ ?_
  · exact ⟨0, by simp [Enc.sl]⟩
  rintro m fr H ⟨i, h0, h1, h7, h8, hm, rfl, hx⟩
  by_cases hi : i < l.length
  · simp [h0, h1, h7, h8, hi, Enc.sl]
    rw [show apart true 2 (i * 2) (placeE.cells l) = some (.agg (placeE.enc l[i])) from placeE.part hi]
    simp
    refine rc_pure (hg l[i] (List.getElem_mem hi)) (by simp [purs_append, hp, AV.purs, AV.pur, placeE]) ?_
    by_cases hgi : g l[i] = true
    · simp [h0, h1, h7, h8, hi, hgi]
      rw [findIdx_at hi hgi fun j h => hx j h (by omega)]
      exact ⟨0, Pur.self rfl⟩
    · simp [h0, h1, h7, h8, hi, hgi]
      refine ⟨m - 1, by omega, rfl, i + 1, wrap_of (by omega) (by omega), by omega, fun j h1 h2 => ?_⟩
      by_cases e : j = i
      · subst e; simpa using hgi
      · exact hx j (by omega) h2
  · simp [h0, h1, h7, h8, hi, Enc.sl]
    rw [findIdx_no fun j h => hx j (by omega) h]
    exact ⟨0, Pur.self rfl⟩
theorem contains_132 {g : PlaceD → Bool} {k : FuncId} {a b : List AV} (hp : (AV.purs a && AV.purs b) = true) (l : List PlaceD) (hl : Big l.length) (hg : ∀ x ∈ l, PF E k (a ++ [.agg (placeE.enc x)] ++ b) (.bool (g x))) :
    PF E 132 [placeE.sl l, .func k a b] (.bool (l.any g)) := by
  refine pf_of_body mixed fn_132 (by simp) ?_
  unfold Tryz.f132 ABody
  simp
  refine rc_pure (index_167 hp l hl hg) (by simp only [Bool.and_eq_true] at hp; simp [AV.purs, AV.pur, hp]) ?_
  simp
  rw [← ixOf_any]
  exact ⟨0, Pur.self rfl⟩
theorem index_188 {g : BindD → Bool} {k : FuncId} {a b : List AV} (hp : (AV.purs a && AV.purs b) = true) (l : List BindD) (hl : Big l.length) (hg : ∀ x ∈ l, PF E k (a ++ [.agg (bindE.enc x)] ++ b) (.bool (g x))) :
    PF E 188 [bindE.sl l, .func k a b] (I (ixOf (l.findIdx? g))) := by
  unfold Big at hl
  simp only [Bool.and_eq_true] at hp
  refine pf_of_body mixed fn_188 (by simp) ?_
  unfold Tryz.f188 ABody
  simp [Enc.sl]
  refine wp_loop (fun fr H m => ∃ i : Nat, fr 0 = bindE.sl l ∧ fr 1 = .func k a b ∧ fr 7 = I l.length ∧ fr 8 = I i ∧ i + m = l.length ∧ H = .nil ∧ ∀ j (h : j < i) (h2 : j < l.length), g l[j] = false) l.length ?_ ?_
  · exact ⟨0, by simp [Enc.sl]⟩
  rintro m fr H ⟨i, h0, h1, h7, h8, hm, rfl, hx⟩
  by_cases hi : i < l.length
  · simp [h0, h1, h7, h8, hi, Enc.sl]
    rw [show apart true 2 (i * 2) (bindE.cells l) = some (.agg (bindE.enc l[i])) from bindE.part hi]
    simp
    refine rc_pure (hg l[i] (List.getElem_mem hi)) (by simp [purs_append, hp, AV.purs, AV.pur, bindE]) ?_
    by_cases hgi : g l[i] = true
    · simp [h0, h1, h7, h8, hi, hgi]
      rw [findIdx_at hi hgi fun j h => hx j h (by omega)]
      exact ⟨0, Pur.self rfl⟩
    · simp [h0, h1, h7, h8, hi, hgi]
      refine ⟨m - 1, by omega, rfl, i + 1, wrap_of (by omega) (by omega), by omega, fun j h1 h2 => ?_⟩
      by_cases e : j = i
      · subst e; simpa using hgi
      · exact hx j (by omega) h2
  · simp [h0, h1, h7, h8, hi, Enc.sl]
    rw [findIdx_no fun j h => hx j (by omega) h]
    exact ⟨0, Pur.self rfl⟩
theorem contains_152 {g : BindD → Bool} {k : FuncId} {a b : List AV} (hp : (AV.purs a && AV.purs b) = true) (l : List BindD) (hl : Big l.length) (hg : ∀ x ∈ l, PF E k (a ++ [.agg (bindE.enc x)] ++ b) (.bool (g x))) :
    PF E 152 [bindE.sl l, .func k a b] (.bool (l.any g)) := by
  refine pf_of_body mixed fn_152 (by simp) ?_
  unfold Tryz.f152 ABody
  simp
  refine rc_pure (index_188 hp l hl hg) (by simp only [Bool.and_eq_true] at hp; simp [AV.purs, AV.pur, hp]) ?_
  simp
  rw [← ixOf_any]
  exact ⟨0, Pur.self rfl⟩
theorem index_168 {g : EnvD → Bool} {k : FuncId} {a b : List AV} (hp : (AV.purs a && AV.purs b) = true) (l : List EnvD) (hl : Big l.length) (hg : ∀ x ∈ l, PF E k (a ++ [.agg (envE.enc x)] ++ b) (.bool (g x))) :
    PF E 168 [envE.sl l, .func k a b] (I (ixOf (l.findIdx? g))) := by
  unfold Big at hl
  simp only [Bool.and_eq_true] at hp
  refine pf_of_body mixed fn_168 (by simp) ?_
  unfold Tryz.f168 ABody
  simp [Enc.sl]
  refine wp_loop (fun fr H m => ∃ i : Nat, fr 0 = envE.sl l ∧ fr 1 = .func k a b ∧ fr 7 = I l.length ∧ fr 8 = I i ∧ i + m = l.length ∧ H = .nil ∧ ∀ j (h : j < i) (h2 : j < l.length), g l[j] = false) l.length ?_ ?_
  · exact ⟨0, by simp [Enc.sl]⟩
  rintro m fr H ⟨i, h0, h1, h7, h8, hm, rfl, hx⟩
  by_cases hi : i < l.length
  · simp [h0, h1, h7, h8, hi, Enc.sl]
    rw [show apart true 3 (i * 3) (envE.cells l) = some (.agg (envE.enc l[i])) from envE.part hi]
    simp
    refine rc_pure (hg l[i] (List.getElem_mem hi)) (by simp [purs_append, hp, AV.purs, AV.pur, envE]) ?_
    by_cases hgi : g l[i] = true
    · simp [h0, h1, h7, h8, hi, hgi]
      rw [findIdx_at hi hgi fun j h => hx j h (by omega)]
      exact ⟨0, Pur.self rfl⟩
    · simp [h0, h1, h7, h8, hi, hgi]
      refine ⟨m - 1, by omega, rfl, i + 1, wrap_of (by omega) (by omega), by omega, fun j h1 h2 => ?_⟩
      by_cases e : j = i
      · subst e; simpa using hgi
      · exact hx j (by omega) h2
  · simp [h0, h1, h7, h8, hi, Enc.sl]
    rw [findIdx_no fun j h => hx j (by omega) h]
    exact ⟨0, Pur.self rfl⟩
theorem contains_160 {g : EnvD → Bool} {k : FuncId} {a b : List AV} (hp : (AV.purs a && AV.purs b) = true) (l : List EnvD) (hl : Big l.length) (hg : ∀ x ∈ l, PF E k (a ++ [.agg (envE.enc x)] ++ b) (.bool (g x))) :
    PF E 160 [envE.sl l, .func k a b] (.bool (l.any g)) := by
  refine pf_of_body mixed fn_160 (by simp) ?_
  unfold Tryz.f160 ABody
  simp
  refine rc_pure (index_168 hp l hl hg) (by simp only [Bool.and_eq_true] at hp; simp [AV.purs, AV.pur, hp]) ?_
  simp
  rw [← ixOf_any]
  exact ⟨0, Pur.self rfl⟩
theorem index_250 {g : TermD → Bool} {k : FuncId} {a b : List AV} (hp : (AV.purs a && AV.purs b) = true) (l : List TermD) (hl : Big l.length) (hg : ∀ x ∈ l, PF E k (a ++ [.agg (termE.enc x)] ++ b) (.bool (g x))) :
    PF E 250 [termE.sl l, .func k a b] (I (ixOf (l.findIdx? g))) := by
  unfold Big at hl
  simp only [Bool.and_eq_true] at hp
  refine pf_of_body mixed fn_250 (by simp) ?_
  unfold Tryz.f250 ABody
  simp [Enc.sl]
  refine wp_loop (fun fr H m => ∃ i : Nat, fr 0 = termE.sl l ∧ fr 1 = .func k a b ∧ fr 7 = I l.length ∧ fr 8 = I i ∧ i + m = l.length ∧ H = .nil ∧ ∀ j (h : j < i) (h2 : j < l.length), g l[j] = false) l.length ?_ ?_
  · exact ⟨0, by simp [Enc.sl]⟩
  rintro m fr H ⟨i, h0, h1, h7, h8, hm, rfl, hx⟩
  by_cases hi : i < l.length
  · simp [h0, h1, h7, h8, hi, Enc.sl]
    rw [show apart true 3 (i * 3) (termE.cells l) = some (.agg (termE.enc l[i])) from termE.part hi]
    simp
    refine rc_pure (hg l[i] (List.getElem_mem hi)) (by simp [purs_append, hp, AV.purs, AV.pur, termE]) ?_
    by_cases hgi : g l[i] = true
    · simp [h0, h1, h7, h8, hi, hgi]
      rw [findIdx_at hi hgi fun j h => hx j h (by omega)]
      exact ⟨0, Pur.self rfl⟩
    · simp [h0, h1, h7, h8, hi, hgi]
      refine ⟨m - 1, by omega, rfl, i + 1, wrap_of (by omega) (by omega), by omega, fun j h1 h2 => ?_⟩
      by_cases e : j = i
      · subst e; simpa using hgi
      · exact hx j (by omega) h2
  · simp [h0, h1, h7, h8, hi, Enc.sl]
    rw [findIdx_no fun j h => hx j (by omega) h]
    exact ⟨0, Pur.self rfl⟩
theorem contains_223 {g : TermD → Bool} {k : FuncId} {a b : List AV} (hp : (AV.purs a && AV.purs b) = true) (l : List TermD) (hl : Big l.length) (hg : ∀ x ∈ l, PF E k (a ++ [.agg (termE.enc x)] ++ b) (.bool (g x))) :
    PF E 223 [termE.sl l, .func k a b] (.bool (l.any g)) := by
  refine pf_of_body mixed fn_223 (by simp) ?_
  unfold Tryz.f223 ABody
  simp
  refine rc_pure (index_250 hp l hl hg) (by simp only [Bool.and_eq_true] at hp; simp [AV.purs, AV.pur, hp]) ?_
  simp
  rw [← ixOf_any]
  exact ⟨0, Pur.self rfl⟩
theorem index_227 {g : BindD → Bool} {k : FuncId} {a b : List AV} (hp : (AV.purs a && AV.purs b) = true) (l : List BindD) (hl : Big l.length) (hg : ∀ x ∈ l, PF E k (a ++ [.agg (bindE.enc x)] ++ b) (.bool (g x))) :
    PF E 227 [bindE.sl l, .func k a b] (I (ixOf (l.findIdx? g))) := by
  unfold Big at hl
  simp only [Bool.and_eq_true] at hp
  refine pf_of_body mixed fn_227 (by simp) ?_
  unfold Tryz.f227 ABody
  simp [Enc.sl]
  refine wp_loop (fun fr H m => ∃ i : Nat, fr 0 = bindE.sl l ∧ fr 1 = .func k a b ∧ fr 7 = I l.length ∧ fr 8 = I i ∧ i + m = l.length ∧ H = .nil ∧ ∀ j (h : j < i) (h2 : j < l.length), g l[j] = false) l.length ?_ ?_
  · exact ⟨0, by simp [Enc.sl]⟩
  rintro m fr H ⟨i, h0, h1, h7, h8, hm, rfl, hx⟩
  by_cases hi : i < l.length
  · simp [h0, h1, h7, h8, hi, Enc.sl]
    rw [show apart true 2 (i * 2) (bindE.cells l) = some (.agg (bindE.enc l[i])) from bindE.part hi]
    simp
    refine rc_pure (hg l[i] (List.getElem_mem hi)) (by simp [purs_append, hp, AV.purs, AV.pur, bindE]) ?_
    by_cases hgi : g l[i] = true
    · simp [h0, h1, h7, h8, hi, hgi]
      rw [findIdx_at hi hgi fun j h => hx j h (by omega)]
      exact ⟨0, Pur.self rfl⟩
    · simp [h0, h1, h7, h8, hi, hgi]
      refine ⟨m - 1, by omega, rfl, i + 1, wrap_of (by omega) (by omega), by omega, fun j h1 h2 => ?_⟩
      by_cases e : j = i
      · subst e; simpa using hgi
      · exact hx j (by omega) h2
  · simp [h0, h1, h7, h8, hi, Enc.sl]
    rw [findIdx_no fun j h => hx j (by omega) h]
    exact ⟨0, Pur.self rfl⟩
theorem index_71 {g : Int → Bool} {k : FuncId} {a b : List AV} (hp : (AV.purs a && AV.purs b) = true) (l : List Int) (hl : Big l.length) (hg : ∀ x ∈ l, PF E k (a ++ [I x] ++ b) (.bool (g x))) :
    PF E 71 [isl l, .func k a b] (I (ixOf (l.findIdx? g))) := by
  unfold Big at hl
  simp only [Bool.and_eq_true] at hp
  refine pf_of_body mixed fn_71 (by simp) ?_
  unfold Tryz.f71 ABody
  simp [isl]
  refine wp_loop (fun fr H m => ∃ i : Nat, fr 0 = isl l ∧ fr 1 = .func k a b ∧ fr 7 = I l.length ∧ fr 8 = I i ∧ i + m = l.length ∧ H = .nil ∧ ∀ j (h : j < i) (h2 : j < l.length), g l[j] = false) l.length ?_ ?_
  · exact ⟨0, by simp [isl]⟩
  rintro m fr H ⟨i, h0, h1, h7, h8, hm, rfl, hx⟩
  by_cases hi : i < l.length
  · simp [h0, h1, h7, h8, hi, isl]
    refine rc_pure (hg l[i] (List.getElem_mem hi)) (by simp [purs_append, hp, AV.purs, AV.pur]) ?_
    by_cases hgi : g l[i] = true
    · simp [h0, h1, h7, h8, hi, hgi]
      rw [findIdx_at hi hgi fun j h => hx j h (by omega)]
      exact ⟨0, Pur.self rfl⟩
    · simp [h0, h1, h7, h8, hi, hgi]
      refine ⟨m - 1, by omega, rfl, i + 1, wrap_of (by omega) (by omega), by omega, fun j h1 h2 => ?_⟩
      by_cases e : j = i
      · subst e; simpa using hgi
      · exact hx j (by omega) h2
  · simp [h0, h1, h7, h8, hi, isl]
    rw [findIdx_no fun j h => hx j (by omega) h]
    exact ⟨0, Pur.self rfl⟩
theorem contains_32 {g : Int → Bool} {k : FuncId} {a b : List AV} (hp : (AV.purs a && AV.purs b) = true) (l : List Int) (hl : Big l.length) (hg : ∀ x ∈ l, PF E k (a ++ [I x] ++ b) (.bool (g x))) :
    PF E 32 [isl l, .func k a b] (.bool (l.any g)) := by
  refine pf_of_body mixed fn_32 (by simp) ?_
  unfold Tryz.f32 ABody
  simp
  refine rc_pure (index_71 hp l hl hg) (by simp only [Bool.and_eq_true] at hp; simp [AV.purs, AV.pur, hp]) ?_
  simp
  rw [← ixOf_any]
  exact ⟨0, Pur.self rfl⟩
end Go.Zk
namespace Go.Zk
open Go.Proofs
variable {E : Env} [h : Is E]
def oddRoom (n : Int) (x : RoomD) : Bool := !inR x.house 7 || (!inR x.seats 1000 || !rising (-1) n x.shut)
theorem odd_room (n : Int) (x : RoomD) (hb : Big x.shut.length) : PF E 59 [.agg (roomE.enc x), .rptr [I n] 0] (.bool (oddRoom n x)) := by
  refine pf_of_body mixed fn_59 (by simp) ?_
  unfold Tryz.f59 ABody
  simp [roomE]
  refine rc_pure (within _ _) rfl ?_
  unfold oddRoom
  by_cases h1 : inR x.house 7 = true
  · simp [h1]
    refine rc_pure (within _ _) rfl ?_
    by_cases h2 : inR x.seats 1000 = true
    · simp [h2]
      refine rc_pure (places _ _ hb) rfl ?_
      simp
      exact ⟨0, Pur.self rfl⟩
    · simp [h2]
      exact ⟨0, Pur.self rfl⟩
  · simp [h1]
    exact ⟨0, Pur.self rfl⟩
def oddPerson (n : Int) (x : PersonD) : Bool := !rising (-1) n x.away
theorem odd_person (n : Int) (x : PersonD) (hb : Big x.away.length) : PF E 61 [.agg (personE.enc x), .rptr [I n] 0] (.bool (oddPerson n x)) := by
  refine pf_of_body mixed fn_61 (by simp) ?_
  unfold Tryz.f61 ABody
  simp [personE]
  refine rc_pure (places _ _ hb) rfl ?_
  simp [oddPerson]
  exact ⟨0, Pur.self rfl⟩
def oddGroup (x : GroupD) : Bool := !inR x.size 1000
theorem odd_group (x : GroupD) : PF E 62 [.agg (groupE.enc x)] (.bool (oddGroup x)) := by
  refine pf_of_body mixed fn_62 (by simp) ?_
  unfold Tryz.f62 ABody
  simp [groupE]
  refine rc_pure (within _ _) rfl ?_
  simp [oddGroup]
  exact ⟨0, Pur.self rfl⟩
def oddLesson (n m : Int) (x : LessonD) : Bool := !rising (-1) n x.who || !rising (-1) m x.groups
theorem odd_lesson (n m : Int) (x : LessonD) (hb : Big x.who.length) (hc : Big x.groups.length) : PF E 63 [.agg (lessonE.enc x), .rptr [I n] 0, .rptr [I m] 0] (.bool (oddLesson n m x)) := by
  refine pf_of_body mixed fn_63 (by simp) ?_
  unfold Tryz.f63 ABody
  simp [lessonE]
  refine rc_pure (places _ _ hb) rfl ?_
  unfold oddLesson
  by_cases h1 : rising (-1) n x.who = true
  · simp [h1]
    refine rc_pure (places _ _ hc) rfl ?_
    simp
    exact ⟨0, Pur.self rfl⟩
  · simp [h1]
    exact ⟨0, Pur.self rfl⟩
end Go.Zk
namespace Go.Zk
section
variable {P : Program} {t : TypeId} {k : IntKind} {a b : Int} {H : AHeap} {E : Env}
def newR : AV → Option ((Nat → AV) × ABlk)
  | .str s => some (fun id => .ptr id 0, .sit s 0)
  | _ => none
@[simp] theorem newR_str {s : List UInt8} : newR (.str s) = some (fun id => .ptr id 0, .sit s 0) := rfl
@[simp] theorem new_range {ρ : Operand → AV} {x : Operand} : anew E (.range t x) ρ = if asl.tsl E.P t = 1 then newR (ρ x) else none := by
  simp only [anew]; split
  · cases ρ x <;> rfl
  · rfl
def runeOf (s : List UInt8) (pos : Nat) (c : UInt8) : Int := if c.toNat < 128 then c.toNat else (Utf8.decode ⟨s.toArray⟩ pos).1
def stepOf (s : List UInt8) (pos : Nat) (c : UInt8) : Nat := if c.toNat < 128 then 1 else (Utf8.decode ⟨s.toArray⟩ pos).2
def nextC (s : List UInt8) (pos id : Nat) (H : AHeap) : Option UInt8 → Option (AV × AHeap)
  | some c => some (.tuple [.bool true, .int .i64 pos, .int .i32 (runeOf s pos c)], H.set id (.sit s (pos + stepOf s pos c)))
  | none => if pos = s.length then some (.tuple [.bool false], H) else none
def nextS (id : Nat) (H : AHeap) : ABlk → Option (AV × AHeap)
  | .sit s pos => nextC s pos id H s[pos]?
  | _ => none
@[simp] theorem next_ptr {id : Nat} : anext H (.ptr id 0) = nextS id H (H.get id) := by
  unfold anext nextS
  simp only
  cases H.get id with
  | sit s pos =>
    simp only
    cases s[pos]? with
    | none => rfl
    | some c =>
      simp only [nextC, runeOf, stepOf]
      split <;> rfl
  | _ => rfl
@[simp] theorem nextS_sit {id pos : Nat} {s : List UInt8} : nextS id H (.sit s pos) = nextC s pos id H s[pos]? := rfl
@[simp] theorem nextC_some {id pos : Nat} {s : List UInt8} {c : UInt8} : nextC s pos id H (some c) = some (.tuple [.bool true, .int .i64 pos, .int .i32 (runeOf s pos c)], H.set id (.sit s (pos + stepOf s pos c))) := rfl
@[simp] theorem nextC_none {id pos : Nat} {s : List UInt8} : nextC s pos id H none = if pos = s.length then some (.tuple [.bool false], H) else none := rfl
theorem step_pos {s : List UInt8} {pos : Nat} {c : UInt8} (h : s[pos]? = some c) : 1 ≤ stepOf s pos c ∧ pos + stepOf s pos c ≤ s.length := by
  have hl : pos < s.length := (List.getElem?_eq_some_iff.1 h).1
  unfold stepOf
  split
  · omega
  · refine ⟨Go.Lib.width_pos _ _, ?_⟩
    have := Go.Lib.decodeN_width_le ((⟨s.toArray⟩ : ByteArray).size - pos) ((⟨s.toArray⟩ : ByteArray).get! pos).toNat ((⟨s.toArray⟩ : ByteArray).get! (pos + 1)).toNat ((⟨s.toArray⟩ : ByteArray).get! (pos + 2)).toNat ((⟨s.toArray⟩ : ByteArray).get! (pos + 3)).toNat (by simp [ByteArray.size]; omega)
    rw [← Go.Lib.decode_at] at this
    simp [ByteArray.size] at this ⊢
    omega
/-! slices that are made -/
def newMU (l : Option (List AV)) (by_ z : Nat) (n m : Int) : Option ((Nat → AV) × ABlk) := match l with
  | some l => if 0 ≤ n ∧ n ≤ m ∧ m * by_ ≤ 281474976710656 ∧ m ≤ 9223372036854775807 then if l.length = z then some (fun id => .msl id 0 n.toNat z (decide (n = m)), .row (List.replicate m.toNat l).flatten) else none else none
  | none => none
def newMT (b : Option Nat) (zv : Option AV) (z : Nat) (n m : Int) : Option ((Nat → AV) × ABlk) := match b, zv with
  | some by_, some x => newMU (acells x) by_ z n m
  | _, _ => none
def newMS (P : Program) (o : Option (TypeId × Nat)) (x y : AV) : Option ((Nat → AV) × ABlk) := match o, x, y with
  | some (e, z), .int .i64 n, .int .i64 m => newMT (tby P e) (tzero P e) z n m
  | _, _, _ => none
@[simp] theorem newMS_some {e z : Nat} {n m : Int} : newMS P (some (e, z)) (.int .i64 n) (.int .i64 m) = newMT (tby P e) (tzero P e) z n m := rfl
@[simp] theorem newMT_some {by_ z : Nat} {x : AV} {n m : Int} : newMT (some by_) (some x) z n m = newMU (acells x) by_ z n m := rfl
@[simp] theorem newMU_some {by_ z : Nat} {l : List AV} {n m : Int} : newMU (some l) by_ z n m = if 0 ≤ n ∧ n ≤ m ∧ m * by_ ≤ 281474976710656 ∧ m ≤ 9223372036854775807 then if l.length = z then some (fun id => .msl id 0 n.toNat z (decide (n = m)), .row (List.replicate m.toNat l).flatten) else none else none := rfl
@[simp] theorem new_slice {ρ : Operand → AV} {x y : Operand} : anew E (.makeSlice t x y) ρ = newMS E.P (tel E.P t) (ρ x) (ρ y) := by
  simp only [anew]
  split
  · rename_i e z n m h1 h2 h3
    rw [h1, h2, h3, newMS_some]
    cases hb : tby E.P e with
    | none => simp [newMT]
    | some by_ =>
      simp only [tzeros]
      cases hz : tzero E.P e with
      | none => simp [newMT]
      | some x =>
        simp only [newMT_some]
        cases hc : acells x with
        | none => simp [newMU]
        | some l =>
          simp only [newMU_some]
          split
          · by_cases hl : l.length = z <;> simp [hl]
          · rfl
  · rename_i hno
    generalize tel E.P t = o at hno
    generalize ρ x = a at hno
    generalize ρ y = b at hno
    unfold newMS
    split
    · exact (hno _ _ _ _ rfl rfl rfl).elim
    · rfl
/-! equality of plain values -/
def eqX (o : Option TypeDesc) (x y : AV) : Option Bool := match o with
  | some d => aeq1 d x y
  | none => none
section
variable {x y : Bool} {e u : TypeId} {f : FuncId} {p q : List AV} {g1 g2 : Array TypeId} {vr : Bool} {n z id off : Nat} {tg : Bool} {cs : List AV}
@[simp] theorem eqlB : abin P .eql t (.bool x) (.bool y) = (eqX (P.underlying t) (.bool x) (.bool y)).map .bool := rfl
@[simp] theorem neqB : abin P .neq t (.bool x) (.bool y) = (eqX (P.underlying t) (.bool x) (.bool y)).map fun b => .bool !b := rfl
@[simp] theorem neqF : abin P .neq t (.func f p q) .nilfunc = (eqX (P.underlying t) (.func f p q) .nilfunc).map fun b => .bool !b := rfl
@[simp] theorem neqY : abin P .neq t (.yield id) .nilfunc = (eqX (P.underlying t) (.yield id) .nilfunc).map fun b => .bool !b := rfl
@[simp] theorem neqN : abin P .neq t .nilfunc .nilfunc = (eqX (P.underlying t) .nilfunc .nilfunc).map fun b => .bool !b := rfl
@[simp] theorem eqlS : abin P .eql t (.sl n tg cs) .nilsl = (eqX (P.underlying t) (.sl n tg cs) .nilsl).map .bool := rfl
@[simp] theorem eqlM : abin P .eql t (.msl id off n z tg) .nilsl = (eqX (P.underlying t) (.msl id off n z tg) .nilsl).map .bool := rfl
@[simp] theorem eqlL : abin P .eql t .nilsl .nilsl = (eqX (P.underlying t) .nilsl .nilsl).map .bool := rfl
@[simp] theorem eqX_bool : eqX (some .bool) (.bool x) (.bool y) = some (decide (x = y)) := rfl
@[simp] theorem eqX_func : eqX (some (.func g1 g2 vr)) (.func f p q) .nilfunc = some false := rfl
@[simp] theorem eqX_yield : eqX (some (.func g1 g2 vr)) (.yield id) .nilfunc = some false := rfl
@[simp] theorem eqX_nilf : eqX (some (.func g1 g2 vr)) .nilfunc .nilfunc = some true := rfl
@[simp] theorem eqX_sl : eqX (some (.slice e)) (.sl n tg cs) .nilsl = if n = 0 then none else some false := rfl
@[simp] theorem eqX_msl : eqX (some (.slice e)) (.msl id off n z tg) .nilsl = some false := rfl
@[simp] theorem eqX_nilsl : eqX (some (.slice e)) .nilsl .nilsl = some true := rfl
end
end
section
variable {H : AHeap} {k : Nat}
theorem purs_mem {l : List AV} (h : AV.purs l = true) : ∀ x ∈ l, x.pur = true := by
  induction l with
  | nil => simp
  | cons a l ih => simp only [AV.purs, Bool.and_eq_true] at h; simp; exact ⟨h.1, fun x hx => ih h.2 x hx⟩
theorem P2.self {l : List AV} (h : AV.purs l = true) : P2 (Pur H k) l l := P2.refl fun x hx => Pur.self (purs_mem h x hx)
theorem Pur.box {id off : Nat} {cells : List AV} (h : H.get id = .row cells) (hp : AV.purs cells = true) : Pur H (k + 1) (.ptr id off) (.rptr cells off) :=
  .inr ⟨cells, cells, h, P2.self hp, rfl⟩
theorem Pur.box' {id off : Nat} {cells cs : List AV} (h : H.get id = .row cells) (hp : P2 (Pur H k) cells cs) : Pur H (k + 1) (.ptr id off) (.rptr cs off) :=
  .inr ⟨cells, cs, h, hp, rfl⟩
theorem Pur.fn {f : FuncId} {a b a' b' : List AV} (h1 : P2 (Pur H k) a a') (h2 : P2 (Pur H k) b b') : Pur H (k + 1) (.func f a b) (.func f a' b') := .inr ⟨a', b', h1, h2, rfl⟩
theorem Pur.msl {id off len esz : Nat} {tg tg' : Bool} {cells : List AV} (h : H.get id = .row cells) (hp : AV.purs cells = true) (ht : tg' = true → tg = true) : Pur H (k + 1) (.msl id off len esz tg) (.sl len tg' ((cells.drop off).take (len * esz))) :=
  .inr ⟨cells, cells, tg', h, P2.self hp, ht, rfl⟩
theorem Pur.nil {tg : Bool} : Pur H (k + 1) .nilsl (.sl 0 tg []) := .inr ⟨tg, rfl⟩
theorem Pur.sl {len : Nat} {tg tg' : Bool} {cells : List AV} (ht : tg' = true → tg = true) : Pur H (k + 1) (.sl len tg cells) (.sl len tg' cells) := .inr ⟨tg', ht, rfl⟩
theorem Borrow.by {args args' : List AV} {res : AV} (h : res.flat = true) (k : Nat) (h2 : P2 (Pur H k) args args') : Borrow H args args' res := .inr ⟨h, k, h2⟩
end
@[simp] theorem nn1 {n : Nat} : (n = n + 1 + 1) = False := by simp; omega
@[simp] theorem nn2 {n : Nat} : (n + 1 + 1 = n) = False := by simp; omega
@[simp] theorem nn3 {n : Nat} : (n = n + 1 + 1 + 1) = False := by simp; omega
@[simp] theorem nn4 {n : Nat} : (n + 1 + 1 + 1 = n) = False := by simp; omega
@[simp] theorem nn5 {n : Nat} : (n = n + 1 + 1 + 1 + 1) = False := by simp; omega
@[simp] theorem nn6 {n : Nat} : (n + 1 + 1 + 1 + 1 = n) = False := by simp; omega
end Go.Zk
namespace Go.Proofs
open Go.Shelf
def Tryz.lays171_ren : Go.Shelf.Ren := ⟨fun | 171 => 147 | 243 => 185 | 246 => 211 | 283 => 244 | 284 => 245 | 285 => 246 | 286 => 247 | 129 => 239 | 317 => 261 | 318 => 262 | 319 => 263 | 320 => 264 | 337 => 273 | 338 => 274 | n => n, fun | 3 => 3 | 9 => 9 | 2 => 2 | 4 => 4 | 171 => 280 | 0 => 0 | 53 => 279 | 37 => 282 | 5 => 5 | 173 => 283 | 212 => 297 | 51 => 277 | 20 => 20 | 213 => 298 | 46 => 231 | 232 => 312 | 233 => 313 | n => n, fun | 17 => 9 | 18 => 10 | 19 => 11 | n => n⟩
theorem Tryz.lays171 : Go.Proofs.Lays.n171 Tryz.prog Tryz.lays171_ren := {
  mixed := by kernel_rfl
  f129 := Tryz.func239.trans (congrArg some (by kernel_rfl))
  f171 := Tryz.func147.trans (congrArg some (by kernel_rfl))
  f243 := Tryz.func185.trans (congrArg some (by kernel_rfl))
  f246 := Tryz.func211.trans (congrArg some (by kernel_rfl))
  f283 := Tryz.func244.trans (congrArg some (by kernel_rfl))
  f284 := Tryz.func245.trans (congrArg some (by kernel_rfl))
  f285 := Tryz.func246.trans (congrArg some (by kernel_rfl))
  f286 := Tryz.func247.trans (congrArg some (by kernel_rfl))
  f317 := Tryz.func261.trans (congrArg some (by kernel_rfl))
  f318 := Tryz.func262.trans (congrArg some (by kernel_rfl))
  f319 := Tryz.func263.trans (congrArg some (by kernel_rfl))
  f320 := Tryz.func264.trans (congrArg some (by kernel_rfl))
  f337 := Tryz.func273.trans (congrArg some (by kernel_rfl))
  f338 := Tryz.func274.trans (congrArg some (by kernel_rfl))
  t0 := Tryz.underlying0
  a0 := Tryz.isAgg0
  z0 := Tryz.sizeOf0
  v0 := Tryz.zeroValue0
  t2 := Tryz.underlying2
  a2 := Tryz.isAgg2
  z2 := Tryz.sizeOf2
  v2 := Tryz.zeroValue2
  t3 := Tryz.underlying3
  a3 := Tryz.isAgg3
  z3 := Tryz.sizeOf3
  v3 := Tryz.zeroValue3
  t4 := Tryz.underlying4
  a4 := Tryz.isAgg4
  z4 := Tryz.sizeOf4
  v4 := Tryz.zeroValue4
  t5 := Tryz.underlying5
  a5 := Tryz.isAgg5
  z5 := Tryz.sizeOf5
  v5 := Tryz.zeroValue5
  t9 := Tryz.underlying9
  a9 := Tryz.isAgg9
  z9 := Tryz.sizeOf9
  v9 := Tryz.zeroValue9
  t20 := Tryz.underlying20
  a20 := Tryz.isAgg20
  z20 := Tryz.sizeOf20
  v20 := Tryz.zeroValue20
  t37 := Tryz.underlying282
  a37 := Tryz.isAgg282
  z37 := Tryz.sizeOf282
  v37 := Tryz.zeroValue282
  t46 := Tryz.underlying231
  a46 := Tryz.isAgg231
  z46 := Tryz.sizeOf231
  v46 := Tryz.zeroValue231
  t51 := Tryz.underlying277
  a51 := Tryz.isAgg277
  z51 := Tryz.sizeOf277
  v51 := Tryz.zeroValue277
  t53 := Tryz.underlying279
  a53 := Tryz.isAgg279
  z53 := Tryz.sizeOf279
  v53 := Tryz.zeroValue279
  t171 := Tryz.underlying280
  a171 := Tryz.isAgg280
  z171 := Tryz.sizeOf280
  v171 := Tryz.zeroValue280
  t173 := Tryz.underlying283
  a173 := Tryz.isAgg283
  z173 := Tryz.sizeOf283
  v173 := Tryz.zeroValue283
  t212 := Tryz.underlying297
  a212 := Tryz.isAgg297
  z212 := Tryz.sizeOf297
  v212 := Tryz.zeroValue297
  t213 := Tryz.underlying298
  a213 := Tryz.isAgg298
  z213 := Tryz.sizeOf298
  t232 := Tryz.underlying312
  a232 := Tryz.isAgg312
  z232 := Tryz.sizeOf312
  v232 := Tryz.zeroValue312
  t233 := Tryz.underlying313
  a233 := Tryz.isAgg313
  z233 := Tryz.sizeOf313
  v233 := Tryz.zeroValue313
  g17 := by kernel_rfl
  g18 := by kernel_rfl
  g19 := by kernel_rfl }
open Go.RowKit Go.Sort Go.Lib in
theorem Tryz.strconv_Itoa_small (i : Nat) (hi : i < 100) (w : World) :
    Calls Tryz.prog 147 #[.int .i64 i] w fun e w' => e = .returned (.string ⟨(Lib.decDigits i).toArray⟩) ∧ w' = w := Any.strconv_Itoa_small Tryz.lays171 i hi w
def Tryz.lays144_ren : Go.Shelf.Ren := ⟨fun | 144 => 110 | 143 => 149 | 219 => 187 | 217 => 212 | 225 => 213 | 224 => 214 | 267 => 215 | 266 => 248 | 314 => 249 | n => n, fun | 9 => 9 | 4 => 4 | 3 => 3 | 5 => 5 | 46 => 231 | 146 => 285 | 51 => 277 | n => n, fun | 1 => 4 | n => n⟩
theorem Tryz.lays144 : Go.Proofs.Lays.n144 Tryz.prog Tryz.lays144_ren := {
  mixed := by kernel_rfl
  f143 := Tryz.func149.trans (congrArg some (by kernel_rfl))
  f144 := Tryz.func110.trans (congrArg some (by kernel_rfl))
  f217 := Tryz.func212.trans (congrArg some (by kernel_rfl))
  f219 := Tryz.func187.trans (congrArg some (by kernel_rfl))
  f224 := Tryz.func214.trans (congrArg some (by kernel_rfl))
  f225 := Tryz.func213.trans (congrArg some (by kernel_rfl))
  f266 := Tryz.func248.trans (congrArg some (by kernel_rfl))
  f267 := Tryz.func215.trans (congrArg some (by kernel_rfl))
  f314 := Tryz.func249.trans (congrArg some (by kernel_rfl))
  t3 := Tryz.underlying3
  a3 := Tryz.isAgg3
  z3 := Tryz.sizeOf3
  v3 := Tryz.zeroValue3
  t4 := Tryz.underlying4
  a4 := Tryz.isAgg4
  z4 := Tryz.sizeOf4
  v4 := Tryz.zeroValue4
  t5 := Tryz.underlying5
  a5 := Tryz.isAgg5
  z5 := Tryz.sizeOf5
  v5 := Tryz.zeroValue5
  t9 := Tryz.underlying9
  a9 := Tryz.isAgg9
  z9 := Tryz.sizeOf9
  v9 := Tryz.zeroValue9
  t46 := Tryz.underlying231
  a46 := Tryz.isAgg231
  z46 := Tryz.sizeOf231
  v46 := Tryz.zeroValue231
  t51 := Tryz.underlying277
  a51 := Tryz.isAgg277
  z51 := Tryz.sizeOf277
  v51 := Tryz.zeroValue277
  t146 := Tryz.underlying285
  a146 := Tryz.isAgg285
  z146 := Tryz.sizeOf285
  v146 := Tryz.zeroValue285
  g1 := by kernel_rfl }
open Go.RowKit Go.Lib in
theorem Tryz.strings_Contains (s sub : ByteArray) (m : Int) (w : World) (hs : s.size < 4294967281) (hm : w.cell? ⟨4, 0, none⟩ = some (.int .i64 m)) :
    Calls Tryz.prog 110 #[.string s, .string sub] w fun e w' => e = .returned (.bool (Lib.contains s.data.toList sub.data.toList)) ∧ w' = w := Any.strings_Contains Tryz.lays144 s sub m w hs hm
end Go.Proofs
namespace Go.Zk
open Go.Proofs
variable {E : Env} [h : Is E]
theorem pf_shelf {f : FuncId} {args : List AV} {res : AV} (en : Callable E f)
    (hc : ∀ (I : Nat → Prop) (w : World) (vs : List Value), (∀ g cells, E.G g = some cells → CellsAt ⟨I, fun _ => none, w.heap⟩ ⟨g, 0, none⟩ 0 cells) → VsRel ⟨I, fun _ => none, w.heap⟩ args vs →
      ∃ v, (∀ C, VRel C res v) ∧ Calls E.P f vs.toArray w (fun e w' => e = .returned v ∧ w' = w)) : PF E f args res := by
  refine ⟨en, fun J w vs h1 h2 h3 h4 => ?_⟩
  obtain ⟨v, hv, c⟩ := hc J w vs h3 h4
  refine c.mono fun e w' he => ?_
  obtain ⟨rfl, rfl⟩ := he
  exact ⟨v, J, rfl, Ev.refl _ _, fun _ x => x, fun _ x => .inl x, h1, h2, hv _⟩
theorem vs1 {C : Ctx} {s : List UInt8} {vs : List Value} (h : VsRel C [.str s] vs) : vs = [.string ⟨s.toArray⟩] := by
  match vs, h with
  | [v], ⟨h, _⟩ => rw [VRel] at h; rw [h]
theorem vs2 {C : Ctx} {s t : List UInt8} {vs : List Value} (h : VsRel C [.str s, .str t] vs) : vs = [.string ⟨s.toArray⟩, .string ⟨t.toArray⟩] := by
  match vs, h with
  | [v, u], ⟨h, k, _⟩ => rw [VRel] at h k; rw [h, k]
theorem vsi {C : Ctx} {n : Int} {vs : List Value} (h : VsRel C [I n] vs) : vs = [.int .i64 n] := by
  match vs, h with
  | [v], ⟨h, _⟩ => rw [VRel] at h; rw [h]
/-- The text's cells in memory that is given: the length variable. -/
class Is4 (E : Env) : Prop extends Is E where
  g4 : ∃ m, E.G 4 = some [I m]
theorem contains_str [Is4 E] (s t : Str) (hs : s.length < 4294967281) : PF E 110 [.str s, .str t] (.bool (Lib.contains s t)) := by
  obtain ⟨m, hm⟩ := Is4.g4 (E := E)
  refine pf_shelf fn_110.callable fun J w vs h1 h2 => ⟨.bool (Lib.contains s t), fun C => by rw [VRel], ?_⟩
  rw [vs2 h2, h.eq]
  have hc := h1 4 _ hm
  rw [CellsAt] at hc
  obtain ⟨⟨v, _, hv, _, hr⟩, _⟩ := hc
  rw [VRel] at hr
  subst hr
  exact Tryz.strings_Contains ⟨s.toArray⟩ ⟨t.toArray⟩ m w hs hv
theorem itoa [Is E] (i : Nat) (hi : i < 100) : PF E 147 [I i] (.str (Lib.decDigits i)) := by
  refine pf_shelf fn_147.callable fun J w vs h1 h2 => ⟨.string ⟨(Lib.decDigits i).toArray⟩, fun C => by rw [VRel], ?_⟩
  rw [vsi h2, h.eq]
  exact Tryz.strconv_Itoa_small i hi w
def innerB (c : Int) : Bool := (decide (97 ≤ c) && decide (c ≤ 122)) || ((decide (48 ≤ c) && decide (c ≤ 57)) || decide (c = 95))
theorem inner (c : Int) : PF E 107 [.int .i32 c] (.bool (innerB c)) := by
  refine pf_of_body mixed fn_107 (by simp) ?_
  unfold Tryz.f107 ABody innerB
  by_cases h1 : 97 ≤ c <;> by_cases h2 : c ≤ 122 <;> by_cases h3 : 48 ≤ c <;> by_cases h4 : c ≤ 57 <;> simp [h1, h2, h3, h4] <;> exact ⟨0, Pur.self rfl⟩
theorem outer (c : Int) : PF E 108 [.int .i32 c, .rptr [.func 107 [] []] 0] (.bool (!innerB c)) := by
  refine pf_of_body mixed fn_108 (by simp) ?_
  unfold Tryz.f108 ABody
  simp
  refine rc_pure (inner c) rfl ?_
  simp
  exact ⟨0, Pur.self rfl⟩
/-- The place of the first character that g takes, from pos on. -/
def runeAt (g : Int → Bool) (s : Str) : Nat → Nat → Int
  | 0, _ => -1
  | m + 1, pos => match s[pos]? with
    | none => -1
    | some c => if g (runeOf s pos c) = true then pos else runeAt g s m (pos + stepOf s pos c)
theorem runeAt_mono {g : Int → Bool} {s : Str} : ∀ {m k pos : Nat}, s.length < m + pos → s.length < k + pos → runeAt g s m pos = runeAt g s k pos
  | 0, k, pos, h, _ => by
    have : s[pos]? = none := List.getElem?_eq_none (by omega)
    cases k <;> simp [runeAt, this]
  | m + 1, 0, pos, h, h' => by
    have : s[pos]? = none := List.getElem?_eq_none (by omega)
    simp [runeAt, this]
  | m + 1, k + 1, pos, h, h' => by
    simp only [runeAt]
    cases hc : s[pos]? with
    | none => rfl
    | some c =>
      have := step_pos hc
      simp only
      rw [runeAt_mono (m := m) (k := k) (by omega) (by omega)]
theorem index_186 {g : Int → Bool} {k : FuncId} {a b : List AV} (hp : (AV.purs a && AV.purs b) = true) (s : Str) (hl : Big s.length) (hg : ∀ c, PF E k (a ++ [.int .i32 c] ++ b) (.bool (g c))) :
    PF E 186 [.str s, .func k a b, .bool true] (I (runeAt g s (s.length + 1) 0)) := by
  unfold Big at hl
  simp only [Bool.and_eq_true] at hp
  refine pf_of_body mixed fn_186 (by simp) ?_
  unfold Tryz.f186 ABody
  simp
  refine wp_loop (fun fr H m => ∃ pos : Nat, fr 1 = .func k a b ∧ fr 2 = .bool true ∧ fr 10 = .ptr 0 0 ∧ H.get 0 = .sit s pos ∧ pos ≤ s.length ∧ pos + m = s.length ∧ runeAt g s (s.length + 1) 0 = runeAt g s (m + 1) pos) s.length ?_ ?_
  · exact ⟨0, by simp⟩
  rintro m fr H ⟨pos, h0, h1, h7, hH, hm, hk, hx⟩
  cases hc : s[pos]? with
  | none =>
    have : pos = s.length := by have := List.getElem?_eq_none_iff.1 hc; omega
    have hr : runeAt g s (m + 1) pos = -1 := by simp [runeAt, hc]
    simp [h0, h1, h7, hH, hc, ← this]
    rw [this, hx, hr]
    exact ⟨0, Pur.self rfl⟩
  | some c =>
    have hs := step_pos hc
    simp [h0, h1, h7, hH, hc]
    refine rc_pure (hg _) (by simp [purs_append, hp, AV.purs, AV.pur]) ?_
    by_cases hgi : g (runeOf s pos c) = true
    · have hr : runeAt g s (m + 1) pos = pos := by simp [runeAt, hc, hgi]
      simp [h0, h1, h7, hgi]
      rw [hx, hr]
      exact ⟨0, Pur.self rfl⟩
    · have hr : runeAt g s (m + 1) pos = runeAt g s m (pos + stepOf s pos c) := by simp [runeAt, hc, hgi]
      simp [h0, h1, h7, hgi]
      refine ⟨s.length - (pos + stepOf s pos c), by omega, hs.2, by omega, ?_⟩
      rw [hx, hr]
      exact runeAt_mono (by omega) (by omega)
theorem index_148 {g : Int → Bool} {k : FuncId} {a b : List AV} (hp : (AV.purs a && AV.purs b) = true) (s : Str) (hl : Big s.length) (hg : ∀ c, PF E k (a ++ [.int .i32 c] ++ b) (.bool (g c))) :
    PF E 148 [.str s, .func k a b] (I (runeAt g s (s.length + 1) 0)) := by
  refine pf_of_body mixed fn_148 (by simp) ?_
  unfold Tryz.f148 ABody
  simp
  refine rc_pure (index_186 hp s hl hg) (by simp only [Bool.and_eq_true] at hp; simp [AV.purs, AV.pur, hp]) ?_
  simp
  exact ⟨0, Pur.self rfl⟩
theorem contains_109 {g : Int → Bool} {k : FuncId} {a b : List AV} (hp : (AV.purs a && AV.purs b) = true) (s : Str) (hl : Big s.length) (hg : ∀ c, PF E k (a ++ [.int .i32 c] ++ b) (.bool (g c))) :
    PF E 109 [.str s, .func k a b] (.bool (decide (0 ≤ runeAt g s (s.length + 1) 0))) := by
  refine pf_of_body mixed fn_109 (by simp) ?_
  unfold Tryz.f109 ABody
  simp
  refine rc_pure (index_148 hp s hl hg) (by simp only [Bool.and_eq_true] at hp; simp [AV.purs, AV.pur, hp]) ?_
  simp
  exact ⟨0, Pur.self rfl⟩
def words : Str := [32, 104, 97, 114, 100, 32, 115, 111, 102, 116, 32, 101, 97, 99, 104, 32, 97, 108, 108, 32, 115, 111, 109, 101, 32, 108, 101, 97, 115, 116, 32, 109, 111, 115, 116, 32, 116, 114, 117, 101, 32, 102, 97, 108, 115, 101, 32, 97, 116, 32, 105, 110, 32, 116, 101, 97, 99, 104, 101, 115, 32, 97, 116, 116, 101, 110, 100, 115, 32, 97, 119, 97, 121, 32, 115, 104, 117, 116, 32, 100, 97, 121, 32, 104, 111, 117, 114, 32, 104, 111, 117, 115, 101, 32, 115, 101, 97, 116, 115, 32, 115, 105, 122, 101, 32, 108, 101, 115, 115, 111, 110, 32, 115, 108, 111, 116, 32, 114, 111, 111, 109, 32, 112, 101, 114, 115, 111, 110, 32, 103, 114, 111, 117, 112, 32]
theorem named_all [Is4 E] (s : Str) : ∃ b, PF E 57 [.str s] (.bool b) := by
  by_cases h1 : s = []
  · refine ⟨false, pf_of_body mixed fn_57 (by simp) ?_⟩
    unfold Tryz.f57 ABody
    simp [h1]
    exact ⟨0, Pur.self rfl⟩
  by_cases h2 : (64 : Int) < s.length
  · have h2' : ¬ (s.length : Int) ≤ 64 := by omega
    refine ⟨false, pf_of_body mixed fn_57 (by simp) ?_⟩
    unfold Tryz.f57 ABody
    simp [h1, h2, h2']
    exact ⟨0, Pur.self rfl⟩
  have h2' : (s.length : Int) ≤ 64 := by omega
  cases s with
  | nil => exact absurd rfl h1
  | cons c s =>
  have e1 : ¬ (64 : Int) < (s.length : Int) + 1 := by simpa using h2
  have e2 : (s.length : Int) + 1 ≤ 64 := by simpa using h2'
  have hb : Big (c :: s).length := by simp [Big]; omega
  by_cases h3 : (c.toNat : Int) < 97
  · have h3' : ¬ (97 : Int) ≤ c.toNat := by omega
    refine ⟨false, pf_of_body mixed fn_57 (by simp) ?_⟩
    unfold Tryz.f57 ABody
    simp [e1, e2, h3, h3']
    exact ⟨0, Pur.self rfl⟩
  have h3' : (97 : Int) ≤ c.toNat := by omega
  have hk := contains_109 (E := E) (g := fun c => !innerB c) (k := 108) (a := []) (b := [.rptr [.func 107 [] []] 0]) rfl (c :: s) hb (fun c => outer c)
  by_cases h4 : 0 ≤ runeAt (fun c => !innerB c) (c :: s) ((c :: s).length + 1) 0
  · rw [decide_eq_true h4] at hk
    refine ⟨false, pf_of_body mixed fn_57 (by simp) ?_⟩
    unfold Tryz.f57 ABody
    simp [e1, e2, h3, h3']
    refine rc_pf hk ?_ ?_
    · exact Borrow.by rfl 3 (.cons (Pur.self rfl) (.cons (Pur.fn .nil (.cons (Pur.box rfl rfl) .nil)) .nil))
    · simp
      exact ⟨0, Pur.self rfl⟩
  · rw [decide_eq_false h4] at hk
    refine ⟨!Lib.contains words (32 :: (c :: s) ++ [32]), pf_of_body mixed fn_57 (by simp) ?_⟩
    · unfold Tryz.f57 ABody
      simp [e1, e2, h3, h3']
      refine rc_pf hk ?_ ?_
      · exact Borrow.by rfl 3 (.cons (Pur.self rfl) (.cons (Pur.fn .nil (.cons (Pur.box rfl rfl) .nil)) .nil))
      · simp
        have l1 : 1 + (s.length + 1) ≤ 4294967296 := by omega
        have l2 : s.length ≤ 4294967294 := by omega
        have l3 : s.length ≤ 4294967293 := by omega
        simp [l1, l2, l3]
        refine rc_pure (contains_str words (32 :: (c :: s) ++ [32]) (by decide)) (by rfl) ?_
        simp
        exact ⟨0, Pur.self rfl⟩
end Go.Zk
namespace Go.Zk
/-- From N on it holds of the memory but for the blocks of P. -/
def Local (N : Nat) (P : Nat → Prop) (J : AHeap → Prop) : Prop := ∀ H H', N ≤ H.next → J H → H.next ≤ H'.next → (∀ j, j < H.next → ¬ P j → H'.get j = H.get j) → J H'
/-- What a yield leaves: the blocks of P as they were. -/
def YPost (P : Nat → Prop) (H : AHeap) (ok no : AHeap → Prop) : AR → AHeap → Prop
  | .ret v, H' => H.next ≤ H'.next ∧ (∀ j, P j → j < H.next → H'.get j = H.get j) ∧ ((v = .bool true ∧ ok H') ∨ (v = .bool false ∧ no H'))
  | .panic _, _ => False
def IPost (N : Nat) (a b : AHeap → Prop) : AR → AHeap → Prop
  | .ret _, H' => N ≤ H'.next ∧ (a H' ∨ b H')
  | .panic _, _ => False
/-- It yields len times, what A says at each; the blocks of P are its own. -/
def IterG (E : Env) (call : AV → AHeap → (AR → AHeap → Prop) → Prop) (len : Nat) (A : Nat → Nat → AHeap → List AV → Prop) (P : Nat → Nat → Prop) : Prop :=
  ∀ (y : AV) (H0 : AHeap) (J : Nat → AHeap → Prop) (D : AHeap → Prop), acells y = some [y] → (∀ i, Local H0.next (P H0.next) (J i)) → Local H0.next (P H0.next) D → J 0 H0 →
    (∀ i, i < len → ∀ H args, H0.next ≤ H.next → J i H → A H0.next i H args → AInv E y args H (YPost (P H0.next) H (J (i + 1)) D)) →
    call y H0 (IPost H0.next (J len) D)
def noP : Nat → Nat → Prop := fun _ _ => False
/-- Of pure elements. -/
def Elems (l : List (List AV)) : Nat → Nat → AHeap → List AV → Prop := fun _ i _ args => l[i]? = some args

section
variable {E : Env} {H : AHeap} {n : Nat} {fr : AFr} {Q : AExit → AFr → AHeap → Prop}
variable {P : Nat → Prop}
@[simp] theorem ypost_ret {ok no : AHeap → Prop} {v : AV} {H' : AHeap} : YPost P H ok no (.ret v) H' = (H.next ≤ H'.next ∧ (∀ j, P j → j < H.next → H'.get j = H.get j) ∧ ((v = .bool true ∧ ok H') ∨ (v = .bool false ∧ no H'))) := rfl
@[simp] theorem ypost_panic {ok no : AHeap → Prop} {v : AV} {H' : AHeap} : YPost P H ok no (.panic v) H' = False := rfl
theorem YPost.mono {P' : Nat → Prop} {ok no ok' no' : AHeap → Prop} (hP : ∀ j, P' j → P j) (h1 : ∀ H', ok H' → (∀ j, P j → j < H.next → H'.get j = H.get j) → ok' H') (h2 : ∀ H', no H' → (∀ j, P j → j < H.next → H'.get j = H.get j) → no' H') : ∀ ar H', YPost P H ok no ar H' → YPost P' H ok' no' ar H'
  | .ret v, H', ⟨a, b, c⟩ => ⟨a, fun j hj hl => b j (hP j hj) hl, c.imp (fun ⟨x, y⟩ => ⟨x, h1 H' y b⟩) fun ⟨x, y⟩ => ⟨x, h2 H' y b⟩⟩
  | .panic _, _, h => h.elim
theorem rc_inv {f : AV} {args : List AV} {ops : Array Oper} {rest : List Oper} {d : Option Tmp} (h : AInv E f args H fun
    | .ret v, H' => AOps E n ops Q rest (aput n fr d v) H'
    | .panic v, H' => Q (.panic v) fr H') : Rc f args E n ops Q rest d fr H := by
  unfold Rc ACall; exact h
theorem rc_yield {f : AV} {args : List AV} {ops : Array Oper} {rest : List Oper} {d : Option Tmp} {ok no : AHeap → Prop} (h : AInv E f args H (YPost P H ok no))
    (h1 : ∀ H', H.next ≤ H'.next → (∀ j, P j → j < H.next → H'.get j = H.get j) → ok H' → AOps E n ops Q rest (aput n fr d (.bool true)) H')
    (h2 : ∀ H', H.next ≤ H'.next → (∀ j, P j → j < H.next → H'.get j = H.get j) → no H' → AOps E n ops Q rest (aput n fr d (.bool false)) H') : Rc f args E n ops Q rest d fr H := by
  refine rc_inv (h.mono fun ar H' hp => ?_)
  cases ar with
  | ret v =>
    obtain ⟨a, b, ⟨rfl, c⟩ | ⟨rfl, c⟩⟩ := hp
    · exact h1 H' a b c
    · exact h2 H' a b c
  | panic v => exact hp.elim

def RQ (b : ABlk) (L : Nat) (v : Bool) (st : LoopState) (pd : Option Code) (Post : AR → AHeap → Prop) (H : AHeap) : Prop := match b with
  | .loop lp => Post (.ret (.bool v)) (H.set L (.loop { lp with state := st, pending := pd }))
  | _ => False
@[simp] theorem rq_loop {lp : ALoop} {L : Nat} {v : Bool} {st : LoopState} {pd : Option Code} {Post : AR → AHeap → Prop} : RQ (.loop lp) L v st pd Post H = Post (.ret (.bool v)) (H.set L (.loop { lp with state := st, pending := pd })) := rfl
@[simp] theorem round_normal {L : Nat} {Post : AR → AHeap → Prop} : ARoundQ L Post .normal fr H = RQ (H.get L) L true .ready none Post H := by
  rw [ARoundQ]; unfold RQ; cases H.get L <;> rfl
@[simp] theorem round_ret {L : Nat} {Post : AR → AHeap → Prop} : ARoundQ L Post .ret fr H = RQ (H.get L) L false .done (some .ret) Post H := by
  rw [ARoundQ]; unfold RQ; cases H.get L <;> rfl
@[simp] theorem round_exit {L i : Nat} {Post : AR → AHeap → Prop} : ARoundQ L Post (.exit i) fr H = RQ (H.get L) L false .done (some (.exit i)) Post H := by
  rw [ARoundQ]; unfold RQ; cases H.get L <;> rfl
/-- The round's assignment has been made. -/
def RoundB (E : Env) (L : Nat) (Post : AR → AHeap → Prop) (n : Nat) (body : Code) (fr : AFr) (H : AHeap) : Prop := match H.get L with
  | .loop lp => lp.state = .ready ∧ AWp E n body (ARoundQ L Post) fr (H.set L (.loop { lp with state := .busy }))
  | _ => False
theorem round_of {L : Nat} {args : List AV} {Post : AR → AHeap → Prop} {ps : Array Tmp} {x y : Code} {pd : Option Code} (hg : H.get L = .loop ⟨n, fr, ps, x, y, .ready, pd⟩) (hl : args.length = ps.size)
    (h : AWp E n x (AThen (fun fr H1 => match H1.get L with
      | .loop lp1 => lp1.state = .ready ∧ AWp E n y (ARoundQ L Post) fr (H1.set L (.loop { lp1 with state := .busy }))
      | _ => False) (fun _ _ _ => False)) (putAll n (ps.toList.zip args) fr) H) : ARound E L args Post H := by
  unfold ARound; rw [hg]; exact ⟨rfl, hl, h⟩
/-- A range over a function whose assignment is plain (it is read ahead). -/
theorem wp_iter (hm : E.P.follows .mixedOrders = true) {f : Operand} {ps : Array Tmp} {x y : Code} {len : Nat} {A : Nat → Nat → AHeap → List AV → Prop} {P : Nat → Nat → Prop}
    (hit : IterG E (fun y H Post => AInv E (aeval E fr f) [y] H Post) len A P) (hP : ∀ N j, P N j → N ≤ j) (J : Nat → AHeap → Prop) (D : AExit → AHeap → Prop)
    (hJ : ∀ i, Local H.next (fun j => j = H.next ∨ P (H.next + 1) j) (J i)) (hD : ∀ e, Local H.next (fun j => j = H.next ∨ P (H.next + 1) j) (D e)) (h0 : J 0 H)
    (hend : ∀ H', H.next < H'.next → J len H' → Q .normal fr H')
    (hret : ∀ H', H.next < H'.next → D .ret H' → Q .ret fr H')
    (hexit : ∀ i H', H.next < H'.next → D (.exit i) H' → Q (.exit i) fr H')
    (step : ∀ i, i < len → ∀ H1 args, H.next < H1.next → J i H1 → A (H.next + 1) i H1 args → H1.get H.next = .loop ⟨n, fr, ps, x, y, .ready, none⟩ →
      args.length = ps.size ∧ AWp E n x (AThen (fun fr' H2 => match H2.get H.next with
        | .loop lp1 => lp1.state = .ready ∧ AWp E n y (ARoundQ H.next (YPost (P (H.next + 1)) H1 (fun H' => H'.get H.next = .loop ⟨n, fr, ps, x, y, .ready, none⟩ ∧ J (i + 1) H')
            (fun H' => ∃ lp, H'.get H.next = .loop lp ∧ lp.state ≠ .busy ∧ ((lp.pending = some .ret ∧ D .ret H') ∨ ∃ i, lp.pending = some (.exit i) ∧ D (.exit i) H')))) fr' (H2.set H.next (.loop { lp1 with state := .busy }))
        | _ => False) (fun _ _ _ => False)) (putAll n (ps.toList.zip args) fr) H1) :
    AWp E n (.rangeFunc f ps x y) Q fr H := by
  refine wp_ranged ?_
  have hL : ¬ P (H.next + 1) H.next := fun e => by have := hP _ _ e; omega
  have hloc : ∀ {K : AHeap → Prop}, Local H.next (fun j => j = H.next ∨ P (H.next + 1) j) K → Local (H.next + 1) (P (H.next + 1)) K := fun hK a b h0 h1 h2 h3 =>
    hK a b (by omega) h1 h2 fun j hj hp => h3 j hj fun e => hp (.inr e)
  refine (hit (.yield H.next) _ (fun i H' => H'.get H.next = .loop ⟨n, fr, ps, x, y, .ready, none⟩ ∧ J i H')
    (fun H' => ∃ lp, H'.get H.next = .loop lp ∧ lp.state ≠ .busy ∧ ((lp.pending = some .ret ∧ D .ret H') ∨ ∃ i, lp.pending = some (.exit i) ∧ D (.exit i) H')) rfl ?_ ?_ ?_ ?_).mono fun ar H' hp => ?_
  · rintro i a b hn ⟨h1, h2⟩ h3 h4
    simp only [next_alloc] at hn h4
    exact ⟨by rw [h4 _ (by omega) hL]; exact h1, hloc (hJ i) a b hn h2 h3 h4⟩
  · rintro a b hn ⟨lp, h1, h2, h3⟩ h5 h4
    simp only [next_alloc] at hn h4
    refine ⟨lp, by rw [h4 _ (by omega) hL]; exact h1, h2, h3.imp (fun ⟨p, q⟩ => ⟨p, hloc (hD _) a b hn q h5 h4⟩) fun ⟨i, p, q⟩ => ⟨i, p, hloc (hD _) a b hn q h5 h4⟩⟩
  · refine ⟨by simp, hJ 0 H _ (Nat.le_refl _) h0 (by simp) fun j hj hp => ?_⟩
    simp; intro e; omega
  · rintro i hi H1 args hn ⟨hg, hj⟩ ha
    simp only [next_alloc] at hn ha ⊢
    obtain ⟨p1, p2⟩ := step i hi H1 args (by omega) hj ha hg
    exact ainv_yield hm (round_of hg p1 p2)
  · cases ar with
    | panic v => exact hp.elim
    | ret v =>
      obtain ⟨hn, h | h⟩ := hp
      · obtain ⟨h1, h2⟩ := h
        simp only [ARanged, h1]
        simp at hn
        refine ⟨by simp, hend _ (by simp; omega) (hJ len _ _ (by omega) h2 (by simp) fun j hj hp => ?_)⟩
        simp; intro e; exact absurd (.inl e) hp
      · obtain ⟨lp, h1, h2, h3⟩ := h
        simp only [ARanged, h1]
        simp at hn
        refine ⟨h2, ?_⟩
        rcases h3 with ⟨e, h3⟩ | ⟨i, e, h3⟩
        · rw [e]; exact hret _ (by simp; omega) (hD _ _ _ (by omega) h3 (by simp) fun j hj hp => by simp; intro e; exact absurd (.inl e) hp)
        · rw [e]; exact hexit i _ (by simp; omega) (hD _ _ _ (by omega) h3 (by simp) fun j hj hp => by simp; intro e; exact absurd (.inl e) hp)
theorem wp_orders {ops : Array Oper} {id' : Nat} (ls : List (List Nat)) (hls : dexts ops ops.size (Array.replicate ops.size false) = ls)
    (k : ∀ l ∈ ls, AOps E n ops Q (l.filterMap fun i => ops[i]?) fr H) : AWp E n (.region id' ops true) Q fr H := wp_all (by rw [hls]; exact k)
end
theorem logOk_of {ops : Array Oper} {s : Nat} {log : ALog} (ms : List Nat) (hms : dmasks ops.toList [] = ms) (h : logRows ms log s log s = true) : logOk ops s log = true := by
  unfold logOk; rw [hms, h, Bool.or_true]
theorem Local.mono {N : Nat} {P P' : Nat → Prop} {J : AHeap → Prop} (h : Local N P J) (hp : ∀ j, P' j → P j) : Local N P' J := fun a b h1 h2 h3 h4 => h a b h1 h2 h3 fun j hj hn => h4 j hj fun e => hn (hp j e)
theorem IterG.mono {E : Env} {call : AV → AHeap → (AR → AHeap → Prop) → Prop} {len : Nat} {A : Nat → Nat → AHeap → List AV → Prop} {P P' : Nat → Nat → Prop} (h : IterG E call len A P') (hp : ∀ N j, P' N j → P N j) : IterG E call len A P :=
  fun y H0 J D hy hJ hD h0 step => h y H0 J D hy (fun i => (hJ i).mono (hp _)) (hD.mono (hp _)) h0 fun i hi H args hn hj ha => (step i hi H args hn hj ha).mono (YPost.mono (hp _) (fun _ k _ => k) fun _ k _ => k)
end Go.Zk
namespace Go.Zk
open Go.Proofs
variable {E : Env} [h : Is E]
@[simp] theorem ipost_ret {N : Nat} {a b : AHeap → Prop} {v : AV} {H' : AHeap} : IPost N a b (.ret v) H' = (N ≤ H'.next ∧ (a H' ∨ b H')) := rfl
theorem each_95 (l : List LessonD) (hl : Big l.length) (k : FuncId) (nm : LessonD → Str) (hk : ∀ x, PF E k [.agg (lessonE.enc x)] (.str (nm x))) :
    IterG E (fun y H Post => AF E 95 [lessonE.sl l, .func k [] [], y] H Post) l.length (Elems (l.mapIdx fun i x => [I i, .str (nm x)])) noP := by
  unfold Big at hl
  intro y H0 J D hy hJ hD h0 step
  refine af_of_body mixed fn_95 (by simp) ?_
  unfold Tryz.f95 ABody
  simp [Enc.sl]
  refine wp_loop (fun fr H m => ∃ i : Nat, fr 0 = lessonE.sl l ∧ fr 1 = .func k [] [] ∧ fr 2 = y ∧ fr 9 = lessonE.sl l ∧ fr 10 = I l.length ∧ fr 11 = I i ∧ i + m = l.length ∧ H0.next ≤ H.next ∧ J i H) l.length ?_ ?_
  · exact ⟨0, by simp [Enc.sl, h0]⟩
  rintro m fr H ⟨i, e0, e1, e2, e9, e10, e11, hm, hn, hj⟩
  by_cases hi : i < l.length
  · simp [e0, e1, e2, e9, e10, e11, hi, Enc.sl]
    rw [show apart true 3 (i * 3) (lessonE.cells l) = some (.agg (lessonE.enc l[i])) from lessonE.part hi]
    simp [lessonE, e0, e1, e2, e9, e10, e11]
    refine rc_pure (hk l[i]) (by simp [AV.purs, AV.pur, lessonE]) ?_
    simp [e0, e1, e2, e9, e10, e11]
    refine rc_yield (step i hi _ _ (by simp; omega) (hJ i H _ hn hj (by simp) fun j hj _ => ?_) (by simp [Elems, hi])) ?_ ?_
    · have e : ¬ j = H.next := by omega
      simp [e]
    · simp
      intro H' a b c
      simp [e0, e1, e2, e9, e10, e11, Enc.sl]
      exact ⟨m - 1, by omega, rfl, i + 1, wrap_of (by omega) (by omega), by omega, by omega, c⟩
    · intro H' a b c
      simp [e0, e1, e2, e9, e10, e11, Enc.sl] at a ⊢
      exact ⟨by omega, .inr c⟩
  · simp [e0, e1, e2, e9, e10, e11, hi, Enc.sl]
    have : i = l.length := by omega
    exact ⟨hn, .inl (this ▸ hj)⟩
theorem each_97 (l : List SlotD) (hl : Big l.length) (k : FuncId) (nm : SlotD → Str) (hk : ∀ x, PF E k [.agg (slotE.enc x)] (.str (nm x))) :
    IterG E (fun y H Post => AF E 97 [slotE.sl l, .func k [] [], y] H Post) l.length (Elems (l.mapIdx fun i x => [I i, .str (nm x)])) noP := by
  unfold Big at hl
  intro y H0 J D hy hJ hD h0 step
  refine af_of_body mixed fn_97 (by simp) ?_
  unfold Tryz.f97 ABody
  simp [Enc.sl]
  refine wp_loop (fun fr H m => ∃ i : Nat, fr 0 = slotE.sl l ∧ fr 1 = .func k [] [] ∧ fr 2 = y ∧ fr 9 = slotE.sl l ∧ fr 10 = I l.length ∧ fr 11 = I i ∧ i + m = l.length ∧ H0.next ≤ H.next ∧ J i H) l.length ?_ ?_
  · exact ⟨0, by simp [Enc.sl, h0]⟩
  rintro m fr H ⟨i, e0, e1, e2, e9, e10, e11, hm, hn, hj⟩
  by_cases hi : i < l.length
  · simp [e0, e1, e2, e9, e10, e11, hi, Enc.sl]
    rw [show apart true 3 (i * 3) (slotE.cells l) = some (.agg (slotE.enc l[i])) from slotE.part hi]
    simp [slotE, e0, e1, e2, e9, e10, e11]
    refine rc_pure (hk l[i]) (by simp [AV.purs, AV.pur, slotE]) ?_
    simp [e0, e1, e2, e9, e10, e11]
    refine rc_yield (step i hi _ _ (by simp; omega) (hJ i H _ hn hj (by simp) fun j hj _ => ?_) (by simp [Elems, hi])) ?_ ?_
    · have e : ¬ j = H.next := by omega
      simp [e]
    · simp
      intro H' a b c
      simp [e0, e1, e2, e9, e10, e11, Enc.sl]
      exact ⟨m - 1, by omega, rfl, i + 1, wrap_of (by omega) (by omega), by omega, by omega, c⟩
    · intro H' a b c
      simp [e0, e1, e2, e9, e10, e11, Enc.sl] at a ⊢
      exact ⟨by omega, .inr c⟩
  · simp [e0, e1, e2, e9, e10, e11, hi, Enc.sl]
    have : i = l.length := by omega
    exact ⟨hn, .inl (this ▸ hj)⟩
theorem each_99 (l : List RoomD) (hl : Big l.length) (k : FuncId) (nm : RoomD → Str) (hk : ∀ x, PF E k [.agg (roomE.enc x)] (.str (nm x))) :
    IterG E (fun y H Post => AF E 99 [roomE.sl l, .func k [] [], y] H Post) l.length (Elems (l.mapIdx fun i x => [I i, .str (nm x)])) noP := by
  unfold Big at hl
  intro y H0 J D hy hJ hD h0 step
  refine af_of_body mixed fn_99 (by simp) ?_
  unfold Tryz.f99 ABody
  simp [Enc.sl]
  refine wp_loop (fun fr H m => ∃ i : Nat, fr 0 = roomE.sl l ∧ fr 1 = .func k [] [] ∧ fr 2 = y ∧ fr 9 = roomE.sl l ∧ fr 10 = I l.length ∧ fr 11 = I i ∧ i + m = l.length ∧ H0.next ≤ H.next ∧ J i H) l.length ?_ ?_
  · exact ⟨0, by simp [Enc.sl, h0]⟩
  rintro m fr H ⟨i, e0, e1, e2, e9, e10, e11, hm, hn, hj⟩
  by_cases hi : i < l.length
  · simp [e0, e1, e2, e9, e10, e11, hi, Enc.sl]
    rw [show apart true 4 (i * 4) (roomE.cells l) = some (.agg (roomE.enc l[i])) from roomE.part hi]
    simp [roomE, e0, e1, e2, e9, e10, e11]
    refine rc_pure (hk l[i]) (by simp [AV.purs, AV.pur, roomE]) ?_
    simp [e0, e1, e2, e9, e10, e11]
    refine rc_yield (step i hi _ _ (by simp; omega) (hJ i H _ hn hj (by simp) fun j hj _ => ?_) (by simp [Elems, hi])) ?_ ?_
    · have e : ¬ j = H.next := by omega
      simp [e]
    · simp
      intro H' a b c
      simp [e0, e1, e2, e9, e10, e11, Enc.sl]
      exact ⟨m - 1, by omega, rfl, i + 1, wrap_of (by omega) (by omega), by omega, by omega, c⟩
    · intro H' a b c
      simp [e0, e1, e2, e9, e10, e11, Enc.sl] at a ⊢
      exact ⟨by omega, .inr c⟩
  · simp [e0, e1, e2, e9, e10, e11, hi, Enc.sl]
    have : i = l.length := by omega
    exact ⟨hn, .inl (this ▸ hj)⟩
theorem each_101 (l : List PersonD) (hl : Big l.length) (k : FuncId) (nm : PersonD → Str) (hk : ∀ x, PF E k [.agg (personE.enc x)] (.str (nm x))) :
    IterG E (fun y H Post => AF E 101 [personE.sl l, .func k [] [], y] H Post) l.length (Elems (l.mapIdx fun i x => [I i, .str (nm x)])) noP := by
  unfold Big at hl
  intro y H0 J D hy hJ hD h0 step
  refine af_of_body mixed fn_101 (by simp) ?_
  unfold Tryz.f101 ABody
  simp [Enc.sl]
  refine wp_loop (fun fr H m => ∃ i : Nat, fr 0 = personE.sl l ∧ fr 1 = .func k [] [] ∧ fr 2 = y ∧ fr 9 = personE.sl l ∧ fr 10 = I l.length ∧ fr 11 = I i ∧ i + m = l.length ∧ H0.next ≤ H.next ∧ J i H) l.length ?_ ?_
  · exact ⟨0, by simp [Enc.sl, h0]⟩
  rintro m fr H ⟨i, e0, e1, e2, e9, e10, e11, hm, hn, hj⟩
  by_cases hi : i < l.length
  · simp [e0, e1, e2, e9, e10, e11, hi, Enc.sl]
    rw [show apart true 2 (i * 2) (personE.cells l) = some (.agg (personE.enc l[i])) from personE.part hi]
    simp [personE, e0, e1, e2, e9, e10, e11]
    refine rc_pure (hk l[i]) (by simp [AV.purs, AV.pur, personE]) ?_
    simp [e0, e1, e2, e9, e10, e11]
    refine rc_yield (step i hi _ _ (by simp; omega) (hJ i H _ hn hj (by simp) fun j hj _ => ?_) (by simp [Elems, hi])) ?_ ?_
    · have e : ¬ j = H.next := by omega
      simp [e]
    · simp
      intro H' a b c
      simp [e0, e1, e2, e9, e10, e11, Enc.sl]
      exact ⟨m - 1, by omega, rfl, i + 1, wrap_of (by omega) (by omega), by omega, by omega, c⟩
    · intro H' a b c
      simp [e0, e1, e2, e9, e10, e11, Enc.sl] at a ⊢
      exact ⟨by omega, .inr c⟩
  · simp [e0, e1, e2, e9, e10, e11, hi, Enc.sl]
    have : i = l.length := by omega
    exact ⟨hn, .inl (this ▸ hj)⟩
theorem each_103 (l : List GroupD) (hl : Big l.length) (k : FuncId) (nm : GroupD → Str) (hk : ∀ x, PF E k [.agg (groupE.enc x)] (.str (nm x))) :
    IterG E (fun y H Post => AF E 103 [groupE.sl l, .func k [] [], y] H Post) l.length (Elems (l.mapIdx fun i x => [I i, .str (nm x)])) noP := by
  unfold Big at hl
  intro y H0 J D hy hJ hD h0 step
  refine af_of_body mixed fn_103 (by simp) ?_
  unfold Tryz.f103 ABody
  simp [Enc.sl]
  refine wp_loop (fun fr H m => ∃ i : Nat, fr 0 = groupE.sl l ∧ fr 1 = .func k [] [] ∧ fr 2 = y ∧ fr 9 = groupE.sl l ∧ fr 10 = I l.length ∧ fr 11 = I i ∧ i + m = l.length ∧ H0.next ≤ H.next ∧ J i H) l.length ?_ ?_
  · exact ⟨0, by simp [Enc.sl, h0]⟩
  rintro m fr H ⟨i, e0, e1, e2, e9, e10, e11, hm, hn, hj⟩
  by_cases hi : i < l.length
  · simp [e0, e1, e2, e9, e10, e11, hi, Enc.sl]
    rw [show apart true 2 (i * 2) (groupE.cells l) = some (.agg (groupE.enc l[i])) from groupE.part hi]
    simp [groupE, e0, e1, e2, e9, e10, e11]
    refine rc_pure (hk l[i]) (by simp [AV.purs, AV.pur, groupE]) ?_
    simp [e0, e1, e2, e9, e10, e11]
    refine rc_yield (step i hi _ _ (by simp; omega) (hJ i H _ hn hj (by simp) fun j hj _ => ?_) (by simp [Elems, hi])) ?_ ?_
    · have e : ¬ j = H.next := by omega
      simp [e]
    · simp
      intro H' a b c
      simp [e0, e1, e2, e9, e10, e11, Enc.sl]
      exact ⟨m - 1, by omega, rfl, i + 1, wrap_of (by omega) (by omega), by omega, by omega, c⟩
    · intro H' a b c
      simp [e0, e1, e2, e9, e10, e11, Enc.sl] at a ⊢
      exact ⟨by omega, .inr c⟩
  · simp [e0, e1, e2, e9, e10, e11, hi, Enc.sl]
    have : i = l.length := by omega
    exact ⟨hn, .inl (this ▸ hj)⟩
theorem each_105 (n id : Nat) (tg : Bool) (hl : Big n) (y : AV) (H0 : AHeap) (J : Nat → AHeap → Prop) (D : AHeap → Prop) (hJ : ∀ i, Local H0.next (fun _ => False) (J i)) (hD : Local H0.next (fun _ => False) D) (h0 : J 0 H0)
    (hid : ∀ i H, J i H → H.get id = .row []) (step : ∀ i, i < n → ∀ H, H0.next ≤ H.next → J i H → AInv E y [I i, .str []] H (YPost (fun _ => False) H (J (i + 1)) D)) :
    AF E 105 [.msl id 0 n 0 tg, .nilfunc, y] H0 (IPost H0.next (J n) D) := by
  unfold Big at hl
  refine af_of_body mixed fn_105 (by simp) ?_
  unfold Tryz.f105 ABody
  simp
  refine wp_loop (fun fr H m => ∃ i : Nat, fr 0 = .msl id 0 n 0 tg ∧ fr 1 = .nilfunc ∧ fr 2 = y ∧ fr 9 = .msl id 0 n 0 tg ∧ fr 10 = I n ∧ fr 11 = I i ∧ i + m = n ∧ H0.next ≤ H.next ∧ J i H) n ?_ ?_
  · exact ⟨0, by simp [h0]⟩
  rintro m fr H ⟨i, e0, e1, e2, e9, e10, e11, hm, hn, hj⟩
  by_cases hi : i < n
  · simp [e0, e1, e2, e9, e10, e11, hi, hid i H hj]
    refine rc_yield (step i hi _ (by simp; omega) (hJ i H _ hn hj (by simp) fun j hj _ => ?_)) ?_ ?_
    · have e : ¬ j = H.next := by omega
      simp [e]
    · intro H' a b c
      simp at a
      simp [e0, e1, e2, e9, e10, e11]
      exact ⟨m - 1, by omega, i + 1, wrap_of (by omega) (by omega), by omega, by omega, c⟩
    · intro H' a b c
      simp at a
      simp [e0, e1, e2, e9, e10, e11]
      exact ⟨by omega, .inr c⟩
  · simp [e0, e1, e2, e9, e10, e11, hi]
    have : i = n := by omega
    exact ⟨hn, .inl (this ▸ hj)⟩
end Go.Zk
