/- A table's points and spans: what is told of a list. No program in sight. -/
import Derived.Test.YtobhbepiaibceaaF52
import Derived.Test.YtobhbepiaibceaaF54
import Derived.Test.YtobhbepiaibceaaSp9
set_option linter.unusedVariables false
set_option linter.unusedSimpArgs false
namespace Go.Ab
theorem whole_enB {e : En} (h : right e = true) : wholeB (enB e) = true ∧ parseV (enB e) = e := by
  have := parse_put e h []
  rw [List.append_nil, ← enB_right h] at this
  simp [wholeB, parseV, parseX, parseN, this]
theorem getD_mem {α : Type} [Inhabited α] {l : List α} {i : Nat} (h : i < l.length) : l.getD i default ∈ l := by
  rw [List.getD_eq_getElem?_getD, List.getElem?_eq_getElem h]; exact List.getElem_mem _
theorem getD_mapd {α β : Type} [Inhabited α] [Inhabited β] (f : α → β) {l : List α} {i : Nat} (h : i < l.length) : (l.map f).getD i default = f (l.getD i default) := by
  rw [List.getD_eq_getElem?_getD, List.getD_eq_getElem?_getD, List.getElem?_map, List.getElem?_eq_getElem h]; rfl
theorem holds_real (b : Int) {l : List En} (hr : ∀ i, i < l.length → right (l.getD i default) = true) {i : Nat} (h : i < l.length) : holdsB b (rootF b (l.map enB)) (l.length : Nat) (i : Nat) ((l.map enB).getD i default) (pathD b (l.map enB) i) = true ∧ parseV ((l.map enB).getD i default) = l.getD i default := by
  rw [getD_mapd enB h]
  obtain ⟨h1, h2⟩ := whole_enB (hr i h)
  refine ⟨?_, h2⟩
  obtain ⟨p1, p2⟩ := path_root b l.length (l.map enB) i (by simp) h
  rw [getD_mapd enB h] at p2
  rw [holdsB, h1, Bool.true_and, checkZ_nat _ _ _ _ h, checkB, decide_eq_true p1, Bool.true_and, decide_eq_true p2]
/-- The two ends of a list let in just what is there or between two. -/
theorem covers_iff {l : List En} (hr : Rises l) (h0 : 0 < l.length) (k : List UInt8) : coversB (l.getD 0 default).key (l.getD (l.length - 1) default).key k = (hasK l k || (decide (placeN l k ≠ 0) && decide (placeN l k ≠ l.length))) := by
  have hp := placeN_le l k
  have a0 := place_at hr k h0
  have aL := place_at hr k (show l.length - 1 < l.length by omega)
  unfold coversB
  by_cases hz : placeN l k = 0
  · have h1 : lt (l.getD 0 default).key k = false := by
      rw [Bool.eq_false_iff]; intro h; have := a0.1 h; omega
    rw [h1, hz, Bool.false_or, has_place hr k, hz, decide_eq_true h0, Bool.true_and]
    by_cases he : (l.getD 0 default).key = k
    · rw [decide_eq_true he]
      simp only [Bool.true_and, ne_eq, not_true, decide_false, Bool.false_and, Bool.or_false]
      subst he
      by_cases h1 : l.length - 1 = 0
      · rw [h1]; simp
      · have : lt (l.getD 0 default).key (l.getD (l.length - 1) default).key = true := by
          have := List.pairwise_iff_getElem.1 hr 0 (l.length - 1) h0 (by omega) (by omega)
          rw [List.getD_eq_getElem?_getD, List.getElem?_eq_getElem h0, List.getD_eq_getElem?_getD, List.getElem?_eq_getElem (show l.length - 1 < l.length by omega)]
          exact this
        rw [this]; rfl
    · rw [decide_eq_false he]; simp
  · have h1 : lt (l.getD 0 default).key k = true := a0.2 (by omega)
    rw [h1, Bool.true_or, Bool.true_and, decide_eq_true (show placeN l k ≠ 0 from hz), Bool.true_and]
    by_cases hz2 : placeN l k = l.length
    · have h2 : lt (l.getD (l.length - 1) default).key k = true := aL.2 (by omega)
      rw [has_place hr k, hz2, lt_asymm h2, decide_eq_false (fun e => lt_ne h2 e.symm)]
      simp
    · rw [decide_eq_true (show placeN l k ≠ l.length from hz2), Bool.or_true]
      have h2 : lt (l.getD (l.length - 1) default).key k = false := by
        rw [Bool.eq_false_iff]; intro h; have := aL.1 h; omega
      cases h3 : lt k (l.getD (l.length - 1) default).key with
      | true => rfl
      | false => rw [lt_tri h3 h2]; simp
/-- A key lies between two neighbours just if its place is the second one's, and it is not there. -/
theorem gap_iff {l : List En} (hr : Rises l) {n : Nat} (h0 : 0 < n) (hn : n < l.length) (k : List UInt8) : (lt (l.getD (n - 1) default).key k = true ∧ lt k (l.getD n default).key = true) ↔ hasK l k = false ∧ placeN l k = n := by
  have hp := placeN_le l k
  have a1 := place_at hr k (show n - 1 < l.length by omega)
  have a2 := place_at hr k hn
  constructor
  · rintro ⟨h1, h2⟩
    have h3 := a1.1 h1
    have h4 : ¬ n < placeN l k := fun h => by
      have := lt_asymm (a2.2 h); rw [h2] at this; cases this
    have e : placeN l k = n := by omega
    refine ⟨?_, e⟩
    rw [has_place hr k, e, decide_eq_false (show ¬ (l.getD n default).key = k from fun h => lt_ne h2 h.symm), Bool.and_false]
  · rintro ⟨h1, h2⟩
    refine ⟨a1.2 (by omega), ?_⟩
    rw [has_place hr k, h2, decide_eq_true hn, Bool.true_and, decide_eq_false_iff_not] at h1
    have h3 : lt (l.getD n default).key k = false := by
      rw [Bool.eq_false_iff]; intro h; have := a2.1 h; omega
    cases h4 : lt k (l.getD n default).key with
    | true => rfl
    | false => exact absurd (lt_tri h3 h4) h1
/-- An entry's key is one of those that are asked for. -/
def inS (lo hi : List UInt8) (e : En) : Bool := !lt e.key lo && belowB e.key hi
theorem filter_span {l : List En} (hr : Rises l) (lo hi : List UInt8) : ((l.take (spTo l hi)).drop (spFrom l lo)).filter (inS lo hi) = l.filter (inS lo hi) := by
  have hp1 := placeN_le l lo
  have hp2 := placeN_le l hi
  have e1 : l.filter (inS lo hi) = (l.take (spTo l hi)).filter (inS lo hi) ++ (l.drop (spTo l hi)).filter (inS lo hi) := by rw [← List.filter_append, List.take_append_drop]
  have e2 : (l.take (spTo l hi)).filter (inS lo hi) = ((l.take (spTo l hi)).take (spFrom l lo)).filter (inS lo hi) ++ ((l.take (spTo l hi)).drop (spFrom l lo)).filter (inS lo hi) := by rw [← List.filter_append, List.take_append_drop]
  have e3 : ((l.take (spTo l hi)).take (spFrom l lo)).filter (inS lo hi) = [] := by
    rw [List.filter_eq_nil_iff]
    intro x hx
    obtain ⟨i, hi', hx⟩ := List.mem_iff_getElem.1 hx
    have h7 : i < spFrom l lo ∧ i < l.length := by
      simp only [List.length_take] at hi'; omega
    have e6 : x = l.getD i default := by
      rw [List.getElem_take, List.getElem_take] at hx
      rw [← hx, List.getD_eq_getElem?_getD, List.getElem?_eq_getElem h7.2]; rfl
    have h8 := (place_at hr lo h7.2).2 (by unfold spFrom at h7; omega)
    rw [e6, inS, h8]
    simp
  have e4 : (l.drop (spTo l hi)).filter (inS lo hi) = [] := by
    rw [List.filter_eq_nil_iff]
    intro x hx
    obtain ⟨i, hi', hx⟩ := List.mem_iff_getElem.1 hx
    have h6 : spTo l hi + i < l.length := by rw [List.length_drop] at hi'; omega
    have e6 : x = l.getD (spTo l hi + i) default := by
      rw [List.getElem_drop] at hx
      rw [← hx, List.getD_eq_getElem?_getD, List.getElem?_eq_getElem h6]; rfl
    have h7 : hi ≠ [] := by
      intro h; subst h; unfold spTo at h6; simp at h6; omega
    have h8 : lt (l.getD (spTo l hi + i) default).key hi = false := by
      rw [Bool.eq_false_iff]; intro h
      have := (place_at hr hi h6).1 h
      unfold spTo at this h6; rw [if_neg h7] at this h6; omega
    rw [e6, inS, belowB, decide_eq_false h7, h8]
    simp
  rw [e1, e2, e3, e4]
  simp
end Go.Ab
