/- The texts that this claim needs, part 8: a logic over abstract values, its steps, what the functions do. No condition of its own. -/
import Derived.Lib.Bytealg
import Derived.Test.YtobhbepiaibceaaSeekSpansK7
/- A key's place in a rising list, halved out; a block is read as it was written. No program in sight. -/
set_option linter.unusedVariables false
set_option linter.unusedSimpArgs false
namespace Go.Ab
theorem place_at {l : List En} (hr : Rises l) (k : List UInt8) : ∀ {i : Nat}, i < l.length → (lt (l.getD i default).key k = true ↔ i < placeN l k) := by
  induction l with
  | nil => intro i h; simp at h
  | cons y l ih =>
    obtain ⟨h1, h2⟩ := List.pairwise_cons.1 hr
    intro i hi
    cases hlt : lt y.key k with
    | true =>
      rw [place_cons hlt]
      cases i with
      | zero => simp [hlt]
      | succ i =>
        rw [List.getD_cons_succ, ih h2 (by simpa using hi)]
        omega
    | false =>
      rw [place_zero hr hlt]
      refine ⟨fun h => ?_, fun h => by omega⟩
      exfalso
      cases i with
      | zero => rw [List.getD_cons_zero, hlt] at h; cases h
      | succ i =>
        rw [List.getD_cons_succ] at h
        have hi' : i < l.length := by simpa using hi
        have hm : l.getD i default ∈ l := by rw [List.getD_eq_getElem?_getD, List.getElem?_eq_getElem hi']; exact List.getElem_mem _
        have := lt_trans' (h1 _ hm) h
        rw [this] at hlt; cases hlt
theorem has_place {l : List En} (hr : Rises l) (k : List UInt8) : hasK l k = (decide (placeN l k < l.length) && decide ((l.getD (placeN l k) default).key = k)) := by
  cases h : hasK l k with
  | true =>
    obtain ⟨a, b⟩ := place_lt hr h
    rw [decide_eq_true a, decide_eq_true b]; rfl
  | false =>
    by_cases h1 : placeN l k < l.length
    · by_cases h2 : (l.getD (placeN l k) default).key = k
      · exfalso
        unfold hasK at h
        rw [List.any_eq_false] at h
        refine h (l.getD (placeN l k) default) ?_ (by simpa using h2)
        rw [List.getD_eq_getElem?_getD, List.getElem?_eq_getElem h1]; exact List.getElem_mem _
      · rw [decide_eq_false h2, Bool.and_false]
    · rw [decide_eq_false h1, Bool.false_and]
theorem cmpK_lt (a b : List UInt8) : cmpK a b < 0 ↔ lt a b = true := by
  have := cmpK_neg a b
  cases h : lt a b with
  | true => rw [h] at this; refine ⟨fun _ => rfl, fun _ => ?_⟩; have : ¬ 0 ≤ cmpK a b := fun c => by have := this.1 c; cases this
            omega
  | false => have := this.2 h; exact ⟨fun c => by omega, fun c => by cases c⟩
theorem cmpK_zero (a b : List UInt8) : cmpK a b = 0 ↔ a = b := by
  unfold cmpK
  split
  · rename_i h
    exact ⟨fun c => by omega, fun c => by rw [c, lt_irrefl] at h; cases h⟩
  · split
    · rename_i h; exact ⟨fun _ => h, fun _ => rfl⟩
    · rename_i h; exact ⟨fun c => by omega, fun c => absurd c h⟩
theorem compare_cmpK : ∀ a b : List UInt8, Lib.compareBytes a b = cmpK a b
  | [], [] => by simp [Lib.compareBytes, cmpK, lt, Op.bytesLess]
  | [], y :: b => by simp [Lib.compareBytes, cmpK, lt, Op.bytesLess]
  | x :: a, [] => by simp [Lib.compareBytes, cmpK, lt, Op.bytesLess]
  | x :: a, y :: b => by
    have ih := compare_cmpK a b
    unfold Lib.compareBytes cmpK
    unfold cmpK at ih
    by_cases h1 : x < y
    · have h2 : lt (x :: a) (y :: b) = true := by simp [lt, Op.bytesLess, h1]
      simp [h1, h2]
    · by_cases h3 : x = y
      · subst h3
        have h4 : lt (x :: a) (x :: b) = lt a b := by simp [lt, Op.bytesLess]
        have h5 : ¬ x < x := UInt8.lt_irrefl x
        rw [h4]
        simp only [h5, if_false, List.cons.injEq, true_and]
        exact ih
      · have h6 : y < x := UInt8.lt_of_le_of_ne (UInt8.not_lt.1 h1) (Ne.symm h3)
        have h2 : lt (x :: a) (y :: b) = false := by simp [lt, Op.bytesLess, h1, h3]
        simp [h1, h6, h2, h3]
end Go.Ab
