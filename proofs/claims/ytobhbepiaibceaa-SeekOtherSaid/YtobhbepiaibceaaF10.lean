/- Layer 3: what is shown in any case, few entries; places of keys in a fold. -/
import Derived.Test.YtobhbepiaibceaaF9
set_option linter.unusedVariables false
set_option linter.unusedSimpArgs false
namespace Go.Ab
theorem place_iff {k : List UInt8} : ∀ {F : List En} {i : Nat}, Rises F → i < F.length → (lt (F.getD i default).key k = true ↔ i < placeN F k)
  | [], i, _, h => by simp at h
  | y :: l, i, hr, h => by
    obtain ⟨h1, h2⟩ := List.pairwise_cons.1 hr
    cases hlt : lt y.key k with
    | true =>
      rw [place_cons hlt]
      cases i with
      | zero => simp [hlt]
      | succ i =>
        have ih := place_iff (k := k) (i := i) h2 (by simpa using h)
        rw [List.getD_cons_succ, ih]
        omega
    | false =>
      rw [place_zero hr hlt]
      cases i with
      | zero => simp [hlt]
      | succ i =>
        rw [List.getD_cons_succ]
        refine ⟨fun hc => ?_, fun hc => by omega⟩
        have hm : l.getD i default ∈ l := by
          have hi : i < l.length := by simpa using h
          rw [List.getD_eq_getElem?_getD, List.getElem?_eq_getElem hi]
          exact List.getElem_mem hi
        have := lt_trans' (h1 _ hm) hc
        rw [hlt] at this
        cases this
theorem place_has {k : List UInt8} {F : List En} (hr : Rises F) : hasK F k = true ↔ placeN F k < F.length ∧ (F.getD (placeN F k) default).key = k := by
  refine ⟨place_lt hr, fun ⟨h1, h2⟩ => ?_⟩
  unfold hasK
  rw [List.any_eq_true]
  refine ⟨F.getD (placeN F k) default, ?_, by simpa using h2⟩
  rw [List.getD_eq_getElem?_getD, List.getElem?_eq_getElem h1]
  exact List.getElem_mem h1
end Go.Ab
