/- Folds of folds, and of parts. No program in sight. -/
import Derived.Test.YtobhbepiaibceaaSp4
set_option linter.unusedVariables false
set_option linter.unusedSimpArgs false
namespace Go.Ab
/-- One more of a key. -/
def stepK (k : List UInt8) (o : Option En) (e : En) : Option En := if e.key = k then some (newer o e) else o
def newest (k : List UInt8) (l : List En) : Option En := l.foldl (stepK k) none
def comb : Option En → Option En → Option En
  | o, none => o
  | o, some x => some (newer o x)
theorem getE_fold (k : List UInt8) (l : List En) : getE k (foldE l) = newest k l := by
  unfold foldE newest
  suffices h : ∀ F, Rises F → getE k (l.foldl (fun F e => putE e F) F) = l.foldl (stepK k) (getE k F) from h [] (by simp)
  induction l with
  | nil => exact fun F _ => rfl
  | cons e l ih =>
    intro F hF
    rw [List.foldl_cons, List.foldl_cons, ih _ (putE_rises hF), getE_put hF]
    rfl
theorem comb_step (k : List UInt8) (o y : Option En) (e : En) : comb (stepK k o e) y = comb o (comb (stepK k none e) y) := by
  unfold stepK
  by_cases h : e.key = k
  · rw [if_pos h, if_pos h]
    cases y with
    | none => cases o <;> rfl
    | some y =>
      cases o with
      | none => rfl
      | some o =>
        simp only [comb, newer]
        by_cases h1 : o.seq ≤ e.seq <;> by_cases h2 : e.seq ≤ y.seq <;> by_cases h3 : o.seq ≤ y.seq <;> simp [h1, h2, h3] <;> omega
  · rw [if_neg h, if_neg h]
    cases y <;> cases o <;> rfl
theorem foldl_comb (k : List UInt8) : ∀ (l : List En) (o : Option En), l.foldl (stepK k) o = comb o (newest k l)
  | [], o => rfl
  | e :: l, o => by
    unfold newest
    rw [List.foldl_cons, List.foldl_cons, foldl_comb k l, foldl_comb k l (stepK k none e)]
    exact comb_step k o _ e
theorem newest_cons (k : List UInt8) (e : En) (l : List En) : newest k (e :: l) = comb (stepK k none e) (newest k l) := by
  rw [← foldl_comb]; rfl
theorem newest_append (k : List UInt8) (a b : List En) : newest k (a ++ b) = comb (newest k a) (newest k b) := by
  rw [← foldl_comb]
  unfold newest
  rw [List.foldl_append]
theorem newest_rises {k : List UInt8} : ∀ {F : List En}, Rises F → newest k F = getE k F
  | [], _ => rfl
  | y :: l, h => by
    obtain ⟨h1, h2⟩ := List.pairwise_cons.1 h
    rw [newest_cons, newest_rises h2]
    unfold stepK
    by_cases hy : y.key = k
    · have hn : getE k l = none := getE_lt fun x hx => by rw [← hy]; exact h1 x hx
      rw [if_pos hy, hn]
      simp [comb, newer, getE, hy]
    · rw [if_neg hy]
      have e1 : getE k (y :: l) = getE k l := by simp [getE, hy]
      rw [e1]
      cases getE k l <;> rfl
theorem foldE_of_rises {F : List En} (h : Rises F) : foldE F = F := rises_ext' (foldE_rises F) h fun k => by rw [getE_fold, newest_rises h]
theorem foldE_fold (l : List En) : foldE (foldE l) = foldE l := foldE_of_rises (foldE_rises l)
theorem foldE_parts (a b : List En) : foldE (foldE a ++ foldE b) = foldE (a ++ b) := rises_ext' (foldE_rises _) (foldE_rises _) fun k => by
  rw [getE_fold, getE_fold, newest_append, newest_append, newest_rises (foldE_rises a), newest_rises (foldE_rises b), getE_fold, getE_fold]
theorem newest_ge {k : List UInt8} : ∀ {l : List En} {e : En}, e ∈ l → e.key = k → ∃ x, newest k l = some x ∧ e.seq ≤ x.seq
  | [], e, h, _ => by cases h
  | y :: l, e, h, hk => by
    rw [newest_cons]
    rcases List.mem_cons.1 h with rfl | h
    · unfold stepK
      rw [if_pos hk]
      cases newest k l with
      | none => exact ⟨e, rfl, Int.le_refl _⟩
      | some x =>
        simp only [comb, newer]
        by_cases h1 : e.seq ≤ x.seq
        · exact ⟨x, by simp [h1], h1⟩
        · exact ⟨e, by simp [h1], Int.le_refl _⟩
    · obtain ⟨x, hx, hs⟩ := newest_ge h hk
      rw [hx]
      refine ⟨_, rfl, ?_⟩
      unfold stepK
      by_cases hy : y.key = k
      · rw [if_pos hy]
        have e1 : newer (some (newer none y)) x = if y.seq ≤ x.seq then x else y := rfl
        rw [e1]
        by_cases h1 : y.seq ≤ x.seq
        · rw [if_pos h1]; exact hs
        · rw [if_neg h1]; omega
      · rw [if_neg hy]
        exact hs
/-- Each key of what is folded is there, with a number that is not less. -/
theorem foldE_has {l : List En} {e : En} (h : e ∈ l) : hasK (foldE l) e.key = true ∧ placeN (foldE l) e.key < (foldE l).length ∧ ((foldE l).getD (placeN (foldE l) e.key) default).key = e.key ∧ e.seq ≤ ((foldE l).getD (placeN (foldE l) e.key) default).seq := by
  have hr := foldE_rises l
  obtain ⟨x, hx, hs⟩ := newest_ge h rfl
  rw [← getE_fold] at hx
  have hm := getE_mem hx
  have hh : hasK (foldE l) e.key = true := by
    unfold hasK
    rw [List.any_eq_true]
    exact ⟨x, hm.1, by simpa using hm.2⟩
  obtain ⟨h1, h2⟩ := place_lt hr hh
  refine ⟨hh, h1, h2, ?_⟩
  have hmem : (foldE l).getD (placeN (foldE l) e.key) default ∈ foldE l := by
    rw [List.getD_eq_getElem?_getD, List.getElem?_eq_getElem h1]
    exact List.getElem_mem h1
  have := getE_of_mem hr hmem
  rw [h2, hx] at this
  cases this
  exact hs
theorem foldE_sorted (l : List En) : sorted (foldE l) = true := (sorted_iff _).2 (foldE_rises l)
end Go.Ab
