/- What writes come to, and one more write. No program in sight. -/
import Derived.Test.YtopmpooglnfalaaF12
import Derived.Test.YtopmpooglnfalaaSp8
set_option linter.unusedVariables false
set_option linter.unusedSimpArgs false
namespace Go.Ab
theorem getE_filter {k : List UInt8} {p : En → Bool} : ∀ {F : List En}, Rises F → getE k (F.filter p) = (getE k F).filter p
  | [], _ => rfl
  | y :: l, h => by
    obtain ⟨h1, h2⟩ := List.pairwise_cons.1 h
    have ih := getE_filter (k := k) (p := p) h2
    by_cases hy : y.key = k
    · have hn : getE k l = none := getE_lt fun x hx => by rw [← hy]; exact h1 x hx
      have e1 : getE k (y :: l) = some y := by simp [getE, hy]
      rw [e1]
      cases hp : p y with
      | true =>
        rw [List.filter_cons_of_pos hp]
        simp [getE, hy, Option.filter, hp]
      | false =>
        rw [List.filter_cons_of_neg (by rw [hp]; decide), ih, hn]
        simp [Option.filter, hp]
    · have e1 : getE k (y :: l) = getE k l := by simp [getE, hy]
      rw [e1, ← ih]
      cases hp : p y with
      | true => rw [List.filter_cons_of_pos hp]; simp [getE, hy]
      | false => rw [List.filter_cons_of_neg (by rw [hp]; decide)]
theorem mapE_rises (l : List En) : Rises (mapE l) := (foldE_rises l).sublist List.filter_sublist
theorem getE_map (k : List UInt8) (l : List En) : getE k (mapE l) = (newest k l).filter fun e => !e.del := by
  unfold mapE
  rw [getE_filter (foldE_rises l), getE_fold]
/-- One more write, with a greater number than all. -/
theorem getE_more {l : List En} {e : En} (h : ∀ x ∈ l, x.seq ≤ e.seq) (k : List UInt8) : getE k (mapE (l ++ [e])) = if e.key = k then (if e.del = true then none else some e) else getE k (mapE l) := by
  rw [getE_map, getE_map, newest_append]
  have e1 : newest k [e] = if e.key = k then some e else none := by
    unfold newest stepK
    by_cases hk : e.key = k <;> simp [hk, newer]
  rw [e1]
  by_cases hk : e.key = k
  · rw [if_pos hk, if_pos hk]
    have e2 : comb (newest k l) (some e) = some e := by
      cases hn : newest k l with
      | none => rfl
      | some x =>
        have hx : x ∈ l := by
          rw [← getE_fold] at hn
          have := getE_mem hn
          have hm : ∀ (l : List En) (F : List En), (∀ y ∈ F, y ∈ F) → ∀ y ∈ l.foldl (fun F e => putE e F) F, y ∈ l ∨ y ∈ F := by
            intro l
            induction l with
            | nil => intro F _ y hy; exact .inr hy
            | cons a l ih =>
              intro F _ y hy
              rcases ih (putE a F) (fun _ h => h) y hy with h | h
              · exact .inl (List.mem_cons_of_mem _ h)
              · rcases putE_key h with h | h
                · exact .inl (by rw [h]; exact List.mem_cons_self)
                · exact .inr h
          rcases hm l [] (fun _ h => h) x this.1 with h | h
          · exact h
          · cases h
        simp [comb, newer, h x hx]
    rw [e2]
    cases hd : e.del <;> simp [Option.filter, hd]
  · rw [if_neg hk, if_neg hk]
    cases newest k l <;> rfl
/-- All other keys are as they were. -/
theorem more_rest {l : List En} {e : En} (h : ∀ x ∈ l, x.seq ≤ e.seq) : (mapE (l ++ [e])).filter (fun x => decide (¬ x.key = e.key)) = (mapE l).filter (fun x => decide (¬ x.key = e.key)) := by
  refine rises_ext' ((mapE_rises _).sublist List.filter_sublist) ((mapE_rises _).sublist List.filter_sublist) fun k => ?_
  rw [getE_filter (mapE_rises _), getE_filter (mapE_rises _), getE_more h]
  by_cases hk : e.key = k
  · subst hk
    rw [if_pos rfl]
    have z : ∀ o : Option En, (∀ x, o = some x → x.key = e.key) → o.filter (fun x => decide (¬ x.key = e.key)) = none := by
      intro o ho
      cases o with
      | none => rfl
      | some x => simp [Option.filter, ho x rfl]
    rw [z _ fun x hx => (getE_mem hx).2]
    refine z _ fun x hx => ?_
    split at hx
    · cases hx
    · cases hx; rfl
  · rw [if_neg hk]
theorem more_has {l : List En} {e : En} (h : ∀ x ∈ l, x.seq ≤ e.seq) : hasK (mapE (l ++ [e])) e.key = !e.del := by
  have g := getE_more h e.key
  rw [if_pos rfl] at g
  cases hd : e.del with
  | true =>
    rw [hd, if_pos rfl] at g
    cases hh : hasK (mapE (l ++ [e])) e.key with
    | false => rfl
    | true =>
      unfold hasK at hh
      rw [List.any_eq_true] at hh
      obtain ⟨x, hx, hxe⟩ := hh
      have hxe : x.key = e.key := by simpa using hxe
      have := getE_of_mem (mapE_rises _) hx
      rw [hxe, g] at this
      cases this
  | false =>
    rw [hd, if_neg (by decide)] at g
    have hm := getE_mem g
    unfold hasK
    rw [List.any_eq_true.2 ⟨e, hm.1, by simp⟩]
    rfl
theorem more_at {l : List En} {e : En} (h : ∀ x ∈ l, x.seq ≤ e.seq) (hd : e.del = false) : placeN (mapE (l ++ [e])) e.key < (mapE (l ++ [e])).length ∧ (mapE (l ++ [e])).getD (placeN (mapE (l ++ [e])) e.key) default = e := by
  have hh := more_has h
  rw [hd] at hh
  obtain ⟨h1, h2⟩ := place_lt (mapE_rises _) hh
  refine ⟨h1, ?_⟩
  have hmem : (mapE (l ++ [e])).getD (placeN (mapE (l ++ [e])) e.key) default ∈ mapE (l ++ [e]) := by
    rw [List.getD_eq_getElem?_getD, List.getElem?_eq_getElem h1]
    exact List.getElem_mem h1
  have := getE_of_mem (mapE_rises _) hmem
  rw [h2, getE_more h, if_pos rfl, hd, if_neg (by decide)] at this
  exact (Option.some.inj this).symm
/-- Where the next one stands, that of one key skipped. -/
theorem skip_key {N W : List En} {k : List UInt8} {a i : Nat} (hN : Rises N) (hi : i < W.length) (hx : ¬ (W.getD i default).key = k) (hJ : (N.drop a).filter (fun x => decide (¬ x.key = k)) = (W.drop i).filter (fun x => decide (¬ x.key = k))) :
    a < N.length ∧ ((N.getD a default).key = k → a + 1 < N.length ∧ N.getD (a + 1) default = W.getD i default ∧ (N.drop (a + 1 + 1)).filter (fun x => decide (¬ x.key = k)) = (W.drop (i + 1)).filter (fun x => decide (¬ x.key = k))) ∧
    (¬ (N.getD a default).key = k → N.getD a default = W.getD i default ∧ (N.drop (a + 1)).filter (fun x => decide (¬ x.key = k)) = (W.drop (i + 1)).filter (fun x => decide (¬ x.key = k))) := by
  rw [drop_cons_d hi, List.filter_cons_of_pos (by simpa using hx)] at hJ
  have step : ∀ a, (N.drop a).filter (fun x => decide (¬ x.key = k)) = W.getD i default :: (W.drop (i + 1)).filter (fun x => decide (¬ x.key = k)) → a < N.length := by
    intro a h
    rcases Nat.lt_or_ge a N.length with h1 | h1
    · exact h1
    · rw [List.drop_eq_nil_of_le h1] at h
      cases h
  have ha := step a hJ
  refine ⟨ha, fun hk => ?_, fun hk => ?_⟩
  · rw [drop_cons_d ha, List.filter_cons_of_neg (by simpa using hk)] at hJ
    have hb := step (a + 1) hJ
    rw [drop_cons_d hb] at hJ
    have hne : ¬ (N.getD (a + 1) default).key = k := by
      have hr : Rises (N.drop a) := hN.sublist (List.drop_sublist _ _)
      rw [drop_cons_d ha, drop_cons_d hb] at hr
      have := (List.pairwise_cons.1 hr).1 _ List.mem_cons_self
      rw [hk] at this
      exact fun e => lt_ne this e.symm
    rw [List.filter_cons_of_pos (by simpa using hne)] at hJ
    obtain ⟨e1, e2⟩ := List.cons.inj hJ
    exact ⟨hb, e1, e2⟩
  · rw [drop_cons_d ha, List.filter_cons_of_pos (by simpa using hk)] at hJ
    exact List.cons.inj hJ
end Go.Ab
