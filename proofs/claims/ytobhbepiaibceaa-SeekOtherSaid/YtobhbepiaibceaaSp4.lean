/- Tables of entries by their keys, and what a walk over one gathers. No program in sight. -/
import Derived.Test.YtobhbepiaibceaaB4
import Derived.Test.YtobhbepiaibceaaSp3
set_option linter.unusedVariables false
set_option linter.unusedSimpArgs false
namespace Go.Ab
section tables
variable {κ α : Type} [DecidableEq κ]
theorem findT_set (k k' : κ) (v : α) (c : Nat) : ∀ L : List (Nat × κ × α), findT k' (setT k v c L) = if k' = k then some v else findT k' L
  | [] => by
    by_cases h : k' = k <;> simp [setT, findT, h]
  | x :: L => by
    have ih := findT_set k k' v c L
    unfold findT at ih
    by_cases hx : k = x.2.1
    · subst hx
      by_cases h : k' = x.2.1 <;> simp [setT, findT, h]
    · simp only [setT, decide_eq_false hx, cond_false]
      by_cases h : k' = x.2.1
      · have : ¬ k' = k := fun e => hx (e.symm.trans h)
        simp [findT, h, Ne.symm hx]
      · simp only [findT, List.find?_cons, decide_eq_false h]
        exact ih
theorem births_set (k : κ) (v : α) (c : Nat) : ∀ L : List (Nat × κ × α), (setT k v c L).map (·.1) = if hasT k L = true then L.map (·.1) else L.map (·.1) ++ [c]
  | [] => by simp [setT, hasT]
  | x :: L => by
    have ih := births_set k v c L
    by_cases hx : k = x.2.1
    · simp [setT, hasT, hx]
    · simp only [setT, decide_eq_false hx, cond_false, List.map_cons, ih, hasT, List.any_cons, Bool.false_or]
      by_cases h : (L.any fun x => decide (k = x.2.1)) = true <;> simp [h]
theorem keys_set (k : κ) (v : α) (c : Nat) : ∀ L : List (Nat × κ × α), (setT k v c L).map (·.2.1) = if hasT k L = true then L.map (·.2.1) else L.map (·.2.1) ++ [k]
  | [] => by simp [setT, hasT]
  | x :: L => by
    have ih := keys_set k v c L
    by_cases hx : k = x.2.1
    · simp [setT, hasT, hx]
    · simp only [setT, decide_eq_false hx, cond_false, List.map_cons, ih, hasT, List.any_cons, Bool.false_or]
      by_cases h : (L.any fun x => decide (k = x.2.1)) = true <;> simp [h]
theorem mem_set {k : κ} {v : α} {c : Nat} : ∀ {L : List (Nat × κ × α)} {x : Nat × κ × α}, x ∈ setT k v c L → x ∈ L ∨ (x.2.1 = k ∧ x.2.2 = v)
  | [], x, h => by simp [setT] at h; subst h; exact .inr ⟨rfl, rfl⟩
  | y :: L, x, h => by
    unfold setT at h
    cases hd : decide (k = y.2.1) with
    | true =>
      rw [hd, cond_true] at h
      rcases List.mem_cons.1 h with rfl | h
      · exact .inr ⟨(of_decide_eq_true hd).symm, rfl⟩
      · exact .inl (List.mem_cons_of_mem _ h)
    | false =>
      rw [hd, cond_false] at h
      rcases List.mem_cons.1 h with rfl | h
      · exact .inl List.mem_cons_self
      · rcases mem_set h with h | h
        · exact .inl (List.mem_cons_of_mem _ h)
        · exact .inr h
theorem hasT_iff (k : κ) (L : List (Nat × κ × α)) : hasT k L = true ↔ k ∈ L.map (·.2.1) := by
  unfold hasT
  rw [List.any_eq_true]
  constructor
  · rintro ⟨x, hx, h⟩
    exact List.mem_map.2 ⟨x, hx, (of_decide_eq_true h).symm⟩
  · intro h
    obtain ⟨x, hx, e⟩ := List.mem_map.1 h
    exact ⟨x, hx, decide_eq_true e.symm⟩
theorem findT_mem {L : List (Nat × κ × α)} {k : κ} {v : α} (h : findT k L = some v) : ∃ x ∈ L, x.2.1 = k ∧ x.2.2 = v := by
  unfold findT at h
  obtain ⟨x, h1, h2⟩ := Option.map_eq_some_iff.1 h
  have h3 := List.find?_some h1
  exact ⟨x, List.mem_of_find?_eq_some h1, (of_decide_eq_true h3).symm, h2⟩
theorem findT_of_mem : ∀ {L : List (Nat × κ × α)} {x : Nat × κ × α}, (L.map (·.2.1)).Nodup → x ∈ L → findT x.2.1 L = some x.2.2
  | [], x, _, h => by cases h
  | y :: L, x, hn, h => by
    obtain ⟨h1, h2⟩ := List.nodup_cons.1 hn
    rcases List.mem_cons.1 h with rfl | h
    · simp [findT]
    · have hne : ¬ x.2.1 = y.2.1 := fun e => h1 (List.mem_map.2 ⟨x, h, e⟩)
      have ih := findT_of_mem h2 h
      simp only [findT, List.find?_cons, decide_eq_false hne] at ih ⊢
      exact ih
end tables
/-- Of a table whose births differ, one more is taken. -/
theorem left_take {κ α : Type} : ∀ {L : List (Nat × κ × α)} {seen : List Nat} {x : Nat × κ × α}, (L.map (·.1)).Nodup → x ∈ leftT L seen → (leftT L seen).Perm (x :: leftT L (seen ++ [x.1]))
  | [], seen, x, _, h => by simp [leftT] at h
  | y :: L, seen, x, hn, h => by
    obtain ⟨h1, h2⟩ := List.nodup_cons.1 hn
    unfold leftT at h ⊢
    by_cases hy : seen.contains y.1 = true
    · have hy2 : (seen ++ [x.1]).contains y.1 = true := by rw [List.contains_iff_mem] at hy ⊢; exact List.mem_append_left _ hy
      rw [List.filter_cons_of_neg (by simpa using hy)] at h ⊢
      rw [List.filter_cons_of_neg (by rw [hy2]; decide)]
      exact left_take h2 h
    · rw [List.filter_cons_of_pos (by simpa using hy)] at h ⊢
      rcases List.mem_cons.1 h with rfl | hx
      · rw [List.filter_cons_of_neg (by simp)]
        refine List.Perm.cons _ (List.Perm.of_eq ?_)
        apply List.filter_congr
        intro z hz
        have hne : ¬ z.1 = x.1 := fun e => h1 (List.mem_map.2 ⟨z, hz, e⟩)
        simp [hne]
      · have hne : ¬ y.1 = x.1 := fun e => h1 (List.mem_map.2 ⟨x, (List.mem_filter.1 hx).1, e.symm⟩)
        have hy2 : ¬ (seen ++ [x.1]).contains y.1 = true := by
          rw [List.contains_iff_mem] at hy ⊢
          intro h3
          rcases List.mem_append.1 h3 with h3 | h3
          · exact hy h3
          · exact hne (List.mem_singleton.1 h3)
        rw [List.filter_cons_of_pos (by simpa using hy2)]
        exact ((left_take h2 hx).cons y).trans (List.Perm.swap _ _ _)
theorem left_nil {κ α : Type} (L : List (Nat × κ × α)) : leftT L [] = L := by simp [leftT]

/-- A table that holds a rising list. -/
structure Tbl (L : List (Nat × List UInt8 × En)) (c : Nat) (F : List En) : Prop where
  nb : (L.map (·.1)).Nodup
  lt : ∀ x ∈ L, x.1 < c
  nk : (L.map (·.2.1)).Nodup
  key : ∀ x ∈ L, x.2.2.key = x.2.1
  find : ∀ k, findT k L = getE k F
theorem Tbl.nil : Tbl [] 0 [] := ⟨List.nodup_nil, by simp, List.nodup_nil, by simp, fun _ => rfl⟩
theorem Tbl.keep {L : List (Nat × List UInt8 × En)} {c : Nat} {F : List En} (h : Tbl L c F) (hF : Rises F) {e x : En} (hx : findT e.key L = some x) (hs : ¬ x.seq ≤ e.seq) : Tbl L c (putE e F) := by
  refine ⟨h.nb, h.lt, h.nk, h.key, fun k => ?_⟩
  rw [getE_put hF, h.find]
  split
  · rename_i hk
    subst hk
    rw [← h.find, hx]
    simp [newer, hs]
  · rfl
theorem Tbl.set {L : List (Nat × List UInt8 × En)} {c : Nat} {F : List En} (h : Tbl L c F) (hF : Rises F) {e : En} (hs : ∀ x, findT e.key L = some x → x.seq ≤ e.seq) : Tbl (setT e.key e c L) (bif hasT e.key L then c else c + 1) (putE e F) := by
  have hb := births_set e.key e c L
  have hk := keys_set e.key e c L
  refine ⟨?_, fun x hx => ?_, ?_, fun x hx => ?_, fun k => ?_⟩
  · rw [hb]
    split
    · exact h.nb
    · rw [List.nodup_append]
      refine ⟨h.nb, by simp, fun a ha b hb2 e => ?_⟩
      rw [List.mem_singleton] at hb2
      obtain ⟨x, hx, rfl⟩ := List.mem_map.1 ha
      have := h.lt x hx
      omega
  · have hm : x.1 ∈ (setT e.key e c L).map (·.1) := List.mem_map.2 ⟨x, hx, rfl⟩
    rw [hb] at hm
    cases hh : hasT e.key L with
    | true =>
      rw [if_pos hh] at hm
      obtain ⟨y, hy, e1⟩ := List.mem_map.1 hm
      rw [← e1]
      exact h.lt y hy
    | false =>
      rw [if_neg (by rw [hh]; decide)] at hm
      rcases List.mem_append.1 hm with hm | hm
      · obtain ⟨y, hy, e1⟩ := List.mem_map.1 hm
        have := h.lt y hy
        show x.1 < c + 1
        omega
      · rw [List.mem_singleton] at hm
        show x.1 < c + 1
        omega
  · rw [hk]
    split
    · exact h.nk
    · rename_i hh
      rw [List.nodup_append]
      refine ⟨h.nk, by simp, fun a ha b hb2 e1 => ?_⟩
      rw [List.mem_singleton] at hb2
      subst hb2; subst e1
      exact hh ((hasT_iff _ _).2 ha)
  · rcases mem_set hx with hx | ⟨h1, h2⟩
    · exact h.key x hx
    · rw [h1, h2]
  · rw [findT_set, getE_put hF]
    by_cases hke : k = e.key
    · subst hke
      rw [if_pos rfl, if_pos rfl, ← h.find]
      cases hf : findT e.key L with
      | none => rfl
      | some x => simp [newer, hs x hf]
    · rw [if_neg hke, if_neg (fun h => hke h.symm), h.find]
/-- What was gathered off the table, sorted, is the list. -/
theorem Tbl.sorted {L : List (Nat × List UInt8 × En)} {c : Nat} {F o : List En} (h : Tbl L c F) (hF : Rises F) (hp : o.Perm (L.map (·.2.2))) (hs : o.Pairwise fun a b => Ab.lt b.key a.key = false) : o = F := by
  have hk : (o.map (·.key)).Nodup := by
    refine ((hp.map (·.key)).nodup_iff).2 ?_
    rw [List.map_map]
    have : L.map ((·.key) ∘ (·.2.2)) = L.map (·.2.1) := List.map_congr_left fun x hx => h.key x hx
    rw [this]
    exact h.nk
  have hr : Rises o := by
    clear hp
    induction o with
    | nil => exact List.Pairwise.nil
    | cons a o ih =>
      obtain ⟨s1, s2⟩ := List.pairwise_cons.1 hs
      obtain ⟨k1, k2⟩ := List.nodup_cons.1 hk
      refine List.pairwise_cons.2 ⟨fun b hb => ?_, ih s2 k2⟩
      cases hab : Ab.lt a.key b.key with
      | true => rfl
      | false =>
        have e := lt_tri hab (s1 b hb)
        exact absurd (List.mem_map.2 ⟨b, hb, e.symm⟩) k1
  refine rises_ext hr hF fun x => ?_
  rw [hp.mem_iff]
  constructor
  · intro hx
    obtain ⟨y, hy, rfl⟩ := List.mem_map.1 hx
    have := findT_of_mem h.nk hy
    rw [h.find] at this
    exact (getE_mem this).1
  · intro hx
    have := getE_of_mem hF hx
    rw [← h.find] at this
    obtain ⟨y, hy, _, rfl⟩ := findT_mem this
    exact List.mem_map.2 ⟨y, hy, rfl⟩
theorem setT_length {κ α : Type} [DecidableEq κ] (k : κ) (v : α) (c : Nat) : ∀ L : List (Nat × κ × α), (setT k v c L).length ≤ L.length + 1
  | [] => by simp [setT]
  | x :: L => by
    have ih := setT_length k v c L
    unfold setT
    cases decide (k = x.2.1) with
    | true => simp
    | false => simp only [cond_false, List.length_cons]; omega
end Go.Ab
