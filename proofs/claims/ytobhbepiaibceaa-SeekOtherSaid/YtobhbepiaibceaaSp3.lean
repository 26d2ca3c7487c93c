/- The order of keys; what a fold is. No program in sight. -/
import Derived.Test.YtobhbepiaibceaaSp2
set_option linter.unusedVariables false
set_option linter.unusedSimpArgs false
namespace Go.Ab
theorem lt_asymm : ∀ {a b : List UInt8}, lt a b = true → lt b a = false
  | [], [], h => by simp [lt, Op.bytesLess] at h
  | [], b :: bs, h => by simp [lt, Op.bytesLess]
  | a :: as, [], h => by simp [lt, Op.bytesLess] at h
  | a :: as, b :: bs, h => by
    simp only [lt, Op.bytesLess, Bool.or_eq_true, decide_eq_true_eq, Bool.and_eq_true, beq_iff_eq] at h
    simp only [lt, Op.bytesLess, Bool.or_eq_false_iff, decide_eq_false_iff_not, Bool.and_eq_false_iff]
    rcases h with h | ⟨rfl, h⟩
    · refine ⟨by simp only [UInt8.lt_iff_toNat_lt] at h ⊢; omega, .inl ?_⟩
      have : ¬ b = a := fun e => by subst e; simp only [UInt8.lt_iff_toNat_lt] at h; omega
      simpa using this
    · exact ⟨by simp only [UInt8.lt_iff_toNat_lt]; omega, .inr (lt_asymm h)⟩
theorem lt_trans' : ∀ {a b c : List UInt8}, lt a b = true → lt b c = true → lt a c = true
  | _, [], [], h, k => by simp [lt, Op.bytesLess] at k
  | _, b :: bs, [], h, k => by simp [lt, Op.bytesLess] at k
  | [], _, c :: cs, h, k => by simp [lt, Op.bytesLess]
  | a :: as, [], c :: cs, h, k => by simp [lt, Op.bytesLess] at h
  | a :: as, b :: bs, c :: cs, h, k => by
    simp only [lt, Op.bytesLess, Bool.or_eq_true, decide_eq_true_eq, Bool.and_eq_true, beq_iff_eq, UInt8.lt_iff_toNat_lt] at h k ⊢
    rcases h with h | ⟨rfl, h⟩ <;> rcases k with k | ⟨rfl, k⟩
    · exact .inl (by omega)
    · exact .inl h
    · exact .inl k
    · exact .inr ⟨rfl, lt_trans' h k⟩
theorem lt_tri : ∀ {a b : List UInt8}, lt a b = false → lt b a = false → a = b
  | [], [], h, k => rfl
  | [], b :: bs, h, k => by simp [lt, Op.bytesLess] at h
  | a :: as, [], h, k => by simp [lt, Op.bytesLess] at k
  | a :: as, b :: bs, h, k => by
    simp only [lt, Op.bytesLess, Bool.or_eq_false_iff, decide_eq_false_iff_not, Bool.and_eq_false_iff, UInt8.lt_iff_toNat_lt] at h k
    have e : a = b := UInt8.toNat_inj.1 (by omega)
    subst e
    have h2 : lt as bs = false := by rcases h.2 with h | h; simp at h; exact h
    have k2 : lt bs as = false := by rcases k.2 with h | h; simp at h; exact h
    rw [lt_tri h2 k2]
theorem lt_ne {a b : List UInt8} (h : lt a b = true) : a ≠ b := fun e => by subst e; rw [lt_irrefl] at h; cases h
theorem lt_of_ge {a b c : List UInt8} (h : lt b a = false) (k : lt b c = true) : lt a c = true := by
  cases hc : lt a b with
  | true => exact lt_trans' hc k
  | false => rw [lt_tri hc h]; exact k
abbrev Rises (l : List En) : Prop := l.Pairwise fun a b => lt a.key b.key = true
theorem sorted_iff : ∀ l : List En, sorted l = true ↔ Rises l
  | [] => by simp [sorted]
  | [a] => by simp [sorted]
  | a :: b :: l => by
    have ih := sorted_iff (b :: l)
    simp only [sorted, Bool.and_eq_true, ih, Rises]
    constructor
    · rintro ⟨h1, h2⟩
      refine List.pairwise_cons.2 ⟨fun c hc => ?_, h2⟩
      rcases List.mem_cons.1 hc with rfl | hc
      · exact h1
      · exact lt_trans' h1 ((List.pairwise_cons.1 h2).1 c hc)
    · intro h
      exact ⟨(List.pairwise_cons.1 h).1 b List.mem_cons_self, (List.pairwise_cons.1 h).2⟩

/-- An entry put into a rising list. -/
def putE (e : En) : List En → List En
  | [] => [e]
  | x :: l => if lt x.key e.key = true then x :: putE e l else if x.key = e.key then (if x.seq ≤ e.seq then e :: l else x :: l) else e :: x :: l
def foldE (l : List En) : List En := l.foldl (fun F e => putE e F) []
/-- What a list has of a key. -/
def getE (k : List UInt8) (F : List En) : Option En := F.find? fun x => decide (x.key = k)
theorem foldE_snoc (l : List En) (e : En) : foldE (l ++ [e]) = putE e (foldE l) := by simp [foldE, List.foldl_append]
theorem putE_key {e : En} : ∀ {F : List En} {x : En}, x ∈ putE e F → x = e ∨ x ∈ F
  | [], x, h => by simp [putE] at h; exact .inl h
  | y :: l, x, h => by
    unfold putE at h
    split at h
    · rcases List.mem_cons.1 h with rfl | h
      · exact .inr List.mem_cons_self
      · rcases putE_key h with h | h
        · exact .inl h
        · exact .inr (List.mem_cons_of_mem _ h)
    · split at h
      · split at h
        · rcases List.mem_cons.1 h with h | h
          · exact .inl h
          · exact .inr (List.mem_cons_of_mem _ h)
        · exact .inr h
      · rcases List.mem_cons.1 h with h | h
        · exact .inl h
        · exact .inr h
theorem putE_rises {e : En} : ∀ {F : List En}, Rises F → Rises (putE e F)
  | [], _ => by simp [putE]
  | y :: l, h => by
    obtain ⟨h1, h2⟩ := List.pairwise_cons.1 h
    unfold putE
    split
    · rename_i hlt
      refine List.pairwise_cons.2 ⟨fun x hx => ?_, putE_rises h2⟩
      rcases putE_key hx with rfl | hx
      · exact hlt
      · exact h1 x hx
    · rename_i hlt
      split
      · rename_i he
        split
        · exact List.pairwise_cons.2 ⟨fun x hx => by rw [← he]; exact h1 x hx, h2⟩
        · exact h
      · rename_i hne
        have hle : lt e.key y.key = true := by
          cases hc : lt e.key y.key with
          | true => rfl
          | false => exact absurd (lt_tri (by simpa using hlt) hc) hne
        refine List.pairwise_cons.2 ⟨fun x hx => ?_, h⟩
        rcases List.mem_cons.1 hx with rfl | hx
        · exact hle
        · exact lt_trans' hle (h1 x hx)
theorem foldE_rises (l : List En) : Rises (foldE l) := by
  unfold foldE
  suffices h : ∀ F, Rises F → Rises (l.foldl (fun F e => putE e F) F) from h [] (by simp)
  induction l with
  | nil => exact fun F h => h
  | cons e l ih => exact fun F h => ih _ (putE_rises h)
/-- The later one of two, by their numbers. -/
def newer (o : Option En) (e : En) : En := match o with
  | none => e
  | some x => if x.seq ≤ e.seq then e else x
theorem getE_lt {k : List UInt8} : ∀ {F : List En}, (∀ x ∈ F, lt k x.key = true) → getE k F = none
  | [], _ => rfl
  | y :: l, h => by
    have : ¬ y.key = k := fun e => lt_ne (h y List.mem_cons_self) e.symm
    unfold getE
    rw [List.find?_cons_of_neg (by simpa using this)]
    exact getE_lt fun x hx => h x (List.mem_cons_of_mem _ hx)
theorem getE_put {e : En} {k : List UInt8} : ∀ {F : List En}, Rises F → getE k (putE e F) = if e.key = k then some (newer (getE k F) e) else getE k F
  | [], _ => by
    unfold putE getE
    by_cases h : e.key = k <;> simp [h, newer]
  | y :: l, h => by
    obtain ⟨h1, h2⟩ := List.pairwise_cons.1 h
    have ih := getE_put (e := e) (k := k) h2
    unfold putE
    split
    · rename_i hlt
      by_cases hy : y.key = k
      · have hek : ¬ e.key = k := fun he => lt_ne hlt (by rw [hy, he])
        simp [getE, hy, hek]
      · have e1 : ∀ L, getE k (y :: L) = getE k L := fun L => by simp [getE, hy]
        rw [e1, e1, ih]
    · rename_i hlt
      split
      · rename_i he
        split
        · rename_i hs
          by_cases hk : e.key = k
          · have hy : y.key = k := by rw [he, hk]
            simp [getE, hk, hy, newer, hs]
          · have hy : ¬ y.key = k := by rw [he]; exact hk
            simp [getE, hk, hy]
        · rename_i hs
          by_cases hk : e.key = k
          · have hy : y.key = k := by rw [he, hk]
            simp [getE, hk, hy, newer, hs]
          · simp [hk]
      · rename_i hne
        have hle : lt e.key y.key = true := by
          cases hc : lt e.key y.key with
          | true => rfl
          | false => exact absurd (lt_tri (by simpa using hlt) hc) hne
        by_cases hk : e.key = k
        · have hn : getE k (y :: l) = none := getE_lt fun x hx => by
            rw [← hk]
            rcases List.mem_cons.1 hx with rfl | hx
            · exact hle
            · exact lt_trans' hle (h1 x hx)
          rw [hn]
          simp [getE, hk, newer]
        · simp [getE, hk]
theorem getE_mem {k : List UInt8} {F : List En} {x : En} (h : getE k F = some x) : x ∈ F ∧ x.key = k := ⟨List.mem_of_find?_eq_some h, by simpa using List.find?_some h⟩
theorem getE_of_mem : ∀ {F : List En} {x : En}, Rises F → x ∈ F → getE x.key F = some x
  | [], x, _, h => by cases h
  | y :: l, x, hr, h => by
    obtain ⟨h1, h2⟩ := List.pairwise_cons.1 hr
    rcases List.mem_cons.1 h with rfl | h
    · simp [getE]
    · have : ¬ y.key = x.key := lt_ne (h1 x h)
      have ih := getE_of_mem h2 h
      simp only [getE] at ih ⊢
      rw [List.find?_cons_of_neg (by simpa using this)]
      exact ih
/-- Two rising lists that have the same of each key are one. -/
theorem rises_ext : ∀ {F G : List En}, Rises F → Rises G → (∀ x, x ∈ F ↔ x ∈ G) → F = G
  | [], [], _, _, _ => rfl
  | [], g :: G, _, _, h => by have := (h g).2 List.mem_cons_self; cases this
  | f :: F, [], _, _, h => by have := (h f).1 List.mem_cons_self; cases this
  | f :: F, g :: G, hF, hG, h => by
    obtain ⟨f1, f2⟩ := List.pairwise_cons.1 hF
    obtain ⟨g1, g2⟩ := List.pairwise_cons.1 hG
    have e : f = g := by
      rcases List.mem_cons.1 ((h f).1 List.mem_cons_self) with e | hf
      · exact e
      · rcases List.mem_cons.1 ((h g).2 List.mem_cons_self) with e | hg
        · exact e.symm
        · have := lt_asymm (g1 f hf)
          rw [f1 g hg] at this
          cases this
    subst e
    rw [rises_ext f2 g2 fun x => ?_]
    have := h x
    simp only [List.mem_cons] at this
    constructor
    · intro hx
      rcases this.1 (.inr hx) with rfl | hx'
      · have := f1 x hx; rw [lt_irrefl] at this; cases this
      · exact hx'
    · intro hx
      rcases this.2 (.inr hx) with rfl | hx'
      · have := g1 x hx; rw [lt_irrefl] at this; cases this
      · exact hx'
theorem rises_ext' {F G : List En} (hF : Rises F) (hG : Rises G) (h : ∀ k, getE k F = getE k G) : F = G :=
  rises_ext hF hG fun x => ⟨fun hx => (getE_mem (by rw [← h]; exact getE_of_mem hF hx)).1, fun hx => (getE_mem (by rw [h]; exact getE_of_mem hG hx)).1⟩
/-- A key's place; is it there. -/
def placeN (F : List En) (k : List UInt8) : Nat := F.countP fun x => lt x.key k
def hasK (F : List En) (k : List UInt8) : Bool := F.any fun x => decide (x.key = k)
theorem placeN_snoc (F : List En) (x : En) (k : List UInt8) : placeN (F ++ [x]) k = placeN F k + if lt x.key k = true then 1 else 0 := by
  unfold placeN
  rw [List.countP_append, List.countP_cons]
  simp
theorem hasK_snoc (F : List En) (x : En) (k : List UInt8) : hasK (F ++ [x]) k = (hasK F k || decide (x.key = k)) := by
  unfold hasK
  rw [List.any_append]
  simp
theorem placeN_le (F : List En) (k : List UInt8) : placeN F k ≤ F.length := List.countP_le_length
/-- In a rising list the entries ahead of a key's place are those below it. -/
theorem place_cons {y : En} {l : List En} {k : List UInt8} (h : lt y.key k = true) : placeN (y :: l) k = placeN l k + 1 := by simp [placeN, List.countP_cons, h]
theorem place_zero {y : En} {l : List En} {k : List UInt8} (hr : Rises (y :: l)) (h : lt y.key k = false) : placeN (y :: l) k = 0 := by
  unfold placeN
  rw [List.countP_eq_zero]
  intro x hx
  rcases List.mem_cons.1 hx with rfl | hx
  · simp [h]
  · intro hc
    have := lt_trans' ((List.pairwise_cons.1 hr).1 x hx) hc
    rw [this] at h; cases h
/-- What putting an entry in does, by its key's place. -/
theorem putE_place {e : En} : ∀ {F : List En}, Rises F →
    putE e F = if hasK F e.key = true then (if (F.getD (placeN F e.key) default).seq ≤ e.seq then F.set (placeN F e.key) e else F) else F.take (placeN F e.key) ++ e :: F.drop (placeN F e.key)
  | [], _ => by simp [putE, hasK]
  | y :: l, hr => by
    obtain ⟨h1, h2⟩ := List.pairwise_cons.1 hr
    have ih := putE_place (e := e) h2
    unfold putE
    split
    · rename_i hlt
      have hne : ¬ y.key = e.key := lt_ne hlt
      have hh : hasK (y :: l) e.key = hasK l e.key := by simp [hasK, hne]
      rw [place_cons hlt, hh, ih]
      cases hasK l e.key <;> simp <;> split <;> simp
    · rename_i hlt
      have hlt : lt y.key e.key = false := by simpa using hlt
      rw [place_zero hr hlt]
      split
      · rename_i he
        have hh : hasK (y :: l) e.key = true := by simp [hasK, he]
        rw [hh]
        simp
      · rename_i hne
        have hle : lt e.key y.key = true := by
          cases hc : lt e.key y.key with
          | true => rfl
          | false => exact absurd (lt_tri hlt hc) hne
        have hh : hasK (y :: l) e.key = false := by
          unfold hasK
          rw [List.any_eq_false]
          intro x hx hc
          have hxe : x.key = e.key := by simpa using hc
          rcases List.mem_cons.1 hx with rfl | hx
          · exact hne hxe
          · have := lt_trans' hle (h1 x hx)
            rw [hxe, lt_irrefl] at this; cases this
        rw [hh]
        simp
theorem place_lt {F : List En} {k : List UInt8} (hr : Rises F) (h : hasK F k = true) : placeN F k < F.length ∧ (F.getD (placeN F k) default).key = k := by
  induction F with
  | nil => simp [hasK] at h
  | cons y l ih =>
    obtain ⟨h1, h2⟩ := List.pairwise_cons.1 hr
    cases hlt : lt y.key k with
    | true =>
      have hne : ¬ y.key = k := lt_ne hlt
      have := ih h2 (by simpa [hasK, hne] using h)
      rw [place_cons hlt]
      simpa using this
    | false =>
      rw [place_zero hr hlt]
      refine ⟨by simp, ?_⟩
      simp only [List.getD_cons_zero]
      cases hc : lt k y.key with
      | false => exact lt_tri hlt hc
      | true =>
        exfalso
        unfold hasK at h
        rw [List.any_eq_true] at h
        obtain ⟨x, hx, hxe⟩ := h
        have hxe : x.key = k := by simpa using hxe
        rcases List.mem_cons.1 hx with rfl | hx
        · rw [hxe, lt_irrefl] at hc; cases hc
        · have := lt_trans' hc (h1 x hx)
          rw [hxe, lt_irrefl] at this; cases this
theorem putE_length (e : En) : ∀ F : List En, (putE e F).length ≤ F.length + 1
  | [] => by simp [putE]
  | y :: l => by
    have := putE_length e l
    unfold putE
    repeat' split
    all_goals simp only [List.length_cons]
    all_goals omega
theorem foldE_length (l : List En) : (foldE l).length ≤ l.length := by
  unfold foldE
  suffices h : ∀ F : List En, (l.foldl (fun F e => putE e F) F).length ≤ F.length + l.length by simpa using h []
  induction l with
  | nil => simp
  | cons e l ih =>
    intro F
    have h1 := ih (putE e F)
    have h2 := putE_length e F
    simp only [List.foldl_cons, List.length_cons] at h1 ⊢
    omega
theorem foldE_nil : foldE [] = [] := rfl
end Go.Ab
