/- The texts that this claim needs, part 9: a logic over abstract values, its steps, what the functions do. No condition of its own. -/
import Derived.Lib.Bytealg
import Derived.Test.YtfbdncmmnelklaaTableParsesK8
/- A key's place in a rising list, halved out; a block is read as it was written. No program in sight. -/
set_option linter.unusedVariables false
set_option linter.unusedSimpArgs false
namespace Go.Ab
theorem place_at {l : List En} (hr : Rises l) (k : List UInt8) : ∀ {i : Nat}, i < l.length → (lt (l.getD i default).key k = true ↔ i < placeN l k) := by
  induction l with
  | nil => intro i h; simp at h
  | cons y l ih =>
    obtain ⟨h1, h2⟩ := List.pairwise_cons.1 hr
    intro i hi
    cases hlt : lt y.key k with
    | true =>
      rw [place_cons hlt]
      cases i with
      | zero => simp [hlt]
      | succ i =>
        rw [List.getD_cons_succ, ih h2 (by simpa using hi)]
        omega
    | false =>
      rw [place_zero hr hlt]
      refine ⟨fun h => ?_, fun h => by omega⟩
      exfalso
      cases i with
      | zero => rw [List.getD_cons_zero, hlt] at h; cases h
      | succ i =>
        rw [List.getD_cons_succ] at h
        have hi' : i < l.length := by simpa using hi
        have hm : l.getD i default ∈ l := by rw [List.getD_eq_getElem?_getD, List.getElem?_eq_getElem hi']; exact List.getElem_mem _
        have := lt_trans' (h1 _ hm) h
        rw [this] at hlt; cases hlt
theorem has_place {l : List En} (hr : Rises l) (k : List UInt8) : hasK l k = (decide (placeN l k < l.length) && decide ((l.getD (placeN l k) default).key = k)) := by
  cases h : hasK l k with
  | true =>
    obtain ⟨a, b⟩ := place_lt hr h
    rw [decide_eq_true a, decide_eq_true b]; rfl
  | false =>
    by_cases h1 : placeN l k < l.length
    · by_cases h2 : (l.getD (placeN l k) default).key = k
      · exfalso
        unfold hasK at h
        rw [List.any_eq_false] at h
        refine h (l.getD (placeN l k) default) ?_ (by simpa using h2)
        rw [List.getD_eq_getElem?_getD, List.getElem?_eq_getElem h1]; exact List.getElem_mem _
      · rw [decide_eq_false h2, Bool.and_false]
    · rw [decide_eq_false h1, Bool.false_and]
theorem cmpK_lt (a b : List UInt8) : cmpK a b < 0 ↔ lt a b = true := by
  have := cmpK_neg a b
  cases h : lt a b with
  | true => rw [h] at this; refine ⟨fun _ => rfl, fun _ => ?_⟩; have : ¬ 0 ≤ cmpK a b := fun c => by have := this.1 c; cases this
            omega
  | false => have := this.2 h; exact ⟨fun c => by omega, fun c => by cases c⟩
theorem cmpK_zero (a b : List UInt8) : cmpK a b = 0 ↔ a = b := by
  unfold cmpK
  split
  · rename_i h
    exact ⟨fun c => by omega, fun c => by rw [c, lt_irrefl] at h; cases h⟩
  · split
    · rename_i h; exact ⟨fun _ => h, fun _ => rfl⟩
    · rename_i h; exact ⟨fun c => by omega, fun c => absurd c h⟩
theorem compare_cmpK : ∀ a b : List UInt8, Lib.compareBytes a b = cmpK a b
  | [], [] => by simp [Lib.compareBytes, cmpK, lt, Op.bytesLess]
  | [], y :: b => by simp [Lib.compareBytes, cmpK, lt, Op.bytesLess]
  | x :: a, [] => by simp [Lib.compareBytes, cmpK, lt, Op.bytesLess]
  | x :: a, y :: b => by
    have ih := compare_cmpK a b
    unfold Lib.compareBytes cmpK
    unfold cmpK at ih
    by_cases h1 : x < y
    · have h2 : lt (x :: a) (y :: b) = true := by simp [lt, Op.bytesLess, h1]
      simp [h1, h2]
    · by_cases h3 : x = y
      · subst h3
        have h4 : lt (x :: a) (x :: b) = lt a b := by simp [lt, Op.bytesLess]
        have h5 : ¬ x < x := UInt8.lt_irrefl x
        rw [h4]
        simp only [h5, if_false, List.cons.injEq, true_and]
        exact ih
      · have h6 : y < x := UInt8.lt_of_le_of_ne (UInt8.not_lt.1 h1) (Ne.symm h3)
        have h2 : lt (x :: a) (y :: b) = false := by simp [lt, Op.bytesLess, h1, h3]
        simp [h1, h6, h2, h3]
end Go.Ab

/- What is written as a block is read as it was. No program in sight. -/
set_option linter.unusedVariables false
set_option linter.unusedSimpArgs false
namespace Go.Ab
theorem rises_get {l : List En} (hr : Rises l) {i j : Nat} (hij : i < j) (hj : j < l.length) : lt (l.getD i default).key (l.getD j default).key = true := by
  have := List.pairwise_iff_getElem.1 hr i j (by omega) hj hij
  rw [List.getD_eq_getElem?_getD, List.getD_eq_getElem?_getD, List.getElem?_eq_getElem hj, List.getElem?_eq_getElem (show i < l.length by omega)]
  exact this
theorem place_self {l : List En} (hr : Rises l) {n : Nat} (h : n < l.length) : placeN l (l.getD n default).key = n := by
  have h1 := mt (place_at hr (l.getD n default).key h).2 (by rw [lt_irrefl]; decide)
  rcases Nat.eq_zero_or_pos n with h0 | h0
  · omega
  · have := (place_at hr (l.getD n default).key (show n - 1 < l.length by omega)).1 (rises_get hr (by omega) h)
    omega
end Go.Ab

/- A file is read as it was written; table.Get. -/
set_option linter.unusedVariables false
set_option linter.unusedSimpArgs false
namespace Go.Ab
theorem cut_put : ∀ (ps : List (List En)) (acc : List (List UInt8)), (∀ p ∈ ps, (p.getD 0 default).key.length ≤ 128 ∧ (blkB p).length ≤ 20000) → cutA ps.length (indexB ps) (blocksB ps) acc = some (acc ++ ps.map blkB)
  | [], acc, _ => by simp [cutA]
  | p :: ps, acc, h => by
    obtain ⟨h1, h2⟩ := h p List.mem_cons_self
    have ih := cut_put ps (acc ++ [blkB p]) fun q hq => h q (List.mem_cons_of_mem _ hq)
    have e1 : indexB (p :: ps) = put (p.getD 0 default).key.length ++ (p.getD 0 default).key ++ (put (blkB p).length ++ indexB ps) := by simp [indexB, idxE]
    have e2 : blocksB (p :: ps) = blkB p ++ blocksB ps := by simp [blocksB]
    have ht := textG_put (p.getD 0 default).key (put (blkB p).length ++ indexB ps) (by omega)
    have hg := getG_put (blkB p).length (indexB ps) (by omega)
    rw [← e1] at ht
    have t1 : textO (indexB (p :: ps)) = true := by rw [textO, ht]; rfl
    have t2 : textN (indexB (p :: ps)) = (put (p.getD 0 default).key.length).length + (p.getD 0 default).key.length := by rw [textN, ht]; rfl
    have d1 : (indexB (p :: ps)).drop (textN (indexB (p :: ps))) = put (blkB p).length ++ indexB ps := by
      rw [t2, e1, List.drop_left' (by simp)]
    have g1 : getO (put (blkB p).length ++ indexB ps) = true := by rw [getO, hg]; rfl
    have g2 : getV (put (blkB p).length ++ indexB ps) = (blkB p).length := by rw [getV, hg]; rfl
    have g3 : getN (put (blkB p).length ++ indexB ps) = (put (blkB p).length).length := by rw [getN, hg]; rfl
    rw [List.length_cons, cutA, d1, g1, g2, g3, e2, if_pos ⟨t1, rfl, by simp⟩, ← List.drop_drop, d1, List.drop_left, List.drop_left, List.take_left, ih]
    simp
end Go.Ab

/- Layer 11: TableCuts. -/
set_option linter.unusedVariables false
set_option linter.unusedSimpArgs false
namespace Go.Ab
def law11_sameEntries.mark : Mark := ⟨fun t => false, fun t => false, fun t => false, fun t => Nat.beq t 20 || Nat.beq t 24, fun t => false⟩
def law11_sameEntries.ann : Ann := ⟨fun n => bif Nat.beq n 4 then [0, 1, 5] else [], fun n => none, fun n => none⟩
def law11_TableCuts.mark : Mark := ⟨fun t => Nat.beq t 13 || Nat.beq t 15 || Nat.beq t 22 || Nat.beq t 40 || Nat.beq t 48 || Nat.beq t 64 || Nat.beq t 72, fun t => Nat.beq t 59, fun t => false, fun t => false, fun t => false⟩
def law11_TableCuts.ann : Ann := ⟨fun n => [], fun n => bif Nat.beq n 9 then some [0, 2, 7, 8, 10] else none, fun n => none⟩
theorem tblV_len (x : List UInt8) : (tblV x).length ≤ 64 := by
  unfold tblV
  cases h : tblG x with
  | none => exact Nat.zero_le _
  | some l => exact (fit_right (tblG_fit h).1).1
end Go.Ab
