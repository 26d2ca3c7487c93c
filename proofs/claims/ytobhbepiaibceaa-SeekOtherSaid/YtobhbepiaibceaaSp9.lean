/- How long a block is. No program in sight. -/
import Derived.Test.YtobhbepiaibceaaSp8
set_option linter.unusedVariables false
set_option linter.unusedSimpArgs false
namespace Go.Ab
theorem put_len1 {v : Nat} (h : v < 128) : (put v).length = 1 := by rw [put_small h]; rfl
theorem put_len2 {v : Nat} (h : 128 ≤ v) (h2 : v < 16384) : (put v).length = 2 := by rw [put_more (v := v) (by omega), put_small (v := v / 128) (by omega)]; rfl
/-- A key's rest and how much it shares take one byte more than the key at most. -/
theorem shared_len {s k : Nat} (hs : s ≤ k) (hk : k ≤ 128) : (put s).length + (put (k - s)).length + (k - s) ≤ 1 + (put k).length + k := by
  rcases Nat.lt_or_ge s 128 with h | h
  · rw [put_len1 h]
    rcases Nat.lt_or_ge (k - s) 128 with h2 | h2
    · have := put_pos k
      rw [put_len1 h2]
      omega
    · have : k - s = k := by omega
      rw [this]
      omega
  · have e1 : s = 128 := by omega
    have e2 : k = 128 := by omega
    subst e1; subst e2
    have e3 : (put (128 - 128)).length = 1 := put_len1 (by decide)
    have e4 : (put 128).length = 2 := put_len2 (by decide) (by decide)
    omega
/-- The entries' bytes by themselves, and one for each. -/
def sumB (l : List En) : Nat := (l.map fun e => 1 + (enB e).length).sum
theorem sumB_snoc (l : List En) (e : En) : sumB (l ++ [e]) = sumB l + (1 + (enB e).length) := by simp [sumB]
theorem enc_le {e : En} (he : right e = true) {s : Nat} (hs : s ≤ e.key.length) : (encE s e).length ≤ 1 + (enB e).length := by
  obtain ⟨k1, k2, k3, k4, k5, k6⟩ := right_b he
  have := shared_len hs k2
  rw [enB_right he]
  unfold encE enR
  simp only [List.length_append, List.length_cons, List.length_nil, List.length_drop]
  split <;> simp only [List.length_append, List.length_nil] <;> omega
theorem blk_sum {l : List En} (h : ∀ i, i < l.length → right (l.getD i default) = true) : ∀ i, i ≤ l.length → (blk l i).1.length ≤ sumB (l.take i) ∧ (blk l i).2.length = 4 * ((i + 7) / 8)
  | 0, _ => by simp [blk, sumB]
  | i + 1, hi => by
    obtain ⟨h1, h2⟩ := blk_sum h i (by omega)
    have he := enc_le (h i (by omega)) (sharedAt_le l i)
    rw [take_succ_d (by omega), sumB_snoc]
    simp only [blk, List.length_append]
    refine ⟨by omega, ?_⟩
    rw [h2]
    split
    · simp only [fixed, List.length_cons, List.length_nil]; omega
    · simp only [List.length_nil]; omega
theorem blockBytes_le {l : List En} (h : ∀ i, i < l.length → right (l.getD i default) = true) : (blockBytes l).length ≤ 4 + 4 * ((l.length + 7) / 8) + sumB l := by
  obtain ⟨h1, h2⟩ := blk_sum h l.length (Nat.le_refl _)
  rw [List.take_length] at h1
  unfold blockBytes
  simp only [List.length_append, fixed, List.length_cons, List.length_nil]
  omega
/-- Entries, folded, those that are right, as many as a block has. -/
def fitL (l : List En) : List En := ((foldE l).filter right).take 64
theorem fitL_fit {l : List En} (h : 0 < (fitL l).length) : fit (fitL l) = true := by
  have hr : Rises (fitL l) := ((foldE_rises l).sublist (List.filter_sublist)).sublist (List.take_sublist _ _)
  have ha : (fitL l).all right = true := by
    rw [List.all_eq_true]
    intro e he
    exact (List.mem_filter.1 (List.mem_of_mem_take he)).2
  have hl : (fitL l).length ≤ 64 := by unfold fitL; simp; omega
  unfold fit
  rw [decide_eq_true h, decide_eq_true hl, (sorted_iff _).2 hr, ha]
  rfl
end Go.Ab
