/- What is written as a block is read as it was. No program in sight. -/
import Derived.Test.YtopmpooglnfalaaF23
import Derived.Test.YtopmpooglnfalaaSp12
set_option linter.unusedVariables false
set_option linter.unusedSimpArgs false
namespace Go.Ab
theorem common_pre (a b : List UInt8) : a.take (common a b) = b.take (common a b) := ((common_take (common a b) a b (common_le a b).1).2 (Nat.le_refl _)).symm
/-- All entries of a block, read one behind the other. -/
theorem entsA_blk {l : List En} (hr : ∀ i, i < l.length → right (l.getD i default) = true) (h64 : l.length ≤ 64) : ∀ (n i : Nat) (k s : List UInt8), i + n = l.length → (0 < i → k = (l.getD (i - 1) default).key) → (i = 0 → k = []) →
    s = (blk l l.length).1.drop (blk l i).1.length → (blk l i).1 <+: (blk l l.length).1 → entsA (65 - i) k s (l.take i) = some l
  | 0, i, k, s, hi, hk, hk0, hs, hpre => by
    have e : i = l.length := by omega
    subst e
    have e2 : s.length = 0 := by rw [hs, List.length_drop]; omega
    rw [entsA_nil e2, List.take_length]
  | n + 1, i, k, s, hi, hk, hk0, hs, hpre => by
    have hlt : i < l.length := by omega
    have hri := hr i hlt
    have step : (blk l (i + 1)).1 = (blk l i).1 ++ encE (sharedAt l i) (l.getD i default) := by simp only [blk]
    have mono : ∀ (m j : Nat), j + m = l.length → (blk l j).1 <+: (blk l l.length).1 := by
      intro m
      induction m with
      | zero => intro j hj; have : j = l.length := by omega
                subst this; exact List.prefix_refl _
      | succ m ih =>
        intro j hj
        refine List.IsPrefix.trans ?_ (ih (j + 1) (by omega))
        simp only [blk]
        exact List.prefix_append _ _
    have hpre2 := mono n (i + 1) (by omega)
    obtain ⟨rest, hrest⟩ := hpre2
    have es : s = encE (sharedAt l i) (l.getD i default) ++ rest := by
      rw [hs, ← hrest, step, List.append_assoc, List.drop_left]
    have hle := sharedAt_le l i
    have hsk : sharedAt l i ≤ k.length ∧ k.take (sharedAt l i) = (l.getD i default).key.take (sharedAt l i) := by
      by_cases h8 : i % 8 = 0
      · have e : sharedAt l i = 0 := by simp only [sharedAt, h8, if_true]
        rw [e]; simp
      · have e : sharedAt l i = common (l.getD (i - 1) default).key (l.getD i default).key := by simp only [sharedAt, h8, if_false]
        rw [e, hk (by omega)]
        exact ⟨(common_le _ _).1, common_pre _ _⟩
    have hg := entG_enc k (sharedAt l i) (l.getD i default) hri hsk.1 hsk.2 hle rest
    rw [← es] at hg
    have hlen : 0 < s.length := by
      rw [es, List.length_append, encE]
      simp only [List.length_append, List.length_cons]
      omega
    have e1 : 65 - i = (65 - (i + 1)) + 1 := by omega
    rw [e1, entsA_step (by omega) hg, ← take_succ_d hlt]
    refine entsA_blk hr h64 n (i + 1) _ _ (by omega) (fun _ => by rw [Nat.add_sub_cancel]) (fun h => by omega) ?_ ⟨rest, hrest⟩
    rw [← hrest, List.drop_left]
theorem fix_put (v : Nat) (h : v < 4294967296) : fixV (fixed v) = v := by
  have e : ∀ n, n < 256 → (UInt8.ofNat n).toNat = n := fun n hn => by rw [UInt8.toNat_ofNat']; exact Nat.mod_eq_of_lt hn
  rw [fixV, if_pos (by simp [fixed])]
  simp only [fixed, List.take_succ_cons, List.take_zero, valB, List.foldl_cons, List.foldl_nil]
  rw [e _ (Nat.mod_lt _ (by decide)), e _ (Nat.mod_lt _ (by decide)), e _ (Nat.mod_lt _ (by decide)), e _ (Nat.mod_lt _ (by decide))]
  omega
theorem blk_back {l : List En} (hf : fit l = true) : blkG (blockBytes l) = some l := by
  obtain ⟨h64, h0, hs, hr⟩ := fit_right hf
  obtain ⟨b1, b2, b3⟩ := blk_length hr l.length (Nat.le_refl _)
  obtain ⟨E, hE⟩ : ∃ E, E = (blk l l.length).1 := ⟨_, rfl⟩
  obtain ⟨F, hF⟩ : ∃ F, F = (blk l l.length).2 := ⟨_, rfl⟩
  have hB : blockBytes l = E ++ F ++ fixed (F.length / 4) := by rw [blockBytes, ← hE, ← hF]
  rw [← hE] at b1
  rw [← hF] at b2 b3
  have hlen : (blockBytes l).length = E.length + F.length + 4 := by rw [hB]; simp [fixed]; omega
  have hdrop : (blockBytes l).drop ((blockBytes l).length - 4) = fixed (F.length / 4) := by
    rw [hlen, hB, show E.length + F.length + 4 - 4 = (E ++ F).length by simp, List.drop_left]
  have hfx : fixV ((blockBytes l).drop ((blockBytes l).length - 4)) = F.length / 4 := by rw [hdrop, fix_put _ (by omega)]
  have htake : (blockBytes l).take ((blockBytes l).length - 4 - 4 * (F.length / 4)) = E := by
    rw [hlen, hB, List.append_assoc, show E.length + F.length + 4 - 4 - 4 * (F.length / 4) = E.length by omega, List.take_left]
  have hG : entsG E = some l := by
    have := entsA_blk hr h64 l.length 0 [] E (by omega) (fun h => by omega) (fun _ => rfl) (by rw [hE]; rfl) (by simp [blk])
    rw [List.take_zero] at this
    exact this
  unfold blkG
  rw [if_neg (by omega), hfx, if_neg (by omega), htake, hG]
  simp [hf]
theorem blk_back' {l : List En} (hf : fit l = true) : blkB l = blockBytes l ∧ blkE l = 0 ∧ blkV (blockBytes l) = l ∧ blkX (blockBytes l) = 0 ∧ 8 ≤ (blockBytes l).length ∧ (blockBytes l).length ≤ 1000000 := by
  have h := blk_back hf
  obtain ⟨h64, h0, hs, hr⟩ := fit_right hf
  obtain ⟨b1, b2, b3⟩ := blk_length hr l.length (Nat.le_refl _)
  refine ⟨by rw [blkB, if_pos hf], by rw [blkE, if_pos hf], by rw [blkV, h]; rfl, by rw [blkX, h]; rfl, ?_, ?_⟩
  · have e1 : 4 ≤ (blk l l.length).2.length := by
      have hlen2 := (blk_sum hr l.length (Nat.le_refl _)).2
      omega
    rw [blockBytes]
    simp only [List.length_append, fixed, List.length_cons, List.length_nil]
    omega
  · rw [blockBytes]
    simp only [List.length_append, fixed, List.length_cons, List.length_nil]
    omega
theorem lt_succ : ∀ (a k : List UInt8), lt a (k ++ [0]) = true ↔ (lt a k = true ∨ a = k)
  | [], [] => by simp [lt, Op.bytesLess]
  | [], y :: k => by simp [lt, Op.bytesLess]
  | x :: a, [] => by
    have h0 : ¬ x < 0 := by
      rw [UInt8.lt_iff_toNat_lt]
      simp
    cases a <;> simp [lt, Op.bytesLess, h0]
  | x :: a, y :: k => by
    have ih := lt_succ a k
    simp only [lt] at ih
    simp only [lt, List.cons_append, Op.bytesLess, Bool.or_eq_true, decide_eq_true_eq, Bool.and_eq_true, beq_iff_eq, List.cons.injEq]
    rw [ih]
    constructor
    · rintro (h | ⟨h, h2 | h2⟩)
      · exact .inl (.inl h)
      · exact .inl (.inr ⟨h, h2⟩)
      · exact .inr ⟨h, h2⟩
    · rintro ((h | ⟨h, h2⟩) | ⟨h, h2⟩)
      · exact .inl h
      · exact .inr ⟨h, .inl h2⟩
      · exact .inr ⟨h, .inr h2⟩
theorem rises_get {l : List En} (hr : Rises l) {i j : Nat} (hij : i < j) (hj : j < l.length) : lt (l.getD i default).key (l.getD j default).key = true := by
  have := List.pairwise_iff_getElem.1 hr i j (by omega) hj hij
  rw [List.getD_eq_getElem?_getD, List.getD_eq_getElem?_getD, List.getElem?_eq_getElem hj, List.getElem?_eq_getElem (show i < l.length by omega)]
  exact this
theorem place_self {l : List En} (hr : Rises l) {n : Nat} (h : n < l.length) : placeN l (l.getD n default).key = n := by
  have h1 := mt (place_at hr (l.getD n default).key h).2 (by rw [lt_irrefl]; decide)
  rcases Nat.eq_zero_or_pos n with h0 | h0
  · omega
  · have := (place_at hr (l.getD n default).key (show n - 1 < l.length by omega)).1 (rises_get hr (by omega) h)
    omega
theorem place_next {l : List En} (hr : Rises l) {n : Nat} (h : n < l.length) : placeN l ((l.getD n default).key ++ [0]) = n + 1 := by
  have h1 := (place_at hr ((l.getD n default).key ++ [0]) h).1 ((lt_succ _ _).2 (.inr rfl))
  have h2 := placeN_le l ((l.getD n default).key ++ [0])
  rcases Nat.lt_or_ge (n + 1) l.length with h3 | h3
  · have := mt (place_at hr ((l.getD n default).key ++ [0]) h3).2 (by
      rw [lt_succ]
      have h4 := rises_get hr (show n < n + 1 by omega) h3
      rintro (h5 | h5)
      · rw [lt_asymm h4] at h5; cases h5
      · rw [h5, lt_irrefl] at h4; cases h4)
    omega
  · omega
theorem place_nil (l : List En) : placeN l [] = 0 := by
  unfold placeN
  rw [List.countP_eq_zero]
  intro x hx
  cases x.key <;> simp [lt, Op.bytesLess]
end Go.Ab
