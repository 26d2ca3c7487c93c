/- The texts that this claim needs, part 10: a logic over abstract values, its steps, what the functions do. No condition of its own. -/
import Derived.Lib.Bytealg
import Derived.Test.YtfbdncmmnelklaaTableBackK9
/- A key's place in a rising list, halved out; a block is read as it was written. No program in sight. -/
set_option linter.unusedVariables false
set_option linter.unusedSimpArgs false
namespace Go.Ab
theorem place_at {l : List En} (hr : Rises l) (k : List UInt8) : ∀ {i : Nat}, i < l.length → (lt (l.getD i default).key k = true ↔ i < placeN l k) := by
  induction l with
  | nil => intro i h; simp at h
  | cons y l ih =>
    obtain ⟨h1, h2⟩ := List.pairwise_cons.1 hr
    intro i hi
    cases hlt : lt y.key k with
    | true =>
      rw [place_cons hlt]
      cases i with
      | zero => simp [hlt]
      | succ i =>
        rw [List.getD_cons_succ, ih h2 (by simpa using hi)]
        omega
    | false =>
      rw [place_zero hr hlt]
      refine ⟨fun h => ?_, fun h => by omega⟩
      exfalso
      cases i with
      | zero => rw [List.getD_cons_zero, hlt] at h; cases h
      | succ i =>
        rw [List.getD_cons_succ] at h
        have hi' : i < l.length := by simpa using hi
        have hm : l.getD i default ∈ l := by rw [List.getD_eq_getElem?_getD, List.getElem?_eq_getElem hi']; exact List.getElem_mem _
        have := lt_trans' (h1 _ hm) h
        rw [this] at hlt; cases hlt
theorem has_place {l : List En} (hr : Rises l) (k : List UInt8) : hasK l k = (decide (placeN l k < l.length) && decide ((l.getD (placeN l k) default).key = k)) := by
  cases h : hasK l k with
  | true =>
    obtain ⟨a, b⟩ := place_lt hr h
    rw [decide_eq_true a, decide_eq_true b]; rfl
  | false =>
    by_cases h1 : placeN l k < l.length
    · by_cases h2 : (l.getD (placeN l k) default).key = k
      · exfalso
        unfold hasK at h
        rw [List.any_eq_false] at h
        refine h (l.getD (placeN l k) default) ?_ (by simpa using h2)
        rw [List.getD_eq_getElem?_getD, List.getElem?_eq_getElem h1]; exact List.getElem_mem _
      · rw [decide_eq_false h2, Bool.and_false]
    · rw [decide_eq_false h1, Bool.false_and]
theorem cmpK_lt (a b : List UInt8) : cmpK a b < 0 ↔ lt a b = true := by
  have := cmpK_neg a b
  cases h : lt a b with
  | true => rw [h] at this; refine ⟨fun _ => rfl, fun _ => ?_⟩; have : ¬ 0 ≤ cmpK a b := fun c => by have := this.1 c; cases this
            omega
  | false => have := this.2 h; exact ⟨fun c => by omega, fun c => by cases c⟩
theorem cmpK_zero (a b : List UInt8) : cmpK a b = 0 ↔ a = b := by
  unfold cmpK
  split
  · rename_i h
    exact ⟨fun c => by omega, fun c => by rw [c, lt_irrefl] at h; cases h⟩
  · split
    · rename_i h; exact ⟨fun _ => h, fun _ => rfl⟩
    · rename_i h; exact ⟨fun c => by omega, fun c => absurd c h⟩
theorem compare_cmpK : ∀ a b : List UInt8, Lib.compareBytes a b = cmpK a b
  | [], [] => by simp [Lib.compareBytes, cmpK, lt, Op.bytesLess]
  | [], y :: b => by simp [Lib.compareBytes, cmpK, lt, Op.bytesLess]
  | x :: a, [] => by simp [Lib.compareBytes, cmpK, lt, Op.bytesLess]
  | x :: a, y :: b => by
    have ih := compare_cmpK a b
    unfold Lib.compareBytes cmpK
    unfold cmpK at ih
    by_cases h1 : x < y
    · have h2 : lt (x :: a) (y :: b) = true := by simp [lt, Op.bytesLess, h1]
      simp [h1, h2]
    · by_cases h3 : x = y
      · subst h3
        have h4 : lt (x :: a) (x :: b) = lt a b := by simp [lt, Op.bytesLess]
        have h5 : ¬ x < x := UInt8.lt_irrefl x
        rw [h4]
        simp only [h5, if_false, List.cons.injEq, true_and]
        exact ih
      · have h6 : y < x := UInt8.lt_of_le_of_ne (UInt8.not_lt.1 h1) (Ne.symm h3)
        have h2 : lt (x :: a) (y :: b) = false := by simp [lt, Op.bytesLess, h1, h3]
        simp [h1, h6, h2, h3]
end Go.Ab

/- What is written as a block is read as it was. No program in sight. -/
set_option linter.unusedVariables false
set_option linter.unusedSimpArgs false
namespace Go.Ab
theorem common_pre (a b : List UInt8) : a.take (common a b) = b.take (common a b) := ((common_take (common a b) a b (common_le a b).1).2 (Nat.le_refl _)).symm
/-- All entries of a block, read one behind the other. -/
theorem entsA_blk {l : List En} (hr : ∀ i, i < l.length → right (l.getD i default) = true) (h64 : l.length ≤ 64) : ∀ (n i : Nat) (k s : List UInt8), i + n = l.length → (0 < i → k = (l.getD (i - 1) default).key) → (i = 0 → k = []) →
    s = (blk l l.length).1.drop (blk l i).1.length → (blk l i).1 <+: (blk l l.length).1 → entsA (65 - i) k s (l.take i) = some l
  | 0, i, k, s, hi, hk, hk0, hs, hpre => by
    have e : i = l.length := by omega
    subst e
    have e2 : s.length = 0 := by rw [hs, List.length_drop]; omega
    rw [entsA_nil e2, List.take_length]
  | n + 1, i, k, s, hi, hk, hk0, hs, hpre => by
    have hlt : i < l.length := by omega
    have hri := hr i hlt
    have step : (blk l (i + 1)).1 = (blk l i).1 ++ encE (sharedAt l i) (l.getD i default) := by simp only [blk]
    have mono : ∀ (m j : Nat), j + m = l.length → (blk l j).1 <+: (blk l l.length).1 := by
      intro m
      induction m with
      | zero => intro j hj; have : j = l.length := by omega
                subst this; exact List.prefix_refl _
      | succ m ih =>
        intro j hj
        refine List.IsPrefix.trans ?_ (ih (j + 1) (by omega))
        simp only [blk]
        exact List.prefix_append _ _
    have hpre2 := mono n (i + 1) (by omega)
    obtain ⟨rest, hrest⟩ := hpre2
    have es : s = encE (sharedAt l i) (l.getD i default) ++ rest := by
      rw [hs, ← hrest, step, List.append_assoc, List.drop_left]
    have hle := sharedAt_le l i
    have hsk : sharedAt l i ≤ k.length ∧ k.take (sharedAt l i) = (l.getD i default).key.take (sharedAt l i) := by
      by_cases h8 : i % 8 = 0
      · have e : sharedAt l i = 0 := by simp only [sharedAt, h8, if_true]
        rw [e]; simp
      · have e : sharedAt l i = common (l.getD (i - 1) default).key (l.getD i default).key := by simp only [sharedAt, h8, if_false]
        rw [e, hk (by omega)]
        exact ⟨(common_le _ _).1, common_pre _ _⟩
    have hg := entG_enc k (sharedAt l i) (l.getD i default) hri hsk.1 hsk.2 hle rest
    rw [← es] at hg
    have hlen : 0 < s.length := by
      rw [es, List.length_append, encE]
      simp only [List.length_append, List.length_cons]
      omega
    have e1 : 65 - i = (65 - (i + 1)) + 1 := by omega
    rw [e1, entsA_step (by omega) hg, ← take_succ_d hlt]
    refine entsA_blk hr h64 n (i + 1) _ _ (by omega) (fun _ => by rw [Nat.add_sub_cancel]) (fun h => by omega) ?_ ⟨rest, hrest⟩
    rw [← hrest, List.drop_left]
theorem fix_put (v : Nat) (h : v < 4294967296) : fixV (fixed v) = v := by
  have e : ∀ n, n < 256 → (UInt8.ofNat n).toNat = n := fun n hn => by rw [UInt8.toNat_ofNat']; exact Nat.mod_eq_of_lt hn
  rw [fixV, if_pos (by simp [fixed])]
  simp only [fixed, List.take_succ_cons, List.take_zero, valB, List.foldl_cons, List.foldl_nil]
  rw [e _ (Nat.mod_lt _ (by decide)), e _ (Nat.mod_lt _ (by decide)), e _ (Nat.mod_lt _ (by decide)), e _ (Nat.mod_lt _ (by decide))]
  omega
theorem blk_back {l : List En} (hf : fit l = true) : blkG (blockBytes l) = some l := by
  obtain ⟨h64, h0, hs, hr⟩ := fit_right hf
  obtain ⟨b1, b2, b3⟩ := blk_length hr l.length (Nat.le_refl _)
  obtain ⟨E, hE⟩ : ∃ E, E = (blk l l.length).1 := ⟨_, rfl⟩
  obtain ⟨F, hF⟩ : ∃ F, F = (blk l l.length).2 := ⟨_, rfl⟩
  have hB : blockBytes l = E ++ F ++ fixed (F.length / 4) := by rw [blockBytes, ← hE, ← hF]
  rw [← hE] at b1
  rw [← hF] at b2 b3
  have hlen : (blockBytes l).length = E.length + F.length + 4 := by rw [hB]; simp [fixed]; omega
  have hdrop : (blockBytes l).drop ((blockBytes l).length - 4) = fixed (F.length / 4) := by
    rw [hlen, hB, show E.length + F.length + 4 - 4 = (E ++ F).length by simp, List.drop_left]
  have hfx : fixV ((blockBytes l).drop ((blockBytes l).length - 4)) = F.length / 4 := by rw [hdrop, fix_put _ (by omega)]
  have htake : (blockBytes l).take ((blockBytes l).length - 4 - 4 * (F.length / 4)) = E := by
    rw [hlen, hB, List.append_assoc, show E.length + F.length + 4 - 4 - 4 * (F.length / 4) = E.length by omega, List.take_left]
  have hG : entsG E = some l := by
    have := entsA_blk hr h64 l.length 0 [] E (by omega) (fun h => by omega) (fun _ => rfl) (by rw [hE]; rfl) (by simp [blk])
    rw [List.take_zero] at this
    exact this
  unfold blkG
  rw [if_neg (by omega), hfx, if_neg (by omega), htake, hG]
  simp [hf]
theorem blk_back' {l : List En} (hf : fit l = true) : blkB l = blockBytes l ∧ blkE l = 0 ∧ blkV (blockBytes l) = l ∧ blkX (blockBytes l) = 0 ∧ 8 ≤ (blockBytes l).length ∧ (blockBytes l).length ≤ 1000000 := by
  have h := blk_back hf
  obtain ⟨h64, h0, hs, hr⟩ := fit_right hf
  obtain ⟨b1, b2, b3⟩ := blk_length hr l.length (Nat.le_refl _)
  refine ⟨by rw [blkB, if_pos hf], by rw [blkE, if_pos hf], by rw [blkV, h]; rfl, by rw [blkX, h]; rfl, ?_, ?_⟩
  · have e1 : 4 ≤ (blk l l.length).2.length := by
      have hlen2 := (blk_sum hr l.length (Nat.le_refl _)).2
      omega
    rw [blockBytes]
    simp only [List.length_append, fixed, List.length_cons, List.length_nil]
    omega
  · rw [blockBytes]
    simp only [List.length_append, fixed, List.length_cons, List.length_nil]
    omega
theorem rises_get {l : List En} (hr : Rises l) {i j : Nat} (hij : i < j) (hj : j < l.length) : lt (l.getD i default).key (l.getD j default).key = true := by
  have := List.pairwise_iff_getElem.1 hr i j (by omega) hj hij
  rw [List.getD_eq_getElem?_getD, List.getD_eq_getElem?_getD, List.getElem?_eq_getElem hj, List.getElem?_eq_getElem (show i < l.length by omega)]
  exact this
theorem place_self {l : List En} (hr : Rises l) {n : Nat} (h : n < l.length) : placeN l (l.getD n default).key = n := by
  have h1 := mt (place_at hr (l.getD n default).key h).2 (by rw [lt_irrefl]; decide)
  rcases Nat.eq_zero_or_pos n with h0 | h0
  · omega
  · have := (place_at hr (l.getD n default).key (show n - 1 < l.length by omega)).1 (rises_get hr (by omega) h)
    omega
end Go.Ab

/- A file is read as it was written; table.Get. -/
set_option linter.unusedVariables false
set_option linter.unusedSimpArgs false
namespace Go.Ab
theorem fixed_len (v : Nat) : (fixed v).length = 4 := rfl
theorem fix_put' (v : Nat) (r : List UInt8) (h : v < 4294967296) : fixV (fixed v ++ r) = v := by
  have := fix_put v h
  rw [fixV, if_pos (by rw [fixed_len]; omega), List.take_of_length_le (by rw [fixed_len]; omega)] at this
  rw [fixV, if_pos (by rw [List.length_append, fixed_len]; omega), List.take_left' (fixed_len v)]
  exact this
theorem cut_put : ∀ (ps : List (List En)) (acc : List (List UInt8)), (∀ p ∈ ps, (p.getD 0 default).key.length ≤ 128 ∧ (blkB p).length ≤ 20000) → cutA ps.length (indexB ps) (blocksB ps) acc = some (acc ++ ps.map blkB)
  | [], acc, _ => by simp [cutA]
  | p :: ps, acc, h => by
    obtain ⟨h1, h2⟩ := h p List.mem_cons_self
    have ih := cut_put ps (acc ++ [blkB p]) fun q hq => h q (List.mem_cons_of_mem _ hq)
    have e1 : indexB (p :: ps) = put (p.getD 0 default).key.length ++ (p.getD 0 default).key ++ (put (blkB p).length ++ indexB ps) := by simp [indexB, idxE]
    have e2 : blocksB (p :: ps) = blkB p ++ blocksB ps := by simp [blocksB]
    have ht := textG_put (p.getD 0 default).key (put (blkB p).length ++ indexB ps) (by omega)
    have hg := getG_put (blkB p).length (indexB ps) (by omega)
    rw [← e1] at ht
    have t1 : textO (indexB (p :: ps)) = true := by rw [textO, ht]; rfl
    have t2 : textN (indexB (p :: ps)) = (put (p.getD 0 default).key.length).length + (p.getD 0 default).key.length := by rw [textN, ht]; rfl
    have d1 : (indexB (p :: ps)).drop (textN (indexB (p :: ps))) = put (blkB p).length ++ indexB ps := by
      rw [t2, e1, List.drop_left' (by simp)]
    have g1 : getO (put (blkB p).length ++ indexB ps) = true := by rw [getO, hg]; rfl
    have g2 : getV (put (blkB p).length ++ indexB ps) = (blkB p).length := by rw [getV, hg]; rfl
    have g3 : getN (put (blkB p).length ++ indexB ps) = (put (blkB p).length).length := by rw [getN, hg]; rfl
    rw [List.length_cons, cutA, d1, g1, g2, g3, e2, if_pos ⟨t1, rfl, by simp⟩, ← List.drop_drop, d1, List.drop_left, List.drop_left, List.take_left, ih]
    simp
theorem parts_put : ∀ (ps : List (List En)) (acc : List En), (∀ p ∈ ps, fit p = true) → partsG (ps.map blkB) acc = some (acc ++ ps.flatten)
  | [], acc, _ => by simp [partsG]
  | p :: ps, acc, h => by
    have hf := h p List.mem_cons_self
    have ih := parts_put ps (acc ++ p) fun q hq => h q (List.mem_cons_of_mem _ hq)
    have hb : blkG (blkB p) = some p := by rw [(blk_back' hf).1]; exact blk_back hf
    rw [List.map_cons, partsG, hb]
    show partsG (ps.map blkB) (acc ++ p) = _
    rw [ih]
    simp
theorem chunks_flat (L : List En) : (chunksE L).flatten = L := by
  have key : ∀ q, ((chunksE L).take q).flatten = L.take (16 * q) := by
    intro q
    induction q with
    | zero => simp
    | succ q ih =>
      by_cases h : 16 * q < L.length
      · have hq : q < (chunksE L).length := by rw [chunks_len]; omega
        have hd := chunks_at L q h
        have h2 := List.drop_eq_getElem_cons hq
        rw [hd] at h2
        injection h2 with h3 h4
        rw [List.take_add_one, List.getElem?_eq_getElem hq, ← h3, List.flatten_append, ih]
        simp only [Option.toList_some, List.flatten_cons, List.flatten_nil, List.append_nil, partE]
        rw [show 16 * (q + 1) = 16 * q + 16 by omega, List.take_add]
      · have hq : (chunksE L).length ≤ q := by rw [chunks_len]; omega
        rw [List.take_of_length_le (by omega)] at ih ⊢
        rw [ih, List.take_of_length_le (by omega), List.take_of_length_le (by omega)]
  have := key (chunksE L).length
  rw [List.take_length, List.take_of_length_le (by rw [chunks_len]; omega)] at this
  exact this
/-- What is written is read as it was. -/
theorem tbl_back {L : List En} (hf : fit L = true) : tblG (tbB L) = some L := by
  have h64 := (fit_right hf).1
  have h0 := (fit_right hf).2.1
  have hc := chunks_len L
  have hps : ∀ p ∈ chunksE L, fit p = true ∧ (p.getD 0 default).key.length ≤ 128 ∧ (blkB p).length ≤ 20000 := fun p hp => by
    obtain ⟨h1, h2, h3⟩ := fit_part hf (chunks_part hp)
    exact ⟨h1, (right_bounds ((fit_right h1).2.2.2 0 h2)).2.1, blkB_le h3⟩
  have hh := headB_le (ps := chunksE L) (fun p hp => by
    obtain ⟨h1, h2, h3⟩ := fit_part hf (chunks_part hp)
    exact h3)
  have hT : tbB L = headB (chunksE L) ++ indexB (chunksE L) ++ (fixed (chunksE L).length ++ fixed (headB (chunksE L)).length) := by
    unfold tbB partsB
    rw [if_pos hf]
    simp only [List.append_assoc]
  have hlen : (tbB L).length - 8 = (headB (chunksE L)).length + (indexB (chunksE L)).length := by
    rw [hT]; simp only [List.length_append, fixed_len]; omega
  have hlen2 : (tbB L).length = (headB (chunksE L)).length + (indexB (chunksE L)).length + 8 := by
    rw [hT]; simp only [List.length_append, fixed_len]
  have h4 : 4 ≤ (headB (chunksE L)).length := by simp only [headB, lettersB, List.length_append, List.length_cons, List.length_nil]; omega
  have hd : (tbB L).drop ((tbB L).length - 8) = fixed (chunksE L).length ++ fixed (headB (chunksE L)).length := by
    rw [hlen]
    conv => lhs; rw [hT]
    rw [List.drop_left' (by simp only [List.length_append])]
  have hN : cutN (tbB L) = (chunksE L).length := by rw [cutN, hd, fix_put' _ _ (by omega)]
  have hP : cutP (tbB L) = (headB (chunksE L)).length := by
    rw [cutP, ← List.drop_drop, hd, List.drop_left' (fixed_len _), fix_put _ (by omega)]
  have hX : ((tbB L).take ((tbB L).length - 8)).drop (headB (chunksE L)).length = indexB (chunksE L) := by
    rw [hlen]
    conv => lhs; rw [hT]
    rw [List.take_left' (by simp only [List.length_append]), List.drop_left]
  have hR : ((tbB L).take (headB (chunksE L)).length).drop 4 = blocksB (chunksE L) := by
    rw [hT, List.append_assoc, List.take_left, headB]
    rfl
  have hG : cutG (tbB L) = some ((chunksE L).map blkB) := by
    rw [cutG, if_neg (by omega), hN, hP, if_neg (by omega), hX, hR, cut_put _ _ fun p hp => (hps p hp).2, List.nil_append]
  rw [tblG, hG]
  show (match partsG ((chunksE L).map blkB) [] with | none => none | some l => if fit l = true ∧ tbB l = tbB L then some l else none) = _
  rw [parts_put _ _ fun p hp => (hps p hp).1, List.nil_append, chunks_flat]
  show (if fit L = true ∧ tbB L = tbB L then some L else none) = _
  rw [if_pos ⟨hf, rfl⟩]
end Go.Ab

/- Layer 11: TableCuts. -/
set_option linter.unusedVariables false
set_option linter.unusedSimpArgs false
namespace Go.Ab
def law11_sameEntries.mark : Mark := ⟨fun t => false, fun t => false, fun t => false, fun t => Nat.beq t 20 || Nat.beq t 24, fun t => false⟩
def law11_sameEntries.ann : Ann := ⟨fun n => bif Nat.beq n 4 then [0, 1, 5] else [], fun n => none, fun n => none⟩
def law11_TableCuts.mark : Mark := ⟨fun t => Nat.beq t 13 || Nat.beq t 15 || Nat.beq t 22 || Nat.beq t 40 || Nat.beq t 48 || Nat.beq t 64 || Nat.beq t 72, fun t => Nat.beq t 59, fun t => false, fun t => false, fun t => false⟩
def law11_TableCuts.ann : Ann := ⟨fun n => [], fun n => bif Nat.beq n 9 then some [0, 2, 7, 8, 10] else none, fun n => none⟩
theorem tblV_len (x : List UInt8) : (tblV x).length ≤ 64 := by
  unfold tblV
  cases h : tblG x with
  | none => exact Nat.zero_le _
  | some l => exact (fit_right (tblG_fit h).1).1
end Go.Ab
