/- An entry read is the entry written. No program in sight. -/
import Derived.Test.YtobhbepiaibceaaSp7
set_option linter.unusedVariables false
set_option linter.unusedSimpArgs false
namespace Go.Ab
theorem get_some {s : List UInt8} (h : getO s = true) : getG s = some (getV s, getN s) := by
  unfold getO at h
  obtain ⟨r, hr⟩ := Option.isSome_iff_exists.1 h
  simp [getV, getN, hr]
theorem text_some {s : List UInt8} (h : textO s = true) : textG s = some (textV s, textN s) := by
  unfold textO at h
  obtain ⟨r, hr⟩ := Option.isSome_iff_exists.1 h
  simp [textV, textN, hr]
theorem right_b {e : En} (h : right e = true) : 1 ≤ e.key.length ∧ e.key.length ≤ 128 ∧ e.val.length ≤ 1024 ∧ (e.del = true → e.val = []) ∧ 1 ≤ e.seq ∧ e.seq ≤ 1099511627776 := by
  simp [right] at h
  obtain ⟨⟨⟨⟨⟨h1, h2⟩, h3⟩, h4⟩, h5⟩, h6⟩ := h
  have : 1 ≤ e.key.length := List.length_pos_iff.2 h1
  exact ⟨this, by omega, by omega, fun hd => h4.resolve_left (by simp [hd]), h5, h6⟩
theorem parse_put (e : En) (he : right e = true) (rest : List UInt8) : parseE (enR e ++ rest) = some (e, (enR e).length) := by
  obtain ⟨k1, k2, k3, k4, k5, k6⟩ := right_b he
  obtain ⟨key, val, del, seq⟩ := e
  dsimp only at k1 k2 k3 k4 k5 k6
  obtain ⟨q, rfl⟩ : ∃ q : Nat, seq = q := ⟨seq.toNat, by omega⟩
  cases del with
  | true =>
    have hv : val = [] := k4 rfl
    subst hv
    have es : enR ⟨key, [], true, q⟩ ++ rest = 1 :: (put q ++ (put key.length ++ key ++ rest)) := by simp [enR]
    have el : (enR ⟨key, [], true, q⟩).length = 1 + (put q).length + ((put key.length).length + key.length) := by simp [enR]; omega
    have g := getG_put q (put key.length ++ key ++ rest) (by omega)
    have t := textG_put key rest (by omega)
    have gV : getV (put q ++ (put key.length ++ key ++ rest)) = q := by simp only [getV, g]; rfl
    have gN : getN (put q ++ (put key.length ++ key ++ rest)) = (put q).length := by simp only [getN, g]; rfl
    have gO : getO (put q ++ (put key.length ++ key ++ rest)) = true := by simp only [getO, g]; rfl
    have tV : textV (put key.length ++ key ++ rest) = key := by simp only [textV, t]; rfl
    have tN : textN (put key.length ++ key ++ rest) = (put key.length).length + key.length := by simp only [textN, t]; rfl
    have tO : textO (put key.length ++ key ++ rest) = true := by simp only [textO, t]; rfl
    have d1 : ((1 : UInt8) :: (put q ++ (put key.length ++ key ++ rest))).drop 1 = put q ++ (put key.length ++ key ++ rest) := rfl
    have d2 : ((1 : UInt8) :: (put q ++ (put key.length ++ key ++ rest))).drop (1 + (put q).length) = put key.length ++ key ++ rest := by
      rw [Nat.add_comm, List.drop_succ_cons, List.drop_left]
    rw [es, parseE, if_neg (by simp), d1, gO, gV, if_neg (fun hc => hc.elim (by decide) (by omega)), gN, d2, tO, if_neg (by decide), if_pos (by rfl), tV, if_pos he, tN, el]
  | false =>
    have es : enR ⟨key, val, false, q⟩ ++ rest = 0 :: (put q ++ (put key.length ++ key ++ (put val.length ++ val ++ rest))) := by simp [enR]
    have el : (enR ⟨key, val, false, q⟩).length = 1 + (put q).length + ((put key.length).length + key.length) + ((put val.length).length + val.length) := by simp [enR]; omega
    obtain ⟨r, hr⟩ : ∃ r, r = put val.length ++ val ++ rest := ⟨_, rfl⟩
    have t2 := textG_put val rest (by omega)
    rw [← hr] at t2 es
    have g := getG_put q (put key.length ++ key ++ r) (by omega)
    have t := textG_put key r (by omega)
    have gV : getV (put q ++ (put key.length ++ key ++ r)) = q := by simp only [getV, g]; rfl
    have gN : getN (put q ++ (put key.length ++ key ++ r)) = (put q).length := by simp only [getN, g]; rfl
    have gO : getO (put q ++ (put key.length ++ key ++ r)) = true := by simp only [getO, g]; rfl
    have tV : textV (put key.length ++ key ++ r) = key := by simp only [textV, t]; rfl
    have tN : textN (put key.length ++ key ++ r) = (put key.length).length + key.length := by simp only [textN, t]; rfl
    have tO : textO (put key.length ++ key ++ r) = true := by simp only [textO, t]; rfl
    have uV : textV r = val := by simp only [textV, t2]; rfl
    have uN : textN r = (put val.length).length + val.length := by simp only [textN, t2]; rfl
    have uO : textO r = true := by simp only [textO, t2]; rfl
    have d1 : ((0 : UInt8) :: (put q ++ (put key.length ++ key ++ r))).drop 1 = put q ++ (put key.length ++ key ++ r) := rfl
    have d2 : ((0 : UInt8) :: (put q ++ (put key.length ++ key ++ r))).drop (1 + (put q).length) = put key.length ++ key ++ r := by
      rw [Nat.add_comm, List.drop_succ_cons, List.drop_left]
    have d3 : ((0 : UInt8) :: (put q ++ (put key.length ++ key ++ r))).drop (1 + (put q).length + ((put key.length).length + key.length)) = r := by
      rw [← List.drop_drop, d2, ← List.length_append, List.drop_left]
    rw [es, parseE, if_neg (by simp), d1, gO, gV, if_neg (fun hc => hc.elim (by decide) (by omega)), gN, d2, tO, if_neg (by decide), if_neg (by rw [List.getD_cons_zero]; decide), tN, d3, uO, if_neg (by decide), tV, uV, if_pos he, uN, el]
theorem parse_back {s : List UInt8} {y : En} {m : Nat} (h : parseE s = some (y, m)) : right y = true ∧ 1 ≤ m ∧ m ≤ s.length ∧ enR y = s.take m := by
  unfold parseE at h
  split at h
  · cases h
  rename_i h0
  have hs : 0 < s.length := List.length_pos_iff.2 fun e => h0 (.inl e)
  have e1 : s = s.getD 0 0 :: s.drop 1 := by
    have := drop_cons_d (l := s) (i := 0) hs
    rw [List.drop_zero] at this
    exact this
  split at h
  · cases h
  rename_i h1
  have hg : getO (s.drop 1) = true := by cases hc : getO (s.drop 1) with | true => rfl | false => exact absurd (.inl hc) h1
  obtain ⟨g1, r1, g2⟩ := getG_back (get_some hg)
  have d2 : s.drop (1 + getN (s.drop 1)) = r1 := by
    rw [g1, ← List.drop_drop]
    generalize getV (s.drop 1) = v at g2 ⊢
    rw [g2, List.drop_left]
  split at h
  · cases h
  rename_i h2
  have ht : textO (s.drop (1 + getN (s.drop 1))) = true := by simpa using h2
  obtain ⟨t1, r2, t2⟩ := textG_back (text_some ht)
  rw [d2] at h ht t1 t2
  generalize hV : getV (s.drop 1) = v at *
  generalize hN : getN (s.drop 1) = n at *
  generalize hT : textV r1 = t at *
  generalize hTN : textN r1 = tn at *
  split at h
  · rename_i hd
    split at h
    · rename_i hr
      cases h
      have hc : s.getD 0 0 = 1 := UInt8.toNat_inj.1 hd
      have ee : enR ⟨t, [], true, v⟩ = 1 :: (put v ++ (put t.length ++ t)) := by simp [enR]
      have ss : s = (1 :: (put v ++ (put t.length ++ t))) ++ r2 := by
        rw [e1, hc, g2, t2]; simp
      have ml : 1 + n + tn = (1 :: (put v ++ (put t.length ++ t))).length := by rw [g1, t1]; simp <;> omega
      refine ⟨hr, by omega, ?_, ?_⟩
      · rw [ml, ss]; simp
      · rw [ee, ml, ss, List.take_left]
    · cases h
  · rename_i hd
    split at h
    · cases h
    · rename_i h3
      have d3 : s.drop (1 + n + tn) = r2 := by
        rw [← List.drop_drop, d2, t2, t1, List.drop_left]
      rw [d3] at h h3
      have hu : textO r2 = true := by simpa using h3
      obtain ⟨u1, r3, u2⟩ := textG_back (text_some hu)
      generalize hU : textV r2 = u at *
      generalize hUN : textN r2 = un at *
      split at h
      · rename_i hr
        cases h
        have hc : s.getD 0 0 = 0 := UInt8.toNat_inj.1 (by have : ¬ 1 < (s.getD 0 0).toNat := fun e => h0 (.inr e); show (s.getD 0 0).toNat = 0; omega)
        have ee : enR ⟨t, u, false, v⟩ = 0 :: (put v ++ (put t.length ++ t) ++ (put u.length ++ u)) := by simp [enR]
        have ss : s = (0 :: (put v ++ (put t.length ++ t) ++ (put u.length ++ u))) ++ r3 := by
          rw [e1, hc, g2, t2, u2]; simp
        have ml : 1 + n + tn + un = (0 :: (put v ++ (put t.length ++ t) ++ (put u.length ++ u))).length := by rw [g1, t1, u1]; simp; omega
        refine ⟨hr, by omega, ?_, ?_⟩
        · rw [ml, ss]; simp
        · rw [ee, ml, ss, List.take_left]
      · cases h
theorem enB_nil {e : En} (h : ¬ right e = true) : enB e = [] := by unfold enB; rw [if_neg h]
theorem enB_right {e : En} (h : right e = true) : enB e = enR e := by unfold enB; rw [if_pos h]
theorem put_pos (v : Nat) : 0 < (put v).length := by
  rcases Nat.lt_or_ge v 128 with h | h
  · rw [put_small h]; simp
  · rw [put_more (v := v) (by omega)]; simp
theorem enR_length {e : En} (he : right e = true) : 1 ≤ (enR e).length ∧ (enR e).length ≤ 1200 := by
  obtain ⟨k1, k2, k3, k4, k5, k6⟩ := right_b he
  have p1 := put_len64 (v := e.seq.toNat) (by omega)
  have p2 := put_len64 (v := e.key.length) (by omega)
  have p3 := put_len64 (v := e.val.length) (by omega)
  unfold enR
  split <;> simp only [List.length_append, List.length_cons, List.length_nil] <;> omega
theorem enB_length (e : En) : (enB e).length ≤ 1200 := by
  by_cases h : right e = true
  · rw [enB_right h]; exact (enR_length h).2
  · rw [enB_nil h]; simp
end Go.Ab
