/- Reading a block: its entries, whole. No program in sight. -/
import Derived.Test.YtobhbepiaibceaaSp9
set_option linter.unusedVariables false
set_option linter.unusedSimpArgs false
namespace Go.Ab
/-- An entry behind a key, from its value on .. -/
def entG4 (k : List UInt8) (d : Bool) (q : Nat) (s : List UInt8) : Option (En × List UInt8) :=
  if d = true then some (⟨k, [], true, q⟩, s) else if textO s = true then some (⟨k, textV s, false, q⟩, s.drop (textN s)) else none
/-- .. from its number on .. -/
def entG3 (k : List UInt8) (d : Bool) (s : List UInt8) : Option (En × List UInt8) :=
  if getO s = true ∧ getV s ≤ 1099511627776 then entG4 k d (getV s) (s.drop (getN s)) else none
/-- .. from its flag on .. -/
def entG2 (k s : List UInt8) : Option (En × List UInt8) :=
  if 0 < s.length ∧ (s.getD 0 default).toNat ≤ 1 then entG3 k (decide ((s.getD 0 default).toNat = 1)) (s.drop 1) else none
/-- .. from the rest of its key on .. -/
def entG1 (k s : List UInt8) : Option (En × List UInt8) :=
  if textO s = true then entG2 (k ++ textV s) (s.drop (textN s)) else none
/-- .. and whole. -/
def entG (k s : List UInt8) : Option (En × List UInt8) :=
  if getO s = true ∧ getV s ≤ k.length then entG1 (k.take (getV s)) (s.drop (getN s)) else none
/-- At most so many entries more. -/
def entsA : Nat → List UInt8 → List UInt8 → List En → Option (List En)
  | 0, _, _, l => some l
  | n + 1, k, s, l => if s.length = 0 then some l else match entG k s with
    | none => none
    | some (e, r) => entsA n e.key r (l ++ [e])
def entsG (s : List UInt8) : Option (List En) := entsA 65 [] s []
def entsV (s : List UInt8) : List En := (entsG s).getD []
def entsO (s : List UInt8) : Bool := (entsG s).isSome
theorem text_le (s : List UInt8) : (textV s).length ≤ textN s := by
  unfold textN textV
  cases h : textG s with
  | none => simp
  | some r =>
    obtain ⟨t, n⟩ := r
    obtain ⟨h1, _⟩ := textG_back h
    simp only [Option.map_some, Option.getD_some, h1, List.length_append]
    omega
theorem entG_le {k s : List UInt8} {e : En} {r : List UInt8} (h : entG k s = some (e, r)) : e.key.length + r.length ≤ k.length + s.length ∧ e.val.length ≤ s.length ∧ 0 ≤ e.seq ∧ e.seq ≤ 1099511627776 := by
  obtain ⟨b1, b2, b3, b4⟩ := get_bound (s := s)
  unfold entG at h
  split at h
  · rename_i h0
    obtain ⟨s1, hs1⟩ : ∃ x, x = s.drop (getN s) := ⟨_, rfl⟩
    have l1 : s1.length ≤ s.length := by rw [hs1, List.length_drop]; omega
    rw [← hs1] at h
    unfold entG1 at h
    split at h
    · have t1 := text_le s1
      obtain ⟨t2, t3, t4⟩ := text_bound (s := s1)
      obtain ⟨s2, hs2⟩ : ∃ x, x = s1.drop (textN s1) := ⟨_, rfl⟩
      have l2 : s2.length + (textV s1).length ≤ s1.length := by rw [hs2, List.length_drop]; omega
      rw [← hs2] at h
      unfold entG2 at h
      split at h
      · obtain ⟨s3, hs3⟩ : ∃ x, x = s2.drop 1 := ⟨_, rfl⟩
        have l3 : s3.length ≤ s2.length := by rw [hs3, List.length_drop]; omega
        rw [← hs3] at h
        unfold entG3 at h
        split at h
        · rename_i h3
          obtain ⟨s4, hs4⟩ : ∃ x, x = s3.drop (getN s3) := ⟨_, rfl⟩
          have l4 : s4.length ≤ s3.length := by rw [hs4, List.length_drop]; omega
          rw [← hs4] at h
          unfold entG4 at h
          have hk : ((s.getD 0 default : UInt8)).toNat = (s.getD 0 default).toNat := rfl
          have htk : (k.take (getV s)).length ≤ k.length := by rw [List.length_take]; omega
          split at h
          · cases h
            simp only [List.length_append]
            refine ⟨by omega, by simp, by omega, by omega⟩
          · split at h
            · cases h
              have u1 := text_le s4
              obtain ⟨u2, u3, u4⟩ := text_bound (s := s4)
              simp only [List.length_append, List.length_drop]
              refine ⟨by omega, by omega, by omega, by omega⟩
            · cases h
        · cases h
      · cases h
    · cases h
  · cases h
theorem entsA_step {n : Nat} {k s : List UInt8} {l : List En} {e : En} {r : List UInt8} (h0 : ¬ s.length = 0) (h : entG k s = some (e, r)) : entsA (n + 1) k s l = entsA n e.key r (l ++ [e]) := by
  rw [entsA, if_neg h0, h]
theorem entsA_none {n : Nat} {k s : List UInt8} {l : List En} (h0 : ¬ s.length = 0) (h : entG k s = none) : entsA (n + 1) k s l = none := by
  rw [entsA, if_neg h0, h]
theorem entsA_nil {n : Nat} {k s : List UInt8} {l : List En} (h0 : s.length = 0) : entsA n k s l = some l := by
  cases n with
  | zero => rfl
  | succ n => rw [entsA, if_pos h0]
theorem entsA_next {k s : List UInt8} {l : List En} {e : En} {r : List UInt8} (hl : l.length ≤ 64) (h0 : 0 < s.length) (h : entG k s = some (e, r)) : entsA (65 - (l ++ [e]).length) e.key r (l ++ [e]) = entsA (65 - l.length) k s l := by
  have e1 : 65 - l.length = (65 - (l ++ [e]).length) + 1 := by simp; omega
  rw [e1, entsA_step (by omega) h]
theorem entsA_stop {k s : List UInt8} {l : List En} (hl : l.length ≤ 64) (h0 : 0 < s.length) (h : entG k s = none) : entsA (65 - l.length) k s l = none := by
  have e1 : 65 - l.length = (64 - l.length) + 1 := by omega
  rw [e1, entsA_none (by omega) h]
theorem entsA_end {k s : List UInt8} {l : List En} (hl : l.length ≤ 65) (h0 : s.length = 0 ∨ ¬ l.length ≤ 64) : entsA (65 - l.length) k s l = some l := by
  rcases h0 with h0 | h0
  · exact entsA_nil h0
  · rw [show 65 - l.length = 0 by omega]; rfl
theorem entsA_len : ∀ {n : Nat} {k s : List UInt8} {l r : List En}, entsA n k s l = some r → r.length ≤ l.length + n
  | 0, _, _, _, _, h => by cases h; exact Nat.le_refl _
  | n + 1, k, s, l, r, h => by
    rw [entsA] at h
    split at h
    · cases h; omega
    · split at h
      · cases h
      · have := entsA_len h
        rw [List.length_append] at this
        simp only [List.length_cons, List.length_nil] at this
        omega
theorem entsV_len (s : List UInt8) : (entsV s).length ≤ 65 := by
  unfold entsV
  cases h : entsG s with
  | none => simp
  | some l => have := entsA_len h; simpa using this
section steps
variable {k s : List UInt8} {d : Bool} {q : Nat}
theorem entG_pos (h : getO s = true ∧ getV s ≤ k.length) : entG k s = entG1 (k.take (getV s)) (s.drop (getN s)) := if_pos h
theorem entG_neg (h : ¬ (getO s = true ∧ getV s ≤ k.length)) : entG k s = none := if_neg h
theorem entG1_pos (h : textO s = true) : entG1 k s = entG2 (k ++ textV s) (s.drop (textN s)) := if_pos h
theorem entG1_neg (h : ¬ textO s = true) : entG1 k s = none := if_neg h
theorem entG2_pos (h : 0 < s.length ∧ (s.getD 0 default).toNat ≤ 1) : entG2 k s = entG3 k (decide ((s.getD 0 default).toNat = 1)) (s.drop 1) := if_pos h
theorem entG2_neg (h : ¬ (0 < s.length ∧ (s.getD 0 default).toNat ≤ 1)) : entG2 k s = none := if_neg h
theorem entG3_pos (h : getO s = true ∧ getV s ≤ 1099511627776) : entG3 k d s = entG4 k d (getV s) (s.drop (getN s)) := if_pos h
theorem entG3_neg (h : ¬ (getO s = true ∧ getV s ≤ 1099511627776)) : entG3 k d s = none := if_neg h
theorem entG4_del : entG4 k true q s = some (⟨k, [], true, q⟩, s) := if_pos rfl
theorem entG4_pos (h : textO s = true) : entG4 k false q s = some (⟨k, textV s, false, q⟩, s.drop (textN s)) := by rw [entG4, if_neg (by decide), if_pos h]
theorem entG4_neg (h : ¬ textO s = true) : entG4 k false q s = none := by rw [entG4, if_neg (by decide), if_neg h]
end steps
/-- What is read is what was written. -/
theorem entG_enc (k : List UInt8) (n : Nat) (e : En) (he : right e = true) (hn : n ≤ k.length) (hk : k.take n = e.key.take n) (hn2 : n ≤ e.key.length) (rest : List UInt8) : entG k (encE n e ++ rest) = some (e, rest) := by
  obtain ⟨k1, k2, k3, k4, k5, k6⟩ := right_b he
  obtain ⟨rk, rv, rd, rq⟩ := e
  dsimp only at *
  obtain ⟨q, rfl⟩ : ∃ q : Nat, rq = q := ⟨rq.toNat, by omega⟩
  have e1 : encE n ⟨rk, rv, rd, (q : Nat)⟩ ++ rest = put n ++ ((put (rk.drop n).length ++ rk.drop n) ++ ([if rd = true then 1 else 0] ++ (put q ++ ((if rd = true then [] else put rv.length ++ rv) ++ rest)))) := by
    simp [encE, List.append_assoc]
  rw [e1]
  have hd : (rk.drop n).length ≤ 128 := by rw [List.length_drop]; omega
  have g1 := getG_put n ((put (rk.drop n).length ++ rk.drop n) ++ ([if rd = true then 1 else 0] ++ (put q ++ ((if rd = true then [] else put rv.length ++ rv) ++ rest)))) (by omega)
  have go : ∀ {s : List UInt8} {v m : Nat}, getG s = some (v, m) → getO s = true ∧ getV s = v ∧ getN s = m := fun h => by simp [getO, getV, getN, h]
  have to : ∀ {s t : List UInt8} {m : Nat}, textG s = some (t, m) → textO s = true ∧ textV s = t ∧ textN s = m := fun h => by simp [textO, textV, textN, h]
  obtain ⟨a1, a2, a3⟩ := go g1
  rw [entG_pos ⟨a1, by rw [a2]; exact hn⟩, a2, a3, List.drop_left]
  have g2 := textG_put (rk.drop n) ([if rd = true then 1 else 0] ++ (put q ++ ((if rd = true then [] else put rv.length ++ rv) ++ rest))) (by omega)
  obtain ⟨c1, c2, c3⟩ := to g2
  have e3 : (put (rk.drop n).length).length + (rk.drop n).length = (put (rk.drop n).length ++ rk.drop n).length := by simp
  rw [entG1_pos c1, c2, c3, e3, List.drop_left, hk, List.take_append_drop]
  have hq := getG_put q ((if rd = true then [] else put rv.length ++ rv) ++ rest) (by omega)
  obtain ⟨d1, d2, d3⟩ := go hq
  have e4 : ∀ (b : UInt8) (x : List UInt8), (([b] ++ x).getD 0 default) = b := fun b x => rfl
  have e5 : ∀ (b : UInt8) (x : List UInt8), ([b] ++ x).drop 1 = x := fun b x => rfl
  rw [entG2_pos (by rw [e4]; refine ⟨by simp, ?_⟩; cases rd <;> decide), e4, e5, entG3_pos ⟨d1, by rw [d2]; omega⟩, d2, d3, List.drop_left]
  cases rd with
  | true =>
    have := k4 rfl
    subst this
    rfl
  | false =>
    obtain ⟨f1, f2, f3⟩ := to (textG_put rv rest (by omega))
    have e6 : (put rv.length).length + rv.length = (put rv.length ++ rv).length := by simp
    have e7 : (if (false : Bool) = true then ([] : List UInt8) else put rv.length ++ rv) ++ rest = put rv.length ++ rv ++ rest := by simp
    have e8 : decide ((if (false : Bool) = true then (1 : UInt8) else 0).toNat = 1) = false := rfl
    rw [e7, e8, entG4_pos f1, f2, f3, e6, List.drop_left]
end Go.Ab
