/- Numbers and texts read from bytes. No program in sight. -/
import Derived.Test.YtobhbepiaibceaaSp5
set_option linter.unusedVariables false
set_option linter.unusedSimpArgs false
namespace Go.Ab
instance (priority := 1100) (b : UInt8) : Cells (byt b) [W8 b] := ⟨rfl⟩
/-- A number of bytes, from the i-th one on; what was read so far. -/
def getA : List UInt8 → Nat → Nat → Option (Nat × Nat)
  | [], _, _ => none
  | c :: s, i, v => if 10 ≤ i ∨ (i = 9 ∧ 1 < c.toNat) ∨ (0 < i ∧ c.toNat = 0) then none
    else if c.toNat < 128 then some (v + c.toNat % 128 * 128 ^ i, i + 1) else getA s (i + 1) (v + c.toNat % 128 * 128 ^ i)
def getG (s : List UInt8) : Option (Nat × Nat) := getA s 0 0
def getV (s : List UInt8) : Nat := ((getG s).map (·.1)).getD 0
def getN (s : List UInt8) : Nat := ((getG s).map (·.2)).getD 0
def getO (s : List UInt8) : Bool := (getG s).isSome
theorem drop_cons_d {α : Type} [Inhabited α] {l : List α} {i : Nat} (h : i < l.length) : l.drop i = l.getD i default :: l.drop (i + 1) := by
  rw [List.drop_eq_getElem_cons h, List.getD_eq_getElem?_getD, List.getElem?_eq_getElem h]
  rfl
theorem getA_ge (s : List UInt8) {i : Nat} (v : Nat) (h : 10 ≤ i) : getA s i v = none := by
  cases s with
  | nil => rfl
  | cons c s => unfold getA; rw [if_pos (.inl h)]
theorem getA_bound : ∀ {s : List UInt8} {i v : Nat} {r : Nat × Nat}, v < 128 ^ i → getA s i v = some r → r.1 < 18446744073709551616 ∧ r.2 ≤ 10 ∧ i < r.2 ∧ r.2 ≤ i + s.length
  | [], i, v, r, _, h => by cases h
  | c :: s, i, v, r, hv, h => by
    unfold getA at h
    split at h
    · cases h
    · rename_i hn
      have hi : i ≤ 9 := by omega
      have hb : v + c.toNat % 128 * 128 ^ i < 128 ^ (i + 1) := by
        have h1 : c.toNat % 128 * 128 ^ i ≤ 127 * 128 ^ i := Nat.mul_le_mul_right _ (by omega)
        rw [Nat.pow_succ]
        omega
      split at h
      · rename_i hc
        cases h
        refine ⟨?_, by dsimp only; omega, by dsimp only; omega, by dsimp only; simp only [List.length_cons]; omega⟩
        dsimp only
        rcases Nat.lt_or_ge i 9 with h9 | h9
        · have : (128 : Nat) ^ (i + 1) ≤ 128 ^ 9 := Nat.pow_le_pow_right (by decide) (by omega)
          omega
        · have e9 : i = 9 := by omega
          subst e9
          have : c.toNat % 128 ≤ 1 := by omega
          have h2 : c.toNat % 128 * 128 ^ 9 ≤ 1 * 128 ^ 9 := Nat.mul_le_mul_right _ this
          omega
      · have ih := getA_bound hb h
        simp only [List.length_cons]
        omega
theorem get_bound {s : List UInt8} : getV s < 18446744073709551616 ∧ getN s ≤ 10 ∧ getN s ≤ s.length ∧ (getO s = true → 0 < getN s) := by
  unfold getV getN getO
  cases h : getG s with
  | none => simp
  | some r =>
    have := getA_bound (s := s) (i := 0) (v := 0) (by decide) h
    simp
    omega
/-- One more byte's bits, laid beside those that are there. -/
theorem or_bits {w : UInt64} {c i : Nat} (hi : i ≤ 9) (hw : w.toNat < 128 ^ i) (hc : c < 128) (h9 : i = 9 → c ≤ 1) : (w ||| (UInt64.ofNat c <<< UInt64.ofNat (7 * i))).toNat = w.toNat + c * 128 ^ i := by
  have e1 : (128 : Nat) ^ i = 2 ^ (7 * i) := by rw [Nat.pow_mul]
  rw [e1] at hw ⊢
  have hc2 : c * 2 ^ (7 * i) < 18446744073709551616 := by
    rcases Nat.lt_or_ge i 9 with h | h
    · have h1 : c * 2 ^ (7 * i) ≤ 127 * 2 ^ (7 * i) := Nat.mul_le_mul_right _ (by omega)
      have h2 : (2 : Nat) ^ (7 * i) ≤ 2 ^ 56 := Nat.pow_le_pow_right (by decide) (by omega)
      omega
    · have e9 : i = 9 := by omega
      subst e9
      have h1 : c * 2 ^ (7 * 9) ≤ 1 * 2 ^ (7 * 9) := Nat.mul_le_mul_right _ (h9 rfl)
      omega
  have e2 : (UInt64.ofNat (7 * i)).toNat = 7 * i := by simp [UInt64.toNat_ofNat']; omega
  have e3 : (UInt64.ofNat c).toNat = c := by simp [UInt64.toNat_ofNat']; omega
  rw [UInt64.toNat_or, UInt64.toNat_shiftLeft, e2, e3, Nat.mod_eq_of_lt (show 7 * i < 64 by omega), Nat.shiftLeft_eq, Nat.mod_eq_of_lt (by rw [show (2 : Nat) ^ 64 = 18446744073709551616 from rfl]; exact hc2), Nat.or_comm, ← Nat.shiftLeft_eq, ← Nat.shiftLeft_add_eq_or_of_lt hw, Nat.shiftLeft_eq]
  omega
/-- What is read is what was put. -/
theorem getA_put : ∀ (v : Nat) (i u : Nat) (rest : List UInt8), v * 128 ^ i < 18446744073709551616 → i ≤ 9 → (0 < i → 0 < v) → getA (put v ++ rest) i u = some (u + v * 128 ^ i, i + (put v).length)
  | v, i, u, rest, hv, hi, h0 => by
    have h9 : i = 9 → v ≤ 1 := fun e => by subst e; omega
    rcases Nat.lt_or_ge v 128 with h | h
    · rw [put_small h, List.singleton_append]
      have e : (UInt8.ofNat v).toNat = v := by simp [UInt8.toNat_ofNat']; omega
      unfold getA
      rw [e, if_neg (by omega), if_pos h, Nat.mod_eq_of_lt h]
      rfl
    · have hlt9 : i < 9 := by omega
      rw [put_more (v := v) (by omega), List.cons_append]
      have e : (UInt8.ofNat (v % 128 + 128)).toNat = v % 128 + 128 := by simp [UInt8.toNat_ofNat']; omega
      have hd : v / 128 * 128 ^ (i + 1) + v % 128 * 128 ^ i = v * 128 ^ i := by
        have h1 := Nat.div_add_mod v 128
        rw [Nat.pow_succ, Nat.mul_comm (128 ^ i) 128, ← Nat.mul_assoc, ← Nat.add_mul]
        congr 1
        omega
      have ih := getA_put (v / 128) (i + 1) (u + v % 128 * 128 ^ i) rest (by omega) (by omega) (fun _ => by omega)
      unfold getA
      rw [e, if_neg (by omega), if_neg (by omega), show (v % 128 + 128) % 128 = v % 128 by omega, ih]
      simp only [List.length_cons]
      congr 2 <;> omega
theorem getG_put (v : Nat) (rest : List UInt8) (hv : v < 18446744073709551616) : getG (put v ++ rest) = some (v, (put v).length) := by
  have := getA_put v 0 0 rest (by simpa using hv) (by decide) (fun h => absurd h (by decide))
  simpa [getG] using this
/-- What was read had been put so. -/
theorem getA_back : ∀ {s : List UInt8} {i u : Nat} {r : Nat × Nat}, getA s i u = some r → ∃ v, r.1 = u + v * 128 ^ i ∧ (0 < i → 0 < v) ∧ r.2 = i + (put v).length ∧ ∃ rest, s = put v ++ rest
  | [], i, u, r, h => by cases h
  | c :: s, i, u, r, h => by
    unfold getA at h
    split at h
    · cases h
    · rename_i hn
      split at h
      · rename_i hc
        cases h
        refine ⟨c.toNat, by rw [Nat.mod_eq_of_lt hc], fun hi => by omega, by rw [put_small hc]; rfl, s, ?_⟩
        rw [put_small hc, UInt8.ofNat_toNat]
        rfl
      · rename_i hc
        obtain ⟨v, h1, h2, h3, rest, h4⟩ := getA_back h
        have hv := h2 (by omega)
        have hlt := UInt8.toNat_lt c
        refine ⟨v * 128 + c.toNat % 128, ?_, fun _ => by omega, ?_, rest, ?_⟩
        · rw [h1, Nat.pow_succ, Nat.add_mul, Nat.mul_comm (128 ^ i) 128, ← Nat.mul_assoc]
          omega
        · rw [put_more (by omega), h3, show (v * 128 + c.toNat % 128) / 128 = v by omega]
          simp only [List.length_cons]
          omega
        · rw [put_more (by omega), show (v * 128 + c.toNat % 128) / 128 = v by omega, show (v * 128 + c.toNat % 128) % 128 + 128 = c.toNat by omega, UInt8.ofNat_toNat, List.cons_append, ← h4]
theorem getG_back {s : List UInt8} {v n : Nat} (h : getG s = some (v, n)) : n = (put v).length ∧ ∃ rest, s = put v ++ rest := by
  obtain ⟨u, h1, _, h3, h4⟩ := getA_back h
  simp at h1
  subst h1
  exact ⟨by simpa using h3, h4⟩
/-- A text: its length, its bytes. -/
def textG (s : List UInt8) : Option (List UInt8 × Nat) := match getG s with
  | none => none
  | some (v, n) => if s.length - n < v then none else some ((s.drop n).take v, n + v)
def textV (s : List UInt8) : List UInt8 := ((textG s).map (·.1)).getD []
def textN (s : List UInt8) : Nat := ((textG s).map (·.2)).getD 0
def textO (s : List UInt8) : Bool := (textG s).isSome
theorem textG_put (t rest : List UInt8) (ht : t.length < 18446744073709551616) : textG (put t.length ++ t ++ rest) = some (t, (put t.length).length + t.length) := by
  unfold textG
  rw [List.append_assoc, getG_put t.length (t ++ rest) ht]
  dsimp only
  rw [if_neg (by simp only [List.length_append]; omega), List.drop_left, List.take_left]
theorem textG_back {s t : List UInt8} {n : Nat} (h : textG s = some (t, n)) : n = (put t.length ++ t).length ∧ ∃ rest, s = put t.length ++ t ++ rest := by
  unfold textG at h
  split at h
  · cases h
  · rename_i v k hg
    obtain ⟨h1, rest, h2⟩ := getG_back hg
    split at h
    · cases h
    · rename_i hlt
      cases h
      subst h2
      rw [List.length_append] at hlt
      have e1 : ((put v ++ rest).drop k).take v = rest.take v := by rw [h1, List.drop_left]
      have e2 : (rest.take v).length = v := by rw [List.length_take]; omega
      rw [e1, e2, h1]
      refine ⟨by rw [List.length_append, e2], rest.drop v, ?_⟩
      rw [List.append_assoc, List.take_append_drop]
theorem text_bound {s : List UInt8} : textN s ≤ s.length ∧ (textV s).length ≤ s.length ∧ (textO s = true → 0 < textN s) := by
  unfold textN textV textO
  cases h : textG s with
  | none => simp
  | some r =>
    obtain ⟨t, n⟩ := r
    obtain ⟨h1, rest, h2⟩ := textG_back h
    have hp : 0 < (put t.length).length := by
      have := getG_put
      rcases Nat.lt_or_ge t.length 128 with h | h
      · rw [put_small h]; simp
      · rw [put_more (v := t.length) (by omega)]; simp
    simp only [Option.map_some, Option.getD_some, Option.isSome_some, h1, h2, List.length_append]
    omega
end Go.Ab
