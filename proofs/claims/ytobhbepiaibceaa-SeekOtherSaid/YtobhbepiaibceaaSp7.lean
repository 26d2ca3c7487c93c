/- An entry read from bytes. No program in sight. -/
import Derived.Test.YtobhbepiaibceaaSp6
set_option linter.unusedVariables false
set_option linter.unusedSimpArgs false
namespace Go.Ab
/-- An entry that stands at the front of bytes, and how many it takes. -/
def parseE (s : List UInt8) : Option (En × Nat) :=
  if s = [] ∨ 1 < (s.getD 0 0).toNat then none
  else if getO (s.drop 1) = false ∨ 1099511627776 < getV (s.drop 1) then none
  else if textO (s.drop (1 + getN (s.drop 1))) = false then none
  else if (s.getD 0 0).toNat = 1 then
    (if right ⟨textV (s.drop (1 + getN (s.drop 1))), [], true, getV (s.drop 1)⟩ = true then some (⟨textV (s.drop (1 + getN (s.drop 1))), [], true, getV (s.drop 1)⟩, 1 + getN (s.drop 1) + textN (s.drop (1 + getN (s.drop 1)))) else none)
  else if textO (s.drop (1 + getN (s.drop 1) + textN (s.drop (1 + getN (s.drop 1))))) = false then none
  else if right ⟨textV (s.drop (1 + getN (s.drop 1))), textV (s.drop (1 + getN (s.drop 1) + textN (s.drop (1 + getN (s.drop 1))))), false, getV (s.drop 1)⟩ = true then
    some (⟨textV (s.drop (1 + getN (s.drop 1))), textV (s.drop (1 + getN (s.drop 1) + textN (s.drop (1 + getN (s.drop 1))))), false, getV (s.drop 1)⟩, 1 + getN (s.drop 1) + textN (s.drop (1 + getN (s.drop 1))) + textN (s.drop (1 + getN (s.drop 1) + textN (s.drop (1 + getN (s.drop 1))))))
  else none
theorem right_min (k v : List UInt8) (d : Bool) (q : Nat) : right ⟨k, v, d, (min q 1099511627777 : Nat)⟩ = (decide (q ≤ 1099511627776) && right ⟨k, v, d, q⟩) := by
  by_cases h : q ≤ 1099511627776
  · rw [Nat.min_eq_left (by omega), decide_eq_true h, Bool.true_and]
  · rw [Nat.min_eq_right (by omega), decide_eq_false h, Bool.false_and]
    simp [right]
section parse
variable {s : List UInt8}
theorem parse_fail1 (h : (!getO (s.drop 1) || !textO (s.drop (1 + getN (s.drop 1)))) = true) : parseE s = none := by
  unfold parseE
  split
  · rfl
  · split
    · rfl
    · rename_i h1 h2
      have : getO (s.drop 1) = true := by
        cases hc : getO (s.drop 1) with
        | true => rfl
        | false => exact absurd (.inl hc) h2
      rw [this] at h
      rw [if_pos (by simpa using h)]
theorem parse_del (h0 : ¬ s.length = 0) (h1 : ¬ 1 < (s.getD 0 default).toNat) (hd : (s.getD 0 default).toNat = 1) (hw : ¬ (!getO (s.drop 1) || !textO (s.drop (1 + getN (s.drop 1)))) = true) :
    parseE s = if right ⟨textV (s.drop (1 + getN (s.drop 1))), [], decide ((s.getD 0 default).toNat = 1), (min (getV (s.drop 1)) 1099511627777 : Nat)⟩ = true then
      some (⟨textV (s.drop (1 + getN (s.drop 1))), [], decide ((s.getD 0 default).toNat = 1), (min (getV (s.drop 1)) 1099511627777 : Nat)⟩, 1 + getN (s.drop 1) + textN (s.drop (1 + getN (s.drop 1)))) else none := by
  have hs : ¬ s = [] := fun e => h0 (by rw [e]; rfl)
  have hw1 : getO (s.drop 1) = true := by cases hc : getO (s.drop 1) <;> simp_all
  have hw2 : textO (s.drop (1 + getN (s.drop 1))) = true := by cases hc : textO (s.drop (1 + getN (s.drop 1))) <;> simp_all
  have hd' : (s.getD 0 0).toNat = 1 := hd
  rw [decide_eq_true hd, right_min, parseE, if_neg (by rw [hd']; simp [hs]), hw1, hw2, if_neg (by decide : ¬ true = false), if_pos hd']
  by_cases hq : getV (s.drop 1) ≤ 1099511627776
  · rw [if_neg (fun hc => hc.elim (by decide) (by omega)), decide_eq_true hq, Bool.true_and, Nat.min_eq_left (by omega)]
  · rw [if_pos (.inr (by omega)), decide_eq_false hq, Bool.false_and, if_neg (by decide)]
theorem parse_fail2 (hd : ¬ (s.getD 0 default).toNat = 1) (h : (!getO (s.drop 1) || !textO (s.drop (1 + getN (s.drop 1))) || !textO (s.drop (1 + getN (s.drop 1) + textN (s.drop (1 + getN (s.drop 1)))))) = true) : parseE s = none := by
  cases hw : (!getO (s.drop 1) || !textO (s.drop (1 + getN (s.drop 1)))) with
  | true => exact parse_fail1 hw
  | false =>
    rw [hw, Bool.false_or] at h
    unfold parseE
    split
    · rfl
    · split
      · rfl
      · split
        · rfl
        · have hd' : ¬ (s.getD 0 0).toNat = 1 := hd
          rw [if_neg hd', if_pos (by simpa using h)]
theorem parse_val (h0 : ¬ s.length = 0) (h1 : ¬ 1 < (s.getD 0 default).toNat) (hd : ¬ (s.getD 0 default).toNat = 1) (hw : ¬ (!getO (s.drop 1) || !textO (s.drop (1 + getN (s.drop 1))) || !textO (s.drop (1 + getN (s.drop 1) + textN (s.drop (1 + getN (s.drop 1)))))) = true) :
    parseE s = if right ⟨textV (s.drop (1 + getN (s.drop 1))), textV (s.drop (1 + getN (s.drop 1) + textN (s.drop (1 + getN (s.drop 1))))), decide ((s.getD 0 default).toNat = 1), (min (getV (s.drop 1)) 1099511627777 : Nat)⟩ = true then
      some (⟨textV (s.drop (1 + getN (s.drop 1))), textV (s.drop (1 + getN (s.drop 1) + textN (s.drop (1 + getN (s.drop 1))))), decide ((s.getD 0 default).toNat = 1), (min (getV (s.drop 1)) 1099511627777 : Nat)⟩, 1 + getN (s.drop 1) + textN (s.drop (1 + getN (s.drop 1))) + textN (s.drop (1 + getN (s.drop 1) + textN (s.drop (1 + getN (s.drop 1)))))) else none := by
  have hs : ¬ s = [] := fun e => h0 (by rw [e]; rfl)
  have hw1 : getO (s.drop 1) = true := by cases hc : getO (s.drop 1) <;> simp_all
  have hw2 : textO (s.drop (1 + getN (s.drop 1))) = true := by cases hc : textO (s.drop (1 + getN (s.drop 1))) <;> simp_all
  have hw3 : textO (s.drop (1 + getN (s.drop 1) + textN (s.drop (1 + getN (s.drop 1))))) = true := by cases hc : textO (s.drop (1 + getN (s.drop 1) + textN (s.drop (1 + getN (s.drop 1))))) <;> simp_all
  have hd' : ¬ (s.getD 0 0).toNat = 1 := hd
  have h1' : ¬ 1 < (s.getD 0 0).toNat := h1
  rw [decide_eq_false hd, right_min, parseE, if_neg (by simp only [hs, false_or]; exact h1'), hw1, hw2, hw3, if_neg (by decide : ¬ true = false), if_neg hd', if_neg (by decide : ¬ true = false)]
  by_cases hq : getV (s.drop 1) ≤ 1099511627776
  · rw [if_neg (fun hc => hc.elim (by decide) (by omega)), decide_eq_true hq, Bool.true_and, Nat.min_eq_left (by omega)]
  · rw [if_pos (.inr (by omega)), decide_eq_false hq, Bool.false_and, if_neg (by decide)]
end parse
def parseV (s : List UInt8) : En := ((parseE s).map (·.1)).getD En.zero
def parseN (s : List UInt8) : Nat := ((parseE s).map (·.2)).getD 0
def parseX (s : List UInt8) : Int := if (parseE s).isSome = true then 0 else 2
end Go.Ab
