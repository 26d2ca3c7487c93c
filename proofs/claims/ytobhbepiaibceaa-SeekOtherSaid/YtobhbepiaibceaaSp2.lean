/- What the functions of layers 3 and 4 compute, more. No program in sight. -/
import Derived.Test.YtobhbepiaibceaaB3
set_option linter.unusedVariables false
set_option linter.unusedSimpArgs false
namespace Go.Ab
/-- An entry's bytes, if it is right. -/
def enR (e : En) : List UInt8 := [if e.del = true then 1 else 0] ++ put e.seq.toNat ++ (put e.key.length ++ e.key) ++ (if e.del = true then [] else put e.val.length ++ e.val)
def enB (e : En) : List UInt8 := if right e = true then enR e else []
/-- An entry of at most so many bytes. -/
def cutE (a b : Nat) (e : En) : En := ⟨e.key.take a, e.val.take b, e.del, e.seq⟩
theorem take_minN {α : Type} (l : List α) (k : Nat) : l.take (min l.length k) = l.take k := by
  rcases Nat.le_total l.length k with h | h
  · rw [Nat.min_eq_left h, List.take_of_length_le (Nat.le_refl _), List.take_of_length_le h]
  · rw [Nat.min_eq_right h]
end Go.Ab
