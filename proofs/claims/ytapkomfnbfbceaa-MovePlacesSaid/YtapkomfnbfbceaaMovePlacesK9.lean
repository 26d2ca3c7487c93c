/- The texts that this claim needs, part 9: a logic over abstract values, its steps, what the functions do. No condition of its own. -/
import Derived.Laws.IdiomStrings
import Derived.Test.YtapkomfnbfbceaaMovePlacesK8
/- Steps (part 16): the bytes of a text as a row of one's own. No program in sight. -/
set_option linter.unusedVariables false
set_option linter.unusedSimpArgs false
namespace Go.Ab
variable {P : Program}
theorem flat_byt : ∀ l : List UInt8, flat (l.map byt) = l.map byt
  | [] => rfl
  | b :: l => by
    have ih := flat_byt l
    unfold flat at ih ⊢
    rw [List.map_cons, List.flatMap_cons, ih]
    rfl
end Go.Ab

/- The document's sum of a text: its end. -/
set_option linter.unusedVariables false
set_option linter.unusedSimpArgs false
namespace Go.Ab
def ref02_Padded.mark : Mark := ⟨fun t => false, fun t => Nat.beq t 7, fun t => false, fun t => false, fun t => false⟩
def ref02_Padded.ann : Ann := ⟨fun n => bif Nat.beq n 3 then [0, 3] else bif Nat.beq n 7 then [3, 4, 5] else [], fun n => none, fun n => none⟩
end Go.Ab

/- The document's sum of a text: turned, Constants. -/
set_option linter.unusedVariables false
set_option linter.unusedSimpArgs false
namespace Go.Ab
def ref02_turned.mark : Mark := ⟨fun t => false, fun t => false, fun t => false, fun t => false, fun t => false⟩
def ref02_turned.ann : Ann := ⟨fun n => [], fun n => none, fun n => none⟩
def ref02_Constants.mark : Mark := ⟨fun t => false, fun t => false, fun t => false, fun t => false, fun t => false⟩
def ref02_Constants.ann : Ann := ⟨fun n => [], fun n => none, fun n => none⟩
end Go.Ab

/- The document's sum of a text: the words of a block. -/
set_option linter.unusedVariables false
set_option linter.unusedSimpArgs false
namespace Go.Ab
def ref02_schedule.mark : Mark := ⟨fun t => Nat.beq t 51 || Nat.beq t 53 || Nat.beq t 59 || Nat.beq t 61, fun t => Nat.beq t 12, fun t => false, fun t => Nat.beq t 29, fun t => false⟩
def ref02_schedule.ann : Ann := ⟨fun n => bif Nat.beq n 3 then [0, 3, 4] else bif Nat.beq n 7 then [0, 3, 4, 5, 6] else bif Nat.beq n 12 then [3, 7] else [], fun n => none, fun n => bif Nat.beq n 18 then some [3, 7] else none⟩
end Go.Ab

/- The document's sum of a text. -/
set_option linter.unusedVariables false
set_option linter.unusedSimpArgs false
namespace Go.Ab
def ref02_Of.mark : Mark := ⟨fun t => Nat.beq t 20 || Nat.beq t 22 || Nat.beq t 34 || Nat.beq t 46 || Nat.beq t 50 || Nat.beq t 55 || Nat.beq t 93 || Nat.beq t 97 || Nat.beq t 102, fun t => Nat.beq t 19 || Nat.beq t 35 || Nat.beq t 156, fun t => false, fun t => false, fun t => false⟩
def ref02_Of.ann : Ann := ⟨fun n => bif Nat.beq n 5 then [2, 3, 4, 5, 6] else bif Nat.beq n 11 then [2, 3, 4, 5, 6, 7, 8, 9] else bif Nat.beq n 21 then [2, 3, 4, 5, 6, 8, 16] else bif Nat.beq n 26 then [2, 3, 17, 18] else [], fun n => none, fun n => none⟩
end Go.Ab
