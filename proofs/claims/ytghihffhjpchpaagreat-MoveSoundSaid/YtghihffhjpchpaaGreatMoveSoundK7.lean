/- The texts that this claim needs, part 7: a logic over abstract values, its steps, what the functions do. No condition of its own. -/
import Derived.Laws.Externs
import Derived.Test.YtghihffhjpchpaaGreatMoveSoundK6
set_option linter.unusedVariables false
set_option linter.unusedSimpArgs false
namespace Go.Ab
def internal_bytealg_CompareString.mark : Mark := ⟨fun t => Nat.beq t 7, fun t => false, fun t => false, fun t => false, fun t => false⟩
def internal_bytealg_CompareString.ann : Ann := ⟨fun n => [], fun n => none, fun n => none⟩
def strings_Compare.mark : Mark := ⟨fun t => Nat.beq t 7, fun t => false, fun t => false, fun t => false, fun t => false⟩
def strings_Compare.ann : Ann := ⟨fun n => [], fun n => none, fun n => none⟩
end Go.Ab

namespace Go.Ab
section more
variable {P : Program} {b n : Nat} {t : TypeId} {cs cs' : List AV} {lev cnt : Int} {d f g : List UInt8} {σ rest : Store} {put : Ent → Store} {k : AV → Store → Prop} {K : AV → Prop}
instance (sz : Nat) (l : List AV) (m : SM) : One (.lst sz l m) := ⟨rfl⟩
instance (priority := 50) stWhole [hv : VarAt b σ t cs put rest] [hl : LenC cs n] [hl' : LenC cs' n] [ho : Ones cs'] : Stp (storeA n (ptrAt b 0) (.agg cs') σ k) (k .undef (put (.var b t cs'))) := ⟨fun hK => by
 obtain ⟨σ1, σ2, e, e2, _⟩ := hv.at_
 refine ⟨hl'.eq, fun c hc => ho.ones c hc, rfl, σ1, σ2, t, cs, e, by rw [hl.eq]; show 0 + n ≤ n; omega, ?_⟩
 rw [e2] at hK
 have : splice cs 0 (AV.cells (.agg cs')) = cs' := by
  show splice cs 0 cs' = _
  unfold splice
  rw [List.take_zero, List.nil_append, Nat.zero_add, hl'.eq, List.drop_of_length_le (by rw [hl.eq]; omega), List.append_nil]
 rw [this]
 exact hK⟩
end more
end Go.Ab
