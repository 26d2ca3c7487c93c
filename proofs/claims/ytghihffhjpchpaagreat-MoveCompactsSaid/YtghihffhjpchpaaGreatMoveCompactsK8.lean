/- The texts that this claim needs, part 8: a logic over abstract values, its steps, what the functions do. No condition of its own. -/
import Derived.ChangeKeysEq
import Derived.Test.YtghihffhjpchpaaGreatMoveCompactsK7
set_option linter.unusedVariables false
set_option linter.unusedSimpArgs false
namespace Go.Ab
abbrev bytv (b : UInt8) : Value := .int .u8 b.toNat
theorem run_items {P : Program} {e : TypeId} (he : P.underlying e = some (.int .u8)) (c c' : List UInt8) (d : Nat) (w : World) : ∀ is : List Nat, (∀ i ∈ is, i < c.length ∧ i < c'.length) →
  (Op.eqItems (d + 1) e 1 (c.map bytv).toArray (c'.map bytv).toArray is).run P w = .ok (is.all fun i => decide (c.getD i 0 = c'.getD i 0)) w
 | [], _ => by simp [Op.eqItems]
 | i :: is, h => by
  obtain ⟨h1, h2⟩ := h i List.mem_cons_self
  have ih := run_items he c c' d w is fun j hj => h j (List.mem_cons_of_mem _ hj)
  have p1 : (part e (c.map bytv).toArray (i * 1)).run P w = .ok (bytv (c.getD i 0)) w := part_plain he rfl (by simp [List.getD_eq_getElem?_getD, h1]) w
  have p2 : (part e (c'.map bytv).toArray (i * 1)).run P w = .ok (bytv (c'.getD i 0)) w := part_plain he rfl (by simp [List.getD_eq_getElem?_getD, h2]) w
  have p3 : (Op.equalIn (d + 1) e (bytv (c.getD i 0)) (bytv (c'.getD i 0))).run P w = .ok (decide (c.getD i 0 = c'.getD i 0)) w := by
   rw [run_equalIn_int w d e .u8 .u8 _ _ he]
   congr 1
   rw [Bool.eq_iff_iff, beq_iff_eq, decide_eq_true_eq]
   constructor
   ·intro h; exact UInt8.toNat_inj.1 (Int.ofNat.inj h)
   ·intro h; rw [h]
  simp only [Op.eqItems, Sem.run_bind, p1, p2, p3, Result.andThen_ok, List.all_cons]
  by_cases hh : c.getD i 0 = c'.getD i 0
  ·rw [decide_eq_true hh]; simpa using ih
  ·rw [decide_eq_false hh]; simp
theorem all_same {c c' : List UInt8} {n : Nat} (h : c.length = n) (h' : c'.length = n) : ((List.range n).all fun i => decide (c.getD i 0 = c'.getD i 0)) = decide (c = c') := by
 rw [Bool.eq_iff_iff, List.all_eq_true, decide_eq_true_eq]
 constructor
 ·intro hh
  apply List.ext_getElem (by omega)
  intro i h1 h2
  have := hh i (List.mem_range.2 (by omega))
  simpa [List.getD_eq_getElem?_getD, h1, h2] using this
 ·rintro rfl i _; simp
section arr
variable {P : Program} {t : TypeId} {n : Nat} {c c' : List UInt8} {K : AV → Prop}
end arr
end Go.Ab
