/- Steps (part 5): entries; truth values held against one another. No program in sight. -/
import Derived.Test.YtopmpooglnfalaaSt4
import Derived.Test.YtopmpooglnfalaaSp1
import Derived.Test.YtopmpooglnfalaaAb17
set_option linter.unusedVariables false
set_option linter.unusedSimpArgs false
namespace Go.Ab
variable {P : Program}
def GEff (g : AV) (want : Bool) (A B : Prop) : Prop := ∃ t, wantedA g want = some t ∧ if t = true then A else B
def Both (A B : Prop) : Prop := A ∧ B
theorem both {A B : Prop} (a : A) (b : B) : Both A B := ⟨a, b⟩
section geff
variable {φ : Prop} [Decidable φ] {A B' : Prop} {c : Bool}
instance geB : Stp (GEff (.val (.bool c)) true A B') (Cho (c = true) A B') := ⟨fun h => by
  cases c
  · exact ⟨false, rfl, by simpa using h.2 (by decide)⟩
  · exact ⟨true, rfl, by simpa using h.1 rfl⟩⟩
instance geB' : Stp (GEff (.val (.bool c)) false A B') (Cho (c = true) B' A) := ⟨fun h => by
  cases c
  · exact ⟨true, rfl, by simpa using h.2 (by decide)⟩
  · exact ⟨false, rfl, by simpa using h.1 rfl⟩⟩
instance (priority := 1100) geD : Stp (GEff (.val (.bool (decide φ))) true A B') (Cho φ A B') := ⟨fun h => by
  by_cases e : φ
  · exact ⟨true, by rw [decide_eq_true e]; rfl, by simpa using h.1 e⟩
  · exact ⟨false, by rw [decide_eq_false e]; rfl, by simpa using h.2 e⟩⟩
instance (priority := 1100) geD' : Stp (GEff (.val (.bool (decide φ))) false A B') (Cho φ B' A) := ⟨fun h => by
  by_cases e : φ
  · exact ⟨false, by rw [decide_eq_true e]; rfl, by simpa using h.1 e⟩
  · exact ⟨true, by rw [decide_eq_false e]; rfl, by simpa using h.2 e⟩⟩
instance (priority := 1200) geN : Stp (GEff (.val (.bool (decide (¬ φ)))) true A B') (Cho φ B' A) := ⟨fun h => by
  by_cases e : φ
  · exact ⟨false, by rw [decide_eq_false (fun n => n e)]; rfl, by simpa using h.1 e⟩
  · exact ⟨true, by rw [decide_eq_true e]; rfl, by simpa using h.2 e⟩⟩
instance (priority := 1200) geNb : Stp (GEff (.val (.bool (!c))) true A B') (Cho (c = true) B' A) := ⟨fun h => by
  cases c
  · exact ⟨true, rfl, by simpa using h.2 (by decide)⟩
  · exact ⟨false, rfl, by simpa using h.1 rfl⟩⟩
instance geU {w : Bool} : Stp (GEff (.val Go.undef) w A B') B' := ⟨fun h => ⟨false, rfl, by simpa using h⟩⟩
end geff

class BoolT (P : Program) (t : TypeId) : Prop where
  h : isBoolT P t = true
theorem s_eqlB {t : TypeId} {a b : Bool} {K : AV → Prop} (h : isBoolT P t = true) (hK : K (.val (.bool (decide (a = b))))) : ∃ u, aBin P .eql t (.val (.bool a)) (.val (.bool b)) u ∧ K u := by
  refine ⟨_, (aBin_val fun _ _ w => ?_).2 rfl, hK⟩
  have hu := isBoolT_run h
  have q : (Op.equalIn Op.maxDepth t (.bool a) (.bool b)).run P w = .ok (decide (a = b)) w := by
    have := run_equalIn_bool' (P := P) w 9999 t a b hu
    have e : (a == b) = decide (a = b) := by cases a <;> cases b <;> rfl
    rw [e] at this
    exact this
  simp [eqGuard, binOp, Op.equal, q]
theorem s_neqB {t : TypeId} {a b : Bool} {K : AV → Prop} (h : isBoolT P t = true) (hK : K (.val (.bool (decide (¬ a = b))))) : ∃ u, aBin P .neq t (.val (.bool a)) (.val (.bool b)) u ∧ K u := by
  refine ⟨_, (aBin_val fun _ _ w => ?_).2 rfl, hK⟩
  have hu := isBoolT_run h
  have q : (Op.equalIn Op.maxDepth t (.bool a) (.bool b)).run P w = .ok (decide (a = b)) w := by
    have := run_equalIn_bool' (P := P) w 9999 t a b hu
    have e : (a == b) = decide (a = b) := by cases a <;> cases b <;> rfl
    rw [e] at this
    exact this
  simp [eqGuard, binOp, Op.equal, q]
instance eqB {t : TypeId} {a b : Bool} {K : AV → Prop} [h : BoolT P t] : Stp (Do (aBin P .eql t (.val (.bool a)) (.val (.bool b))) K) (K (.val (.bool (decide (a = b))))) := ⟨fun hK => s_eqlB h.h hK⟩
instance neB {t : TypeId} {a b : Bool} {K : AV → Prop} [h : BoolT P t] : Stp (Do (aBin P .neq t (.val (.bool a)) (.val (.bool b))) K) (K (.val (.bool (decide (¬ a = b))))) := ⟨fun hK => s_neqB h.h hK⟩

/-! entries -/
class EnT (P : Program) (t : TypeId) : Prop where
  h : enType P t = true
section en
variable {e f o : En} {x y : List UInt8} {d : Bool} {q : Int} {t : TypeId} {K : AV → Prop}
instance : Enc En.av 4 := ⟨told_En, by decide, fun _ => rfl⟩
instance : Cells (En.av e) (En.cs e) := ⟨rfl⟩
instance : Ones (En.cs e) := ⟨(told_En e).2⟩
instance : IsAgg (En.av e) (En.cs e) := ⟨rfl⟩
instance : LenC (En.cs e) 4 := ⟨rfl⟩
instance : Part (En.cs e) 0 1 [S e.key] := ⟨rfl, Nat.le_of_ble_eq_true rfl, by decide⟩
instance : Part (En.cs e) 1 1 [S e.val] := ⟨rfl, Nat.le_of_ble_eq_true rfl, by decide⟩
instance : Part (En.cs e) 2 1 [B e.del] := ⟨rfl, Nat.le_of_ble_eq_true rfl, by decide⟩
instance : Part (En.cs e) 3 1 [I .i64 e.seq] := ⟨rfl, Nat.le_of_ble_eq_true rfl, by decide⟩
instance : Part (En.cs e) 0 4 (En.cs e) := ⟨rfl, Nat.le_of_ble_eq_true rfl, by decide⟩
instance : MkV true 4 (En.cs e) (En.av e) := ⟨rfl, fun h => by cases h⟩
instance : FoldC [.val (.string ⟨#[]⟩), .val (.string ⟨#[]⟩), .val (.bool false), .val (.int .i64 0)] (En.cs En.zero) := ⟨rfl⟩
instance : ElemF [.val (.string ⟨#[]⟩), .val (.string ⟨#[]⟩), .val (.bool false), .val (.int .i64 0)] En En.av := ⟨trivial⟩
instance : ZeroE [.string ⟨#[]⟩, .string ⟨#[]⟩, .bool false, .int .i64 0] En En.av En.zero := ⟨rfl, by simp [Value.oneCell']⟩
instance : Splice (En.cs e) 0 [S x] (En.cs ⟨x, e.val, e.del, e.seq⟩) := ⟨rfl, Nat.le_of_ble_eq_true rfl⟩
instance : Splice (En.cs e) 1 [S x] (En.cs ⟨e.key, x, e.del, e.seq⟩) := ⟨rfl, Nat.le_of_ble_eq_true rfl⟩
instance : Splice (En.cs e) 2 [B d] (En.cs ⟨e.key, e.val, d, e.seq⟩) := ⟨rfl, Nat.le_of_ble_eq_true rfl⟩
instance : Splice (En.cs e) 3 [I .i64 q] (En.cs ⟨e.key, e.val, e.del, q⟩) := ⟨rfl, Nat.le_of_ble_eq_true rfl⟩
instance : Splice (En.cs e) 0 (En.cs f) (En.cs f) := ⟨rfl, Nat.le_of_ble_eq_true rfl⟩
instance : SetF En.av e 0 [S x] ⟨x, e.val, e.del, e.seq⟩ := ⟨rfl, Nat.le_of_ble_eq_true rfl⟩
instance : SetF En.av e 1 [S x] ⟨e.key, x, e.del, e.seq⟩ := ⟨rfl, Nat.le_of_ble_eq_true rfl⟩
instance : SetF En.av e 2 [B d] ⟨e.key, e.val, d, e.seq⟩ := ⟨rfl, Nat.le_of_ble_eq_true rfl⟩
instance : SetF En.av e 3 [I .i64 q] ⟨e.key, e.val, e.del, q⟩ := ⟨rfl, Nat.le_of_ble_eq_true rfl⟩
class FillEn (parts : List (Nat × AV)) (k v : List UInt8) (d : Bool) (q : Int) (o : outParam En) : Prop where
  one : partsOne parts
  eq : fillA ([(0, 1), (1, 1), (2, 1), (3, 1)][·]?) (En.cs ⟨k, v, d, q⟩) parts = some o.cs
theorem FillEn.cons {ps : List (Nat × AV)} {i : Nat} {u : AV} {k v k' v' : List UInt8} {d d' : Bool} {q q' : Int} (h : FillEn ps k' v' d' q' o) (h1 : u.cells.length = 1) (h2 : ∀ c ∈ u.cells, c.one = true) (hi : i < 4) (h3 : splice (En.cs ⟨k, v, d, q⟩) i u.cells = En.cs ⟨k', v', d', q'⟩) : FillEn ((i, u) :: ps) k v d q o := ⟨fun p hp c hc => by
    rcases List.mem_cons.1 hp with rfl | hp
    · exact h2 c hc
    · exact h.one p hp c hc, by
    have e1 : ([(0, 1), (1, 1), (2, 1), (3, 1)] : List (Nat × Nat))[i]? = some (i, 1) := by
      match i, hi with
      | 0, _ => rfl
      | 1, _ => rfl
      | 2, _ => rfl
      | 3, _ => rfl
    simp only [fillA, e1, h1]
    rw [if_pos ⟨trivial, by show i + 1 ≤ 4; omega⟩, h3]
    exact h.eq⟩
section fill
variable {k v : List UInt8} {ps : List (Nat × AV)}
instance : FillEn [] k v d q ⟨k, v, d, q⟩ := ⟨fun p hp => by simp at hp, rfl⟩
instance [h : FillEn ps x v d q o] : FillEn ((0, S x) :: ps) k v d q o := h.cons rfl (by simp [AV.cells, AV.one, Value.oneCell']) (by decide) rfl
instance [h : FillEn ps k x d q o] : FillEn ((1, S x) :: ps) k v d q o := h.cons rfl (by simp [AV.cells, AV.one, Value.oneCell']) (by decide) rfl
instance {b : Bool} [h : FillEn ps k v b q o] : FillEn ((2, B b) :: ps) k v d q o := h.cons rfl (by simp [AV.cells, AV.one, Value.oneCell']) (by decide) rfl
instance {n : Int} [h : FillEn ps k v d n o] : FillEn ((3, I .i64 n) :: ps) k v d q o := h.cons rfl (by simp [AV.cells, AV.one, Value.oneCell']) (by decide) rfl
instance litEn {parts : List (Nat × AV)} [h : FillEn parts [] [] false 0 o] : Stp (Do (aLit [.val (.string ⟨#[]⟩), .val (.string ⟨#[]⟩), .val (.bool false), .val (.int .i64 0)] [(0, 1), (1, 1), (2, 1), (3, 1)] parts) K) (K o.av) := ⟨fun hK => ⟨_, ⟨h.one, _, h.eq, rfl⟩, hK⟩⟩
instance (priority := 1100) : Part (En.cs ⟨k, v, d, q⟩) 0 1 [S k] := ⟨rfl, Nat.le_of_ble_eq_true rfl, by decide⟩
instance (priority := 1100) : Part (En.cs ⟨k, v, d, q⟩) 1 1 [S v] := ⟨rfl, Nat.le_of_ble_eq_true rfl, by decide⟩
instance (priority := 1100) : Part (En.cs ⟨k, v, d, q⟩) 2 1 [B d] := ⟨rfl, Nat.le_of_ble_eq_true rfl, by decide⟩
instance (priority := 1100) : Part (En.cs ⟨k, v, d, q⟩) 3 1 [I .i64 q] := ⟨rfl, Nat.le_of_ble_eq_true rfl, by decide⟩
instance (priority := 1100) : Splice (En.cs ⟨k, v, d, q⟩) 0 [S x] (En.cs ⟨x, v, d, q⟩) := ⟨rfl, Nat.le_of_ble_eq_true rfl⟩
instance (priority := 1100) : Splice (En.cs ⟨k, v, d, q⟩) 1 [S x] (En.cs ⟨k, x, d, q⟩) := ⟨rfl, Nat.le_of_ble_eq_true rfl⟩
instance (priority := 1100) {b : Bool} : Splice (En.cs ⟨k, v, d, q⟩) 2 [B b] (En.cs ⟨k, v, b, q⟩) := ⟨rfl, Nat.le_of_ble_eq_true rfl⟩
instance (priority := 1100) {n : Int} : Splice (En.cs ⟨k, v, d, q⟩) 3 [I .i64 n] (En.cs ⟨k, v, d, n⟩) := ⟨rfl, Nat.le_of_ble_eq_true rfl⟩
end fill
instance eqEn [h : EnT P t] : Stp (Do (aBin P .eql t e.av f.av) K) (K (.val (.bool (decide (e = f))))) := ⟨fun hK => s_eqlEn h.h hK⟩
instance neEn [h : EnT P t] : Stp (Do (aBin P .neq t e.av f.av) K) (K (.val (.bool (decide (¬ e = f))))) := ⟨fun hK => s_neqEn h.h hK⟩
instance : Grounds (En.cs e) := ⟨(inferInstance : Grounds [S e.key, S e.val, B e.del, I .i64 e.seq]).g⟩
instance : Ground (En.av e) := ⟨fun R R' w hw => by
  obtain ⟨vs, rfl, hv⟩ := hw.agg_inv
  exact VR.agg' (hv.ground (inferInstance : Grounds (En.cs e)).g)⟩
end en
end Go.Ab
