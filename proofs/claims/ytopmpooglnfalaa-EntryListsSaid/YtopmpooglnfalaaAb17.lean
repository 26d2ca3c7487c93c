/- A logic over abstract states (part 17): are two entries the same. -/
import Derived.Test.YtopmpooglnfalaaSp1
import Derived.Laws.StructEq
set_option linter.unusedVariables false
set_option linter.unusedSimpArgs false
namespace Go.Ab
variable {P : Program}

def isBoolT (P : Program) (t : TypeId) : Bool := match P.underlying t with
  | some .bool => true
  | _ => false
def isIntT (P : Program) (t : TypeId) : Bool := match P.underlying t with
  | some (.int _) => true
  | _ => false
def enFields (P : Program) (l : List Field) : Bool := match l with
  | [a, b, c, d] => a.name != "_" && b.name != "_" && c.name != "_" && d.name != "_" && Nat.beq a.offset 0 && Nat.beq b.offset 1 && Nat.beq c.offset 2 && Nat.beq d.offset 3 && isString P a.type && isString P b.type && isBoolT P c.type && isIntT P d.type
  | _ => false
/-- It is the type of entries. -/
def enType (P : Program) (t : TypeId) : Bool := (match P.underlying t with
  | some (.struct fs) => enFields P fs.toList
  | _ => false) && !P.stoodInHeld t && !P.eqGuardType P.depth t
theorem isBoolT_run {t : TypeId} (h : isBoolT P t = true) : P.underlying t = some .bool := by
  unfold isBoolT at h; split at h
  · assumption
  · cases h
theorem isIntT_run {t : TypeId} (h : isIntT P t = true) : ∃ k, P.underlying t = some (.int k) := by
  unfold isIntT at h; split at h
  · rename_i k hk; exact ⟨k, hk⟩
  · cases h
theorem isAgg_plain {t : TypeId} {d : TypeDesc} (h : P.underlying t = some d) (hd : (match d with | .struct _ | .array _ _ => true | _ => false) = false) (w : World) : (isAgg t).run P w = .ok false w := by
  refine run_isAgg ?_ w
  unfold isAggB
  rw [h]
  cases d <;> first | rfl | cases hd
theorem part_plain {t : TypeId} {d : TypeDesc} (h : P.underlying t = some d) (hd : (match d with | .struct _ | .array _ _ => true | _ => false) = false) {cs : Array Value} {off : Nat} {v : Value} (hv : cs[off]? = some v) (w : World) : (part t cs off).run P w = .ok v w := by
  unfold part
  simp only [Sem.run_bind, isAgg_plain h hd, Result.andThen_ok, hv]
  rfl
theorem enType_run' {t : TypeId} (h : enType P t = true) (k1 v1 k2 v2 : List UInt8) (d1 d2 : Bool) (s1 s2 : Int) (w : World) {X Y : Array Value} (hX : X = #[.string ⟨k1.toArray⟩, .string ⟨v1.toArray⟩, .bool d1, .int .i64 s1]) (hY : Y = #[.string ⟨k2.toArray⟩, .string ⟨v2.toArray⟩, .bool d2, .int .i64 s2]) :
    (Op.equalIn 10000 t (.agg X) (.agg Y)).run P w = .ok (decide (k1 = k2) && decide (v1 = v2) && decide (d1 = d2) && decide (s1 = s2)) w := by
  simp only [enType, Bool.and_eq_true, Bool.not_eq_true'] at h
  obtain ⟨⟨h1, h2⟩, h3⟩ := h
  split at h1
  · rename_i fs hfs
    have hf : P.fieldsOf t = fs := by simp [Program.fieldsOf, hfs]
    rw [run_equalIn_struct w 9999 t _ _ (by rw [hf]; exact hfs) h2, hf]
    unfold enFields at h1
    split at h1
    · rename_i a b c d hl
      simp only [Bool.and_eq_true, bne_iff_ne] at h1
      obtain ⟨⟨⟨⟨⟨⟨⟨⟨⟨⟨⟨n1, n2⟩, n3⟩, n4⟩, o1⟩, o2⟩, o3⟩, o4⟩, t1⟩, t2⟩, t3⟩, t4⟩ := h1
      have o1 := Nat.eq_of_beq_eq_true o1
      have o2 := Nat.eq_of_beq_eq_true o2
      have o3 := Nat.eq_of_beq_eq_true o3
      have o4 := Nat.eq_of_beq_eq_true o4
      have u1 := isString_run t1
      have u2 := isString_run t2
      have u3 := isBoolT_run t3
      obtain ⟨k, u4⟩ := isIntT_run t4
      rw [hl]
      have q1 := run_equalIn_string (P := P) w 9998 a.type ⟨k1.toArray⟩ ⟨k2.toArray⟩ u1
      have q2 := run_equalIn_string (P := P) w 9998 b.type ⟨v1.toArray⟩ ⟨v2.toArray⟩ u2
      have q3 := run_equalIn_bool' (P := P) w 9998 c.type d1 d2 u3
      have q4 := run_equalIn_int (P := P) w 9998 d.type .i64 k s1 s2 u4
      have pe1 : (part a.type X 0).run P w = .ok (.string ⟨k1.toArray⟩) w := part_plain u1 rfl (by rw [hX]; rfl) w
      have pf1 : (part a.type Y 0).run P w = .ok (.string ⟨k2.toArray⟩) w := part_plain u1 rfl (by rw [hY]; rfl) w
      have pe2 : (part b.type X 1).run P w = .ok (.string ⟨v1.toArray⟩) w := part_plain u2 rfl (by rw [hX]; rfl) w
      have pf2 : (part b.type Y 1).run P w = .ok (.string ⟨v2.toArray⟩) w := part_plain u2 rfl (by rw [hY]; rfl) w
      have pe3 : (part c.type X 2).run P w = .ok (.bool d1) w := part_plain u3 rfl (by rw [hX]; rfl) w
      have pf3 : (part c.type Y 2).run P w = .ok (.bool d2) w := part_plain u3 rfl (by rw [hY]; rfl) w
      have pe4 : (part d.type X 3).run P w = .ok (.int .i64 s1) w := part_plain u4 rfl (by rw [hX]; rfl) w
      have pf4 : (part d.type Y 3).run P w = .ok (.int .i64 s2) w := part_plain u4 rfl (by rw [hY]; rfl) w
      simp only [ByteArray.toList_mk, Nat.reduceAdd] at q1 q2 q3 q4
      simp only [Op.eqFields, n1, n2, n3, n4, o1, o2, o3, o4, ne_eq, not_false_eq_true, if_true, Sem.run_bind, pe1, pf1, pe2, pf2, pe3, pf3, pe4, pf4, q1, q2, q3, q4, Result.andThen_ok]
      clear hX hY
      by_cases h1 : k1 = k2
      · subst h1
        by_cases h2 : v1 = v2
        · subst h2
          by_cases h3 : d1 = d2
          · subst h3
            by_cases h4 : s1 = s2
            · subst h4; simp [pe2, pf2, pe3, pf3, pe4, pf4, q2, q3, q4]
            · simp [pe2, pf2, pe3, pf3, pe4, pf4, q2, q3, q4, h4]
          · simp [pe2, pf2, pe3, pf3, pe4, pf4, q2, q3, q4, h3]
        · simp [pe2, pf2, pe3, pf3, pe4, pf4, q2, q3, q4, h2]
      · simp [h1]
    · cases h1
  · cases h1
theorem enType_run {t : TypeId} (h : enType P t = true) (e f : En) (w : World) : (Op.equalIn 10000 t (.agg #[.string ⟨e.key.toArray⟩, .string ⟨e.val.toArray⟩, .bool e.del, .int .i64 e.seq]) (.agg #[.string ⟨f.key.toArray⟩, .string ⟨f.val.toArray⟩, .bool f.del, .int .i64 f.seq])).run P w = .ok (decide (e = f)) w := by
  rw [enType_run' h e.key e.val f.key f.val e.del f.del e.seq f.seq w rfl rfl]
  congr 1
  cases e; cases f
  simp only [En.mk.injEq]
  rw [Bool.eq_iff_iff]
  simp [and_assoc]
theorem En.plain (e : En) : plainV e.av = some (.agg #[.string ⟨e.key.toArray⟩, .string ⟨e.val.toArray⟩, .bool e.del, .int .i64 e.seq]) := rfl
theorem s_eqlEn {t : TypeId} {e f : En} {K : AV → Prop} (h : enType P t = true) (hK : K (.val (.bool (decide (e = f))))) : ∃ u, aBin P .eql t e.av f.av u ∧ K u := by
  refine ⟨_, (aBin_plain e.plain f.plain fun xo yo w => ?_).2 rfl, hK⟩
  have hg : P.eqGuardType P.depth t = false := by
    simp only [enType, Bool.and_eq_true, Bool.not_eq_true'] at h
    exact h.2
  simp only [Sem.run_bind, run_eqGuard_agg w .eql t xo yo _ _ hg, Result.andThen_ok, run_eql_struct, enType_run h]
theorem s_neqEn {t : TypeId} {e f : En} {K : AV → Prop} (h : enType P t = true) (hK : K (.val (.bool (decide (e ≠ f))))) : ∃ u, aBin P .neq t e.av f.av u ∧ K u := by
  refine ⟨_, (aBin_plain e.plain f.plain fun xo yo w => ?_).2 rfl, hK⟩
  have hg : P.eqGuardType P.depth t = false := by
    simp only [enType, Bool.and_eq_true, Bool.not_eq_true'] at h
    exact h.2
  simp only [Sem.run_bind, run_eqGuard_agg w .neq t xo yo _ _ hg, Result.andThen_ok, run_neq_struct, enType_run h]
  congr 2
  by_cases he : e = f <;> simp [he]
end Go.Ab
