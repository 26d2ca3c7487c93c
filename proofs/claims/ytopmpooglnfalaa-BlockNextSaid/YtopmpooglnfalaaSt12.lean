/- Steps (part 12): calls that may panic; interfaces held against nil; what an assertion tells. No program in sight. -/
import Derived.Test.YtopmpooglnfalaaB4
set_option linter.unusedVariables false
set_option linter.unusedSimpArgs false
namespace Go.Ab
variable {P : Program}
/-- A call that hands something back, or panics. -/
class QC (P : Program) (f : FuncId) (args : List AV) (σ : Store) (pre ok : outParam Prop) (r : outParam AV) (s : outParam Store) (e : outParam AV) (s' : outParam Store) : Prop where
  ct : pre → ACalls P f args σ fun x σ' => (ok ∧ x = .ret r ∧ σ' = s) ∨ (¬ ok ∧ x = .pan e ∧ σ' = s')
instance (priority := 130) ecallPan {f : FuncId} {args : List AV} {σ s s' : Store} {pre ok : Prop} {r e : AV} {k kp : AV → Store → Prop} [h : QC P f args σ pre ok r s e s'] : Stp (aCall P f args σ k kp) (Need pre (Cho ok (k r s) (kp e s'))) := ⟨fun ⟨h1, h2⟩ =>
  ⟨σ, args, Sub.refl _ _, (h.ct h1).mono fun x τ hx => by
    rcases hx with ⟨h3, e1, e2⟩ | ⟨h3, e1, e2⟩
    · rw [e1, e2]; exact h2.1 h3
    · rw [e1, e2]; exact h2.2 h3⟩⟩
/-- A call that turns one variable, wherever it stands, or panics. -/
theorem ACalls.atQ {f : FuncId} {args : List AV} {b : Nat} {t : TypeId} {cs : List AV} {σ rest : Store} {put : Ent → Store} {ok : Prop} {r e : AV} {cs' cs2 : List AV} [hv : VarAt b σ t cs put rest] (h : ACalls P f args [.var b t cs] fun x σ' => (ok ∧ x = .ret r ∧ σ' = [.var b t cs']) ∨ (¬ ok ∧ x = .pan e ∧ σ' = [.var b t cs2])) : ACalls P f args σ fun x σ' => (ok ∧ x = .ret r ∧ σ' = put (.var b t cs')) ∨ (¬ ok ∧ x = .pan e ∧ σ' = put (.var b t cs2)) := by
  obtain ⟨σ1, σ2, rfl, e2, rfl⟩ := hv.at_
  have hp : (σ1 ++ Ent.var b t cs :: σ2).Perm ([Ent.var b t cs] ++ (σ1 ++ σ2)) := List.perm_middle
  have hq : ∀ cs', ([Ent.var b t cs'] ++ (σ1 ++ σ2)).Perm (σ1 ++ Ent.var b t cs' :: σ2) := fun cs' => (List.perm_middle (a := Ent.var b t cs') (l₁ := σ1) (l₂ := σ2)).symm
  refine ACalls.preS ?_ (Sub.perm hp args)
  refine ⟨h.1, fun R w vs hvs hs => ((h.frame (σ1 ++ σ2)).2 R w vs hvs hs).mono ?_⟩
  rintro en w' ⟨x, R', σ', k1, ⟨τ, h1, _, h2⟩, k3, k4⟩
  have fin : ∀ cs', τ = [Ent.var b t cs'] → St R' w' (put (.var b t cs')) ∧ Ext R w ([Ent.var b t cs] ++ (σ1 ++ σ2)) R' w' (put (.var b t cs')) := by
    intro cs' e
    subst e
    rw [h1] at k3 k4
    rw [e2]
    refine ⟨k3.perm (hq cs'), k4.trans (Less.ext (Less.perm (hq cs')))⟩
  rcases h2 with ⟨g1, g2, g3⟩ | ⟨g1, g2, g3⟩
  · obtain ⟨q1, q2⟩ := fin _ g3
    exact ⟨x, R', _, k1, .inl ⟨g1, g2, rfl⟩, q1, q2⟩
  · obtain ⟨q1, q2⟩ := fin _ g3
    exact ⟨x, R', _, k1, .inr ⟨g1, g2, rfl⟩, q1, q2⟩
/-! interfaces -/
section ifc
class IfT (P : Program) (t : TypeId) : Prop where
  h : P.underlying t = some (.interface #[])
variable {t T : TypeId} {u : AV} {K : AV → Prop}
theorem run_if_nil (d : Nat) {w : Value} {w' : World} (h : P.underlying t = some (.interface #[])) : (Op.equalIn (d + 1) t (.iface T w) .nilIface).run P w' = .ok false w' := by
  simp [Op.equalIn, run_underlying h]
theorem run_nil_nil (d : Nat) {w' : World} (h : P.underlying t = some (.interface #[])) : (Op.equalIn (d + 1) t .nilIface .nilIface).run P w' = .ok true w' := by
  simp [Op.equalIn, run_underlying h]
theorem run_guard_nil (d : Nat) {w' : World} (h : P.underlying t = some (.interface #[])) : (Op.eqGuardIn (d + 1) t .nilIface .nilIface).run P w' = .ok false w' := by
  simp [Op.eqGuardIn, run_underlying h]
theorem run_if_nil' {w : Value} {w' : World} (h : P.underlying t = some (.interface #[])) : (Op.equalIn Op.maxDepth t (.iface T w) .nilIface).run P w' = .ok false w' := run_if_nil 9999 h
theorem run_nil_nil' {w' : World} (h : P.underlying t = some (.interface #[])) : (Op.equalIn Op.maxDepth t .nilIface .nilIface).run P w' = .ok true w' := run_nil_nil 9999 h
theorem run_guard_nil' {w' : World} (h : P.underlying t = some (.interface #[])) : (Op.eqGuardIn Op.maxDepth t .nilIface .nilIface).run P w' = .ok false w' := run_guard_nil 9999 h
instance ifNil [h : IfT P t] : Stp (Do (aBin P .eql t (.ifc T u) (.val .nilIface)) K) (K (.val (.bool false))) := ⟨fun hK => ⟨_, by
  show aBin P .eql t (.ifc T u) (.val .nilIface) (.val (.bool false))
  unfold aBin
  simp only [plainV]
  refine ⟨_, rfl, ?_⟩
  rintro c ⟨w, rfl⟩ xo yo w'
  simp [eqGuard, binOp, Op.equal, run_if_nil' h.h], hK⟩⟩
instance nilNil [h : IfT P t] : Stp (Do (aBin P .eql t (.val .nilIface) (.val .nilIface)) K) (K (.val (.bool true))) := ⟨fun hK => ⟨_, by
  refine (aBin_val fun xo yo w => ?_).2 rfl
  have e1 := run_nil_nil' (w' := w) h.h
  have e2 := run_guard_nil' (w' := w) h.h
  cases xo <;> cases yo <;> simp [eqGuard, binOp, Op.equal, e1, e2], hK⟩⟩
end ifc
/-! nil in a variable as a row without elements -/
theorem nil_vrs {R : RO} {vs : List Value} {pre post : List AV} (hv : VRs R vs (pre ++ .val (.slice none 0 0) :: post)) : VRs R vs (pre ++ .own (.slice none 0 0) 0 :: post) := by
  refine ⟨by rw [hv.1]; simp, fun j u v hu hx => ?_⟩
  rcases Nat.lt_trichotomy j pre.length with h | h | h
  · exact hv.2 j u v (by rw [List.getElem?_append_left h] at hu ⊢; exact hu) hx
  · subst h
    simp at hu
    subst hu
    have := hv.2 pre.length (.val (.slice none 0 0)) v (by simp) hx
    rw [this.val_inv]
    exact .own (.inl ⟨rfl, rfl⟩)
  · refine hv.2 j u v ?_ hx
    rw [List.getElem?_append_right (by omega)] at hu ⊢
    cases hn : j - pre.length with
    | zero => omega
    | succ n => rw [hn] at hu; simpa using hu
theorem Sub.nilV (b : Nat) {σ rest : Store} {t : TypeId} {cs : List AV} {put : Ent → Store} [h : VarAt b σ t cs put rest] (E : TypeId) {sz : Nat} (hz : 0 < sz) (pre post : List AV) (e : cs = pre ++ .val (.slice none 0 0) :: post) (us : List AV) : Sub σ us (.row (.slice none 0 0) E sz [] 0 :: put (.var b t (pre ++ .own (.slice none 0 0) 0 :: post))) us := by
  intro R w vs hv hs
  obtain ⟨σ1, σ2, rfl, e2, _⟩ := h.at_
  subst e
  obtain ⟨⟨ws, k1, k2, k3⟩, k4⟩ := hs.ents (.var b t (pre ++ .val (.slice none 0 0) :: post)) (by simp)
  obtain ⟨g1, g2⟩ := st_change hs (e := .var b t (pre ++ .val (.slice none 0 0) :: post)) (e' := .var b t (pre ++ .own (.slice none 0 0) 0 :: post)) (b := b) rfl rfl (w' := w) rfl rfl rfl rfl (fun _ _ => rfl) (fun a v ha _ => hs.ro a v ha) ⟨⟨ws, k1, nil_vrs k2, k3⟩, k4⟩
  obtain ⟨q1, q2⟩ := st_nilRow g1 E hz
  rw [e2]
  exact ⟨R, hv, q1, g2.trans q2⟩
end Go.Ab
