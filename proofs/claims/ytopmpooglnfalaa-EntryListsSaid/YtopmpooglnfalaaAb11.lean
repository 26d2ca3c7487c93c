/- A logic over abstract states (part 11): calls; all operations together. -/
import Derived.Test.YtopmpooglnfalaaAb10
set_option linter.unusedVariables false
set_option linter.unusedSimpArgs false
namespace Go.Ab
variable {P : Program}

theorem call_run {f : FuncId} {args : Array Value} {w : World} (h : HasBody P f) : (callFunc f args).run P w = .ok (.enter f args) w := by
  obtain ⟨fn, c, hf, hb, hn⟩ := h
  have hn' : ¬ fn.name = "runtime.NumGoroutine" := by simpa using hn
  simp [callFunc, hf, hb, hn']

theorem Sub.less {σ τ : Store} (h : Less τ σ) (args : List AV) : Sub σ args τ args := fun R w vs hv hs => ⟨R, hv, h.1 R w hs, h.ext⟩

/-- What an operation yields, told in other words. -/
def subK (k : AV → Store → Prop) : AV → Store → Prop := fun u σ => ∃ u1 σ1, Sub σ [u] σ1 [u1] ∧ k u1 σ1
theorem AOp.sub {o : Oper} {ρ : Operand → AV} {σ : Store} {k kp : AV → Store → Prop} (h : AOp P o ρ σ (subK k) kp) : AOp P o ρ σ k kp := by
  intro R w a ha hs next Q hn hp
  refine h R w a ha hs next Q (fun v u w' R' σ' hk hv hs' hx => ?_) hp
  obtain ⟨u1, σ1, hsub, hk⟩ := hk
  obtain ⟨R1, h1, h2, h3⟩ := hsub R' w' [v] (VRs.cons hv (VRs.nil R')) hs'
  exact hn v u1 w' R1 σ1 hk (h1.2 0 _ _ rfl rfl) h2 (hx.trans h3)
theorem subK.mono {k k' : AV → Store → Prop} (hk : ∀ u σ, k u σ → k' u σ) (u : AV) (σ : Store) (h : subK k u σ) : subK k' u σ := by
  obtain ⟨u1, σ1, h1, h2⟩ := h
  exact ⟨u1, σ1, h1, hk _ _ h2⟩
/-- A value in other words, whatever the memory. -/
def SubV (u u' : AV) : Prop := ∀ R v, VR R v u → VR R v u'
theorem SubV.refl (u : AV) : SubV u u := fun _ _ h => h
theorem SubV.nil (sz : Nat) (hz : 0 < sz) : SubV (.val (.slice none 0 0)) (.lst sz [] .nil) := by
  intro R v h
  rw [h.val_inv]
  exact .lst [] rfl hz (by simp) rfl (by simp) (by simp) (by simp [SMok]) (Nat.zero_le _) (by simp)
theorem SubV.ro (sz : Nat) (l : List AV) (m : SM) : SubV (.lst sz l m) (.lst sz l .ro) := by
  intro R v h
  obtain ⟨ao, cap, vs, rfl, hz, hsz, hr, hR, hm, hb, hone⟩ := h.lst_inv
  refine .lst vs rfl hz hsz hr.1 hr.2 hR ?_ hb hone
  cases m <;> simp only [SMok] at hm ⊢ <;> omega
theorem SubV.undef (u : AV) : SubV u .undef := fun _ v _ => .undef v
def SubVs : List AV → List AV → Prop
  | [], [] => True
  | u :: us, v :: vs => SubV u v ∧ SubVs us vs
  | _, _ => False
theorem SubVs.rel {R : RO} : ∀ {us us' : List AV} {vs : List Value}, SubVs us us' → VRs R vs us → VRs R vs us'
  | [], [], vs, _, h => h
  | u :: us, u' :: us', vs, hs, h => by
    cases vs with
    | nil => have := h.1; simp at this
    | cons v vs =>
      have h1 := h.2 0 u v rfl rfl
      have h2 : VRs R vs us := ⟨by have := h.1; simpa using this, fun j x y hx hy => h.2 (j + 1) x y hx hy⟩
      exact VRs.cons (hs.1 R v h1) (SubVs.rel hs.2 h2)
theorem SubVs.refl : ∀ us : List AV, SubVs us us
  | [] => trivial
  | u :: us => ⟨SubV.refl u, SubVs.refl us⟩

/-- A call of a function that is told by its arguments alone. -/
def aPureC (P : Program) (f : FuncId) (args : List AV) (u : AV) : Prop := (∃ args1, SubVs args args1 ∧ aPure P f args1 u) ∨
  ∃ vs v, allVals args = some vs ∧ u = .val v ∧ ∀ w, (callFunc f (List.toArray vs)).run P w = .ok (.value v) w
def onEnd (k kp : AV → Store → Prop) : AEnd → Store → Prop
  | .ret u, σ => k u σ
  | .pan u, σ => kp u σ
/-- A call. -/
def aCall (P : Program) (f : FuncId) (args : List AV) (σ : Store) (k kp : AV → Store → Prop) : Prop := ∃ σ1 args1, Sub σ args σ1 args1 ∧ ACalls P f args1 σ1 (onEnd k kp)

/-- What is called: a function and what it has captured. -/
def calleeOf (x : AV) : Option (FuncId × List AV × List AV) := match x with
  | .val (.func (.func f) a b) => some (f, a.toList.map .val, b.toList.map .val)
  | .fn (.func f) a b => some (f, a, b)
  | _ => none

theorem callee_rel {R : RO} {x : AV} {v : Value} (h : VR R v x) {f : FuncId} {a b : List AV} (hc : calleeOf x = some (f, a, b)) : ∃ vs ws, v = .func (.func f) (List.toArray vs) (List.toArray ws) ∧ VRs R vs a ∧ VRs R ws b := by
  unfold calleeOf at hc
  split at hc
  · rename_i f' a' b'
    simp only [Option.some.injEq, Prod.mk.injEq] at hc
    obtain ⟨rfl, rfl, rfl⟩ := hc
    exact ⟨a'.toList, b'.toList, by rw [h.val_inv], VRs.ofVals R _, VRs.ofVals R _⟩
  · rename_i f' a' b'
    simp only [Option.some.injEq, Prod.mk.injEq] at hc
    obtain ⟨rfl, rfl, rfl⟩ := hc
    cases h with
    | fn hl hv hl' hv' => exact ⟨_, _, rfl, ⟨hl, hv⟩, ⟨hl', hv'⟩⟩
  · cases hc

theorem call_op {ρ : Operand → AV} {σ : Store} {x : Operand} {args : Array Operand} {ts : Array TypeId} {o : Oper} (ho : o.op = .call { callee := .value x, args, argTypes := ts }) {f : FuncId} {a b : List AV} (hc : calleeOf (ρ x) = some (f, a, b))
    {k kp : AV → Store → Prop} (hb : HasBody P f) (h : ∀ R w vs, VRs R vs (a ++ args.toList.map ρ ++ b) → St R w σ → Calls P f (List.toArray vs) w fun e w' => ∃ x R' σ', EndR R' e x ∧ onEnd k kp x σ' ∧ St R' w' σ' ∧ Ext R w σ R' w' σ') : AOp P o ρ σ k kp := by
  intro R w act ha hs next Q hn hp
  obtain ⟨vs, ws, hv, hva, hwb⟩ := callee_rel (ha x) hc
  have hargs := map_rel ha args.toList
  have hall := (hva.append hargs).append hwb
  have hex : (execOp act.eval o).run P w = .ok (.enter f (List.toArray (vs ++ args.toList.map act.eval ++ ws))) w := by
    unfold execOp
    rw [ho]
    simp only [resolve, Sem.run_bind, hv, Deferred.ofValue, Sem.run_pure, Result.andThen_ok, invoke]
    rw [call_run hb]
    congr 2
    apply Array.ext'
    simp
  unfold Oper.wp
  rw [hex, Oper.upon_enter]
  refine (h R w _ hall hs).mono ?_
  rintro e w' ⟨ax, R', σ', h1, h2, h3, h4⟩
  cases e with
  | returned v =>
    cases ax with
    | ret u => exact hn v u w' R' σ' h2 h1 h3 h4
    | pan u => exact h1.elim
  | panicked chain =>
    cases ax with
    | ret u => exact h1.elim
    | pan u =>
      obtain ⟨v, rfl, hv⟩ := h1
      exact hp v u w' R' σ' h2 hv h3 h4
  | outgrown => cases ax <;> exact h1.elim

theorem ef_call {ρ : Operand → AV} {σ : Store} {x : Operand} {args : Array Operand} {ts : Array TypeId} {o : Oper} (ho : o.op = .call { callee := .value x, args, argTypes := ts }) {f : FuncId} {a b : List AV} (hc : calleeOf (ρ x) = some (f, a, b))
    {k kp : AV → Store → Prop} (h : aCall P f (a ++ args.toList.map ρ ++ b) σ k kp) : AOp P o ρ σ k kp := by
  obtain ⟨σ1, args1, hsub, hb, hcalls⟩ := h
  refine call_op ho hc hb fun R w vs hv hs => ?_
  obtain ⟨R1, h1, h2, h3⟩ := hsub R w vs hv hs
  refine (hcalls R1 w vs h1 h2).mono ?_
  rintro e w' ⟨ax, R', σ', g1, g2, g3, g4⟩
  exact ⟨ax, R', σ', g1, g2, g3, h3.trans g4⟩

theorem pr_call {ρ : Operand → AV} {σ : Store} {x : Operand} {args : Array Operand} {ts : Array TypeId} {o : Oper} (ho : o.op = .call { callee := .value x, args, argTypes := ts }) {f : FuncId} {a b : List AV} (hc : calleeOf (ρ x) = some (f, a, b))
    {u : AV} {k kp : AV → Store → Prop} (hk : k u σ) (h : aPureC P f (a ++ args.toList.map ρ ++ b) u) : AOp P o ρ σ k kp := by
  rcases h with ⟨args1, hsub, hp⟩ | ⟨xs, v, hxs, hu, hrun⟩
  rotate_left
  · intro R w act ha hs next Q hn hkp
    obtain ⟨vs, ws, hv, hva, hwb⟩ := callee_rel (ha x) hc
    have hargs := map_rel ha args.toList
    have hall := (hva.append hargs).append hwb
    rw [allVals_map hxs] at hall
    have hxs' := hall.toVals
    have hex : (execOp act.eval o).run P w = .ok (.value v) w := by
      unfold execOp
      rw [ho]
      simp only [resolve, Sem.run_bind, hv, Deferred.ofValue, Sem.run_pure, Result.andThen_ok, invoke]
      rw [← hrun w, ← hxs']
      congr 2
      apply Array.ext'
      simp
    unfold Oper.wp
    rw [hex, Oper.upon_value]
    exact hn v u w R σ hk (by rw [hu]; exact .val v) hs (Ext.refl _ _ _)
  have hp' := ACalls.pure hp σ
  refine call_op ho hc hp'.1 fun R w vs hv hs => (hp'.2 R w vs (hsub.rel hv) hs).mono ?_
  rintro e w' ⟨ax, R', σ', g1, ⟨rfl, rfl⟩, g3, g4⟩
  exact ⟨.ret u, R', _, g1, hk, g3, g4⟩

theorem ef_panic {ρ : Operand → AV} {σ : Store} {x : Operand} {o : Oper} (ho : o.op = .panic x) {k kp : AV → Store → Prop} (h : kp (ρ x) σ) (hi : ∃ t u, ρ x = .ifc t u) : AOp P o ρ σ k kp := by
  intro R w a ha hs next Q hn hp
  obtain ⟨t, u, hx⟩ := hi
  have hv := ha x
  rw [hx] at hv
  have hrun : (execOp a.eval o).run P w = .halt (.panic (a.eval x)) w := by
    generalize hvx : a.eval x = vx at hv
    cases hv with
    | ifc h' =>
      unfold execOp
      rw [ho]
      simp [hvx, Instr.panic]
  unfold Oper.wp
  rw [hrun]
  exact hp (a.eval x) (ρ x) w R σ h (ha x) hs (Ext.refl _ _ _)

/-- A literal of a slice, as a growable row of one's own. -/
def aRowLit (E : TypeId) (z : AV) (s n : Nat) (parts : List (Nat × AV)) (σ : Store) (k : AV → Store → Prop) : Prop :=
  ∃ l, l.length = n ∧ (∀ e ∈ l, (e : AV).cells.length = s) ∧ (∀ c ∈ flat l, c.one = true) ∧ fillA (fun i => some (i * s, s)) ((List.replicate n z.cells).flatten) parts = some (flat l) ∧ ∀ v, k (.own v n) (.row v E s l 0 :: σ)

theorem ef_rowLit {ρ : Operand → AV} {σ : Store} {t e : TypeId} {n : Nat} {parts : Array (Nat × Operand)} {zs : List Value} {s : Nat} (hz : zeroOf P t = some (e, zs, s)) (hn : n * s ≤ 16777216) {z : AV} (hzc : z.cells = zs.map .val)
    (ho : partsOne (parts.toList.map fun p => (p.1, ρ p.2))) {o : Oper} (hop : o.op = .buildSlice t n parts) {k kp : AV → Store → Prop} (h : aRowLit e z s n (parts.toList.map fun p => (p.1, ρ p.2)) σ k) : AOp P o ρ σ k kp := by
  refine AOp.ofRun fun R w ev ha hs => ?_
  obtain ⟨l, hl, hsz, hone, hf, hk⟩ := h
  rw [hzc] at hf
  obtain ⟨xs, hr, hrun⟩ := run_buildSlice hz hn ha parts ho hf w
  obtain ⟨_, _, _, _, _, _, _, _, hpos⟩ := zeroOf_run hz
  have hle : n ≤ n * s := Nat.le_mul_of_pos_right _ hpos
  have hxl : xs.length = n * s := by rw [hr.1, flat_length hsz, hl]
  have hown := World.ownsRow_lit (base := 0) (e := e) (size := s) w (List.toArray xs) n (Nat.zero_le _) (by simp only [maxLen]; omega) (by simpa using hxl)
  obtain ⟨g1, g2⟩ := st_newRow (R := R) hs (World.grownBy_alloc w (.cells (List.toArray xs) e) none) (E := e) (sz := s) (l := l) (vs := xs) (by rw [hl]; simpa using hown) hr (ones_rel hr hone) hpos hsz (by simp only [maxLen]; omega)
    (by intro b hb; simp only [Value.ownBlock, Option.some.injEq] at hb; omega)
  refine ⟨_, _, _, R, _, ?_, hk _, .own (by simpa [hl] using g1.rowV List.mem_cons_self), g1, g2⟩
  unfold execOp
  rw [hop]
  simp only [Sem.run_bind]
  rw [show (parts.map fun (i, x) => (i, ev x)) = parts.map fun x => (x.1, ev x.2) from rfl, hrun]
  rfl

end Go.Ab
