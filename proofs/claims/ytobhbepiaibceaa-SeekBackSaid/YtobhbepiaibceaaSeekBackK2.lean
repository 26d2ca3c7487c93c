/- The texts that this claim needs, part 2: a logic over abstract values, its steps, what the functions do. No condition of its own. -/
import Derived.MapKept
import Derived.Maps.RangeRun
import Derived.Laws.Strings
import Derived.Laws.StructEq
import Derived.Defers
import Derived.Recover
import Derived.Test.YtobhbepiaibceaaSeekBackK1
/- The base, part 2: a logic over abstract values, its steps. No program's statement here. -/
/- A logic over abstract states (part 11): calls; all operations together. -/
set_option linter.unusedVariables false
set_option linter.unusedSimpArgs false
namespace Go.Ab
variable {P : Program}

theorem call_run {f : FuncId} {args : Array Value} {w : World} (h : HasBody P f) : (callFunc f args).run P w = .ok (.enter f args) w := by
  obtain ⟨fn, c, hf, hb, hn⟩ := h
  have hn' : ¬ fn.name = "runtime.NumGoroutine" := by simpa using hn
  simp [callFunc, hf, hb, hn']

theorem Sub.less {σ τ : Store} (h : Less τ σ) (args : List AV) : Sub σ args τ args := fun R w vs hv hs => ⟨R, hv, h.1 R w hs, h.ext⟩

/-- What an operation yields, told in other words. -/
def subK (k : AV → Store → Prop) : AV → Store → Prop := fun u σ => ∃ u1 σ1, Sub σ [u] σ1 [u1] ∧ k u1 σ1
theorem AOp.sub {o : Oper} {ρ : Operand → AV} {σ : Store} {k kp : AV → Store → Prop} (h : AOp P o ρ σ (subK k) kp) : AOp P o ρ σ k kp := by
  intro R w a ha hs next Q hn hp
  refine h R w a ha hs next Q (fun v u w' R' σ' hk hv hs' hx => ?_) hp
  obtain ⟨u1, σ1, hsub, hk⟩ := hk
  obtain ⟨R1, h1, h2, h3⟩ := hsub R' w' [v] (VRs.cons hv (VRs.nil R')) hs'
  exact hn v u1 w' R1 σ1 hk (h1.2 0 _ _ rfl rfl) h2 (hx.trans h3)
theorem subK.mono {k k' : AV → Store → Prop} (hk : ∀ u σ, k u σ → k' u σ) (u : AV) (σ : Store) (h : subK k u σ) : subK k' u σ := by
  obtain ⟨u1, σ1, h1, h2⟩ := h
  exact ⟨u1, σ1, h1, hk _ _ h2⟩
/-- A value in other words, whatever the memory. -/
def SubV (u u' : AV) : Prop := ∀ R v, VR R v u → VR R v u'
theorem SubV.refl (u : AV) : SubV u u := fun _ _ h => h
theorem SubV.nil (sz : Nat) (hz : 0 < sz) : SubV (.val (.slice none 0 0)) (.lst sz [] .nil) := by
  intro R v h
  rw [h.val_inv]
  exact .lst [] rfl hz (by simp) rfl (by simp) (by simp) (by simp [SMok]) (Nat.zero_le _) (by simp)
theorem SubV.ro (sz : Nat) (l : List AV) (m : SM) : SubV (.lst sz l m) (.lst sz l .ro) := by
  intro R v h
  obtain ⟨ao, cap, vs, rfl, hz, hsz, hr, hR, hm, hb, hone⟩ := h.lst_inv
  refine .lst vs rfl hz hsz hr.1 hr.2 hR ?_ hb hone
  cases m <;> simp only [SMok] at hm ⊢ <;> omega
theorem SubV.undef (u : AV) : SubV u .undef := fun _ v _ => .undef v
def SubVs : List AV → List AV → Prop
  | [], [] => True
  | u :: us, v :: vs => SubV u v ∧ SubVs us vs
  | _, _ => False
theorem SubVs.rel {R : RO} : ∀ {us us' : List AV} {vs : List Value}, SubVs us us' → VRs R vs us → VRs R vs us'
  | [], [], vs, _, h => h
  | u :: us, u' :: us', vs, hs, h => by
    cases vs with
    | nil => have := h.1; simp at this
    | cons v vs =>
      have h1 := h.2 0 u v rfl rfl
      have h2 : VRs R vs us := ⟨by have := h.1; simpa using this, fun j x y hx hy => h.2 (j + 1) x y hx hy⟩
      exact VRs.cons (hs.1 R v h1) (SubVs.rel hs.2 h2)
theorem SubVs.refl : ∀ us : List AV, SubVs us us
  | [] => trivial
  | u :: us => ⟨SubV.refl u, SubVs.refl us⟩

/-- A call of a function that is told by its arguments alone. -/
def aPureC (P : Program) (f : FuncId) (args : List AV) (u : AV) : Prop := (∃ args1, SubVs args args1 ∧ aPure P f args1 u) ∨
  ∃ vs v, allVals args = some vs ∧ u = .val v ∧ ∀ w, (callFunc f (List.toArray vs)).run P w = .ok (.value v) w
def onEnd (k kp : AV → Store → Prop) : AEnd → Store → Prop
  | .ret u, σ => k u σ
  | .pan u, σ => kp u σ
/-- A call of what has no code, told by what it does. -/
def rawC (P : Program) (f : FuncId) (args : List AV) (σ : Store) (k : AV → Store → Prop) : Prop := ∀ R w vs, VRs R vs args → St R w σ → ∃ v w' u R' σ', (callFunc f (List.toArray vs)).run P w = .ok (.value v) w' ∧ k u σ' ∧ VR R' v u ∧ St R' w' σ' ∧ Ext R w σ R' w' σ'
theorem rawC.mono {f : FuncId} {args : List AV} {σ : Store} {k k' : AV → Store → Prop} (hk : ∀ u σ', k u σ' → k' u σ') (h : rawC P f args σ k) : rawC P f args σ k' := fun R w vs hv hs => by
  obtain ⟨v, w', u, R', σ', h1, h2, h3⟩ := h R w vs hv hs
  exact ⟨v, w', u, R', σ', h1, hk _ _ h2, h3⟩
/-- A built-in function, told by what it does. -/
def rawB (P : Program) (b : Builtin) (ts : Array TypeId) (args : List AV) (σ : Store) (k : AV → Store → Prop) : Prop := ∀ R w vs, VRs R vs args → St R w σ → ∀ (ty : TypeId) (cs : Array Bool), ∃ v w' u R' σ', (builtin b ts ty cs (List.toArray vs)).run P w = .ok (.value v) w' ∧ k u σ' ∧ VR R' v u ∧ St R' w' σ' ∧ Ext R w σ R' w' σ'
theorem rawB.mono {b : Builtin} {ts : Array TypeId} {args : List AV} {σ : Store} {k k' : AV → Store → Prop} (hk : ∀ u σ', k u σ' → k' u σ') (h : rawB P b ts args σ k) : rawB P b ts args σ k' := fun R w vs hv hs ty cs => by
  obtain ⟨v, w', u, R', σ', h1, h2, h3⟩ := h R w vs hv hs ty cs
  exact ⟨v, w', u, R', σ', h1, hk _ _ h2, h3⟩
theorem ef_rawB {ρ : Operand → AV} {σ : Store} {b : Builtin} {args : Array Operand} {ts : Array TypeId} {o : Oper} (ho : o.op = .call { callee := .builtin b, args, argTypes := ts }) {k kp : AV → Store → Prop} (h : rawB P b ts (args.toList.map ρ) σ k) : AOp P o ρ σ k kp := by
  refine AOp.ofRun fun R w ev ha hs => ?_
  obtain ⟨cs, hex⟩ : ∃ cs, (execOp ev o).run P w = (builtin b ts o.type cs (args.map ev)).run P w := by
    unfold execOp
    rw [ho]
    exact ⟨_, rfl⟩
  obtain ⟨v, w', u, R', σ', h1, h2, h3⟩ := h R w _ (map_rel ha args.toList) hs o.type cs
  refine ⟨v, w', u, R', σ', ?_, h2, h3⟩
  rw [hex, ← h1]
  congr 2
  apply Array.ext'
  simp
/-- A call. -/
def aCall (P : Program) (f : FuncId) (args : List AV) (σ : Store) (k kp : AV → Store → Prop) : Prop := (∃ σ1 args1, Sub σ args σ1 args1 ∧ ACalls P f args1 σ1 (onEnd k kp)) ∨ rawC P f args σ k

/-- What is called: a function and what it has captured. -/
def calleeOf (x : AV) : Option (FuncId × List AV × List AV) := match x with
  | .val (.func (.func f) a b) => some (f, a.toList.map .val, b.toList.map .val)
  | .fn (.func f) a b => some (f, a, b)
  | _ => none

theorem callee_rel {R : RO} {x : AV} {v : Value} (h : VR R v x) {f : FuncId} {a b : List AV} (hc : calleeOf x = some (f, a, b)) : ∃ vs ws, v = .func (.func f) (List.toArray vs) (List.toArray ws) ∧ VRs R vs a ∧ VRs R ws b := by
  unfold calleeOf at hc
  split at hc
  · rename_i f' a' b'
    simp only [Option.some.injEq, Prod.mk.injEq] at hc
    obtain ⟨rfl, rfl, rfl⟩ := hc
    exact ⟨a'.toList, b'.toList, by rw [h.val_inv], VRs.ofVals R _, VRs.ofVals R _⟩
  · rename_i f' a' b'
    simp only [Option.some.injEq, Prod.mk.injEq] at hc
    obtain ⟨rfl, rfl, rfl⟩ := hc
    cases h with
    | fn hl hv hl' hv' => exact ⟨_, _, rfl, ⟨hl, hv⟩, ⟨hl', hv'⟩⟩
  · cases hc

theorem call_op {ρ : Operand → AV} {σ : Store} {x : Operand} {args : Array Operand} {ts : Array TypeId} {o : Oper} (ho : o.op = .call { callee := .value x, args, argTypes := ts }) {f : FuncId} {a b : List AV} (hc : calleeOf (ρ x) = some (f, a, b))
    {k kp : AV → Store → Prop} (hb : HasBody P f) (h : ∀ R w vs, VRs R vs (a ++ args.toList.map ρ ++ b) → St R w σ → Calls P f (List.toArray vs) w fun e w' => ∃ x R' σ', EndR R' e x ∧ onEnd k kp x σ' ∧ St R' w' σ' ∧ Ext R w σ R' w' σ') : AOp P o ρ σ k kp := by
  intro R w act ha hs next Q hn hp
  obtain ⟨vs, ws, hv, hva, hwb⟩ := callee_rel (ha x) hc
  have hargs := map_rel ha args.toList
  have hall := (hva.append hargs).append hwb
  have hex : (execOp act.eval o).run P w = .ok (.enter f (List.toArray (vs ++ args.toList.map act.eval ++ ws))) w := by
    unfold execOp
    rw [ho]
    simp only [resolve, Sem.run_bind, hv, Deferred.ofValue, Sem.run_pure, Result.andThen_ok, invoke]
    rw [call_run hb]
    congr 2
    apply Array.ext'
    simp
  unfold Oper.wp
  rw [hex, Oper.upon_enter]
  refine (h R w _ hall hs).mono ?_
  rintro e w' ⟨ax, R', σ', h1, h2, h3, h4⟩
  cases e with
  | returned v =>
    cases ax with
    | ret u => exact hn v u w' R' σ' h2 h1 h3 h4
    | pan u => exact h1.elim
  | panicked chain =>
    cases ax with
    | ret u => exact h1.elim
    | pan u =>
      obtain ⟨v, rfl, hv⟩ := h1
      exact hp v u w' R' σ' h2 hv h3 h4
  | outgrown => cases ax <;> exact h1.elim

theorem ef_call {ρ : Operand → AV} {σ : Store} {x : Operand} {args : Array Operand} {ts : Array TypeId} {o : Oper} (ho : o.op = .call { callee := .value x, args, argTypes := ts }) {f : FuncId} {a b : List AV} (hc : calleeOf (ρ x) = some (f, a, b))
    {k kp : AV → Store → Prop} (h : aCall P f (a ++ args.toList.map ρ ++ b) σ k kp) : AOp P o ρ σ k kp := by
  rcases h with ⟨σ1, args1, hsub, hb, hcalls⟩ | h
  rotate_left
  · intro R w act ha hs next Q hn hkp
    obtain ⟨vs, ws, hv, hva, hwb⟩ := callee_rel (ha x) hc
    have hargs := map_rel ha args.toList
    have hall := (hva.append hargs).append hwb
    obtain ⟨v, w', u, R', σ', hrun, h2, h3, h4, h5⟩ := h R w _ hall hs
    have hex : (execOp act.eval o).run P w = .ok (.value v) w' := by
      unfold execOp
      rw [ho]
      simp only [resolve, Sem.run_bind, hv, Deferred.ofValue, Sem.run_pure, Result.andThen_ok, invoke]
      rw [← hrun]
      congr 2
      apply Array.ext'
      simp
    unfold Oper.wp
    rw [hex, Oper.upon_value]
    exact hn v u w' R' σ' h2 h3 h4 h5
  refine call_op ho hc hb fun R w vs hv hs => ?_
  obtain ⟨R1, h1, h2, h3⟩ := hsub R w vs hv hs
  refine (hcalls R1 w vs h1 h2).mono ?_
  rintro e w' ⟨ax, R', σ', g1, g2, g3, g4⟩
  exact ⟨ax, R', σ', g1, g2, g3, h3.trans g4⟩

theorem pr_call {ρ : Operand → AV} {σ : Store} {x : Operand} {args : Array Operand} {ts : Array TypeId} {o : Oper} (ho : o.op = .call { callee := .value x, args, argTypes := ts }) {f : FuncId} {a b : List AV} (hc : calleeOf (ρ x) = some (f, a, b))
    {u : AV} {k kp : AV → Store → Prop} (hk : k u σ) (h : aPureC P f (a ++ args.toList.map ρ ++ b) u) : AOp P o ρ σ k kp := by
  rcases h with ⟨args1, hsub, hp⟩ | ⟨xs, v, hxs, hu, hrun⟩
  rotate_left
  · intro R w act ha hs next Q hn hkp
    obtain ⟨vs, ws, hv, hva, hwb⟩ := callee_rel (ha x) hc
    have hargs := map_rel ha args.toList
    have hall := (hva.append hargs).append hwb
    rw [allVals_map hxs] at hall
    have hxs' := hall.toVals
    have hex : (execOp act.eval o).run P w = .ok (.value v) w := by
      unfold execOp
      rw [ho]
      simp only [resolve, Sem.run_bind, hv, Deferred.ofValue, Sem.run_pure, Result.andThen_ok, invoke]
      rw [← hrun w, ← hxs']
      congr 2
      apply Array.ext'
      simp
    unfold Oper.wp
    rw [hex, Oper.upon_value]
    exact hn v u w R σ hk (by rw [hu]; exact .val v) hs (Ext.refl _ _ _)
  have hp' := ACalls.pure hp σ
  refine call_op ho hc hp'.1 fun R w vs hv hs => (hp'.2 R w vs (hsub.rel hv) hs).mono ?_
  rintro e w' ⟨ax, R', σ', g1, ⟨rfl, rfl⟩, g3, g4⟩
  exact ⟨.ret u, R', _, g1, hk, g3, g4⟩

theorem ef_panic {ρ : Operand → AV} {σ : Store} {x : Operand} {o : Oper} (ho : o.op = .panic x) {k kp : AV → Store → Prop} (h : kp (ρ x) σ) (hi : ∃ t u, ρ x = .ifc t u) : AOp P o ρ σ k kp := by
  intro R w a ha hs next Q hn hp
  obtain ⟨t, u, hx⟩ := hi
  have hv := ha x
  rw [hx] at hv
  have hrun : (execOp a.eval o).run P w = .halt (.panic (a.eval x)) w := by
    generalize hvx : a.eval x = vx at hv
    cases hv with
    | ifc h' =>
      unfold execOp
      rw [ho]
      simp [hvx, Instr.panic]
  unfold Oper.wp
  rw [hrun]
  exact hp (a.eval x) (ρ x) w R σ h (ha x) hs (Ext.refl _ _ _)

/-- A literal of a slice, as a growable row of one's own. -/
def aRowLit (E : TypeId) (z : AV) (s n : Nat) (parts : List (Nat × AV)) (σ : Store) (k : AV → Store → Prop) : Prop :=
  ∃ l, l.length = n ∧ (∀ e ∈ l, (e : AV).cells.length = s) ∧ (∀ c ∈ flat l, c.one = true) ∧ fillA (fun i => some (i * s, s)) ((List.replicate n z.cells).flatten) parts = some (flat l) ∧ ∀ v, k (.own v n) (.row v E s l 0 :: σ)

theorem ef_rowLit {ρ : Operand → AV} {σ : Store} {t e : TypeId} {n : Nat} {parts : Array (Nat × Operand)} {zs : List Value} {s : Nat} (hz : zeroOf P t = some (e, zs, s)) (hn : n * s ≤ 16777216) {z : AV} (hzc : z.cells = zs.map .val)
    (ho : partsOne (parts.toList.map fun p => (p.1, ρ p.2))) {o : Oper} (hop : o.op = .buildSlice t n parts) {k kp : AV → Store → Prop} (h : aRowLit e z s n (parts.toList.map fun p => (p.1, ρ p.2)) σ k) : AOp P o ρ σ k kp := by
  refine AOp.ofRun fun R w ev ha hs => ?_
  obtain ⟨l, hl, hsz, hone, hf, hk⟩ := h
  rw [hzc] at hf
  obtain ⟨xs, hr, hrun⟩ := run_buildSlice hz hn ha parts ho hf w
  obtain ⟨_, _, _, _, _, _, _, _, hpos⟩ := zeroOf_run hz
  have hle : n ≤ n * s := Nat.le_mul_of_pos_right _ hpos
  have hxl : xs.length = n * s := by rw [hr.1, flat_length hsz, hl]
  have hown := World.ownsRow_lit (base := 0) (e := e) (size := s) w (List.toArray xs) n (Nat.zero_le _) (by simp only [maxLen]; omega) (by simpa using hxl)
  obtain ⟨g1, g2⟩ := st_newRow (R := R) hs (World.grownBy_alloc w (.cells (List.toArray xs) e) none) (E := e) (sz := s) (l := l) (vs := xs) (by rw [hl]; simpa using hown) hr (ones_rel hr hone) hpos hsz (by simp only [maxLen]; omega)
    (by intro b hb; simp only [Value.ownBlock, Option.some.injEq] at hb; omega)
  refine ⟨_, _, _, R, _, ?_, hk _, .own (by simpa [hl] using g1.rowV List.mem_cons_self), g1, g2⟩
  unfold execOp
  rw [hop]
  simp only [Sem.run_bind]
  rw [show (parts.map fun (i, x) => (i, ev x)) = parts.map fun x => (x.1, ev x.2) from rfl, hrun]
  rfl

end Go.Ab

/- A logic over abstract states (part 11a): maps, walks over maps, interface values, clear, copy; calls that only look. No program in sight. -/
set_option linter.unusedVariables false
set_option linter.unusedSimpArgs false
namespace Go.Ab
variable {P : Program}

/-- Keys are one. -/
def keyb : Value → Value → Bool
  | .string a, .string b => decide (a.data.toList = b.data.toList)
  | .int _ x, .int _ y => decide (x = y)
  | .bool a, .bool b => decide (a = b)
  | _, _ => false
theorem keyb_iff {d : TypeDesc} {a b : Value} (ha : MapKept.IsKey d a) (hb : MapKept.IsKey d b) : keyb a b = true ↔ a = b := by
  cases d <;> cases a <;> simp only [MapKept.IsKey] at ha <;> cases b <;> simp only [MapKept.IsKey] at hb
  · simp [keyb]
  · subst ha; subst hb; simp [keyb]
  · simp only [keyb, decide_eq_true_eq, Value.string.injEq]
    constructor
    · intro h; exact ByteArray.ext (Array.ext' h)
    · intro h; rw [h]
/-- A map's table: what is known of its type: what keys are, what is told of a key that isn't there. -/
def mapOf (P : Program) (t : TypeId) : Option (TypeDesc × Value) := match P.underlying t with
  | some (.map k e) => match P.underlying k, P.info? e with
    | some d, some i => match i.zero with
      | some z => some (d, z)
      | none => none
    | _, _ => none
  | _ => none
theorem mapOf_run {t : TypeId} {d : TypeDesc} {z : Value} (h : mapOf P t = some (d, z)) : ∃ k e, P.underlying t = some (.map k e) ∧ P.underlying k = some d ∧ ∀ w : World, (zeroValue e).run P w = .ok z w := by
  unfold mapOf at h
  split at h
  · rename_i k e hu
    split at h
    · rename_i d' i hk hi
      split at h
      · rename_i z' hz
        simp only [Option.some.injEq, Prod.mk.injEq] at h
        obtain ⟨rfl, rfl⟩ := h
        exact ⟨k, e, hu, hk, fun w => by simp [zeroValue, typeInfo, hi, hz]⟩
      · cases h
    · cases h
  · cases h
abbrev MapL := List (Nat × Value × AV)
def findM (k : Value) (l : MapL) : Option AV := (l.find? fun x => keyb k x.2.1).map (·.2.2)
def setM (k : Value) (v : AV) (clock : Nat) : MapL → MapL
  | [] => [(clock, k, v)]
  | x :: l => bif keyb k x.2.1 then (x.1, x.2.1, v) :: l else x :: setM k v clock l
def lookA (P : Program) (t : TypeId) (ok : Bool) (m k : AV) (σ : Store) (u : AV) : Prop := match m, k with
  | .val (.map (some b)), .val kv => ∃ d z l clock, mapOf P t = some (d, z) ∧ MapKept.IsKey d kv ∧ Ent.map b l clock ∈ σ ∧ (∀ x ∈ l, MapKept.IsKey d x.2.1) ∧
      u = bif ok then .tuple [(findM kv l).getD (ofV z), .val (.bool (findM kv l).isSome)] else (findM kv l).getD (ofV z)
  | _, _ => False
def lenM (m : AV) (σ : Store) (u : AV) : Prop := match m with
  | .val (.map (some b)) => ∃ l clock, Ent.map b l clock ∈ σ ∧ u = .val (.int .i64 (l.length : Nat))
  | _ => False
def entryA (it : AV) (σ : Store) (u : AV) : Prop := match it with
  | .val (.pointer (some a)) => a.spot = none ∧ a.off = 0 ∧ ∃ mb since seen born stepped l x, Ent.iter a.block mb since (seen ++ [born]) stepped ∈ σ ∧ Ent.map mb l stepped ∈ σ ∧ x ∈ l ∧ x.1 = born ∧ u = .tuple [.val x.2.1, x.2.2]
  | _ => False
def isMapT (P : Program) (t : TypeId) : Bool := match P.underlying t with
  | some (.map _ _) => true
  | _ => false
def groundA (u : AV) : Prop := ∀ R R' v, VR R v u → VR R' v u
/-- A call of a function that is told by its arguments alone, some of these told as memory that turns no more; what it hands back doesn't lie in memory. -/
def lookC (P : Program) (f : FuncId) (args : List AV) (σ : Store) (u : AV) : Prop := ∃ σ' args', Sub σ args σ' args' ∧ aPure P f args' u ∧ groundA u
def pureN (P : Program) (op : Op) (args : List AV) (u : AV) : Prop := match op, args with
  | .typeAssert _ _ T ok, [x] => match x with
    | .ifc t v => (match P.underlying T with | some (.interface _) => False | some _ => True | none => False) ∧ t = T ∧ u = bif ok then .tuple [v, .val (.bool true)] else v
    | _ => False
  | _, _ => False
def readN (P : Program) (op : Op) (args : List AV) (σ : Store) (u : AV) : Prop := match op, args with
  | .lookup t _ _ ok, [m, k] => lookA P t ok m k σ u
  | .entry _, [it] => entryA it σ u
  | .call c, args => match c.callee with
    | .builtin b => match b, c.argTypes.toList, args with
      | .len, [t], [m] => isMapT P t = true ∧ lenM m σ u
      | _, _, _ => False
    | .value _ => match args with
      | x :: args => match calleeOf x with
        | some (f, a, b) => lookC P f (a ++ args ++ b) σ u
        | none => False
      | [] => False
    | _ => False
  | _, _ => False

def postMake (σ : Store) (u : AV) (σ' : Store) : Prop := ∃ b, u = .val (.map (some b)) ∧ σ' = .map b [] 0 :: σ
def postRange (σ : Store) (mb clock : Nat) (u : AV) (σ' : Store) : Prop := ∃ b, u = .val (.pointer (some ⟨b, 0, none⟩)) ∧ σ' = .iter b mb clock [] clock :: σ
def leftM (l : MapL) (seen : List Nat) : MapL := l.filter fun x => !seen.contains x.1
def postNext (σ1 σ2 : Store) (r mb clock : Nat) (seen : List Nat) (l : MapL) (u : AV) (σ' : Store) : Prop :=
  (leftM l seen = [] ∧ u = .tuple [.val (.bool false)] ∧ σ' = σ1 ++ .iter r mb clock seen clock :: σ2) ∨
  ∃ x ∈ leftM l seen, u = .tuple [.val (.bool true), .val x.2.1, x.2.2] ∧ σ' = σ1 ++ .iter r mb clock (seen ++ [x.1]) clock :: σ2
/-- The first elements of what is copied. -/
def srcP (sz : Nat) (σ : Store) (x : AV) (ys : List AV) : Prop := match x with
  | .lst z l _ => z = sz ∧ ys = l
  | .own v _ => ∃ E l fl, Ent.row v E sz l fl ∈ σ ∧ ys = l
  | .sub v z a n => z = sz ∧ ∃ E l fl, Ent.row v E sz l fl ∈ σ ∧ a + n ≤ l.length ∧ ys = (l.drop a).take n
  | .val (.slice none 0 0) => ys = []
  | _ => False
/-- What is copied over: the place it goes to. -/
def szOf (P : Program) (t : TypeId) : Option (TypeId × Nat) := match P.underlying t with
  | some (.slice e) => (P.info? e).map fun i => (e, i.size)
  | _ => none
def copyOk (P : Program) (t : TypeId) (sz : Nat) (d : AV) (ys : List AV) (σ : Store) : Prop := match d with
  | .sub v z a n => z = sz ∧ ∃ E l, szOf P t = some (E, sz) ∧ Ent.row v E sz l 0 ∈ σ ∧ a + n ≤ l.length
  | .val (.slice (some p) n _) => p.spot = none ∧ sz = 1 ∧ ∃ E tt cs, szOf P t = some (E, 1) ∧ Ent.var p.block tt cs ∈ σ ∧ p.off + n ≤ cs.length ∧ ∀ y ∈ ys, y.one = true ∧ y.cells = [y]
  | _ => False
def copyTo (d : AV) (ys : List AV) (σ : Store) (u : AV) (σ' : Store) : Prop := match d with
  | .sub v sz a n => ∃ E l σ1 σ2, σ = σ1 ++ .row v E sz l 0 :: σ2 ∧
      u = .val (.int .i64 ((min ys.length n : Nat) : Int)) ∧ σ' = σ1 ++ .row v E sz (l.take a ++ ys.take (min ys.length n) ++ l.drop (a + min ys.length n)) 0 :: σ2
  | .val (.slice (some p) n _) => ∃ tt cs σ1 σ2, σ = σ1 ++ .var p.block tt cs :: σ2 ∧
      u = .val (.int .i64 ((min ys.length n : Nat) : Int)) ∧ σ' = σ1 ++ .var p.block tt (splice cs p.off (ys.take (min ys.length n))) :: σ2
  | _ => False
/-- What an operation does to memory of one's own. -/
def effN (P : Program) (op : Op) (args : List AV) (σ : Store) (post : AV → Store → Prop) : Prop := match op, args with
  | .makeMap _ none, [] => post = postMake σ
  | .mapUpdate t _ _ _, [m, k, v] => match m, k with
    | .val (.map (some b)), .val kv => ∃ d z l clock σ1 σ2, mapOf P t = some (d, z) ∧ MapKept.IsKey d kv ∧ σ = σ1 ++ .map b l clock :: σ2 ∧ (∀ x ∈ l, MapKept.IsKey d x.2.1) ∧
        post = fun u σ' => u = .undef ∧ σ' = σ1 ++ .map b (setM kv v clock l) (bif l.any (fun x => keyb kv x.2.1) then clock else clock + 1) :: σ2
    | _, _ => False
  | .range t _, [m] => match m with
    | .val (.map (some mb)) => ∃ l clock, isMapT P t = true ∧ Ent.map mb l clock ∈ σ ∧ post = postRange σ mb clock
    | _ => False
  | .next _ false, [it] => match it with
    | .val (.pointer (some a)) => a.spot = none ∧ a.off = 0 ∧ ∃ σ1 σ2 mb clock seen l, σ = σ1 ++ .iter a.block mb clock seen clock :: σ2 ∧ Ent.map mb l clock ∈ σ1 ++ σ2 ∧ post = postNext σ1 σ2 a.block mb clock seen l
    | _ => False
  | .call c, args => match c.callee with
    | .builtin b => match b, c.argTypes.toList, args with
      | .clear, [t], [x] => match x with
        | .sub v sz a n => ∃ E zs s by_ l σ1 σ2, rowOf P t = some (E, zs, s, by_) ∧ (∀ z ∈ zs, z.oneCell' = true) ∧ σ = σ1 ++ .row v E sz l 0 :: σ2 ∧ s = sz ∧ a + n ≤ l.length ∧
            post = fun u σ' => u = .undef ∧ σ' = σ1 ++ .row v E sz (l.take a ++ List.replicate n (mkE (zs.map .val)) ++ l.drop (a + n)) 0 :: σ2
        | _ => False
      | .copy, [t, xt], [d, x] => (∃ sz ys, srcP sz σ x ys ∧ copyOk P t sz d ys σ ∧ post = copyTo d ys σ) ∨ rawB P .copy #[t, xt] [d, x] σ post
      | _, _, _ => False
    | _ => False
  | _, _ => False
def hookE (P : Program) (op : Op) (args : List AV) (σ : Store) (k : AV → Store → Prop) : Prop := ∃ post, effN P op args σ post ∧ ∀ u σ', post u σ' → k u σ'
theorem hookE_mono {op : Op} {args : List AV} {σ : Store} {k k' : AV → Store → Prop} (hk : ∀ u σ', k u σ' → k' u σ') (h : hookE P op args σ k) : hookE P op args σ k' := by
  obtain ⟨post, h1, h2⟩ := h
  exact ⟨post, h1, fun u σ' hp => hk _ _ (h2 u σ' hp)⟩

theorem exec_builtin {o : Oper} {b : Builtin} {args : Array Operand} {ts : Array TypeId} (ho : o.op = .call { callee := .builtin b, args, argTypes := ts }) (ev : Operand → Value) (w : World) :
    ∃ cs, (execOp ev o).run P w = (builtin b ts o.type cs (args.map ev)).run P w := by
  unfold execOp
  rw [ho]
  exact ⟨_, rfl⟩
theorem borrow_ {f : FuncId} {args args' : List AV} {σ σ' : Store} {u : AV} (hs : Sub σ args σ' args') (hp : aPure P f args' u) (hg : groundA u) : ACalls P f args σ fun x τ => x = .ret u ∧ τ = σ := by
  refine ⟨hp.1, fun R w vs hv hst => ?_⟩
  obtain ⟨R1, h1, h2, h3⟩ := hs R w vs hv hst
  have h2' : St R1 w [] := h2.sub (List.nil_sublist _)
  refine (hp.2 R1 w vs h1 h2').mono ?_
  rintro e w' ⟨x, R', σ'', he, ⟨rfl, rfl⟩, h4, h5⟩
  have hb : ∀ b, b < w.heap.size → w'.heap[b]? = w.heap[b]? := fun b hb => h5.block b hb (by simp [blks])
  refine ⟨.ret u, R, σ, ?_, ⟨rfl, rfl⟩, ⟨fun a v ha => ?_, fun e he => (hst.ents e he).keep (fun _ _ h => h) (fun b hb' => hb b ((hst.ents e he).lt hb')) (fun b _ a x h _ => h), hst.apart⟩, ⟨fun _ _ h => h, h5.os, h5.tape, h5.output, h5.size, fun k hk _ => hb k hk, fun k hk => .inl hk, fun a v ha => .inl ha⟩⟩
  · cases e with
    | returned v => exact hg R' R v he
    | panicked c => exact he.elim
    | outgrown => exact he.elim
  · have hc := hst.ro a v ha
    have hlt := World.block_lt_of_cell? w a hc
    rw [← hc]
    simp only [World.cell?, hb a.block hlt]
theorem pureN_ok (o : Oper) (ρ : Operand → AV) (u : AV) (σ : Store) (k kp : AV → Store → Prop) (h : pureN P o.op (o.op.operands.toList.map ρ) u) (hk : k u σ) : AOp P o ρ σ k kp := by
  unfold pureN at h
  split at h
  · rename_i x xt T ok y hop hargs
    have e : y = ρ x := by rw [hop] at hargs; simpa [Op.operands] using hargs.symm
    subst e
    split at h
    · rename_i t v ex
      obtain ⟨h1, rfl, hu⟩ := h
      refine AOp.ofRun fun R w ev ha hs => ?_
      have hx := ha x
      rw [ex] at hx
      generalize hxv : ev x = xv at hx
      cases hx with
      | ifc hv =>
        rename_i v0
        refine ⟨bif ok then .tuple #[v0, .bool true] else v0, w, u, R, σ, ?_, hk, ?_, hs, Ext.refl _ _ _⟩
        · unfold execOp
          rw [hop]
          cases hd : P.underlying t with
          | none => rw [hd] at h1; exact h1.elim
          | some d =>
            rw [hd] at h1
            cases d <;> first | exact h1.elim | (cases ok <;> simp [Instr.typeAssert, run_underlying hd, hxv])
        · rw [hu]
          cases ok with
          | false => exact hv
          | true => exact VR.tuple' (VRs.cons hv (VRs.cons (.val _) (VRs.nil R)))
    · exact h.elim
  · exact h.elim

theorem map_at {R : RO} {w : World} {σ : Store} (hs : St R w σ) {b : Nat} {l : MapL} {clock : Nat} (hm : Ent.map b l clock ∈ σ) :
    ∃ es : Array MapEntry, w.heap[b]? = some (.map es clock) ∧ es.toList.length = l.length ∧ (∀ (i : Nat) (e : MapEntry) (x : Nat × Value × AV), es.toList[i]? = some e → l[i]? = some x → e.born = x.1 ∧ e.key = x.2.1 ∧ VR R e.val x.2.2) ∧ (∀ x ∈ l, x.1 < clock) ∧ (l.map (·.1)).Nodup := by
  obtain ⟨⟨es, h1, h2, h3⟩, h4, h5, _⟩ := hs.ents _ hm
  exact ⟨es, h1, h2, h3, h4, h5⟩
theorem map_mem {R : RO} {es : Array MapEntry} {l : MapL} (h2 : es.toList.length = l.length) (h3 : ∀ (i : Nat) (e : MapEntry) (x : Nat × Value × AV), es.toList[i]? = some e → l[i]? = some x → e.born = x.1 ∧ e.key = x.2.1 ∧ VR R e.val x.2.2)
    {e : MapEntry} (he : e ∈ es.toList) : ∃ x ∈ l, e.born = x.1 ∧ e.key = x.2.1 ∧ VR R e.val x.2.2 := by
  obtain ⟨i, hi⟩ := List.mem_iff_getElem?.1 he
  have hlt : i < l.length := by rw [← h2]; exact (List.getElem?_eq_some_iff.1 hi).1
  exact ⟨l[i], List.getElem_mem _, h3 i e _ hi (List.getElem?_eq_getElem hlt)⟩
theorem map_mem' {R : RO} {es : Array MapEntry} {l : MapL} (h2 : es.toList.length = l.length) (h3 : ∀ (i : Nat) (e : MapEntry) (x : Nat × Value × AV), es.toList[i]? = some e → l[i]? = some x → e.born = x.1 ∧ e.key = x.2.1 ∧ VR R e.val x.2.2)
    {x : Nat × Value × AV} (hx : x ∈ l) : ∃ e ∈ es.toList, e.born = x.1 ∧ e.key = x.2.1 ∧ VR R e.val x.2.2 := by
  obtain ⟨i, hi⟩ := List.mem_iff_getElem?.1 hx
  have hlt : i < es.toList.length := by rw [h2]; exact (List.getElem?_eq_some_iff.1 hi).1
  exact ⟨es.toList[i], List.getElem_mem _, h3 i _ x (List.getElem?_eq_getElem hlt) hi⟩
theorem map_borns {R : RO} {es : Array MapEntry} {l : MapL} (h2 : es.toList.length = l.length) (h3 : ∀ (i : Nat) (e : MapEntry) (x : Nat × Value × AV), es.toList[i]? = some e → l[i]? = some x → e.born = x.1 ∧ e.key = x.2.1 ∧ VR R e.val x.2.2) :
    es.toList.map (·.born) = l.map (·.1) := by
  apply List.ext_getElem?
  intro i
  rw [List.getElem?_map, List.getElem?_map]
  rcases Nat.lt_or_ge i l.length with hi | hi
  · have hi' : i < es.toList.length := by omega
    rw [List.getElem?_eq_getElem hi, List.getElem?_eq_getElem hi']
    have := (h3 i _ _ (List.getElem?_eq_getElem hi') (List.getElem?_eq_getElem hi)).1
    simpa using this
  · rw [List.getElem?_eq_none hi, List.getElem?_eq_none (by omega)]
    rfl
theorem findM_spec {R : RO} {d : TypeDesc} {k : Value} (hk : MapKept.IsKey d k) : ∀ (l : MapL) (es : List MapEntry) (i : Nat), es.length = l.length → (∀ (i : Nat) (e : MapEntry) (x : Nat × Value × AV), es[i]? = some e → l[i]? = some x → e.born = x.1 ∧ e.key = x.2.1 ∧ VR R e.val x.2.2) → (∀ x ∈ l, MapKept.IsKey d x.2.1) →
    (findM k l = none ∧ Instr.findNow d k es i = some none) ∨ ∃ u v j, findM k l = some u ∧ Instr.findNow d k es i = some (some (j, v)) ∧ VR R v u
  | [], [], i, _, _, _ => .inl ⟨rfl, rfl⟩
  | x :: l, [], i, h, _, _ => by simp at h
  | [], e :: es, i, h, _, _ => by simp at h
  | x :: l, e :: es, i, hl, hr, hks => by
    obtain ⟨h1, h2, h3⟩ := hr 0 e x rfl rfl
    have hkx := hks x List.mem_cons_self
    obtain ⟨r, hr1, hr2⟩ := MapKept.sameNow_of_keys hk (show MapKept.IsKey d e.key by rw [h2]; exact hkx)
    have hb := keyb_iff hk hkx
    cases r with
    | true =>
      have hkb : keyb k x.2.1 = true := hb.2 (by rw [← h2]; exact hr2.1 rfl)
      exact .inr ⟨x.2.2, e.val, i, by simp [findM, hkb], by simp [Instr.findNow, hr1], h3⟩
    | false =>
      have hkb : keyb k x.2.1 = false := by
        cases hc : keyb k x.2.1 with
        | false => rfl
        | true => have := hr2.2 (by rw [h2]; exact hb.1 hc); cases this
      have := findM_spec hk l es (i + 1) (by simpa using hl) (fun i e x he hx => hr (i + 1) e x (by simpa using he) (by simpa using hx)) (fun x hx => hks x (List.mem_cons_of_mem _ hx))
      have hfm : findM k (x :: l) = findM k l := by simp [findM, hkb]
      rw [hfm]
      simpa [Instr.findNow, hr1] using this
theorem ofV_rel (R : RO) (v : Value) : VR R v (ofV v) := by
  cases v with
  | agg cs => exact .agg (by simp) (VRs.ofVals R cs.toList).2
  | _ => exact .val _
theorem readN_ok (o : Oper) (ρ : Operand → AV) (u : AV) (σ : Store) (k kp : AV → Store → Prop) (h : readN P o.op (o.op.operands.toList.map ρ) σ u) (hk : k u σ) : AOp P o ρ σ k kp := by
  unfold readN at h
  split at h
  · rename_i t x i ok m ky hop hargs
    rw [hop] at hargs
    simp only [Op.operands, List.map_cons, List.map_nil, List.cons.injEq, and_true] at hargs
    obtain ⟨rfl, rfl⟩ := hargs
    unfold lookA at h
    split at h
    · rename_i b kv e1 e2
      obtain ⟨d, z, l, clock, hm, hkv, hmem, hks, hu⟩ := h
      obtain ⟨kt, et, q1, q2, q3⟩ := mapOf_run hm
      refine AOp.ofRun fun R w ev ha hs => ?_
      have hx := ha x; have hi := ha i
      rw [e1] at hx; rw [e2] at hi
      have hxv := hx.val_inv; have hiv := hi.val_inv
      obtain ⟨es, g1, g2, g3, g4, g5⟩ := map_at hs hmem
      have hck : ∀ e : Bool, (Instr.checkKey e 10000 kt kv).run P w = .ok () w := fun e => MapKept.run_checkKey q2 hkv e 9999
      rcases findM_spec hkv l es.toList 0 g2 g3 hks with ⟨f1, f2⟩ | ⟨u0, v0, j, f1, f2, f3⟩
      · have hfk := MapKept.run_findKey (P := P) (w := w) q2 f2
        refine ⟨bif ok then .tuple #[z, .bool false] else z, w, u, R, σ, ?_, hk, ?_, hs, Ext.refl _ _ _⟩
        · unfold execOp
          rw [hop]
          simp only [Instr.lookup, hxv, hiv, Sem.run_bind, run_underlying q1, Result.andThen_ok, MapKept.run_getObj_map g1, hck, hfk, q3, Sem.run_pure]
          cases ok <;> rfl
        · rw [hu, f1]
          cases ok with
          | false => exact ofV_rel R z
          | true => exact VR.tuple' (VRs.cons (ofV_rel R z) (VRs.cons (.val _) (VRs.nil R)))
      · have hfk := MapKept.run_findKey (P := P) (w := w) q2 f2
        refine ⟨bif ok then .tuple #[v0, .bool true] else v0, w, u, R, σ, ?_, hk, ?_, hs, Ext.refl _ _ _⟩
        · unfold execOp
          rw [hop]
          simp only [Instr.lookup, hxv, hiv, Sem.run_bind, run_underlying q1, Result.andThen_ok, MapKept.run_getObj_map g1, hck, hfk, q3, Sem.run_pure]
          cases ok <;> rfl
        · rw [hu, f1]
          cases ok with
          | false => exact f3
          | true => exact VR.tuple' (VRs.cons f3 (VRs.cons (.val _) (VRs.nil R)))
    · exact h.elim
  · rename_i it y hop hargs
    have e : y = ρ it := by rw [hop] at hargs; simpa [Op.operands] using hargs.symm
    subst e
    unfold entryA at h
    split at h
    · rename_i a e1
      obtain ⟨hsp, hoff, mb, since, seen, born, stepped, l, x, hit, hmap, hx, hb, hu⟩ := h
      refine AOp.ofRun fun R w ev ha hs => ?_
      have hx1 := ha it
      rw [e1] at hx1
      have hiv := hx1.val_inv
      obtain ⟨es, g1, g2, g3, g4, g5⟩ := map_at hs hmap
      obtain ⟨k1, _⟩ := hs.ents _ hit
      obtain ⟨e, he, b1, b2, b3⟩ := map_mem' g2 g3 hx
      have hn : (es.toList.map (·.born)).Nodup := by rw [map_borns g2 g3]; exact g5
      obtain ⟨ab, ao, asp⟩ := a
      simp only at hsp hoff k1
      subst hsp; subst hoff
      have hit' : w.heap[ab]? = some (.mapIter (some mb) since (seen.toArray.push e.born) stepped) := by
        rw [k1, b1, hb]; simp
      have hrun := run_entry_at (P := P) w ab mb since seen.toArray es stepped e hit' g1 he hn
      refine ⟨.tuple #[e.key, e.val], w, u, R, σ, ?_, hk, ?_, hs, Ext.refl _ _ _⟩
      · unfold execOp
        rw [hop]
        simp only [Sem.run_bind, hiv, hrun, Result.andThen_ok, Sem.run_pure]
      · rw [hu, b2]
        exact VR.tuple' (VRs.cons (.val _) (VRs.cons b3 (VRs.nil R)))
    · exact h.elim
  · rename_i c hop
    obtain ⟨callee, cargs, ts⟩ := c
    rw [hop] at h
    cases callee with
    | builtin b =>
      simp only [Op.operands, Call.operands, List.map_map] at h
      split at h
      · rename_i t m hts hm
        obtain ⟨hmt, hl⟩ := h
        unfold lenM at hl
        split at hl
        · rename_i b
          obtain ⟨l, clock, hmem, hu⟩ := hl
          refine AOp.ofRun fun R w ev ha hs => ?_
          obtain ⟨x, hx, hxm⟩ : ∃ x, cargs.toList = [x] ∧ ρ x = .val (.map (some b)) := by
            have h1 : cargs.toList.map ρ = [.val (.map (some b))] := by simpa using hm
            match hc : cargs.toList, h1 with
            | [x], h1 => exact ⟨x, rfl, by simpa using h1⟩
            | [], h1 => simp at h1
            | _ :: _ :: _, h1 => simp at h1
          have hv := ha x
          rw [hxm] at hv
          have hxv := hv.val_inv
          obtain ⟨es, g1, g2, _⟩ := map_at hs hmem
          have e1 : cargs = #[x] := by apply Array.ext'; simp [hx]
          have e2 : ts = #[t] := by apply Array.ext'; simp [hts]
          subst e1; subst e2
          refine ⟨.int .i64 (l.length : Nat), w, u, R, σ, ?_, hk, by rw [hu]; exact .val _, hs, Ext.refl _ _ _⟩
          obtain ⟨kt, et, q1⟩ : ∃ k e, P.underlying t = some (.map k e) := by
            unfold isMapT at hmt
            split at hmt
            · exact ⟨_, _, by assumption⟩
            · cases hmt
          obtain ⟨cs, hex⟩ := exec_builtin (P := P) hop ev w
          have e4 : (#[x] : Array Operand).map ev = #[ev x] := by simp
          rw [hex, e4, hxv]
          have e3 : es.size = l.length := by rw [← g2]; simp
          simp [builtin, Builtin.len_, run_underlying q1, MapKept.run_getObj_map g1, goInt, e3]
        · exact hl.elim
      · exact h.elim
    | value x =>
      simp only [Op.operands, Call.operands, Array.toList_append, List.map_append, List.map_cons, List.map_nil, List.cons_append, List.nil_append] at h
      split at h
      · rename_i f a b hc
        obtain ⟨σ', args', h1, h2, h3⟩ := h
        exact ef_call hop hc (Or.inl ⟨σ, _, Sub.refl _ _, (borrow_ h1 h2 h3).mono fun x τ ⟨e1, e2⟩ => by rw [e1, e2]; exact hk⟩)
      · exact h.elim
    | invoke r m => exact h.elim
  · exact h.elim

theorem setM_rel {R : RO} {d : TypeDesc} {k : Value} (hk : MapKept.IsKey d k) (v : Value) (u : AV) (hv : VR R v u) (clock : Nat) : ∀ (l : MapL) (es : List MapEntry) (i : Nat), es.length = l.length → (∀ (i : Nat) (e : MapEntry) (x : Nat × Value × AV), es[i]? = some e → l[i]? = some x → e.born = x.1 ∧ e.key = x.2.1 ∧ VR R e.val x.2.2) → (∀ x ∈ l, MapKept.IsKey d x.2.1) →
    ((l.any fun x => keyb k x.2.1) = false ∧ Instr.findNow d k es i = some none ∧ setM k u clock l = l ++ [(clock, k, u)]) ∨
    ∃ j v0, (l.any fun x => keyb k x.2.1) = true ∧ Instr.findNow d k es i = some (some (i + j, v0)) ∧ (es[j]?).map (·.key) = some k ∧ (setM k u clock l).length = l.length ∧ (setM k u clock l).map (·.1) = l.map (·.1) ∧
      ∀ (i : Nat) (e : MapEntry) (x : Nat × Value × AV), (es.modify j fun e => { e with key := k, val := v })[i]? = some e → (setM k u clock l)[i]? = some x → e.born = x.1 ∧ e.key = x.2.1 ∧ VR R e.val x.2.2
  | [], [], i, _, _, _ => .inl ⟨rfl, rfl, rfl⟩
  | x :: l, [], i, h, _, _ => by simp at h
  | [], e :: es, i, h, _, _ => by simp at h
  | x :: l, e :: es, i, hl, hr, hks => by
    obtain ⟨h1, h2, h3⟩ := hr 0 e x rfl rfl
    have hkx := hks x List.mem_cons_self
    obtain ⟨r, hr1, hr2⟩ := MapKept.sameNow_of_keys hk (show MapKept.IsKey d e.key by rw [h2]; exact hkx)
    have hb := keyb_iff hk hkx
    cases r with
    | true =>
      have hkk : k = x.2.1 := by rw [← h2]; exact hr2.1 rfl
      have hkb : keyb k x.2.1 = true := hb.2 hkk
      refine .inr ⟨0, e.val, by simp [hkb], by simp [Instr.findNow, hr1], by simp [h2, hkk], by simp [setM, hkb], by simp [setM, hkb], ?_⟩
      intro i e' x' he hx
      simp only [setM, hkb, cond_true] at hx
      cases i with
      | zero =>
        simp [List.modify_cons] at he hx
        subst he; subst hx
        exact ⟨h1, hkk, hv⟩
      | succ i => exact hr (i + 1) e' x' (by simpa [List.modify_cons] using he) (by simpa using hx)
    | false =>
      have hkb : keyb k x.2.1 = false := by
        cases hc : keyb k x.2.1 with
        | false => rfl
        | true => have := hr2.2 (by rw [h2]; exact hb.1 hc); cases this
      have ih := setM_rel hk v u hv clock l es (i + 1) (by simpa using hl) (fun i e x he hx => hr (i + 1) e x (by simpa using he) (by simpa using hx)) (fun x hx => hks x (List.mem_cons_of_mem _ hx))
      rcases ih with ⟨g1, g2, g3⟩ | ⟨j, v0, g1, g2, g3, g4, g5, g6⟩
      · exact .inl ⟨by simp only [List.any_cons, hkb, Bool.false_or]; exact g1, by simp [Instr.findNow, hr1, g2], by simp [setM, hkb, g3]⟩
      · refine .inr ⟨j + 1, v0, by simp only [List.any_cons, hkb, Bool.false_or]; exact g1, by simp [Instr.findNow, hr1, g2]; omega, by simpa using g3, by simp [setM, hkb, g4], by simp [setM, hkb, g5], ?_⟩
        intro i e' x' he hx
        simp only [setM, hkb, cond_false] at hx
        cases i with
        | zero =>
          simp [List.modify_cons] at he hx
          subst he; subst hx
          exact ⟨h1, h2, h3⟩
        | succ i => exact g6 i e' x' (by simpa [List.modify_cons] using he) (by simpa using hx)
theorem st_newEnt {R : RO} {w : World} {σ : Store} (hs : St R w σ) (o : Obj) {e : Ent} (hb : e.blk = some w.heap.size) (he : EntOk R (w.alloc o) e) :
    St R (w.alloc o) (e :: σ) ∧ Ext R w σ R (w.alloc o) (e :: σ) := by
  have hold : ∀ k, k < w.heap.size → (w.alloc o).heap[k]? = w.heap[k]? := (MapKept.heap_alloc w o).2
  have hsz : w.heap.size ≤ (w.alloc o).heap.size := (World.grownBy_alloc w o none).size
  refine ⟨⟨fun a v ha => ?_, ?_, ?_⟩, ⟨fun _ _ h => h, rfl, rfl, rfl, hsz, fun k hk _ => hold k hk, ?_, fun a v ha => .inl ha⟩⟩
  · have := hs.ro a v ha
    have hlt := World.block_lt_of_cell? w a this
    rw [← this]
    simp only [World.cell?, hold _ hlt]
  · intro e' he'
    rcases List.mem_cons.1 he' with rfl | he'
    · exact he
    · exact (hs.ents e' he').keep (fun _ _ h => h) (fun b hb => hold b ((hs.ents e' he').lt hb)) fun _ _ _ _ h _ => h
  · refine List.pairwise_cons.2 ⟨fun e' he' b h1 h2 => ?_, hs.apart⟩
    rw [hb] at h1
    have := (hs.ents e' he').lt h2
    cases h1
    omega
  · intro k hk
    obtain ⟨e', he', hk'⟩ := mem_blks.1 hk
    rcases List.mem_cons.1 he' with rfl | he'
    · rw [hb] at hk'; cases hk'; exact .inr (Nat.le_refl _)
    · exact .inl (mem_blks.2 ⟨e', he', hk'⟩)
theorem ro_old {R : RO} {w : World} {σ : Store} (hs : St R w σ) : ∀ a x, R a = some x → a.block ≠ w.heap.size := fun a x ha e => by
  have := hs.roLt ha
  omega

theorem change_obj {R : RO} {w w1 : World} {σ1 σ2 : Store} {e e' : Ent} (hs : St R w (σ1 ++ e :: σ2)) {b : Nat} (hb : e.blk = some b) (hb' : e'.blk = some b) (h1 : w1 = w ∨ w1 = w.drew) (o : Obj) (hro : ∀ a x, R a = some x → a.block ≠ b) (he : ∀ w' : World, w'.heap[b]? = some o → (∀ k, k ≠ b → w'.heap[k]? = w.heap[k]?) → EntOk R w' e') :
    St R { w1 with heap := w1.heap.setIfInBounds b o } (σ1 ++ e' :: σ2) ∧ Ext R w (σ1 ++ e :: σ2) R { w1 with heap := w1.heap.setIfInBounds b o } (σ1 ++ e' :: σ2) := by
  have hlt : b < w.heap.size := hs.lt (mem_blks.2 ⟨e, by simp, hb⟩)
  have hh : w1.heap = w.heap := by rcases h1 with rfl | rfl <;> rfl
  have hnew : ({ w1 with heap := w1.heap.setIfInBounds b o } : World).heap[b]? = some o := by
    show (w1.heap.setIfInBounds b o)[b]? = some o
    rw [hh, Array.getElem?_setIfInBounds]; simp [hlt]
  have hold : ∀ k, k ≠ b → ({ w1 with heap := w1.heap.setIfInBounds b o } : World).heap[k]? = w.heap[k]? := by
    intro k hk
    show (w1.heap.setIfInBounds b o)[k]? = _
    rw [hh, Array.getElem?_setIfInBounds, if_neg (fun e => hk e.symm)]
  refine st_change hs hb hb' ?_ ?_ ?_ ?_ hold (fun a v ha hab => absurd hab (hro a v ha)) (he _ hnew hold)
  · rcases h1 with rfl | rfl <;> rfl
  · rcases h1 with rfl | rfl <;> rfl
  · rcases h1 with rfl | rfl <;> rfl
  · show (w1.heap.setIfInBounds b o).size = _
    rw [hh]; simp
theorem leftOf_mem {R : RO} {es : Array MapEntry} {l : MapL} (h2 : es.toList.length = l.length) (h3 : ∀ (i : Nat) (e : MapEntry) (x : Nat × Value × AV), es.toList[i]? = some e → l[i]? = some x → e.born = x.1 ∧ e.key = x.2.1 ∧ VR R e.val x.2.2) (seen : List Nat) :
    ((leftOf es seen.toArray).size = 0 → leftM l seen = []) ∧ ∀ e ∈ (leftOf es seen.toArray).toList, ∃ x ∈ leftM l seen, e.born = x.1 ∧ e.key = x.2.1 ∧ VR R e.val x.2.2 := by
  constructor
  · intro h
    apply List.filter_eq_nil_iff.2
    intro x hx hc
    obtain ⟨e, he, b1, _, _⟩ := map_mem' h2 h3 hx
    have hm : e ∈ leftOf es seen.toArray := by
      unfold leftOf
      simp only [Array.mem_filter]
      exact ⟨Array.mem_toList_iff.1 he, by rw [b1]; simpa using hc⟩
    have := Array.eq_empty_of_size_eq_zero h
    rw [this] at hm
    simp at hm
  · intro e he
    unfold leftOf at he
    simp only [Array.toList_filter, List.mem_filter] at he
    obtain ⟨x, hx, b1, b2, b3⟩ := map_mem h2 h3 he.1
    exact ⟨x, List.mem_filter.2 ⟨hx, by rw [← b1]; simpa using he.2⟩, b1, b2, b3⟩
/-- Some cells of a row are written. -/
theorem row_write {R : RO} {w : World} {σ1 σ2 : Store} {g n0 cap : Nat} {E : TypeId} {sz : Nat} {l ys : List AV} {news : List Value} (hs : St R w (σ1 ++ .row (.slice (some ⟨g, 0, none⟩) n0 cap) E sz l 0 :: σ2)) {a : Nat}
    (hr : VRs R news (flat ys)) (hone : ∀ v ∈ news, v.oneCell' = true) (hys : ∀ y ∈ ys, y.cells.length = sz) (hle : a + ys.length ≤ l.length) :
    ∃ w', (storeCells ⟨g, a * sz, none⟩ news).run P w = .ok () w' ∧ St R w' (σ1 ++ .row (.slice (some ⟨g, 0, none⟩) n0 cap) E sz (l.take a ++ ys ++ l.drop (a + ys.length)) 0 :: σ2) ∧
      Ext R w (σ1 ++ .row (.slice (some ⟨g, 0, none⟩) n0 cap) E sz l 0 :: σ2) R w' (σ1 ++ .row (.slice (some ⟨g, 0, none⟩) n0 cap) E sz (l.take a ++ ys ++ l.drop (a + ys.length)) 0 :: σ2) := by
  obtain ⟨vs, hvr, hvo, hown, hsz0, hsz, hc⟩ := row_cells hs (v := .slice (some ⟨g, 0, none⟩) n0 cap) (E := E) (sz := sz) (l := l) (fl := 0) (by simp)
  have hent0 := hs.ents (.row (.slice (some ⟨g, 0, none⟩) n0 cap) E sz l 0) (by simp)
  obtain ⟨_, _, _, hmax, hflo⟩ := hent0
  rcases hown.2 with ⟨h0, _⟩ | ⟨g', cap', cur, hvv, _, hh, hnc, hcm, hcs, htake⟩
  · cases h0
  · simp only [Value.slice.injEq, Option.some.injEq, Addr.mk.injEq, and_true, true_and] at hvv
    obtain ⟨rfl, hn, rfl⟩ := hvv
    have hnl : news.length = ys.length * sz := by rw [hr.1, flat_length hys]
    have hbnd : (a + ys.length) * sz ≤ l.length * sz := Nat.mul_le_mul_right _ hle
    rw [Nat.add_mul] at hbnd
    have hcap : l.length * sz ≤ cap * sz := Nat.mul_le_mul_right _ hnc
    have hcs' : cur.size = cap * sz := hcs
    have hst := run_storeCells_at P g (a * sz) E news 0 cur w hh (by rw [hnl]; omega) hone
    simp only [Nat.add_zero] at hst
    refine ⟨_, hst, ?_⟩
    have hvl : vs.length = l.length * sz := by rw [hvr.1, flat_length hsz]
    have hflat : flat (l.take a ++ ys ++ l.drop (a + ys.length)) = (flat l).take (a * sz) ++ flat ys ++ (flat l).drop (a * sz + news.length) := by
      rw [flat_append, flat_append, flat_take hsz, flat_drop hsz, hnl, Nat.add_mul]
    have hnew : VRs R (vs.take (a * sz) ++ news ++ vs.drop (a * sz + news.length)) (flat (l.take a ++ ys ++ l.drop (a + ys.length))) := by
      rw [hflat]
      exact ((hvr.take _).append hr).append (hvr.drop _)
    have hlen2 : (l.take a ++ ys ++ l.drop (a + ys.length)).length = l.length := by simp; omega
    have hwin : (cur.toList.take (a * sz) ++ news ++ cur.toList.drop (a * sz + news.length)).take (l.length * sz) = vs.take (a * sz) ++ news ++ vs.drop (a * sz + news.length) := by
      rw [← htake, List.take_take, List.drop_take, List.take_append, List.take_append, List.take_take]
      simp only [List.length_append, List.length_take, Array.length_toList]
      rw [List.take_of_length_le (l := news) (by omega)]
      congr 1
      · congr 2; omega
      · congr 1; omega
    have hsz2 : ∀ e ∈ l.take a ++ ys ++ l.drop (a + ys.length), e.cells.length = sz := by
      intro e he
      simp only [List.mem_append] at he
      rcases he with (he | he) | he
      · exact hsz e (List.mem_of_mem_take he)
      · exact hys e he
      · exact hsz e (List.mem_of_mem_drop he)
    refine st_change hs (e := .row (.slice (some ⟨g, 0, none⟩) n0 cap) E sz l 0) (e' := .row (.slice (some ⟨g, 0, none⟩) n0 cap) E sz (l.take a ++ ys ++ l.drop (a + ys.length)) 0) (b := g) rfl rfl (by simp) (by simp) (by simp) (by simp) (fun k hk => setRow_other w g k _ hk) ?_ ?_
    · intro b v hb hab
      have := (hflo b v hb (by simp [Value.ownBlock, hab])).1
      omega
    · refine ⟨hsz0, hsz2, ⟨_, ⟨by rw [hnew.1, flat_length hsz2], .inr ⟨g, cap, _, by rw [hlen2, hn], Nat.zero_le _, setRow_heap w g cur _ E _ hh, by rw [hlen2]; exact hnc, hcm, ?_, by rw [hlen2]; exact hwin⟩⟩, hnew, ?_⟩, by rw [hlen2]; exact hmax, fun b v hb hv => ?_⟩
      · simp only [List.size_toArray, List.length_append, List.length_take, Array.length_toList, List.length_drop, hcs']; omega
      · intro v hv
        simp only [List.mem_append] at hv
        rcases hv with (hv | hv) | hv
        · exact hvo v (List.mem_of_mem_take hv)
        · exact hone v hv
        · exact hvo v (List.mem_of_mem_drop hv)
      · have := (hflo b v hb hv).1
        omega
theorem firstCells_pre {w : World} {sz n len cap : Nat} {a : Addr} {vs : List Value} {m : Nat} (hl : vs.length = m * sz) (hn : n ≤ m) (hc : ∀ (j : Nat) (u : Value), j < n * sz → vs[j]? = some u → w.cell? (a.add j) = some u) :
    (Builtin.firstCells sz n (.slice (some a) len cap)).run P w = .ok (vs.take (n * sz)).toArray w := by
  have hle : n * sz ≤ m * sz := Nat.mul_le_mul_right _ hn
  refine run_firstCells_some w sz n a len cap (vs.take (n * sz)) (by rw [List.length_take, hl]; omega) fun j u hj => ?_
  rw [List.getElem?_take] at hj
  split at hj
  · rename_i hlt; exact hc j u hlt hj
  · cases hj
theorem src_pre {R : RO} {w : World} {σ : Store} (hs : St R w σ) {sz : Nat} {v : Value} {x : AV} (hv : VR R v x) {ys : List AV} (h : srcP sz σ x ys) {n : Nat} (hn : n ≤ ys.length) :
    (Builtin.lenOf v).run P w = .ok ys.length w ∧ ∃ news, (Builtin.firstCells sz n v).run P w = .ok (List.toArray news) w ∧ VRs R news (flat (ys.take n)) ∧ (∀ u ∈ news, u.oneCell' = true) ∧ ∀ y ∈ ys, y.cells.length = sz := by
  unfold srcP at h
  split at h
  · rename_i z l m
    obtain ⟨rfl, rfl⟩ := h
    obtain ⟨ao, cap, vs, rfl, hz0, hsz, hr, hR, hm, hb, hone⟩ := hv.lst_inv
    have hl : vs.length = ys.length * z := by rw [hr.1, flat_length hsz]
    refine ⟨rfl, vs.take (n * z), ?_, by rw [flat_take hsz]; exact hr.take _, fun u hu => hone u (List.mem_of_mem_take hu), hsz⟩
    cases ao with
    | none =>
      have : ys = [] := by
        cases ys with
        | nil => rfl
        | cons y ys => obtain ⟨a, ha, _⟩ := hR (by simp); cases ha
      subst this
      have : vs = [] := List.eq_nil_of_length_eq_zero (by simpa using hl)
      subst this
      simp [Builtin.firstCells]
    | some a =>
      refine firstCells_pre hl hn fun j u _ hj => ?_
      by_cases hne : ys = []
      · subst hne
        have : vs = [] := List.eq_nil_of_length_eq_zero (by simpa using hl)
        subst this; simp at hj
      · obtain ⟨a', ha, hc⟩ := hR hne
        cases ha
        exact hs.ro _ _ (hc j u hj)
  · rename_i v0 n0
    obtain ⟨E, l, fl, hm, rfl⟩ := h
    obtain ⟨rfl, hrow⟩ := hv.own_inv
    obtain ⟨vs, hr, hvo, hown, _, hsz, hc⟩ := row_cells hs hm
    rcases hown.2 with ⟨rfl, hl0⟩ | ⟨g, cap, cur, rfl, _⟩
    · have hl : ys = [] := List.eq_nil_of_length_eq_zero hl0
      subst hl
      exact ⟨rfl, [], by simp [Builtin.firstCells], by simpa [flat] using VRs.nil R, by simp, hsz⟩
    · refine ⟨rfl, vs.take (n * sz), firstCells_pre hown.1 hn fun j u _ hj => hc g _ _ rfl j u hj, by rw [flat_take hsz]; exact hr.take _, fun u hu => hvo u (List.mem_of_mem_take hu), hsz⟩
  · rename_i v0 z a n0
    obtain ⟨rfl, E, l, fl, hm, hle, rfl⟩ := h
    obtain ⟨vs, hr, hvo, hown, hz0, hsz, hc⟩ := row_cells hs hm
    have hlen : ((l.drop a).take n0).length = n0 := by simp; omega
    rw [hlen] at hn ⊢
    have hsz' : ∀ y ∈ (l.drop a).take n0, y.cells.length = z := fun y hy => hsz y (List.mem_of_mem_drop (List.mem_of_mem_take hy))
    have hflat2 : flat (((l.drop a).take n0).take n) = (((flat l).drop (a * z)).take (n0 * z)).take (n * z) := by
      rw [flat_take hsz', flat_take (fun e he => hsz e (List.mem_of_mem_drop he)), flat_drop hsz]
    rcases hv.sub_inv with ⟨_, _, rfl, rfl⟩ | ⟨g, n1, cap, p, rfl, hcap, hp, rfl⟩
    · exact ⟨rfl, [], by simp [Builtin.firstCells], by simpa [flat] using VRs.nil R, by simp, hsz'⟩
    · have hr' : VRs R (((vs.drop (a * z)).take (n0 * z)).take (n * z)) (flat (((l.drop a).take n0).take n)) := by rw [hflat2]; exact ((hr.drop _).take _).take _
      refine ⟨rfl, ((vs.drop (a * z)).take (n0 * z)).take (n * z), ?_, hr', fun u hu => hvo u (List.mem_of_mem_drop (List.mem_of_mem_take (List.mem_of_mem_take hu))), hsz'⟩
      have hvl : ((vs.drop (a * z)).take (n0 * z)).length = n0 * z := by
        have hb : (a + n0) * z ≤ l.length * z := Nat.mul_le_mul_right _ hle
        rw [Nat.add_mul] at hb
        rw [List.length_take, List.length_drop, hown.1]; omega
      refine firstCells_pre hvl hn fun j u hlt hj => ?_
      have hnz : n * z ≤ n0 * z := Nat.mul_le_mul_right _ hn
      have hn0 : 0 < n0 := by
        rcases Nat.eq_zero_or_pos n0 with e | e
        · subst e; simp at hnz; omega
        · exact e
      rw [hp (by omega), addr_lit_add]
      rw [List.getElem?_take, if_pos (by omega), List.getElem?_drop] at hj
      have := hc g n1 cap rfl (a * z + j) u hj
      rw [addr_lit_add, Nat.zero_add] at this
      exact this
  · subst h
    rw [hv.val_inv]
    exact ⟨rfl, [], by simp [Builtin.firstCells], by simpa [flat] using VRs.nil R, by simp, by simp⟩
  · exact h.elim
theorem hookE_ok (o : Oper) (ρ : Operand → AV) (σ : Store) (k kp : AV → Store → Prop) (h : hookE P o.op (o.op.operands.toList.map ρ) σ k) : AOp P o ρ σ k kp := by
  obtain ⟨post, h, hk⟩ := h
  unfold effN at h
  split at h
  · rename_i t hop hargs
    subst h
    refine AOp.ofRun fun R w ev ha hs => ?_
    have hent : EntOk R (w.alloc (.map #[] 0)) (.map w.heap.size [] 0) := ⟨⟨#[], (MapKept.heap_alloc w _).1, rfl, fun i e x he => by simp at he⟩, by simp, by simp, ro_old hs⟩
    obtain ⟨g1, g2⟩ := st_newEnt hs (.map #[] 0) rfl hent
    refine ⟨.map (some w.heap.size), _, _, R, _, ?_, hk _ _ ⟨w.heap.size, rfl, rfl⟩, .val _, g1, g2⟩
    unfold execOp
    rw [hop]
    simp [Instr.makeMap]
  · rename_i t m kk v ma ka va hop hargs
    rw [hop] at hargs
    simp only [Op.operands, List.map_cons, List.map_nil, List.cons.injEq, and_true] at hargs
    obtain ⟨rfl, rfl, rfl⟩ := hargs
    split at h
    · rename_i b kv e1 e2
      obtain ⟨d, z, l, clock, σ1, σ2, hm, hkv, rfl, hks, rfl⟩ := h
      obtain ⟨kt, et, q1, q2, q3⟩ := mapOf_run hm
      refine AOp.ofSkip fun R w ev ha hs => ?_
      have hx := ha m; have hi := ha kk; have hv := ha v
      rw [e1] at hx; rw [e2] at hi
      have hxv := hx.val_inv; have hiv := hi.val_inv
      have hmem : Ent.map b l clock ∈ σ1 ++ .map b l clock :: σ2 := by simp
      obtain ⟨es, g1, g2, g3, g4, g5⟩ := map_at hs hmem
      have hro : ∀ a x, R a = some x → a.block ≠ b := (hs.ents _ hmem).2.2.2
      have hck : (Instr.checkKey false 10000 kt kv).run P w = .ok () w := MapKept.run_checkKey q2 hkv false 9999
      rcases setM_rel hkv (ev v) (ρ v) hv clock l es.toList 0 g2 g3 hks with ⟨f1, f2, f3⟩ | ⟨j, v0, f1, f2, f3, f4, f5, f6⟩
      · have hfk := MapKept.run_findKey (P := P) (w := w) q2 f2
        obtain ⟨n1, n2⟩ := change_obj (w1 := w) hs (b := b) (e' := .map b (setM kv (ρ v) clock l) (clock + 1)) rfl rfl (.inl rfl) (.map (es.push { key := kv, val := ev v, born := clock }) (clock + 1)) hro (fun w' hw' hold => by
          refine ⟨⟨_, hw', by simp [f3, ← g2], ?_⟩, ?_, ?_, hro⟩
          · intro i e x he hxx
            rw [f3] at hxx
            rw [Array.toList_push] at he
            rcases Nat.lt_or_ge i l.length with hlt | hge
            · rw [List.getElem?_append_left (by rw [g2]; exact hlt)] at he
              rw [List.getElem?_append_left hlt] at hxx
              exact g3 i e x he hxx
            · rw [List.getElem?_append_right (by rw [g2]; exact hge)] at he
              rw [List.getElem?_append_right hge] at hxx
              rw [g2] at he
              cases hn : i - l.length with
              | zero => rw [hn] at he hxx; simp at he hxx; subst he; subst hxx; exact ⟨rfl, rfl, hv⟩
              | succ n => rw [hn] at he; simp at he
          · intro x hxx
            rw [f3] at hxx
            rcases List.mem_append.1 hxx with hxx | hxx
            · have := g4 x hxx; omega
            · simp at hxx; subst hxx; simp
          · rw [f3, List.map_append]
            refine List.nodup_append.2 ⟨g5, by simp, ?_⟩
            intro a ha b hb
            simp at hb
            subst hb
            obtain ⟨x, hx, rfl⟩ := List.mem_map.1 ha
            have := g4 x hx
            omega)
        refine ⟨_, R, _, ?_, hk _ _ ⟨rfl, by rw [f1]; rfl⟩, n1, n2⟩
        unfold execOp
        rw [hop]
        simp only [Instr.mapUpdate, hxv, hiv, Sem.run_bind, run_underlying q1, Result.andThen_ok, MapKept.run_getObj_map g1, hck, hfk, MapKept.run_setObj_map _ g1, Sem.run_pure]
      · rw [Nat.zero_add] at f2
        have hfk := MapKept.run_findKey (P := P) (w := w) q2 f2
        obtain ⟨n1, n2⟩ := change_obj (w1 := w) hs (b := b) (e' := .map b (setM kv (ρ v) clock l) clock) rfl rfl (.inl rfl) (.map (es.modify j fun e => { e with key := kv, val := ev v }) clock) hro (fun w' hw' hold => by
          refine ⟨⟨_, hw', by simp [f4, ← g2], ?_⟩, ?_, by rw [f5]; exact g5, hro⟩
          · intro i e x he hxx
            exact f6 i e x (by simpa using he) hxx
          · intro x hxx
            have : x.1 ∈ (setM kv (ρ v) clock l).map (·.1) := List.mem_map.2 ⟨x, hxx, rfl⟩
            rw [f5] at this
            obtain ⟨y, hy, hyx⟩ := List.mem_map.1 this
            rw [← hyx]; exact g4 y hy)
        have hkey : ((es[j]?).map (·.key)).getD kv = kv := by
          have : es.toList[j]? = es[j]? := Array.getElem?_toList
          rw [← this, f3]; rfl
        refine ⟨_, R, _, ?_, hk _ _ ⟨rfl, by rw [f1]; rfl⟩, n1, n2⟩
        unfold execOp
        rw [hop]
        have hks' := MapKept.run_keyThatStays (P := P) (w := w) hkv
        simp only [Instr.mapUpdate, hxv, hiv, Sem.run_bind, run_underlying q1, Result.andThen_ok, MapKept.run_getObj_map g1, hck, hfk, hkey, hks', MapKept.run_setObj_map _ g1, Sem.run_pure]
    · exact h.elim
  · rename_i t x mx hop hargs
    have e : mx = ρ x := by rw [hop] at hargs; simpa [Op.operands] using hargs.symm
    subst e
    split at h
    · rename_i mb e1
      obtain ⟨l, clock, hmt, hmem, rfl⟩ := h
      refine AOp.ofRun fun R w ev ha hs => ?_
      have hx := ha x
      rw [e1] at hx
      have hxv := hx.val_inv
      obtain ⟨es, g1, g2, g3, g4, g5⟩ := map_at hs hmem
      obtain ⟨kt, et, q1⟩ : ∃ k e, P.underlying t = some (.map k e) := by
        unfold isMapT at hmt
        split at hmt
        · exact ⟨_, _, by assumption⟩
        · cases hmt
      have hent : EntOk R (w.alloc (.mapIter (some mb) clock #[] clock)) (.iter w.heap.size mb clock [] clock) := ⟨(MapKept.heap_alloc w _).1, ro_old hs⟩
      obtain ⟨n1, n2⟩ := st_newEnt hs (.mapIter (some mb) clock #[] clock) rfl hent
      have hrun := run_range_map (P := P) w t kt et mb es clock q1 g1
      refine ⟨.pointer (some ⟨w.heap.size, 0, none⟩), _, _, R, _, ?_, hk _ _ ⟨w.heap.size, rfl, rfl⟩, .val _, n1, n2⟩
      unfold execOp
      rw [hop]
      simp only [Sem.run_bind, hxv, hrun, Result.andThen_ok, Sem.run_pure]
    · exact h.elim
  · rename_i it ity hop hargs
    have e : ity = ρ it := by rw [hop] at hargs; simpa [Op.operands] using hargs.symm
    subst e
    split at h
    · rename_i a e1
      obtain ⟨hsp, hoff, σ1, σ2, mb, clock, seen, l, rfl, hmem, rfl⟩ := h
      refine AOp.ofRun fun R w ev ha hs => ?_
      have hx := ha it
      rw [e1] at hx
      have hxv := hx.val_inv
      obtain ⟨ab, ao, asp⟩ := a
      simp only at hsp hoff hk ⊢
      subst hsp; subst hoff
      have hmem' : Ent.map mb l clock ∈ σ1 ++ .iter ab mb clock seen clock :: σ2 := by
        rcases List.mem_append.1 hmem with h | h
        · exact List.mem_append_left _ h
        · exact List.mem_append_right _ (List.mem_cons_of_mem _ h)
      obtain ⟨es, g1, g2, g3, g4, g5⟩ := map_at hs hmem'
      have hit := hs.ents (.iter ab mb clock seen clock) (by simp)
      obtain ⟨k1, k2⟩ := hit
      have hold : ∀ x ∈ es.toList, x.born < clock := fun e he => by
        obtain ⟨x, hx, b1, _⟩ := map_mem g2 g3 he
        rw [b1]; exact g4 x hx
      obtain ⟨f1, f2⟩ := leftOf_mem g2 g3 seen
      rcases run_next_at (P := P) w o.type ab mb clock clock seen.toArray es clock k1 g1 hold (Nat.le_refl _) with ⟨z, hrun⟩ | ⟨e, he, w1, hw1, hrun⟩
      · refine ⟨.tuple #[.bool false], w, _, R, _, ?_, hk _ _ (.inl ⟨f1 z, rfl, rfl⟩), VR.tuple' (VRs.cons (.val _) (VRs.nil R)), hs, Ext.refl _ _ _⟩
        unfold execOp
        rw [hop]
        simp only [Sem.run_bind, hxv, hrun, Result.andThen_ok, Sem.run_pure]
      · obtain ⟨x, hxl, b1, b2, b3⟩ := f2 e he
        have hobj : (Obj.mapIter (some mb) clock (seen.toArray.push e.born) clock) = .mapIter (some mb) clock (seen ++ [x.1]).toArray clock := by rw [b1]; simp
        obtain ⟨n1, n2⟩ := change_obj (w1 := w1) hs (b := ab) (e' := .iter ab mb clock (seen ++ [x.1]) clock) rfl rfl hw1 (.mapIter (some mb) clock (seen.toArray.push e.born) clock) k2 (fun w' hw' _ => ⟨by rw [hw', hobj], k2⟩)
        refine ⟨.tuple #[.bool true, e.key, e.val], _, _, R, _, ?_, hk _ _ (.inr ⟨x, hxl, rfl, rfl⟩), ?_, n1, n2⟩
        · unfold execOp
          rw [hop]
          simp only [Sem.run_bind, hxv, hrun, Result.andThen_ok, Sem.run_pure]
          rfl
        · rw [b2]
          exact VR.tuple' (VRs.cons (.val _) (VRs.cons (.val _) (VRs.cons b3 (VRs.nil R))))
    · exact h.elim
  · rename_i c hop
    obtain ⟨callee, cargs, ts⟩ := c
    cases callee with
    | builtin b =>
      have hargs : o.op.operands.toList.map ρ = cargs.toList.map ρ := by rw [hop]; simp [Op.operands, Call.operands]
      simp only at h
      rw [hargs] at h
      split at h
      · rename_i t x hts hx
        obtain ⟨y, hy, hyx⟩ : ∃ y, cargs.toList = [y] ∧ ρ y = x := by
          match hc : cargs.toList, hx with
          | [y], hx => exact ⟨y, rfl, by simpa using hx⟩
        have e1 : cargs = #[y] := by apply Array.ext'; simp [hy]
        have e2 : ts = #[t] := by apply Array.ext'; simp [hts]
        subst e1; subst e2
        split at h
        · rename_i v sz a n
          obtain ⟨E, zs, s, by_, l, σ1, σ2, hro, hzo, rfl, rfl, hle, rfl⟩ := h
          obtain ⟨ht, i, z, hi, hz, hzc, hzl, his, _, hpos⟩ := rowOf_run hro
          refine AOp.ofRun fun R w ev ha hs => ?_
          have hv := ha y
          rw [hyx] at hv
          have hsub := hv.sub_inv
          obtain ⟨cs, hex⟩ := exec_builtin (P := P) hop ev w
          have e4 : (#[y] : Array Operand).map ev = #[ev y] := by simp
          have hmk : (mkE (zs.map AV.val)).cells = zs.map .val := mkE_cells fun c hc => by
            obtain ⟨v, hv, rfl⟩ := List.mem_map.1 hc
            exact hzo v hv
          have hzr : (zeroValue E).run P w = .ok z w := by simp [zeroValue, typeInfo, hi, hz]
          have same : n = 0 → l.take a ++ List.replicate n (mkE (zs.map AV.val)) ++ l.drop (a + n) = l := fun h0 => by subst h0; simp
          have hval : ∀ (x : Value) (w1 : World), (Builtin.clear_ #[t] o.type #[x]).run P w = .ok (.tuple #[]) w1 → ev y = x → (execOp ev o).run P w = .ok (.value (.tuple #[])) w1 := by
            intro x w1 h1 h2
            rw [hex, e4, h2]
            simp [builtin, h1]
          by_cases hn : n = 0
          · have hrun : (Builtin.clear_ #[t] o.type #[ev y]).run P w = .ok (.tuple #[]) w := by
              rcases hsub with ⟨_, _, _, hv⟩ | ⟨g, n0, cap, p, _, _, _, hv⟩
              · rw [hv]; simp [Builtin.clear_, run_underlying ht]
              · rw [hv, hn]; simp [Builtin.clear_, run_underlying ht]
            exact ⟨_, w, .undef, R, _, hval _ w hrun rfl, hk _ _ ⟨rfl, rfl⟩, .undef _, by rw [same hn]; exact hs, by rw [same hn]; exact Ext.refl _ _ _⟩
          · rcases hsub with ⟨_, _, hn0, _⟩ | ⟨g, n0, cap, p, rfl, hcap, hp, hv⟩
            · exact absurd hn0 hn
            · have hnews : VRs R ((List.replicate n zs).flatten) (flat (List.replicate n (mkE (zs.map AV.val)))) := by
                have hfl : flat (List.replicate n (mkE (zs.map AV.val))) = ((List.replicate n zs).flatten).map .val := by
                  rw [flat_replicate, hmk]
                  simp [List.map_flatten]
                rw [hfl]; exact VRs.ofVals R _
              obtain ⟨w', hst, g1, g2⟩ := row_write (P := P) hs (a := a) hnews (by
                intro v hv
                simp only [List.mem_flatten, List.mem_replicate] at hv
                obtain ⟨l, ⟨_, rfl⟩, hv⟩ := hv
                exact hzo v hv) (by
                intro y hy
                rw [(List.mem_replicate.1 hy).2, hmk]
                simp [hzl]) (by simpa using hle)
              rw [List.length_replicate] at g1 g2
              have hz2 : (Builtin.zeroCells z.cells n).toList = (List.replicate n zs).flatten := by
                have h1 := zero_cells zs n (by omega)
                have h2 : z.cells = zs.toArray := by rw [← hzc]
                unfold Builtin.zeroCells
                rw [h2]
                have h3 : zs.toArray.size = zs.length := by simp
                rw [h3] at h1 ⊢
                rw [h1]
              have hrun : (Builtin.clear_ #[t] o.type #[ev y]).run P w = .ok (.tuple #[]) w' := by
                rw [hv, hp (by omega)]
                have hn' : n ≠ 0 := hn
                cases n with
                | zero => exact absurd rfl hn
                | succ n => simp [Builtin.clear_, run_underlying ht, hzr, hz2, hst]
              exact ⟨_, w', .undef, R, _, hval _ w' hrun rfl, hk _ _ ⟨rfl, rfl⟩, .undef _, g1, g2⟩
        · exact h.elim
      · rename_i t xt d x hts hx
        obtain ⟨yd, yx, hy, hyd, hyx⟩ : ∃ yd yx, cargs.toList = [yd, yx] ∧ ρ yd = d ∧ ρ yx = x := by
          match hc : cargs.toList, hx with
          | [y, z], hx => exact ⟨y, z, rfl, by simpa using hx⟩
        have e1 : cargs = #[yd, yx] := by apply Array.ext'; simp [hy]
        have e2 : ts = #[t, xt] := by apply Array.ext'; simp [hts]
        subst e1; subst e2
        rcases h with ⟨sz, ys, hsrc, hok, rfl⟩ | hraw
        rotate_left
        · refine ef_rawB hop (rawB.mono hk ?_)
          show rawB P .copy #[t, xt] [ρ yd, ρ yx] σ post
          rw [hyd, hyx]; exact hraw
        refine AOp.ofRun fun R w ev ha hs => ?_
        have hvd := ha yd; have hvx := ha yx
        rw [hyd] at hvd; rw [hyx] at hvx
        obtain ⟨cs, hex⟩ := exec_builtin (P := P) hop ev w
        have e4 : (#[yd, yx] : Array Operand).map ev = #[ev yd, ev yx] := by simp
        rw [e4] at hex
        unfold copyOk at hok
        split at hok
        · rename_i v z a n
          obtain ⟨rfl, E, l, hsz, hmem, hle⟩ := hok
          obtain ⟨σ1, σ2, rfl⟩ := List.append_of_mem hmem
          obtain ⟨i, ht, hi, his⟩ : ∃ i, P.underlying t = some (.slice E) ∧ P.info? E = some i ∧ i.size = z := by
            unfold szOf at hsz
            split at hsz
            · rename_i e hu
              cases hie : P.info? e with
              | none => rw [hie] at hsz; cases hsz
              | some i =>
                rw [hie] at hsz
                simp only [Option.map_some, Option.some.injEq, Prod.mk.injEq] at hsz
                obtain ⟨rfl, rfl⟩ := hsz
                exact ⟨i, hu, hie, rfl⟩
            · cases hsz
          obtain ⟨h1, news, h2, h3, h4, h5⟩ := src_pre (P := P) hs hvx hsrc (n := min ys.length n) (Nat.min_le_left _ _)
          have hszr : (sizeOf E).run P w = .ok z w := by simp [sizeOf, typeInfo, hi, his]
          have hyt : ∀ y ∈ ys.take (min ys.length n), y.cells.length = z := fun y hy => h5 y (List.mem_of_mem_take hy)
          have hlt : (ys.take (min ys.length n)).length = min ys.length n := by simp
          rcases hvd.sub_inv with ⟨hv0, ha0, hn0, hv⟩ | ⟨g, n0, cap, p, rfl, hcap, hp, hv⟩
          · subst ha0; subst hn0
            have hmin : min ys.length 0 = 0 := by simp
            refine ⟨.int .i64 ((min ys.length 0 : Nat) : Int), w, _, R, _, ?_, hk _ _ ⟨E, l, σ1, σ2, rfl, rfl, rfl⟩, .val _, by rw [hmin]; simpa using hs, by rw [hmin]; simpa using Ext.refl _ _ _⟩
            rw [hex, hv]
            simp [builtin, Builtin.copy_, run_underlying ht, h1, hszr, h2, goInt] at h2 ⊢
            simp [h2]
          · have hst : ∃ w', (storeCells p news).run P w = .ok () w' ∧ St R w' (σ1 ++ .row (.slice (some ⟨g, 0, none⟩) n0 cap) E z (l.take a ++ ys.take (min ys.length n) ++ l.drop (a + min ys.length n)) 0 :: σ2) ∧
                Ext R w (σ1 ++ .row (.slice (some ⟨g, 0, none⟩) n0 cap) E z l 0 :: σ2) R w' (σ1 ++ .row (.slice (some ⟨g, 0, none⟩) n0 cap) E z (l.take a ++ ys.take (min ys.length n) ++ l.drop (a + min ys.length n)) 0 :: σ2) := by
              by_cases h0 : min ys.length n = 0
              · rw [h0] at h3 ⊢
                have : news = [] := List.eq_nil_of_length_eq_zero (by rw [h3.1]; simp [flat])
                subst this
                exact ⟨w, rfl, by simpa using hs, by simpa using Ext.refl _ _ _⟩
              · rw [hp (by omega)]
                have := row_write (P := P) hs (a := a) h3 h4 hyt (by rw [hlt]; omega)
                rw [hlt] at this
                exact this
            obtain ⟨w', hst, g1, g2⟩ := hst
            refine ⟨.int .i64 ((min ys.length n : Nat) : Int), w', _, R, _, ?_, hk _ _ ⟨E, l, σ1, σ2, rfl, rfl, rfl⟩, .val _, g1, g2⟩
            rw [hex, hv]
            have hmin : Nat.min ys.length n = min ys.length n := rfl
            simp [builtin, Builtin.copy_, run_underlying ht, h1, hszr, hmin, h2, hst, goInt]
        · rename_i p n cap
          obtain ⟨hsp, rfl, E, tt, cs, hsz, hmem, hle, hone⟩ := hok
          obtain ⟨σ1, σ2, rfl⟩ := List.append_of_mem hmem
          obtain ⟨i, ht, hi, his⟩ : ∃ i, P.underlying t = some (.slice E) ∧ P.info? E = some i ∧ i.size = 1 := by
            unfold szOf at hsz
            split at hsz
            · rename_i e hu
              cases hie : P.info? e with
              | none => rw [hie] at hsz; cases hsz
              | some i =>
                rw [hie] at hsz
                simp only [Option.map_some, Option.some.injEq, Prod.mk.injEq] at hsz
                obtain ⟨rfl, h⟩ := hsz
                exact ⟨i, hu, hie, h⟩
            · cases hsz
          obtain ⟨h1, news, h2, h3, h4, h5⟩ := src_pre (P := P) hs hvx hsrc (n := min ys.length n) (Nat.min_le_left _ _)
          have hszr : (sizeOf E).run P w = .ok 1 w := by simp [sizeOf, typeInfo, hi, his]
          have hfl : flat (ys.take (min ys.length n)) = ys.take (min ys.length n) := flat_plain fun c hc => (hone c (List.mem_of_mem_take hc)).2
          rw [hfl] at h3
          have hnl : news.length = min ys.length n := by rw [h3.1]; simp
          obtain ⟨vs, hr, hvo, hb, _⟩ := var_cells hs (b := p.block) (t := tt) (cs := cs) (by simp)
          obtain ⟨pb, po, psp⟩ := p
          simp only at hsp hle hb hk hmem
          subst hsp
          have hvl := hr.1
          have hst := run_storeCells_at P pb po tt news 0 (List.toArray vs) w hb (by simp; omega) h4
          simp only [Nat.add_zero] at hst
          have hnew : VRs R (vs.take po ++ news ++ vs.drop (po + news.length)) (splice cs po (ys.take (min ys.length n))) := by
            have := ((hr.take po).append h3).append (hr.drop (po + news.length))
            unfold splice
            rw [← h3.1]
            exact this
          have hent : EntOk R (w.setRow pb (vs.take po ++ news ++ vs.drop (po + news.length)).toArray) (.var pb tt (splice cs po (ys.take (min ys.length n)))) := by
            refine ⟨⟨_, setRow_heap w pb _ _ _ _ hb, hnew, ?_⟩, (hs.ents (.var pb tt cs) (by simp)).2⟩
            intro v hv
            simp only [List.mem_append] at hv
            rcases hv with (hv | hv) | hv
            · exact hvo v (List.mem_of_mem_take hv)
            · exact h4 v hv
            · exact hvo v (List.mem_of_mem_drop hv)
          obtain ⟨g1, g2⟩ := st_change hs (e := .var pb tt cs) (e' := .var pb tt (splice cs po (ys.take (min ys.length n)))) (b := pb) rfl rfl (w' := w.setRow pb (vs.take po ++ news ++ vs.drop (po + news.length)).toArray) (by simp) (by simp) (by simp) (by simp)
            (fun k hk => setRow_other w pb k _ hk) (fun a v ha hab => absurd hab ((hs.ents (.var pb tt cs) (by simp)).2 a v ha)) hent
          refine ⟨.int .i64 ((min ys.length n : Nat) : Int), _, _, R, _, ?_, hk _ _ ⟨tt, cs, σ1, σ2, rfl, rfl, rfl⟩, .val _, g1, g2⟩
          have hv := hvd.val_inv
          rw [hex, hv]
          have hmin : Nat.min ys.length n = min ys.length n := rfl


          simp [builtin, Builtin.copy_, run_underlying ht, h1, hszr, hmin, h2, hst, goInt]
        · exact hok.elim
      · exact h.elim
    | value x => exact h.elim
    | invoke r m => exact h.elim
  · exact h.elim
end Go.Ab

/- A logic over abstract states (part 11b): the meaning of all operations. No program in sight. -/
set_option linter.unusedVariables false
set_option linter.unusedSimpArgs false
namespace Go.Ab
variable {P : Program}

/-! ### All of them -/
structure Mark where
  /-- calls (by the temporary that they write) of functions that are told by their arguments alone -/
  pf : Nat → Bool
  /-- literals of slices (likewise) that are rows of one's own -/
  ml : Nat → Bool
  /-- variables (likewise) that nobody writes into behind their making -/
  rv : Nat → Bool
  /-- loads (likewise) out of memory that turns no more -/
  fl : Nat → Bool
  /-- calls (likewise) that only look at memory of one's own -/
  rd : Nat → Bool
/-- A new variable that keeps what it has. -/
def aFreeze (cs : List AV) (u : AV) : Prop := (∀ c ∈ cs, c.one = true) ∧ u = .rptr cs
def marked (m : Nat → Bool) (d : Option Nat) : Bool := match d with
  | some d => m d
  | none => false
/-- A load out of memory that turns no more. -/
def loadF (ag : Bool) (s : Nat) (p u : AV) : Prop := match p with
  | .rptr cs => 0 < s ∧ (ag = false → s = 1) ∧ s ≤ cs.length ∧ u = mkV ag (cs.take s)
  | _ => False
def zOk (n s : Nat) (zs : List Value) : Bool := Nat.ble (n * s) 16777216 && zs.all Value.oneCell'

def semCls (M : Mark) (o : Oper) : Cls := match o.op with
  | .load _ _ => bif marked M.fl o.dst then .pure else .read
  | .lookup _ _ _ _ => .read
  | .entry _ => .read
  | .typeAssert _ _ _ _ => .pure
  | .move _ | .assign _ | .pick _ _ _ | .nilCheck _ | .extract _ _ | .field _ _ _ | .fieldAddr _ _ _ | .indexAddr _ _ _ | .index _ _ _ | .slice _ _ _ _ _ | .build _ _ | .binOp _ _ _ _ _ | .unOp _ _ _ | .makeInterface _ _ | .makeFunc _ _ _ | .convert _ _ _ => .pure
  | .buildSlice _ _ _ => bif marked M.ml o.dst then .eff else .pure
  | .box _ _ => bif marked M.rv o.dst then .pure else .eff
  | .alloc _ => bif marked M.rv o.dst then .pure else .eff
  | .call c => match c.callee with
    | .builtin b => match b with
      | .len => bif marked M.rd o.dst then .read else .pure
      | .min | .max | .cap => .pure
      | _ => .eff
    | .value _ => bif marked M.pf o.dst then .pure else bif marked M.rd o.dst then .read else .eff
    | _ => .eff
  | _ => .eff
def semPure (P : Program) (o : Oper) (ρ : Operand → AV) (u : AV) : Prop := match o.op with
  | .move x => u = ρ x
  | .assign x => u = ρ x
  | .pick c a b => aPick (ρ c) (ρ a) (ρ b) u
  | .nilCheck x => aNil (ρ x) u
  | .extract x i => aExt (ρ x) i u
  | .field t x i => match fieldOf P t i with
    | some (off, ag, s) => aField off ag s (ρ x) u
    | none => False
  | .fieldAddr t x i => match fieldOf P t i with
    | some (off, _, s) => aFieldAddr off s (ρ x) u
    | none => False
  | .indexAddr t x i => match elemOf P t with
    | some (c, _, s) => aIndexAddr c s (ρ x) (ρ i) u
    | none => False
  | .index t x i => match elemOf P t with
    | some (c, ag, s) => aIndex c ag s (ρ x) (ρ i) u
    | none => False
  | .slice t x lo hi mx => match elemOf P t with
    | some (c, _, s) => aSlice c s (ρ x) (lo.map ρ) (hi.map ρ) (mx.map ρ) u
    | none => False
  | .build t parts => match layoutOf P t with
    | some (zs, pl) => partsOne (parts.toList.map fun p => (p.1, ρ p.2)) ∧ aBuild (zs.map .val) (pl[·]?) (parts.toList.map fun p => (p.1, ρ p.2)) u
    | none => False
  | .buildSlice t n parts => match zeroOf P t with
    | some (_, zs, s) => bif zOk n s zs then partsOne (parts.toList.map fun p => (p.1, ρ p.2)) ∧ aBuildSl (mkE (zs.map .val)) s n (parts.toList.map fun p => (p.1, ρ p.2)) u ∧ (∀ l : List AV, u = .lst s l .full → ∀ c ∈ flat l, c.one = true) else False
    | none => False
  | .binOp op t x y _ => aBin P op t (ρ x) (ρ y) u
  | .unOp op _ x => aUn P op (ρ x) u
  | .makeInterface t x => bif P.concrete t then u = .ifc t (ρ x) else False
  | .makeFunc f a b => u = .fn f (a.toList.map ρ) (b.toList.map ρ)
  | .box _ x => aFreeze (ρ x).cells u
  | .alloc t => match zeroCells P t with
    | some zs => aFreeze (zs.map .val) u
    | none => False
  | .convert s d x => aConv P s d (ρ x) u
  | .call c => match c.callee with
    | .builtin b => aBuiltin P b c.argTypes (c.args.toList.map ρ) u
    | .value x => match calleeOf (ρ x) with
      | some (f, a, b) => aPureC P f (a ++ c.args.toList.map ρ ++ b) u
      | none => False
    | _ => False
  | .load t x => match shapeOf P t with
    | some (ag, s) => loadF ag s (ρ x) u
    | none => False
  | op => pureN P op (op.operands.toList.map ρ) u
def semRead (P : Program) (o : Oper) (ρ : Operand → AV) (σ : Store) (u : AV) : Prop := match o.op with
  | .load t x => match shapeOf P t with
    | some (ag, s) => loadA ag s (ρ x) σ u
    | none => False
  | op => readN P op (op.operands.toList.map ρ) σ u
def semEff (P : Program) (o : Oper) (ρ : Operand → AV) (σ : Store) (k kp : AV → Store → Prop) : Prop := match o.op with
  | .alloc t => match zeroCells P t with
    | some zs => aNewVar t (zs.map .val) σ k
    | none => False
  | .box t x => aNewVar t (ρ x).cells σ k
  | .store t x y => match shapeOf P t with
    | some (_, s) => storeA s (ρ x) (ρ y) σ k
    | none => False
  | .makeSlice t n c => match rowOf P t with
    | some (e, zs, s, b) => aMake e zs s b (ρ n) (ρ c) σ (subK k)
    | none => False
  | .buildSlice t n parts => match zeroOf P t with
    | some (e, zs, s) => bif zOk n s zs then partsOne (parts.toList.map fun p => (p.1, ρ p.2)) ∧ aRowLit e (mkE (zs.map .val)) s n (parts.toList.map fun p => (p.1, ρ p.2)) σ k else False
    | none => False
  | .panic x => (∃ t u, ρ x = .ifc t u) ∧ kp (ρ x) σ
  | .call c => match c.callee with
    | .builtin b => match b, c.args.toList, c.argTypes.toList with
      | .append, [d, x], [t, xt] => match rowOf P t with
        | some (e, _, s, b) => bif isStringOrSlice P xt then aAppend e s b (ρ d) (ρ x) σ (subK k) else rawB P .append #[t, xt] [ρ d, ρ x] σ k
        | none => False
      | _, _, _ => hookE P o.op (o.op.operands.toList.map ρ) σ k
    | .value x => match calleeOf (ρ x) with
      | some (f, a, b) => aCall P f (a ++ c.args.toList.map ρ ++ b) σ k kp
      | none => False
    | _ => hookE P o.op (o.op.operands.toList.map ρ) σ k
  | op => hookE P op (op.operands.toList.map ρ) σ k

end Go.Ab

/- A logic over abstract states (part 12): the meaning of all operations, proved. -/
set_option linter.unusedVariables false
set_option linter.unusedSimpArgs false
namespace Go.Ab
variable {P : Program}

theorem zOk_run {n s : Nat} {zs : List Value} (h : zOk n s zs = true) : n * s ≤ 16777216 ∧ ∀ v ∈ zs, v.oneCell' = true := by
  simp only [zOk, Bool.and_eq_true, List.all_eq_true] at h
  exact ⟨Nat.le_of_ble_eq_true h.1, h.2⟩
theorem mkE_vals {zs : List Value} (h : ∀ v ∈ zs, v.oneCell' = true) : (mkE (zs.map AV.val)).cells = zs.map .val := mkE_cells fun c hc => by
  simp only [List.mem_map] at hc
  obtain ⟨v, hv, rfl⟩ := hc
  exact h v hv

theorem freeze_at {R : RO} {w : World} {σ : Store} (hs : St R w σ) {vs : List Value} {cs : List AV} (hr : VRs R vs cs) (t : TypeId) :
    ∃ R', VR R' (.pointer (some ⟨w.heap.size, 0, none⟩)) (.rptr cs) ∧ St R' (w.alloc (.cells (List.toArray vs) t)) σ ∧ Ext R w σ R' (w.alloc (.cells (List.toArray vs) t)) σ := by
  obtain ⟨g1, g2⟩ := st_roNew hs (World.grownBy_alloc w (.cells (List.toArray vs) t) none)
  refine ⟨_, ?_, g1, g2⟩
  refine .rptr vs hr.1 (hr.mono g2.ro).2 fun j v hj => ?_
  rw [addr_lit_add, Nat.zero_add]
  unfold roNew
  rw [if_neg (by simp)]
  have := heap_alloc_new w (.cells (List.toArray vs) t)
  simp only [World.cell?, this]
  simpa using hj
theorem semPure_ok (o : Oper) (ρ : Operand → AV) (u : AV) (σ : Store) (k kp : AV → Store → Prop) (h : semPure P o ρ u) (hk : k u σ) : AOp P o ρ σ k kp := by
  unfold semPure at h
  have conv : ∀ {s : (Operand → Value) → Sem Next}, PRun P s ρ u → (∀ ev, execOp ev o = s ev) → AOp P o ρ σ k kp := fun hp he => PRun.aop (by
    intro R w ev σ ha hs
    obtain ⟨v, w', R', h1, h2⟩ := hp R w ev σ ha hs
    exact ⟨v, w', R', by simp only [he]; exact h1, h2⟩) hk
  cases hop : o.op with
  | move x => rw [hop] at h; subst h; exact conv (pr_move x) (fun ev => by unfold execOp; rw [hop])
  | assign x => rw [hop] at h; subst h; exact conv (pr_move x) (fun ev => by unfold execOp; rw [hop])
  | pick c a b => rw [hop] at h; exact conv (pr_pick h) (fun ev => by unfold execOp; rw [hop])
  | nilCheck x => rw [hop] at h; exact PRun.aop (pr_nil hop h) hk
  | extract x i => rw [hop] at h; exact conv (pr_ext h) (fun ev => by unfold execOp; rw [hop])
  | field t x i =>
    rw [hop] at h; simp only at h
    split at h
    · rename_i off ag s hf; exact conv (pr_field hf h) (fun ev => by unfold execOp; rw [hop])
    · exact h.elim
  | fieldAddr t x i =>
    rw [hop] at h; simp only at h
    split at h
    · rename_i off ag s hf; exact conv (pr_fieldAddr hf h) (fun ev => by unfold execOp; rw [hop])
    · exact h.elim
  | indexAddr t x i =>
    rw [hop] at h; simp only at h
    split at h
    · rename_i c ag s hf; exact conv (pr_indexAddr hf h) (fun ev => by unfold execOp; rw [hop])
    · exact h.elim
  | index t x i =>
    rw [hop] at h; simp only at h
    split at h
    · rename_i c ag s hf; exact conv (pr_index hf h) (fun ev => by unfold execOp; rw [hop])
    · exact h.elim
  | slice t x lo hi mx =>
    rw [hop] at h; simp only at h
    split at h
    · rename_i c ag s hf; exact conv (pr_slice hf h) (fun ev => by unfold execOp; rw [hop])
    · exact h.elim
  | build t parts =>
    rw [hop] at h; simp only at h
    split at h
    · rename_i zs pl hf; exact conv (pr_build hf h.1 h.2) (fun ev => by unfold execOp; rw [hop])
    · exact h.elim
  | buildSlice t n parts =>
    rw [hop] at h; simp only at h
    split at h
    · rename_i e zs s hf
      cases hz : zOk n s zs with
      | false => rw [hz] at h; exact h.elim
      | true =>
        rw [hz] at h
        obtain ⟨z1, z2⟩ := zOk_run hz
        exact conv (pr_buildSl hf z1 (mkE_vals z2) h.1 h.2.1 z2 h.2.2) (fun ev => by unfold execOp; rw [hop])
    · exact h.elim
  | box t x =>
    rw [hop] at h; simp only at h
    obtain ⟨h1, rfl⟩ := h
    refine AOp.ofRun fun R w ev ha hs => ?_
    have hr := cells_rel (ha x) h1
    obtain ⟨R', q1, q2, q3⟩ := freeze_at hs hr t
    exact ⟨_, _, _, R', σ, by simp [execOp, hop, Instr.box, newVar, newRow], hk, q1, q2, q3⟩
  | alloc t =>
    rw [hop] at h; simp only at h
    split at h
    · rename_i zs hz
      obtain ⟨h1, rfl⟩ := h
      refine AOp.ofRun fun R w ev ha hs => ?_
      unfold zeroCells at hz
      cases hi : P.info? t with
      | none => rw [hi] at hz; cases hz
      | some i =>
        rw [hi] at hz
        cases hiz : i.zero with
        | none => simp only [hiz] at hz; cases hz
        | some z =>
          simp only [hiz, Option.some.injEq] at hz
          obtain ⟨R', q1, q2, q3⟩ := freeze_at hs (VRs.ofVals R zs) t
          have hzc : z.cells = zs.toArray := by rw [← hz]
          exact ⟨_, _, _, R', σ, by simp [execOp, hop, Instr.alloc, zeroValue, typeInfo, hi, hiz, newVar, newRow, hzc], hk, q1, q2, q3⟩
    · exact h.elim
  | binOp op t x y ty => rw [hop] at h; exact PRun.aop (pr_bin hop h) hk
  | unOp op t x => rw [hop] at h; exact conv (pr_un (t := t) h) (fun ev => by unfold execOp; rw [hop])
  | makeInterface t x =>
    rw [hop] at h; simp only at h
    cases hc : P.concrete t with
    | false => rw [hc] at h; exact h.elim
    | true => rw [hc] at h; simp only [cond_true] at h; subst h; exact conv (pr_iface hc) (fun ev => by unfold execOp; rw [hop])
  | makeFunc f a b => rw [hop] at h; simp only at h; subst h; exact conv pr_func (fun ev => by unfold execOp; rw [hop])
  | convert s d x => rw [hop] at h; exact conv (pr_conv h) (fun ev => by unfold execOp; rw [hop])
  | call c =>
    rw [hop] at h; simp only at h
    obtain ⟨callee, args, ts⟩ := c
    cases callee with
    | builtin b => exact PRun.aop (pr_builtin hop h) hk
    | value x =>
      simp only at h
      split at h
      · rename_i f a b hc; exact pr_call hop hc hk h
      · exact h.elim
    | invoke r m => exact h.elim
  | load t x =>
    rw [hop] at h; simp only at h
    split at h
    · rename_i ag s hf
      refine rd_load hf ?_ hop hk
      unfold loadF at h
      split at h
      · rename_i cs e
        obtain ⟨h1, h2, h3, h4⟩ := h
        rw [e]
        exact ⟨h1, h2, h3, h4⟩
      · exact h.elim
    · exact h.elim
  | _ => exact pureN_ok o ρ u σ k kp (by rw [hop] at h ⊢; exact h) hk

theorem semRead_ok (o : Oper) (ρ : Operand → AV) (u : AV) (σ : Store) (k kp : AV → Store → Prop) (h : semRead P o ρ σ u) (hk : k u σ) : AOp P o ρ σ k kp := by
  unfold semRead at h
  split at h
  · rename_i t x hop
    split at h
    · rename_i ag s hf; exact rd_load hf h hop hk
    · exact h.elim
  · exact readN_ok o ρ u σ k kp h hk

theorem semEff_ok (o : Oper) (ρ : Operand → AV) (σ : Store) (k kp : AV → Store → Prop) (h : semEff P o ρ σ k kp) : AOp P o ρ σ k kp := by
  unfold semEff at h
  cases hop : o.op with
  | alloc t =>
    rw [hop] at h; simp only at h
    split at h
    · rename_i zs hf; exact ef_alloc hf hop h
    · exact h.elim
  | box t x => rw [hop] at h; exact ef_box hop h
  | store t x y =>
    rw [hop] at h; simp only at h
    split at h
    · rename_i ag s hf; exact ef_store hf hop h
    · exact h.elim
  | makeSlice t n c =>
    rw [hop] at h; simp only at h
    split at h
    · rename_i e zs s b hf; exact AOp.sub (ef_make hf hop h)
    · exact h.elim
  | buildSlice t n parts =>
    rw [hop] at h; simp only at h
    split at h
    · rename_i e zs s hf
      cases hz : zOk n s zs with
      | false => rw [hz] at h; exact h.elim
      | true =>
        rw [hz] at h
        obtain ⟨z1, z2⟩ := zOk_run hz
        exact ef_rowLit hf z1 (mkE_vals z2) h.1 hop h.2
    · exact h.elim
  | panic x => rw [hop] at h; exact ef_panic hop h.2 h.1
  | call c =>
    rw [hop] at h; simp only at h
    obtain ⟨callee, args, ts⟩ := c
    cases callee with
    | builtin b =>
      simp only at h
      split at h
      · rename_i d x t xt h1 h2
        have e1 : args = #[d, x] := by apply Array.ext'; simp [h1]
        have e2 : ts = #[t, xt] := by apply Array.ext'; simp [h2]
        subst e1; subst e2
        split at h
        · rename_i e zs s b hf
          cases hx : isStringOrSlice P xt with
          | false => rw [hx] at h; exact ef_rawB hop h
          | true => rw [hx] at h; exact AOp.sub (ef_append hf hx hop h)
        · exact h.elim
      · exact hookE_ok o ρ σ k kp (by rw [hop]; exact h)
    | value x =>
      simp only at h
      split at h
      · rename_i f a b hc; exact ef_call hop hc h
      · exact h.elim
    | invoke r m => exact hookE_ok o ρ σ k kp (by rw [hop]; exact h)
  | _ => exact hookE_ok o ρ σ k kp (by rw [hop] at h ⊢; exact h)

theorem semEff_mono (o : Oper) (ρ : Operand → AV) (σ : Store) (k k' kp : AV → Store → Prop) (hk : ∀ u σ', k u σ' → k' u σ') (h : semEff P o ρ σ k kp) : semEff P o ρ σ k' kp := by
  have nv : ∀ {t : TypeId} {cs : List AV}, aNewVar t cs σ k → aNewVar t cs σ k' := fun h => ⟨h.1, fun b hb => hk _ _ (h.2 b hb)⟩
  unfold semEff at h ⊢
  cases hop : o.op with
  | alloc t =>
    rw [hop] at h; simp only at h ⊢
    split at h
    · exact nv h
    · exact h.elim
  | box t x => rw [hop] at h; exact nv h
  | store t x y =>
    rw [hop] at h; simp only at h ⊢
    split at h
    · rename_i ag s hf
      unfold storeA at h ⊢
      obtain ⟨h1, h2, h3⟩ := h
      refine ⟨h1, h2, ?_⟩
      split at h3
      · obtain ⟨g1, σ1, σ2, t, cs, g2, g3, g4⟩ := h3; exact ⟨g1, σ1, σ2, t, cs, g2, g3, hk _ _ g4⟩
      · obtain ⟨σ1, σ2, E, l, fl, g1, g2, g3, g4, g5, g6⟩ := h3; exact ⟨σ1, σ2, E, l, fl, g1, g2, g3, g4, g5, hk _ _ g6⟩
      · exact h3.elim
    · exact h.elim
  | makeSlice t n c =>
    rw [hop] at h; simp only at h ⊢
    split at h
    · have hk := subK.mono hk
      unfold aMake at h ⊢
      split at h
      · obtain ⟨g1, g2, g3, g4, g5, g6⟩ := h; exact ⟨g1, g2, g3, g4, g5, fun v => hk _ _ (g6 v)⟩
      · exact h.elim
    · exact h.elim
  | buildSlice t n parts =>
    rw [hop] at h; simp only at h ⊢
    split at h
    · rename_i e zs s hf
      cases hz : zOk n s zs with
      | false => rw [hz] at h; exact h.elim
      | true =>
        rw [hz] at h
        obtain ⟨h0, l, g1, g2, g3, g4, g5⟩ := h
        exact ⟨h0, l, g1, g2, g3, g4, fun v => hk _ _ (g5 v)⟩
    · exact h.elim
  | panic x => rw [hop] at h; exact h
  | call c =>
    rw [hop] at h; simp only at h ⊢
    obtain ⟨callee, args, ts⟩ := c
    cases callee with
    | builtin b =>
      simp only at h ⊢
      split at h
      · rename_i d x t xt h1 h2
        split at h
        · rename_i e zs s b hf
          cases hx : isStringOrSlice P xt with
          | false => rw [hx] at h; exact rawB.mono hk h
          | true =>
            rw [hx] at h
            obtain ⟨ys, h1, h2, h3⟩ := h
            have hk := subK.mono hk
            refine ⟨ys, h1, h2, ?_⟩
            rcases h3 with ⟨z, l, m, g1, g2, g3⟩ | h3
            · exact .inl ⟨z, l, m, g1, g2, hk _ _ g3⟩
            refine .inr ?_
            split at h3
            · obtain ⟨σ1, σ2, l, fl, g1, g2, g3, g4⟩ := h3; exact ⟨σ1, σ2, l, fl, g1, g2, g3, fun v => hk _ _ (g4 v)⟩
            · obtain ⟨g1, g2, g3⟩ := h3; exact ⟨g1, g2, fun v => hk _ _ (g3 v)⟩
            · obtain ⟨g1, g2, g3⟩ := h3; exact ⟨g1, g2, fun v => hk _ _ (g3 v)⟩
            · obtain ⟨g0, g1, g2, g3, g4⟩ := h3; exact ⟨g0, g1, g2, g3, fun v => hk _ _ (g4 v)⟩
            · exact h3.elim
        · exact h.elim
      · exact hookE_mono hk h
    | value x =>
      simp only at h ⊢
      split at h
      · rcases h with ⟨σ1, args1, g1, g2⟩ | h
        · exact .inl ⟨σ1, args1, g1, g2.mono fun x σ' hx => by cases x with | ret u => exact hk _ _ hx | pan u => exact hx⟩
        · exact .inr (rawC.mono hk h)
      · exact h.elim
    | invoke r m => exact hookE_mono hk h
  | _ => rw [hop] at h; exact hookE_mono hk h

theorem map_on {ρ ρ' : Operand → AV} (l : List Operand) (h : ∀ x ∈ l, ρ x = ρ' x) : l.map ρ = l.map ρ' := List.map_congr_left h
theorem parts_on {ρ ρ' : Operand → AV} (l : List (Nat × Operand)) (h : ∀ x ∈ l.map (·.2), ρ x = ρ' x) : (l.map fun p => (p.1, ρ p.2)) = l.map fun p => (p.1, ρ' p.2) :=
  List.map_congr_left fun p hp => by rw [h p.2 (List.mem_map.2 ⟨p, hp, rfl⟩)]
theorem opt_on {ρ ρ' : Operand → AV} (l : Option Operand) (h : ∀ x, l = some x → ρ x = ρ' x) : l.map ρ = l.map ρ' := by
  cases l with
  | none => rfl
  | some x => simp [h x rfl]

theorem semPure_on (o : Oper) (ρ ρ' : Operand → AV) (u : AV) (h : ∀ x ∈ o.op.operands, ρ x = ρ' x) (hp : semPure P o ρ u) : semPure P o ρ' u := by
  unfold semPure at hp ⊢
  cases hop : o.op with
  | call c =>
    rw [hop] at h hp
    simp only at hp ⊢
    obtain ⟨callee, args, ts⟩ := c
    have ha : args.toList.map ρ = args.toList.map ρ' := map_on _ fun x hx => h x (by simp [Op.operands, Call.operands]; exact .inr (Array.mem_toList_iff.1 hx))
    cases callee with
    | builtin b => simp only at hp ⊢; rw [← ha]; exact hp
    | value x =>
      have hx : ρ x = ρ' x := h x (by simp [Op.operands, Call.operands])
      simp only at hp ⊢; rw [← ha, ← hx]; exact hp
    | invoke r m => exact hp
  | build t parts =>
    rw [hop] at h hp
    have := parts_on parts.toList fun x hx => h x (by simpa [Op.operands] using hx)
    simp only at hp ⊢; rw [← this]; exact hp
  | buildSlice t n parts =>
    rw [hop] at h hp
    have := parts_on parts.toList fun x hx => h x (by simpa [Op.operands] using hx)
    simp only at hp ⊢; rw [← this]; exact hp
  | makeFunc f a b =>
    rw [hop] at h hp
    have h1 := map_on a.toList fun x hx => h x (by simp [Op.operands]; exact .inl (Array.mem_toList_iff.1 hx))
    have h2 := map_on b.toList fun x hx => h x (by simp [Op.operands]; exact .inr (Array.mem_toList_iff.1 hx))
    simp only at hp ⊢; rw [← h1, ← h2]; exact hp
  | slice t x lo hi mx =>
    rw [hop] at h hp
    have h0 := h x (by simp [Op.operands])
    have h1 := opt_on lo fun y hy => h y (by simp [Op.operands, hy])
    have h2 := opt_on hi fun y hy => h y (by simp [Op.operands, hy])
    have h3 := opt_on mx fun y hy => h y (by simp [Op.operands, hy])
    simp only at hp ⊢; rw [← h0, ← h1, ← h2, ← h3]; exact hp
  | typeAssert x xt T ok =>
    rw [hop] at h hp
    have hm := map_on (Op.typeAssert x xt T ok).operands.toList fun x hx => h x (Array.mem_toList_iff.1 hx)
    simp only at hp ⊢
    rw [← hm]; exact hp
  | _ =>
    rw [hop] at h hp
    first
    | exact hp
    | (simp only [Op.operands, List.mem_cons, List.not_mem_nil, or_false, forall_eq_or_imp, forall_eq, List.mem_toArray] at h
       first
       | (obtain ⟨h1, h2, h3⟩ := h; simp only at hp ⊢; rw [← h1, ← h2, ← h3]; exact hp)
       | (obtain ⟨h1, h2⟩ := h; simp only at hp ⊢; rw [← h1, ← h2]; exact hp)
       | (simp only at hp ⊢; rw [← h]; exact hp))

theorem semRead_on (o : Oper) (ρ ρ' : Operand → AV) (σ : Store) (u : AV) (h : ∀ x ∈ o.op.operands, ρ x = ρ' x) (hp : semRead P o ρ σ u) : semRead P o ρ' σ u := by
  unfold semRead at hp ⊢
  cases hop : o.op with
  | load t x =>
    rw [hop] at h hp
    have h0 := h x (by simp [Op.operands])
    simp only at hp ⊢; rw [← h0]; exact hp
  | _ =>
    rw [hop] at h hp
    simp only at hp ⊢
    rw [← map_on _ fun x hx => h x (Array.mem_toList_iff.1 hx)]; exact hp

theorem semEff_on (o : Oper) (ρ ρ' : Operand → AV) (σ : Store) (k kp : AV → Store → Prop) (h : ∀ x ∈ o.op.operands, ρ x = ρ' x) (hp : semEff P o ρ σ k kp) : semEff P o ρ' σ k kp := by
  unfold semEff at hp ⊢
  cases hop : o.op with
  | call c =>
    rw [hop] at h hp
    simp only at hp ⊢
    obtain ⟨callee, args, ts⟩ := c
    have ha : args.toList.map ρ = args.toList.map ρ' := map_on _ fun x hx => h x (by simp [Op.operands, Call.operands]; exact .inr (Array.mem_toList_iff.1 hx))
    cases callee with
    | builtin b =>
      simp only at hp ⊢
      split at hp
      · rename_i d x t xt h1 h2
        have hd : ρ d = ρ' d := h d (by simp [Op.operands, Call.operands]; exact Array.mem_toList_iff.1 (by rw [h1]; simp))
        have hx : ρ x = ρ' x := h x (by simp [Op.operands, Call.operands]; exact Array.mem_toList_iff.1 (by rw [h1]; simp))
        rw [← hd, ← hx]; exact hp
      · rw [← map_on _ fun x hx => h x (Array.mem_toList_iff.1 hx)]; exact hp
    | value x =>
      have hx : ρ x = ρ' x := h x (by simp [Op.operands, Call.operands])
      simp only at hp ⊢; rw [← ha, ← hx]; exact hp
    | invoke r m =>
      simp only at hp ⊢
      rw [← map_on _ fun x hx => h x (Array.mem_toList_iff.1 hx)]; exact hp
  | buildSlice t n parts =>
    rw [hop] at h hp
    have := parts_on parts.toList fun x hx => h x (by simpa [Op.operands] using hx)
    simp only at hp ⊢; rw [← this]; exact hp
  | _ =>
    rw [hop] at h hp
    first
    | exact hp
    | (simp only [Op.operands, List.mem_cons, List.not_mem_nil, or_false, forall_eq_or_imp, forall_eq, List.mem_toArray] at h
       first
       | (obtain ⟨h1, h2⟩ := h; simp only at hp ⊢; rw [← h1, ← h2]; exact hp)
       | (simp only at hp ⊢; rw [← h]; exact hp))
    | (simp only at hp ⊢; rw [← map_on _ fun x hx => h x (Array.mem_toList_iff.1 hx)]; exact hp)

/-- What is told at once. -/
def semFn (P : Program) (o : Oper) (ρ : Operand → AV) : Option AV := match o.op with
  | .move x => some (ρ x)
  | .assign x => some (ρ x)
  | .makeFunc f a b => some (.fn f (a.toList.map ρ) (b.toList.map ρ))
  | .makeInterface t x => bif P.concrete t then some (.ifc t (ρ x)) else none
  | _ => none
theorem semFn_ok (M : Mark) (o : Oper) (ρ : Operand → AV) (u : AV) (h : semFn P o ρ = some u) : semCls M o = .pure ∧ semPure P o ρ u := by
  unfold semFn at h
  unfold semCls semPure
  split at h
  · rename_i x hop; rw [hop]; exact ⟨rfl, (Option.some.inj h).symm⟩
  · rename_i x hop; rw [hop]; exact ⟨rfl, (Option.some.inj h).symm⟩
  · rename_i f a b hop; rw [hop]; exact ⟨rfl, (Option.some.inj h).symm⟩
  · rename_i t x hop
    rw [hop]
    cases hc : P.concrete t with
    | false => rw [hc] at h; cases h
    | true => rw [hc] at h; simp only [hc, cond_true]; exact ⟨trivial, (Option.some.inj h).symm⟩
  · cases h
/-- The meaning of operations. -/
def semOf (P : Program) (M : Mark) : Sem' P where
  cls := semCls M
  pure := semPure P
  read := semRead P
  eff := semEff P
  pureOk := semPure_ok
  readOk := semRead_ok
  effOk := semEff_ok
  mono := semEff_mono
  pureOn := semPure_on
  readOn := semRead_on
  effOn := semEff_on
  fn := semFn P
  fnOk := semFn_ok M

end Go.Ab

/- A logic over abstract states (part 13): the words in which a function's condition is printed. -/
set_option linter.unusedVariables false
set_option linter.unusedSimpArgs false
namespace Go.Ab

/-- What an operation under a guard gives. -/
def aGuard (g : AV) (want : Bool) (X : AV → Prop) (u : AV) : Prop := ∃ t, wantedA g want = some t ∧ if t = true then X u else u = .val Go.undef
/-- Calls of function values. -/
def aCallV (P : Program) (x : AV) (args : List AV) (σ : Store) (k kp : AV → Store → Prop) : Prop := match calleeOf x with
  | some (f, a, b) => aCall P f (a ++ args ++ b) σ k kp
  | none => False
def aPureV (P : Program) (x : AV) (args : List AV) (u : AV) : Prop := match calleeOf x with
  | some (f, a, b) => aPureC P f (a ++ args ++ b) u
  | none => False
def aConvBS (x u : AV) : Prop := match x with
  | .lst _ l _ => ∃ bs : List UInt8, l = bs.map byt ∧ u = .val (.string ⟨bs.toArray⟩)
  | _ => False
def aConvN (s d : TypeId) (x u : AV) (P : Program) : Prop := match x with
  | .val a => ∃ v, u = .val v ∧ ∀ w : World, (convert s d a).run P w = .ok v w
  | _ => False
def aSlLit (z : AV) (s n : Nat) (parts : List (Nat × AV)) (u : AV) : Prop := partsOne parts ∧ aBuildSl z s n parts u ∧ (∀ l : List AV, u = .lst s l .full → ∀ c ∈ flat l, c.one = true)
def aLit (zs : List AV) (pl : List (Nat × Nat)) (parts : List (Nat × AV)) (u : AV) : Prop := partsOne parts ∧ aBuild zs (pl[·]?) parts u
def aRowL (E : TypeId) (z : AV) (s n : Nat) (parts : List (Nat × AV)) (σ : Store) (k : AV → Store → Prop) : Prop := partsOne parts ∧ aRowLit E z s n parts σ k
/-- A function's code. -/
def bodyOf (fn : Func) : Code := fn.body.getD .skip
theorem load_at {P : Program} {R : RO} {w : World} {σ : Store} (hs : St R w σ) {t : TypeId} {ag : Bool} {s : Nat} (hsh : shapeOf P t = some (ag, s)) {p u : AV} (h : loadA ag s p σ u) {v : Value} (hx : VR R v p) :
    ∃ a x, v = .pointer (some a) ∧ (loadVar t a).run P w = .ok x w ∧ VR R x u := by
  obtain ⟨hs0, hag, h⟩ := h
  have fin : ∀ (a : Addr) (vs : List Value) (cs : List AV), v = .pointer (some a) → VRs R vs cs → cs.length = s → u = mkV ag cs → (∀ (j : Nat) (v : Value), vs[j]? = some v → w.cell? (a.add j) = some v) →
      ∃ a x, v = .pointer (some a) ∧ (loadVar t a).run P w = .ok x w ∧ VR R x u := by
    intro a vs cs hv hr hl hu hc
    exact ⟨a, mkC ag vs, hv, load_run hsh hc (hr.1.trans hl) hag, by rw [hu]; exact mkV_rel hr ag⟩
  split at h
  · rename_i cs
    obtain ⟨a, vs, hv, hr, hR⟩ := hx.rptr_inv
    have hh := cells_at (w := w) (a := a) (vs := vs) (fun j v hj => hs.ro _ _ (hR j v hj)) 0 s
    rw [addr_add_zero, List.drop_zero] at hh
    exact fin a _ _ hv (hr.take s) (by rw [List.length_take]; omega) h.2 hh
  · rename_i a
    obtain ⟨hsp, t', cs, hm, hl, hu⟩ := h
    obtain ⟨vs, hr, _, _, hc⟩ := var_cells hs hm
    obtain ⟨b, off, sp⟩ := a
    simp only at hsp hl hu hm hc
    subst hsp
    have hh := cells_at hc off s
    rw [addr_lit_add, Nat.zero_add] at hh
    exact fin _ _ _ hx.val_inv ((hr.drop off).take s) (by rw [List.length_take, List.length_drop]; omega) hu hh
  · rename_i v' sz i j
    obtain ⟨E, l, fl, hm, hi, hj, hu⟩ := h
    obtain ⟨g, n, cap, hv, he⟩ := VR.eptr_inv hx
    obtain ⟨vs, hr, _, _, hsz0, hsz, hc⟩ := row_cells hs hm
    have hh := cells_at (hc g n cap hv) (i * sz) sz
    have hr' := (hr.drop (i * sz)).take sz
    rw [flat_get hsz i hi] at hr'
    have hh2 := cells_at hh j s
    rw [addr_lit_add, addr_lit_add, Nat.zero_add] at hh2
    have hlen : (l.getD i .undef).cells.length = sz := by
      have hmem : l.getD i .undef ∈ l := by rw [List.getD_eq_getElem?_getD, List.getElem?_eq_getElem hi]; exact List.getElem_mem _
      exact hsz _ hmem
    exact fin _ _ _ he ((hr'.drop j).take s) (by rw [List.length_take, List.length_drop, hlen]; omega) hu hh2
  · exact h.elim

/-! ### What a function hands back, variables among it -/
inductive RS where
  | tmp (t : Nat) | cell (a : Nat) (ag : Bool) (s : Nat)
def resOf (P : Program) : List ResultVar → Option (List RS)
  | [] => some []
  | .tmp t :: rs => (resOf P rs).map (.tmp t :: ·)
  | .cell a t :: rs => match shapeOf P t with
    | some (ag, s) => (resOf P rs).map (.cell a ag s :: ·)
    | none => none
def resVs (fr : Fr) (σ : Store) : List RS → (List AV → Prop) → Prop
  | [], k => k []
  | .tmp t :: rs, k => resVs fr σ rs fun us => k (fr t :: us)
  | .cell a ag s :: rs, k => ∃ u, loadA ag s (fr a) σ u ∧ resVs fr σ rs fun us => k (u :: us)
def oneA : List AV → AV
  | [u] => u
  | us => .tuple us
theorem asAddr_run {P : Program} (a : Addr) (w : World) : (asAddr (.pointer (some a))).run P w = .ok a w := by simp [asAddr]
theorem resVs_run {P : Program} {R : RO} {w : World} {σ : Store} (hs : St R w σ) {tmps : Array Value} {fr : Fr} (hf : ∀ t, VR R (tmps.getD t Go.undef) (fr t)) (g : ResultVar → Sem Value)
    (hg1 : ∀ t, g (.tmp t) = pure (tmps.getD t Go.undef)) (hg2 : ∀ a t, g (.cell a t) = (asAddr (tmps.getD a Go.undef) >>= fun x => loadVar t x)) :
    ∀ (rs : List ResultVar) (l : List RS), resOf P rs = some l → ∀ k : List AV → Prop, resVs fr σ l k → ∃ vs us, (rs.mapM g).run P w = .ok vs w ∧ VRs R vs us ∧ k us := by
  intro rs
  induction rs with
  | nil => intro l hl k hk; simp [resOf] at hl; subst hl; exact ⟨[], [], by simp, VRs.nil R, hk⟩
  | cons r rs ih =>
    intro l hl k hk
    cases r with
    | tmp t =>
      simp only [resOf, Option.map_eq_some_iff] at hl
      obtain ⟨l', hl', rfl⟩ := hl
      obtain ⟨vs, us, h1, h2, h3⟩ := ih l' hl' _ hk
      exact ⟨_ :: vs, _ :: us, by simp only [List.mapM_cons, hg1, Sem.run_bind, Sem.run_pure, Result.andThen_ok, h1], VRs.cons (hf t) h2, h3⟩
    | cell a t =>
      simp only [resOf] at hl
      split at hl
      · rename_i ag s hsh
        simp only [Option.map_eq_some_iff] at hl
        obtain ⟨l', hl', rfl⟩ := hl
        obtain ⟨u, hu, hk⟩ := hk
        obtain ⟨ad, x, e1, e2, e3⟩ := load_at hs hsh hu (hf a)
        obtain ⟨vs, us, h1, h2, h3⟩ := ih l' hl' _ hk
        refine ⟨x :: vs, u :: us, ?_, VRs.cons e3 h2, h3⟩
        simp only [List.mapM_cons, hg2, e1, Sem.run_bind, asAddr_run, Sem.run_pure, Result.andThen_ok, e2, h1]
      · cases hl

def resG (tmps : Array Value) : ResultVar → Sem Value
  | .tmp t => pure (tmps.getD t Go.undef)
  | .cell a t => do loadVar t (← asAddr (tmps.getD a Go.undef))
theorem results_eq (fn : Func) (tmps : Array Value) : results fn tmps = (fn.results.mapM (resG tmps) >>= fun vs => pure (if h : vs.size = 1 then vs[0] else .tuple vs)) := by
  unfold results
  congr 1
/-- What is left at a function's end. -/
def endK (l : List RS) (Q : AEnd → Store → Prop) : AX → Fr → Store → Prop := fun x fr σ => match x with
  | .norm => resVs fr σ l fun us => Q (.ret (oneA us)) σ
  | .ret => resVs fr σ l fun us => Q (.ret (oneA us)) σ
  | .pan u => Q (.pan u) σ
  | .exit _ => False
theorem acalls_of_eq {P : Program} {S : Sem' P} {A : Ann} {f : FuncId} {fn : Func} {args : List AV} {σ : Store} {Q : AEnd → Store → Prop} (l : List RS) {X : Prop}
    (hf : P.funcs[f]? = some fn) (hb : fn.body = some (bodyOf fn)) (hn : (fn.name == "runtime.NumGoroutine") = false) (hN : Nat.ble args.length fn.ntmps = true) (hr : resOf P fn.results.toList = some l)
    (he : vc S fn.ntmps A (bodyOf fn) (endK l Q) (argFr args) σ = X) (h : X) : ACalls P f args σ Q := by
  rw [← he] at h
  refine ⟨⟨fn, _, hf, hb, hn⟩, fun R w vs hv hs => calls_of_wp hf hb ?_⟩
  refine vc_sound (D := []) _ h (calls_args hv _ (Nat.le_of_ble_eq_true hN)) hs ?_
  have fin : ∀ {a' : Act} {w' : World} {fr' : Fr} {σ' : Store} {R' : RO}, resVs fr' σ' l (fun us => Q (.ret (oneA us)) σ') → ActR R' fn.ntmps [] a' fr' → St R' w' σ' → Ext R w σ R' w' σ' →
      a'.defers = [] ∧ ∃ v, (results fn a'.tmps).run P w' = .ok v w' ∧ ∃ x R' σ', EndR R' (.returned v) x ∧ Q x σ' ∧ St R' w' σ' ∧ Ext R w σ R' w' σ' := by
    intro a' w' fr' σ' R' hq ha hs hx
    obtain ⟨vs, us, h1, h2, h3⟩ := resVs_run hs ha.tmps (resG a'.tmps) (fun t => rfl) (fun a t => rfl) _ _ hr _ hq
    refine ⟨ha.defers, (if h : vs.toArray.size = 1 then vs.toArray[0] else .tuple vs.toArray), ?_, .ret (oneA us), R', σ', ?_, h3, hs, hx⟩
    · rw [results_eq]
      rw [Array.mapM_eq_mapM_toList]
      simp only [Sem.run_bind, Sem.run_map]
      rw [h1]
      simp only [Result.andThen_ok, Sem.run_pure]
    · show VR R' _ _
      have gen := VR.tuple' h2
      cases us with
      | nil => cases vs with
        | nil => exact gen
        | cons v vs => have := h2.1; simp at this
      | cons u us => cases vs with
        | nil => have := h2.1; simp at this
        | cons v vs => cases us with
          | nil => cases vs with
            | nil => exact h2.2 0 u v rfl rfl
            | cons _ _ => have := h2.1; simp at this
          | cons _ _ => cases vs with
            | nil => have := h2.1; simp at this
            | cons _ _ => simpa [oneA] using gen
  rintro e a' w' ⟨x, fr', σ', R', h1, h2, h3, h4, h5⟩
  cases e with
  | normal =>
    cases x with
    | norm => exact fin h2 h3 h4 h5
    | _ => exact h1.elim
  | ret =>
    cases x with
    | ret => exact fin h2 h3 h4 h5
    | _ => exact h1.elim
  | panic ch =>
    cases x with
    | pan u => exact ⟨h3.defers, .pan u, R', σ', h1, h2, h4, h5⟩
    | _ => exact h1.elim
  | exit i =>
    cases x with
    | exit j => exact h2.elim
    | _ => exact h1.elim
  | goto i => cases x <;> exact h1.elim
  | outgrown => cases x <;> exact h1.elim

end Go.Ab

/- A logic over abstract states (part 14): what operations give on plain numbers, truth values and texts. -/
set_option linter.unusedVariables false
set_option linter.unusedSimpArgs false
namespace Go.Ab
variable {P : Program}

abbrev I (k : IntKind) (n : Int) : AV := .val (.int k n)
abbrev B (b : Bool) : AV := .val (.bool b)
abbrev S (l : List UInt8) : AV := .val (.string ⟨l.toArray⟩)

def world0 : World := { heap := #[], os := default, tape := default, output := default, drawn := 0 }
theorem aBin_plain {op : BinOp} {t : TypeId} {x y : AV} {a b v : Value} {u : AV} (hx : plainV x = some a) (hy : plainV y = some b) (h : ∀ (xo yo : Operand) (w : World), (do eqGuard op t xo yo a b; binOp op t a b : Sem Value).run P w = .ok v w) : aBin P op t x y u ↔ u = .val v := by
  unfold aBin
  rw [hx, hy]
  constructor
  · rintro ⟨v', hu, hr⟩
    have h1 := hr (.tmp 0) (.tmp 0) world0
    have h2 := h (.tmp 0) (.tmp 0) world0
    rw [h1] at h2
    cases h2
    exact hu
  · intro hu
    exact ⟨v, hu, h⟩
theorem aBin_val {op : BinOp} {t : TypeId} {a b v : Value} {u : AV} (h : ∀ (xo yo : Operand) (w : World), (do eqGuard op t xo yo a b; binOp op t a b : Sem Value).run P w = .ok v w) : aBin P op t (.val a) (.val b) u ↔ u = .val v := aBin_plain rfl rfl h

/-! ### Numbers -/
theorem r_add {t : TypeId} {k : IntKind} {x y : Int} {u : AV} : aBin P .add t (.val (.int k x)) (.val (.int k y)) u ↔ u = .val (.int k (k.wrap (x + y))) := aBin_val fun _ _ w => by simp [eqGuard, binOp, Op.intArith]
theorem r_sub {t : TypeId} {k : IntKind} {x y : Int} {u : AV} : aBin P .sub t (.val (.int k x)) (.val (.int k y)) u ↔ u = .val (.int k (k.wrap (x - y))) := aBin_val fun _ _ w => by simp [eqGuard, binOp, Op.intArith]
theorem r_mul {t : TypeId} {k : IntKind} {x y : Int} {u : AV} : aBin P .mul t (.val (.int k x)) (.val (.int k y)) u ↔ u = .val (.int k (k.wrap (x * y))) := aBin_val fun _ _ w => by simp [eqGuard, binOp, Op.intArith]
theorem r_rem {t : TypeId} {k : IntKind} {x y : Int} {u : AV} (h : y ≠ 0) : aBin P .rem t (.val (.int k x)) (.val (.int k y)) u ↔ u = .val (.int k (x.tmod y)) := aBin_val fun _ _ w => by simp [eqGuard, binOp, Op.intDiv, h]
theorem r_eql {t : TypeId} {k : IntKind} {x y : Int} {u : AV} : aBin P .eql t (.val (.int k x)) (.val (.int k y)) u ↔ u = .val (.bool (decide (x = y))) := aBin_val fun _ _ w => by simp [eqGuard, binOp, Op.intCmp]; rfl
theorem r_neq {t : TypeId} {k : IntKind} {x y : Int} {u : AV} : aBin P .neq t (.val (.int k x)) (.val (.int k y)) u ↔ u = .val (.bool (decide (x ≠ y))) := aBin_val fun _ _ w => by simp [eqGuard, binOp, Op.intCmp, bne]; rfl
theorem r_lss {t : TypeId} {k : IntKind} {x y : Int} {u : AV} : aBin P .lss t (.val (.int k x)) (.val (.int k y)) u ↔ u = .val (.bool (decide (x < y))) := aBin_val fun _ _ w => by simp [eqGuard, binOp, Op.intCmp]
theorem r_leq {t : TypeId} {k : IntKind} {x y : Int} {u : AV} : aBin P .leq t (.val (.int k x)) (.val (.int k y)) u ↔ u = .val (.bool (decide (x ≤ y))) := aBin_val fun _ _ w => by simp [eqGuard, binOp, Op.intCmp]
theorem r_gtr {t : TypeId} {k : IntKind} {x y : Int} {u : AV} : aBin P .gtr t (.val (.int k x)) (.val (.int k y)) u ↔ u = .val (.bool (decide (y < x))) := aBin_val fun _ _ w => by simp [eqGuard, binOp, Op.intCmp]
theorem r_geq {t : TypeId} {k : IntKind} {x y : Int} {u : AV} : aBin P .geq t (.val (.int k x)) (.val (.int k y)) u ↔ u = .val (.bool (decide (y ≤ x))) := aBin_val fun _ _ w => by simp [eqGuard, binOp, Op.intCmp]
theorem r_shl {t : TypeId} {k k' : IntKind} {x y : Int} {u : AV} (h : 0 ≤ y) : aBin P .shl t (.val (.int k x)) (.val (.int k' y)) u ↔ u = .val (.int k (k.wrap (x * 2 ^ (min y.toNat k.bits)))) := aBin_val fun _ _ w => by
  have : ¬ y < 0 := by omega
  simp [eqGuard, binOp, Op.shift, this]
theorem r_shr {t : TypeId} {k k' : IntKind} {x y : Int} {u : AV} (h : 0 ≤ y) : aBin P .shr t (.val (.int k x)) (.val (.int k' y)) u ↔ u = .val (.int k (x.fdiv (2 ^ (min y.toNat k.bits)))) := aBin_val fun _ _ w => by
  have : ¬ y < 0 := by omega
  simp [eqGuard, binOp, Op.shift, this]
theorem r_conv {s d : TypeId} {k k' : IntKind} {x : Int} {u : AV} (hd : P.underlying d = some (.int k')) (hs : P.underlying s = some (.int k)) : aConvN s d (.val (.int k x)) u P ↔ u = .val (.int k' (k'.wrap x)) := by
  have run : ∀ w : World, (convert s d (.int k x)).run P w = .ok (.int k' (k'.wrap x)) w := by
    intro w
    simp [convert, run_underlying hd, run_underlying hs, Conv.intToInt]
  unfold aConvN
  constructor
  · rintro ⟨v, hu, hr⟩
    have := hr world0
    rw [run] at this
    cases this
    exact hu
  · intro hu; exact ⟨_, hu, run⟩

theorem wrap_i64 {x : Int} (h1 : -9223372036854775808 ≤ x) (h2 : x ≤ 9223372036854775807) : IntKind.wrap .i64 x = x := by
  simp only [IntKind.wrap, IntKind.bits, IntKind.signed]
  simp
  split <;> omega
theorem wrap_u8' (x : Int) : IntKind.wrap .u8 x = x % 256 := by simp only [IntKind.wrap, IntKind.bits, IntKind.signed]; simp
theorem wrap_u32' (x : Int) : IntKind.wrap .u32 x = x % 4294967296 := by simp only [IntKind.wrap, IntKind.bits, IntKind.signed]; simp
theorem wrap_u64' (x : Int) : IntKind.wrap .u64 x = x % 18446744073709551616 := by simp only [IntKind.wrap, IntKind.bits, IntKind.signed]; simp

/-! ### Truth values -/
theorem r_not {b : Bool} {u : AV} : aUn P .not (.val (.bool b)) u ↔ u = .val (.bool (!b)) := by
  unfold aUn
  constructor
  · rintro ⟨v, hu, hr⟩
    have := hr world0
    simp [Op.unary] at this
    rw [hu, this]
  · intro hu; exact ⟨_, hu, fun w => by simp [Op.unary]⟩
theorem r_guard {b w : Bool} {X : AV → Prop} {u : AV} : aGuard (.val (.bool b)) w X u ↔ if b = w then X u else u = .val Go.undef := by
  unfold aGuard wantedA
  cases b <;> cases w <;> simp
theorem ex_guard {b w : Bool} {X K : AV → Prop} : (∃ u, aGuard (.val (.bool b)) w X u ∧ K u) ↔ (b = w → ∃ u, X u ∧ K u) ∧ (b = !w → K (.val Go.undef)) := by
  simp only [r_guard]
  cases b <;> cases w <;> simp
theorem ex_guardU {w : Bool} {X K : AV → Prop} (hK : K (.val Go.undef)) : ∃ u, aGuard (.val Go.undef) w X u ∧ K u := ⟨.val Go.undef, ⟨false, rfl, rfl⟩, hK⟩
theorem r_cond {b : Bool} {x y : Prop} : aCond (.val (.bool b)) x y ↔ (b = true → x) ∧ (b = false → y) := by
  unfold aCond
  cases b <;> simp
/-! ### Texts -/
theorem ba_size (l : List UInt8) : (ByteArray.mk l.toArray).size = l.length := by
  show l.toArray.size = _; simp
theorem bdec (a b : List UInt8) : (a == b) = decide (a = b) := by by_cases h : a = b <;> simp [h]
theorem r_s_eql {t : TypeId} {a b : List UInt8} {u : AV} : aBin P .eql t (.val (.string ⟨a.toArray⟩)) (.val (.string ⟨b.toArray⟩)) u ↔ u = .val (.bool (decide (a = b))) := aBin_val fun _ _ w => by simp [eqGuard, binOp, Op.stringOp, bdec, bne]
theorem r_s_neq {t : TypeId} {a b : List UInt8} {u : AV} : aBin P .neq t (.val (.string ⟨a.toArray⟩)) (.val (.string ⟨b.toArray⟩)) u ↔ u = .val (.bool (decide (a ≠ b))) := aBin_val fun _ _ w => by simp [eqGuard, binOp, Op.stringOp, bdec, bne]
theorem r_s_lss {t : TypeId} {a b : List UInt8} {u : AV} : aBin P .lss t (.val (.string ⟨a.toArray⟩)) (.val (.string ⟨b.toArray⟩)) u ↔ u = .val (.bool (Op.bytesLess a b)) := aBin_val fun _ _ w => by simp [eqGuard, binOp, Op.stringOp]
theorem r_s_geq {t : TypeId} {a b : List UInt8} {u : AV} : aBin P .geq t (.val (.string ⟨a.toArray⟩)) (.val (.string ⟨b.toArray⟩)) u ↔ u = .val (.bool (!Op.bytesLess a b)) := aBin_val fun _ _ w => by simp [eqGuard, binOp, Op.stringOp]
theorem r_s_leq {t : TypeId} {a b : List UInt8} {u : AV} : aBin P .leq t (.val (.string ⟨a.toArray⟩)) (.val (.string ⟨b.toArray⟩)) u ↔ u = .val (.bool (Op.bytesLess a b || decide (a = b))) := aBin_val fun _ _ w => by simp [eqGuard, binOp, Op.stringOp, bdec, bne]
theorem r_s_gtr {t : TypeId} {a b : List UInt8} {u : AV} : aBin P .gtr t (.val (.string ⟨a.toArray⟩)) (.val (.string ⟨b.toArray⟩)) u ↔ u = .val (.bool (!(Op.bytesLess a b || decide (a = b)))) := aBin_val fun _ _ w => by simp [eqGuard, binOp, Op.stringOp, bdec, bne]
def isSl (P : Program) (t : TypeId) : Bool := match P.underlying t with
  | some (.slice _) => true
  | _ => false
theorem isSl_run {t : TypeId} (h : isSl P t = true) : ∃ d, P.underlying t = some (.slice d) := by
  unfold isSl at h
  split at h
  · rename_i d hd; exact ⟨d, hd⟩
  · cases h
theorem r_len_lst {t : TypeId} (h : isSl P t = true) {z : Nat} {l : List AV} {m : SM} {u : AV} : aBuiltin P .len #[t] [.lst z l m] u ↔ u = .val (.int .i64 l.length) := by
  unfold aBuiltin
  exact ⟨fun h => h.2, fun hu => ⟨⟨t, rfl, isSl_run h⟩, hu⟩⟩
theorem r_len_own {t : TypeId} (h : isSl P t = true) {v : Value} {n : Nat} {u : AV} : aBuiltin P .len #[t] [.own v n] u ↔ u = .val (.int .i64 n) := by
  unfold aBuiltin
  exact ⟨fun h => h.2, fun hu => ⟨⟨t, rfl, isSl_run h⟩, hu⟩⟩
def isLmm : Builtin → Prop
  | .len | .min | .max | .cap => True
  | _ => False
theorem isLmm_match : ∀ b : Builtin, isLmm b → (match b with | .len | .min | .max | .cap => True | _ => False : Prop) := fun b hb => by cases b <;> first | trivial | exact hb.elim
theorem aBuiltin_vals {b : Builtin} {ts : Array TypeId} {vs : List Value} {v : Value} {u : AV} (hb : isLmm b) (h : ∀ (ty : TypeId) (cs : Array Bool) (w : World), (builtin b ts ty cs vs.toArray).run P w = .ok (.value v) w) :
    aBuiltin P b ts (vs.map .val) u ↔ u = .val v := by
  have ha : ∀ vs : List Value, allVals (vs.map .val) = some vs := by
    intro vs
    induction vs with
    | nil => rfl
    | cons v vs ih => simp [allVals, ih]
  unfold aBuiltin
  split
  · rename_i h1; cases vs <;> simp at h1
  · rename_i h1; cases vs <;> simp at h1
  · rename_i h1; cases vs <;> simp at h1
  · rename_i h1; cases vs <;> simp at h1
  · rename_i h1; cases vs <;> simp at h1
  · constructor
    · rintro ⟨_, vs', v', h1, h2, h3⟩
      rw [ha] at h1
      cases h1
      have h4 := h3 0 #[] world0
      rw [h] at h4
      cases h4
      exact h2
    · intro hu
      exact ⟨isLmm_match _ hb, vs, v, ha vs, hu, h⟩
theorem r_len_S {t : TypeId} (h : P.underlying t = some .string) {l : List UInt8} {u : AV} : aBuiltin P .len #[t] [.val (.string ⟨l.toArray⟩)] u ↔ u = .val (.int .i64 l.length) :=
  aBuiltin_vals (vs := [_]) trivial fun ty cs w => by simp [builtin, run_len_string w t ty _ h, goInt, ba_size]
theorem r_len_nil {t : TypeId} (h : isSl P t = true) {u : AV} : aBuiltin P .len #[t] [.val (.slice none 0 0)] u ↔ u = .val (.int .i64 0) :=
  aBuiltin_vals (vs := [_]) trivial fun ty cs w => by
    obtain ⟨d, hd⟩ := isSl_run h
    simp [builtin, Builtin.len_, run_underlying hd, goInt]
theorem r_min {t t' : TypeId} {k : IntKind} {x y : Int} {u : AV} : aBuiltin P .min #[t, t'] [.val (.int k x), .val (.int k y)] u ↔ u = .val (.int k (min x y)) :=
  aBuiltin_vals (vs := [_, _]) trivial fun ty cs w => by
    have e : (if y < x then y else x) = min x y := by simp only [Int.min_def]; split <;> split <;> omega
    simp [builtin, Builtin.min_, Builtin.min2, e]
theorem r_max {t t' : TypeId} {k : IntKind} {x y : Int} {u : AV} : aBuiltin P .max #[t, t'] [.val (.int k x), .val (.int k y)] u ↔ u = .val (.int k (max x y)) :=
  aBuiltin_vals (vs := [_, _]) trivial fun ty cs w => by
    have e : (if y > x then y else x) = max x y := by simp only [Int.max_def]; split <;> split <;> omega
    simp [builtin, Builtin.max_, Builtin.max2, e]

/-! ### Cuts and places -/
theorem r_index_S {l : List UInt8} {k : IntKind} {i : Int} {u : AV} : aIndex .string false 1 (.val (.string ⟨l.toArray⟩)) (.val (.int k i)) u ↔ (0 ≤ i ∧ i < l.length) ∧ u = .val (.int .u8 (l.getD i.toNat 0).toNat) := by
  simp only [aIndex, ixOf]
  constructor
  · rintro ⟨h0, h1, hu⟩
    rw [ba_size] at h1
    refine ⟨⟨h0, by omega⟩, ?_⟩
    rw [hu]
    have e : l.getD i.toNat 0 = (ByteArray.mk l.toArray)[i.toNat]'(by rw [ba_size]; exact h1) := by
      show _ = (l.toArray)[i.toNat]
      rw [List.getElem_toArray, List.getD_eq_getElem?_getD, List.getElem?_eq_getElem h1]; rfl
    rw [e]
  · rintro ⟨⟨h0, h1⟩, hu⟩
    refine ⟨h0, by rw [ba_size]; omega, ?_⟩
    rw [hu]
    have h2 : i.toNat < l.length := by omega
    have e : l.getD i.toNat 0 = (ByteArray.mk l.toArray)[i.toNat]'(by rw [ba_size]; exact h2) := by
      show _ = (l.toArray)[i.toNat]
      rw [List.getElem_toArray, List.getD_eq_getElem?_getD, List.getElem?_eq_getElem h2]; rfl
    rw [e]
theorem ba_extract (l : List UInt8) (a b : Nat) : (ByteArray.mk l.toArray).extract a b = ByteArray.mk ((l.take b).drop a).toArray := by
  apply ByteArray.ext
  simp
  rw [List.drop_take]
theorem r_slice_S {l : List UInt8} {k k' : IntKind} {a b : Int} {u : AV} : aSlice .string 1 (.val (.string ⟨l.toArray⟩)) (some (.val (.int k a))) (some (.val (.int k' b))) none u ↔ (0 ≤ a ∧ a ≤ b ∧ b ≤ l.length) ∧ u = .val (.string ⟨((l.take b.toNat).drop a.toNat).toArray⟩) := by
  simp only [aSlice, bdOf, ixOf, ba_size, ba_extract, and_assoc]
theorem r_slice_S1 {l : List UInt8} {k : IntKind} {a : Int} {u : AV} : aSlice .string 1 (.val (.string ⟨l.toArray⟩)) (some (.val (.int k a))) none none u ↔ (0 ≤ a ∧ a ≤ l.length) ∧ u = .val (.string ⟨(l.drop a.toNat).toArray⟩) := by
  simp only [aSlice, bdOf, ixOf, ba_size, ba_extract, and_assoc]
  have e : List.take (l.length : Int).toNat l = l := by simp
  rw [e]
  constructor
  · rintro ⟨h1, h2, h3, h4⟩; exact ⟨h1, h2, h4⟩
  · rintro ⟨h1, h2, h4⟩; exact ⟨h1, h2, Int.le_refl _, h4⟩
theorem r_slice_S2 {l : List UInt8} {k' : IntKind} {b : Int} {u : AV} : aSlice .string 1 (.val (.string ⟨l.toArray⟩)) none (some (.val (.int k' b))) none u ↔ (0 ≤ b ∧ b ≤ l.length) ∧ u = .val (.string ⟨(l.take b.toNat).toArray⟩) := by
  simp only [aSlice, bdOf, ixOf, ba_size, ba_extract, and_assoc]
  simp
theorem r_slice {sz : Nat} {l : List AV} {m : SM} {k k' : IntKind} {a b : Int} {u : AV} : aSlice .slice sz (.lst sz l m) (some (.val (.int k a))) (some (.val (.int k' b))) none u ↔ (0 ≤ a ∧ a ≤ b ∧ b ≤ l.length) ∧ u = .lst sz ((l.take b.toNat).drop a.toNat) .ro := by
  simp [aSlice, bdOf, ixOf, and_assoc]
theorem r_slice1 {sz : Nat} {l : List AV} {m : SM} {k : IntKind} {a : Int} {u : AV} : aSlice .slice sz (.lst sz l m) (some (.val (.int k a))) none none u ↔ (0 ≤ a ∧ a ≤ l.length) ∧ u = .lst sz (l.drop a.toNat) .ro := by
  simp [aSlice, bdOf, ixOf, and_assoc]
theorem r_slice2 {sz : Nat} {l : List AV} {m : SM} {k' : IntKind} {b : Int} {u : AV} : aSlice .slice sz (.lst sz l m) none (some (.val (.int k' b))) none u ↔ (0 ≤ b ∧ b ≤ l.length) ∧ u = .lst sz (l.take b.toNat) .ro := by
  simp [aSlice, bdOf, ixOf, and_assoc]
theorem r_slice3 {sz : Nat} {l : List AV} {m : SM} {k k' : IntKind} {b c : Int} {u : AV} : aSlice .slice sz (.lst sz l m) none (some (.val (.int k b))) (some (.val (.int k' c))) u ↔ (0 ≤ b ∧ b ≤ l.length ∧ c = b) ∧ u = .lst sz (l.take b.toNat) .full := by
  simp [aSlice, bdOf, ixOf, and_assoc]
theorem r_ixa {sz : Nat} {l : List AV} {m : SM} {k : IntKind} {i : Int} {u : AV} : aIndexAddr .slice sz (.lst sz l m) (.val (.int k i)) u ↔ (0 ≤ i ∧ i < l.length) ∧ u = .rptr (l.getD i.toNat .undef).cells := by
  simp [aIndexAddr, ixOf, and_assoc]
theorem getD_map {α : Type} {f : α → AV} {l : List α} {n : Nat} (d : α) (h : n < l.length) : (l.map f).getD n .undef = f (l.getD n d) := by
  simp [List.getD_eq_getElem?_getD, h]
end Go.Ab

/- The base, part 3: a logic over abstract values, its steps. No program's statement here. -/
/- A logic over abstract states (part 15): the rules of part 14 as steps through a printed condition. Made by wip/gen/xrules.py. -/
set_option linter.unusedVariables false
set_option linter.unusedSimpArgs false
namespace Go.Ab
variable {P : Program}
theorem s_add {t : TypeId} {k : IntKind} {x y : Int} {K : AV → Prop}  (hK : K (.val (.int k (k.wrap (x + y))))) : ∃ u, aBin P .add t (.val (.int k x)) (.val (.int k y)) u ∧ K u := ⟨_, (r_add).2 rfl, hK⟩
theorem s_sub {t : TypeId} {k : IntKind} {x y : Int} {K : AV → Prop}  (hK : K (.val (.int k (k.wrap (x - y))))) : ∃ u, aBin P .sub t (.val (.int k x)) (.val (.int k y)) u ∧ K u := ⟨_, (r_sub).2 rfl, hK⟩
theorem s_mul {t : TypeId} {k : IntKind} {x y : Int} {K : AV → Prop}  (hK : K (.val (.int k (k.wrap (x * y))))) : ∃ u, aBin P .mul t (.val (.int k x)) (.val (.int k y)) u ∧ K u := ⟨_, (r_mul).2 rfl, hK⟩
theorem s_rem {t : TypeId} {k : IntKind} {x y : Int}  (h : y ≠ 0) {K : AV → Prop}  (hK : K (.val (.int k (x.tmod y)))) : ∃ u, aBin P .rem t (.val (.int k x)) (.val (.int k y)) u ∧ K u := ⟨_, (r_rem h).2 rfl, hK⟩
theorem s_eql {t : TypeId} {k : IntKind} {x y : Int} {K : AV → Prop}  (hK : K (.val (.bool (decide (x = y))))) : ∃ u, aBin P .eql t (.val (.int k x)) (.val (.int k y)) u ∧ K u := ⟨_, (r_eql).2 rfl, hK⟩
theorem s_neq {t : TypeId} {k : IntKind} {x y : Int} {K : AV → Prop}  (hK : K (.val (.bool (decide (x ≠ y))))) : ∃ u, aBin P .neq t (.val (.int k x)) (.val (.int k y)) u ∧ K u := ⟨_, (r_neq).2 rfl, hK⟩
theorem s_lss {t : TypeId} {k : IntKind} {x y : Int} {K : AV → Prop}  (hK : K (.val (.bool (decide (x < y))))) : ∃ u, aBin P .lss t (.val (.int k x)) (.val (.int k y)) u ∧ K u := ⟨_, (r_lss).2 rfl, hK⟩
theorem s_leq {t : TypeId} {k : IntKind} {x y : Int} {K : AV → Prop}  (hK : K (.val (.bool (decide (x ≤ y))))) : ∃ u, aBin P .leq t (.val (.int k x)) (.val (.int k y)) u ∧ K u := ⟨_, (r_leq).2 rfl, hK⟩
theorem s_gtr {t : TypeId} {k : IntKind} {x y : Int} {K : AV → Prop}  (hK : K (.val (.bool (decide (y < x))))) : ∃ u, aBin P .gtr t (.val (.int k x)) (.val (.int k y)) u ∧ K u := ⟨_, (r_gtr).2 rfl, hK⟩
theorem s_geq {t : TypeId} {k : IntKind} {x y : Int} {K : AV → Prop}  (hK : K (.val (.bool (decide (y ≤ x))))) : ∃ u, aBin P .geq t (.val (.int k x)) (.val (.int k y)) u ∧ K u := ⟨_, (r_geq).2 rfl, hK⟩
theorem s_shr {t : TypeId} {k k' : IntKind} {x y : Int}  (h : 0 ≤ y) {K : AV → Prop}  (hK : K (.val (.int k (x.fdiv (2 ^ (min y.toNat k.bits)))))) : ∃ u, aBin P .shr t (.val (.int k x)) (.val (.int k' y)) u ∧ K u := ⟨_, (r_shr h).2 rfl, hK⟩
theorem s_not {b : Bool} {K : AV → Prop}  (hK : K (.val (.bool (!b)))) : ∃ u, aUn P .not (.val (.bool b)) u ∧ K u := ⟨_, (r_not).2 rfl, hK⟩
theorem s_s_eql {t : TypeId} {a b : List UInt8} {K : AV → Prop}  (hK : K (.val (.bool (decide (a = b))))) : ∃ u, aBin P .eql t (.val (.string ⟨a.toArray⟩)) (.val (.string ⟨b.toArray⟩)) u ∧ K u := ⟨_, (r_s_eql).2 rfl, hK⟩
theorem s_s_neq {t : TypeId} {a b : List UInt8} {K : AV → Prop}  (hK : K (.val (.bool (decide (a ≠ b))))) : ∃ u, aBin P .neq t (.val (.string ⟨a.toArray⟩)) (.val (.string ⟨b.toArray⟩)) u ∧ K u := ⟨_, (r_s_neq).2 rfl, hK⟩
theorem s_s_lss {t : TypeId} {a b : List UInt8} {K : AV → Prop}  (hK : K (.val (.bool (Op.bytesLess a b)))) : ∃ u, aBin P .lss t (.val (.string ⟨a.toArray⟩)) (.val (.string ⟨b.toArray⟩)) u ∧ K u := ⟨_, (r_s_lss).2 rfl, hK⟩
theorem s_s_geq {t : TypeId} {a b : List UInt8} {K : AV → Prop}  (hK : K (.val (.bool (!Op.bytesLess a b)))) : ∃ u, aBin P .geq t (.val (.string ⟨a.toArray⟩)) (.val (.string ⟨b.toArray⟩)) u ∧ K u := ⟨_, (r_s_geq).2 rfl, hK⟩
theorem s_s_leq {t : TypeId} {a b : List UInt8} {K : AV → Prop}  (hK : K (.val (.bool (Op.bytesLess a b || decide (a = b))))) : ∃ u, aBin P .leq t (.val (.string ⟨a.toArray⟩)) (.val (.string ⟨b.toArray⟩)) u ∧ K u := ⟨_, (r_s_leq).2 rfl, hK⟩
theorem s_s_gtr {t : TypeId} {a b : List UInt8} {K : AV → Prop}  (hK : K (.val (.bool (!(Op.bytesLess a b || decide (a = b)))))) : ∃ u, aBin P .gtr t (.val (.string ⟨a.toArray⟩)) (.val (.string ⟨b.toArray⟩)) u ∧ K u := ⟨_, (r_s_gtr).2 rfl, hK⟩
theorem s_len_lst {t : TypeId} (h : isSl P t = true) {z : Nat} {l : List AV} {m : SM} {K : AV → Prop}  (hK : K (.val (.int .i64 l.length))) : ∃ u, aBuiltin P .len #[t] [.lst z l m] u ∧ K u := ⟨_, (r_len_lst h).2 rfl, hK⟩
theorem s_len_own {t : TypeId} (h : isSl P t = true) {v : Value} {n : Nat} {K : AV → Prop}  (hK : K (.val (.int .i64 n))) : ∃ u, aBuiltin P .len #[t] [.own v n] u ∧ K u := ⟨_, (r_len_own h).2 rfl, hK⟩
theorem s_len_S {t : TypeId} (h : P.underlying t = some .string) {l : List UInt8} {K : AV → Prop}  (hK : K (.val (.int .i64 l.length))) : ∃ u, aBuiltin P .len #[t] [.val (.string ⟨l.toArray⟩)] u ∧ K u := ⟨_, (r_len_S h).2 rfl, hK⟩
theorem s_len_nil {t : TypeId} (h : isSl P t = true) {K : AV → Prop}  (hK : K (.val (.int .i64 0))) : ∃ u, aBuiltin P .len #[t] [.val (.slice none 0 0)] u ∧ K u := ⟨_, (r_len_nil h).2 rfl, hK⟩
theorem s_min {t t' : TypeId} {k : IntKind} {x y : Int} {K : AV → Prop}  (hK : K (.val (.int k (min x y)))) : ∃ u, aBuiltin P .min #[t, t'] [.val (.int k x), .val (.int k y)] u ∧ K u := ⟨_, (r_min).2 rfl, hK⟩
theorem s_max {t t' : TypeId} {k : IntKind} {x y : Int} {K : AV → Prop}  (hK : K (.val (.int k (max x y)))) : ∃ u, aBuiltin P .max #[t, t'] [.val (.int k x), .val (.int k y)] u ∧ K u := ⟨_, (r_max).2 rfl, hK⟩
theorem s_index_S {l : List UInt8} {k : IntKind} {i : Int} {K : AV → Prop} (q0 : 0 ≤ i) (q1 : i < l.length) (hK : K (.val (.int .u8 (l.getD i.toNat 0).toNat))) : ∃ u, aIndex .string false 1 (.val (.string ⟨l.toArray⟩)) (.val (.int k i)) u ∧ K u := ⟨_, (r_index_S).2 ⟨⟨q0, q1⟩, rfl⟩, hK⟩
theorem s_slice_S1 {l : List UInt8} {k : IntKind} {a : Int} {K : AV → Prop} (q0 : 0 ≤ a) (q1 : a ≤ l.length) (hK : K (.val (.string ⟨(l.drop a.toNat).toArray⟩))) : ∃ u, aSlice .string 1 (.val (.string ⟨l.toArray⟩)) (some (.val (.int k a))) none none u ∧ K u := ⟨_, (r_slice_S1).2 ⟨⟨q0, q1⟩, rfl⟩, hK⟩
theorem s_slice_S2 {l : List UInt8} {k' : IntKind} {b : Int} {K : AV → Prop} (q0 : 0 ≤ b) (q1 : b ≤ l.length) (hK : K (.val (.string ⟨(l.take b.toNat).toArray⟩))) : ∃ u, aSlice .string 1 (.val (.string ⟨l.toArray⟩)) none (some (.val (.int k' b))) none u ∧ K u := ⟨_, (r_slice_S2).2 ⟨⟨q0, q1⟩, rfl⟩, hK⟩
theorem s_slice {sz : Nat} {l : List AV} {m : SM} {k k' : IntKind} {a b : Int} {K : AV → Prop} (q0 : 0 ≤ a) (q1 : a ≤ b) (q2 : b ≤ l.length) (hK : K (.lst sz ((l.take b.toNat).drop a.toNat) .ro)) : ∃ u, aSlice .slice sz (.lst sz l m) (some (.val (.int k a))) (some (.val (.int k' b))) none u ∧ K u := ⟨_, (r_slice).2 ⟨⟨q0, q1, q2⟩, rfl⟩, hK⟩
theorem s_slice1 {sz : Nat} {l : List AV} {m : SM} {k : IntKind} {a : Int} {K : AV → Prop} (q0 : 0 ≤ a) (q1 : a ≤ l.length) (hK : K (.lst sz (l.drop a.toNat) .ro)) : ∃ u, aSlice .slice sz (.lst sz l m) (some (.val (.int k a))) none none u ∧ K u := ⟨_, (r_slice1).2 ⟨⟨q0, q1⟩, rfl⟩, hK⟩
theorem s_slice2 {sz : Nat} {l : List AV} {m : SM} {k' : IntKind} {b : Int} {K : AV → Prop} (q0 : 0 ≤ b) (q1 : b ≤ l.length) (hK : K (.lst sz (l.take b.toNat) .ro)) : ∃ u, aSlice .slice sz (.lst sz l m) none (some (.val (.int k' b))) none u ∧ K u := ⟨_, (r_slice2).2 ⟨⟨q0, q1⟩, rfl⟩, hK⟩
theorem s_slice3 {sz : Nat} {l : List AV} {m : SM} {k k' : IntKind} {b c : Int} {K : AV → Prop} (q0 : 0 ≤ b) (q1 : b ≤ l.length) (q2 : c = b) (hK : K (.lst sz (l.take b.toNat) .full)) : ∃ u, aSlice .slice sz (.lst sz l m) none (some (.val (.int k b))) (some (.val (.int k' c))) u ∧ K u := ⟨_, (r_slice3).2 ⟨⟨q0, q1, q2⟩, rfl⟩, hK⟩
theorem s_ixa {sz : Nat} {l : List AV} {m : SM} {k : IntKind} {i : Int} {K : AV → Prop} (q0 : 0 ≤ i) (q1 : i < l.length) (hK : K (.rptr (l.getD i.toNat .undef).cells)) : ∃ u, aIndexAddr .slice sz (.lst sz l m) (.val (.int k i)) u ∧ K u := ⟨_, (r_ixa).2 ⟨⟨q0, q1⟩, rfl⟩, hK⟩
/-! wraps that turn nothing -/
theorem s_add64 {t : TypeId} {x y : Int} {K : AV → Prop} (h1 : -9223372036854775808 ≤ x + y) (h2 : x + y ≤ 9223372036854775807) (hK : K (.val (.int .i64 (x + y)))) : ∃ u, aBin P .add t (.val (.int .i64 x)) (.val (.int .i64 y)) u ∧ K u := s_add (by rw [wrap_i64 h1 h2]; exact hK)
theorem s_sub64 {t : TypeId} {x y : Int} {K : AV → Prop} (h1 : -9223372036854775808 ≤ x - y) (h2 : x - y ≤ 9223372036854775807) (hK : K (.val (.int .i64 (x - y)))) : ∃ u, aBin P .sub t (.val (.int .i64 x)) (.val (.int .i64 y)) u ∧ K u := s_sub (by rw [wrap_i64 h1 h2]; exact hK)
theorem s_mul64 {t : TypeId} {x y : Int} {K : AV → Prop} (h1 : -9223372036854775808 ≤ x * y) (h2 : x * y ≤ 9223372036854775807) (hK : K (.val (.int .i64 (x * y)))) : ∃ u, aBin P .mul t (.val (.int .i64 x)) (.val (.int .i64 y)) u ∧ K u := s_mul (by rw [wrap_i64 h1 h2]; exact hK)
/-! conversions of numbers -/
def kindOf (P : Program) (t : TypeId) : Option IntKind := match P.underlying t with
  | some (.int k) => some k
  | _ => none
theorem kindOf_run {t : TypeId} {k : IntKind} (h : kindOf P t = some k) : P.underlying t = some (.int k) := by
  unfold kindOf at h
  split at h
  · rename_i k' hk; cases h; exact hk
  · cases h
theorem s_conv {s d : TypeId} {k k' : IntKind} {x : Int} {K : AV → Prop} (hd : kindOf P d = some k') (hs : kindOf P s = some k) (hK : K (.val (.int k' (k'.wrap x)))) : ∃ u, aConvN s d (.val (.int k x)) u P ∧ K u := ⟨_, (r_conv (kindOf_run hd) (kindOf_run hs)).2 rfl, hK⟩
theorem s_slmf {α : Type} {sz : Nat} {f : α → AV} {l : List α} {m : SM} {k k' : IntKind} {K : AV → Prop} (hK : K (.lst sz (l.map f) .full)) : ∃ u, aSlice .slice sz (.lst sz (l.map f) m) none (some (.val (.int k l.length))) (some (.val (.int k' l.length))) u ∧ K u :=
  s_slice3 (by omega) (by simp) rfl (by rw [List.take_of_length_le (by simp)]; exact hK)
theorem s_slm {α : Type} {sz : Nat} {f : α → AV} {l : List α} {m : SM} {k k' : IntKind} {a b : Int} {K : AV → Prop} (h0 : 0 ≤ a) (h1 : a ≤ b) (h2 : b ≤ l.length) (hK : K (.lst sz (((l.take b.toNat).drop a.toNat).map f) .ro)) : ∃ u, aSlice .slice sz (.lst sz (l.map f) m) (some (.val (.int k a))) (some (.val (.int k' b))) none u ∧ K u :=
  s_slice h0 h1 (by simpa using h2) (by simpa using hK)
theorem s_slm1 {α : Type} {sz : Nat} {f : α → AV} {l : List α} {m : SM} {k : IntKind} {a : Int} {K : AV → Prop} (h0 : 0 ≤ a) (h1 : a ≤ l.length) (hK : K (.lst sz ((l.drop a.toNat).map f) .ro)) : ∃ u, aSlice .slice sz (.lst sz (l.map f) m) (some (.val (.int k a))) none none u ∧ K u :=
  s_slice1 h0 (by simpa using h1) (by simpa using hK)
theorem s_slm2 {α : Type} {sz : Nat} {f : α → AV} {l : List α} {m : SM} {k : IntKind} {b : Int} {K : AV → Prop} (h0 : 0 ≤ b) (h1 : b ≤ l.length) (hK : K (.lst sz ((l.take b.toNat).map f) .ro)) : ∃ u, aSlice .slice sz (.lst sz (l.map f) m) none (some (.val (.int k b))) none u ∧ K u :=
  s_slice2 h0 (by simpa using h1) (by simpa using hK)
theorem s_conv_i64 {s d : TypeId} {k : IntKind} {x : Int} {K : AV → Prop} (hd : kindOf P d = some .i64) (h1 : -9223372036854775808 ≤ x) (h2 : x ≤ 9223372036854775807) (hs : kindOf P s = some k) (hK : K (.val (.int .i64 x))) : ∃ u, aConvN s d (.val (.int k x)) u P ∧ K u := s_conv hd hs (by rw [wrap_i64 h1 h2]; exact hK)
/-! guards, choices, tests -/
theorem s_gT {φ : Prop} [Decidable φ] {X K : AV → Prop} (h : φ) (hK : ∃ u, X u ∧ K u) : ∃ u, aGuard (.val (.bool (decide φ))) true X u ∧ K u := by
  rw [decide_eq_true h]; exact ex_guard.2 ⟨fun _ => hK, fun h => by cases h⟩
theorem s_gF {φ : Prop} [Decidable φ] {X K : AV → Prop} (h : ¬ φ) (hK : K (.val Go.undef)) : ∃ u, aGuard (.val (.bool (decide φ))) true X u ∧ K u := by
  rw [decide_eq_false h]; exact ex_guard.2 ⟨fun h => by (cases h), fun _ => hK⟩
theorem s_gS {φ : Prop} [Decidable φ] {X K : AV → Prop} (h1 : φ → ∃ u, X u ∧ K u) (h2 : ¬ φ → K (.val Go.undef)) : ∃ u, aGuard (.val (.bool (decide φ))) true X u ∧ K u := by
  by_cases h : φ
  · exact s_gT h (h1 h)
  · exact s_gF h (h2 h)
theorem s_gT' {φ : Prop} [Decidable φ] {X K : AV → Prop} (h : ¬ φ) (hK : ∃ u, X u ∧ K u) : ∃ u, aGuard (.val (.bool (decide φ))) false X u ∧ K u := by
  rw [decide_eq_false h]; exact ex_guard.2 ⟨fun _ => hK, fun h => by cases h⟩
theorem s_gF' {φ : Prop} [Decidable φ] {X K : AV → Prop} (h : φ) (hK : K (.val Go.undef)) : ∃ u, aGuard (.val (.bool (decide φ))) false X u ∧ K u := by
  rw [decide_eq_true h]; exact ex_guard.2 ⟨fun h => by (cases h), fun _ => hK⟩
theorem s_gS' {φ : Prop} [Decidable φ] {X K : AV → Prop} (h1 : ¬ φ → ∃ u, X u ∧ K u) (h2 : φ → K (.val Go.undef)) : ∃ u, aGuard (.val (.bool (decide φ))) false X u ∧ K u := by
  by_cases h : φ
  · exact s_gF' h (h2 h)
  · exact s_gT' h (h1 h)
theorem s_gbS {b : Bool} {X K : AV → Prop} (h1 : b = true → ∃ u, X u ∧ K u) (h2 : b = false → K (.val Go.undef)) : ∃ u, aGuard (.val (.bool b)) true X u ∧ K u := ex_guard.2 ⟨h1, h2⟩
theorem s_gbS' {b : Bool} {X K : AV → Prop} (h1 : b = false → ∃ u, X u ∧ K u) (h2 : b = true → K (.val Go.undef)) : ∃ u, aGuard (.val (.bool b)) false X u ∧ K u := ex_guard.2 ⟨h1, h2⟩
theorem s_gbT {b : Bool} {X K : AV → Prop} (h : b = true) (hK : ∃ u, X u ∧ K u) : ∃ u, aGuard (.val (.bool b)) true X u ∧ K u := ex_guard.2 ⟨fun _ => hK, fun h' => by rw [h] at h'; cases h'⟩
theorem s_gbF {b : Bool} {X K : AV → Prop} (h : b = false) (hK : K (.val Go.undef)) : ∃ u, aGuard (.val (.bool b)) true X u ∧ K u := ex_guard.2 ⟨fun h' => by (rw [h] at h'; cases h'), fun _ => hK⟩
theorem s_gbT' {b : Bool} {X K : AV → Prop} (h : b = false) (hK : ∃ u, X u ∧ K u) : ∃ u, aGuard (.val (.bool b)) false X u ∧ K u := ex_guard.2 ⟨fun _ => hK, fun h' => by rw [h] at h'; cases h'⟩
theorem s_gbF' {b : Bool} {X K : AV → Prop} (h : b = true) (hK : K (.val Go.undef)) : ∃ u, aGuard (.val (.bool b)) false X u ∧ K u := ex_guard.2 ⟨fun h' => by (rw [h] at h'; cases h'), fun _ => hK⟩
theorem s_pT {φ : Prop} [Decidable φ] {x y : AV} {K : AV → Prop} (h : φ) (hK : K x) : ∃ u, aPick (.val (.bool (decide φ))) x y u ∧ K u := by simp only [decide_eq_true h, aPick, if_true, exists_eq_left]; exact hK
theorem s_pF {φ : Prop} [Decidable φ] {x y : AV} {K : AV → Prop} (h : ¬ φ) (hK : K y) : ∃ u, aPick (.val (.bool (decide φ))) x y u ∧ K u := by simp only [decide_eq_false h, aPick, exists_eq_left]; exact hK
theorem s_pbT {b : Bool} {x y : AV} {K : AV → Prop} (h : b = true) (hK : K x) : ∃ u, aPick (.val (.bool b)) x y u ∧ K u := by subst h; simp only [aPick, if_true, exists_eq_left]; exact hK
theorem s_pbF {b : Bool} {x y : AV} {K : AV → Prop} (h : b = false) (hK : K y) : ∃ u, aPick (.val (.bool b)) x y u ∧ K u := by subst h; simp only [aPick, exists_eq_left]; exact hK
theorem s_pS {φ : Prop} [Decidable φ] {x y : AV} {K : AV → Prop} (h1 : φ → K x) (h2 : ¬ φ → K y) : ∃ u, aPick (.val (.bool (decide φ))) x y u ∧ K u := by
  by_cases h : φ
  · exact s_pT h (h1 h)
  · exact s_pF h (h2 h)
theorem s_pb {b : Bool} {x y : AV} {K : AV → Prop} (h1 : b = true → K x) (h2 : b = false → K y) : ∃ u, aPick (.val (.bool b)) x y u ∧ K u := by
  cases b
  · exact s_pbF rfl (h2 rfl)
  · exact s_pbT rfl (h1 rfl)
theorem s_cT {φ : Prop} [Decidable φ] {x y : Prop} (h : φ) (hx : x) : aCond (.val (.bool (decide φ))) x y := r_cond.2 ⟨fun _ => hx, fun h' => absurd h (of_decide_eq_false h')⟩
theorem s_cF {φ : Prop} [Decidable φ] {x y : Prop} (h : ¬ φ) (hy : y) : aCond (.val (.bool (decide φ))) x y := r_cond.2 ⟨fun h' => absurd (of_decide_eq_true h') h, fun _ => hy⟩
theorem s_cS {φ : Prop} [Decidable φ] {x y : Prop} (h1 : φ → x) (h2 : ¬ φ → y) : aCond (.val (.bool (decide φ))) x y := r_cond.2 ⟨fun h => h1 (of_decide_eq_true h), fun h => h2 (of_decide_eq_false h)⟩
theorem s_cbT {b : Bool} {x y : Prop} (h : b = true) (hx : x) : aCond (.val (.bool b)) x y := r_cond.2 ⟨fun _ => hx, fun h' => by rw [h] at h'; cases h'⟩
theorem s_cbF {b : Bool} {x y : Prop} (h : b = false) (hy : y) : aCond (.val (.bool b)) x y := r_cond.2 ⟨fun h' => by (rw [h] at h'; cases h'), fun _ => hy⟩
theorem s_cb {b : Bool} {x y : Prop} (h1 : b = true → x) (h2 : b = false → y) : aCond (.val (.bool b)) x y := r_cond.2 ⟨h1, h2⟩
theorem s_notd {φ : Prop} [Decidable φ] {K : AV → Prop} (hK : K (.val (.bool (decide (¬ φ))))) : ∃ u, aUn P .not (.val (.bool (decide φ))) u ∧ K u := s_not (by rw [← decide_not]; exact hK)
theorem s_ext0 {a : AV} {us : List AV} {K : AV → Prop} (hK : K a) : ∃ u, aExt (.tuple (a :: us)) 0 u ∧ K u := ⟨a, rfl, hK⟩
theorem s_ext1 {a b : AV} {us : List AV} {K : AV → Prop} (hK : K b) : ∃ u, aExt (.tuple (a :: b :: us)) 1 u ∧ K u := ⟨b, rfl, hK⟩
theorem s_ext2 {a b c : AV} {us : List AV} {K : AV → Prop} (hK : K c) : ∃ u, aExt (.tuple (a :: b :: c :: us)) 2 u ∧ K u := ⟨c, rfl, hK⟩
/-- an element of a list of things that are told by a function -/
theorem s_ixm {α : Type} [Inhabited α] {sz : Nat} {f : α → AV} {l : List α} {m : SM} {k : IntKind} {i : Int} {K : AV → Prop} (h0 : 0 ≤ i) (h1 : i < l.length) (hK : K (.rptr (f (l.getD i.toNat default)).cells)) : ∃ u, aIndexAddr .slice sz (.lst sz (l.map f) m) (.val (.int k i)) u ∧ K u :=
  s_ixa h0 (by simpa using h1) (by rw [getD_map default (by omega)]; exact hK)
theorem s_lenm {α : Type} {t : TypeId} (h : isSl P t = true) {z : Nat} {f : α → AV} {l : List α} {m : SM} {K : AV → Prop} (hK : K (.val (.int .i64 l.length))) : ∃ u, aBuiltin P .len #[t] [.lst z (l.map f) m] u ∧ K u := s_len_lst h (by simpa using hK)

end Go.Ab

/- A logic over abstract states (part 16): literals of slices, append, bits: steps through a printed condition. -/
set_option linter.unusedVariables false
set_option linter.unusedSimpArgs false
namespace Go.Ab
variable {P : Program}

/-! ### Literals of slices -/
theorem splice_mid {pre zs new : List AV} {off : Nat} (h : pre.length = off) (hl : new.length ≤ zs.length) : splice (pre ++ zs) off new = (pre ++ new) ++ zs.drop new.length := by
  unfold splice
  rw [List.take_append_of_le_length (by omega), List.take_of_length_le (by omega), List.drop_append, List.drop_of_length_le (by omega)]
  simp [h, List.append_assoc]
theorem fillA_row (sz : Nat) : ∀ (ps : List AV) (j : Nat) (pre zs : List AV), (∀ p ∈ ps, (p : AV).cells.length = sz) → pre.length = j * sz → zs.length = ps.length * sz →
    fillA (fun i => some (i * sz, sz)) (pre ++ zs) ((ps.zipIdx j).map fun p => (p.2, p.1)) = some (pre ++ flat ps)
  | [], j, pre, zs, hp, hj, hz => by
    simp at hz
    subst hz
    simp [fillA, flat]
  | p :: ps, j, pre, zs, hp, hj, hz => by
    have h1 : p.cells.length = sz := hp p (by simp)
    simp only [List.length_cons, Nat.add_mul, Nat.one_mul] at hz
    have hle : j * sz + sz ≤ (pre ++ zs).length := by rw [List.length_append]; omega
    simp only [List.zipIdx_cons, List.map_cons, fillA, h1, hle, and_self, if_true]
    rw [splice_mid hj (by omega)]
    have := fillA_row sz ps (j + 1) (pre ++ p.cells) (zs.drop p.cells.length) (fun q hq => hp q (by simp [hq])) (by rw [List.length_append, hj, h1, Nat.add_mul, Nat.one_mul]) (by rw [List.length_drop]; omega)
    rw [this]
    simp [flat, List.append_assoc]
theorem s_lit {z : AV} {sz n : Nat} {parts : List (Nat × AV)} {K : AV → Prop} (ps : List AV) (hz : z.cells.length = sz) (hn : ps.length = n) (he : parts = (ps.zipIdx 0).map fun p => (p.2, p.1)) (hp : ∀ p ∈ ps, (p : AV).cells.length = sz) (hone : ∀ p ∈ ps, ∀ c ∈ (p : AV).cells, c.one = true)
    (hK : K (.lst sz ps .full)) : ∃ u, aSlLit z sz n parts u ∧ K u := by
  refine ⟨.lst sz ps .full, ⟨?_, ⟨ps, hn, hp, ?_, rfl⟩, ?_⟩, hK⟩
  · intro p hp' c hc
    rw [he] at hp'
    simp only [List.mem_map] at hp'
    obtain ⟨q, hq, rfl⟩ := hp'
    have := List.mem_zipIdx hq
    refine hone q.1 ?_ c hc
    rw [this.2.2]
    exact List.getElem_mem _
  · rw [he]
    have := fillA_row sz ps 0 [] ((List.replicate n z.cells).flatten) hp (by simp) (by simp [hz, hn])
    simpa using this
  · intro l hl c hc
    cases hl
    unfold flat at hc
    obtain ⟨p, hp', hc⟩ := List.mem_flatMap.1 hc
    exact hone p hp' c hc

/-! ### Things told by a function -/
/-- Each is told in so many cells. -/
def Told {α : Type} (f : α → AV) (sz : Nat) : Prop := ∀ a, (f a).cells.length = sz ∧ ∀ c ∈ (f a).cells, c.one = true
theorem told_byt : Told byt 1 := fun a => ⟨rfl, fun c hc => by simp [byt, AV.cells] at hc; subst hc; rfl⟩
theorem told_len {α : Type} {f : α → AV} {sz : Nat} (h : Told f sz) (l : List α) : ∀ c ∈ l.map f, (c : AV).cells.length = sz := fun c hc => by
  obtain ⟨a, _, rfl⟩ := List.mem_map.1 hc
  exact (h a).1
/-! ### append -/
def Src {α : Type} (f : α → AV) (sz : Nat) (σ : Store) (x : AV) (ys : List α) : Prop := srcA sz σ x (ys.map f) ∧ (sz = 1 → ∀ c ∈ ys.map f, (c : AV).cells.length = 1)

theorem src_lst {α : Type} {f : α → AV} {sz : Nat} (hf : Told f sz) {ys : List α} {m : SM} {σ : Store} : Src f sz σ (.lst sz (ys.map f) m) ys :=
  ⟨⟨rfl, rfl⟩, fun h c hc => by rw [told_len hf ys c hc, h]⟩
theorem src_S {ys : List UInt8} {σ : Store} : Src byt 1 σ (.val (.string ⟨ys.toArray⟩)) ys :=
  ⟨⟨rfl, by simp⟩, fun h c hc => by rw [told_len told_byt ys c hc]⟩
theorem src_own {α : Type} {f : α → AV} {sz : Nat} (hf : Told f sz) {ys : List α} {v : Value} {n : Nat} {E : TypeId} {fl : Nat} {σ : Store} (hm : Ent.row v E sz (ys.map f) fl ∈ σ) : Src f sz σ (.own v n) ys :=
  ⟨⟨E, _, fl, hm, rfl⟩, fun h c hc => by rw [told_len hf ys c hc, h]⟩
theorem src_nil {sz : Nat} {σ : Store} {α : Type} {f : α → AV} : Src f sz σ (.val (.slice none 0 0)) ([] : List α) := ⟨rfl, fun _ => by simp⟩

theorem s_app_full {α : Type} {f : α → AV} {E : TypeId} {sz by_ : Nat} {l ys : List α} {x : AV} {σ : Store} {k : AV → Store → Prop} (hs : Src f sz σ x ys) (hy : ys ≠ []) (hb : (l.length + ys.length) * by_ ≤ 140737488355328) (hm : l.length + ys.length ≤ 9223372036854775807)
    (hk : ∀ v, k (.own v (l ++ ys).length) (.row v E sz ((l ++ ys).map f) 0 :: σ)) : aAppend E sz by_ (.lst sz (l.map f) .full) x σ k := by
  refine ⟨ys.map f, hs.1, hs.2, .inr ?_⟩
  refine ⟨rfl, by simpa using hy, by simpa using hb, by simp [maxLen]; omega, fun v => ?_⟩
  have := hk v
  simpa using this
theorem s_app_own {α : Type} {f : α → AV} {E : TypeId} {sz by_ : Nat} {l ys : List α} {x : AV} {v : Value} {n fl : Nat} {σ1 σ2 : Store} {k : AV → Store → Prop} (hs : Src f sz (σ1 ++ .row v E sz (l.map f) fl :: σ2) x ys) (hb : (l.length + ys.length) * by_ ≤ 140737488355328) (hm : l.length + ys.length ≤ 9223372036854775807)
    (hk : ∀ v, k (.own v (l ++ ys).length) (σ1 ++ .row v E sz ((l ++ ys).map f) fl :: σ2)) : aAppend E sz by_ (.own v n) x (σ1 ++ .row v E sz (l.map f) fl :: σ2) k := by
  refine ⟨ys.map f, hs.1, hs.2, .inr ?_⟩
  refine ⟨σ1, σ2, l.map f, fl, rfl, by simpa using hb, by simp [maxLen]; omega, fun v => ?_⟩
  have := hk v
  simpa using this
theorem s_keep {k : AV → Store → Prop} {u : AV} {σ : Store} (h : k u σ) : subK k u σ := ⟨u, σ, Sub.refl _ _, h⟩

/-! ### Bits -/
theorem g_or {t : TypeId} {k : IntKind} {x y : Int} {K : AV → Prop} (hk : k.signed = false) (hx : 0 ≤ x) (hx' : x < 2 ^ k.bits) (hy : 0 ≤ y) (hy' : y < 2 ^ k.bits) (hK : K (.val (.int k ((x.toNat ||| y.toNat : Nat) : Int)))) : ∃ u, aBin P .or t (.val (.int k x)) (.val (.int k y)) u ∧ K u := by
  refine ⟨_, ?_, hK⟩
  refine (aBin_val fun _ _ w => ?_).2 rfl
  obtain ⟨a, rfl⟩ := Int.eq_ofNat_of_zero_le hx
  obtain ⟨b, rfl⟩ := Int.eq_ofNat_of_zero_le hy
  have ha : a < 2 ^ k.bits := by exact_mod_cast hx'
  have hb : b < 2 ^ k.bits := by exact_mod_cast hy'
  have e : (a ||| b) < 2 ^ k.bits := Nat.or_lt_two_pow ha hb
  have hw : k.wrap ((a ||| b : Nat) : Int) = ((a ||| b : Nat) : Int) := by
    simp only [IntKind.wrap, hk, Bool.false_and]
    rw [if_neg (by simp)]
    exact_mod_cast Nat.mod_eq_of_lt e
  simp [eqGuard, binOp, Op.intBits, BitVec.ofInt_natCast, Nat.mod_eq_of_lt ha, Nat.mod_eq_of_lt hb, hw]
theorem g_and {t : TypeId} {k : IntKind} {x y : Int} {K : AV → Prop} (hk : k.signed = false) (hx : 0 ≤ x) (hx' : x < 2 ^ k.bits) (hy : 0 ≤ y) (hy' : y < 2 ^ k.bits) (hK : K (.val (.int k ((x.toNat &&& y.toNat : Nat) : Int)))) : ∃ u, aBin P .and t (.val (.int k x)) (.val (.int k y)) u ∧ K u := by
  refine ⟨_, ?_, hK⟩
  refine (aBin_val fun _ _ w => ?_).2 rfl
  obtain ⟨a, rfl⟩ := Int.eq_ofNat_of_zero_le hx
  obtain ⟨b, rfl⟩ := Int.eq_ofNat_of_zero_le hy
  have ha : a < 2 ^ k.bits := by exact_mod_cast hx'
  have hb : b < 2 ^ k.bits := by exact_mod_cast hy'
  have e : (a &&& b) < 2 ^ k.bits := Nat.and_lt_two_pow a hb
  have hw : k.wrap ((a &&& b : Nat) : Int) = ((a &&& b : Nat) : Int) := by
    simp only [IntKind.wrap, hk, Bool.false_and]
    rw [if_neg (by simp)]
    exact_mod_cast Nat.mod_eq_of_lt e
  simp [eqGuard, binOp, Op.intBits, BitVec.ofInt_natCast, Nat.mod_eq_of_lt ha, Nat.mod_eq_of_lt hb, hw]
theorem shr_nat (n c : Nat) : (n : Int).fdiv (2 ^ c) = ((n / 2 ^ c : Nat) : Int) := by
  rw [Int.fdiv_eq_ediv_of_nonneg _ (Int.pow_nonneg (by decide))]
  rw [Int.natCast_ediv, Int.natCast_pow]
  rfl

/-! ### Shifts, quotients, sums of unsigned numbers -/
theorem s_shrz {t : TypeId} {k k' : IntKind} {x y : Int} {K : AV → Prop} (hx : 0 ≤ x) (h0 : 0 ≤ y) (h1 : y.toNat < k.bits) (hK : ∀ z : Int, z = x / 2 ^ y.toNat → 0 ≤ z → z ≤ x → K (.val (.int k z))) : ∃ u, aBin P .shr t (.val (.int k x)) (.val (.int k' y)) u ∧ K u := by
  refine s_shr h0 ?_
  rw [Nat.min_eq_left (Nat.le_of_lt h1)]
  have hp : (0 : Int) < 2 ^ y.toNat := Int.pow_pos (by decide)
  have e : x.fdiv (2 ^ y.toNat) = x / 2 ^ y.toNat := Int.fdiv_eq_ediv_of_nonneg _ (Int.le_of_lt hp)
  rw [e]
  refine hK _ rfl (Int.ediv_nonneg hx (Int.le_of_lt hp)) (Int.ediv_le_self _ hx)
theorem s_remz {t : TypeId} {k : IntKind} {x y : Int} {K : AV → Prop} (hx : 0 ≤ x) (hy : 0 < y) (hK : K (.val (.int k (x % y)))) : ∃ u, aBin P .rem t (.val (.int k x)) (.val (.int k y)) u ∧ K u := s_rem (by omega) (by rw [Int.tmod_eq_emod_of_nonneg hx]; exact hK)
/-! ### Bytes and texts -/
theorem s_convBS {bs : List UInt8} {z : Nat} {m : SM} {K : AV → Prop} (hK : K (.val (.string ⟨bs.toArray⟩))) : ∃ u, aConvBS (.lst z (bs.map byt) m) u ∧ K u := ⟨_, ⟨bs, rfl, rfl⟩, hK⟩
/-! ### Calls of functions told by their arguments alone -/
end Go.Ab

/- A logic over abstract states (part 18): a growable row told as memory that turns no more; variables, step by step. -/
set_option linter.unusedVariables false
set_option linter.unusedSimpArgs false
namespace Go.Ab
variable {P : Program}

theorem freeze_row {R : RO} {w : World} {σ1 σ2 : Store} {v : Value} {E : TypeId} {sz : Nat} {l : List AV} {fl : Nat} (hs : St R w (σ1 ++ .row v E sz l fl :: σ2)) :
    ∃ R' : RO, R.le R' ∧ St R' w (σ1 ++ σ2) ∧ Ext R w (σ1 ++ .row v E sz l fl :: σ2) R' w (σ1 ++ σ2) ∧ VR R' v (.lst sz l .ro) := by
  have hp := List.pairwise_append.1 hs.apart
  have hp2 := List.pairwise_cons.1 hp.2.1
  let R' : RO := fun a => if v.ownBlock = some a.block ∧ a.off < l.length * sz ∧ a.spot = none then w.cell? a else R a
  have hle : R.le R' := by
    intro a x ha
    show (if _ then _ else _) = _
    split
    · exact hs.ro a x ha
    · exact ha
  have hR : ∀ a x, R' a = some x → R a = some x ∨ v.ownBlock = some a.block := by
    intro a x ha
    by_cases h : v.ownBlock = some a.block ∧ a.off < l.length * sz ∧ a.spot = none
    · exact .inr h.1
    · have : R' a = R a := if_neg h
      rw [this] at ha
      exact .inl ha
  have hmem : (Ent.row v E sz l fl) ∈ σ1 ++ .row v E sz l fl :: σ2 := by simp
  refine ⟨R', hle, ⟨fun a x ha => ?_, fun e he => ?_, ?_⟩, ⟨hle, rfl, rfl, rfl, Nat.le_refl _, fun _ _ _ => rfl, fun k hk => .inl ?_, fun a x ha => ?_⟩, ?_⟩
  · by_cases h : v.ownBlock = some a.block ∧ a.off < l.length * sz ∧ a.spot = none
    · have : R' a = w.cell? a := if_pos h
      rw [← this]; exact ha
    · have : R' a = R a := if_neg h
      rw [this] at ha
      exact hs.ro a x ha
  · have hne : ∀ b, e.blk = some b → v.ownBlock ≠ some b := by
      intro b hb hvb
      rcases List.mem_append.1 he with he | he
      · exact hp.2.2 e he _ (List.mem_cons_self ..) b hb hvb
      · exact hp2.1 e he b hvb hb
    have he' : e ∈ σ1 ++ .row v E sz l fl :: σ2 := by
      rcases List.mem_append.1 he with he | he
      · exact List.mem_append.2 (.inl he)
      · exact List.mem_append.2 (.inr (List.mem_cons_of_mem _ he))
    refine (hs.ents e he').keep hle (fun _ _ => rfl) fun b hb a x ha hab => ?_
    rcases hR a x ha with h | h
    · exact h
    · exact absurd (hab ▸ h) (hne b hb)
  · refine List.pairwise_append.2 ⟨hp.1, hp2.2, fun x hx y hy => hp.2.2 x hx y (List.mem_cons_of_mem _ hy)⟩
  · rw [blks_append] at hk ⊢
    rcases List.mem_append.1 hk with hk | hk
    · exact List.mem_append.2 (.inl hk)
    · obtain ⟨e, he, hb⟩ := mem_blks.1 hk
      exact List.mem_append.2 (.inr (mem_blks.2 ⟨e, List.mem_cons_of_mem _ he, hb⟩))
  · rcases hR a x ha with h | h
    · exact .inl h
    · exact .inr (.inr (mem_blks.2 ⟨_, hmem, h⟩))
  · obtain ⟨h1, h2, ⟨vs, h3, h4, h5⟩, h6, h7⟩ := hs.ents _ hmem
    obtain ⟨hlen, hrow⟩ := h3
    have hcell : ∀ g n cap, v = .slice (some ⟨g, 0, none⟩) n cap → ∀ (j : Nat) (x : Value), vs[j]? = some x → R' ((⟨g, 0, none⟩ : Addr).add j) = some x := by
      intro g n cap hv j x hj
      have hc := World.ownsRow.cells (w := w) (v := v) (show w.ownsRow 0 E sz v l.length vs from ⟨hlen, hrow⟩) (g := g) (by rw [hv]; rfl) j x hj
      have hjl : j < vs.length := (List.getElem?_eq_some_iff.1 hj).1
      have : R' ((⟨g, 0, none⟩ : Addr).add j) = w.cell? ((⟨g, 0, none⟩ : Addr).add j) := if_pos (by
        rw [addr_lit_add, Nat.zero_add]
        refine ⟨by rw [hv]; rfl, ?_, rfl⟩
        show j < _
        rw [← hlen]; exact hjl)
      rw [this]; exact hc
    rcases hrow with ⟨hv, hn⟩ | ⟨g, cap, cur, hv, hb, hg, hcap, hmax, r⟩
    · have hl : l = [] := List.eq_nil_of_length_eq_zero hn
      subst hl
      rw [hv]
      refine .lst vs rfl h1 h2 h4.1 (h4.mono hle).2 (by simp) (by simp [SMok]) (Nat.zero_le _) h5
    · rw [hv]
      exact .lst vs rfl h1 h2 h4.1 (h4.mono hle).2 (fun _ => ⟨_, rfl, hcell g _ _ hv⟩) hcap h6 h5

/-- Row v is told as L. -/
def Frzs (v : Value) (L : AV) : List AV → List AV → Prop
  | [], [] => True
  | u :: us, u' :: us' => (u' = u ∨ (∃ n, u = .own v n) ∧ u' = L) ∧ Frzs v L us us'
  | _, _ => False
theorem Frzs.rel {R R' : RO} (hle : R.le R') {v : Value} {L : AV} (hL : VR R' v L) : ∀ {us us' : List AV} {vs : List Value}, Frzs v L us us' → VRs R vs us → VRs R' vs us'
  | [], [], vs, _, h => h.mono hle
  | u :: us, u' :: us', vs, hf, h => by
    cases vs with
    | nil => have := h.1; simp at this
    | cons x xs =>
      have h1 := h.2 0 u x rfl rfl
      have h2 : VRs R xs us := ⟨by have := h.1; simpa using this, fun j y z hy hz => h.2 (j + 1) y z hy hz⟩
      refine VRs.cons ?_ (Frzs.rel hle hL hf.2 h2)
      rcases hf.1 with rfl | ⟨⟨n, rfl⟩, rfl⟩
      · exact h1.mono hle
      · rw [h1.own_inv.1]; exact hL
theorem Sub.freeze {σ1 σ2 : Store} {v : Value} {E : TypeId} {sz : Nat} {l : List AV} {fl : Nat} {args args' : List AV} (h : Frzs v (.lst sz l .ro) args args') : Sub (σ1 ++ .row v E sz l fl :: σ2) args (σ1 ++ σ2) args' := by
  intro R w vs hv hs
  obtain ⟨R', h1, h2, h3, h4⟩ := freeze_row hs
  exact ⟨R', h.rel h1 h4 hv, h2, h3⟩
theorem Sub.freeze0 {σ : Store} {v : Value} {E : TypeId} {sz : Nat} {l : List AV} {fl : Nat} {args args' : List AV} (h : Frzs v (.lst sz l .ro) args args') : Sub (.row v E sz l fl :: σ) args σ args' := Sub.freeze (σ1 := []) h
theorem Sub.vals {σ : Store} {args args' : List AV} (h : SubVs args args') : Sub σ args σ args' := fun R w vs hv hs => ⟨R, h.rel hv, hs, Ext.refl _ _ _⟩
theorem Sub.tuple {σ σ1 : Store} {us us1 : List AV} (h : Sub σ us σ1 us1) : Sub σ [.tuple us] σ1 [.tuple us1] := by
  intro R w vs hv hs
  obtain ⟨v, hv0, hr⟩ := hv.get (j := 0) rfl
  obtain ⟨xs, rfl, hx⟩ := hr.tuple_inv
  obtain ⟨R', h1, h2, h3⟩ := h R w xs hx hs
  refine ⟨R', ?_, h2, h3⟩
  have hl := hv.1
  cases vs with
  | nil => simp at hl
  | cons y ys =>
    cases ys with
    | cons _ _ => simp at hl
    | nil =>
      simp only [List.getElem?_cons_zero, Option.some.injEq] at hv0
      rw [hv0]
      exact VRs.cons (VR.tuple' h1) (VRs.nil R')

/-- What a call hands back, told in other words. -/
theorem ACalls.sub {f : FuncId} {args : List AV} {σ : Store} {Q Q' : AEnd → Store → Prop} (h : ACalls P f args σ Q) (hq : ∀ x σ', Q x σ' → ∃ u u1 σ1, x = .ret u ∧ Sub σ' [u] σ1 [u1] ∧ Q' (.ret u1) σ1) : ACalls P f args σ Q' := by
  refine ⟨h.1, fun R w vs hv hs => (h.2 R w vs hv hs).mono ?_⟩
  rintro e w' ⟨x, R', σ', h1, h2, h3, h4⟩
  obtain ⟨u, u1, σ1, rfl, hsub, hq'⟩ := hq x σ' h2
  cases e with
  | returned v =>
    obtain ⟨R1, g1, g2, g3⟩ := hsub R' w' [v] (VRs.cons h1 (VRs.nil R')) h3
    exact ⟨.ret u1, R1, σ1, g1.2 0 _ _ rfl rfl, hq', g2, h4.trans g3⟩
  | panicked chain => exact h1.elim
  | outgrown => exact h1.elim
/-! ### Variables -/
end Go.Ab

/- What the functions of layers 1 to 4 compute, as plain functions on lists of bytes and entries. No program in sight. -/
set_option linter.unusedVariables false
set_option linter.unusedSimpArgs false
namespace Go.Ab

/-- An entry. -/
structure En where
  key : List UInt8
  val : List UInt8
  del : Bool
  seq : Int
  deriving DecidableEq, Inhabited
def En.cs (e : En) : List AV := [S e.key, S e.val, B e.del, I .i64 e.seq]
def En.av (e : En) : AV := .agg e.cs
theorem told_En : Told En.av 4 := fun e => ⟨rfl, fun c hc => by
  simp only [En.av, AV.cells, En.cs, List.mem_cons, List.not_mem_nil, or_false] at hc
  rcases hc with rfl | rfl | rfl | rfl <;> rfl⟩

variable {P : Program}
def right (e : En) : Bool := decide (e.key ≠ []) && decide ((e.key.length : Int) ≤ 128) && decide ((e.val.length : Int) ≤ 1024) && !(e.del && decide (e.val ≠ [])) && decide (1 ≤ e.seq) && decide (e.seq ≤ 1099511627776)


/-- A number's bytes. -/
def put (v : Nat) : List UInt8 := if h : v < 128 then [UInt8.ofNat v] else UInt8.ofNat (v % 128 + 128) :: put (v / 128)
theorem put_small {v : Nat} (h : v < 128) : put v = [UInt8.ofNat v] := by rw [put]; simp [h]
theorem put_more {v : Nat} (h : ¬ v < 128) : put v = UInt8.ofNat (v % 128 + 128) :: put (v / 128) := by rw [put]; simp [h]
theorem or_128 (v : Nat) : (v % 256) ||| 128 = v % 128 + 128 := by
  have : ∀ a : Fin 256, (a.val ||| 128) = a.val % 128 + 128 := by decide +kernel
  have := this ⟨v % 256, Nat.mod_lt _ (by decide)⟩
  simp only at this
  rw [this]
  omega
theorem put_length (v : Nat) : ∀ n, v < 128 ^ n → 0 < n → (put v).length ≤ n := by
  intro n
  induction n generalizing v with
  | zero => intro _ h; omega
  | succ n ih =>
    intro hv _
    by_cases h : v < 128
    · rw [put_small h]; simp
    · rw [put_more h]
      have h1 : v / 128 < 128 ^ n := by
        rw [Nat.pow_succ] at hv
        exact Nat.div_lt_of_lt_mul (by rw [Nat.mul_comm]; exact hv)
      have h2 : 0 < n := by
        rcases Nat.eq_zero_or_pos n with e | e
        · subst e; simp at h1; omega
        · exact e
      have := ih _ h1 h2
      simp only [List.length_cons]
      omega
theorem put_len64 {v : Nat} (h : v < 18446744073709551616) : (put v).length ≤ 10 := put_length v 10 (Nat.lt_of_lt_of_le h (by decide)) (by decide)

theorem take_succ_d {α : Type} [Inhabited α] {l : List α} {i : Nat} (h : i < l.length) : l.take (i + 1) = l.take i ++ [l.getD i default] := by
  rw [List.take_succ_eq_append_getElem h, List.getD_eq_getElem?_getD, List.getElem?_eq_getElem h]
  rfl
theorem drop_cons {α : Type} [Inhabited α] {l : List α} {i : Nat} (h : i < l.length) : l.drop i = l.getD i default :: l.drop (i + 1) := by
  rw [List.drop_eq_getElem_cons h, List.getD_eq_getElem?_getD, List.getElem?_eq_getElem h]
  rfl
/-- Order of keys. -/
abbrev lt (a b : List UInt8) : Bool := Op.bytesLess a b
def sorted : List En → Bool
  | a :: b :: l => lt a.key b.key && sorted (b :: l)
  | _ => true
/-- May a list have a block. -/
def fit (l : List En) : Bool := decide (0 < l.length) && decide (l.length ≤ 64) && sorted l && l.all right
/-- How many bytes two keys have in common at the front. -/
def common : List UInt8 → List UInt8 → Nat
  | a :: as, b :: bs => if a = b then common as bs + 1 else 0
  | _, _ => 0
theorem sorted_step {l : List En} {i : Nat} (h : i + 1 < l.length) : sorted (l.drop i) = (lt (l.getD i default).key (l.getD (i + 1) default).key && sorted (l.drop (i + 1))) := by
  rw [drop_cons (show i < l.length by omega), drop_cons h]
  rfl
theorem sorted_end {l : List En} {i : Nat} (h : l.length ≤ i + 1) : sorted (l.drop i) = true := by
  rcases Nat.lt_or_ge i l.length with hi | hi
  · rw [drop_cons hi, List.drop_of_length_le h]; rfl
  · rw [List.drop_of_length_le hi]; rfl
theorem lt_irrefl : ∀ a : List UInt8, lt a a = false
  | [] => rfl
  | a :: as => by
    have := lt_irrefl as
    simp only [lt, Op.bytesLess] at this ⊢
    simp [this]
/-- Keys held against one another. -/
def cmpK (a b : List UInt8) : Int := if lt a b = true then -1 else if a = b then 0 else 1
theorem cmpK_neg (a b : List UInt8) : 0 ≤ cmpK a b ↔ lt a b = false := by
  unfold cmpK
  split
  · rename_i h; simp [h]
  · split <;> simp_all
/-- The first place at which something holds. -/
def idx (p : En → Bool) : List En → Int
  | [] => -1
  | a :: l => if p a = true then 0 else if idx p l < 0 then -1 else idx p l + 1
theorem idx_any (p : En → Bool) : ∀ l : List En, 0 ≤ idx p l ↔ l.any p = true
  | [] => by simp [idx]
  | a :: l => by
    have := idx_any p l
    simp only [idx, List.any_cons, Bool.or_eq_true]
    split
    · rename_i h; simp [h]
    · rename_i h
      have e : (p a = true ∨ l.any p = true) ↔ 0 ≤ idx p l := by rw [this]; simp [h]
      rw [e]
      split
      · rename_i h2; constructor
        · intro h3; exact absurd h3 (by decide)
        · intro h3; omega
      · constructor <;> intro h3 <;> omega
theorem idx_lt (p : En → Bool) : ∀ l : List En, -1 ≤ idx p l ∧ idx p l < l.length
  | [] => by simp [idx]
  | a :: l => by
    have := idx_lt p l
    simp only [idx, List.length_cons]
    split
    · omega
    · split <;> omega

/-- Four bytes. -/
def fixed (v : Nat) : List UInt8 := [UInt8.ofNat (v / 16777216 % 256), UInt8.ofNat (v / 65536 % 256), UInt8.ofNat (v / 256 % 256), UInt8.ofNat (v % 256)]
/-- An entry's bytes in a block, n bytes of its key shared. -/
def encE (n : Nat) (e : En) : List UInt8 := put n ++ (put (e.key.drop n).length ++ e.key.drop n) ++ [if e.del = true then 1 else 0] ++ put e.seq.toNat ++ (if e.del = true then [] else put e.val.length ++ e.val)
/-- How many bytes are shared with the entry ahead. -/
def sharedAt (l : List En) (i : Nat) : Nat := if i % 8 = 0 then 0 else common (l.getD (i - 1) default).key (l.getD i default).key
/-- The bytes of the first entries, and of their places. -/
def blk (l : List En) : Nat → List UInt8 × List UInt8
  | 0 => ([], [])
  | i + 1 => ((blk l i).1 ++ encE (sharedAt l i) (l.getD i default), (blk l i).2 ++ if i % 8 = 0 then fixed (blk l i).1.length else [])
theorem fit_right {l : List En} (h : fit l = true) : l.length ≤ 64 ∧ 0 < l.length ∧ sorted l = true ∧ ∀ i, i < l.length → right (l.getD i default) = true := by
  simp only [fit, Bool.and_eq_true, decide_eq_true_eq, List.all_eq_true] at h
  obtain ⟨⟨⟨h1, h2⟩, h3⟩, h4⟩ := h
  refine ⟨h2, h1, h3, fun i hi => h4 _ ?_⟩
  rw [List.getD_eq_getElem?_getD, List.getElem?_eq_getElem hi]
  exact List.getElem_mem _
theorem right_bounds {e : En} (h : right e = true) : e.key ≠ [] ∧ e.key.length ≤ 128 ∧ e.val.length ≤ 1024 ∧ 1 ≤ e.seq ∧ e.seq ≤ 1099511627776 ∧ (e.del = true → e.val = []) := by
  simp only [right, Bool.and_eq_true, decide_eq_true_eq, Bool.not_eq_true', Bool.and_eq_false_iff, decide_eq_false_iff_not] at h
  obtain ⟨⟨⟨⟨⟨h1, h2⟩, h3⟩, h4⟩, h5⟩, h6⟩ := h
  refine ⟨h1, by omega, by omega, h5, h6, fun hd => ?_⟩
  rcases h4 with h4 | h4
  · rw [hd] at h4; cases h4
  · exact Classical.not_not.1 h4
end Go.Ab

/- A logic over abstract states (part 17): are two entries the same. -/
set_option linter.unusedVariables false
set_option linter.unusedSimpArgs false
namespace Go.Ab
variable {P : Program}

def isBoolT (P : Program) (t : TypeId) : Bool := match P.underlying t with
  | some .bool => true
  | _ => false
def isIntT (P : Program) (t : TypeId) : Bool := match P.underlying t with
  | some (.int _) => true
  | _ => false
def enFields (P : Program) (l : List Field) : Bool := match l with
  | [a, b, c, d] => a.name != "_" && b.name != "_" && c.name != "_" && d.name != "_" && Nat.beq a.offset 0 && Nat.beq b.offset 1 && Nat.beq c.offset 2 && Nat.beq d.offset 3 && isString P a.type && isString P b.type && isBoolT P c.type && isIntT P d.type
  | _ => false
/-- It is the type of entries. -/
def enType (P : Program) (t : TypeId) : Bool := (match P.underlying t with
  | some (.struct fs) => enFields P fs.toList
  | _ => false) && !P.stoodInHeld t && !P.eqGuardType P.depth t
theorem isBoolT_run {t : TypeId} (h : isBoolT P t = true) : P.underlying t = some .bool := by
  unfold isBoolT at h; split at h
  · assumption
  · cases h
theorem isIntT_run {t : TypeId} (h : isIntT P t = true) : ∃ k, P.underlying t = some (.int k) := by
  unfold isIntT at h; split at h
  · rename_i k hk; exact ⟨k, hk⟩
  · cases h
theorem isAgg_plain {t : TypeId} {d : TypeDesc} (h : P.underlying t = some d) (hd : (match d with | .struct _ | .array _ _ => true | _ => false) = false) (w : World) : (isAgg t).run P w = .ok false w := by
  refine run_isAgg ?_ w
  unfold isAggB
  rw [h]
  cases d <;> first | rfl | cases hd
theorem part_plain {t : TypeId} {d : TypeDesc} (h : P.underlying t = some d) (hd : (match d with | .struct _ | .array _ _ => true | _ => false) = false) {cs : Array Value} {off : Nat} {v : Value} (hv : cs[off]? = some v) (w : World) : (part t cs off).run P w = .ok v w := by
  unfold part
  simp only [Sem.run_bind, isAgg_plain h hd, Result.andThen_ok, hv]
  rfl
theorem enType_run' {t : TypeId} (h : enType P t = true) (k1 v1 k2 v2 : List UInt8) (d1 d2 : Bool) (s1 s2 : Int) (w : World) {X Y : Array Value} (hX : X = #[.string ⟨k1.toArray⟩, .string ⟨v1.toArray⟩, .bool d1, .int .i64 s1]) (hY : Y = #[.string ⟨k2.toArray⟩, .string ⟨v2.toArray⟩, .bool d2, .int .i64 s2]) :
    (Op.equalIn 10000 t (.agg X) (.agg Y)).run P w = .ok (decide (k1 = k2) && decide (v1 = v2) && decide (d1 = d2) && decide (s1 = s2)) w := by
  simp only [enType, Bool.and_eq_true, Bool.not_eq_true'] at h
  obtain ⟨⟨h1, h2⟩, h3⟩ := h
  split at h1
  · rename_i fs hfs
    have hf : P.fieldsOf t = fs := by simp [Program.fieldsOf, hfs]
    rw [run_equalIn_struct w 9999 t _ _ (by rw [hf]; exact hfs) h2, hf]
    unfold enFields at h1
    split at h1
    · rename_i a b c d hl
      simp only [Bool.and_eq_true, bne_iff_ne] at h1
      obtain ⟨⟨⟨⟨⟨⟨⟨⟨⟨⟨⟨n1, n2⟩, n3⟩, n4⟩, o1⟩, o2⟩, o3⟩, o4⟩, t1⟩, t2⟩, t3⟩, t4⟩ := h1
      have o1 := Nat.eq_of_beq_eq_true o1
      have o2 := Nat.eq_of_beq_eq_true o2
      have o3 := Nat.eq_of_beq_eq_true o3
      have o4 := Nat.eq_of_beq_eq_true o4
      have u1 := isString_run t1
      have u2 := isString_run t2
      have u3 := isBoolT_run t3
      obtain ⟨k, u4⟩ := isIntT_run t4
      rw [hl]
      have q1 := run_equalIn_string (P := P) w 9998 a.type ⟨k1.toArray⟩ ⟨k2.toArray⟩ u1
      have q2 := run_equalIn_string (P := P) w 9998 b.type ⟨v1.toArray⟩ ⟨v2.toArray⟩ u2
      have q3 := run_equalIn_bool' (P := P) w 9998 c.type d1 d2 u3
      have q4 := run_equalIn_int (P := P) w 9998 d.type .i64 k s1 s2 u4
      have pe1 : (part a.type X 0).run P w = .ok (.string ⟨k1.toArray⟩) w := part_plain u1 rfl (by rw [hX]; rfl) w
      have pf1 : (part a.type Y 0).run P w = .ok (.string ⟨k2.toArray⟩) w := part_plain u1 rfl (by rw [hY]; rfl) w
      have pe2 : (part b.type X 1).run P w = .ok (.string ⟨v1.toArray⟩) w := part_plain u2 rfl (by rw [hX]; rfl) w
      have pf2 : (part b.type Y 1).run P w = .ok (.string ⟨v2.toArray⟩) w := part_plain u2 rfl (by rw [hY]; rfl) w
      have pe3 : (part c.type X 2).run P w = .ok (.bool d1) w := part_plain u3 rfl (by rw [hX]; rfl) w
      have pf3 : (part c.type Y 2).run P w = .ok (.bool d2) w := part_plain u3 rfl (by rw [hY]; rfl) w
      have pe4 : (part d.type X 3).run P w = .ok (.int .i64 s1) w := part_plain u4 rfl (by rw [hX]; rfl) w
      have pf4 : (part d.type Y 3).run P w = .ok (.int .i64 s2) w := part_plain u4 rfl (by rw [hY]; rfl) w
      simp only [ByteArray.toList_mk, Nat.reduceAdd] at q1 q2 q3 q4
      simp only [Op.eqFields, n1, n2, n3, n4, o1, o2, o3, o4, ne_eq, not_false_eq_true, if_true, Sem.run_bind, pe1, pf1, pe2, pf2, pe3, pf3, pe4, pf4, q1, q2, q3, q4, Result.andThen_ok]
      clear hX hY
      by_cases h1 : k1 = k2
      · subst h1
        by_cases h2 : v1 = v2
        · subst h2
          by_cases h3 : d1 = d2
          · subst h3
            by_cases h4 : s1 = s2
            · subst h4; simp [pe2, pf2, pe3, pf3, pe4, pf4, q2, q3, q4]
            · simp [pe2, pf2, pe3, pf3, pe4, pf4, q2, q3, q4, h4]
          · simp [pe2, pf2, pe3, pf3, pe4, pf4, q2, q3, q4, h3]
        · simp [pe2, pf2, pe3, pf3, pe4, pf4, q2, q3, q4, h2]
      · simp [h1]
    · cases h1
  · cases h1
theorem enType_run {t : TypeId} (h : enType P t = true) (e f : En) (w : World) : (Op.equalIn 10000 t (.agg #[.string ⟨e.key.toArray⟩, .string ⟨e.val.toArray⟩, .bool e.del, .int .i64 e.seq]) (.agg #[.string ⟨f.key.toArray⟩, .string ⟨f.val.toArray⟩, .bool f.del, .int .i64 f.seq])).run P w = .ok (decide (e = f)) w := by
  rw [enType_run' h e.key e.val f.key f.val e.del f.del e.seq f.seq w rfl rfl]
  congr 1
  cases e; cases f
  simp only [En.mk.injEq]
  rw [Bool.eq_iff_iff]
  simp [and_assoc]
theorem En.plain (e : En) : plainV e.av = some (.agg #[.string ⟨e.key.toArray⟩, .string ⟨e.val.toArray⟩, .bool e.del, .int .i64 e.seq]) := rfl
theorem s_neqEn {t : TypeId} {e f : En} {K : AV → Prop} (h : enType P t = true) (hK : K (.val (.bool (decide (e ≠ f))))) : ∃ u, aBin P .neq t e.av f.av u ∧ K u := by
  refine ⟨_, (aBin_plain e.plain f.plain fun xo yo w => ?_).2 rfl, hK⟩
  have hg : P.eqGuardType P.depth t = false := by
    simp only [enType, Bool.and_eq_true, Bool.not_eq_true'] at h
    exact h.2
  simp only [Sem.run_bind, run_eqGuard_agg w .neq t xo yo _ _ hg, Result.andThen_ok, run_neq_struct, enType_run h]
  congr 2
  by_cases he : e = f <;> simp [he]
end Go.Ab

/- A logic over abstract states (part 19): entries as variables; where ways meet. -/
set_option linter.unusedVariables false
set_option linter.unusedSimpArgs false
namespace Go.Ab
variable {P : Program}

def En.zero : En := ⟨[], [], false, 0⟩
theorem splice_all {cs new : List AV} (h : new.length = cs.length) : splice cs 0 new = new := by
  unfold splice
  simp [h]
/-! ### Lists that a call hands back -/
def RetL {α : Type} (f : α → AV) (sz : Nat) (l : List α) (τ : Store) : AEnd → Store → Prop := fun x σ' => ∃ m, x = .ret (.lst sz (l.map f) m) ∧ σ' = τ
def RetG {α : Type} (f : α → AV) (E : TypeId) (sz : Nat) (l : List α) (τ : Store) : AEnd → Store → Prop := fun x σ' => (x = .ret (.val (.slice none 0 0)) ∧ l = [] ∧ σ' = τ) ∨ ∃ v n, x = .ret (.own v n) ∧ σ' = .row v E sz (l.map f) 0 :: τ
theorem RetG.lst {α : Type} {f : α → AV} {E : TypeId} {sz : Nat} {l : List α} {τ : Store} (hz : 0 < sz) {g : FuncId} {args : List AV} (h : ACalls P g args τ (RetG f E sz l τ)) : ACalls P g args τ (RetL f sz l τ) := by
  refine h.sub fun x σ' hx => ?_
  rcases hx with ⟨rfl, rfl, rfl⟩ | ⟨v, n, rfl, rfl⟩
  · exact ⟨_, .lst sz [] .nil, _, rfl, Sub.vals ⟨SubV.nil sz hz, trivial⟩, .nil, rfl, rfl⟩
  · exact ⟨_, .lst sz (l.map f) .ro, τ, rfl, Sub.freeze0 ⟨.inr ⟨⟨_, rfl⟩, rfl⟩, trivial⟩, .ro, rfl, rfl⟩
end Go.Ab

/- A logic over abstract states (part 20): rows that may still be nil. -/
set_option linter.unusedVariables false
set_option linter.unusedSimpArgs false
namespace Go.Ab
variable {P : Program}

/-- A growable row, or nil. -/
def Gr {α : Type} (f : α → AV) (E : TypeId) (sz : Nat) (b : AV) (L : List α) (σ : Store) : Prop := (b = .val (.slice none 0 0) ∧ L = [] ∧ σ = []) ∨ ∃ v, b = .own v L.length ∧ σ = [.row v E sz (L.map f) 0]
theorem Gr.nil {α : Type} {f : α → AV} {E : TypeId} {sz : Nat} : Gr f E sz (.val (.slice none 0 0)) ([] : List α) [] := .inl ⟨rfl, rfl, rfl⟩
theorem Gr.own {α : Type} {f : α → AV} {E : TypeId} {sz : Nat} {v : Value} {n : Nat} {L : List α} (h : n = L.length) : Gr f E sz (.own v n) L [.row v E sz (L.map f) 0] := .inr ⟨v, by rw [h], rfl⟩
theorem Frzs.refl (v : Value) (L : AV) : ∀ us : List AV, Frzs v L us us
  | [] => trivial
  | u :: us => ⟨.inl rfl, Frzs.refl v L us⟩
/-- Handed over as the first argument it is told as memory that turns no more. -/
theorem Gr.sub {α : Type} {f : α → AV} {E : TypeId} {sz : Nat} (hz : 0 < sz) {b : AV} {L : List α} {σ : Store} (h : Gr f E sz b L σ) {τ rest : Store} (hp : τ.Perm (σ ++ rest)) (args : List AV) : ∃ m, Sub τ (b :: args) rest (.lst sz (L.map f) m :: args) := by
  rcases h with ⟨rfl, rfl, rfl⟩ | ⟨v, rfl, rfl⟩
  · refine ⟨.nil, (Sub.less (Less.perm hp) _).trans (Sub.vals ⟨SubV.nil sz hz, SubVs.refl _⟩)⟩
  · refine ⟨.ro, (Sub.less (Less.perm hp) _).trans (Sub.freeze0 ⟨.inr ⟨⟨_, rfl⟩, rfl⟩, Frzs.refl _ _ _⟩)⟩
theorem Gr.len {α : Type} {f : α → AV} {E : TypeId} {sz : Nat} {b : AV} {L : List α} {σ : Store} (h : Gr f E sz b L σ) {t : TypeId} (ht : isSl P t = true) {K : AV → Prop} (hK : K (.val (.int .i64 L.length))) : ∃ u, aBuiltin P .len #[t] [b] u ∧ K u := by
  rcases h with ⟨rfl, rfl, rfl⟩ | ⟨v, rfl, rfl⟩
  · exact s_len_nil ht hK
  · exact s_len_own ht hK
theorem Gr.src {α : Type} {f : α → AV} {E : TypeId} {sz : Nat} (hf : Told f sz) {b : AV} {L : List α} {σ τ : Store} (h : Gr f E sz b L σ) (hs : ∀ e ∈ σ, e ∈ τ) : Src f sz τ b L := by
  rcases h with ⟨rfl, rfl, rfl⟩ | ⟨v, rfl, rfl⟩
  · exact src_nil
  · exact src_own hf (hs _ (List.mem_cons_self))

/-! ### Elements of rows -/
theorem s_ixo {sz : Nat} {v : Value} {n : Nat} {k : IntKind} {i : Int} {K : AV → Prop} (h0 : 0 ≤ i) (h1 : i < n) (hK : K (.eptr v sz i.toNat 0)) : ∃ u, aIndexAddr .slice sz (.own v n) (.val (.int k i)) u ∧ K u := ⟨_, ⟨h0, h1, rfl⟩, hK⟩
end Go.Ab

/- The base, part 4: a logic over abstract values, its steps. No program's statement here. -/
/- Steps through a printed condition, found by their shape (part 1): what a step is, numbers, tests. No program in sight. -/
set_option linter.unusedVariables false
set_option linter.unusedSimpArgs false
namespace Go.Ab
variable {P : Program}

/-- Some value that is so, and what is behind. -/
def Do (X K : AV → Prop) : Prop := ∃ u, X u ∧ K u
/-- To show G it is enough to show H. -/
class Stp (G : Prop) (H : outParam Prop) : Prop where
  go : H → G
def Need (φ H : Prop) : Prop := φ ∧ H
def Fact (φ H : Prop) : Prop := φ ∧ H
def Cho (φ A B : Prop) : Prop := (φ → A) ∧ (¬ φ → B)
def Alt (φ A B : Prop) : Prop := (φ ∧ A) ∨ B
def All {β : Type} (p : β → Prop) : Prop := ∀ y, p y
def Imp (φ H : Prop) : Prop := φ → H
/-- A slot of a loop or a join. -/
def At (vs : List AV) (i : Nat) (F : AV → Prop) : Prop := F (vs.getD i .undef)
instance at0 (a : AV) (vs : List AV) (F : AV → Prop) : Stp (At (a :: vs) 0 F) (F a) := ⟨fun h => h⟩
instance atS (a : AV) (vs : List AV) (i : Nat) (F : AV → Prop) : Stp (At (a :: vs) (i + 1) F) (At vs i F) := ⟨fun h => h⟩
theorem need {φ H : Prop} (h : φ) (k : H) : Need φ H := ⟨h, k⟩
theorem fact {φ H : Prop} (h : φ) (k : H) : Fact φ H := ⟨h, k⟩
theorem choT {φ A B : Prop} (h : φ) (a : A) : Cho φ A B := ⟨fun _ => a, fun n => absurd h n⟩
theorem choF {φ A B : Prop} (h : ¬ φ) (b : B) : Cho φ A B := ⟨fun y => absurd y h, fun _ => b⟩
theorem choF' {b : Bool} {A B : Prop} (h : b = false) (k : B) : Cho (b = true) A B := ⟨fun y => by (rw [h] at y; cases y), fun _ => k⟩
theorem cho {φ A B : Prop} (h : φ → A) (k : ¬ φ → B) : Cho φ A B := ⟨h, k⟩
theorem altT {φ A B : Prop} (h : φ) (a : A) : Alt φ A B := .inl ⟨h, a⟩
theorem altF {φ A B : Prop} (b : B) : Alt φ A B := .inr b
theorem all {β : Type} {p : β → Prop} (h : ∀ y, p y) : All p := h
theorem imp {φ H : Prop} (h : φ → H) : Imp φ H := h

def aIs (a u : AV) : Prop := u = a
instance (a : AV) (K : AV → Prop) : Stp (Do (aIs a) K) (K a) := ⟨fun h => ⟨a, rfl, h⟩⟩

/-! numbers that are not below zero -/
class NatOf (x : Int) (n : outParam Nat) : Prop where
  eq : x = (n : Int)
instance (n : Nat) : NatOf ((n : Nat) : Int) n := ⟨rfl⟩
instance natLit (k : Nat) : NatOf (no_index (@OfNat.ofNat Int k instOfNat)) (@OfNat.ofNat Nat k (instOfNatNat k)) := ⟨rfl⟩
instance (x y : Int) (a b : Nat) [h : NatOf x a] [k : NatOf y b] : NatOf (min x y) (min a b) := ⟨by rw [h.eq, k.eq]; omega⟩
instance (x y : Int) (a b : Nat) [h : NatOf x a] [k : NatOf y b] : NatOf (max x y) (max a b) := ⟨by rw [h.eq, k.eq]; omega⟩
/-! numbers of a byte, of four, of eight -/
abbrev W8 (w : UInt8) : AV := .val (.int .u8 (w.toNat : Int))
abbrev W32 (w : UInt32) : AV := .val (.int .u32 (w.toNat : Int))
abbrev W64 (w : UInt64) : AV := .val (.int .u64 (w.toNat : Int))
class U8Of (x : Int) (w : outParam UInt8) : Prop where
  eq : x = (w.toNat : Int)
class U32Of (x : Int) (w : outParam UInt32) : Prop where
  eq : x = (w.toNat : Int)
class U64Of (x : Int) (w : outParam UInt64) : Prop where
  eq : x = (w.toNat : Int)
instance (w : UInt8) : U8Of ((w.toNat : Nat) : Int) w := ⟨rfl⟩
instance (w : UInt32) : U32Of ((w.toNat : Nat) : Int) w := ⟨rfl⟩
instance (w : UInt64) : U64Of ((w.toNat : Nat) : Int) w := ⟨rfl⟩
/-! the operations on numbers -/
section arith
variable {t s d : TypeId} {x y : Int} {a b : Nat} {K : AV → Prop}
instance addN [h : NatOf x a] [k : NatOf y b] : Stp (Do (aBin P .add t (.val (.int .i64 x)) (.val (.int .i64 y))) K) (Need (a + b ≤ 9223372036854775807) (K (.val (.int .i64 ((a + b : Nat) : Int))))) :=
  ⟨fun ⟨h1, h2⟩ => s_add64 (by rw [h.eq, k.eq]; omega) (by rw [h.eq, k.eq]; omega) (by rw [h.eq, k.eq, ← Int.natCast_add]; exact h2)⟩
instance (priority := 90) addI : Stp (Do (aBin P .add t (.val (.int .i64 x)) (.val (.int .i64 y))) K) (Need (-9223372036854775808 ≤ x + y ∧ x + y ≤ 9223372036854775807) (K (.val (.int .i64 (x + y))))) :=
  ⟨fun ⟨h1, h2⟩ => s_add64 h1.1 h1.2 h2⟩
instance subN [h : NatOf x a] [k : NatOf y b] : Stp (Do (aBin P .sub t (.val (.int .i64 x)) (.val (.int .i64 y))) K)
    (Alt (b ≤ a ∧ a ≤ 9223372036854775807) (K (.val (.int .i64 ((a - b : Nat) : Int)))) (Need (-9223372036854775808 ≤ x - y ∧ x - y ≤ 9223372036854775807) (K (.val (.int .i64 (x - y)))))) :=
  ⟨fun hh => by
    rcases hh with ⟨h1, h2⟩ | ⟨h1, h2⟩
    · have e : x - y = ((a - b : Nat) : Int) := by rw [h.eq, k.eq]; omega
      exact s_sub64 (by rw [e]; omega) (by rw [e]; omega) (by rw [e]; exact h2)
    · exact s_sub64 h1.1 h1.2 h2⟩
instance (priority := 90) subI : Stp (Do (aBin P .sub t (.val (.int .i64 x)) (.val (.int .i64 y))) K) (Need (-9223372036854775808 ≤ x - y ∧ x - y ≤ 9223372036854775807) (K (.val (.int .i64 (x - y))))) :=
  ⟨fun ⟨h1, h2⟩ => s_sub64 h1.1 h1.2 h2⟩
instance mulN [h : NatOf x a] [k : NatOf y b] : Stp (Do (aBin P .mul t (.val (.int .i64 x)) (.val (.int .i64 y))) K) (Need (a * b ≤ 9223372036854775807) (K (.val (.int .i64 ((a * b : Nat) : Int))))) :=
  ⟨fun ⟨h1, h2⟩ => by
    have e : x * y = ((a * b : Nat) : Int) := by rw [h.eq, k.eq]; simp
    exact s_mul64 (by rw [e]; omega) (by rw [e]; omega) (by rw [e]; exact h2)⟩
instance remN {kk : IntKind} [h : NatOf x a] [k : NatOf y b] : Stp (Do (aBin P .rem t (.val (.int kk x)) (.val (.int kk y))) K) (Need (0 < b) (K (.val (.int kk ((a % b : Nat) : Int))))) :=
  ⟨fun ⟨h1, h2⟩ => by
    have e : x % y = ((a % b : Nat) : Int) := by rw [h.eq, k.eq]; simp
    exact s_remz (by rw [h.eq]; omega) (by rw [k.eq]; omega) (by rw [e]; exact h2)⟩
instance shrN {k' : IntKind} [h : NatOf x a] [k : NatOf y b] : Stp (Do (aBin P .shr t (.val (.int .i64 x)) (.val (.int k' y))) K) (Need (b < 64) (K (.val (.int .i64 ((a >>> b : Nat) : Int))))) :=
  ⟨fun ⟨h1, h2⟩ => s_shrz (by rw [h.eq]; omega) (by rw [k.eq]; omega) (by rw [k.eq]; simpa [IntKind.bits] using h1) fun z hz _ _ => by
    rw [hz, h.eq, k.eq]
    have e : (a : Int) / 2 ^ (b : Int).toNat = ((a >>> b : Nat) : Int) := by rw [Nat.shiftRight_eq_div_pow, Int.toNat_natCast]; simp
    rw [e]; exact h2⟩

theorem s_bin_nat {op : BinOp} {kk : IntKind} {φ : Prop} {ψ : Prop} [Decidable φ] [Decidable ψ] (he : φ ↔ ψ) (hs : ∀ {K : AV → Prop}, K (.val (.bool (decide φ))) → ∃ u, aBin P op t (.val (.int kk x)) (.val (.int kk y)) u ∧ K u) (hk : K (.val (.bool (decide ψ)))) : Do (aBin P op t (.val (.int kk x)) (.val (.int kk y))) K :=
  hs (by rw [decide_eq_decide.2 he]; exact hk)
instance eqlN {kk : IntKind} [h : NatOf x a] [k : NatOf y b] : Stp (Do (aBin P .eql t (.val (.int kk x)) (.val (.int kk y))) K) (K (.val (.bool (decide (a = b))))) := ⟨s_bin_nat (by rw [h.eq, k.eq]; omega) s_eql⟩
instance neqN {kk : IntKind} [h : NatOf x a] [k : NatOf y b] : Stp (Do (aBin P .neq t (.val (.int kk x)) (.val (.int kk y))) K) (K (.val (.bool (decide (¬ a = b))))) := ⟨s_bin_nat (by rw [h.eq, k.eq]; omega) s_neq⟩
instance lssN {kk : IntKind} [h : NatOf x a] [k : NatOf y b] : Stp (Do (aBin P .lss t (.val (.int kk x)) (.val (.int kk y))) K) (K (.val (.bool (decide (a < b))))) := ⟨s_bin_nat (by rw [h.eq, k.eq]; omega) s_lss⟩
instance leqN {kk : IntKind} [h : NatOf x a] [k : NatOf y b] : Stp (Do (aBin P .leq t (.val (.int kk x)) (.val (.int kk y))) K) (K (.val (.bool (decide (a ≤ b))))) := ⟨s_bin_nat (by rw [h.eq, k.eq]; omega) s_leq⟩
instance gtrN {kk : IntKind} [h : NatOf x a] [k : NatOf y b] : Stp (Do (aBin P .gtr t (.val (.int kk x)) (.val (.int kk y))) K) (K (.val (.bool (decide (b < a))))) := ⟨s_bin_nat (by rw [h.eq, k.eq]; omega) s_gtr⟩
instance geqN {kk : IntKind} [h : NatOf x a] [k : NatOf y b] : Stp (Do (aBin P .geq t (.val (.int kk x)) (.val (.int kk y))) K) (K (.val (.bool (decide (b ≤ a))))) := ⟨s_bin_nat (by rw [h.eq, k.eq]; omega) s_geq⟩
instance (priority := 90) eqlI {kk : IntKind} : Stp (Do (aBin P .eql t (.val (.int kk x)) (.val (.int kk y))) K) (K (.val (.bool (decide (x = y))))) := ⟨fun h => s_eql h⟩
instance (priority := 90) neqI {kk : IntKind} : Stp (Do (aBin P .neq t (.val (.int kk x)) (.val (.int kk y))) K) (K (.val (.bool (decide (¬ x = y))))) := ⟨fun h => s_neq h⟩
instance (priority := 90) lssI {kk : IntKind} : Stp (Do (aBin P .lss t (.val (.int kk x)) (.val (.int kk y))) K) (K (.val (.bool (decide (x < y))))) := ⟨fun h => s_lss h⟩
instance (priority := 90) leqI {kk : IntKind} : Stp (Do (aBin P .leq t (.val (.int kk x)) (.val (.int kk y))) K) (K (.val (.bool (decide (x ≤ y))))) := ⟨fun h => s_leq h⟩
instance (priority := 90) gtrI {kk : IntKind} : Stp (Do (aBin P .gtr t (.val (.int kk x)) (.val (.int kk y))) K) (K (.val (.bool (decide (y < x))))) := ⟨fun h => s_gtr h⟩
instance (priority := 90) geqI {kk : IntKind} : Stp (Do (aBin P .geq t (.val (.int kk x)) (.val (.int kk y))) K) (K (.val (.bool (decide (y ≤ x))))) := ⟨fun h => s_geq h⟩
instance minN {t t' : TypeId} {kk : IntKind} [h : NatOf x a] [k : NatOf y b] : Stp (Do (aBuiltin P .min #[t, t'] [.val (.int kk x), .val (.int kk y)]) K) (K (.val (.int kk ((min a b : Nat) : Int)))) :=
  ⟨fun hK => s_min (by
    have e : min x y = ((min a b : Nat) : Int) := by rw [h.eq, k.eq]; omega
    rw [e]; exact hK)⟩
instance maxN {t t' : TypeId} {kk : IntKind} [h : NatOf x a] [k : NatOf y b] : Stp (Do (aBuiltin P .max #[t, t'] [.val (.int kk x), .val (.int kk y)]) K) (K (.val (.int kk ((max a b : Nat) : Int)))) :=
  ⟨fun hK => s_max (by
    have e : max x y = ((max a b : Nat) : Int) := by rw [h.eq, k.eq]; omega
    rw [e]; exact hK)⟩
instance (priority := 90) minI {t t' : TypeId} {kk : IntKind} : Stp (Do (aBuiltin P .min #[t, t'] [.val (.int kk x), .val (.int kk y)]) K) (K (.val (.int kk (min x y)))) := ⟨fun h => s_min h⟩
instance (priority := 90) maxI {t t' : TypeId} {kk : IntKind} : Stp (Do (aBuiltin P .max #[t, t'] [.val (.int kk x), .val (.int kk y)]) K) (K (.val (.int kk (max x y)))) := ⟨fun h => s_max h⟩
end arith

/-! tests -/
section tests
variable {φ : Prop} [Decidable φ] {X K : AV → Prop} {A B' : Prop} {c : Bool} {x y : AV}
instance cB : Stp (aCond (.val (.bool (decide φ))) A B') (Cho φ A B') := ⟨fun h => s_cS h.1 h.2⟩
instance (priority := 90) cb : Stp (aCond (.val (.bool c)) A B') (Cho (c = true) A B') := ⟨fun h => s_cb h.1 fun e => h.2 (by rw [e]; decide)⟩
instance (priority := 1100) cTrue : Stp (aCond (.val (.bool true)) A B') A := ⟨fun h => s_cbT rfl h⟩
instance (priority := 1100) cFalse : Stp (aCond (.val (.bool false)) A B') B' := ⟨fun h => s_cbF rfl h⟩
instance (priority := 1100) cNot : Stp (aCond (.val (.bool (!c))) A B') (Cho (c = true) B' A) := ⟨fun h => by
  cases c
  · exact s_cbT rfl (h.2 (by decide))
  · exact s_cbF rfl (h.1 rfl)⟩
instance (priority := 1100) cNotd : Stp (aCond (.val (.bool (decide (¬ φ)))) A B') (Cho φ B' A) := ⟨fun h => by
  by_cases e : φ
  · exact s_cF (fun n => n e) (h.1 e)
  · exact s_cT e (h.2 e)⟩
instance gB : Stp (Do (aGuard (.val (.bool (decide φ))) true X) K) (Cho φ (Do X K) (K (.val Go.undef))) := ⟨fun h => s_gS h.1 h.2⟩
instance gB' : Stp (Do (aGuard (.val (.bool (decide φ))) false X) K) (Cho φ (K (.val Go.undef)) (Do X K)) := ⟨fun h => s_gS' h.2 h.1⟩
instance (priority := 90) gb : Stp (Do (aGuard (.val (.bool c)) true X) K) (Cho (c = true) (Do X K) (K (.val Go.undef))) := ⟨fun h => s_gbS h.1 fun e => h.2 (by rw [e]; decide)⟩
instance (priority := 90) gb' : Stp (Do (aGuard (.val (.bool c)) false X) K) (Cho (c = true) (K (.val Go.undef)) (Do X K)) := ⟨fun h => s_gbS' (fun e => h.2 (by rw [e]; decide)) h.1⟩
instance (priority := 1100) gT : Stp (Do (aGuard (.val (.bool true)) true X) K) (Do X K) := ⟨fun h => s_gbT rfl h⟩
instance (priority := 1100) gF : Stp (Do (aGuard (.val (.bool false)) true X) K) (K (.val Go.undef)) := ⟨fun h => s_gbF rfl h⟩
instance (priority := 1100) gT' : Stp (Do (aGuard (.val (.bool true)) false X) K) (K (.val Go.undef)) := ⟨fun h => s_gbF' rfl h⟩
instance (priority := 1100) gF' : Stp (Do (aGuard (.val (.bool false)) false X) K) (Do X K) := ⟨fun h => s_gbT' rfl h⟩
instance (priority := 1100) gNot : Stp (Do (aGuard (.val (.bool (!c))) true X) K) (Cho (c = true) (K (.val Go.undef)) (Do X K)) := ⟨fun h => by
  cases c
  · exact s_gbT rfl (h.2 (by decide))
  · exact s_gbF rfl (h.1 rfl)⟩
instance (priority := 1100) gNot' : Stp (Do (aGuard (.val (.bool (!c))) false X) K) (Cho (c = true) (Do X K) (K (.val Go.undef))) := ⟨fun h => by
  cases c
  · exact s_gbF' rfl (h.2 (by decide))
  · exact s_gbT' rfl (h.1 rfl)⟩
instance (priority := 1100) gNotd : Stp (Do (aGuard (.val (.bool (decide (¬ φ)))) true X) K) (Cho φ (K (.val Go.undef)) (Do X K)) := ⟨fun h => by
  by_cases e : φ
  · exact s_gF (fun n => n e) (h.1 e)
  · exact s_gT e (h.2 e)⟩
instance (priority := 1100) gNotd' : Stp (Do (aGuard (.val (.bool (decide (¬ φ)))) false X) K) (Cho φ (Do X K) (K (.val Go.undef))) := ⟨fun h => by
  by_cases e : φ
  · exact s_gT' (fun n => n e) (h.1 e)
  · exact s_gF' e (h.2 e)⟩
instance gU {w : Bool} : Stp (Do (aGuard (.val Go.undef) w X) K) (K (.val Go.undef)) := ⟨fun h => ex_guardU h⟩
instance pB : Stp (Do (aPick (.val (.bool (decide φ))) x y) K) (Cho φ (K x) (K y)) := ⟨fun h => s_pS h.1 h.2⟩
instance (priority := 90) pb : Stp (Do (aPick (.val (.bool c)) x y) K) (Cho (c = true) (K x) (K y)) := ⟨fun h => s_pb h.1 fun e => h.2 (by rw [e]; decide)⟩
instance (priority := 1100) pT : Stp (Do (aPick (.val (.bool true)) x y) K) (K x) := ⟨fun h => s_pbT rfl h⟩
instance (priority := 1100) pF : Stp (Do (aPick (.val (.bool false)) x y) K) (K y) := ⟨fun h => s_pbF rfl h⟩
instance (priority := 1100) pNot : Stp (Do (aPick (.val (.bool (!c))) x y) K) (Cho (c = true) (K y) (K x)) := ⟨fun h => by
  cases c
  · exact s_pbT rfl (h.2 (by decide))
  · exact s_pbF rfl (h.1 rfl)⟩
instance (priority := 1100) pNotd : Stp (Do (aPick (.val (.bool (decide (¬ φ)))) x y) K) (Cho φ (K y) (K x)) := ⟨fun h => by
  by_cases e : φ
  · exact s_pF (fun n => n e) (h.1 e)
  · exact s_pT e (h.2 e)⟩
instance notB : Stp (Do (aUn P .not (.val (.bool c))) K) (K (.val (.bool (!c)))) := ⟨fun h => s_not h⟩
instance (priority := 1100) notD : Stp (Do (aUn P .not (.val (.bool (decide φ)))) K) (K (.val (.bool (decide (¬ φ))))) := ⟨fun h => s_notd h⟩
instance (priority := 1200) notDD : Stp (Do (aUn P .not (.val (.bool (decide (¬ φ))))) K) (K (.val (.bool (decide φ)))) := ⟨fun h => s_notd (by
  have e : decide (¬ ¬ φ) = decide φ := decide_eq_decide.2 Decidable.not_not
  rw [e]; exact h)⟩
end tests
end Go.Ab

/- Steps (part 2): numbers of a byte, of four bytes, of eight. Printed by wip/st/mk2.py. -/
set_option linter.unusedVariables false
set_option linter.unusedSimpArgs false
namespace Go.Ab
variable {P : Program}
class KindIs (P : Program) (t : TypeId) (k : outParam IntKind) : Prop where
  h : kindOf P t = some k
theorem g_xor {t : TypeId} {k : IntKind} {x y : Int} {K : AV → Prop} (hk : k.signed = false) (hx : 0 ≤ x) (hx' : x < 2 ^ k.bits) (hy : 0 ≤ y) (hy' : y < 2 ^ k.bits) (hK : K (.val (.int k ((x.toNat ^^^ y.toNat : Nat) : Int)))) : ∃ u, aBin P .xor t (.val (.int k x)) (.val (.int k y)) u ∧ K u := by
  refine ⟨_, ?_, hK⟩
  refine (aBin_val fun _ _ w => ?_).2 rfl
  obtain ⟨a, rfl⟩ := Int.eq_ofNat_of_zero_le hx
  obtain ⟨b, rfl⟩ := Int.eq_ofNat_of_zero_le hy
  have ha : a < 2 ^ k.bits := by exact_mod_cast hx'
  have hb : b < 2 ^ k.bits := by exact_mod_cast hy'
  have e : (a ^^^ b) < 2 ^ k.bits := Nat.xor_lt_two_pow ha hb
  have hw : k.wrap ((a ^^^ b : Nat) : Int) = ((a ^^^ b : Nat) : Int) := by
    simp only [IntKind.wrap, hk, Bool.false_and]
    rw [if_neg (by simp)]
    exact_mod_cast Nat.mod_eq_of_lt e
  simp [eqGuard, binOp, Op.intBits, BitVec.ofInt_natCast, Nat.mod_eq_of_lt ha, Nat.mod_eq_of_lt hb, hw]
section conv
variable {s d : TypeId} {x : Int} {a : Nat} {k : IntKind} {K : AV → Prop}
instance convN [hd : KindIs P d .i64] [hs : KindIs P s k] [h : NatOf x a] : Stp (Do (fun u => aConvN s d (.val (.int k x)) u P) K) (Need (a ≤ 9223372036854775807) (K (.val (.int .i64 (a : Int))))) :=
  ⟨fun ⟨h1, h2⟩ => s_conv_i64 hd.h (by rw [h.eq]; omega) (by rw [h.eq]; omega) hs.h (by rw [h.eq]; exact h2)⟩
end conv

section w8
variable {t s d : TypeId} {x y : Int} {a b : Nat} {v w : UInt8} {kk k' : IntKind} {K : AV → Prop}
theorem lt8 (v : UInt8) : v.toNat < 256 := UInt8.toNat_lt v
instance or8 [h : U8Of x v] [k : U8Of y w] : Stp (Do (aBin P .or t (.val (.int .u8 x)) (.val (.int .u8 y))) K) (K (W8 (v ||| w))) :=
  ⟨fun hK => g_or rfl (by rw [h.eq]; omega) (by rw [h.eq]; have := lt8 v; simp only [IntKind.bits]; omega) (by rw [k.eq]; omega) (by rw [k.eq]; have := lt8 w; simp only [IntKind.bits]; omega) (by
    rw [h.eq, k.eq, Int.toNat_natCast, Int.toNat_natCast, ← UInt8.toNat_or]; exact hK)⟩
instance and8 [h : U8Of x v] [k : U8Of y w] : Stp (Do (aBin P .and t (.val (.int .u8 x)) (.val (.int .u8 y))) K) (K (W8 (v &&& w))) :=
  ⟨fun hK => g_and rfl (by rw [h.eq]; omega) (by rw [h.eq]; have := lt8 v; simp only [IntKind.bits]; omega) (by rw [k.eq]; omega) (by rw [k.eq]; have := lt8 w; simp only [IntKind.bits]; omega) (by
    rw [h.eq, k.eq, Int.toNat_natCast, Int.toNat_natCast, ← UInt8.toNat_and]; exact hK)⟩
instance shl8 [h : U8Of x v] [k : NatOf y b] : Stp (Do (aBin P .shl t (.val (.int .u8 x)) (.val (.int k' y))) K) (Need (b < 8) (K (W8 (v <<< UInt8.ofNat b)))) :=
  ⟨fun ⟨h1, h2⟩ => ⟨_, (r_shl (by rw [k.eq]; omega)).2 rfl, by
    have e : IntKind.wrap .u8 (x * 2 ^ min y.toNat (IntKind.bits .u8)) = (((v <<< UInt8.ofNat b).toNat : Nat) : Int) := by
      have hb : min (b : Int).toNat (IntKind.bits .u8) = b := by simp only [IntKind.bits, Int.toNat_natCast]; omega
      have hm : (UInt8.ofNat b).toNat % 8 = b := by simp only [UInt8.toNat_ofNat']; omega
      rw [h.eq, k.eq, hb, wrap_u8', UInt8.toNat_shiftLeft, hm, Nat.shiftLeft_eq, show (2 : Nat) ^ 8 = 256 from rfl, Int.natCast_emod, Int.natCast_mul, Int.natCast_pow]
      rfl
    rw [e]; exact h2⟩⟩
instance conv8 [hd : KindIs P d .u8] [hs : KindIs P s kk] [h : NatOf x a] : Stp (Do (fun u => aConvN s d (.val (.int kk x)) u P) K) (K (W8 (UInt8.ofNat a))) :=
  ⟨fun hK => s_conv hd.h hs.h (by
    have e : IntKind.wrap .u8 x = (((UInt8.ofNat a).toNat : Nat) : Int) := by rw [wrap_u8', h.eq, UInt8.toNat_ofNat']; omega
    rw [e]; exact hK)⟩
end w8
section w32
variable {t s d : TypeId} {x y : Int} {a b : Nat} {v w : UInt32} {kk k' : IntKind} {K : AV → Prop}
theorem lt32 (v : UInt32) : v.toNat < 4294967296 := UInt32.toNat_lt v
instance add32 [h : U32Of x v] [k : U32Of y w] : Stp (Do (aBin P .add t (.val (.int .u32 x)) (.val (.int .u32 y))) K) (K (W32 (v + w))) :=
  ⟨fun hK => ⟨_, r_add.2 rfl, by
    have e : IntKind.wrap .u32 (x + y) = (((v + w).toNat : Nat) : Int) := by rw [wrap_u32', h.eq, k.eq, UInt32.toNat_add]; omega
    rw [e]; exact hK⟩⟩
instance or32 [h : U32Of x v] [k : U32Of y w] : Stp (Do (aBin P .or t (.val (.int .u32 x)) (.val (.int .u32 y))) K) (K (W32 (v ||| w))) :=
  ⟨fun hK => g_or rfl (by rw [h.eq]; omega) (by rw [h.eq]; have := lt32 v; simp only [IntKind.bits]; omega) (by rw [k.eq]; omega) (by rw [k.eq]; have := lt32 w; simp only [IntKind.bits]; omega) (by
    rw [h.eq, k.eq, Int.toNat_natCast, Int.toNat_natCast, ← UInt32.toNat_or]; exact hK)⟩
instance and32 [h : U32Of x v] [k : U32Of y w] : Stp (Do (aBin P .and t (.val (.int .u32 x)) (.val (.int .u32 y))) K) (K (W32 (v &&& w))) :=
  ⟨fun hK => g_and rfl (by rw [h.eq]; omega) (by rw [h.eq]; have := lt32 v; simp only [IntKind.bits]; omega) (by rw [k.eq]; omega) (by rw [k.eq]; have := lt32 w; simp only [IntKind.bits]; omega) (by
    rw [h.eq, k.eq, Int.toNat_natCast, Int.toNat_natCast, ← UInt32.toNat_and]; exact hK)⟩
instance xor32 [h : U32Of x v] [k : U32Of y w] : Stp (Do (aBin P .xor t (.val (.int .u32 x)) (.val (.int .u32 y))) K) (K (W32 (v ^^^ w))) :=
  ⟨fun hK => g_xor rfl (by rw [h.eq]; omega) (by rw [h.eq]; have := lt32 v; simp only [IntKind.bits]; omega) (by rw [k.eq]; omega) (by rw [k.eq]; have := lt32 w; simp only [IntKind.bits]; omega) (by
    rw [h.eq, k.eq, Int.toNat_natCast, Int.toNat_natCast, ← UInt32.toNat_xor]; exact hK)⟩
instance shl32 [h : U32Of x v] [k : NatOf y b] : Stp (Do (aBin P .shl t (.val (.int .u32 x)) (.val (.int k' y))) K) (Need (b < 32) (K (W32 (v <<< UInt32.ofNat b)))) :=
  ⟨fun ⟨h1, h2⟩ => ⟨_, (r_shl (by rw [k.eq]; omega)).2 rfl, by
    have e : IntKind.wrap .u32 (x * 2 ^ min y.toNat (IntKind.bits .u32)) = (((v <<< UInt32.ofNat b).toNat : Nat) : Int) := by
      have hb : min (b : Int).toNat (IntKind.bits .u32) = b := by simp only [IntKind.bits, Int.toNat_natCast]; omega
      have hm : (UInt32.ofNat b).toNat % 32 = b := by simp only [UInt32.toNat_ofNat']; omega
      rw [h.eq, k.eq, hb, wrap_u32', UInt32.toNat_shiftLeft, hm, Nat.shiftLeft_eq, show (2 : Nat) ^ 32 = 4294967296 from rfl, Int.natCast_emod, Int.natCast_mul, Int.natCast_pow]
      rfl
    rw [e]; exact h2⟩⟩
instance shr32 [h : U32Of x v] [k : NatOf y b] : Stp (Do (aBin P .shr t (.val (.int .u32 x)) (.val (.int k' y))) K) (Need (b < 32) (K (W32 (v >>> UInt32.ofNat b)))) :=
  ⟨fun ⟨h1, h2⟩ => ⟨_, (r_shr (by rw [k.eq]; omega)).2 rfl, by
    have e : x.fdiv (2 ^ min y.toNat (IntKind.bits .u32)) = (((v >>> UInt32.ofNat b).toNat : Nat) : Int) := by
      have hb : min (b : Int).toNat (IntKind.bits .u32) = b := by simp only [IntKind.bits, Int.toNat_natCast]; omega
      have hm : (UInt32.ofNat b).toNat % 32 = b := by simp only [UInt32.toNat_ofNat']; omega
      rw [h.eq, k.eq, hb, UInt32.toNat_shiftRight, hm, Nat.shiftRight_eq_div_pow, shr_nat]
    rw [e]; exact h2⟩⟩
instance not32 [h : U32Of x v] : Stp (Do (aUn P .xor (.val (.int .u32 x))) K) (K (W32 (~~~v))) :=
  ⟨fun hK => ⟨W32 (~~~v), ⟨_, rfl, fun w0 => by
    have hv := lt32 v
    have e1 : BitVec.ofInt 32 (IntKind.max .u32) = BitVec.allOnes 32 := by decide
    have e2 : BitVec.ofInt 32 ((v.toNat : Nat) : Int) = v.toBitVec := by rw [BitVec.ofInt_natCast]; simp
    have e3 : IntKind.wrap .u32 (((BitVec.allOnes 32 ^^^ v.toBitVec).toNat : Nat) : Int) = (((~~~v).toNat : Nat) : Int) := by
      have h1 : (~~~v).toNat = (BitVec.allOnes 32 ^^^ v.toBitVec).toNat := by
        rw [BitVec.allOnes_xor]; rfl
      rw [h1]
      have h2 := (BitVec.allOnes 32 ^^^ v.toBitVec).isLt
      rw [wrap_u32']; omega
    rw [h.eq]
    simp only [Op.unary, Op.intBits, IntKind.bits, IntKind.signed, Bool.false_eq_true, if_false, e1, e2]
    show (pure (Value.int .u32 (IntKind.wrap .u32 ((BitVec.allOnes 32 ^^^ v.toBitVec).toNat : Int))) : Sem Value).run P w0 = _
    rw [e3]; rfl⟩, hK⟩⟩
instance conv32 [hd : KindIs P d .u32] [hs : KindIs P s kk] [h : NatOf x a] : Stp (Do (fun u => aConvN s d (.val (.int kk x)) u P) K) (K (W32 (UInt32.ofNat a))) :=
  ⟨fun hK => s_conv hd.h hs.h (by
    have e : IntKind.wrap .u32 x = (((UInt32.ofNat a).toNat : Nat) : Int) := by rw [wrap_u32', h.eq, UInt32.toNat_ofNat']; omega
    rw [e]; exact hK)⟩
end w32
section w64
variable {t s d : TypeId} {x y : Int} {a b : Nat} {v w : UInt64} {kk k' : IntKind} {K : AV → Prop}
instance (priority := 1100) natLit64 (k : Nat) : NatOf (((no_index (@OfNat.ofNat UInt64 k UInt64.instOfNat)).toNat : Nat) : Int) (k % 18446744073709551616) := ⟨rfl⟩
theorem lt64 (v : UInt64) : v.toNat < 18446744073709551616 := UInt64.toNat_lt v
instance add64 [h : U64Of x v] [k : U64Of y w] : Stp (Do (aBin P .add t (.val (.int .u64 x)) (.val (.int .u64 y))) K) (K (W64 (v + w))) :=
  ⟨fun hK => ⟨_, r_add.2 rfl, by
    have e : IntKind.wrap .u64 (x + y) = (((v + w).toNat : Nat) : Int) := by rw [wrap_u64', h.eq, k.eq, UInt64.toNat_add]; omega
    rw [e]; exact hK⟩⟩
instance sub64 [h : U64Of x v] [k : U64Of y w] : Stp (Do (aBin P .sub t (.val (.int .u64 x)) (.val (.int .u64 y))) K) (K (W64 (v - w))) :=
  ⟨fun hK => ⟨_, r_sub.2 rfl, by
    have e : IntKind.wrap .u64 (x - y) = (((v - w).toNat : Nat) : Int) := by
      have := lt64 v
      have := lt64 w
      rw [wrap_u64', h.eq, k.eq, UInt64.toNat_sub]; omega
    rw [e]; exact hK⟩⟩
instance mul64 [h : U64Of x v] [k : U64Of y w] : Stp (Do (aBin P .mul t (.val (.int .u64 x)) (.val (.int .u64 y))) K) (K (W64 (v * w))) :=
  ⟨fun hK => ⟨_, r_mul.2 rfl, by
    have e : IntKind.wrap .u64 (x * y) = (((v * w).toNat : Nat) : Int) := by
      rw [wrap_u64', h.eq, k.eq, UInt64.toNat_mul, ← Int.natCast_mul]; omega
    rw [e]; exact hK⟩⟩
instance or64 [h : U64Of x v] [k : U64Of y w] : Stp (Do (aBin P .or t (.val (.int .u64 x)) (.val (.int .u64 y))) K) (K (W64 (v ||| w))) :=
  ⟨fun hK => g_or rfl (by rw [h.eq]; omega) (by rw [h.eq]; have := lt64 v; simp only [IntKind.bits]; omega) (by rw [k.eq]; omega) (by rw [k.eq]; have := lt64 w; simp only [IntKind.bits]; omega) (by
    rw [h.eq, k.eq, Int.toNat_natCast, Int.toNat_natCast, ← UInt64.toNat_or]; exact hK)⟩
instance and64 [h : U64Of x v] [k : U64Of y w] : Stp (Do (aBin P .and t (.val (.int .u64 x)) (.val (.int .u64 y))) K) (K (W64 (v &&& w))) :=
  ⟨fun hK => g_and rfl (by rw [h.eq]; omega) (by rw [h.eq]; have := lt64 v; simp only [IntKind.bits]; omega) (by rw [k.eq]; omega) (by rw [k.eq]; have := lt64 w; simp only [IntKind.bits]; omega) (by
    rw [h.eq, k.eq, Int.toNat_natCast, Int.toNat_natCast, ← UInt64.toNat_and]; exact hK)⟩
instance shl64 [h : U64Of x v] [k : NatOf y b] : Stp (Do (aBin P .shl t (.val (.int .u64 x)) (.val (.int k' y))) K) (Need (b < 64) (K (W64 (v <<< UInt64.ofNat b)))) :=
  ⟨fun ⟨h1, h2⟩ => ⟨_, (r_shl (by rw [k.eq]; omega)).2 rfl, by
    have e : IntKind.wrap .u64 (x * 2 ^ min y.toNat (IntKind.bits .u64)) = (((v <<< UInt64.ofNat b).toNat : Nat) : Int) := by
      have hb : min (b : Int).toNat (IntKind.bits .u64) = b := by simp only [IntKind.bits, Int.toNat_natCast]; omega
      have hm : (UInt64.ofNat b).toNat % 64 = b := by simp only [UInt64.toNat_ofNat']; omega
      rw [h.eq, k.eq, hb, wrap_u64', UInt64.toNat_shiftLeft, hm, Nat.shiftLeft_eq, show (2 : Nat) ^ 64 = 18446744073709551616 from rfl, Int.natCast_emod, Int.natCast_mul, Int.natCast_pow]
      rfl
    rw [e]; exact h2⟩⟩
instance shr64 [h : U64Of x v] [k : NatOf y b] : Stp (Do (aBin P .shr t (.val (.int .u64 x)) (.val (.int k' y))) K) (Need (b < 64) (K (W64 (v >>> UInt64.ofNat b)))) :=
  ⟨fun ⟨h1, h2⟩ => ⟨_, (r_shr (by rw [k.eq]; omega)).2 rfl, by
    have e : x.fdiv (2 ^ min y.toNat (IntKind.bits .u64)) = (((v >>> UInt64.ofNat b).toNat : Nat) : Int) := by
      have hb : min (b : Int).toNat (IntKind.bits .u64) = b := by simp only [IntKind.bits, Int.toNat_natCast]; omega
      have hm : (UInt64.ofNat b).toNat % 64 = b := by simp only [UInt64.toNat_ofNat']; omega
      rw [h.eq, k.eq, hb, UInt64.toNat_shiftRight, hm, Nat.shiftRight_eq_div_pow, shr_nat]
    rw [e]; exact h2⟩⟩
instance conv64 [hd : KindIs P d .u64] [hs : KindIs P s kk] [h : NatOf x a] : Stp (Do (fun u => aConvN s d (.val (.int kk x)) u P) K) (K (W64 (UInt64.ofNat a))) :=
  ⟨fun hK => s_conv hd.h hs.h (by
    have e : IntKind.wrap .u64 x = (((UInt64.ofNat a).toNat : Nat) : Int) := by rw [wrap_u64', h.eq, UInt64.toNat_ofNat']; omega
    rw [e]; exact hK)⟩
instance (priority := 90) convi64 [hd : KindIs P d .u64] [hs : KindIs P s kk] : Stp (Do (fun u => aConvN s d (.val (.int kk x)) u P) K) (Need (0 ≤ x) (K (W64 (UInt64.ofNat x.toNat)))) :=
  ⟨fun ⟨h1, hK⟩ => s_conv hd.h hs.h (by
    have e : IntKind.wrap .u64 x = (((UInt64.ofNat x.toNat).toNat : Nat) : Int) := by rw [wrap_u64', UInt64.toNat_ofNat']; omega
    rw [e]; exact hK)⟩
instance (priority := 1100) min64 {t' : TypeId} [h : U64Of x v] [k : U64Of y w] : Stp (Do (aBuiltin P .min #[t, t'] [.val (.int .u64 x), .val (.int .u64 y)]) K) (K (W64 (if v.toNat ≤ w.toNat then v else w))) :=
  ⟨fun hK => s_min (by
    have e : min x y = (((if v.toNat ≤ w.toNat then v else w).toNat : Nat) : Int) := by rw [h.eq, k.eq]; split <;> omega
    rw [e]; exact hK)⟩
end w64
instance (priority := 1200) : NatOf (((0 : UInt8).toNat : Nat) : Int) 0 := ⟨rfl⟩
instance (priority := 1200) : NatOf (((1 : UInt8).toNat : Nat) : Int) 1 := ⟨rfl⟩
instance (priority := 1200) : NatOf (((128 : UInt8).toNat : Nat) : Int) 128 := ⟨rfl⟩
instance (priority := 1200) : NatOf (((1 : UInt64).toNat : Nat) : Int) 1 := ⟨rfl⟩
instance (priority := 1200) : NatOf (((3 : UInt64).toNat : Nat) : Int) 3 := ⟨rfl⟩
instance (priority := 1200) : NatOf (((7 : UInt64).toNat : Nat) : Int) 7 := ⟨rfl⟩
instance (priority := 1200) : NatOf (((8 : UInt64).toNat : Nat) : Int) 8 := ⟨rfl⟩
instance (priority := 1200) : NatOf (((10 : UInt64).toNat : Nat) : Int) 10 := ⟨rfl⟩
instance (priority := 1200) : NatOf (((16 : UInt64).toNat : Nat) : Int) 16 := ⟨rfl⟩
instance (priority := 1200) : NatOf (((24 : UInt64).toNat : Nat) : Int) 24 := ⟨rfl⟩
instance (priority := 1200) : NatOf (((128 : UInt64).toNat : Nat) : Int) 128 := ⟨rfl⟩
end Go.Ab

/- Steps (part 3): memory: strings, slices, variables, rows, append. No program in sight. -/
set_option linter.unusedVariables false
set_option linter.unusedSimpArgs false
namespace Go.Ab
variable {P : Program}

/-! cells -/
class Cells (u : AV) (cs : outParam (List AV)) : Prop where
  eq : u.cells = cs
instance (v : Value) : Cells (.val v) [.val v] := ⟨rfl⟩
instance (sz : Nat) (l : List AV) (m : SM) : Cells (.lst sz l m) [.lst sz l m] := ⟨rfl⟩
instance (cs : List AV) : Cells (.agg cs) cs := ⟨rfl⟩
class One (c : AV) : Prop where
  one : c.one = true
instance (k : IntKind) (n : Int) : One (.val (.int k n)) := ⟨rfl⟩
instance (b : Bool) : One (.val (.bool b)) := ⟨rfl⟩
instance (b : ByteArray) : One (.val (.string b)) := ⟨rfl⟩
instance (a : Option Addr) (n c : Nat) : One (.val (.slice a n c)) := ⟨rfl⟩
instance (sz : Nat) (l : List AV) (m : SM) : One (.lst sz l m) := ⟨rfl⟩
class Ones (cs : List AV) : Prop where
  ones : ∀ c ∈ cs, c.one = true
instance : Ones [] := ⟨by simp⟩
instance (c : AV) (cs : List AV) [h : One c] [k : Ones cs] : Ones (c :: cs) := ⟨by
  intro x hx
  rcases List.mem_cons.1 hx with rfl | hx
  · exact h.one
  · exact k.ones x hx⟩
instance (a b : List AV) [h : Ones a] [k : Ones b] : Ones (a ++ b) := ⟨by
  intro x hx
  rcases List.mem_append.1 hx with hx | hx
  · exact h.ones x hx
  · exact k.ones x hx⟩
/-- Each is told in so many cells. -/
class Enc {α : Type} (f : α → AV) (sz : outParam Nat) : Prop where
  told : Told f sz
  pos : 0 < sz
  mke : ∀ a, mkE (f a).cells = f a
instance : Enc byt 1 := ⟨told_byt, by decide, fun _ => rfl⟩
instance (l : List UInt8) : Ones (l.map byt) := ⟨by
  intro c hc
  obtain ⟨b, _, rfl⟩ := List.mem_map.1 hc
  rfl⟩
/-- What a list of values of zero is told as. -/
class FoldC (zs : List AV) (out : outParam (List AV)) : Prop where
  eq : zs = out
instance (priority := 10) (zs : List AV) : FoldC zs zs := ⟨rfl⟩

/-! what the table says of types -/
class SlT (P : Program) (t : TypeId) : Prop where
  h : isSl P t = true
class StrT (P : Program) (t : TypeId) : Prop where
  h : P.underlying t = some .string

/-! a list of things -/
/-- It may be told as a list. -/
class IsL {α : Type} (a : AV) (f : α → AV) (sz : Nat) (l : outParam (List α)) (m : outParam SM) : Prop where
  sub : SubV a (.lst sz (l.map f) m)
instance {α : Type} (f : α → AV) (sz : Nat) (l : List α) (m : SM) : IsL (.lst sz (l.map f) m) f sz l m := ⟨SubV.refl _⟩
instance {α : Type} (f : α → AV) (sz : Nat) [hz : Enc f sz] : IsL (.val (.slice none 0 0)) f sz ([] : List α) .nil := ⟨SubV.nil sz hz.pos⟩

section lists
variable {α : Type} {f : α → AV} {sz : Nat} {l : List α} {L : List UInt8} {m : SM} {t : TypeId} {K : AV → Prop} {v : Value} {n a b c : Nat} {x y z : Int} {k k' k'' : IntKind}
instance lenL [h : SlT P t] : Stp (Do (aBuiltin P .len #[t] [.lst sz (l.map f) m]) K) (K (.val (.int .i64 ((l.length : Nat) : Int)))) := ⟨fun hK => s_lenm h.h hK⟩
instance lenO [h : SlT P t] : Stp (Do (aBuiltin P .len #[t] [.own v n]) K) (K (.val (.int .i64 ((n : Nat) : Int)))) := ⟨fun hK => s_len_own h.h hK⟩
instance lenS [h : StrT P t] : Stp (Do (aBuiltin P .len #[t] [.val (.string ⟨L.toArray⟩)]) K) (K (.val (.int .i64 ((L.length : Nat) : Int)))) := ⟨fun hK => s_len_S h.h hK⟩
instance ixS [h : NatOf x a] : Stp (Do (aIndex .string false 1 (.val (.string ⟨L.toArray⟩)) (.val (.int k x))) K) (Need (a < L.length) (K (W8 (L.getD a 0)))) :=
  ⟨fun ⟨h1, h2⟩ => s_index_S (by rw [h.eq]; omega) (by rw [h.eq]; omega) (by rw [h.eq, Int.toNat_natCast]; exact h2)⟩
instance slS1 [h : NatOf x a] : Stp (Do (aSlice .string 1 (.val (.string ⟨L.toArray⟩)) (some (.val (.int k x))) none none) K) (Need (a ≤ L.length) (K (S (L.drop a)))) :=
  ⟨fun ⟨h1, h2⟩ => s_slice_S1 (by rw [h.eq]; omega) (by rw [h.eq]; omega) (by rw [h.eq, Int.toNat_natCast]; exact h2)⟩
instance slS2 [h : NatOf y b] : Stp (Do (aSlice .string 1 (.val (.string ⟨L.toArray⟩)) none (some (.val (.int k' y))) none) K) (Need (b ≤ L.length) (K (S (L.take b)))) :=
  ⟨fun ⟨h1, h2⟩ => s_slice_S2 (by rw [h.eq]; omega) (by rw [h.eq]; omega) (by rw [h.eq, Int.toNat_natCast]; exact h2)⟩
instance slL [h : NatOf x a] [h' : NatOf y b] : Stp (Do (aSlice .slice sz (.lst sz (l.map f) m) (some (.val (.int k x))) (some (.val (.int k' y))) none) K) (Need (a ≤ b ∧ b ≤ l.length) (K (.lst sz (((l.take b).drop a).map f) .ro))) :=
  ⟨fun ⟨h1, h2⟩ => s_slm (by rw [h.eq]; omega) (by rw [h.eq, h'.eq]; omega) (by rw [h'.eq]; omega) (by rw [h.eq, h'.eq, Int.toNat_natCast, Int.toNat_natCast]; exact h2)⟩
instance slL1 [h : NatOf x a] : Stp (Do (aSlice .slice sz (.lst sz (l.map f) m) (some (.val (.int k x))) none none) K) (Need (a ≤ l.length) (K (.lst sz ((l.drop a).map f) .ro))) :=
  ⟨fun ⟨h1, h2⟩ => s_slm1 (by rw [h.eq]; omega) (by rw [h.eq]; omega) (by rw [h.eq, Int.toNat_natCast]; exact h2)⟩
instance slL2 [h : NatOf y b] : Stp (Do (aSlice .slice sz (.lst sz (l.map f) m) none (some (.val (.int k' y))) none) K) (Need (b ≤ l.length) (K (.lst sz ((l.take b).map f) .ro))) :=
  ⟨fun ⟨h1, h2⟩ => s_slm2 (by rw [h.eq]; omega) (by rw [h.eq]; omega) (by rw [h.eq, Int.toNat_natCast]; exact h2)⟩
instance (priority := 1100) slLf : Stp (Do (aSlice .slice sz (.lst sz (l.map f) m) none (some (.val (.int k ((l.length : Nat) : Int)))) (some (.val (.int k' ((l.length : Nat) : Int))))) K) (K (.lst sz (l.map f) .full)) := ⟨fun hK => s_slmf hK⟩
instance ixL_ [Inhabited α] {cs : List AV} [h : NatOf x a] [hc : Cells (f (l.getD a default)) cs] : Stp (Do (aIndexAddr .slice sz (.lst sz (l.map f) m) (.val (.int k x))) K) (Need (a < l.length) (K (.rptr cs))) :=
  ⟨fun ⟨h1, h2⟩ => s_ixm (by rw [h.eq]; omega) (by rw [h.eq]; omega) (by rw [h.eq, Int.toNat_natCast, hc.eq]; exact h2)⟩
instance ixO [h : NatOf x a] : Stp (Do (aIndexAddr .slice sz (.own v n) (.val (.int k x))) K) (Need (a < n) (K (.eptr v sz a 0))) :=
  ⟨fun ⟨h1, h2⟩ => s_ixo (by rw [h.eq]; omega) (by rw [h.eq]; omega) (by rw [h.eq, Int.toNat_natCast]; exact h2)⟩
instance nilP {p : Addr} : Stp (Do (aNil (.val (.pointer (some p)))) K) (K (.val (.pointer (some p)))) := ⟨fun hK => ⟨_, rfl, hK⟩⟩
instance ext0 {u : AV} {us : List AV} : Stp (Do (aExt (.tuple (u :: us)) 0) K) (K u) := ⟨fun hK => s_ext0 hK⟩
instance ext1 {a u : AV} {us : List AV} : Stp (Do (aExt (.tuple (a :: u :: us)) 1) K) (K u) := ⟨fun hK => s_ext1 hK⟩
instance ext2 {a b u : AV} {us : List AV} : Stp (Do (aExt (.tuple (a :: b :: u :: us)) 2) K) (K u) := ⟨fun hK => s_ext2 hK⟩
instance convBS {z : Nat} : Stp (Do (aConvBS (.lst z (L.map byt) m)) K) (K (S L)) := ⟨fun hK => s_convBS hK⟩
end lists

/-! texts -/
section texts
variable {a b : List UInt8} {t : TypeId} {K : AV → Prop}
instance sEql : Stp (Do (aBin P .eql t (.val (.string ⟨a.toArray⟩)) (.val (.string ⟨b.toArray⟩))) K) (K (.val (.bool (decide (a = b))))) := ⟨fun h => s_s_eql h⟩
instance sNeq : Stp (Do (aBin P .neq t (.val (.string ⟨a.toArray⟩)) (.val (.string ⟨b.toArray⟩))) K) (K (.val (.bool (decide (¬ a = b))))) := ⟨fun h => s_s_neq h⟩
instance sLss : Stp (Do (aBin P .lss t (.val (.string ⟨a.toArray⟩)) (.val (.string ⟨b.toArray⟩))) K) (K (.val (.bool (Op.bytesLess a b)))) := ⟨fun h => s_s_lss h⟩
instance sGeq : Stp (Do (aBin P .geq t (.val (.string ⟨a.toArray⟩)) (.val (.string ⟨b.toArray⟩))) K) (K (.val (.bool (!Op.bytesLess a b)))) := ⟨fun h => s_s_geq h⟩
instance sLeq : Stp (Do (aBin P .leq t (.val (.string ⟨a.toArray⟩)) (.val (.string ⟨b.toArray⟩))) K) (K (.val (.bool (Op.bytesLess a b || decide (a = b))))) := ⟨fun h => s_s_leq h⟩
instance sGtr : Stp (Do (aBin P .gtr t (.val (.string ⟨a.toArray⟩)) (.val (.string ⟨b.toArray⟩))) K) (K (.val (.bool (!(Op.bytesLess a b || decide (a = b)))))) := ⟨fun h => s_s_gtr h⟩
end texts

/-! parts of what stands in cells -/
class Part (cs : List AV) (off s : Nat) (out : outParam (List AV)) : Prop where
  eq : (cs.drop off).take s = out
  le : off + s ≤ cs.length
  pos : 0 < s
instance part0 (c : AV) (cs : List AV) : Part (c :: cs) 0 1 [c] := ⟨rfl, by simp, by decide⟩
instance partS (c : AV) (cs out : List AV) (n : Nat) [h : Part cs n 1 out] : Part (c :: cs) (n + 1) 1 out := ⟨by simpa using h.eq, by have := h.le; simp only [List.length_cons]; omega, by decide⟩
/-- A variable's cells as a value. -/
class MkV (ag : Bool) (s : Nat) (cs : List AV) (u : outParam AV) : Prop where
  eq : mkV ag cs = u
  one : ag = false → s = 1
instance mkV0 (c : AV) : MkV false 1 [c] c := ⟨rfl, fun _ => rfl⟩
instance (priority := 10) mkV1 (s : Nat) (cs : List AV) : MkV true s cs (.agg cs) := ⟨rfl, fun h => by cases h⟩
class LenC (cs : List AV) (n : outParam Nat) : Prop where
  eq : cs.length = n
instance : LenC [] 0 := ⟨rfl⟩
instance (c : AV) (cs : List AV) (n : Nat) [h : LenC cs n] : LenC (c :: cs) (n + 1) := ⟨by simp [h.eq]⟩
class Splice (cs : List AV) (off : Nat) (new : List AV) (out : outParam (List AV)) : Prop where
  eq : splice cs off new = out
  le : off + new.length ≤ cs.length
instance splice0 (c d : AV) (cs : List AV) : Splice (c :: cs) 0 [d] (d :: cs) := ⟨rfl, by simp⟩
instance spliceS (c d : AV) (cs out : List AV) (n : Nat) [h : Splice cs n [d] out] : Splice (c :: cs) (n + 1) [d] (c :: out) := ⟨by
  rw [← h.eq]; simp [splice, Nat.add_right_comm], by have := h.le; simp only [List.length_cons, List.length_nil] at this ⊢; omega⟩

abbrev ptrAt (b off : Nat) : AV := .val (.pointer (some ⟨b, off, none⟩))
class VarAt (b : Nat) (σ : Store) (t : outParam TypeId) (cs : outParam (List AV)) (put : outParam (Ent → Store)) (rest : outParam Store) : Prop where
  at_ : ∃ σ1 σ2, σ = σ1 ++ .var b t cs :: σ2 ∧ (∀ x, put x = σ1 ++ x :: σ2) ∧ rest = σ1 ++ σ2
instance varHead (b : Nat) (t : TypeId) (cs : List AV) (σ : Store) : VarAt b (.var b t cs :: σ) t cs (fun x => x :: σ) σ := ⟨[], σ, rfl, fun _ => rfl, rfl⟩
instance (priority := 90) varTail (b : Nat) (t : TypeId) (cs : List AV) (σ rest : Store) (put : Ent → Store) (e : Ent) [h : VarAt b σ t cs put rest] : VarAt b (e :: σ) t cs (fun x => e :: put x) (e :: rest) := ⟨by
  obtain ⟨σ1, σ2, h1, h2, h3⟩ := h.at_
  exact ⟨e :: σ1, σ2, by rw [h1]; rfl, fun x => by rw [h2]; rfl, by rw [h3]; rfl⟩⟩
class RowAt (v : Value) (σ : Store) (E : outParam TypeId) (sz : outParam Nat) (l : outParam (List AV)) (fl : outParam Nat) (put : outParam (Ent → Store)) (rest : outParam Store) : Prop where
  at_ : ∃ σ1 σ2, σ = σ1 ++ .row v E sz l fl :: σ2 ∧ (∀ x, put x = σ1 ++ x :: σ2) ∧ rest = σ1 ++ σ2
instance rowHead (v : Value) (E : TypeId) (sz : Nat) (l : List AV) (fl : Nat) (σ : Store) : RowAt v (.row v E sz l fl :: σ) E sz l fl (fun x => x :: σ) σ := ⟨[], σ, rfl, fun _ => rfl, rfl⟩
instance (priority := 90) rowTail (v : Value) (E : TypeId) (sz : Nat) (l : List AV) (fl : Nat) (σ rest : Store) (put : Ent → Store) (e : Ent) [h : RowAt v σ E sz l fl put rest] : RowAt v (e :: σ) E sz l fl (fun x => e :: put x) (e :: rest) := ⟨by
  obtain ⟨σ1, σ2, h1, h2, h3⟩ := h.at_
  exact ⟨e :: σ1, σ2, by rw [h1]; rfl, fun x => by rw [h2]; rfl, by rw [h3]; rfl⟩⟩
section mem
variable {α : Type} {f : α → AV} {sz s off o : Nat} {l ys : List α} {ag : Bool} {b n m : Nat} {t E : TypeId} {cs ds xs zs out : List AV} {σ rest : Store} {put : Ent → Store} {K : AV → Prop} {k : AV → Store → Prop} {u x : AV} {v : Value} {i j fl by_ : Nat}
instance ldR [h : Part cs 0 s out] [h1 : MkV ag s out u] : Stp (Do (loadA ag s (.rptr cs) σ) K) (K u) :=
  ⟨fun hK => ⟨u, ⟨h.pos, h1.one, by have := h.le; omega, by rw [← h1.eq, ← h.eq]; rfl⟩, hK⟩⟩
instance ldV [hv : VarAt b σ t cs put rest] [h : Part cs off s out] [h1 : MkV ag s out u] : Stp (Do (loadA ag s (ptrAt b off) σ) K) (K u) :=
  ⟨fun hK => by
    obtain ⟨σ1, σ2, e, _⟩ := hv.at_
    exact ⟨u, ⟨h.pos, h1.one, rfl, t, cs, by rw [e]; simp, h.le, by rw [← h1.eq, ← h.eq]⟩, hK⟩⟩
instance ldE [Inhabited α] [hv : RowAt v σ E sz (l.map f) fl put rest] [he : Enc f sz] [hc : Cells (f (l.getD i default)) cs] [h : Part cs j s out] [h1 : MkV ag s out u] : Stp (Do (loadA ag s (.eptr v sz i j) σ) K) (Need (i < l.length) (K u)) :=
  ⟨fun ⟨hi, hK⟩ => by
    obtain ⟨σ1, σ2, e, _⟩ := hv.at_
    refine ⟨u, ⟨h.pos, h1.one, E, l.map f, fl, by rw [e]; simp, by simpa using hi, ?_, ?_⟩, hK⟩
    · have := h.le
      rw [← hc.eq, (he.told _).1] at this
      exact this
    · rw [getD_map default hi, hc.eq, ← h1.eq, ← h.eq]⟩
instance faR [h : Part cs off s out] : Stp (Do (aFieldAddr off s (.rptr cs)) K) (K (.rptr out)) := ⟨fun hK => ⟨_, ⟨h.pos, h.le, rfl⟩, by rw [h.eq]; exact hK⟩⟩
class Pos (s : Nat) : Prop where
  pos : 0 < s
instance (n : Nat) : Pos (n + 1) := ⟨Nat.succ_pos n⟩
instance (priority := 1100) faP0 [h : Pos s] : Stp (Do (aFieldAddr off s (ptrAt b 0)) K) (K (ptrAt b off)) := ⟨fun hK => ⟨_, ⟨h.pos, rfl⟩, by
  have e : (⟨b, 0, none⟩ : Addr).add off = ⟨b, off, none⟩ := by rw [addr_lit_add, Nat.zero_add]
  rw [e]; exact hK⟩⟩
instance faP [h : Pos s] : Stp (Do (aFieldAddr off s (ptrAt b o)) K) (K (ptrAt b (o + off))) := ⟨fun hK => ⟨_, ⟨h.pos, rfl⟩, by rw [addr_lit_add]; exact hK⟩⟩
instance (priority := 1100) faE0 [h : Pos s] : Stp (Do (aFieldAddr off s (.eptr v sz i 0)) K) (K (.eptr v sz i off)) := ⟨fun hK => ⟨_, ⟨h.pos, rfl⟩, by rw [Nat.zero_add]; exact hK⟩⟩
instance frz [hc : Cells x cs] [ho : Ones cs] : Stp (Do (aFreeze (AV.cells x)) K) (K (.rptr cs)) := ⟨fun hK => ⟨_, ⟨by rw [hc.eq]; exact ho.ones, rfl⟩, by rw [hc.eq]; exact hK⟩⟩
instance newC [hc : Cells x cs] [ho : Ones cs] : Stp (aNewVar t (AV.cells x) σ k) (All fun b => k (ptrAt b 0) (.var b t cs :: σ)) := ⟨fun hK => ⟨by rw [hc.eq]; exact ho.ones, fun b _ => by rw [hc.eq]; exact hK b⟩⟩
instance (priority := 90) newL [hc : FoldC cs out] [ho : Ones cs] : Stp (aNewVar t cs σ k) (All fun b => k (ptrAt b 0) (.var b t out :: σ)) := ⟨fun hK => ⟨ho.ones, fun b _ => by
  have := hK b
  rw [← hc.eq] at this
  exact this⟩⟩
instance stV [hc : Cells x xs] [hl : LenC xs s] [ho : Ones xs] [hv : VarAt b σ t cs put rest] [hp : Splice cs off xs out] : Stp (storeA s (ptrAt b off) x σ k) (k .undef (put (.var b t out))) :=
  ⟨fun hK => by
    obtain ⟨σ1, σ2, e, e2, _⟩ := hv.at_
    refine ⟨by rw [hc.eq, hl.eq], by rw [hc.eq]; exact ho.ones, rfl, σ1, σ2, t, cs, e, ?_, ?_⟩
    · have := hp.le
      rw [hl.eq] at this
      exact this
    · rw [e2] at hK
      rw [hc.eq, hp.eq]
      exact hK⟩
/-- What is said of a value: it is f of something. -/
class AsF {α : Type} (f : α → AV) (x : AV) (y : outParam α) : Prop where
  eq : x = f y
instance (priority := 10) asf (y : α) : AsF f (f y) y := ⟨rfl⟩
instance (n : Int) (w : UInt8) [h : U8Of n w] : AsF byt (.val (.int .u8 n)) w := ⟨by rw [h.eq]; rfl⟩
theorem map_set_enc [Inhabited α] (he : Enc f sz) {l : List α} {i : Nat} (hi : i < l.length) (y : α) {cs : List AV} (h : splice (f (l.getD i default)).cells j cs = (f y).cells) :
    (l.map f).set i (mkE (splice ((l.map f).getD i .undef).cells j cs)) = (l.set i y).map f := by
  rw [getD_map default hi, h, he.mke, List.map_set]
instance stE [Inhabited α] {y : α} [hv : RowAt v σ E sz (l.map f) fl put rest] [he : Enc f sz] [ha : AsF f x y] : Stp (storeA sz (.eptr v sz i 0) x σ k) (Need (fl ≤ i ∧ i < l.length) (k .undef (put (.row v E sz ((l.set i y).map f) fl)))) :=
  ⟨fun ⟨hi, hK⟩ => by
    obtain ⟨σ1, σ2, e, e2, _⟩ := hv.at_
    refine ⟨by rw [ha.eq, (he.told y).1], by rw [ha.eq]; exact (he.told y).2, σ1, σ2, E, _, fl, e, hi.1, by simpa using hi.2, by omega, by rw [getD_map default hi.2]; exact (he.told _).2, ?_⟩
    rw [e2] at hK
    rw [map_set_enc he hi.2 y (by rw [splice_all (by rw [ha.eq, (he.told _).1, (he.told _).1]), ha.eq])]
    exact hK⟩
/-! literals of slices -/
class ElemF (zs : List AV) (α : outParam Type) (f : outParam (α → AV)) : Prop where
  some : True
instance : ElemF [.val (.int .u8 0)] UInt8 byt := ⟨trivial⟩
class Parts {α : Type} (f : α → AV) (parts : List (Nat × AV)) (i : Nat) (ys : outParam (List α)) : Prop where
  eq : parts = ((ys.map f).zipIdx i).map fun p => (p.2, p.1)
instance (i : Nat) : Parts f [] i [] := ⟨rfl⟩
instance (i : Nat) (x : AV) (y : α) (ys : List α) (ps : List (Nat × AV)) [h : AsF f x y] [h2 : Parts f ps (i + 1) ys] : Parts f ((i, x) :: ps) i (y :: ys) := ⟨by rw [h.eq, h2.eq]; rfl⟩
instance slLit {z : List AV} {parts : List (Nat × AV)} [hf : ElemF z α f] [he : Enc f sz] [hp : Parts f parts 0 ys] : Stp (Do (aSlLit (mkE z) sz n parts) K) (Fact ((mkE z).cells.length = sz ∧ ys.length = n) (K (.lst sz (ys.map f) .full))) :=
  ⟨fun ⟨h, hK⟩ => s_lit (ys.map f) h.1 (by simpa using h.2) hp.eq (told_len he.told ys) (by
    intro p hp c hc
    obtain ⟨y, _, rfl⟩ := List.mem_map.1 hp
    exact (he.told y).2 c hc) hK⟩
theorem flat_one (he : Enc f sz) (ys : List α) : ∀ c ∈ flat (ys.map f), c.one = true := by
  intro c hc
  obtain ⟨u, hu, hc⟩ := List.mem_flatMap.1 hc
  obtain ⟨y, _, rfl⟩ := List.mem_map.1 hu
  exact (he.told y).2 c hc
instance rowLit {z : List AV} {parts : List (Nat × AV)} [hf : ElemF z α f] [he : Enc f sz] [hp : Parts f parts 0 ys] : Stp (aRowL E (mkE z) sz n parts σ k) (Fact ((mkE z).cells.length = sz ∧ ys.length = n) (All fun v => k (.own v n) (.row v E sz (ys.map f) 0 :: σ))) :=
  ⟨fun ⟨h, hK⟩ => by
    refine ⟨?_, ys.map f, by simpa using h.2, told_len he.told ys, flat_one he ys, ?_, fun v => hK v⟩
    · intro p hpm c hc
      rw [hp.eq] at hpm
      obtain ⟨q, hq, rfl⟩ := List.mem_map.1 hpm
      obtain ⟨h1, h2⟩ := List.mem_zipIdx hq |>.2
      have : q.1 ∈ ys.map f := by
        rw [h2]
        exact List.getElem_mem _
      obtain ⟨y, _, e⟩ := List.mem_map.1 this
      rw [← e] at hc
      exact (he.told y).2 c hc
    · have := fillA_row sz (ys.map f) 0 [] ((List.replicate n (mkE z).cells).flatten) (told_len he.told ys) (by simp) (by simp [List.length_flatten, h.1, h.2])
      rw [hp.eq]
      simpa using this⟩

/-! append -/
class SrcI (sz : Nat) (σ : Store) (x : AV) (α : outParam Type) (f : outParam (α → AV)) (ys : outParam (List α)) : Prop where
  src : Src f sz σ x ys
instance srcL [he : Enc f sz] {m : SM} : SrcI sz σ (.lst sz (ys.map f) m) α f ys := ⟨src_lst he.told⟩
instance srcS {ys : List UInt8} : SrcI 1 σ (.val (.string ⟨ys.toArray⟩)) UInt8 byt ys := ⟨src_S⟩
instance appO [hr : RowAt v σ E sz (l.map f) fl put rest] [hs : SrcI sz σ x α f ys] : Stp (aAppend E sz by_ (.own v n) x σ (subK k))
    (Need ((l.length + ys.length) * by_ ≤ 140737488355328 ∧ l.length + ys.length ≤ 9223372036854775807) (All fun v' => k (.own v' (l ++ ys).length) (put (.row v' E sz ((l ++ ys).map f) fl)))) :=
  ⟨fun ⟨h, hK⟩ => by
    obtain ⟨σ1, σ2, e, e2, _⟩ := hr.at_
    have hs' := hs.src
    subst e
    exact s_app_own hs' h.1 h.2 fun v' => s_keep (by rw [← e2]; exact hK v')⟩
instance appF [hs : SrcI sz σ x α f ys] : Stp (aAppend E sz by_ (.lst sz (l.map f) .full) x σ (subK k))
    (Need (0 < ys.length ∧ (l.length + ys.length) * by_ ≤ 140737488355328 ∧ l.length + ys.length ≤ 9223372036854775807) (All fun v' => k (.own v' (l ++ ys).length) (.row v' E sz ((l ++ ys).map f) 0 :: σ))) :=
  ⟨fun ⟨h, hK⟩ => s_app_full hs.src (by intro e; rw [e] at h; simp at h) h.2.1 h.2.2 fun v' => s_keep (hK v')⟩
class ZeroE (zs : List Value) (α : outParam Type) (f : outParam (α → AV)) (z : outParam α) : Prop where
  eq : mkE (zs.map .val) = f z
  one : ∀ v ∈ zs, v.oneCell' = true
instance : ZeroE [.int .u8 0] UInt8 byt 0 := ⟨rfl, by simp [Value.oneCell']⟩
instance mkS {zs : List Value} {x y : Int} {kk kk' : IntKind} {z : α} {f : α → AV} [hz : ZeroE zs α f z] [h : NatOf x n] [h' : NatOf y m] : Stp (aMake E zs s by_ (.val (.int kk x)) (.val (.int kk' y)) σ (subK k))
    (Need (n ≤ m ∧ by_ * m ≤ 281474976710656 ∧ m ≤ 9223372036854775807) (All fun v => k (.own v n) (.row v E s ((List.replicate n z).map f) 0 :: σ))) :=
  ⟨fun ⟨h1, hK⟩ => by
    have e1 := h.eq
    have e2 := h'.eq
    subst e1; subst e2
    refine ⟨by omega, by omega, ?_, by omega, hz.one, fun v => s_keep ?_⟩
    · have := Int.ofNat_le.2 h1.2.1
      rw [Int.natCast_mul] at this
      exact this
    · have := hK v
      rw [Int.toNat_natCast, hz.eq, ← List.map_replicate]
      exact this⟩
end mem
end Go.Ab

/- Steps (part 4): calls; what is handed over. No program in sight. -/
set_option linter.unusedVariables false
set_option linter.unusedSimpArgs false
namespace Go.Ab
variable {P : Program}

/-- What is handed over, with rows of one's own told as memory that turns no more. -/
class Give (σ : Store) (us : List AV) (σ' : outParam Store) (us' : outParam (List AV)) : Prop where
  sub : Sub σ us σ' us'
instance giveNil (σ : Store) : Give σ [] σ [] := ⟨Sub.refl _ _⟩
theorem Sub.cons_same {σ σ' : Store} {us us' : List AV} (u : AV) (h : Sub σ us σ' us') : Sub σ (u :: us) σ' (u :: us') := by
  intro R w vs hv hs
  obtain ⟨hl, hr⟩ := hv
  match vs, hl with
  | v :: vs, hl =>
    have h0 : VR R v u := hr 0 u v rfl rfl
    have hv' : VRs R vs us := ⟨by simpa using hl, fun j x y hx hy => hr (j + 1) x y (by simpa using hx) (by simpa using hy)⟩
    obtain ⟨R', h1, h2, h3⟩ := h R w vs hv' hs
    exact ⟨R', VRs.cons (h0.mono h3.ro) h1, h2, h3⟩
instance (priority := 50) giveKeep (σ σ' : Store) (u : AV) (us us' : List AV) [h : Give σ us σ' us'] : Give σ (u :: us) σ' (u :: us') := ⟨Sub.cons_same u h.sub⟩
theorem Sub.cons_own {σ1 σ2 σ' : Store} {v : Value} {E : TypeId} {sz fl n : Nat} {l us us' : List AV} (h : Sub (σ1 ++ σ2) us σ' us') : Sub (σ1 ++ .row v E sz l fl :: σ2) (.own v n :: us) σ' (.lst sz l .ro :: us') := by
  refine Sub.trans (Sub.freeze (σ1 := σ1) (σ2 := σ2) (args' := .lst sz l .ro :: us) ⟨.inr ⟨⟨n, rfl⟩, rfl⟩, Frzs.refl _ _ _⟩) (Sub.cons_same _ h)
instance giveOwn (σ rest σ' : Store) (v : Value) (n : Nat) (E : TypeId) (sz : Nat) (l : List AV) (fl : Nat) (put : Ent → Store) (us us' : List AV) [hr : RowAt v σ E sz l fl put rest] [h : Give rest us σ' us'] : Give σ (.own v n :: us) σ' (.lst sz l .ro :: us') := ⟨by
  obtain ⟨σ1, σ2, e, _, e3⟩ := hr.at_
  subst e; have := h.sub; rw [e3] at this
  exact Sub.cons_own this⟩

/-- A function that is told by its arguments alone. -/
class PC (P : Program) (f : FuncId) (args : List AV) (pre : outParam Prop) (u : outParam AV) : Prop where
  ct : pre → ∃ args1, SubVs args args1 ∧ aPure P f args1 u
/-- A function without a body. -/
class XC (P : Program) (f : FuncId) (args : List AV) (u : outParam AV) : Prop where
  ct : aPureC P f args u
theorem PC.of {f : FuncId} {args : List AV} {u : AV} (h : aPure P f args u) : ∃ args1, SubVs args args1 ∧ aPure P f args1 u := ⟨args, SubVs.refl _, h⟩
section calls
variable {f : FuncId} {args args' a b : List AV} {pre : Prop} {u : AV} {K : AV → Prop} {σ σ' : Store} {k kp : AV → Store → Prop}
instance pcall [h : PC P f args pre u] : Stp (Do (aPureC P f args) K) (Need pre (K u)) := ⟨fun ⟨h1, h2⟩ => ⟨u, .inl (h.ct h1), h2⟩⟩
instance xcall [h : XC P f args u] : Stp (Do (aPureC P f args) K) (K u) := ⟨fun h2 => ⟨u, h.ct, h2⟩⟩
instance pcallV {g : FuncId} : Stp (Do (aPureV P (.val (.func (.func g) #[] #[])) args) K) (Do (aPureC P g args) K) := ⟨fun ⟨v, h1, h2⟩ => ⟨v, by
  have e : ([] ++ args ++ [] : List AV) = args := by simp
  unfold aPureV calleeOf
  simp only [List.toList_toArray, List.map_nil, e]
  simpa using h1, h2⟩⟩
instance ecallV {g : FuncId} : Stp (aCallV P (.val (.func (.func g) #[] #[])) args σ k kp) (aCall P g args σ k kp) := ⟨fun h => by
  have e : ([] ++ args ++ [] : List AV) = args := by simp
  unfold aCallV calleeOf
  simp only [List.toList_toArray, List.map_nil, e]
  simpa using h⟩
/-- What is told without memory. -/
class Ground (u : AV) : Prop where
  g : ∀ R R' v, VR R v u → VR R' v u
instance (v : Value) : Ground (.val v) := ⟨fun R R' w h => by rw [h.val_inv]; exact .val v⟩
class Grounds (us : List AV) : Prop where
  g : ∀ u ∈ us, Ground u
/-- A function with memory of its own: what it asks, what it hands back and leaves. -/
class EC (P : Program) (f : FuncId) (args : List AV) (σ : Store) (pre : outParam Prop) (β : outParam Type) (r : outParam (β → AV)) (s : outParam (β → Store)) : Prop where
  ct : pre → ACalls P f args σ fun x σ' => ∃ y, x = .ret (r y) ∧ σ' = s y
instance (priority := 100) ecallP [h : PC P f args pre u] : Stp (aCall P f args σ k kp) (Need pre (k u σ)) := ⟨fun ⟨h1, h2⟩ => by
  obtain ⟨args1, hs, hp⟩ := h.ct h1
  refine Or.inl ⟨σ, args1, Sub.vals hs, ?_⟩
  have hf := hp.frame σ
  exact hf.mono fun x τ ⟨σ1, e1, _, e2, e3⟩ => by
    rw [e2, e1, e3]
    exact h2⟩
instance (priority := 110) ecallE {β : Type} {r : β → AV} {s : β → Store} [h : EC P f args σ pre β r s] : Stp (aCall P f args σ k kp) (Need pre (All fun y => k (r y) (s y))) := ⟨fun ⟨h1, h2⟩ =>
  Or.inl ⟨σ, args, Sub.refl _ _, (h.ct h1).mono fun x τ ⟨y, e1, e2⟩ => by rw [e1, e2]; exact h2 y⟩⟩
instance (priority := 70) ecallEG {β : Type} {r : β → AV} {s : β → Store} [hg : Give σ args σ' args'] [h : EC P f args' σ' pre β r s] : Stp (aCall P f args σ k kp) (Need pre (All fun y => k (r y) (s y))) := ⟨fun ⟨h1, h2⟩ =>
  Or.inl ⟨σ', args', hg.sub, (h.ct h1).mono fun x τ ⟨y, e1, e2⟩ => by rw [e1, e2]; exact h2 y⟩⟩
/-- .. and what is known of what it hands back. -/
class EQ (P : Program) (f : FuncId) (args : List AV) (σ : Store) (pre : outParam Prop) (β : outParam Type) (c : outParam (β → Prop)) (r : outParam (β → AV)) (s : outParam (β → Store)) : Prop where
  ct : pre → ACalls P f args σ fun x σ' => ∃ y, c y ∧ x = .ret (r y) ∧ σ' = s y
instance (priority := 120) ecallQ {β : Type} {c : β → Prop} {r : β → AV} {s : β → Store} [h : EQ P f args σ pre β c r s] : Stp (aCall P f args σ k kp) (Need pre (All fun y => Imp (c y) (k (r y) (s y)))) := ⟨fun ⟨h1, h2⟩ =>
  Or.inl ⟨σ, args, Sub.refl _ _, (h.ct h1).mono fun x τ ⟨y, e0, e1, e2⟩ => by rw [e1, e2]; exact h2 y e0⟩⟩
theorem ACalls.subV {Q : AEnd → Store → Prop} (h : ACalls P f args' σ Q) (hs : SubVs args args') : ACalls P f args σ Q := ⟨h.1, fun R w vs hv hst => h.2 R w vs (hs.rel hv) hst⟩
end calls
end Go.Ab

/- Steps (part 5): entries; truth values held against one another. No program in sight. -/
set_option linter.unusedVariables false
set_option linter.unusedSimpArgs false
namespace Go.Ab
variable {P : Program}
def Both (A B : Prop) : Prop := A ∧ B
theorem both {A B : Prop} (a : A) (b : B) : Both A B := ⟨a, b⟩
section geff
variable {φ : Prop} [Decidable φ] {A B' : Prop} {c : Bool}
end geff

class BoolT (P : Program) (t : TypeId) : Prop where
  h : isBoolT P t = true
theorem s_neqB {t : TypeId} {a b : Bool} {K : AV → Prop} (h : isBoolT P t = true) (hK : K (.val (.bool (decide (¬ a = b))))) : ∃ u, aBin P .neq t (.val (.bool a)) (.val (.bool b)) u ∧ K u := by
  refine ⟨_, (aBin_val fun _ _ w => ?_).2 rfl, hK⟩
  have hu := isBoolT_run h
  have q : (Op.equalIn Op.maxDepth t (.bool a) (.bool b)).run P w = .ok (decide (a = b)) w := by
    have := run_equalIn_bool' (P := P) w 9999 t a b hu
    have e : (a == b) = decide (a = b) := by cases a <;> cases b <;> rfl
    rw [e] at this
    exact this
  simp [eqGuard, binOp, Op.equal, q]
instance neB {t : TypeId} {a b : Bool} {K : AV → Prop} [h : BoolT P t] : Stp (Do (aBin P .neq t (.val (.bool a)) (.val (.bool b))) K) (K (.val (.bool (decide (¬ a = b))))) := ⟨fun hK => s_neqB h.h hK⟩

/-! entries -/
class EnT (P : Program) (t : TypeId) : Prop where
  h : enType P t = true
section en
variable {e f o : En} {x y : List UInt8} {d : Bool} {q : Int} {t : TypeId} {K : AV → Prop}
instance : Enc En.av 4 := ⟨told_En, by decide, fun _ => rfl⟩
instance : Cells (En.av e) (En.cs e) := ⟨rfl⟩
instance : Ones (En.cs e) := ⟨(told_En e).2⟩
instance : LenC (En.cs e) 4 := ⟨rfl⟩
instance : Part (En.cs e) 0 1 [S e.key] := ⟨rfl, Nat.le_of_ble_eq_true rfl, by decide⟩
instance : Part (En.cs e) 1 1 [S e.val] := ⟨rfl, Nat.le_of_ble_eq_true rfl, by decide⟩
instance : Part (En.cs e) 2 1 [B e.del] := ⟨rfl, Nat.le_of_ble_eq_true rfl, by decide⟩
instance : Part (En.cs e) 3 1 [I .i64 e.seq] := ⟨rfl, Nat.le_of_ble_eq_true rfl, by decide⟩
instance : Part (En.cs e) 0 4 (En.cs e) := ⟨rfl, Nat.le_of_ble_eq_true rfl, by decide⟩
instance : MkV true 4 (En.cs e) (En.av e) := ⟨rfl, fun h => by cases h⟩
instance : FoldC [.val (.string ⟨#[]⟩), .val (.string ⟨#[]⟩), .val (.bool false), .val (.int .i64 0)] (En.cs En.zero) := ⟨rfl⟩
instance : ElemF [.val (.string ⟨#[]⟩), .val (.string ⟨#[]⟩), .val (.bool false), .val (.int .i64 0)] En En.av := ⟨trivial⟩
instance : ZeroE [.string ⟨#[]⟩, .string ⟨#[]⟩, .bool false, .int .i64 0] En En.av En.zero := ⟨rfl, by simp [Value.oneCell']⟩
instance : Splice (En.cs e) 0 [S x] (En.cs ⟨x, e.val, e.del, e.seq⟩) := ⟨rfl, Nat.le_of_ble_eq_true rfl⟩
instance : Splice (En.cs e) 0 (En.cs f) (En.cs f) := ⟨rfl, Nat.le_of_ble_eq_true rfl⟩
class FillEn (parts : List (Nat × AV)) (k v : List UInt8) (d : Bool) (q : Int) (o : outParam En) : Prop where
  one : partsOne parts
  eq : fillA ([(0, 1), (1, 1), (2, 1), (3, 1)][·]?) (En.cs ⟨k, v, d, q⟩) parts = some o.cs
theorem FillEn.cons {ps : List (Nat × AV)} {i : Nat} {u : AV} {k v k' v' : List UInt8} {d d' : Bool} {q q' : Int} (h : FillEn ps k' v' d' q' o) (h1 : u.cells.length = 1) (h2 : ∀ c ∈ u.cells, c.one = true) (hi : i < 4) (h3 : splice (En.cs ⟨k, v, d, q⟩) i u.cells = En.cs ⟨k', v', d', q'⟩) : FillEn ((i, u) :: ps) k v d q o := ⟨fun p hp c hc => by
    rcases List.mem_cons.1 hp with rfl | hp
    · exact h2 c hc
    · exact h.one p hp c hc, by
    have e1 : ([(0, 1), (1, 1), (2, 1), (3, 1)] : List (Nat × Nat))[i]? = some (i, 1) := by
      match i, hi with
      | 0, _ => rfl
      | 1, _ => rfl
      | 2, _ => rfl
      | 3, _ => rfl
    simp only [fillA, e1, h1]
    rw [if_pos ⟨trivial, by show i + 1 ≤ 4; omega⟩, h3]
    exact h.eq⟩
section fill
variable {k v : List UInt8} {ps : List (Nat × AV)}
instance : FillEn [] k v d q ⟨k, v, d, q⟩ := ⟨fun p hp => by simp at hp, rfl⟩
instance [h : FillEn ps x v d q o] : FillEn ((0, S x) :: ps) k v d q o := h.cons rfl (by simp [AV.cells, AV.one, Value.oneCell']) (by decide) rfl
instance {b : Bool} [h : FillEn ps k v b q o] : FillEn ((2, B b) :: ps) k v d q o := h.cons rfl (by simp [AV.cells, AV.one, Value.oneCell']) (by decide) rfl
instance {n : Int} [h : FillEn ps k v d n o] : FillEn ((3, I .i64 n) :: ps) k v d q o := h.cons rfl (by simp [AV.cells, AV.one, Value.oneCell']) (by decide) rfl
instance litEn {parts : List (Nat × AV)} [h : FillEn parts [] [] false 0 o] : Stp (Do (aLit [.val (.string ⟨#[]⟩), .val (.string ⟨#[]⟩), .val (.bool false), .val (.int .i64 0)] [(0, 1), (1, 1), (2, 1), (3, 1)] parts) K) (K o.av) := ⟨fun hK => ⟨_, ⟨h.one, _, h.eq, rfl⟩, hK⟩⟩
instance (priority := 1100) : Part (En.cs ⟨k, v, d, q⟩) 1 1 [S v] := ⟨rfl, Nat.le_of_ble_eq_true rfl, by decide⟩
instance (priority := 1100) : Part (En.cs ⟨k, v, d, q⟩) 2 1 [B d] := ⟨rfl, Nat.le_of_ble_eq_true rfl, by decide⟩
instance (priority := 1100) : Part (En.cs ⟨k, v, d, q⟩) 3 1 [I .i64 q] := ⟨rfl, Nat.le_of_ble_eq_true rfl, by decide⟩
instance (priority := 1100) : Splice (En.cs ⟨k, v, d, q⟩) 1 [S x] (En.cs ⟨k, x, d, q⟩) := ⟨rfl, Nat.le_of_ble_eq_true rfl⟩
end fill
instance neEn [h : EnT P t] : Stp (Do (aBin P .neq t e.av f.av) K) (K (.val (.bool (decide (¬ e = f))))) := ⟨fun hK => s_neqEn h.h hK⟩
end en
end Go.Ab

/- Steps (part 6): maps, walks over maps, parts of rows, clear, copy. No program in sight. -/
set_option linter.unusedVariables false
set_option linter.unusedSimpArgs false
namespace Go.Ab
variable {P : Program}

/-! what is printed -/
def aHook (X : (AV → Store → Prop) → Prop) (k : AV → Store → Prop) : Prop := ∃ post, X post ∧ ∀ u σ', post u σ' → k u σ'
def eMakeMap (σ : Store) (post : AV → Store → Prop) : Prop := post = postMake σ
def eMapUpd (P : Program) (t : TypeId) (m k v : AV) (σ : Store) (post : AV → Store → Prop) : Prop := match m, k with
    | .val (.map (some b)), .val kv => ∃ d z l clock σ1 σ2, mapOf P t = some (d, z) ∧ MapKept.IsKey d kv ∧ σ = σ1 ++ .map b l clock :: σ2 ∧ (∀ x ∈ l, MapKept.IsKey d x.2.1) ∧
        post = fun u σ' => u = .undef ∧ σ' = σ1 ++ .map b (setM kv v clock l) (bif l.any (fun x => keyb kv x.2.1) then clock else clock + 1) :: σ2
    | _, _ => False
def eRange (P : Program) (t : TypeId) (m : AV) (σ : Store) (post : AV → Store → Prop) : Prop := match m with
    | .val (.map (some mb)) => ∃ l clock, isMapT P t = true ∧ Ent.map mb l clock ∈ σ ∧ post = postRange σ mb clock
    | _ => False
def eNext (it : AV) (σ : Store) (post : AV → Store → Prop) : Prop := match it with
    | .val (.pointer (some a)) => a.spot = none ∧ a.off = 0 ∧ ∃ σ1 σ2 mb clock seen l, σ = σ1 ++ .iter a.block mb clock seen clock :: σ2 ∧ Ent.map mb l clock ∈ σ1 ++ σ2 ∧ post = postNext σ1 σ2 a.block mb clock seen l
    | _ => False
def eClear (P : Program) (t : TypeId) (x : AV) (σ : Store) (post : AV → Store → Prop) : Prop := match x with
        | .sub v sz a n => ∃ E zs s by_ l σ1 σ2, rowOf P t = some (E, zs, s, by_) ∧ (∀ z ∈ zs, z.oneCell' = true) ∧ σ = σ1 ++ .row v E sz l 0 :: σ2 ∧ s = sz ∧ a + n ≤ l.length ∧
            post = fun u σ' => u = .undef ∧ σ' = σ1 ++ .row v E sz (l.take a ++ List.replicate n (mkE (zs.map .val)) ++ l.drop (a + n)) 0 :: σ2
        | _ => False
def eCopy (P : Program) (t xt : TypeId) (d x : AV) (σ : Store) (post : AV → Store → Prop) : Prop := (∃ sz ys, srcP sz σ x ys ∧ copyOk P t sz d ys σ ∧ post = copyTo d ys σ) ∨ rawB P .copy #[t, xt] [d, x] σ post
def lenMA (P : Program) (t : TypeId) (m : AV) (σ : Store) (u : AV) : Prop := isMapT P t = true ∧ lenM m σ u
def lookV (P : Program) (x : AV) (args : List AV) (σ : Store) (u : AV) : Prop := match calleeOf x with
        | some (f, a, b) => lookC P f (a ++ args ++ b) σ u
        | none => False
/-! frozen loads -/
section
variable {cs out : List AV} {s : Nat} {ag : Bool} {u : AV} {K : AV → Prop}
instance ldF [h : Part cs 0 s out] [h1 : MkV ag s out u] : Stp (Do (loadF ag s (.rptr cs)) K) (K u) :=
  ⟨fun hK => ⟨u, ⟨h.pos, h1.one, by have := h.le; omega, by rw [← h1.eq, ← h.eq]; rfl⟩, hK⟩⟩
end

/-! maps -/
class MapT (P : Program) (t : TypeId) (d : outParam TypeDesc) (z : outParam Value) : Prop where
  h : mapOf P t = some (d, z)
theorem MapT.is {t : TypeId} {d : TypeDesc} {z : Value} (h : MapT P t d z) : isMapT P t = true := by
  obtain ⟨k, e, hu, _⟩ := mapOf_run h.h
  unfold isMapT
  rw [hu]
class MapAt (b : Nat) (σ : Store) (l : outParam MapL) (clock : outParam Nat) (put : outParam (Ent → Store)) (rest : outParam Store) : Prop where
  at_ : ∃ σ1 σ2, σ = σ1 ++ .map b l clock :: σ2 ∧ (∀ x, put x = σ1 ++ x :: σ2) ∧ rest = σ1 ++ σ2
instance mapHead (b : Nat) (l : MapL) (clock : Nat) (σ : Store) : MapAt b (.map b l clock :: σ) l clock (fun x => x :: σ) σ := ⟨[], σ, rfl, fun _ => rfl, rfl⟩
instance (priority := 90) mapTail (b : Nat) (l : MapL) (clock : Nat) (σ rest : Store) (put : Ent → Store) (e : Ent) [h : MapAt b σ l clock put rest] : MapAt b (e :: σ) l clock (fun x => e :: put x) (e :: rest) := ⟨by
  obtain ⟨σ1, σ2, h1, h2, h3⟩ := h.at_
  exact ⟨e :: σ1, σ2, by rw [h1]; rfl, fun x => by rw [h2]; rfl, by rw [h3]; rfl⟩⟩
class IterAt (b : Nat) (σ : Store) (mb since : outParam Nat) (seen : outParam (List Nat)) (stepped : outParam Nat) (put : outParam (Ent → Store)) (rest : outParam Store) : Prop where
  at_ : ∃ σ1 σ2, σ = σ1 ++ .iter b mb since seen stepped :: σ2 ∧ (∀ x, put x = σ1 ++ x :: σ2) ∧ rest = σ1 ++ σ2
instance iterHead (b mb since stepped : Nat) (seen : List Nat) (σ : Store) : IterAt b (.iter b mb since seen stepped :: σ) mb since seen stepped (fun x => x :: σ) σ := ⟨[], σ, rfl, fun _ => rfl, rfl⟩
/-- How keys are told. -/
class KeyE (κ : Type) [DecidableEq κ] (g : κ → Value) (d : outParam TypeDesc) : Prop where
  is : ∀ k, MapKept.IsKey d (g k)
  eq : ∀ a b, keyb (g a) (g b) = decide (a = b)
def keyS (l : List UInt8) : Value := .string ⟨l.toArray⟩
instance : KeyE (List UInt8) keyS .string := ⟨fun _ => trivial, fun a b => by simp [keyb, keyS]⟩
/-- A map's table, told by keys and elements. -/
def mkM {κ α : Type} (g : κ → Value) (f : α → AV) (L : List (Nat × κ × α)) : MapL := L.map fun x => (x.1, g x.2.1, f x.2.2)
def findT {κ α : Type} [DecidableEq κ] (k : κ) (L : List (Nat × κ × α)) : Option α := (L.find? fun x => decide (k = x.2.1)).map (·.2.2)
def setT {κ α : Type} [DecidableEq κ] (k : κ) (v : α) (clock : Nat) : List (Nat × κ × α) → List (Nat × κ × α)
  | [] => [(clock, k, v)]
  | x :: l => bif decide (k = x.2.1) then (x.1, x.2.1, v) :: l else x :: setT k v clock l
def hasT {κ α : Type} [DecidableEq κ] (k : κ) (L : List (Nat × κ × α)) : Bool := L.any fun x => decide (k = x.2.1)
def leftT {κ α : Type} (L : List (Nat × κ × α)) (seen : List Nat) : List (Nat × κ × α) := L.filter fun x => !seen.contains x.1
section tables
variable {κ α : Type} [DecidableEq κ] {g : κ → Value} {f : α → AV} {d : TypeDesc}
theorem findM_mk (hk : KeyE κ g d) (k : κ) (L : List (Nat × κ × α)) : findM (g k) (mkM g f L) = (findT k L).map f := by
  unfold findM findT mkM
  rw [List.find?_map]
  simp only [Option.map_map]
  have e : ((fun x : Nat × Value × AV => keyb (g k) x.2.1) ∘ fun x : Nat × κ × α => (x.1, g x.2.1, f x.2.2)) = fun x => decide (k = x.2.1) := by
    funext x
    simp [hk.eq]
  rw [e]
  rfl
theorem setM_mk (hk : KeyE κ g d) (k : κ) (v : α) (clock : Nat) : ∀ L : List (Nat × κ × α), setM (g k) (f v) clock (mkM g f L) = mkM g f (setT k v clock L)
  | [] => rfl
  | x :: L => by
    have ih := setM_mk hk k v clock L
    simp only [mkM, List.map_cons, setM, hk.eq, setT] at ih ⊢
    cases decide (k = x.2.1) with
    | true => simp
    | false => simp [ih]
theorem any_mk (hk : KeyE κ g d) (k : κ) (L : List (Nat × κ × α)) : (mkM g f L).any (fun x => keyb (g k) x.2.1) = hasT k L := by
  unfold mkM hasT
  rw [List.any_map]
  congr 1
  funext x
  simp [hk.eq]
theorem keys_mk (hk : KeyE κ g d) (L : List (Nat × κ × α)) : ∀ x ∈ mkM g f L, MapKept.IsKey d x.2.1 := by
  intro x hx
  obtain ⟨y, _, rfl⟩ := List.mem_map.1 hx
  exact hk.is _
end tables
theorem left_mk {κ α : Type} {g : κ → Value} {f : α → AV} (L : List (Nat × κ × α)) (seen : List Nat) : leftM (mkM g f L) seen = mkM g f (leftT L seen) := by
  unfold leftM mkM leftT
  rw [List.filter_map]
  rfl
theorem leftT_mem {κ α : Type} {L : List (Nat × κ × α)} {seen : List Nat} {x : Nat × κ × α} (h : x ∈ leftT L seen) : x ∈ L := (List.mem_filter.1 h).1
class AsKey {κ : Type} (g : κ → Value) (v : Value) (k : outParam κ) : Prop where
  eq : v = g k
instance (l : List UInt8) : AsKey keyS (.string ⟨l.toArray⟩) l := ⟨rfl⟩
class ZeroV {α : Type} (f : α → AV) (z : Value) (o : outParam α) : Prop where
  eq : ofV z = f o
def Hyp (φ H : Prop) : Prop := φ ∧ H
theorem hyp {φ H : Prop} (h : φ) (k : H) : Hyp φ H := ⟨h, k⟩
section maps
variable {κ α : Type} [DecidableEq κ] {g : κ → Value} {f : α → AV} {d : TypeDesc} {z kv : Value} {o y : α} {k : κ} {t : TypeId} {b mb r clock : Nat} {L : List (Nat × κ × α)} {σ rest : Store} {put : Ent → Store} {K : AV → Prop} {kk : AV → Store → Prop} {v : AV} {seen : List Nat}
instance makeM_ : Stp (aHook (eMakeMap σ) kk) (All fun b => kk (.val (.map (some b))) (.map b [] 0 :: σ)) := ⟨fun h => ⟨_, rfl, fun u σ' ⟨b, h1, h2⟩ => by rw [h1, h2]; exact h b⟩⟩
instance updM_ [hm : MapAt b σ (mkM g f L) clock put rest] [ht : MapT P t d z] [hk : KeyE κ g d] [ha : AsKey g kv k] [hv : AsF f v y] : Stp (aHook (eMapUpd P t (.val (.map (some b))) (.val kv) v σ) kk)
    (kk .undef (put (.map b (mkM g f (setT k y clock L)) (bif hasT k L then clock else clock + 1)))) := ⟨fun h => by
  obtain ⟨σ1, σ2, e1, e2, _⟩ := hm.at_
  have hd := hk.is k
  refine ⟨_, ⟨d, z, mkM g f L, clock, σ1, σ2, ht.h, by rw [ha.eq]; exact hd, e1, keys_mk hk L, rfl⟩, fun u σ' ⟨h1, h2⟩ => ?_⟩
  rw [h1, h2, ha.eq, hv.eq, setM_mk hk, any_mk hk, ← e2]
  exact h⟩
instance lookM_ [hm : MapAt b σ (mkM g f L) clock put rest] [ht : MapT P t d z] [hk : KeyE κ g d] [ha : AsKey g kv k] [hz : ZeroV f z o] : Stp (Do (lookA P t true (.val (.map (some b))) (.val kv) σ) K)
    (K (.tuple [f ((findT k L).getD o), .val (.bool (findT k L).isSome)])) := ⟨fun h => by
  obtain ⟨σ1, σ2, e1, _⟩ := hm.at_
  refine ⟨_, ⟨d, z, mkM g f L, clock, ht.h, by rw [ha.eq]; exact hk.is k, by rw [e1]; simp, keys_mk hk L, rfl⟩, ?_⟩
  rw [ha.eq, findM_mk hk, hz.eq]
  have e : ((findT k L).map f).getD (f o) = f ((findT k L).getD o) := by cases findT k L <;> rfl
  simp only [cond_true, Option.isSome_map, e]
  exact h⟩
instance lenM_ [hm : MapAt b σ (mkM g f L) clock put rest] [ht : MapT P t d z] : Stp (Do (lenMA P t (.val (.map (some b))) σ) K) (K (.val (.int .i64 ((L.length : Nat) : Int)))) := ⟨fun h => by
  obtain ⟨σ1, σ2, e1, _⟩ := hm.at_
  exact ⟨_, ⟨ht.is, mkM g f L, clock, by rw [e1]; simp, rfl⟩, by simpa [mkM] using h⟩⟩
instance rangeM_ {l : MapL} [hm : MapAt mb σ l clock put rest] [ht : MapT P t d z] : Stp (aHook (eRange P t (.val (.map (some mb))) σ) kk) (All fun b => kk (ptrAt b 0) (.iter b mb clock [] clock :: σ)) := ⟨fun h => by
  obtain ⟨σ1, σ2, e1, _⟩ := hm.at_
  exact ⟨_, ⟨l, clock, ht.is, by rw [e1]; simp, rfl⟩, fun u σ' ⟨b, h1, h2⟩ => by rw [h1, h2]; exact h b⟩⟩
instance nextM_ {put' : Ent → Store} {rest' : Store} [hi : IterAt r σ mb clock seen clock put rest] [hm : MapAt mb rest (mkM g f L) clock put' rest'] : Stp (aHook (eNext (ptrAt r 0) σ) kk)
    (Both (Imp (leftT L seen = []) (kk (.tuple [.val (.bool false)]) (put (.iter r mb clock seen clock)))) (All fun x : Nat × κ × α => Imp (x ∈ leftT L seen) (kk (.tuple [.val (.bool true), .val (g x.2.1), f x.2.2]) (put (.iter r mb clock (seen ++ [x.1]) clock))))) := ⟨fun h => by
  obtain ⟨σ1, σ2, e1, e2, e3⟩ := hi.at_
  obtain ⟨τ1, τ2, f1, _⟩ := hm.at_
  refine ⟨_, ⟨rfl, rfl, σ1, σ2, mb, clock, seen, mkM g f L, e1, by rw [← e3, f1]; simp, rfl⟩, fun u σ' hp => ?_⟩
  rcases hp with ⟨h1, h2, h3⟩ | ⟨x, h1, h2, h3⟩
  · rw [left_mk] at h1
    have h1' : leftT L seen = [] := by simpa [mkM] using h1
    rw [h2, h3, ← e2]
    exact h.1 h1'
  · rw [left_mk] at h1
    obtain ⟨y, hy, rfl⟩ := List.mem_map.1 h1
    rw [h2, h3, ← e2]
    exact h.2 y hy⟩
instance entryM_ {put' : Ent → Store} {rest' : Store} {x : Nat × κ × α} [hi : IterAt r σ mb clock (seen ++ [x.1]) clock put rest] [hm : MapAt mb rest (mkM g f L) clock put' rest'] : Stp (Do (entryA (ptrAt r 0) σ) K) (Hyp (x ∈ L) (K (.tuple [.val (g x.2.1), f x.2.2]))) := ⟨fun ⟨hx, hK⟩ => by
  obtain ⟨σ1, σ2, e1, e2, e3⟩ := hi.at_
  obtain ⟨τ1, τ2, f1, _⟩ := hm.at_
  refine ⟨_, ⟨rfl, rfl, mb, clock, seen, x.1, clock, mkM g f L, (x.1, g x.2.1, f x.2.2), by rw [e1]; simp, ?_, List.mem_map.2 ⟨x, hx, rfl⟩, rfl, rfl⟩, hK⟩
  have hmem : Ent.map mb (mkM g f L) clock ∈ σ1 ++ σ2 := by rw [← e3, f1]; simp
  rw [e1]
  rcases List.mem_append.1 hmem with h | h
  · exact List.mem_append_left _ h
  · exact List.mem_append_right _ (List.mem_cons_of_mem _ h)⟩
end maps
instance : ZeroV En.av (.agg #[.string ⟨#[]⟩, .string ⟨#[]⟩, .bool false, .int .i64 0]) En.zero := ⟨rfl⟩

/-! parts of rows -/
section parts
variable {α : Type} {f : α → AV} {sz s n a b c : Nat} {l ys : List α} {t E : TypeId} {σ rest : Store} {put : Ent → Store} {K : AV → Prop} {k : AV → Store → Prop} {v : Value} {x y : Int} {kk kk' : IntKind} {fl : Nat}
instance slO1 [h : NatOf x a] : Stp (Do (aSlice .slice sz (.own v n) (some (.val (.int kk x))) none none) K) (Need (a ≤ n) (K (.sub v sz a (n - a)))) :=
  ⟨fun ⟨h1, h2⟩ => ⟨_, ⟨by rw [h.eq]; omega, by rw [h.eq]; omega, Int.le_refl _, rfl⟩, by
    have e1 : x.toNat = a := by rw [h.eq]; simp
    have e2 : ((n : Int) - x).toNat = n - a := by rw [h.eq]; omega
    rw [e1, e2]; exact h2⟩⟩
instance slO2 [h' : NatOf y b] : Stp (Do (aSlice .slice sz (.own v n) none (some (.val (.int kk' y))) none) K) (Need (b ≤ n) (K (.sub v sz 0 b))) :=
  ⟨fun ⟨h1, h2⟩ => ⟨_, ⟨Int.le_refl _, by rw [h'.eq]; omega, by rw [h'.eq]; omega, rfl⟩, by
    have e2 : (y - 0).toNat = b := by rw [h'.eq]; omega
    rw [e2]; exact h2⟩⟩
end parts
end Go.Ab

/- Steps (part 7): loops; what is told in other words; calls that only look; clear, copy, interface values. No program in sight. -/
set_option linter.unusedVariables false
set_option linter.unusedSimpArgs false
namespace Go.Ab
variable {P : Program}

/-- Once more through the loop, with less. -/
def Again {β : Type} (pre : β → Prop) (slots : β → List AV) (st : β → Store) (ms : β → Nat) (n : Nat) (vs : List AV) (σ : Store) : Prop := ∃ m vs' τ, m < n ∧ Sub σ vs τ vs' ∧ ∃ x, m = ms x ∧ pre x ∧ vs' = slots x ∧ τ = st x
theorem again {β : Type} {pre : β → Prop} {slots : β → List AV} {st : β → Store} {ms : β → Nat} {n : Nat} {vs : List AV} {σ : Store} (x : β) (h1 : ms x < n) (h2 : pre x) (h3 : Sub σ vs (st x) (slots x)) : Again pre slots st ms n vs σ :=
  ⟨_, _, _, h1, h3, x, rfl, h2, rfl, rfl⟩
/-- A loop: what is known of its slots and its memory, told by something that gets less. -/
theorem loopI {β : Type} (pre : β → Prop) (slots : β → List AV) (st : β → Store) (ms : β → Nat) {body : (List AV → Store → Prop) → List AV → Store → Prop} {vals : List AV} {σ : Store} (x0 : β) (h0 : pre x0) (hs : Sub σ vals (st x0) (slots x0))
    (hb : ∀ x, pre x → body (Again pre slots st ms (ms x)) (slots x) (st x)) : aLoop body vals σ := by
  refine ⟨fun n vs τ => ∃ x, n = ms x ∧ pre x ∧ vs = slots x ∧ τ = st x, ⟨ms x0, slots x0, st x0, hs, x0, rfl, h0, rfl, rfl⟩, ?_⟩
  rintro n vs τ ⟨x, rfl, h, rfl, rfl⟩
  exact hb x h
/-- Where ways meet. -/
def Meet {β : Type} (pre : β → Prop) (slots : β → List AV) (st : β → Store) (vs : List AV) (σ : Store) : Prop := ∃ vs' τ, Sub σ vs τ vs' ∧ ∃ x, pre x ∧ vs' = slots x ∧ τ = st x
theorem meet {β : Type} {pre : β → Prop} {slots : β → List AV} {st : β → Store} {vs : List AV} {σ : Store} (x : β) (h2 : pre x) (h3 : Sub σ vs (st x) (slots x)) : Meet pre slots st vs σ := ⟨_, _, h3, x, h2, rfl, rfl⟩
theorem joinI {β : Type} (pre : β → Prop) (slots : β → List AV) (st : β → Store) {x : (List AV → Store → Prop) → Prop} {y : List AV → Store → Prop}
    (h : x (Meet pre slots st)) (hy : ∀ b, pre b → y (slots b) (st b)) : aJoin x y :=
  ⟨fun vs τ => ∃ x, pre x ∧ vs = slots x ∧ τ = st x, h, fun vs τ ⟨b, h1, h2, h3⟩ => by rw [h2, h3]; exact hy b h1⟩
/-- Where ways meet: each goes on by itself. -/
def Goes (y : List AV → Store → Prop) (vs : List AV) (σ : Store) : Prop := ∃ vs' τ, Sub σ vs τ vs' ∧ y vs' τ
instance goes_ (y : List AV → Store → Prop) (vs : List AV) (σ : Store) : Stp (Goes y vs σ) (y vs σ) := ⟨fun h => ⟨_, _, Sub.refl _ _, h⟩⟩
theorem joinE {x : (List AV → Store → Prop) → Prop} {y : List AV → Store → Prop} (h : x (Goes y)) : aJoin x y := ⟨y, h, fun _ _ h => h⟩

/-! in other words -/
theorem Sub.nil_own (E : TypeId) {sz : Nat} (hz : 0 < sz) (σ : Store) (pre post : List AV) : Sub σ (pre ++ .val (.slice none 0 0) :: post) (.row (.slice none 0 0) E sz [] 0 :: σ) (pre ++ .own (.slice none 0 0) 0 :: post) := by
  intro R w vs hv hs
  obtain ⟨g1, g2⟩ := st_nilRow hs E hz
  refine ⟨R, ⟨?_, fun j u v hu hx => ?_⟩, g1, g2⟩
  · rw [hv.1]; simp
  · rcases Nat.lt_trichotomy j pre.length with h | h | h
    · exact hv.2 j u v (by rw [List.getElem?_append_left h] at hu ⊢; exact hu) hx
    · subst h
      simp at hu
      subst hu
      have := hv.2 pre.length (.val (.slice none 0 0)) v (by simp) hx
      rw [this.val_inv]
      exact .own (.inl ⟨rfl, rfl⟩)
    · refine hv.2 j u v ?_ hx
      rw [List.getElem?_append_right (by omega)] at hu ⊢
      cases hn : j - pre.length with
      | zero => omega
      | succ n => rw [hn] at hu; simpa using hu
theorem Sub.perm {σ τ : Store} (h : σ.Perm τ) (args : List AV) : Sub σ args τ args := Sub.less (Less.perm h) args
theorem Sub.drop_ {σ τ : Store} (h : τ.Sublist σ) (args : List AV) : Sub σ args τ args := Sub.less (Less.sub h) args
theorem Sub.app_nil {σ : Store} (args : List AV) : Sub σ args [] args := Sub.less (Less.sub (List.nil_sublist _)) args
/-- A store in another order, some of it forgotten. -/
class TakeE (e : Ent) (σ : Store) (rest : outParam Store) : Prop where
  perm : σ.Perm (e :: rest)
instance takeHead (e : Ent) (σ : Store) : TakeE e (e :: σ) σ := ⟨List.Perm.refl _⟩
instance (priority := 90) takeTail (e e' : Ent) (σ rest : Store) [h : TakeE e σ rest] : TakeE e (e' :: σ) (e' :: rest) := ⟨(h.perm.cons e').trans (List.Perm.swap e e' rest)⟩
class PermTo (σ τ : Store) : Prop where
  less : ∃ ρ, σ.Perm (τ ++ ρ)
instance (priority := 1100) (σ : Store) : PermTo σ σ := ⟨[], by simp⟩
instance (σ : Store) : PermTo σ [] := ⟨σ, by simp⟩
instance (e : Ent) (σ rest τ : Store) [h : TakeE e σ rest] [k : PermTo rest τ] : PermTo σ (e :: τ) := ⟨by
  obtain ⟨ρ, hp⟩ := k.less
  exact ⟨ρ, h.perm.trans (hp.cons e)⟩⟩
theorem subS {σ τ : Store} [h : PermTo σ τ] (args : List AV) : Sub σ args τ args := by
  obtain ⟨ρ, hp⟩ := h.less
  exact Sub.less ((Less.sub (List.sublist_append_left τ ρ)).trans (Less.perm hp)) args
/-- A row that is frozen, wherever it stands. -/
theorem Sub.frz {σ rest : Store} {v : Value} {E : TypeId} {sz fl : Nat} {l : List AV} {put : Ent → Store} [h : RowAt v σ E sz l fl put rest] {args args' : List AV} (hf : Frzs v (.lst sz l .ro) args args') : Sub σ args rest args' := by
  obtain ⟨σ1, σ2, rfl, _, rfl⟩ := h.at_
  exact Sub.freeze hf
/-- A part of a row, once this is frozen. -/
theorem sub_lst {R : RO} {v x : Value} {sz a n : Nat} {l : List AV} (hv : VR R v (.lst sz l .ro)) (hx : SubOf v sz a n x) (hle : a + n ≤ l.length) : VR R x (.lst sz ((l.drop a).take n) .ro) := by
  obtain ⟨ao, cap, vs, hv, hz, hsz, hr, hR, hm, hb, hone⟩ := hv.lst_inv
  rcases hx with ⟨h1, rfl, rfl, rfl⟩ | ⟨g, n0, cap', p, h1, h2, h3, rfl⟩
  · simp only [List.take_zero]
    exact .lst [] rfl hz (by simp) rfl (by simp [flat]) (by simp) (by simp [SMok]) (Nat.zero_le _) (by simp)
  · rw [h1] at hv
    simp only [Value.slice.injEq] at hv
    obtain ⟨rfl, rfl, rfl⟩ := hv
    have := lst_cut (R := R) (ao' := some p) (l := a) (h := a + n) (cp := cap' - a) (m := .ro) hz hsz hr hR hone hb (by omega) hle (fun hlt => by
      rw [h3 (by omega)]
      simp only [Option.map_some]
      congr 1
      rw [addr_lit_add, Nat.zero_add]) (by simp only [SMok]; omega)
    have e : a + n - a = n := by omega
    rw [e] at this
    have e2 : (l.take (a + n)).drop a = (l.drop a).take n := by rw [List.drop_take, e]
    rw [e2] at this
    exact this
theorem Sub.cons_sub {σ1 σ2 σ' : Store} {v : Value} {E : TypeId} {sz fl a n : Nat} {l us us' : List AV} (hle : a + n ≤ l.length) (h : Sub (σ1 ++ σ2) us σ' us') : Sub (σ1 ++ .row v E sz l fl :: σ2) (.sub v sz a n :: us) σ' (.lst sz ((l.drop a).take n) .ro :: us') := by
  refine Sub.trans (σ1 := σ1 ++ σ2) (a1 := .lst sz ((l.drop a).take n) .ro :: us) ?_ (Sub.cons_same _ h)
  intro R w vs hv hs
  obtain ⟨R', h1, h2, h3, h4⟩ := freeze_row hs
  obtain ⟨hl, hr⟩ := hv
  match vs, hl with
  | x :: vs, hl =>
    have h0 := (hr 0 _ x rfl rfl).sub_inv
    have hv' : VRs R vs us := ⟨by simpa using hl, fun j u y hx hy => hr (j + 1) u y (by simpa using hx) (by simpa using hy)⟩
    exact ⟨R', VRs.cons (sub_lst h4 h0 hle) (hv'.mono h1), h2, h3⟩
section looks
variable {f : FuncId} {args args' a b : List AV} {pre : Prop} {u : AV} {K : AV → Prop} {σ σ' : Store} {k : AV → Store → Prop}
instance lookC_ [hg : Give σ args σ' args'] [h : PC P f args' pre u] [hu : Ground u] : Stp (Do (lookC P f args σ) K) (Need pre (K u)) := ⟨fun ⟨h1, h2⟩ => by
  obtain ⟨args1, hs, hp⟩ := h.ct h1
  exact ⟨u, ⟨σ', args1, hg.sub.trans (Sub.vals hs), hp, hu.g⟩, h2⟩⟩
end looks
/-- What is handed back, told in other words. -/
theorem ACalls.fin {f : FuncId} {args : List AV} {σ : Store} {Q : AEnd → Store → Prop} (h : ACalls P f args σ fun x σ' => ∃ u u1 τ, x = .ret u ∧ Sub σ' [u] τ [u1] ∧ Q (.ret u1) τ) : ACalls P f args σ Q :=
  h.sub fun x σ' ⟨u, u1, τ, h1, h2, h3⟩ => ⟨u, u1, τ, h1, h2, h3⟩
theorem retOwn {σ rest : Store} {v : Value} {E : TypeId} {sz fl n : Nat} {l : List AV} {put : Ent → Store} [h : RowAt v σ E sz l fl put rest] {us us' : List AV} (hs : Sub rest us [] us') : Sub σ (.own v n :: us) [] (.lst sz l .ro :: us') := by
  obtain ⟨σ1, σ2, rfl, _, rfl⟩ := h.at_
  exact Sub.cons_own hs
theorem retNil {α : Type} (f : α → AV) {sz : Nat} (hz : 0 < sz) {σ τ : Store} {us us' : List AV} (hs : Sub σ us τ us') : Sub σ (.val (.slice none 0 0) :: us) τ (.lst sz (([] : List α).map f) .ro :: us') :=
  Sub.trans (Sub.cons_same _ hs) (Sub.vals ⟨fun R v h => SubV.ro _ _ _ R v (SubV.nil sz hz R v h), SubVs.refl _⟩)
/-- append, whose outcome turns no more. -/
def subF (k : AV → Store → Prop) : AV → Store → Prop := subK k
section appF
variable {α : Type} {f : α → AV} {sz s by_ n fl : Nat} {l ys : List α} {E : TypeId} {σ rest : Store} {put : Ent → Store} {k : AV → Store → Prop} {v : Value} {x : AV} {m : SM}
instance appOF [hr : RowAt v σ E sz (l.map f) fl put rest] [hs : SrcI sz σ x α f ys] : Stp (aAppend E sz by_ (.own v n) x σ (subF k))
    (Need ((l.length + ys.length) * by_ ≤ 140737488355328 ∧ l.length + ys.length ≤ 9223372036854775807) (k (.lst sz ((l ++ ys).map f) .ro) rest)) :=
  ⟨fun ⟨h, hK⟩ => by
    obtain ⟨σ1, σ2, e, _, e2⟩ := hr.at_
    have hs' := hs.src
    subst e
    exact s_app_own hs' h.1 h.2 fun v' => ⟨_, _, Sub.freeze (σ1 := σ1) (σ2 := σ2) (args' := [.lst sz ((l ++ ys).map f) .ro]) ⟨.inr ⟨⟨_, rfl⟩, rfl⟩, trivial⟩, by rw [← e2]; exact hK⟩⟩
end appF
end Go.Ab

/- Steps (part 8): parts of rows as sources and as arguments; clear; copy. No program in sight. -/
set_option linter.unusedVariables false
set_option linter.unusedSimpArgs false
namespace Go.Ab
variable {P : Program}
section parts
variable {α : Type} {f : α → AV} {sz by_ n m a c fl fl' : Nat} {l ys : List α} {E E' t : TypeId} {σ rest rest' : Store} {put put' : Ent → Store} {k : AV → Store → Prop} {K : AV → Prop} {v v' : Value} {x : AV}
/-- clear of the end of a row. -/
class RowT (P : Program) (t : TypeId) (E : outParam TypeId) (zs : outParam (List Value)) (s by_ : outParam Nat) : Prop where
  h : rowOf P t = some (E, zs, s, by_)
instance clearS {zs : List Value} {z : α} [ht : RowT P t E zs sz by_] [hz : ZeroE zs α f z] [hr : RowAt v σ E sz (l.map f) 0 put rest] : Stp (aHook (eClear P t (.sub v sz a n) σ) k)
    (Need (a + n ≤ l.length) (k .undef (put (.row v E sz ((l.take a ++ List.replicate n z ++ l.drop (a + n)).map f) 0)))) := ⟨fun ⟨h, hK⟩ => by
  obtain ⟨σ1, σ2, e1, e2, _⟩ := hr.at_
  refine ⟨_, ⟨E, zs, sz, by_, l.map f, σ1, σ2, ht.h, hz.one, e1, rfl, by simpa using h, rfl⟩, fun u σ' ⟨h1, h2⟩ => ?_⟩
  rw [h1, h2, ← e2, hz.eq]
  simpa [List.map_append, List.map_take, List.map_drop, List.map_replicate] using hK⟩
end parts
end Go.Ab

/- Steps (part 9): literals of structs of any kind; what a call does to a variable, wherever this stands. No program in sight. -/
set_option linter.unusedVariables false
set_option linter.unusedSimpArgs false
namespace Go.Ab
variable {P : Program}
class OffAt (l : List (Nat × Nat)) (i : Nat) (o s : outParam Nat) : Prop where
  eq : l[i]? = some (o, s)
instance (o s : Nat) (l : List (Nat × Nat)) : OffAt ((o, s) :: l) 0 o s := ⟨rfl⟩
instance (x : Nat × Nat) (l : List (Nat × Nat)) (i o s : Nat) [h : OffAt l i o s] : OffAt (x :: l) (i + 1) o s := ⟨by simpa using h.eq⟩
class FillG (offs : List (Nat × Nat)) (cs : List AV) (parts : List (Nat × AV)) (out : outParam (List AV)) : Prop where
  one : partsOne parts
  eq : fillA (offs[·]?) cs parts = some out
instance (offs : List (Nat × Nat)) (cs : List AV) : FillG offs cs [] cs := ⟨fun p hp => by simp at hp, rfl⟩
instance (offs : List (Nat × Nat)) (cs cs' xs out : List AV) (i o s : Nat) (u : AV) (ps : List (Nat × AV)) [ho : OffAt offs i o s] [hc : Cells u xs] [hl : LenC xs s] [h1 : Ones xs] [hs : Splice cs o xs cs'] [h : FillG offs cs' ps out] : FillG offs cs ((i, u) :: ps) out := ⟨fun p hp c hcm => by
    rcases List.mem_cons.1 hp with rfl | hp
    · rw [hc.eq] at hcm; exact h1.ones c hcm
    · exact h.one p hp c hcm, by
    simp only [fillA, ho.eq, hc.eq, hl.eq]
    rw [if_pos ⟨trivial, by have := hs.le; rw [hl.eq] at this; exact this⟩, hs.eq]
    exact h.eq⟩
instance (priority := 50) litG {zs : List AV} {offs : List (Nat × Nat)} {parts : List (Nat × AV)} {out : List AV} {K : AV → Prop} [h : FillG offs zs parts out] : Stp (Do (aLit zs offs parts) K) (K (.agg out)) := ⟨fun hK => ⟨_, ⟨h.one, _, h.eq, rfl⟩, hK⟩⟩
theorem ACalls.preS {f : FuncId} {args args1 : List AV} {σ σ1 : Store} {Q : AEnd → Store → Prop} (h : ACalls P f args1 σ1 Q) (hs : Sub σ args σ1 args1) : ACalls P f args σ Q := by
  refine ⟨h.1, fun R w vs hv hst => ?_⟩
  obtain ⟨R1, h1, h2, h3⟩ := hs R w vs hv hst
  exact (h.2 R1 w vs h1 h2).mono fun e w' ⟨x, R', σ', k1, k2, k3, k4⟩ => ⟨x, R', σ', k1, k2, k3, h3.trans k4⟩
/-- A call that turns one variable, wherever it stands. -/
theorem ACalls.at_ {f : FuncId} {args : List AV} {b : Nat} {t : TypeId} {cs : List AV} {σ rest : Store} {put : Ent → Store} {r : AV} {cs' : List AV} [hv : VarAt b σ t cs put rest] (h : ACalls P f args [.var b t cs] fun x σ' => x = .ret r ∧ σ' = [.var b t cs']) : ACalls P f args σ fun x σ' => x = .ret r ∧ σ' = put (.var b t cs') := by
  obtain ⟨σ1, σ2, rfl, e2, rfl⟩ := hv.at_
  have hp : (σ1 ++ Ent.var b t cs :: σ2).Perm ([Ent.var b t cs] ++ (σ1 ++ σ2)) := List.perm_middle
  have hq : ([Ent.var b t cs'] ++ (σ1 ++ σ2)).Perm (σ1 ++ Ent.var b t cs' :: σ2) := (List.perm_middle (a := Ent.var b t cs') (l₁ := σ1) (l₂ := σ2)).symm
  refine ACalls.preS ?_ (Sub.perm hp args)
  refine (h.frame (σ1 ++ σ2)).sub fun x σ' ⟨τ, h1, _, h2, h3⟩ => ?_
  exact ⟨r, r, _, h2, by rw [h1, h3]; exact Sub.perm hq _, rfl, (e2 _).symm⟩
end Go.Ab

/- Steps (part 10): calls that hand back new memory; masks. No program in sight. -/
set_option linter.unusedVariables false
set_option linter.unusedSimpArgs false
namespace Go.Ab
variable {P : Program}
class GroundF {α : Type} (f : α → AV) : Prop where
  g : ∀ a, Grounds (f a).cells
theorem GroundF.flat {α : Type} {f : α → AV} (h : GroundF f) (l : List α) : ∀ u ∈ flat (l.map f), Ground u := by
  intro u hu
  obtain ⟨c, hc, h2⟩ := List.mem_flatMap.1 hu
  obtain ⟨a, _, rfl⟩ := List.mem_map.1 hc
  exact (h.g a).g u h2
/-! masks -/
section masks
variable {t : TypeId} {x : Int} {K : AV → Prop}
end masks
end Go.Ab

/- A function that defers one closure: how its body's condition ends; a closure that recovers. No program in sight. -/
set_option linter.unusedVariables false
set_option linter.unusedSimpArgs false
namespace Go.Ab
variable {P : Program}
def c1 : Code → Code
  | .seq a _ => a
  | c => c
def c2 : Code → Code
  | .seq _ b => b
  | c => c
/-- How a frame ends, ahead of what it deferred. -/
def ModeR (R : RO) (u : FrameMode) : Option AV → Prop
  | none => u = .returning
  | some x => ∃ v, u = .panicking [{ v, recovered := false }] ∧ VR R v x
/-- A deferred call behind which the frame returns. -/
def DCalls (P : Program) (f : FuncId) (cs : List Value) (m : Option AV) (σ : Store) (Q : Store → Prop) : Prop :=
  ∀ R w u, St R w σ → ModeR R u m → CallsD P f (List.toArray cs) u w fun e u' w' => e = .returned (.tuple #[]) ∧ settle u' = .returning ∧ ∃ R' σ', Q σ' ∧ St R' w' σ' ∧ Ext R w σ R' w' σ'
theorem DCalls.mono {f : FuncId} {cs : List Value} {m : Option AV} {σ : Store} {Q Q' : Store → Prop} (h : DCalls P f cs m σ Q) (hq : ∀ σ', Q σ' → Q' σ') : DCalls P f cs m σ Q' :=
  fun R w u hs hm => (h R w u hs hm).mono fun e u' w' ⟨h1, h2, R', σ', h3, h4, h5⟩ => ⟨h1, h2, R', σ', hq _ h3, h4, h5⟩
/-! a closure that recovers -/
end Go.Ab

/- Steps (part 12): calls that may panic; interfaces held against nil; what an assertion tells. No program in sight. -/
set_option linter.unusedVariables false
set_option linter.unusedSimpArgs false
namespace Go.Ab
variable {P : Program}
/-! interfaces -/
section ifc
variable {t T : TypeId} {u : AV} {K : AV → Prop}
end ifc
/-! nil in a variable as a row without elements -/
theorem nil_vrs {R : RO} {vs : List Value} {pre post : List AV} (hv : VRs R vs (pre ++ .val (.slice none 0 0) :: post)) : VRs R vs (pre ++ .own (.slice none 0 0) 0 :: post) := by
  refine ⟨by rw [hv.1]; simp, fun j u v hu hx => ?_⟩
  rcases Nat.lt_trichotomy j pre.length with h | h | h
  · exact hv.2 j u v (by rw [List.getElem?_append_left h] at hu ⊢; exact hu) hx
  · subst h
    simp at hu
    subst hu
    have := hv.2 pre.length (.val (.slice none 0 0)) v (by simp) hx
    rw [this.val_inv]
    exact .own (.inl ⟨rfl, rfl⟩)
  · refine hv.2 j u v ?_ hx
    rw [List.getElem?_append_right (by omega)] at hu ⊢
    cases hn : j - pre.length with
    | zero => omega
    | succ n => rw [hn] at hu; simpa using hu
theorem Sub.nilV (b : Nat) {σ rest : Store} {t : TypeId} {cs : List AV} {put : Ent → Store} [h : VarAt b σ t cs put rest] (E : TypeId) {sz : Nat} (hz : 0 < sz) (pre post : List AV) (e : cs = pre ++ .val (.slice none 0 0) :: post) (us : List AV) : Sub σ us (.row (.slice none 0 0) E sz [] 0 :: put (.var b t (pre ++ .own (.slice none 0 0) 0 :: post))) us := by
  intro R w vs hv hs
  obtain ⟨σ1, σ2, rfl, e2, _⟩ := h.at_
  subst e
  obtain ⟨⟨ws, k1, k2, k3⟩, k4⟩ := hs.ents (.var b t (pre ++ .val (.slice none 0 0) :: post)) (by simp)
  obtain ⟨g1, g2⟩ := st_change hs (e := .var b t (pre ++ .val (.slice none 0 0) :: post)) (e' := .var b t (pre ++ .own (.slice none 0 0) 0 :: post)) (b := b) rfl rfl (w' := w) rfl rfl rfl rfl (fun _ _ => rfl) (fun a v ha _ => hs.ro a v ha) ⟨⟨ws, k1, nil_vrs k2, k3⟩, k4⟩
  obtain ⟨q1, q2⟩ := st_nilRow g1 E hz
  rw [e2]
  exact ⟨R, hv, q1, g2.trans q2⟩
end Go.Ab
