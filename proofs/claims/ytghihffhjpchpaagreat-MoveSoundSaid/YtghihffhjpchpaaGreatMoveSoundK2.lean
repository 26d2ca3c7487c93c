/- The texts that this claim needs, part 2: a logic over abstract values, its steps, what the functions do. No condition of its own. -/
import Derived.MapKept
import Derived.Maps.RangeRun
import Derived.Laws.Strings
import Derived.Test.YtghihffhjpchpaaGreatMoveSoundK1
set_option linter.unusedVariables false
set_option linter.unusedSimpArgs false
namespace Go.Ab
variable {P : Program}

theorem call_run {f : FuncId} {args : Array Value} {w : World} (h : HasBody P f) : (callFunc f args).run P w = .ok (.enter f args) w := by
 obtain ⟨fn, c, hf, hb, hn⟩ := h
 have hn' : ¬ fn.name = "runtime.NumGoroutine" := by simpa using hn
 simp [callFunc, hf, hb, hn']

theorem Sub.less {σ τ : Store} (h : Less τ σ) (args : List AV) : Sub σ args τ args := fun R w vs hv hs => ⟨R, hv, h.1 R w hs, h.ext⟩

def subK (k : AV → Store → Prop) : AV → Store → Prop := fun u σ => ∃ u1 σ1, Sub σ [u] σ1 [u1] ∧ k u1 σ1
theorem AOp.sub {o : Oper} {ρ : Operand → AV} {σ : Store} {k kp : AV → Store → Prop} (h : AOp P o ρ σ (subK k) kp) : AOp P o ρ σ k kp := by
 intro R w a ha hs next Q hn hp
 refine h R w a ha hs next Q (fun v u w' R' σ' hk hv hs' hx => ?_) hp
 obtain ⟨u1, σ1, hsub, hk⟩ := hk
 obtain ⟨R1, h1, h2, h3⟩ := hsub R' w' [v] (VRs.cons hv (VRs.nil R')) hs'
 exact hn v u1 w' R1 σ1 hk (h1.2 0 _ _ rfl rfl) h2 (hx.trans h3)
theorem subK.mono {k k' : AV → Store → Prop} (hk : ∀ u σ, k u σ → k' u σ) (u : AV) (σ : Store) (h : subK k u σ) : subK k' u σ := by
 obtain ⟨u1, σ1, h1, h2⟩ := h
 exact ⟨u1, σ1, h1, hk _ _ h2⟩
def SubV (u u' : AV) : Prop := ∀ R v, VR R v u → VR R v u'
theorem SubV.refl (u : AV) : SubV u u := fun _ _ h => h
theorem SubV.nil (sz : Nat) (hz : 0 < sz) : SubV (.val (.slice none 0 0)) (.lst sz [] .nil) := by
 intro R v h
 rw [h.val_inv]
 exact .lst [] rfl hz (by simp) rfl (by simp) (by simp) (by simp [SMok]) (Nat.zero_le _) (by simp)
theorem SubV.ro (sz : Nat) (l : List AV) (m : SM) : SubV (.lst sz l m) (.lst sz l .ro) := by
 intro R v h
 obtain ⟨ao, cap, vs, rfl, hz, hsz, hr, hR, hm, hb, hone⟩ := h.lst_inv
 refine .lst vs rfl hz hsz hr.1 hr.2 hR ?_ hb hone
 cases m <;> simp only [SMok] at hm ⊢ <;> omega
theorem SubV.undef (u : AV) : SubV u .undef := fun _ v _ => .undef v
def SubVs : List AV → List AV → Prop
 | [], [] => True
 | u :: us, v :: vs => SubV u v ∧ SubVs us vs
 | _, _ => False
theorem SubVs.rel {R : RO} : ∀ {us us' : List AV} {vs : List Value}, SubVs us us' → VRs R vs us → VRs R vs us'
 | [], [], vs, _, h => h
 | u :: us, u' :: us', vs, hs, h => by
  cases vs with
  | nil => have := h.1; simp at this
  | cons v vs =>
   have h1 := h.2 0 u v rfl rfl
   have h2 : VRs R vs us := ⟨by have := h.1; simpa using this, fun j x y hx hy => h.2 (j + 1) x y hx hy⟩
   exact VRs.cons (hs.1 R v h1) (SubVs.rel hs.2 h2)
theorem SubVs.refl : ∀ us : List AV, SubVs us us
 | [] => trivial
 | u :: us => ⟨SubV.refl u, SubVs.refl us⟩

def aPureC (P : Program) (f : FuncId) (args : List AV) (u : AV) : Prop := (∃ args1, SubVs args args1 ∧ aPure P f args1 u) ∨
 ∃ vs v, allVals args = some vs ∧ u = .val v ∧ ∀ w, (callFunc f (List.toArray vs)).run P w = .ok (.value v) w
def onEnd (k kp : AV → Store → Prop) : AEnd → Store → Prop
 | .ret u, σ => k u σ
 | .pan u, σ => kp u σ
def rawC (P : Program) (f : FuncId) (args : List AV) (σ : Store) (k : AV → Store → Prop) : Prop := ∀ R w vs, VRs R vs args → St R w σ → ∃ v w' u R' σ', (callFunc f (List.toArray vs)).run P w = .ok (.value v) w' ∧ k u σ' ∧ VR R' v u ∧ St R' w' σ' ∧ Ext R w σ R' w' σ'
theorem rawC.mono {f : FuncId} {args : List AV} {σ : Store} {k k' : AV → Store → Prop} (hk : ∀ u σ', k u σ' → k' u σ') (h : rawC P f args σ k) : rawC P f args σ k' := fun R w vs hv hs => by
 obtain ⟨v, w', u, R', σ', h1, h2, h3⟩ := h R w vs hv hs
 exact ⟨v, w', u, R', σ', h1, hk _ _ h2, h3⟩
def rawB (P : Program) (b : Builtin) (ts : Array TypeId) (args : List AV) (σ : Store) (k : AV → Store → Prop) : Prop := ∀ R w vs, VRs R vs args → St R w σ → ∀ (ty : TypeId) (cs : Array Bool), ∃ v w' u R' σ', (builtin b ts ty cs (List.toArray vs)).run P w = .ok (.value v) w' ∧ k u σ' ∧ VR R' v u ∧ St R' w' σ' ∧ Ext R w σ R' w' σ'
theorem rawB.mono {b : Builtin} {ts : Array TypeId} {args : List AV} {σ : Store} {k k' : AV → Store → Prop} (hk : ∀ u σ', k u σ' → k' u σ') (h : rawB P b ts args σ k) : rawB P b ts args σ k' := fun R w vs hv hs ty cs => by
 obtain ⟨v, w', u, R', σ', h1, h2, h3⟩ := h R w vs hv hs ty cs
 exact ⟨v, w', u, R', σ', h1, hk _ _ h2, h3⟩
theorem ef_rawB {ρ : Operand → AV} {σ : Store} {b : Builtin} {args : Array Operand} {ts : Array TypeId} {o : Oper} (ho : o.op = .call { callee := .builtin b, args, argTypes := ts }) {k kp : AV → Store → Prop} (h : rawB P b ts (args.toList.map ρ) σ k) : AOp P o ρ σ k kp := by
 refine AOp.ofRun fun R w ev ha hs => ?_
 obtain ⟨cs, hex⟩ : ∃ cs, (execOp ev o).run P w = (builtin b ts o.type cs (args.map ev)).run P w := by
  unfold execOp
  rw [ho]
  exact ⟨_, rfl⟩
 obtain ⟨v, w', u, R', σ', h1, h2, h3⟩ := h R w _ (map_rel ha args.toList) hs o.type cs
 refine ⟨v, w', u, R', σ', ?_, h2, h3⟩
 rw [hex, ← h1]
 congr 2
 apply Array.ext'
 simp
def aCall (P : Program) (f : FuncId) (args : List AV) (σ : Store) (k kp : AV → Store → Prop) : Prop := (∃ σ1 args1, Sub σ args σ1 args1 ∧ ACalls P f args1 σ1 (onEnd k kp)) ∨ rawC P f args σ k

def calleeOf (x : AV) : Option (FuncId × List AV × List AV) := match x with
 | .val (.func (.func f) a b) => some (f, a.toList.map .val, b.toList.map .val)
 | .fn (.func f) a b => some (f, a, b)
 | _ => none

theorem callee_rel {R : RO} {x : AV} {v : Value} (h : VR R v x) {f : FuncId} {a b : List AV} (hc : calleeOf x = some (f, a, b)) : ∃ vs ws, v = .func (.func f) (List.toArray vs) (List.toArray ws) ∧ VRs R vs a ∧ VRs R ws b := by
 unfold calleeOf at hc
 split at hc
 ·rename_i f' a' b'
  simp only [Option.some.injEq, Prod.mk.injEq] at hc
  obtain ⟨rfl, rfl, rfl⟩ := hc
  exact ⟨a'.toList, b'.toList, by rw [h.val_inv], VRs.ofVals R _, VRs.ofVals R _⟩
 ·rename_i f' a' b'
  simp only [Option.some.injEq, Prod.mk.injEq] at hc
  obtain ⟨rfl, rfl, rfl⟩ := hc
  cases h with
  | fn hl hv hl' hv' => exact ⟨_, _, rfl, ⟨hl, hv⟩, ⟨hl', hv'⟩⟩
 ·cases hc

theorem call_op {ρ : Operand → AV} {σ : Store} {x : Operand} {args : Array Operand} {ts : Array TypeId} {o : Oper} (ho : o.op = .call { callee := .value x, args, argTypes := ts }) {f : FuncId} {a b : List AV} (hc : calleeOf (ρ x) = some (f, a, b))
  {k kp : AV → Store → Prop} (hb : HasBody P f) (h : ∀ R w vs, VRs R vs (a ++ args.toList.map ρ ++ b) → St R w σ → Calls P f (List.toArray vs) w fun e w' => ∃ x R' σ', EndR R' e x ∧ onEnd k kp x σ' ∧ St R' w' σ' ∧ Ext R w σ R' w' σ') : AOp P o ρ σ k kp := by
 intro R w act ha hs next Q hn hp
 obtain ⟨vs, ws, hv, hva, hwb⟩ := callee_rel (ha x) hc
 have hargs := map_rel ha args.toList
 have hall := (hva.append hargs).append hwb
 have hex : (execOp act.eval o).run P w = .ok (.enter f (List.toArray (vs ++ args.toList.map act.eval ++ ws))) w := by
  unfold execOp
  rw [ho]
  simp only [resolve, Sem.run_bind, hv, Deferred.ofValue, Sem.run_pure, Result.andThen_ok, invoke]
  rw [call_run hb]
  congr 2
  apply Array.ext'
  simp
 unfold Oper.wp
 rw [hex, Oper.upon_enter]
 refine (h R w _ hall hs).mono ?_
 rintro e w' ⟨ax, R', σ', h1, h2, h3, h4⟩
 cases e with
 | returned v =>
  cases ax with
  | ret u => exact hn v u w' R' σ' h2 h1 h3 h4
  | pan u => exact h1.elim
 | panicked chain =>
  cases ax with
  | ret u => exact h1.elim
  | pan u =>
   obtain ⟨v, rfl, hv⟩ := h1
   exact hp v u w' R' σ' h2 hv h3 h4
 | outgrown => cases ax <;> exact h1.elim

theorem ef_call {ρ : Operand → AV} {σ : Store} {x : Operand} {args : Array Operand} {ts : Array TypeId} {o : Oper} (ho : o.op = .call { callee := .value x, args, argTypes := ts }) {f : FuncId} {a b : List AV} (hc : calleeOf (ρ x) = some (f, a, b))
  {k kp : AV → Store → Prop} (h : aCall P f (a ++ args.toList.map ρ ++ b) σ k kp) : AOp P o ρ σ k kp := by
 rcases h with ⟨σ1, args1, hsub, hb, hcalls⟩ | h
 rotate_left
 ·intro R w act ha hs next Q hn hkp
  obtain ⟨vs, ws, hv, hva, hwb⟩ := callee_rel (ha x) hc
  have hargs := map_rel ha args.toList
  have hall := (hva.append hargs).append hwb
  obtain ⟨v, w', u, R', σ', hrun, h2, h3, h4, h5⟩ := h R w _ hall hs
  have hex : (execOp act.eval o).run P w = .ok (.value v) w' := by
   unfold execOp
   rw [ho]
   simp only [resolve, Sem.run_bind, hv, Deferred.ofValue, Sem.run_pure, Result.andThen_ok, invoke]
   rw [← hrun]
   congr 2
   apply Array.ext'
   simp
  unfold Oper.wp
  rw [hex, Oper.upon_value]
  exact hn v u w' R' σ' h2 h3 h4 h5
 refine call_op ho hc hb fun R w vs hv hs => ?_
 obtain ⟨R1, h1, h2, h3⟩ := hsub R w vs hv hs
 refine (hcalls R1 w vs h1 h2).mono ?_
 rintro e w' ⟨ax, R', σ', g1, g2, g3, g4⟩
 exact ⟨ax, R', σ', g1, g2, g3, h3.trans g4⟩

def methP (P : Program) (t : TypeId) (m : String) : Option (FuncId × Bool × TypeId) := match P.info? t, P.underlying t with
 | some i, some (.pointer e) => match i.methods.find? (·.name == m) with
  | some r => bif r.path.isEmpty then r.func.map fun x => (x.1, x.2, e) else none
  | none => none
 | _, _ => none
theorem wrap_run {xt : TypeId} {a : Addr} {x y : String} {w : World} : (Builtin.ssaWrapNilChk_ #[xt] xt #[.pointer (some a), strVal x, strVal y]).run P w = .ok (.pointer (some a)) w := rfl
theorem prog_run {w : World} : (program : Sem Program).run P w = .ok P w := rfl
theorem meth_run {t e : TypeId} {m : String} {f : FuncId} {pr : Bool} (h : methP P t m = some (f, pr, e)) {v recv : Value} {w : World} (hr : if pr = true then recv = v else ∃ a, v = .pointer (some a) ∧ (loadVar e a).run P w = .ok recv w) (as : Array Value) : (callMethod (.iface t v) m as).run P w = (callFunc f (#[recv] ++ as)).run P w := by
 unfold methP at h
 split at h
 ·rename_i i e' hi hu
  split at h
  ·rename_i r hf
   cases hp : r.path.isEmpty with
   | false => rw [hp] at h; cases h
   | true =>
    rw [hp] at h
    simp only [cond_true] at h
    cases hfn : r.func with
    | none => rw [hfn] at h; cases h
    | some x =>
     rw [hfn] at h
     simp only [Option.map_some, Option.some.injEq, Prod.mk.injEq] at h
     obtain ⟨h1, h2, rfl⟩ := h
     have hpe : r.path.toList = [] := by
      have : r.path = #[] := by simpa using hp
      rw [this]
     have hpa : r.path = #[] := by simpa using hp
     have hm : (method (P.types.size + 99 + 1) t v m).run P w = .ok (f, recv) w := by
      unfold method
      obtain ⟨g, pr'⟩ := x
      simp only at h1 h2
      subst h1; subst h2
      cases pr' with
      | true =>
       simp only [if_true] at hr
       subst hr
       simp [typeInfo, hi, hf, hpe, follow, hfn, receiverAt, run_underlying hu, Place.get, Sem.run_bind, Result.andThen_ok]
      | false =>
       simp only [Bool.false_eq_true, if_false] at hr
       obtain ⟨a, rfl, hl⟩ := hr
       simp [typeInfo, hi, hf, hpe, follow, hfn, receiverAt, run_underlying hu, Place.get, Sem.run_bind, Result.andThen_ok, hpa, wrap_run, asAddr, hl]
     show (do let (f, receiver) ← method ((← program).types.size + Made.depth) t v m; callFunc f (#[receiver] ++ as) : Sem Next).run P w = _
     simp only [Sem.run_bind, prog_run, Result.andThen_ok]
     rw [show P.types.size + Made.depth = P.types.size + 99 + 1 from rfl, hm]
     rfl
  ·cases h
 ·cases h
def LoadsTo (P : Program) (e : TypeId) (σ : Store) (u u' : AV) : Prop := ∀ R w v, VR R v u → St R w σ → ∃ a x, v = .pointer (some a) ∧ (loadVar e a).run P w = .ok x w ∧ VR R x u'
def aInv (P : Program) (x : AV) (m : String) (args : List AV) (σ : Store) (k kp : AV → Store → Prop) : Prop := match x with
 | .ifc t u => ∃ f pr e u', methP P t m = some (f, pr, e) ∧ (if pr = true then u' = u else LoadsTo P e σ u u') ∧ aCall P f (u' :: args) σ k kp
 | _ => False
theorem ef_inv {ρ : Operand → AV} {σ : Store} {x : Operand} {m : String} {args : Array Operand} {ts : Array TypeId} {o : Oper} (ho : o.op = .call { callee := .invoke x m, args, argTypes := ts }) {k kp : AV → Store → Prop} (h : aInv P (ρ x) m (args.toList.map ρ) σ k kp) : AOp P o ρ σ k kp := by
 unfold aInv at h
 split at h
 ·rename_i t u he
  obtain ⟨f, pr, e, u', hm, hu, hc⟩ := h
  have key : ∀ {R : RO} {w : World} {ev : Operand → Value}, (∀ y, VR R (ev y) (ρ y)) → St R w σ → ∃ rv, VR R rv u' ∧ (execOp ev o).run P w = (callFunc f (List.toArray (rv :: args.toList.map ev))).run P w := by
   intro R w ev ha hs
   have hx := ha x
   rw [he] at hx
   obtain ⟨v, hv, hvr⟩ : ∃ v, ev x = .iface t v ∧ VR R v u := by
    generalize ev x = y at hx
    cases hx with
    | ifc h => exact ⟨_, rfl, h⟩
   obtain ⟨rv, h1, h2⟩ : ∃ rv, VR R rv u' ∧ (if pr = true then rv = v else ∃ a, v = .pointer (some a) ∧ (loadVar e a).run P w = .ok rv w) := by
    cases pr with
    | true => exact ⟨v, by rw [show u' = u from hu]; exact hvr, rfl⟩
    | false =>
     obtain ⟨a, z, g1, g2, g3⟩ := (show LoadsTo P e σ u u' from hu) R w v hvr hs
     exact ⟨z, g3, a, g1, g2⟩
   refine ⟨rv, h1, ?_⟩
   have h3 := meth_run hm h2 (args.map ev)
   have h4 : (List.toArray (rv :: args.toList.map ev)) = #[rv] ++ args.map ev := by
    apply Array.ext'
    simp
   rw [h4, ← h3]
   unfold execOp
   rw [ho]
   have h5 : (#[Value.iface t v] ++ args.map ev)[0]? = some (.iface t v) := by simp [Array.getElem?_append]
   have h6 : (#[Value.iface t v] ++ args.map ev).extract 1 (#[Value.iface t v] ++ args.map ev).size = args.map ev := by
    apply Array.ext'
    simp [List.take_of_length_le]
   simp only [resolve, Sem.run_bind, Sem.run_pure, Result.andThen_ok, invoke, hv, h5, h6]
  rcases hc with ⟨σ1, args1, hsub, hb, hcalls⟩ | hr
  ·intro R w act ha hs next Q hn hp
   obtain ⟨rv, h1, h2⟩ := key ha hs
   have hargs := VRs.cons h1 (map_rel ha args.toList)
   obtain ⟨R1, g1, g2, g3⟩ := hsub R w _ hargs hs
   unfold Oper.wp
   rw [h2, call_run hb, Oper.upon_enter]
   refine (hcalls R1 w _ g1 g2).mono ?_
   rintro en w' ⟨ax, R', σ', e1, e2, e3, e4⟩
   have e4 := g3.trans e4
   cases en with
   | returned v =>
    cases ax with
    | ret u => exact hn v u w' R' σ' e2 e1 e3 e4
    | pan u => exact e1.elim
   | panicked chain =>
    cases ax with
    | ret u => exact e1.elim
    | pan u =>
     obtain ⟨v, rfl, hv⟩ := e1
     exact hp v u w' R' σ' e2 hv e3 e4
   | outgrown => cases ax <;> exact e1.elim
  ·intro R w act ha hs next Q hn hp
   obtain ⟨rv, h1, h2⟩ := key ha hs
   have hargs := VRs.cons h1 (map_rel ha args.toList)
   obtain ⟨v, w', u2, R', σ', hrun, e2, e3, e4, e5⟩ := hr R w _ hargs hs
   unfold Oper.wp
   rw [h2, hrun, Oper.upon_value]
   exact hn v u2 w' R' σ' e2 e3 e4 e5
 ·exact h.elim
theorem aInv.mono {x : AV} {m : String} {args : List AV} {σ : Store} {k k' kp : AV → Store → Prop} (hk : ∀ u σ', k u σ' → k' u σ') (h : aInv P x m args σ k kp) : aInv P x m args σ k' kp := by
 unfold aInv at h ⊢
 split at h
 ·obtain ⟨f, pr, e, u', h1, h2, h3⟩ := h
  refine ⟨f, pr, e, u', h1, h2, ?_⟩
  rcases h3 with ⟨σ1, args1, g1, g2⟩ | h3
  ·exact .inl ⟨σ1, args1, g1, g2.mono fun x σ' hx => by cases x with | ret u => exact hk _ _ hx | pan u => exact hx⟩
  ·exact .inr (rawC.mono hk h3)
 ·exact h
theorem pr_call {ρ : Operand → AV} {σ : Store} {x : Operand} {args : Array Operand} {ts : Array TypeId} {o : Oper} (ho : o.op = .call { callee := .value x, args, argTypes := ts }) {f : FuncId} {a b : List AV} (hc : calleeOf (ρ x) = some (f, a, b))
  {u : AV} {k kp : AV → Store → Prop} (hk : k u σ) (h : aPureC P f (a ++ args.toList.map ρ ++ b) u) : AOp P o ρ σ k kp := by
 rcases h with ⟨args1, hsub, hp⟩ | ⟨xs, v, hxs, hu, hrun⟩
 rotate_left
 ·intro R w act ha hs next Q hn hkp
  obtain ⟨vs, ws, hv, hva, hwb⟩ := callee_rel (ha x) hc
  have hargs := map_rel ha args.toList
  have hall := (hva.append hargs).append hwb
  rw [allVals_map hxs] at hall
  have hxs' := hall.toVals
  have hex : (execOp act.eval o).run P w = .ok (.value v) w := by
   unfold execOp
   rw [ho]
   simp only [resolve, Sem.run_bind, hv, Deferred.ofValue, Sem.run_pure, Result.andThen_ok, invoke]
   rw [← hrun w, ← hxs']
   congr 2
   apply Array.ext'
   simp
  unfold Oper.wp
  rw [hex, Oper.upon_value]
  exact hn v u w R σ hk (by rw [hu]; exact .val v) hs (Ext.refl _ _ _)
 have hp' := ACalls.pure hp σ
 refine call_op ho hc hp'.1 fun R w vs hv hs => (hp'.2 R w vs (hsub.rel hv) hs).mono ?_
 rintro e w' ⟨ax, R', σ', g1, ⟨rfl, rfl⟩, g3, g4⟩
 exact ⟨.ret u, R', _, g1, hk, g3, g4⟩

theorem ef_panic {ρ : Operand → AV} {σ : Store} {x : Operand} {o : Oper} (ho : o.op = .panic x) {k kp : AV → Store → Prop} (h : kp (ρ x) σ) (hi : ∃ t u, ρ x = .ifc t u) : AOp P o ρ σ k kp := by
 intro R w a ha hs next Q hn hp
 obtain ⟨t, u, hx⟩ := hi
 have hv := ha x
 rw [hx] at hv
 have hrun : (execOp a.eval o).run P w = .halt (.panic (a.eval x)) w := by
  generalize hvx : a.eval x = vx at hv
  cases hv with
  | ifc h' =>
   unfold execOp
   rw [ho]
   simp [hvx, Instr.panic]
 unfold Oper.wp
 rw [hrun]
 exact hp (a.eval x) (ρ x) w R σ h (ha x) hs (Ext.refl _ _ _)

def aRowLit (E : TypeId) (z : AV) (s n : Nat) (parts : List (Nat × AV)) (σ : Store) (k : AV → Store → Prop) : Prop :=
 ∃ l, l.length = n ∧ (∀ e ∈ l, (e : AV).cells.length = s) ∧ (∀ c ∈ flat l, c.one = true) ∧ fillA (fun i => some (i * s, s)) ((List.replicate n z.cells).flatten) parts = some (flat l) ∧ ∀ v, capV v = n → k (.own v n) (.row v E s l 0 :: σ)

theorem ef_rowLit {ρ : Operand → AV} {σ : Store} {t e : TypeId} {n : Nat} {parts : Array (Nat × Operand)} {zs : List Value} {s : Nat} (hz : zeroOf P t = some (e, zs, s)) (hn : n * s ≤ 16777216) {z : AV} (hzc : z.cells = zs.map .val)
  (ho : partsOne (parts.toList.map fun p => (p.1, ρ p.2))) {o : Oper} (hop : o.op = .buildSlice t n parts) {k kp : AV → Store → Prop} (h : aRowLit e z s n (parts.toList.map fun p => (p.1, ρ p.2)) σ k) : AOp P o ρ σ k kp := by
 refine AOp.ofRun fun R w ev ha hs => ?_
 obtain ⟨l, hl, hsz, hone, hf, hk⟩ := h
 rw [hzc] at hf
 obtain ⟨xs, hr, hrun⟩ := run_buildSlice hz hn ha parts ho hf w
 obtain ⟨_, _, _, _, _, _, _, _, hpos⟩ := zeroOf_run hz
 have hle : n ≤ n * s := Nat.le_mul_of_pos_right _ hpos
 have hxl : xs.length = n * s := by rw [hr.1, flat_length hsz, hl]
 have hown := World.ownsRow_lit (base := 0) (e := e) (size := s) w (List.toArray xs) n (Nat.zero_le _) (by simp only [maxLen]; omega) (by simpa using hxl)
 obtain ⟨g1, g2⟩ := st_newRow (R := R) hs (World.grownBy_alloc w (.cells (List.toArray xs) e) none) (E := e) (sz := s) (l := l) (vs := xs) (by rw [hl]; exact rowM.of (by simpa using hown)) hr (ones_rel hr hone) hpos hsz (by simp only [maxLen]; omega)
  (by intro b hb; simp only [Value.ownBlock, Option.some.injEq] at hb; omega)
 refine ⟨_, _, _, R, _, ?_, hk _ rfl, .own (by simpa [hl] using g1.rowV List.mem_cons_self), g1, g2⟩
 unfold execOp
 rw [hop]
 simp only [Sem.run_bind]
 rw [show (parts.map fun (i, x) => (i, ev x)) = parts.map fun x => (x.1, ev x.2) from rfl, hrun]
 rfl

end Go.Ab

namespace Go.Ab
variable {P : Program}

def keyb : Value → Value → Bool
 | .string a, .string b => decide (a.data.toList = b.data.toList)
 | .int _ x, .int _ y => decide (x = y)
 | .bool a, .bool b => decide (a = b)
 | _, _ => false
theorem keyb_iff {d : TypeDesc} {a b : Value} (ha : MapKept.IsKey d a) (hb : MapKept.IsKey d b) : keyb a b = true ↔ a = b := by
 cases d <;> cases a <;> simp only [MapKept.IsKey] at ha <;> cases b <;> simp only [MapKept.IsKey] at hb
 ·simp [keyb]
 ·subst ha; subst hb; simp [keyb]
 ·simp only [keyb, decide_eq_true_eq, Value.string.injEq]
  constructor
  ·intro h; exact ByteArray.ext (Array.ext' h)
  ·intro h; rw [h]
def mapOf (P : Program) (t : TypeId) : Option (TypeDesc × Value) := match P.underlying t with
 | some (.map k e) => match P.underlying k, P.info? e with
  | some d, some i => match i.zero with
   | some z => some (d, z)
   | none => none
  | _, _ => none
 | _ => none
theorem mapOf_run {t : TypeId} {d : TypeDesc} {z : Value} (h : mapOf P t = some (d, z)) : ∃ k e, P.underlying t = some (.map k e) ∧ P.underlying k = some d ∧ ∀ w : World, (zeroValue e).run P w = .ok z w := by
 unfold mapOf at h
 split at h
 ·rename_i k e hu
  split at h
  ·rename_i d' i hk hi
   split at h
   ·rename_i z' hz
    simp only [Option.some.injEq, Prod.mk.injEq] at h
    obtain ⟨rfl, rfl⟩ := h
    exact ⟨k, e, hu, hk, fun w => by simp [zeroValue, typeInfo, hi, hz]⟩
   ·cases h
  ·cases h
 ·cases h
abbrev MapL := List (Nat × Value × AV)
def findM (k : Value) (l : MapL) : Option AV := (l.find? fun x => keyb k x.2.1).map (·.2.2)
def setM (k : Value) (v : AV) (clock : Nat) : MapL → MapL
 | [] => [(clock, k, v)]
 | x :: l => bif keyb k x.2.1 then (x.1, x.2.1, v) :: l else x :: setM k v clock l
def lookA (P : Program) (t : TypeId) (ok : Bool) (m k : AV) (σ : Store) (u : AV) : Prop := match m, k with
 | .val (.map (some b)), .val kv => ∃ d z l clock, mapOf P t = some (d, z) ∧ MapKept.IsKey d kv ∧ Ent.map b l clock ∈ σ ∧ (∀ x ∈ l, MapKept.IsKey d x.2.1) ∧
   u = bif ok then .tuple [(findM kv l).getD (ofV z), .val (.bool (findM kv l).isSome)] else (findM kv l).getD (ofV z)
 | _, _ => False
def lenM (m : AV) (σ : Store) (u : AV) : Prop := match m with
 | .val (.map (some b)) => ∃ l clock, Ent.map b l clock ∈ σ ∧ u = .val (.int .i64 (l.length : Nat))
 | _ => False
def entryA (it : AV) (σ : Store) (u : AV) : Prop := match it with
 | .val (.pointer (some a)) => a.spot = none ∧ a.off = 0 ∧ ∃ mb since seen born stepped l x, Ent.iter a.block mb since (seen ++ [born]) stepped ∈ σ ∧ Ent.map mb l stepped ∈ σ ∧ x ∈ l ∧ x.1 = born ∧ u = .tuple [.val x.2.1, x.2.2]
 | _ => False
def isMapT (P : Program) (t : TypeId) : Bool := match P.underlying t with
 | some (.map _ _) => true
 | _ => false
def groundA (u : AV) : Prop := ∀ R R' v, VR R v u → VR R' v u
def lookC (P : Program) (f : FuncId) (args : List AV) (σ : Store) (u : AV) : Prop := ∃ σ' args', Sub σ args σ' args' ∧ aPure P f args' u ∧ groundA u
def pureN (P : Program) (op : Op) (args : List AV) (u : AV) : Prop := match op, args with
 | .typeAssert _ _ T ok, [x] => match x with
  | .ifc t v => (match P.underlying T with | some (.interface _) => False | some _ => True | none => False) ∧ t = T ∧ u = bif ok then .tuple [v, .val (.bool true)] else v
  | _ => False
 | _, _ => False
def readN (P : Program) (op : Op) (args : List AV) (σ : Store) (u : AV) : Prop := match op, args with
 | .lookup t _ _ ok, [m, k] => lookA P t ok m k σ u
 | .entry _, [it] => entryA it σ u
 | .call c, args => match c.callee with
  | .builtin b => match b, c.argTypes.toList, args with
   | .len, [t], [m] => isMapT P t = true ∧ lenM m σ u
   | _, _, _ => False
  | .value _ => match args with
   | x :: args => match calleeOf x with
    | some (f, a, b) => lookC P f (a ++ args ++ b) σ u
    | none => False
   | [] => False
  | _ => False
 | _, _ => False

def postMake (σ : Store) (u : AV) (σ' : Store) : Prop := ∃ b, u = .val (.map (some b)) ∧ σ' = .map b [] 0 :: σ
def postRange (σ : Store) (mb clock : Nat) (u : AV) (σ' : Store) : Prop := ∃ b, u = .val (.pointer (some ⟨b, 0, none⟩)) ∧ σ' = .iter b mb clock [] clock :: σ
def leftM (l : MapL) (seen : List Nat) : MapL := l.filter fun x => !seen.contains x.1
def postNext (σ1 σ2 : Store) (r mb clock : Nat) (seen : List Nat) (l : MapL) (u : AV) (σ' : Store) : Prop :=
 (leftM l seen = [] ∧ u = .tuple [.val (.bool false)] ∧ σ' = σ1 ++ .iter r mb clock seen clock :: σ2) ∨
 ∃ x ∈ leftM l seen, u = .tuple [.val (.bool true), .val x.2.1, x.2.2] ∧ σ' = σ1 ++ .iter r mb clock (seen ++ [x.1]) clock :: σ2
def srcP (sz : Nat) (σ : Store) (x : AV) (ys : List AV) : Prop := match x with
 | .lst z l _ => z = sz ∧ ys = l
 | .own v _ => ∃ E l fl, Ent.row v E sz l fl ∈ σ ∧ ys = l
 | .sub v z a n => z = sz ∧ ∃ E l fl, Ent.row v E sz l fl ∈ σ ∧ a + n ≤ l.length ∧ ys = (l.drop a).take n
 | .val (.slice none 0 0) => ys = []
 | _ => False
def szOf (P : Program) (t : TypeId) : Option (TypeId × Nat) := match P.underlying t with
 | some (.slice e) => (P.info? e).map fun i => (e, i.size)
 | _ => none
def copyOk (P : Program) (t : TypeId) (sz : Nat) (d : AV) (ys : List AV) (σ : Store) : Prop := match d with
 | .sub v z a n => z = sz ∧ ∃ E l, szOf P t = some (E, sz) ∧ Ent.row v E sz l 0 ∈ σ ∧ a + n ≤ l.length
 | .val (.slice (some p) n _) => p.spot = none ∧ sz = 1 ∧ ∃ E tt cs, szOf P t = some (E, 1) ∧ Ent.var p.block tt cs ∈ σ ∧ p.off + n ≤ cs.length ∧ ∀ y ∈ ys, y.one = true ∧ y.cells = [y]
 | _ => False
def copyTo (d : AV) (ys : List AV) (σ : Store) (u : AV) (σ' : Store) : Prop := match d with
 | .sub v sz a n => ∃ E l σ1 σ2, σ = σ1 ++ .row v E sz l 0 :: σ2 ∧
   u = .val (.int .i64 ((min ys.length n : Nat) : Int)) ∧ σ' = σ1 ++ .row v E sz (l.take a ++ ys.take (min ys.length n) ++ l.drop (a + min ys.length n)) 0 :: σ2
 | .val (.slice (some p) n _) => ∃ tt cs σ1 σ2, σ = σ1 ++ .var p.block tt cs :: σ2 ∧
   u = .val (.int .i64 ((min ys.length n : Nat) : Int)) ∧ σ' = σ1 ++ .var p.block tt (splice cs p.off (ys.take (min ys.length n))) :: σ2
 | _ => False
def rawV (P : Program) (s d : TypeId) (x : AV) (σ : Store) (post : AV → Store → Prop) : Prop := ∀ R w v, VR R v x → St R w σ → ∃ v' w' u R' σ', (convert s d v).run P w = .ok v' w' ∧ post u σ' ∧ VR R' v' u ∧ St R' w' σ' ∧ Ext R w σ R' w' σ'
def effN (P : Program) (op : Op) (args : List AV) (σ : Store) (post : AV → Store → Prop) : Prop := match op, args with
 | .makeMap _ none, [] => post = postMake σ
 | .mapUpdate t _ _ _, [m, k, v] => match m, k with
  | .val (.map (some b)), .val kv => ∃ d z l clock σ1 σ2, mapOf P t = some (d, z) ∧ MapKept.IsKey d kv ∧ σ = σ1 ++ .map b l clock :: σ2 ∧ (∀ x ∈ l, MapKept.IsKey d x.2.1) ∧
    post = fun u σ' => u = .undef ∧ σ' = σ1 ++ .map b (setM kv v clock l) (bif l.any (fun x => keyb kv x.2.1) then clock else clock + 1) :: σ2
  | _, _ => False
 | .range t _, [m] => match m with
  | .val (.map (some mb)) => ∃ l clock, isMapT P t = true ∧ Ent.map mb l clock ∈ σ ∧ post = postRange σ mb clock
  | _ => False
 | .next _ false, [it] => match it with
  | .val (.pointer (some a)) => a.spot = none ∧ a.off = 0 ∧ ∃ σ1 σ2 mb clock seen l, σ = σ1 ++ .iter a.block mb clock seen clock :: σ2 ∧ Ent.map mb l clock ∈ σ1 ++ σ2 ∧ post = postNext σ1 σ2 a.block mb clock seen l
  | _ => False
 | .convert s d _, [x] => rawV P s d x σ post
 | .call c, args => match c.callee with
  | .builtin b => match b, c.argTypes.toList, args with
   | .clear, [t], [x] => match x with
    | .sub v sz a n => ∃ E zs s by_ l σ1 σ2, rowOf P t = some (E, zs, s, by_) ∧ (∀ z ∈ zs, z.oneCell' = true) ∧ σ = σ1 ++ .row v E sz l 0 :: σ2 ∧ s = sz ∧ a + n ≤ l.length ∧
      post = fun u σ' => u = .undef ∧ σ' = σ1 ++ .row v E sz (l.take a ++ List.replicate n (mkE (zs.map .val)) ++ l.drop (a + n)) 0 :: σ2
    | _ => False
   | .copy, [t, xt], [d, x] => (∃ sz ys, srcP sz σ x ys ∧ copyOk P t sz d ys σ ∧ post = copyTo d ys σ) ∨ rawB P .copy #[t, xt] [d, x] σ post
   | _, _, _ => False
  | _ => False
 | _, _ => False
def hookE (P : Program) (op : Op) (args : List AV) (σ : Store) (k : AV → Store → Prop) : Prop := ∃ post, effN P op args σ post ∧ ∀ u σ', post u σ' → k u σ'
theorem hookE_mono {op : Op} {args : List AV} {σ : Store} {k k' : AV → Store → Prop} (hk : ∀ u σ', k u σ' → k' u σ') (h : hookE P op args σ k) : hookE P op args σ k' := by
 obtain ⟨post, h1, h2⟩ := h
 exact ⟨post, h1, fun u σ' hp => hk _ _ (h2 u σ' hp)⟩

theorem exec_builtin {o : Oper} {b : Builtin} {args : Array Operand} {ts : Array TypeId} (ho : o.op = .call { callee := .builtin b, args, argTypes := ts }) (ev : Operand → Value) (w : World) :
  ∃ cs, (execOp ev o).run P w = (builtin b ts o.type cs (args.map ev)).run P w := by
 unfold execOp
 rw [ho]
 exact ⟨_, rfl⟩
theorem borrow_ {f : FuncId} {args args' : List AV} {σ σ' : Store} {u : AV} (hs : Sub σ args σ' args') (hp : aPure P f args' u) (hg : groundA u) : ACalls P f args σ fun x τ => x = .ret u ∧ τ = σ := by
 refine ⟨hp.1, fun R w vs hv hst => ?_⟩
 obtain ⟨R1, h1, h2, h3⟩ := hs R w vs hv hst
 have h2' : St R1 w [] := h2.sub (List.nil_sublist _)
 refine (hp.2 R1 w vs h1 h2').mono ?_
 rintro e w' ⟨x, R', σ'', he, ⟨rfl, rfl⟩, h4, h5⟩
 have hb : ∀ b, b < w.heap.size → w'.heap[b]? = w.heap[b]? := fun b hb => h5.block b hb (by simp [blks])
 refine ⟨.ret u, R, σ, ?_, ⟨rfl, rfl⟩, ⟨fun a v ha => ?_, fun e he => (hst.ents e he).keep (fun _ _ h => h) (fun b hb' => hb b ((hst.ents e he).lt hb')) (fun b _ a x h _ => h), hst.apart⟩, ⟨fun _ _ h => h, h5.os, h5.tape, h5.output, h5.size, fun k hk _ => hb k hk, fun k hk => .inl hk, fun a v ha => .inl ha⟩⟩
 ·cases e with
  | returned v => exact hg R' R v he
  | panicked c => exact he.elim
  | outgrown => exact he.elim
 ·have hc := hst.ro a v ha
  have hlt := World.block_lt_of_cell? w a hc
  rw [← hc]
  simp only [World.cell?, hb a.block hlt]
theorem pureN_ok (o : Oper) (ρ : Operand → AV) (u : AV) (σ : Store) (k kp : AV → Store → Prop) (h : pureN P o.op (o.op.operands.toList.map ρ) u) (hk : k u σ) : AOp P o ρ σ k kp := by
 unfold pureN at h
 split at h
 ·rename_i x xt T ok y hop hargs
  have e : y = ρ x := by rw [hop] at hargs; simpa [Op.operands] using hargs.symm
  subst e
  split at h
  ·rename_i t v ex
   obtain ⟨h1, rfl, hu⟩ := h
   refine AOp.ofRun fun R w ev ha hs => ?_
   have hx := ha x
   rw [ex] at hx
   generalize hxv : ev x = xv at hx
   cases hx with
   | ifc hv =>
    rename_i v0
    refine ⟨bif ok then .tuple #[v0, .bool true] else v0, w, u, R, σ, ?_, hk, ?_, hs, Ext.refl _ _ _⟩
    ·unfold execOp
     rw [hop]
     cases hd : P.underlying t with
     | none => rw [hd] at h1; exact h1.elim
     | some d =>
      rw [hd] at h1
      cases d <;> first | exact h1.elim | (cases ok <;> simp [Instr.typeAssert, run_underlying hd, hxv])
    ·rw [hu]
     cases ok with
     | false => exact hv
     | true => exact VR.tuple' (VRs.cons hv (VRs.cons (.val _) (VRs.nil R)))
  ·exact h.elim
 ·exact h.elim

theorem map_at {R : RO} {w : World} {σ : Store} (hs : St R w σ) {b : Nat} {l : MapL} {clock : Nat} (hm : Ent.map b l clock ∈ σ) :
  ∃ es : Array MapEntry, w.heap[b]? = some (.map es clock) ∧ es.toList.length = l.length ∧ (∀ (i : Nat) (e : MapEntry) (x : Nat × Value × AV), es.toList[i]? = some e → l[i]? = some x → e.born = x.1 ∧ e.key = x.2.1 ∧ VR R e.val x.2.2) ∧ (∀ x ∈ l, x.1 < clock) ∧ (l.map (·.1)).Nodup := by
 obtain ⟨⟨es, h1, h2, h3⟩, h4, h5, _⟩ := hs.ents _ hm
 exact ⟨es, h1, h2, h3, h4, h5⟩
theorem map_mem {R : RO} {es : Array MapEntry} {l : MapL} (h2 : es.toList.length = l.length) (h3 : ∀ (i : Nat) (e : MapEntry) (x : Nat × Value × AV), es.toList[i]? = some e → l[i]? = some x → e.born = x.1 ∧ e.key = x.2.1 ∧ VR R e.val x.2.2)
  {e : MapEntry} (he : e ∈ es.toList) : ∃ x ∈ l, e.born = x.1 ∧ e.key = x.2.1 ∧ VR R e.val x.2.2 := by
 obtain ⟨i, hi⟩ := List.mem_iff_getElem?.1 he
 have hlt : i < l.length := by rw [← h2]; exact (List.getElem?_eq_some_iff.1 hi).1
 exact ⟨l[i], List.getElem_mem _, h3 i e _ hi (List.getElem?_eq_getElem hlt)⟩
theorem map_mem' {R : RO} {es : Array MapEntry} {l : MapL} (h2 : es.toList.length = l.length) (h3 : ∀ (i : Nat) (e : MapEntry) (x : Nat × Value × AV), es.toList[i]? = some e → l[i]? = some x → e.born = x.1 ∧ e.key = x.2.1 ∧ VR R e.val x.2.2)
  {x : Nat × Value × AV} (hx : x ∈ l) : ∃ e ∈ es.toList, e.born = x.1 ∧ e.key = x.2.1 ∧ VR R e.val x.2.2 := by
 obtain ⟨i, hi⟩ := List.mem_iff_getElem?.1 hx
 have hlt : i < es.toList.length := by rw [h2]; exact (List.getElem?_eq_some_iff.1 hi).1
 exact ⟨es.toList[i], List.getElem_mem _, h3 i _ x (List.getElem?_eq_getElem hlt) hi⟩
theorem map_borns {R : RO} {es : Array MapEntry} {l : MapL} (h2 : es.toList.length = l.length) (h3 : ∀ (i : Nat) (e : MapEntry) (x : Nat × Value × AV), es.toList[i]? = some e → l[i]? = some x → e.born = x.1 ∧ e.key = x.2.1 ∧ VR R e.val x.2.2) :
  es.toList.map (·.born) = l.map (·.1) := by
 apply List.ext_getElem?
 intro i
 rw [List.getElem?_map, List.getElem?_map]
 rcases Nat.lt_or_ge i l.length with hi | hi
 ·have hi' : i < es.toList.length := by omega
  rw [List.getElem?_eq_getElem hi, List.getElem?_eq_getElem hi']
  have := (h3 i _ _ (List.getElem?_eq_getElem hi') (List.getElem?_eq_getElem hi)).1
  simpa using this
 ·rw [List.getElem?_eq_none hi, List.getElem?_eq_none (by omega)]
  rfl
theorem findM_spec {R : RO} {d : TypeDesc} {k : Value} (hk : MapKept.IsKey d k) : ∀ (l : MapL) (es : List MapEntry) (i : Nat), es.length = l.length → (∀ (i : Nat) (e : MapEntry) (x : Nat × Value × AV), es[i]? = some e → l[i]? = some x → e.born = x.1 ∧ e.key = x.2.1 ∧ VR R e.val x.2.2) → (∀ x ∈ l, MapKept.IsKey d x.2.1) →
  (findM k l = none ∧ Instr.findNow d k es i = some none) ∨ ∃ u v j, findM k l = some u ∧ Instr.findNow d k es i = some (some (j, v)) ∧ VR R v u
 | [], [], i, _, _, _ => .inl ⟨rfl, rfl⟩
 | x :: l, [], i, h, _, _ => by simp at h
 | [], e :: es, i, h, _, _ => by simp at h
 | x :: l, e :: es, i, hl, hr, hks => by
  obtain ⟨h1, h2, h3⟩ := hr 0 e x rfl rfl
  have hkx := hks x List.mem_cons_self
  obtain ⟨r, hr1, hr2⟩ := MapKept.sameNow_of_keys hk (show MapKept.IsKey d e.key by rw [h2]; exact hkx)
  have hb := keyb_iff hk hkx
  cases r with
  | true =>
   have hkb : keyb k x.2.1 = true := hb.2 (by rw [← h2]; exact hr2.1 rfl)
   exact .inr ⟨x.2.2, e.val, i, by simp [findM, hkb], by simp [Instr.findNow, hr1], h3⟩
  | false =>
   have hkb : keyb k x.2.1 = false := by
    cases hc : keyb k x.2.1 with
    | false => rfl
    | true => have := hr2.2 (by rw [h2]; exact hb.1 hc); cases this
   have := findM_spec hk l es (i + 1) (by simpa using hl) (fun i e x he hx => hr (i + 1) e x (by simpa using he) (by simpa using hx)) (fun x hx => hks x (List.mem_cons_of_mem _ hx))
   have hfm : findM k (x :: l) = findM k l := by simp [findM, hkb]
   rw [hfm]
   simpa [Instr.findNow, hr1] using this
theorem ofV_rel (R : RO) (v : Value) : VR R v (ofV v) := by
 cases v with
 | agg cs => exact .agg (by simp) (VRs.ofVals R cs.toList).2
 | _ => exact .val _
theorem readN_ok (o : Oper) (ρ : Operand → AV) (u : AV) (σ : Store) (k kp : AV → Store → Prop) (h : readN P o.op (o.op.operands.toList.map ρ) σ u) (hk : k u σ) : AOp P o ρ σ k kp := by
 unfold readN at h
 split at h
 ·rename_i t x i ok m ky hop hargs
  rw [hop] at hargs
  simp only [Op.operands, List.map_cons, List.map_nil, List.cons.injEq, and_true] at hargs
  obtain ⟨rfl, rfl⟩ := hargs
  unfold lookA at h
  split at h
  ·rename_i b kv e1 e2
   obtain ⟨d, z, l, clock, hm, hkv, hmem, hks, hu⟩ := h
   obtain ⟨kt, et, q1, q2, q3⟩ := mapOf_run hm
   refine AOp.ofRun fun R w ev ha hs => ?_
   have hx := ha x; have hi := ha i
   rw [e1] at hx; rw [e2] at hi
   have hxv := hx.val_inv; have hiv := hi.val_inv
   obtain ⟨es, g1, g2, g3, g4, g5⟩ := map_at hs hmem
   have hck : ∀ e : Bool, (Instr.checkKey e 10000 kt kv).run P w = .ok () w := fun e => MapKept.run_checkKey q2 hkv e 9999
   rcases findM_spec hkv l es.toList 0 g2 g3 hks with ⟨f1, f2⟩ | ⟨u0, v0, j, f1, f2, f3⟩
   ·have hfk := MapKept.run_findKey (P := P) (w := w) q2 f2
    refine ⟨bif ok then .tuple #[z, .bool false] else z, w, u, R, σ, ?_, hk, ?_, hs, Ext.refl _ _ _⟩
    ·unfold execOp
     rw [hop]
     simp only [Instr.lookup, hxv, hiv, Sem.run_bind, run_underlying q1, Result.andThen_ok, MapKept.run_getObj_map g1, hck, hfk, q3, Sem.run_pure]
     cases ok <;> rfl
    ·rw [hu, f1]
     cases ok with
     | false => exact ofV_rel R z
     | true => exact VR.tuple' (VRs.cons (ofV_rel R z) (VRs.cons (.val _) (VRs.nil R)))
   ·have hfk := MapKept.run_findKey (P := P) (w := w) q2 f2
    refine ⟨bif ok then .tuple #[v0, .bool true] else v0, w, u, R, σ, ?_, hk, ?_, hs, Ext.refl _ _ _⟩
    ·unfold execOp
     rw [hop]
     simp only [Instr.lookup, hxv, hiv, Sem.run_bind, run_underlying q1, Result.andThen_ok, MapKept.run_getObj_map g1, hck, hfk, q3, Sem.run_pure]
     cases ok <;> rfl
    ·rw [hu, f1]
     cases ok with
     | false => exact f3
     | true => exact VR.tuple' (VRs.cons f3 (VRs.cons (.val _) (VRs.nil R)))
  ·exact h.elim
 ·rename_i it y hop hargs
  have e : y = ρ it := by rw [hop] at hargs; simpa [Op.operands] using hargs.symm
  subst e
  unfold entryA at h
  split at h
  ·rename_i a e1
   obtain ⟨hsp, hoff, mb, since, seen, born, stepped, l, x, hit, hmap, hx, hb, hu⟩ := h
   refine AOp.ofRun fun R w ev ha hs => ?_
   have hx1 := ha it
   rw [e1] at hx1
   have hiv := hx1.val_inv
   obtain ⟨es, g1, g2, g3, g4, g5⟩ := map_at hs hmap
   obtain ⟨k1, _⟩ := hs.ents _ hit
   obtain ⟨e, he, b1, b2, b3⟩ := map_mem' g2 g3 hx
   have hn : (es.toList.map (·.born)).Nodup := by rw [map_borns g2 g3]; exact g5
   obtain ⟨ab, ao, asp⟩ := a
   simp only at hsp hoff k1
   subst hsp; subst hoff
   have hit' : w.heap[ab]? = some (.mapIter (some mb) since (seen.toArray.push e.born) stepped) := by
    rw [k1, b1, hb]; simp
   have hrun := run_entry_at (P := P) w ab mb since seen.toArray es stepped e hit' g1 he hn
   refine ⟨.tuple #[e.key, e.val], w, u, R, σ, ?_, hk, ?_, hs, Ext.refl _ _ _⟩
   ·unfold execOp
    rw [hop]
    simp only [Sem.run_bind, hiv, hrun, Result.andThen_ok, Sem.run_pure]
   ·rw [hu, b2]
    exact VR.tuple' (VRs.cons (.val _) (VRs.cons b3 (VRs.nil R)))
  ·exact h.elim
 ·rename_i c hop
  obtain ⟨callee, cargs, ts⟩ := c
  rw [hop] at h
  cases callee with
  | builtin b =>
   simp only [Op.operands, Call.operands, List.map_map] at h
   split at h
   ·rename_i t m hts hm
    obtain ⟨hmt, hl⟩ := h
    unfold lenM at hl
    split at hl
    ·rename_i b
     obtain ⟨l, clock, hmem, hu⟩ := hl
     refine AOp.ofRun fun R w ev ha hs => ?_
     obtain ⟨x, hx, hxm⟩ : ∃ x, cargs.toList = [x] ∧ ρ x = .val (.map (some b)) := by
      have h1 : cargs.toList.map ρ = [.val (.map (some b))] := by simpa using hm
      match hc : cargs.toList, h1 with
      | [x], h1 => exact ⟨x, rfl, by simpa using h1⟩
      | [], h1 => simp at h1
      | _ :: _ :: _, h1 => simp at h1
     have hv := ha x
     rw [hxm] at hv
     have hxv := hv.val_inv
     obtain ⟨es, g1, g2, _⟩ := map_at hs hmem
     have e1 : cargs = #[x] := by apply Array.ext'; simp [hx]
     have e2 : ts = #[t] := by apply Array.ext'; simp [hts]
     subst e1; subst e2
     refine ⟨.int .i64 (l.length : Nat), w, u, R, σ, ?_, hk, by rw [hu]; exact .val _, hs, Ext.refl _ _ _⟩
     obtain ⟨kt, et, q1⟩ : ∃ k e, P.underlying t = some (.map k e) := by
      unfold isMapT at hmt
      split at hmt
      ·exact ⟨_, _, by assumption⟩
      ·cases hmt
     obtain ⟨cs, hex⟩ := exec_builtin (P := P) hop ev w
     have e4 : (#[x] : Array Operand).map ev = #[ev x] := by simp
     rw [hex, e4, hxv]
     have e3 : es.size = l.length := by rw [← g2]; simp
     simp [builtin, Builtin.len_, run_underlying q1, MapKept.run_getObj_map g1, goInt, e3]
    ·exact hl.elim
   ·exact h.elim
  | value x =>
   simp only [Op.operands, Call.operands, Array.toList_append, List.map_append, List.map_cons, List.map_nil, List.cons_append, List.nil_append] at h
   split at h
   ·rename_i f a b hc
    obtain ⟨σ', args', h1, h2, h3⟩ := h
    exact ef_call hop hc (Or.inl ⟨σ, _, Sub.refl _ _, (borrow_ h1 h2 h3).mono fun x τ ⟨e1, e2⟩ => by rw [e1, e2]; exact hk⟩)
   ·exact h.elim
  | invoke r m => exact h.elim
 ·exact h.elim

theorem setM_rel {R : RO} {d : TypeDesc} {k : Value} (hk : MapKept.IsKey d k) (v : Value) (u : AV) (hv : VR R v u) (clock : Nat) : ∀ (l : MapL) (es : List MapEntry) (i : Nat), es.length = l.length → (∀ (i : Nat) (e : MapEntry) (x : Nat × Value × AV), es[i]? = some e → l[i]? = some x → e.born = x.1 ∧ e.key = x.2.1 ∧ VR R e.val x.2.2) → (∀ x ∈ l, MapKept.IsKey d x.2.1) →
  ((l.any fun x => keyb k x.2.1) = false ∧ Instr.findNow d k es i = some none ∧ setM k u clock l = l ++ [(clock, k, u)]) ∨
  ∃ j v0, (l.any fun x => keyb k x.2.1) = true ∧ Instr.findNow d k es i = some (some (i + j, v0)) ∧ (es[j]?).map (·.key) = some k ∧ (setM k u clock l).length = l.length ∧ (setM k u clock l).map (·.1) = l.map (·.1) ∧
   ∀ (i : Nat) (e : MapEntry) (x : Nat × Value × AV), (es.modify j fun e => { e with key := k, val := v })[i]? = some e → (setM k u clock l)[i]? = some x → e.born = x.1 ∧ e.key = x.2.1 ∧ VR R e.val x.2.2
 | [], [], i, _, _, _ => .inl ⟨rfl, rfl, rfl⟩
 | x :: l, [], i, h, _, _ => by simp at h
 | [], e :: es, i, h, _, _ => by simp at h
 | x :: l, e :: es, i, hl, hr, hks => by
  obtain ⟨h1, h2, h3⟩ := hr 0 e x rfl rfl
  have hkx := hks x List.mem_cons_self
  obtain ⟨r, hr1, hr2⟩ := MapKept.sameNow_of_keys hk (show MapKept.IsKey d e.key by rw [h2]; exact hkx)
  have hb := keyb_iff hk hkx
  cases r with
  | true =>
   have hkk : k = x.2.1 := by rw [← h2]; exact hr2.1 rfl
   have hkb : keyb k x.2.1 = true := hb.2 hkk
   refine .inr ⟨0, e.val, by simp [hkb], by simp [Instr.findNow, hr1], by simp [h2, hkk], by simp [setM, hkb], by simp [setM, hkb], ?_⟩
   intro i e' x' he hx
   simp only [setM, hkb, cond_true] at hx
   cases i with
   | zero =>
    simp [List.modify_cons] at he hx
    subst he; subst hx
    exact ⟨h1, hkk, hv⟩
   | succ i => exact hr (i + 1) e' x' (by simpa [List.modify_cons] using he) (by simpa using hx)
  | false =>
   have hkb : keyb k x.2.1 = false := by
    cases hc : keyb k x.2.1 with
    | false => rfl
    | true => have := hr2.2 (by rw [h2]; exact hb.1 hc); cases this
   have ih := setM_rel hk v u hv clock l es (i + 1) (by simpa using hl) (fun i e x he hx => hr (i + 1) e x (by simpa using he) (by simpa using hx)) (fun x hx => hks x (List.mem_cons_of_mem _ hx))
   rcases ih with ⟨g1, g2, g3⟩ | ⟨j, v0, g1, g2, g3, g4, g5, g6⟩
   ·exact .inl ⟨by simp only [List.any_cons, hkb, Bool.false_or]; exact g1, by simp [Instr.findNow, hr1, g2], by simp [setM, hkb, g3]⟩
   ·refine .inr ⟨j + 1, v0, by simp only [List.any_cons, hkb, Bool.false_or]; exact g1, by simp [Instr.findNow, hr1, g2]; omega, by simpa using g3, by simp [setM, hkb, g4], by simp [setM, hkb, g5], ?_⟩
    intro i e' x' he hx
    simp only [setM, hkb, cond_false] at hx
    cases i with
    | zero =>
     simp [List.modify_cons] at he hx
     subst he; subst hx
     exact ⟨h1, h2, h3⟩
    | succ i => exact g6 i e' x' (by simpa [List.modify_cons] using he) (by simpa using hx)
theorem st_newEnt {R : RO} {w : World} {σ : Store} (hs : St R w σ) (o : Obj) {e : Ent} (hb : e.blk = some w.heap.size) (he : EntOk R (w.alloc o) e) :
  St R (w.alloc o) (e :: σ) ∧ Ext R w σ R (w.alloc o) (e :: σ) := by
 have hold : ∀ k, k < w.heap.size → (w.alloc o).heap[k]? = w.heap[k]? := (MapKept.heap_alloc w o).2
 have hsz : w.heap.size ≤ (w.alloc o).heap.size := (World.grownBy_alloc w o none).size
 refine ⟨⟨fun a v ha => ?_, ?_, ?_⟩, ⟨fun _ _ h => h, rfl, rfl, rfl, hsz, fun k hk _ => hold k hk, ?_, fun a v ha => .inl ha⟩⟩
 ·have := hs.ro a v ha
  have hlt := World.block_lt_of_cell? w a this
  rw [← this]
  simp only [World.cell?, hold _ hlt]
 ·intro e' he'
  rcases List.mem_cons.1 he' with rfl | he'
  ·exact he
  ·exact (hs.ents e' he').keep (fun _ _ h => h) (fun b hb => hold b ((hs.ents e' he').lt hb)) fun _ _ _ _ h _ => h
 ·refine List.pairwise_cons.2 ⟨fun e' he' b h1 h2 => ?_, hs.apart⟩
  rw [hb] at h1
  have := (hs.ents e' he').lt h2
  cases h1
  omega
 ·intro k hk
  obtain ⟨e', he', hk'⟩ := mem_blks.1 hk
  rcases List.mem_cons.1 he' with rfl | he'
  ·rw [hb] at hk'; cases hk'; exact .inr (Nat.le_refl _)
  ·exact .inl (mem_blks.2 ⟨e', he', hk'⟩)
theorem ro_old {R : RO} {w : World} {σ : Store} (hs : St R w σ) : ∀ a x, R a = some x → a.block ≠ w.heap.size := fun a x ha e => by
 have := hs.roLt ha
 omega

theorem change_obj {R : RO} {w w1 : World} {σ1 σ2 : Store} {e e' : Ent} (hs : St R w (σ1 ++ e :: σ2)) {b : Nat} (hb : e.blk = some b) (hb' : e'.blk = some b) (h1 : w1 = w ∨ w1 = w.drew) (o : Obj) (hro : ∀ a x, R a = some x → a.block ≠ b) (he : ∀ w' : World, w'.heap[b]? = some o → (∀ k, k ≠ b → w'.heap[k]? = w.heap[k]?) → EntOk R w' e') :
  St R { w1 with heap := w1.heap.setIfInBounds b o } (σ1 ++ e' :: σ2) ∧ Ext R w (σ1 ++ e :: σ2) R { w1 with heap := w1.heap.setIfInBounds b o } (σ1 ++ e' :: σ2) := by
 have hlt : b < w.heap.size := hs.lt (mem_blks.2 ⟨e, by simp, hb⟩)
 have hh : w1.heap = w.heap := by rcases h1 with rfl | rfl <;> rfl
 have hnew : ({ w1 with heap := w1.heap.setIfInBounds b o } : World).heap[b]? = some o := by
  show (w1.heap.setIfInBounds b o)[b]? = some o
  rw [hh, Array.getElem?_setIfInBounds]; simp [hlt]
 have hold : ∀ k, k ≠ b → ({ w1 with heap := w1.heap.setIfInBounds b o } : World).heap[k]? = w.heap[k]? := by
  intro k hk
  show (w1.heap.setIfInBounds b o)[k]? = _
  rw [hh, Array.getElem?_setIfInBounds, if_neg (fun e => hk e.symm)]
 refine st_change hs hb hb' ?_ ?_ ?_ ?_ hold (fun a v ha hab => absurd hab (hro a v ha)) (he _ hnew hold)
 ·rcases h1 with rfl | rfl <;> rfl
 ·rcases h1 with rfl | rfl <;> rfl
 ·rcases h1 with rfl | rfl <;> rfl
 ·show (w1.heap.setIfInBounds b o).size = _
  rw [hh]; simp
theorem leftOf_mem {R : RO} {es : Array MapEntry} {l : MapL} (h2 : es.toList.length = l.length) (h3 : ∀ (i : Nat) (e : MapEntry) (x : Nat × Value × AV), es.toList[i]? = some e → l[i]? = some x → e.born = x.1 ∧ e.key = x.2.1 ∧ VR R e.val x.2.2) (seen : List Nat) :
  ((leftOf es seen.toArray).size = 0 → leftM l seen = []) ∧ ∀ e ∈ (leftOf es seen.toArray).toList, ∃ x ∈ leftM l seen, e.born = x.1 ∧ e.key = x.2.1 ∧ VR R e.val x.2.2 := by
 constructor
 ·intro h
  apply List.filter_eq_nil_iff.2
  intro x hx hc
  obtain ⟨e, he, b1, _, _⟩ := map_mem' h2 h3 hx
  have hm : e ∈ leftOf es seen.toArray := by
   unfold leftOf
   simp only [Array.mem_filter]
   exact ⟨Array.mem_toList_iff.1 he, by rw [b1]; simpa using hc⟩
  have := Array.eq_empty_of_size_eq_zero h
  rw [this] at hm
  simp at hm
 ·intro e he
  unfold leftOf at he
  simp only [Array.toList_filter, List.mem_filter] at he
  obtain ⟨x, hx, b1, b2, b3⟩ := map_mem h2 h3 he.1
  exact ⟨x, List.mem_filter.2 ⟨hx, by rw [← b1]; simpa using he.2⟩, b1, b2, b3⟩
theorem row_write {R : RO} {w : World} {σ1 σ2 : Store} {g n0 cap : Nat} {E : TypeId} {sz : Nat} {l ys : List AV} {news : List Value} (hs : St R w (σ1 ++ .row (.slice (some ⟨g, 0, none⟩) n0 cap) E sz l 0 :: σ2)) {a : Nat}
  (hr : VRs R news (flat ys)) (hone : ∀ v ∈ news, v.oneCell' = true) (hys : ∀ y ∈ ys, y.cells.length = sz) (hle : a + ys.length ≤ l.length) :
  ∃ w', (storeCells ⟨g, a * sz, none⟩ news).run P w = .ok () w' ∧ St R w' (σ1 ++ .row (.slice (some ⟨g, 0, none⟩) n0 cap) E sz (l.take a ++ ys ++ l.drop (a + ys.length)) 0 :: σ2) ∧
   Ext R w (σ1 ++ .row (.slice (some ⟨g, 0, none⟩) n0 cap) E sz l 0 :: σ2) R w' (σ1 ++ .row (.slice (some ⟨g, 0, none⟩) n0 cap) E sz (l.take a ++ ys ++ l.drop (a + ys.length)) 0 :: σ2) := by
 obtain ⟨vs, hvr, hvo, hown, hsz0, hsz, hc⟩ := row_cells hs (v := .slice (some ⟨g, 0, none⟩) n0 cap) (E := E) (sz := sz) (l := l) (fl := 0) (by simp)
 have hent0 := hs.ents (.row (.slice (some ⟨g, 0, none⟩) n0 cap) E sz l 0) (by simp)
 obtain ⟨_, _, _, hmax, hflo⟩ := hent0
 rcases hown.2 with ⟨h0, _⟩ | ⟨g', cap', cur, hvv, _, ⟨fz, hfz, hh⟩, hnc, hcm, hcs, htake⟩
 ·cases h0
 ·simp only [Value.slice.injEq, Option.some.injEq, Addr.mk.injEq, and_true, true_and] at hvv
  obtain ⟨rfl, hn, rfl⟩ := hvv
  have hnl : news.length = ys.length * sz := by rw [hr.1, flat_length hys]
  have hbnd : (a + ys.length) * sz ≤ l.length * sz := Nat.mul_le_mul_right _ hle
  rw [Nat.add_mul] at hbnd
  have hcap : l.length * sz ≤ cap * sz := Nat.mul_le_mul_right _ hnc
  have hcs' : cur.size = cap * sz := hcs
  have hst := run_storeCellsM P g (a * sz) E fz news 0 cur w hh (hfz.imp id (·.2)) (by rw [hnl]; omega) hone
  simp only [Nat.add_zero] at hst
  refine ⟨_, hst, ?_⟩
  have hvl : vs.length = l.length * sz := by rw [hvr.1, flat_length hsz]
  have hflat : flat (l.take a ++ ys ++ l.drop (a + ys.length)) = (flat l).take (a * sz) ++ flat ys ++ (flat l).drop (a * sz + news.length) := by
   rw [flat_append, flat_append, flat_take hsz, flat_drop hsz, hnl, Nat.add_mul]
  have hnew : VRs R (vs.take (a * sz) ++ news ++ vs.drop (a * sz + news.length)) (flat (l.take a ++ ys ++ l.drop (a + ys.length))) := by
   rw [hflat]
   exact ((hvr.take _).append hr).append (hvr.drop _)
  have hlen2 : (l.take a ++ ys ++ l.drop (a + ys.length)).length = l.length := by simp; omega
  have hwin : (cur.toList.take (a * sz) ++ news ++ cur.toList.drop (a * sz + news.length)).take (l.length * sz) = vs.take (a * sz) ++ news ++ vs.drop (a * sz + news.length) := by
   rw [← htake, List.take_take, List.drop_take, List.take_append, List.take_append, List.take_take]
   simp only [List.length_append, List.length_take, Array.length_toList]
   rw [List.take_of_length_le (l := news) (by omega)]
   congr 1
   ·congr 2; omega
   ·congr 1; omega
  have hsz2 : ∀ e ∈ l.take a ++ ys ++ l.drop (a + ys.length), e.cells.length = sz := by
   intro e he
   simp only [List.mem_append] at he
   rcases he with (he | he) | he
   ·exact hsz e (List.mem_of_mem_take he)
   ·exact hys e he
   ·exact hsz e (List.mem_of_mem_drop he)
  refine st_change hs (e := .row (.slice (some ⟨g, 0, none⟩) n0 cap) E sz l 0) (e' := .row (.slice (some ⟨g, 0, none⟩) n0 cap) E sz (l.take a ++ ys ++ l.drop (a + ys.length)) 0) (b := g) rfl rfl (by simp) (by simp) (by simp) (by simp) (fun k hk => setRow_other w g k _ hk) ?_ ?_
  ·intro b v hb hab
   have := (hflo b v hb (by simp [Value.ownBlock, hab])).1
   omega
  ·refine ⟨hsz0, hsz2, ⟨_, ⟨by rw [hnew.1, flat_length hsz2], .inr ⟨g, cap, _, by rw [hlen2, hn], Nat.zero_le _, ⟨fz, hfz.imp id (fun h => ⟨h.1, by have h2 := h.2; simp only [List.size_toArray, List.length_append, List.length_take, List.length_drop, Array.length_toList]; omega⟩), setRow_heap w g cur _ E _ hh⟩, by rw [hlen2]; exact hnc, hcm, ?_, by rw [hlen2]; exact hwin⟩⟩, hnew, ?_⟩, by rw [hlen2]; exact hmax, fun b v hb hv => ?_⟩
   ·simp only [List.size_toArray, List.length_append, List.length_take, Array.length_toList, List.length_drop, hcs']; omega
   ·intro v hv
    simp only [List.mem_append] at hv
    rcases hv with (hv | hv) | hv
    ·exact hvo v (List.mem_of_mem_take hv)
    ·exact hone v hv
    ·exact hvo v (List.mem_of_mem_drop hv)
   ·have := (hflo b v hb hv).1
    omega
theorem firstCells_pre {w : World} {sz n len cap : Nat} {a : Addr} {vs : List Value} {m : Nat} (hl : vs.length = m * sz) (hn : n ≤ m) (hc : ∀ (j : Nat) (u : Value), j < n * sz → vs[j]? = some u → w.cell? (a.add j) = some u) :
  (Builtin.firstCells sz n (.slice (some a) len cap)).run P w = .ok (vs.take (n * sz)).toArray w := by
 have hle : n * sz ≤ m * sz := Nat.mul_le_mul_right _ hn
 refine run_firstCells_some w sz n a len cap (vs.take (n * sz)) (by rw [List.length_take, hl]; omega) fun j u hj => ?_
 rw [List.getElem?_take] at hj
 split at hj
 ·rename_i hlt; exact hc j u hlt hj
 ·cases hj
theorem src_pre {R : RO} {w : World} {σ : Store} (hs : St R w σ) {sz : Nat} {v : Value} {x : AV} (hv : VR R v x) {ys : List AV} (h : srcP sz σ x ys) {n : Nat} (hn : n ≤ ys.length) :
  (Builtin.lenOf v).run P w = .ok ys.length w ∧ ∃ news, (Builtin.firstCells sz n v).run P w = .ok (List.toArray news) w ∧ VRs R news (flat (ys.take n)) ∧ (∀ u ∈ news, u.oneCell' = true) ∧ ∀ y ∈ ys, y.cells.length = sz := by
 unfold srcP at h
 split at h
 ·rename_i z l m
  obtain ⟨rfl, rfl⟩ := h
  obtain ⟨ao, cap, vs, rfl, hz0, hsz, hr, hR, hm, hb, hone⟩ := hv.lst_inv
  have hl : vs.length = ys.length * z := by rw [hr.1, flat_length hsz]
  refine ⟨rfl, vs.take (n * z), ?_, by rw [flat_take hsz]; exact hr.take _, fun u hu => hone u (List.mem_of_mem_take hu), hsz⟩
  cases ao with
  | none =>
   have : ys = [] := by
    cases ys with
    | nil => rfl
    | cons y ys => obtain ⟨a, ha, _⟩ := hR (by simp); cases ha
   subst this
   have : vs = [] := List.eq_nil_of_length_eq_zero (by simpa using hl)
   subst this
   simp [Builtin.firstCells]
  | some a =>
   refine firstCells_pre hl hn fun j u _ hj => ?_
   by_cases hne : ys = []
   ·subst hne
    have : vs = [] := List.eq_nil_of_length_eq_zero (by simpa using hl)
    subst this; simp at hj
   ·obtain ⟨a', ha, hc⟩ := hR hne
    cases ha
    exact hs.ro _ _ (hc j u hj)
 ·rename_i v0 n0
  obtain ⟨E, l, fl, hm, rfl⟩ := h
  obtain ⟨rfl, hrow⟩ := hv.own_inv
  obtain ⟨vs, hr, hvo, hown, _, hsz, hc⟩ := row_cells hs hm
  rcases hown.2 with ⟨rfl, hl0⟩ | ⟨g, cap, cur, rfl, _⟩
  ·have hl : ys = [] := List.eq_nil_of_length_eq_zero hl0
   subst hl
   exact ⟨rfl, [], by simp [Builtin.firstCells], by simpa [flat] using VRs.nil R, by simp, hsz⟩
  ·refine ⟨rfl, vs.take (n * sz), firstCells_pre hown.1 hn fun j u _ hj => hc g _ _ rfl j u hj, by rw [flat_take hsz]; exact hr.take _, fun u hu => hvo u (List.mem_of_mem_take hu), hsz⟩
 ·rename_i v0 z a n0
  obtain ⟨rfl, E, l, fl, hm, hle, rfl⟩ := h
  obtain ⟨vs, hr, hvo, hown, hz0, hsz, hc⟩ := row_cells hs hm
  have hlen : ((l.drop a).take n0).length = n0 := by simp; omega
  rw [hlen] at hn ⊢
  have hsz' : ∀ y ∈ (l.drop a).take n0, y.cells.length = z := fun y hy => hsz y (List.mem_of_mem_drop (List.mem_of_mem_take hy))
  have hflat2 : flat (((l.drop a).take n0).take n) = (((flat l).drop (a * z)).take (n0 * z)).take (n * z) := by
   rw [flat_take hsz', flat_take (fun e he => hsz e (List.mem_of_mem_drop he)), flat_drop hsz]
  rcases hv.sub_inv with ⟨_, _, rfl, rfl⟩ | ⟨g, n1, cap, p, rfl, hcap, hp, rfl⟩
  ·exact ⟨rfl, [], by simp [Builtin.firstCells], by simpa [flat] using VRs.nil R, by simp, hsz'⟩
  ·have hr' : VRs R (((vs.drop (a * z)).take (n0 * z)).take (n * z)) (flat (((l.drop a).take n0).take n)) := by rw [hflat2]; exact ((hr.drop _).take _).take _
   refine ⟨rfl, ((vs.drop (a * z)).take (n0 * z)).take (n * z), ?_, hr', fun u hu => hvo u (List.mem_of_mem_drop (List.mem_of_mem_take (List.mem_of_mem_take hu))), hsz'⟩
   have hvl : ((vs.drop (a * z)).take (n0 * z)).length = n0 * z := by
    have hb : (a + n0) * z ≤ l.length * z := Nat.mul_le_mul_right _ hle
    rw [Nat.add_mul] at hb
    rw [List.length_take, List.length_drop, hown.1]; omega
   refine firstCells_pre hvl hn fun j u hlt hj => ?_
   have hnz : n * z ≤ n0 * z := Nat.mul_le_mul_right _ hn
   have hn0 : 0 < n0 := by
    rcases Nat.eq_zero_or_pos n0 with e | e
    ·subst e; simp at hnz; omega
    ·exact e
   rw [hp (by omega), addr_lit_add]
   rw [List.getElem?_take, if_pos (by omega), List.getElem?_drop] at hj
   have := hc g n1 cap rfl (a * z + j) u hj
   rw [addr_lit_add, Nat.zero_add] at this
   exact this
 ·subst h
  rw [hv.val_inv]
  exact ⟨rfl, [], by simp [Builtin.firstCells], by simpa [flat] using VRs.nil R, by simp, by simp⟩
 ·exact h.elim
theorem hookE_ok (o : Oper) (ρ : Operand → AV) (σ : Store) (k kp : AV → Store → Prop) (h : hookE P o.op (o.op.operands.toList.map ρ) σ k) : AOp P o ρ σ k kp := by
 obtain ⟨post, h, hk⟩ := h
 unfold effN at h
 split at h
 ·rename_i t hop hargs
  subst h
  refine AOp.ofRun fun R w ev ha hs => ?_
  have hent : EntOk R (w.alloc (.map #[] 0)) (.map w.heap.size [] 0) := ⟨⟨#[], (MapKept.heap_alloc w _).1, rfl, fun i e x he => by simp at he⟩, by simp, by simp, ro_old hs⟩
  obtain ⟨g1, g2⟩ := st_newEnt hs (.map #[] 0) rfl hent
  refine ⟨.map (some w.heap.size), _, _, R, _, ?_, hk _ _ ⟨w.heap.size, rfl, rfl⟩, .val _, g1, g2⟩
  unfold execOp
  rw [hop]
  simp [Instr.makeMap]
 ·rename_i t m kk v ma ka va hop hargs
  rw [hop] at hargs
  simp only [Op.operands, List.map_cons, List.map_nil, List.cons.injEq, and_true] at hargs
  obtain ⟨rfl, rfl, rfl⟩ := hargs
  split at h
  ·rename_i b kv e1 e2
   obtain ⟨d, z, l, clock, σ1, σ2, hm, hkv, rfl, hks, rfl⟩ := h
   obtain ⟨kt, et, q1, q2, q3⟩ := mapOf_run hm
   refine AOp.ofSkip fun R w ev ha hs => ?_
   have hx := ha m; have hi := ha kk; have hv := ha v
   rw [e1] at hx; rw [e2] at hi
   have hxv := hx.val_inv; have hiv := hi.val_inv
   have hmem : Ent.map b l clock ∈ σ1 ++ .map b l clock :: σ2 := by simp
   obtain ⟨es, g1, g2, g3, g4, g5⟩ := map_at hs hmem
   have hro : ∀ a x, R a = some x → a.block ≠ b := (hs.ents _ hmem).2.2.2
   have hck : (Instr.checkKey false 10000 kt kv).run P w = .ok () w := MapKept.run_checkKey q2 hkv false 9999
   rcases setM_rel hkv (ev v) (ρ v) hv clock l es.toList 0 g2 g3 hks with ⟨f1, f2, f3⟩ | ⟨j, v0, f1, f2, f3, f4, f5, f6⟩
   ·have hfk := MapKept.run_findKey (P := P) (w := w) q2 f2
    obtain ⟨n1, n2⟩ := change_obj (w1 := w) hs (b := b) (e' := .map b (setM kv (ρ v) clock l) (clock + 1)) rfl rfl (.inl rfl) (.map (es.push { key := kv, val := ev v, born := clock }) (clock + 1)) hro (fun w' hw' hold => by
     refine ⟨⟨_, hw', by simp [f3, ← g2], ?_⟩, ?_, ?_, hro⟩
     ·intro i e x he hxx
      rw [f3] at hxx
      rw [Array.toList_push] at he
      rcases Nat.lt_or_ge i l.length with hlt | hge
      ·rw [List.getElem?_append_left (by rw [g2]; exact hlt)] at he
       rw [List.getElem?_append_left hlt] at hxx
       exact g3 i e x he hxx
      ·rw [List.getElem?_append_right (by rw [g2]; exact hge)] at he
       rw [List.getElem?_append_right hge] at hxx
       rw [g2] at he
       cases hn : i - l.length with
       | zero => rw [hn] at he hxx; simp at he hxx; subst he; subst hxx; exact ⟨rfl, rfl, hv⟩
       | succ n => rw [hn] at he; simp at he
     ·intro x hxx
      rw [f3] at hxx
      rcases List.mem_append.1 hxx with hxx | hxx
      ·have := g4 x hxx; omega
      ·simp at hxx; subst hxx; simp
     ·rw [f3, List.map_append]
      refine List.nodup_append.2 ⟨g5, by simp, ?_⟩
      intro a ha b hb
      simp at hb
      subst hb
      obtain ⟨x, hx, rfl⟩ := List.mem_map.1 ha
      have := g4 x hx
      omega)
    refine ⟨_, R, _, ?_, hk _ _ ⟨rfl, by rw [f1]; rfl⟩, n1, n2⟩
    unfold execOp
    rw [hop]
    simp only [Instr.mapUpdate, hxv, hiv, Sem.run_bind, run_underlying q1, Result.andThen_ok, MapKept.run_getObj_map g1, hck, hfk, MapKept.run_setObj_map _ g1, Sem.run_pure]
   ·rw [Nat.zero_add] at f2
    have hfk := MapKept.run_findKey (P := P) (w := w) q2 f2
    obtain ⟨n1, n2⟩ := change_obj (w1 := w) hs (b := b) (e' := .map b (setM kv (ρ v) clock l) clock) rfl rfl (.inl rfl) (.map (es.modify j fun e => { e with key := kv, val := ev v }) clock) hro (fun w' hw' hold => by
     refine ⟨⟨_, hw', by simp [f4, ← g2], ?_⟩, ?_, by rw [f5]; exact g5, hro⟩
     ·intro i e x he hxx
      exact f6 i e x (by simpa using he) hxx
     ·intro x hxx
      have : x.1 ∈ (setM kv (ρ v) clock l).map (·.1) := List.mem_map.2 ⟨x, hxx, rfl⟩
      rw [f5] at this
      obtain ⟨y, hy, hyx⟩ := List.mem_map.1 this
      rw [← hyx]; exact g4 y hy)
    have hkey : ((es[j]?).map (·.key)).getD kv = kv := by
     have : es.toList[j]? = es[j]? := Array.getElem?_toList
     rw [← this, f3]; rfl
    refine ⟨_, R, _, ?_, hk _ _ ⟨rfl, by rw [f1]; rfl⟩, n1, n2⟩
    unfold execOp
    rw [hop]
    have hks' := MapKept.run_keyThatStays (P := P) (w := w) hkv
    simp only [Instr.mapUpdate, hxv, hiv, Sem.run_bind, run_underlying q1, Result.andThen_ok, MapKept.run_getObj_map g1, hck, hfk, hkey, hks', MapKept.run_setObj_map _ g1, Sem.run_pure]
  ·exact h.elim
 ·rename_i t x mx hop hargs
  have e : mx = ρ x := by rw [hop] at hargs; simpa [Op.operands] using hargs.symm
  subst e
  split at h
  ·rename_i mb e1
   obtain ⟨l, clock, hmt, hmem, rfl⟩ := h
   refine AOp.ofRun fun R w ev ha hs => ?_
   have hx := ha x
   rw [e1] at hx
   have hxv := hx.val_inv
   obtain ⟨es, g1, g2, g3, g4, g5⟩ := map_at hs hmem
   obtain ⟨kt, et, q1⟩ : ∃ k e, P.underlying t = some (.map k e) := by
    unfold isMapT at hmt
    split at hmt
    ·exact ⟨_, _, by assumption⟩
    ·cases hmt
   have hent : EntOk R (w.alloc (.mapIter (some mb) clock #[] clock)) (.iter w.heap.size mb clock [] clock) := ⟨(MapKept.heap_alloc w _).1, ro_old hs⟩
   obtain ⟨n1, n2⟩ := st_newEnt hs (.mapIter (some mb) clock #[] clock) rfl hent
   have hrun := run_range_map (P := P) w t kt et mb es clock q1 g1
   refine ⟨.pointer (some ⟨w.heap.size, 0, none⟩), _, _, R, _, ?_, hk _ _ ⟨w.heap.size, rfl, rfl⟩, .val _, n1, n2⟩
   unfold execOp
   rw [hop]
   simp only [Sem.run_bind, hxv, hrun, Result.andThen_ok, Sem.run_pure]
  ·exact h.elim
 ·rename_i it ity hop hargs
  have e : ity = ρ it := by rw [hop] at hargs; simpa [Op.operands] using hargs.symm
  subst e
  split at h
  ·rename_i a e1
   obtain ⟨hsp, hoff, σ1, σ2, mb, clock, seen, l, rfl, hmem, rfl⟩ := h
   refine AOp.ofRun fun R w ev ha hs => ?_
   have hx := ha it
   rw [e1] at hx
   have hxv := hx.val_inv
   obtain ⟨ab, ao, asp⟩ := a
   simp only at hsp hoff hk ⊢
   subst hsp; subst hoff
   have hmem' : Ent.map mb l clock ∈ σ1 ++ .iter ab mb clock seen clock :: σ2 := by
    rcases List.mem_append.1 hmem with h | h
    ·exact List.mem_append_left _ h
    ·exact List.mem_append_right _ (List.mem_cons_of_mem _ h)
   obtain ⟨es, g1, g2, g3, g4, g5⟩ := map_at hs hmem'
   have hit := hs.ents (.iter ab mb clock seen clock) (by simp)
   obtain ⟨k1, k2⟩ := hit
   have hold : ∀ x ∈ es.toList, x.born < clock := fun e he => by
    obtain ⟨x, hx, b1, _⟩ := map_mem g2 g3 he
    rw [b1]; exact g4 x hx
   obtain ⟨f1, f2⟩ := leftOf_mem g2 g3 seen
   rcases run_next_at (P := P) w o.type ab mb clock clock seen.toArray es clock k1 g1 hold (Nat.le_refl _) with ⟨z, hrun⟩ | ⟨e, he, w1, hw1, hrun⟩
   ·refine ⟨.tuple #[.bool false], w, _, R, _, ?_, hk _ _ (.inl ⟨f1 z, rfl, rfl⟩), VR.tuple' (VRs.cons (.val _) (VRs.nil R)), hs, Ext.refl _ _ _⟩
    unfold execOp
    rw [hop]
    simp only [Sem.run_bind, hxv, hrun, Result.andThen_ok, Sem.run_pure]
   ·obtain ⟨x, hxl, b1, b2, b3⟩ := f2 e he
    have hobj : (Obj.mapIter (some mb) clock (seen.toArray.push e.born) clock) = .mapIter (some mb) clock (seen ++ [x.1]).toArray clock := by rw [b1]; simp
    obtain ⟨n1, n2⟩ := change_obj (w1 := w1) hs (b := ab) (e' := .iter ab mb clock (seen ++ [x.1]) clock) rfl rfl hw1 (.mapIter (some mb) clock (seen.toArray.push e.born) clock) k2 (fun w' hw' _ => ⟨by rw [hw', hobj], k2⟩)
    refine ⟨.tuple #[.bool true, e.key, e.val], _, _, R, _, ?_, hk _ _ (.inr ⟨x, hxl, rfl, rfl⟩), ?_, n1, n2⟩
    ·unfold execOp
     rw [hop]
     simp only [Sem.run_bind, hxv, hrun, Result.andThen_ok, Sem.run_pure]
     rfl
    ·rw [b2]
     exact VR.tuple' (VRs.cons (.val _) (VRs.cons (.val _) (VRs.cons b3 (VRs.nil R))))
  ·exact h.elim
 ·rename_i s d y x hop hargs
  rw [hop] at hargs
  simp only [Op.operands, List.map_cons, List.map_nil, List.cons.injEq, and_true] at hargs
  subst hargs
  refine AOp.ofRun fun R w ev ha hs => ?_
  obtain ⟨v', w', u, R', σ', h1, h2, h3, h4, h5⟩ := h R w (ev y) (ha y) hs
  refine ⟨v', w', u, R', σ', ?_, hk _ _ h2, h3, h4, h5⟩
  unfold execOp
  rw [hop]
  simp [h1]
 ·rename_i c hop
  obtain ⟨callee, cargs, ts⟩ := c
  cases callee with
  | builtin b =>
   have hargs : o.op.operands.toList.map ρ = cargs.toList.map ρ := by rw [hop]; simp [Op.operands, Call.operands]
   simp only at h
   rw [hargs] at h
   split at h
   ·rename_i t x hts hx
    obtain ⟨y, hy, hyx⟩ : ∃ y, cargs.toList = [y] ∧ ρ y = x := by
     match hc : cargs.toList, hx with
     | [y], hx => exact ⟨y, rfl, by simpa using hx⟩
    have e1 : cargs = #[y] := by apply Array.ext'; simp [hy]
    have e2 : ts = #[t] := by apply Array.ext'; simp [hts]
    subst e1; subst e2
    split at h
    ·rename_i v sz a n
     obtain ⟨E, zs, s, by_, l, σ1, σ2, hro, hzo, rfl, rfl, hle, rfl⟩ := h
     obtain ⟨ht, i, z, hi, hz, hzc, hzl, his, _, hpos⟩ := rowOf_run hro
     refine AOp.ofRun fun R w ev ha hs => ?_
     have hv := ha y
     rw [hyx] at hv
     have hsub := hv.sub_inv
     obtain ⟨cs, hex⟩ := exec_builtin (P := P) hop ev w
     have e4 : (#[y] : Array Operand).map ev = #[ev y] := by simp
     have hmk : (mkE (zs.map AV.val)).cells = zs.map .val := mkE_cells fun c hc => by
      obtain ⟨v, hv, rfl⟩ := List.mem_map.1 hc
      exact hzo v hv
     have hzr : (zeroValue E).run P w = .ok z w := by simp [zeroValue, typeInfo, hi, hz]
     have same : n = 0 → l.take a ++ List.replicate n (mkE (zs.map AV.val)) ++ l.drop (a + n) = l := fun h0 => by subst h0; simp
     have hval : ∀ (x : Value) (w1 : World), (Builtin.clear_ #[t] o.type #[x]).run P w = .ok (.tuple #[]) w1 → ev y = x → (execOp ev o).run P w = .ok (.value (.tuple #[])) w1 := by
      intro x w1 h1 h2
      rw [hex, e4, h2]
      simp [builtin, h1]
     by_cases hn : n = 0
     ·have hrun : (Builtin.clear_ #[t] o.type #[ev y]).run P w = .ok (.tuple #[]) w := by
       rcases hsub with ⟨_, _, _, hv⟩ | ⟨g, n0, cap, p, _, _, _, hv⟩
       ·rw [hv]; simp [Builtin.clear_, run_underlying ht]
       ·rw [hv, hn]; simp [Builtin.clear_, run_underlying ht]
      exact ⟨_, w, .undef, R, _, hval _ w hrun rfl, hk _ _ ⟨rfl, rfl⟩, .undef _, by rw [same hn]; exact hs, by rw [same hn]; exact Ext.refl _ _ _⟩
     ·rcases hsub with ⟨_, _, hn0, _⟩ | ⟨g, n0, cap, p, rfl, hcap, hp, hv⟩
      ·exact absurd hn0 hn
      ·have hnews : VRs R ((List.replicate n zs).flatten) (flat (List.replicate n (mkE (zs.map AV.val)))) := by
        have hfl : flat (List.replicate n (mkE (zs.map AV.val))) = ((List.replicate n zs).flatten).map .val := by
         rw [flat_replicate, hmk]
         simp [List.map_flatten]
        rw [hfl]; exact VRs.ofVals R _
       obtain ⟨w', hst, g1, g2⟩ := row_write (P := P) hs (a := a) hnews (by
        intro v hv
        simp only [List.mem_flatten, List.mem_replicate] at hv
        obtain ⟨l, ⟨_, rfl⟩, hv⟩ := hv
        exact hzo v hv) (by
        intro y hy
        rw [(List.mem_replicate.1 hy).2, hmk]
        simp [hzl]) (by simpa using hle)
       rw [List.length_replicate] at g1 g2
       have hz2 : (Builtin.zeroCells z.cells n).toList = (List.replicate n zs).flatten := by
        have h1 := zero_cells zs n (by omega)
        have h2 : z.cells = zs.toArray := by rw [← hzc]
        unfold Builtin.zeroCells
        rw [h2]
        have h3 : zs.toArray.size = zs.length := by simp
        rw [h3] at h1 ⊢
        rw [h1]
       have hrun : (Builtin.clear_ #[t] o.type #[ev y]).run P w = .ok (.tuple #[]) w' := by
        rw [hv, hp (by omega)]
        have hn' : n ≠ 0 := hn
        cases n with
        | zero => exact absurd rfl hn
        | succ n => simp [Builtin.clear_, run_underlying ht, hzr, hz2, hst]
       exact ⟨_, w', .undef, R, _, hval _ w' hrun rfl, hk _ _ ⟨rfl, rfl⟩, .undef _, g1, g2⟩
    ·exact h.elim
   ·rename_i t xt d x hts hx
    obtain ⟨yd, yx, hy, hyd, hyx⟩ : ∃ yd yx, cargs.toList = [yd, yx] ∧ ρ yd = d ∧ ρ yx = x := by
     match hc : cargs.toList, hx with
     | [y, z], hx => exact ⟨y, z, rfl, by simpa using hx⟩
    have e1 : cargs = #[yd, yx] := by apply Array.ext'; simp [hy]
    have e2 : ts = #[t, xt] := by apply Array.ext'; simp [hts]
    subst e1; subst e2
    rcases h with ⟨sz, ys, hsrc, hok, rfl⟩ | hraw
    rotate_left
    ·refine ef_rawB hop (rawB.mono hk ?_)
     show rawB P .copy #[t, xt] [ρ yd, ρ yx] σ post
     rw [hyd, hyx]; exact hraw
    refine AOp.ofRun fun R w ev ha hs => ?_
    have hvd := ha yd; have hvx := ha yx
    rw [hyd] at hvd; rw [hyx] at hvx
    obtain ⟨cs, hex⟩ := exec_builtin (P := P) hop ev w
    have e4 : (#[yd, yx] : Array Operand).map ev = #[ev yd, ev yx] := by simp
    rw [e4] at hex
    unfold copyOk at hok
    split at hok
    ·rename_i v z a n
     obtain ⟨rfl, E, l, hsz, hmem, hle⟩ := hok
     obtain ⟨σ1, σ2, rfl⟩ := List.append_of_mem hmem
     obtain ⟨i, ht, hi, his⟩ : ∃ i, P.underlying t = some (.slice E) ∧ P.info? E = some i ∧ i.size = z := by
      unfold szOf at hsz
      split at hsz
      ·rename_i e hu
       cases hie : P.info? e with
       | none => rw [hie] at hsz; cases hsz
       | some i =>
        rw [hie] at hsz
        simp only [Option.map_some, Option.some.injEq, Prod.mk.injEq] at hsz
        obtain ⟨rfl, rfl⟩ := hsz
        exact ⟨i, hu, hie, rfl⟩
      ·cases hsz
     obtain ⟨h1, news, h2, h3, h4, h5⟩ := src_pre (P := P) hs hvx hsrc (n := min ys.length n) (Nat.min_le_left _ _)
     have hszr : (sizeOf E).run P w = .ok z w := by simp [sizeOf, typeInfo, hi, his]
     have hyt : ∀ y ∈ ys.take (min ys.length n), y.cells.length = z := fun y hy => h5 y (List.mem_of_mem_take hy)
     have hlt : (ys.take (min ys.length n)).length = min ys.length n := by simp
     rcases hvd.sub_inv with ⟨hv0, ha0, hn0, hv⟩ | ⟨g, n0, cap, p, rfl, hcap, hp, hv⟩
     ·subst ha0; subst hn0
      have hmin : min ys.length 0 = 0 := by simp
      refine ⟨.int .i64 ((min ys.length 0 : Nat) : Int), w, _, R, _, ?_, hk _ _ ⟨E, l, σ1, σ2, rfl, rfl, rfl⟩, .val _, by rw [hmin]; simpa using hs, by rw [hmin]; simpa using Ext.refl _ _ _⟩
      rw [hex, hv]
      simp [builtin, Builtin.copy_, run_underlying ht, h1, hszr, h2, goInt] at h2 ⊢
      simp [h2]
     ·have hst : ∃ w', (storeCells p news).run P w = .ok () w' ∧ St R w' (σ1 ++ .row (.slice (some ⟨g, 0, none⟩) n0 cap) E z (l.take a ++ ys.take (min ys.length n) ++ l.drop (a + min ys.length n)) 0 :: σ2) ∧
        Ext R w (σ1 ++ .row (.slice (some ⟨g, 0, none⟩) n0 cap) E z l 0 :: σ2) R w' (σ1 ++ .row (.slice (some ⟨g, 0, none⟩) n0 cap) E z (l.take a ++ ys.take (min ys.length n) ++ l.drop (a + min ys.length n)) 0 :: σ2) := by
       by_cases h0 : min ys.length n = 0
       ·rw [h0] at h3 ⊢
        have : news = [] := List.eq_nil_of_length_eq_zero (by rw [h3.1]; simp [flat])
        subst this
        exact ⟨w, rfl, by simpa using hs, by simpa using Ext.refl _ _ _⟩
       ·rw [hp (by omega)]
        have := row_write (P := P) hs (a := a) h3 h4 hyt (by rw [hlt]; omega)
        rw [hlt] at this
        exact this
      obtain ⟨w', hst, g1, g2⟩ := hst
      refine ⟨.int .i64 ((min ys.length n : Nat) : Int), w', _, R, _, ?_, hk _ _ ⟨E, l, σ1, σ2, rfl, rfl, rfl⟩, .val _, g1, g2⟩
      rw [hex, hv]
      have hmin : Nat.min ys.length n = min ys.length n := rfl
      simp [builtin, Builtin.copy_, run_underlying ht, h1, hszr, hmin, h2, hst, goInt]
    ·rename_i p n cap
     obtain ⟨hsp, rfl, E, tt, cs, hsz, hmem, hle, hone⟩ := hok
     obtain ⟨σ1, σ2, rfl⟩ := List.append_of_mem hmem
     obtain ⟨i, ht, hi, his⟩ : ∃ i, P.underlying t = some (.slice E) ∧ P.info? E = some i ∧ i.size = 1 := by
      unfold szOf at hsz
      split at hsz
      ·rename_i e hu
       cases hie : P.info? e with
       | none => rw [hie] at hsz; cases hsz
       | some i =>
        rw [hie] at hsz
        simp only [Option.map_some, Option.some.injEq, Prod.mk.injEq] at hsz
        obtain ⟨rfl, h⟩ := hsz
        exact ⟨i, hu, hie, h⟩
      ·cases hsz
     obtain ⟨h1, news, h2, h3, h4, h5⟩ := src_pre (P := P) hs hvx hsrc (n := min ys.length n) (Nat.min_le_left _ _)
     have hszr : (sizeOf E).run P w = .ok 1 w := by simp [sizeOf, typeInfo, hi, his]
     have hfl : flat (ys.take (min ys.length n)) = ys.take (min ys.length n) := flat_plain fun c hc => (hone c (List.mem_of_mem_take hc)).2
     rw [hfl] at h3
     have hnl : news.length = min ys.length n := by rw [h3.1]; simp
     obtain ⟨vs, hr, hvo, hb, _⟩ := var_cells hs (b := p.block) (t := tt) (cs := cs) (by simp)
     obtain ⟨pb, po, psp⟩ := p
     simp only at hsp hle hb hk hmem
     subst hsp
     have hvl := hr.1
     have hst := run_storeCells_at P pb po tt news 0 (List.toArray vs) w hb (by simp; omega) h4
     simp only [Nat.add_zero] at hst
     have hnew : VRs R (vs.take po ++ news ++ vs.drop (po + news.length)) (splice cs po (ys.take (min ys.length n))) := by
      have := ((hr.take po).append h3).append (hr.drop (po + news.length))
      unfold splice
      rw [← h3.1]
      exact this
     have hent : EntOk R (w.setRow pb (vs.take po ++ news ++ vs.drop (po + news.length)).toArray) (.var pb tt (splice cs po (ys.take (min ys.length n)))) := by
      refine ⟨⟨_, setRow_heap w pb _ _ _ _ hb, hnew, ?_⟩, (hs.ents (.var pb tt cs) (by simp)).2⟩
      intro v hv
      simp only [List.mem_append] at hv
      rcases hv with (hv | hv) | hv
      ·exact hvo v (List.mem_of_mem_take hv)
      ·exact h4 v hv
      ·exact hvo v (List.mem_of_mem_drop hv)
     obtain ⟨g1, g2⟩ := st_change hs (e := .var pb tt cs) (e' := .var pb tt (splice cs po (ys.take (min ys.length n)))) (b := pb) rfl rfl (w' := w.setRow pb (vs.take po ++ news ++ vs.drop (po + news.length)).toArray) (by simp) (by simp) (by simp) (by simp)
      (fun k hk => setRow_other w pb k _ hk) (fun a v ha hab => absurd hab ((hs.ents (.var pb tt cs) (by simp)).2 a v ha)) hent
     refine ⟨.int .i64 ((min ys.length n : Nat) : Int), _, _, R, _, ?_, hk _ _ ⟨tt, cs, σ1, σ2, rfl, rfl, rfl⟩, .val _, g1, g2⟩
     have hv := hvd.val_inv
     rw [hex, hv]
     have hmin : Nat.min ys.length n = min ys.length n := rfl


     simp [builtin, Builtin.copy_, run_underlying ht, h1, hszr, hmin, h2, hst, goInt]
    ·exact hok.elim
   ·exact h.elim
  | value x => exact h.elim
  | invoke r m => exact h.elim
 ·exact h.elim
end Go.Ab

namespace Go.Ab
variable {P : Program}

structure Mark where
 /-- calls (by the temporary that they write) of functions that are told by their arguments alone -/
 pf : Nat → Bool
 /-- literals of slices (likewise) that are rows of one's own -/
 ml : Nat → Bool
 /-- variables (likewise) that nobody writes into behind their making -/
 rv : Nat → Bool
 /-- loads (likewise) out of memory that turns no more -/
 fl : Nat → Bool
 /-- calls (likewise) that only look at memory of one's own -/
 rd : Nat → Bool
def aFreeze (cs : List AV) (u : AV) : Prop := (∀ c ∈ cs, c.one = true) ∧ u = .rptr cs
def marked (m : Nat → Bool) (d : Option Nat) : Bool := match d with
 | some d => m d
 | none => false
def loadF (ag : Bool) (s : Nat) (p u : AV) : Prop := match p with
 | .rptr cs => 0 < s ∧ (ag = false → s = 1) ∧ s ≤ cs.length ∧ u = mkV ag (cs.take s)
 | _ => False
def zOk (n s : Nat) (zs : List Value) : Bool := Nat.ble (n * s) 16777216 && zs.all Value.oneCell'

def semCls (M : Mark) (o : Oper) : Cls := match o.op with
 | .load _ _ => bif marked M.fl o.dst then .pure else .read
 | .lookup _ _ _ _ => .read
 | .entry _ => .read
 | .typeAssert _ _ _ _ => .pure
 | .move _ | .assign _ | .pick _ _ _ | .nilCheck _ | .extract _ _ | .field _ _ _ | .fieldAddr _ _ _ | .indexAddr _ _ _ | .index _ _ _ | .slice _ _ _ _ _ | .build _ _ | .binOp _ _ _ _ _ | .unOp _ _ _ | .makeInterface _ _ | .makeFunc _ _ _ => .pure
 | .convert _ _ _ => bif marked M.ml o.dst then .eff else .pure
 | .buildSlice _ _ _ => bif marked M.ml o.dst then .eff else .pure
 | .box _ _ => bif marked M.rv o.dst then .pure else .eff
 | .alloc _ => bif marked M.rv o.dst then .pure else .eff
 | .call c => match c.callee with
  | .builtin b => match b with
   | .len => bif marked M.rd o.dst then .read else .pure
   | .min | .max | .cap => .pure
   | _ => .eff
  | .value _ => bif marked M.pf o.dst then .pure else bif marked M.rd o.dst then .read else .eff
  | _ => .eff
 | _ => .eff
def semPure (P : Program) (o : Oper) (ρ : Operand → AV) (u : AV) : Prop := match o.op with
 | .move x => u = ρ x
 | .assign x => u = ρ x
 | .pick c a b => aPick (ρ c) (ρ a) (ρ b) u
 | .nilCheck x => aNil (ρ x) u
 | .extract x i => aExt (ρ x) i u
 | .field t x i => match fieldOf P t i with
  | some (off, ag, s) => aField off ag s (ρ x) u
  | none => False
 | .fieldAddr t x i => match fieldOf P t i with
  | some (off, _, s) => aFieldAddr off s (ρ x) u
  | none => False
 | .indexAddr t x i => match elemOf P t with
  | some (c, _, s) => aIndexAddr c s (ρ x) (ρ i) u
  | none => False
 | .index t x i => match elemOf P t with
  | some (c, ag, s) => aIndex c ag s (ρ x) (ρ i) u
  | none => False
 | .slice t x lo hi mx => match elemOf P t with
  | some (c, _, s) => aSlice c s (ρ x) (lo.map ρ) (hi.map ρ) (mx.map ρ) u
  | none => False
 | .build t parts => match layoutOf P t with
  | some (zs, pl) => partsOne (parts.toList.map fun p => (p.1, ρ p.2)) ∧ aBuild (zs.map .val) (pl[·]?) (parts.toList.map fun p => (p.1, ρ p.2)) u
  | none => False
 | .buildSlice t n parts => match zeroOf P t with
  | some (_, zs, s) => bif zOk n s zs then partsOne (parts.toList.map fun p => (p.1, ρ p.2)) ∧ aBuildSl (mkE (zs.map .val)) s n (parts.toList.map fun p => (p.1, ρ p.2)) u ∧ (∀ l : List AV, u = .lst s l .full → ∀ c ∈ flat l, c.one = true) else False
  | none => False
 | .binOp op t x y _ => aBin P op t (ρ x) (ρ y) u
 | .unOp op _ x => aUn P op (ρ x) u
 | .makeInterface t x => bif P.concrete t then u = .ifc t (ρ x) else False
 | .makeFunc f a b => u = .fn f (a.toList.map ρ) (b.toList.map ρ)
 | .box _ x => aFreeze (ρ x).cells u
 | .alloc t => match zeroCells P t with
  | some zs => aFreeze (zs.map .val) u
  | none => False
 | .convert s d x => aConv P s d (ρ x) u
 | .call c => match c.callee with
  | .builtin b => aBuiltin P b c.argTypes (c.args.toList.map ρ) u
  | .value x => match calleeOf (ρ x) with
   | some (f, a, b) => aPureC P f (a ++ c.args.toList.map ρ ++ b) u
   | none => False
  | _ => False
 | .load t x => match shapeOf P t with
  | some (ag, s) => loadF ag s (ρ x) u
  | none => False
 | op => pureN P op (op.operands.toList.map ρ) u
def semRead (P : Program) (o : Oper) (ρ : Operand → AV) (σ : Store) (u : AV) : Prop := match o.op with
 | .load t x => match shapeOf P t with
  | some (ag, s) => loadA ag s (ρ x) σ u
  | none => False
 | op => readN P op (op.operands.toList.map ρ) σ u
def semEff (P : Program) (o : Oper) (ρ : Operand → AV) (σ : Store) (k kp : AV → Store → Prop) : Prop := match o.op with
 | .alloc t => match zeroCells P t with
  | some zs => aNewVar t (zs.map .val) σ k
  | none => False
 | .box t x => aNewVar t (ρ x).cells σ k
 | .store t x y => match shapeOf P t with
  | some (_, s) => storeA s (ρ x) (ρ y) σ k
  | none => False
 | .makeSlice t n c => match rowOf P t with
  | some (e, zs, s, b) => aMake e zs s b (ρ n) (ρ c) σ (subK k)
  | none => False
 | .buildSlice t n parts => match zeroOf P t with
  | some (e, zs, s) => bif zOk n s zs then partsOne (parts.toList.map fun p => (p.1, ρ p.2)) ∧ aRowLit e (mkE (zs.map .val)) s n (parts.toList.map fun p => (p.1, ρ p.2)) σ k else False
  | none => False
 | .panic x => (∃ t u, ρ x = .ifc t u) ∧ kp (ρ x) σ
 | .call c => match c.callee with
  | .builtin b => match b, c.args.toList, c.argTypes.toList with
   | .append, [d, x], [t, xt] => match rowOf P t with
    | some (e, _, s, b) => bif isStringOrSlice P xt then aAppend e s b (ρ d) (ρ x) σ (subK k) else rawB P .append #[t, xt] [ρ d, ρ x] σ k
    | none => False
   | _, _, _ => hookE P o.op (o.op.operands.toList.map ρ) σ k
  | .value x => match calleeOf (ρ x) with
   | some (f, a, b) => aCall P f (a ++ c.args.toList.map ρ ++ b) σ k kp
   | none => False
  | .invoke r m => aInv P (ρ r) m (c.args.toList.map ρ) σ k kp
 | op => hookE P op (op.operands.toList.map ρ) σ k

end Go.Ab

namespace Go.Ab
variable {P : Program}

theorem zOk_run {n s : Nat} {zs : List Value} (h : zOk n s zs = true) : n * s ≤ 16777216 ∧ ∀ v ∈ zs, v.oneCell' = true := by
 simp only [zOk, Bool.and_eq_true, List.all_eq_true] at h
 exact ⟨Nat.le_of_ble_eq_true h.1, h.2⟩
theorem mkE_vals {zs : List Value} (h : ∀ v ∈ zs, v.oneCell' = true) : (mkE (zs.map AV.val)).cells = zs.map .val := mkE_cells fun c hc => by
 simp only [List.mem_map] at hc
 obtain ⟨v, hv, rfl⟩ := hc
 exact h v hv

theorem freeze_at {R : RO} {w : World} {σ : Store} (hs : St R w σ) {vs : List Value} {cs : List AV} (hr : VRs R vs cs) (t : TypeId) :
  ∃ R', VR R' (.pointer (some ⟨w.heap.size, 0, none⟩)) (.rptr cs) ∧ St R' (w.alloc (.cells (List.toArray vs) t)) σ ∧ Ext R w σ R' (w.alloc (.cells (List.toArray vs) t)) σ := by
 obtain ⟨g1, g2⟩ := st_roNew hs (World.grownBy_alloc w (.cells (List.toArray vs) t) none)
 refine ⟨_, ?_, g1, g2⟩
 refine .rptr vs hr.1 (hr.mono g2.ro).2 fun j v hj => ?_
 rw [addr_lit_add, Nat.zero_add]
 unfold roNew
 rw [if_neg (by simp)]
 have := heap_alloc_new w (.cells (List.toArray vs) t)
 simp only [World.cell?, this]
 simpa using hj
theorem semPure_ok (o : Oper) (ρ : Operand → AV) (u : AV) (σ : Store) (k kp : AV → Store → Prop) (h : semPure P o ρ u) (hk : k u σ) : AOp P o ρ σ k kp := by
 unfold semPure at h
 have conv : ∀ {s : (Operand → Value) → Sem Next}, PRun P s ρ u → (∀ ev, execOp ev o = s ev) → AOp P o ρ σ k kp := fun hp he => PRun.aop (by
  intro R w ev σ ha hs
  obtain ⟨v, w', R', h1, h2⟩ := hp R w ev σ ha hs
  exact ⟨v, w', R', by simp only [he]; exact h1, h2⟩) hk
 cases hop : o.op with
 | move x => rw [hop] at h; subst h; exact conv (pr_move x) (fun ev => by unfold execOp; rw [hop])
 | assign x => rw [hop] at h; subst h; exact conv (pr_move x) (fun ev => by unfold execOp; rw [hop])
 | pick c a b => rw [hop] at h; exact conv (pr_pick h) (fun ev => by unfold execOp; rw [hop])
 | nilCheck x => rw [hop] at h; exact PRun.aop (pr_nil hop h) hk
 | extract x i => rw [hop] at h; exact conv (pr_ext h) (fun ev => by unfold execOp; rw [hop])
 | field t x i =>
  rw [hop] at h; simp only at h
  split at h
  ·rename_i off ag s hf; exact conv (pr_field hf h) (fun ev => by unfold execOp; rw [hop])
  ·exact h.elim
 | fieldAddr t x i =>
  rw [hop] at h; simp only at h
  split at h
  ·rename_i off ag s hf; exact conv (pr_fieldAddr hf h) (fun ev => by unfold execOp; rw [hop])
  ·exact h.elim
 | indexAddr t x i =>
  rw [hop] at h; simp only at h
  split at h
  ·rename_i c ag s hf; exact conv (pr_indexAddr hf h) (fun ev => by unfold execOp; rw [hop])
  ·exact h.elim
 | index t x i =>
  rw [hop] at h; simp only at h
  split at h
  ·rename_i c ag s hf; exact conv (pr_index hf h) (fun ev => by unfold execOp; rw [hop])
  ·exact h.elim
 | slice t x lo hi mx =>
  rw [hop] at h; simp only at h
  split at h
  ·rename_i c ag s hf; exact conv (pr_slice hf h) (fun ev => by unfold execOp; rw [hop])
  ·exact h.elim
 | build t parts =>
  rw [hop] at h; simp only at h
  split at h
  ·rename_i zs pl hf; exact conv (pr_build hf h.1 h.2) (fun ev => by unfold execOp; rw [hop])
  ·exact h.elim
 | buildSlice t n parts =>
  rw [hop] at h; simp only at h
  split at h
  ·rename_i e zs s hf
   cases hz : zOk n s zs with
   | false => rw [hz] at h; exact h.elim
   | true =>
    rw [hz] at h
    obtain ⟨z1, z2⟩ := zOk_run hz
    exact conv (pr_buildSl hf z1 (mkE_vals z2) h.1 h.2.1 z2 h.2.2) (fun ev => by unfold execOp; rw [hop])
  ·exact h.elim
 | box t x =>
  rw [hop] at h; simp only at h
  obtain ⟨h1, rfl⟩ := h
  refine AOp.ofRun fun R w ev ha hs => ?_
  have hr := cells_rel (ha x) h1
  obtain ⟨R', q1, q2, q3⟩ := freeze_at hs hr t
  exact ⟨_, _, _, R', σ, by simp [execOp, hop, Instr.box, newVar, newRow], hk, q1, q2, q3⟩
 | alloc t =>
  rw [hop] at h; simp only at h
  split at h
  ·rename_i zs hz
   obtain ⟨h1, rfl⟩ := h
   refine AOp.ofRun fun R w ev ha hs => ?_
   unfold zeroCells at hz
   cases hi : P.info? t with
   | none => rw [hi] at hz; cases hz
   | some i =>
    rw [hi] at hz
    cases hiz : i.zero with
    | none => simp only [hiz] at hz; cases hz
    | some z =>
     simp only [hiz, Option.some.injEq] at hz
     obtain ⟨R', q1, q2, q3⟩ := freeze_at hs (VRs.ofVals R zs) t
     have hzc : z.cells = zs.toArray := by rw [← hz]
     exact ⟨_, _, _, R', σ, by simp [execOp, hop, Instr.alloc, zeroValue, typeInfo, hi, hiz, newVar, newRow, hzc], hk, q1, q2, q3⟩
  ·exact h.elim
 | binOp op t x y ty => rw [hop] at h; exact PRun.aop (pr_bin hop h) hk
 | unOp op t x => rw [hop] at h; exact conv (pr_un (t := t) h) (fun ev => by unfold execOp; rw [hop])
 | makeInterface t x =>
  rw [hop] at h; simp only at h
  cases hc : P.concrete t with
  | false => rw [hc] at h; exact h.elim
  | true => rw [hc] at h; simp only [cond_true] at h; subst h; exact conv (pr_iface hc) (fun ev => by unfold execOp; rw [hop])
 | makeFunc f a b => rw [hop] at h; simp only at h; subst h; exact conv pr_func (fun ev => by unfold execOp; rw [hop])
 | convert s d x => rw [hop] at h; exact conv (pr_conv h) (fun ev => by unfold execOp; rw [hop])
 | call c =>
  rw [hop] at h; simp only at h
  obtain ⟨callee, args, ts⟩ := c
  cases callee with
  | builtin b => exact PRun.aop (pr_builtin hop h) hk
  | value x =>
   simp only at h
   split at h
   ·rename_i f a b hc; exact pr_call hop hc hk h
   ·exact h.elim
  | invoke r m => exact h.elim
 | load t x =>
  rw [hop] at h; simp only at h
  split at h
  ·rename_i ag s hf
   refine rd_load hf ?_ hop hk
   unfold loadF at h
   split at h
   ·rename_i cs e
    obtain ⟨h1, h2, h3, h4⟩ := h
    rw [e]
    exact ⟨h1, h2, h3, h4⟩
   ·exact h.elim
  ·exact h.elim
 | _ => exact pureN_ok o ρ u σ k kp (by rw [hop] at h ⊢; exact h) hk

theorem semRead_ok (o : Oper) (ρ : Operand → AV) (u : AV) (σ : Store) (k kp : AV → Store → Prop) (h : semRead P o ρ σ u) (hk : k u σ) : AOp P o ρ σ k kp := by
 unfold semRead at h
 split at h
 ·rename_i t x hop
  split at h
  ·rename_i ag s hf; exact rd_load hf h hop hk
  ·exact h.elim
 ·exact readN_ok o ρ u σ k kp h hk

theorem semEff_ok (o : Oper) (ρ : Operand → AV) (σ : Store) (k kp : AV → Store → Prop) (h : semEff P o ρ σ k kp) : AOp P o ρ σ k kp := by
 unfold semEff at h
 cases hop : o.op with
 | alloc t =>
  rw [hop] at h; simp only at h
  split at h
  ·rename_i zs hf; exact ef_alloc hf hop h
  ·exact h.elim
 | box t x => rw [hop] at h; exact ef_box hop h
 | store t x y =>
  rw [hop] at h; simp only at h
  split at h
  ·rename_i ag s hf; exact ef_store hf hop h
  ·exact h.elim
 | makeSlice t n c =>
  rw [hop] at h; simp only at h
  split at h
  ·rename_i e zs s b hf; exact AOp.sub (ef_make hf hop h)
  ·exact h.elim
 | buildSlice t n parts =>
  rw [hop] at h; simp only at h
  split at h
  ·rename_i e zs s hf
   cases hz : zOk n s zs with
   | false => rw [hz] at h; exact h.elim
   | true =>
    rw [hz] at h
    obtain ⟨z1, z2⟩ := zOk_run hz
    exact ef_rowLit hf z1 (mkE_vals z2) h.1 hop h.2
  ·exact h.elim
 | panic x => rw [hop] at h; exact ef_panic hop h.2 h.1
 | call c =>
  rw [hop] at h; simp only at h
  obtain ⟨callee, args, ts⟩ := c
  cases callee with
  | builtin b =>
   simp only at h
   split at h
   ·rename_i d x t xt h1 h2
    have e1 : args = #[d, x] := by apply Array.ext'; simp [h1]
    have e2 : ts = #[t, xt] := by apply Array.ext'; simp [h2]
    subst e1; subst e2
    split at h
    ·rename_i e zs s b hf
     cases hx : isStringOrSlice P xt with
     | false => rw [hx] at h; exact ef_rawB hop h
     | true => rw [hx] at h; exact AOp.sub (ef_append hf hx hop h)
    ·exact h.elim
   ·exact hookE_ok o ρ σ k kp (by rw [hop]; exact h)
  | value x =>
   simp only at h
   split at h
   ·rename_i f a b hc; exact ef_call hop hc h
   ·exact h.elim
  | invoke r m => exact ef_inv hop h
 | _ => exact hookE_ok o ρ σ k kp (by rw [hop] at h ⊢; exact h)

theorem semEff_mono (o : Oper) (ρ : Operand → AV) (σ : Store) (k k' kp : AV → Store → Prop) (hk : ∀ u σ', k u σ' → k' u σ') (h : semEff P o ρ σ k kp) : semEff P o ρ σ k' kp := by
 have nv : ∀ {t : TypeId} {cs : List AV}, aNewVar t cs σ k → aNewVar t cs σ k' := fun h => ⟨h.1, fun b hb => hk _ _ (h.2 b hb)⟩
 unfold semEff at h ⊢
 cases hop : o.op with
 | alloc t =>
  rw [hop] at h; simp only at h ⊢
  split at h
  ·exact nv h
  ·exact h.elim
 | box t x => rw [hop] at h; exact nv h
 | store t x y =>
  rw [hop] at h; simp only at h ⊢
  split at h
  ·rename_i ag s hf
   unfold storeA at h ⊢
   obtain ⟨h1, h2, h3⟩ := h
   refine ⟨h1, h2, ?_⟩
   split at h3
   ·obtain ⟨g1, σ1, σ2, t, cs, g2, g3, g4⟩ := h3; exact ⟨g1, σ1, σ2, t, cs, g2, g3, hk _ _ g4⟩
   ·obtain ⟨σ1, σ2, E, l, fl, g1, g2, g3, g4, g5, g6⟩ := h3; exact ⟨σ1, σ2, E, l, fl, g1, g2, g3, g4, g5, hk _ _ g6⟩
   ·exact h3.elim
  ·exact h.elim
 | makeSlice t n c =>
  rw [hop] at h; simp only at h ⊢
  split at h
  ·have hk := subK.mono hk
   unfold aMake at h ⊢
   split at h
   ·obtain ⟨g1, g2, g3, g4, g5, g6⟩ := h; exact ⟨g1, g2, g3, g4, g5, fun v => hk _ _ (g6 v)⟩
   ·exact h.elim
  ·exact h.elim
 | buildSlice t n parts =>
  rw [hop] at h; simp only at h ⊢
  split at h
  ·rename_i e zs s hf
   cases hz : zOk n s zs with
   | false => rw [hz] at h; exact h.elim
   | true =>
    rw [hz] at h
    obtain ⟨h0, l, g1, g2, g3, g4, g5⟩ := h
    exact ⟨h0, l, g1, g2, g3, g4, fun v hcv => hk _ _ (g5 v hcv)⟩
  ·exact h.elim
 | panic x => rw [hop] at h; exact h
 | call c =>
  rw [hop] at h; simp only at h ⊢
  obtain ⟨callee, args, ts⟩ := c
  cases callee with
  | builtin b =>
   simp only at h ⊢
   split at h
   ·rename_i d x t xt h1 h2
    split at h
    ·rename_i e zs s b hf
     cases hx : isStringOrSlice P xt with
     | false => rw [hx] at h; exact rawB.mono hk h
     | true =>
      rw [hx] at h
      obtain ⟨ys, h1, h2, h3⟩ := h
      have hk := subK.mono hk
      refine ⟨ys, h1, h2, ?_⟩
      rcases h3 with ⟨z, l, m, g1, g2, g3⟩ | h3
      ·exact .inl ⟨z, l, m, g1, g2, hk _ _ g3⟩
      refine .inr ?_
      split at h3
      ·obtain ⟨σ1, σ2, l, fl, g1, g2, g3, g4⟩ := h3; exact ⟨σ1, σ2, l, fl, g1, g2, g3, fun v => hk _ _ (g4 v)⟩
      ·obtain ⟨g1, g2, g3⟩ := h3; exact ⟨g1, g2, fun v => hk _ _ (g3 v)⟩
      ·obtain ⟨g1, g2, g3⟩ := h3; exact ⟨g1, g2, fun v => hk _ _ (g3 v)⟩
      ·obtain ⟨g0, g1, g2, g3, g4⟩ := h3; exact ⟨g0, g1, g2, g3, fun v => hk _ _ (g4 v)⟩
      ·exact h3.elim
    ·exact h.elim
   ·exact hookE_mono hk h
  | value x =>
   simp only at h ⊢
   split at h
   ·rcases h with ⟨σ1, args1, g1, g2⟩ | h
    ·exact .inl ⟨σ1, args1, g1, g2.mono fun x σ' hx => by cases x with | ret u => exact hk _ _ hx | pan u => exact hx⟩
    ·exact .inr (rawC.mono hk h)
   ·exact h.elim
  | invoke r m => exact aInv.mono hk h
 | _ => rw [hop] at h; exact hookE_mono hk h

theorem map_on {ρ ρ' : Operand → AV} (l : List Operand) (h : ∀ x ∈ l, ρ x = ρ' x) : l.map ρ = l.map ρ' := List.map_congr_left h
theorem parts_on {ρ ρ' : Operand → AV} (l : List (Nat × Operand)) (h : ∀ x ∈ l.map (·.2), ρ x = ρ' x) : (l.map fun p => (p.1, ρ p.2)) = l.map fun p => (p.1, ρ' p.2) :=
 List.map_congr_left fun p hp => by rw [h p.2 (List.mem_map.2 ⟨p, hp, rfl⟩)]
theorem opt_on {ρ ρ' : Operand → AV} (l : Option Operand) (h : ∀ x, l = some x → ρ x = ρ' x) : l.map ρ = l.map ρ' := by
 cases l with
 | none => rfl
 | some x => simp [h x rfl]

theorem semPure_on (o : Oper) (ρ ρ' : Operand → AV) (u : AV) (h : ∀ x ∈ o.op.operands, ρ x = ρ' x) (hp : semPure P o ρ u) : semPure P o ρ' u := by
  unfold semPure at hp ⊢
  cases hop : o.op with
  | call c =>
    rw [hop] at h hp
    simp only at hp ⊢
    obtain ⟨callee, args, ts⟩ := c
    have ha : args.toList.map ρ = args.toList.map ρ' := map_on _ fun x hx => h x (by simp [Op.operands, Call.operands]; exact .inr (Array.mem_toList_iff.1 hx))
    cases callee with
    | builtin b => simp only at hp ⊢; rw [← ha]; exact hp
    | value x =>
      have hx : ρ x = ρ' x := h x (by simp [Op.operands, Call.operands])
      simp only at hp ⊢; rw [← ha, ← hx]; exact hp
    | invoke r m => exact hp
  | build t parts =>
    rw [hop] at h hp
    have := parts_on parts.toList fun x hx => h x (by simpa [Op.operands] using hx)
    simp only at hp ⊢; rw [← this]; exact hp
  | buildSlice t n parts =>
    rw [hop] at h hp
    have := parts_on parts.toList fun x hx => h x (by simpa [Op.operands] using hx)
    simp only at hp ⊢; rw [← this]; exact hp
  | makeFunc f a b =>
    rw [hop] at h hp
    have h1 := map_on a.toList fun x hx => h x (by simp [Op.operands]; exact .inl (Array.mem_toList_iff.1 hx))
    have h2 := map_on b.toList fun x hx => h x (by simp [Op.operands]; exact .inr (Array.mem_toList_iff.1 hx))
    simp only at hp ⊢; rw [← h1, ← h2]; exact hp
  | slice t x lo hi mx =>
    rw [hop] at h hp
    have h0 := h x (by simp [Op.operands])
    have h1 := opt_on lo fun y hy => h y (by simp [Op.operands, hy])
    have h2 := opt_on hi fun y hy => h y (by simp [Op.operands, hy])
    have h3 := opt_on mx fun y hy => h y (by simp [Op.operands, hy])
    simp only at hp ⊢; rw [← h0, ← h1, ← h2, ← h3]; exact hp
  | typeAssert x xt T ok =>
    rw [hop] at h hp
    have hm := map_on (Op.typeAssert x xt T ok).operands.toList fun x hx => h x (Array.mem_toList_iff.1 hx)
    simp only at hp ⊢
    rw [← hm]; exact hp
  | _ =>
    rw [hop] at h hp
    first
    | exact hp
    | (simp only [Op.operands, List.mem_cons, List.not_mem_nil, or_false, forall_eq_or_imp, forall_eq, List.mem_toArray] at h
       first
       | (obtain ⟨h1, h2, h3⟩ := h; simp only at hp ⊢; rw [← h1, ← h2, ← h3]; exact hp)
       | (obtain ⟨h1, h2⟩ := h; simp only at hp ⊢; rw [← h1, ← h2]; exact hp)
       | (simp only at hp ⊢; rw [← h]; exact hp))

theorem semRead_on (o : Oper) (ρ ρ' : Operand → AV) (σ : Store) (u : AV) (h : ∀ x ∈ o.op.operands, ρ x = ρ' x) (hp : semRead P o ρ σ u) : semRead P o ρ' σ u := by
 unfold semRead at hp ⊢
 cases hop : o.op with
 | load t x =>
  rw [hop] at h hp
  have h0 := h x (by simp [Op.operands])
  simp only at hp ⊢; rw [← h0]; exact hp
 | _ =>
  rw [hop] at h hp
  simp only at hp ⊢
  rw [← map_on _ fun x hx => h x (Array.mem_toList_iff.1 hx)]; exact hp

theorem semEff_on (o : Oper) (ρ ρ' : Operand → AV) (σ : Store) (k kp : AV → Store → Prop) (h : ∀ x ∈ o.op.operands, ρ x = ρ' x) (hp : semEff P o ρ σ k kp) : semEff P o ρ' σ k kp := by
  unfold semEff at hp ⊢
  cases hop : o.op with
  | call c =>
    rw [hop] at h hp
    simp only at hp ⊢
    obtain ⟨callee, args, ts⟩ := c
    have ha : args.toList.map ρ = args.toList.map ρ' := map_on _ fun x hx => h x (by simp [Op.operands, Call.operands]; exact .inr (Array.mem_toList_iff.1 hx))
    cases callee with
    | builtin b =>
      simp only at hp ⊢
      split at hp
      · rename_i d x t xt h1 h2
        have hd : ρ d = ρ' d := h d (by simp [Op.operands, Call.operands]; exact Array.mem_toList_iff.1 (by rw [h1]; simp))
        have hx : ρ x = ρ' x := h x (by simp [Op.operands, Call.operands]; exact Array.mem_toList_iff.1 (by rw [h1]; simp))
        rw [← hd, ← hx]; exact hp
      · rw [← map_on _ fun x hx => h x (Array.mem_toList_iff.1 hx)]; exact hp
    | value x =>
      have hx : ρ x = ρ' x := h x (by simp [Op.operands, Call.operands])
      simp only at hp ⊢; rw [← ha, ← hx]; exact hp
    | invoke r m =>
      have hx : ρ r = ρ' r := h r (by simp [Op.operands, Call.operands])
      simp only at hp ⊢; rw [← ha, ← hx]; exact hp
  | buildSlice t n parts =>
    rw [hop] at h hp
    have := parts_on parts.toList fun x hx => h x (by simpa [Op.operands] using hx)
    simp only at hp ⊢; rw [← this]; exact hp
  | _ =>
    rw [hop] at h hp
    first
    | exact hp
    | (simp only [Op.operands, List.mem_cons, List.not_mem_nil, or_false, forall_eq_or_imp, forall_eq, List.mem_toArray] at h
       first
       | (obtain ⟨h1, h2⟩ := h; simp only at hp ⊢; rw [← h1, ← h2]; exact hp)
       | (simp only at hp ⊢; rw [← h]; exact hp))
    | (simp only at hp ⊢; rw [← map_on _ fun x hx => h x (Array.mem_toList_iff.1 hx)]; exact hp)

def semFn (P : Program) (o : Oper) (ρ : Operand → AV) : Option AV := match o.op with
 | .move x => some (ρ x)
 | .assign x => some (ρ x)
 | .makeFunc f a b => some (.fn f (a.toList.map ρ) (b.toList.map ρ))
 | .makeInterface t x => bif P.concrete t then some (.ifc t (ρ x)) else none
 | _ => none
theorem semFn_ok (M : Mark) (o : Oper) (ρ : Operand → AV) (u : AV) (h : semFn P o ρ = some u) : semCls M o = .pure ∧ semPure P o ρ u := by
 unfold semFn at h
 unfold semCls semPure
 split at h
 ·rename_i x hop; rw [hop]; exact ⟨rfl, (Option.some.inj h).symm⟩
 ·rename_i x hop; rw [hop]; exact ⟨rfl, (Option.some.inj h).symm⟩
 ·rename_i f a b hop; rw [hop]; exact ⟨rfl, (Option.some.inj h).symm⟩
 ·rename_i t x hop
  rw [hop]
  cases hc : P.concrete t with
  | false => rw [hc] at h; cases h
  | true => rw [hc] at h; simp only [hc, cond_true]; exact ⟨trivial, (Option.some.inj h).symm⟩
 ·cases h
def semOf (P : Program) (M : Mark) : Sem' P where
 cls := semCls M
 pure := semPure P
 read := semRead P
 eff := semEff P
 pureOk := semPure_ok
 readOk := semRead_ok
 effOk := semEff_ok
 mono := semEff_mono
 pureOn := semPure_on
 readOn := semRead_on
 effOn := semEff_on
 fn := semFn P
 fnOk := semFn_ok M

end Go.Ab

namespace Go.Ab

def aGuard (g : AV) (want : Bool) (X : AV → Prop) (u : AV) : Prop := ∃ t, wantedA g want = some t ∧ if t = true then X u else u = .val Go.undef
def aCallV (P : Program) (x : AV) (args : List AV) (σ : Store) (k kp : AV → Store → Prop) : Prop := match calleeOf x with
 | some (f, a, b) => aCall P f (a ++ args ++ b) σ k kp
 | none => False
def aPureV (P : Program) (x : AV) (args : List AV) (u : AV) : Prop := match calleeOf x with
 | some (f, a, b) => aPureC P f (a ++ args ++ b) u
 | none => False
def aConvBS (x u : AV) : Prop := match x with
 | .lst _ l _ => ∃ bs : List UInt8, l = bs.map byt ∧ u = .val (.string ⟨bs.toArray⟩)
 | _ => False
def aConvN (s d : TypeId) (x u : AV) (P : Program) : Prop := match x with
 | .val a => ∃ v, u = .val v ∧ ∀ w : World, (convert s d a).run P w = .ok v w
 | _ => False
def aSlLit (z : AV) (s n : Nat) (parts : List (Nat × AV)) (u : AV) : Prop := partsOne parts ∧ aBuildSl z s n parts u ∧ (∀ l : List AV, u = .lst s l .full → ∀ c ∈ flat l, c.one = true)
def aLit (zs : List AV) (pl : List (Nat × Nat)) (parts : List (Nat × AV)) (u : AV) : Prop := partsOne parts ∧ aBuild zs (pl[·]?) parts u
def aRowL (E : TypeId) (z : AV) (s n : Nat) (parts : List (Nat × AV)) (σ : Store) (k : AV → Store → Prop) : Prop := partsOne parts ∧ aRowLit E z s n parts σ k
def aPanic (x : AV) (σ : Store) (kp : AV → Store → Prop) : Prop := (∃ t u, x = .ifc t u) ∧ kp x σ
def bodyOf (fn : Func) : Code := fn.body.getD .skip
theorem load_at {P : Program} {R : RO} {w : World} {σ : Store} (hs : St R w σ) {t : TypeId} {ag : Bool} {s : Nat} (hsh : shapeOf P t = some (ag, s)) {p u : AV} (h : loadA ag s p σ u) {v : Value} (hx : VR R v p) :
  ∃ a x, v = .pointer (some a) ∧ (loadVar t a).run P w = .ok x w ∧ VR R x u := by
 obtain ⟨hs0, hag, h⟩ := h
 have fin : ∀ (a : Addr) (vs : List Value) (cs : List AV), v = .pointer (some a) → VRs R vs cs → cs.length = s → u = mkV ag cs → (∀ (j : Nat) (v : Value), vs[j]? = some v → w.cell? (a.add j) = some v) →
   ∃ a x, v = .pointer (some a) ∧ (loadVar t a).run P w = .ok x w ∧ VR R x u := by
  intro a vs cs hv hr hl hu hc
  exact ⟨a, mkC ag vs, hv, load_run hsh hc (hr.1.trans hl) hag, by rw [hu]; exact mkV_rel hr ag⟩
 split at h
 ·rename_i cs
  obtain ⟨a, vs, hv, hr, hR⟩ := hx.rptr_inv
  have hh := cells_at (w := w) (a := a) (vs := vs) (fun j v hj => hs.ro _ _ (hR j v hj)) 0 s
  rw [addr_add_zero, List.drop_zero] at hh
  exact fin a _ _ hv (hr.take s) (by rw [List.length_take]; omega) h.2 hh
 ·rename_i a
  obtain ⟨hsp, t', cs, hm, hl, hu⟩ := h
  obtain ⟨vs, hr, _, _, hc⟩ := var_cells hs hm
  obtain ⟨b, off, sp⟩ := a
  simp only at hsp hl hu hm hc
  subst hsp
  have hh := cells_at hc off s
  rw [addr_lit_add, Nat.zero_add] at hh
  exact fin _ _ _ hx.val_inv ((hr.drop off).take s) (by rw [List.length_take, List.length_drop]; omega) hu hh
 ·rename_i v' sz i j
  obtain ⟨E, l, fl, hm, hi, hj, hu⟩ := h
  obtain ⟨g, n, cap, hv, he⟩ := VR.eptr_inv hx
  obtain ⟨vs, hr, _, _, hsz0, hsz, hc⟩ := row_cells hs hm
  have hh := cells_at (hc g n cap hv) (i * sz) sz
  have hr' := (hr.drop (i * sz)).take sz
  rw [flat_get hsz i hi] at hr'
  have hh2 := cells_at hh j s
  rw [addr_lit_add, addr_lit_add, Nat.zero_add] at hh2
  have hlen : (l.getD i .undef).cells.length = sz := by
   have hmem : l.getD i .undef ∈ l := by rw [List.getD_eq_getElem?_getD, List.getElem?_eq_getElem hi]; exact List.getElem_mem _
   exact hsz _ hmem
  exact fin _ _ _ he ((hr'.drop j).take s) (by rw [List.length_take, List.length_drop, hlen]; omega) hu hh2
 ·exact h.elim

inductive RS where
 | tmp (t : Nat) | cell (a : Nat) (ag : Bool) (s : Nat)
def resOf (P : Program) : List ResultVar → Option (List RS)
 | [] => some []
 | .tmp t :: rs => (resOf P rs).map (.tmp t :: ·)
 | .cell a t :: rs => match shapeOf P t with
  | some (ag, s) => (resOf P rs).map (.cell a ag s :: ·)
  | none => none
def resVs (fr : Fr) (σ : Store) : List RS → (List AV → Prop) → Prop
 | [], k => k []
 | .tmp t :: rs, k => resVs fr σ rs fun us => k (fr t :: us)
 | .cell a ag s :: rs, k => ∃ u, loadA ag s (fr a) σ u ∧ resVs fr σ rs fun us => k (u :: us)
def oneA : List AV → AV
 | [u] => u
 | us => .tuple us
theorem asAddr_run {P : Program} (a : Addr) (w : World) : (asAddr (.pointer (some a))).run P w = .ok a w := by simp [asAddr]
theorem resVs_run {P : Program} {R : RO} {w : World} {σ : Store} (hs : St R w σ) {tmps : Array Value} {fr : Fr} (hf : ∀ t, VR R (tmps.getD t Go.undef) (fr t)) (g : ResultVar → Sem Value)
  (hg1 : ∀ t, g (.tmp t) = pure (tmps.getD t Go.undef)) (hg2 : ∀ a t, g (.cell a t) = (asAddr (tmps.getD a Go.undef) >>= fun x => loadVar t x)) :
  ∀ (rs : List ResultVar) (l : List RS), resOf P rs = some l → ∀ k : List AV → Prop, resVs fr σ l k → ∃ vs us, (rs.mapM g).run P w = .ok vs w ∧ VRs R vs us ∧ k us := by
 intro rs
 induction rs with
 | nil => intro l hl k hk; simp [resOf] at hl; subst hl; exact ⟨[], [], by simp, VRs.nil R, hk⟩
 | cons r rs ih =>
  intro l hl k hk
  cases r with
  | tmp t =>
   simp only [resOf, Option.map_eq_some_iff] at hl
   obtain ⟨l', hl', rfl⟩ := hl
   obtain ⟨vs, us, h1, h2, h3⟩ := ih l' hl' _ hk
   exact ⟨_ :: vs, _ :: us, by simp only [List.mapM_cons, hg1, Sem.run_bind, Sem.run_pure, Result.andThen_ok, h1], VRs.cons (hf t) h2, h3⟩
  | cell a t =>
   simp only [resOf] at hl
   split at hl
   ·rename_i ag s hsh
    simp only [Option.map_eq_some_iff] at hl
    obtain ⟨l', hl', rfl⟩ := hl
    obtain ⟨u, hu, hk⟩ := hk
    obtain ⟨ad, x, e1, e2, e3⟩ := load_at hs hsh hu (hf a)
    obtain ⟨vs, us, h1, h2, h3⟩ := ih l' hl' _ hk
    refine ⟨x :: vs, u :: us, ?_, VRs.cons e3 h2, h3⟩
    simp only [List.mapM_cons, hg2, e1, Sem.run_bind, asAddr_run, Sem.run_pure, Result.andThen_ok, e2, h1]
   ·cases hl

def resG (tmps : Array Value) : ResultVar → Sem Value
 | .tmp t => pure (tmps.getD t Go.undef)
 | .cell a t => do loadVar t (← asAddr (tmps.getD a Go.undef))
theorem results_eq (fn : Func) (tmps : Array Value) : results fn tmps = (fn.results.mapM (resG tmps) >>= fun vs => pure (if h : vs.size = 1 then vs[0] else .tuple vs)) := by
 unfold results
 congr 1
def endK (l : List RS) (Q : AEnd → Store → Prop) : AX → Fr → Store → Prop := fun x fr σ => match x with
 | .norm => resVs fr σ l fun us => Q (.ret (oneA us)) σ
 | .ret => resVs fr σ l fun us => Q (.ret (oneA us)) σ
 | .pan u => Q (.pan u) σ
 | .exit _ => False
theorem acalls_of_eq {P : Program} {S : Sem' P} {A : Ann} {f : FuncId} {fn : Func} {args : List AV} {σ : Store} {Q : AEnd → Store → Prop} (l : List RS) {X : Prop}
  (hf : P.funcs[f]? = some fn) (hb : fn.body = some (bodyOf fn)) (hn : (fn.name == "runtime.NumGoroutine") = false) (hN : Nat.ble args.length fn.ntmps = true) (hr : resOf P fn.results.toList = some l)
  (he : vc S fn.ntmps A (bodyOf fn) (endK l Q) (argFr args) σ = X) (h : X) : ACalls P f args σ Q := by
 rw [← he] at h
 refine ⟨⟨fn, _, hf, hb, hn⟩, fun R w vs hv hs => calls_of_wp hf hb ?_⟩
 refine vc_sound (D := []) _ h (calls_args hv _ (Nat.le_of_ble_eq_true hN)) hs ?_
 have fin : ∀ {a' : Act} {w' : World} {fr' : Fr} {σ' : Store} {R' : RO}, resVs fr' σ' l (fun us => Q (.ret (oneA us)) σ') → ActR R' fn.ntmps [] a' fr' → St R' w' σ' → Ext R w σ R' w' σ' →
   a'.defers = [] ∧ ∃ v, (results fn a'.tmps).run P w' = .ok v w' ∧ ∃ x R' σ', EndR R' (.returned v) x ∧ Q x σ' ∧ St R' w' σ' ∧ Ext R w σ R' w' σ' := by
  intro a' w' fr' σ' R' hq ha hs hx
  obtain ⟨vs, us, h1, h2, h3⟩ := resVs_run hs ha.tmps (resG a'.tmps) (fun t => rfl) (fun a t => rfl) _ _ hr _ hq
  refine ⟨ha.defers, (if h : vs.toArray.size = 1 then vs.toArray[0] else .tuple vs.toArray), ?_, .ret (oneA us), R', σ', ?_, h3, hs, hx⟩
  ·rw [results_eq]
   rw [Array.mapM_eq_mapM_toList]
   simp only [Sem.run_bind, Sem.run_map]
   rw [h1]
   simp only [Result.andThen_ok, Sem.run_pure]
  ·show VR R' _ _
   have gen := VR.tuple' h2
   cases us with
   | nil => cases vs with
    | nil => exact gen
    | cons v vs => have := h2.1; simp at this
   | cons u us => cases vs with
    | nil => have := h2.1; simp at this
    | cons v vs => cases us with
     | nil => cases vs with
      | nil => exact h2.2 0 u v rfl rfl
      | cons _ _ => have := h2.1; simp at this
     | cons _ _ => cases vs with
      | nil => have := h2.1; simp at this
      | cons _ _ => simpa [oneA] using gen
 rintro e a' w' ⟨x, fr', σ', R', h1, h2, h3, h4, h5⟩
 cases e with
 | normal =>
  cases x with
  | norm => exact fin h2 h3 h4 h5
  | _ => exact h1.elim
 | ret =>
  cases x with
  | ret => exact fin h2 h3 h4 h5
  | _ => exact h1.elim
 | panic ch =>
  cases x with
  | pan u => exact ⟨h3.defers, .pan u, R', σ', h1, h2, h4, h5⟩
  | _ => exact h1.elim
 | exit i =>
  cases x with
  | exit j => exact h2.elim
  | _ => exact h1.elim
 | goto i => cases x <;> exact h1.elim
 | outgrown => cases x <;> exact h1.elim

end Go.Ab

namespace Go.Ab
variable {P : Program}

abbrev I (k : IntKind) (n : Int) : AV := .val (.int k n)
abbrev B (b : Bool) : AV := .val (.bool b)
abbrev S (l : List UInt8) : AV := .val (.string ⟨l.toArray⟩)

def world0 : World := { heap := #[], os := default, tape := default, output := default, drawn := 0 }
theorem aBin_plain {op : BinOp} {t : TypeId} {x y : AV} {a b v : Value} {u : AV} (hx : plainV x = some a) (hy : plainV y = some b) (h : ∀ (xo yo : Operand) (w : World), (do eqGuard op t xo yo a b; binOp op t a b : Sem Value).run P w = .ok v w) : aBin P op t x y u ↔ u = .val v := by
 unfold aBin
 rw [hx, hy]
 constructor
 ·rintro ⟨v', hu, hr⟩
  have h1 := hr (.tmp 0) (.tmp 0) world0
  have h2 := h (.tmp 0) (.tmp 0) world0
  rw [h1] at h2
  cases h2
  exact hu
 ·intro hu
  exact ⟨v, hu, h⟩
theorem aBin_val {op : BinOp} {t : TypeId} {a b v : Value} {u : AV} (h : ∀ (xo yo : Operand) (w : World), (do eqGuard op t xo yo a b; binOp op t a b : Sem Value).run P w = .ok v w) : aBin P op t (.val a) (.val b) u ↔ u = .val v := aBin_plain rfl rfl h

theorem r_add {t : TypeId} {k : IntKind} {x y : Int} {u : AV} : aBin P .add t (.val (.int k x)) (.val (.int k y)) u ↔ u = .val (.int k (k.wrap (x + y))) := aBin_val fun _ _ w => by simp [eqGuard, binOp, Op.intArith]
theorem r_sub {t : TypeId} {k : IntKind} {x y : Int} {u : AV} : aBin P .sub t (.val (.int k x)) (.val (.int k y)) u ↔ u = .val (.int k (k.wrap (x - y))) := aBin_val fun _ _ w => by simp [eqGuard, binOp, Op.intArith]
theorem r_mul {t : TypeId} {k : IntKind} {x y : Int} {u : AV} : aBin P .mul t (.val (.int k x)) (.val (.int k y)) u ↔ u = .val (.int k (k.wrap (x * y))) := aBin_val fun _ _ w => by simp [eqGuard, binOp, Op.intArith]
theorem r_quo {t : TypeId} {k : IntKind} {x y : Int} {u : AV} (h : y ≠ 0) : aBin P .quo t (.val (.int k x)) (.val (.int k y)) u ↔ u = .val (.int k (k.wrap (x.tdiv y))) := aBin_val fun _ _ w => by simp [eqGuard, binOp, Op.intDiv, h]
theorem r_rem {t : TypeId} {k : IntKind} {x y : Int} {u : AV} (h : y ≠ 0) : aBin P .rem t (.val (.int k x)) (.val (.int k y)) u ↔ u = .val (.int k (x.tmod y)) := aBin_val fun _ _ w => by simp [eqGuard, binOp, Op.intDiv, h]
theorem r_eql {t : TypeId} {k : IntKind} {x y : Int} {u : AV} : aBin P .eql t (.val (.int k x)) (.val (.int k y)) u ↔ u = .val (.bool (decide (x = y))) := aBin_val fun _ _ w => by simp [eqGuard, binOp, Op.intCmp]; rfl
theorem r_neq {t : TypeId} {k : IntKind} {x y : Int} {u : AV} : aBin P .neq t (.val (.int k x)) (.val (.int k y)) u ↔ u = .val (.bool (decide (x ≠ y))) := aBin_val fun _ _ w => by simp [eqGuard, binOp, Op.intCmp, bne]; rfl
theorem r_lss {t : TypeId} {k : IntKind} {x y : Int} {u : AV} : aBin P .lss t (.val (.int k x)) (.val (.int k y)) u ↔ u = .val (.bool (decide (x < y))) := aBin_val fun _ _ w => by simp [eqGuard, binOp, Op.intCmp]
theorem r_leq {t : TypeId} {k : IntKind} {x y : Int} {u : AV} : aBin P .leq t (.val (.int k x)) (.val (.int k y)) u ↔ u = .val (.bool (decide (x ≤ y))) := aBin_val fun _ _ w => by simp [eqGuard, binOp, Op.intCmp]
theorem r_gtr {t : TypeId} {k : IntKind} {x y : Int} {u : AV} : aBin P .gtr t (.val (.int k x)) (.val (.int k y)) u ↔ u = .val (.bool (decide (y < x))) := aBin_val fun _ _ w => by simp [eqGuard, binOp, Op.intCmp]
theorem r_geq {t : TypeId} {k : IntKind} {x y : Int} {u : AV} : aBin P .geq t (.val (.int k x)) (.val (.int k y)) u ↔ u = .val (.bool (decide (y ≤ x))) := aBin_val fun _ _ w => by simp [eqGuard, binOp, Op.intCmp]
theorem r_shl {t : TypeId} {k k' : IntKind} {x y : Int} {u : AV} (h : 0 ≤ y) : aBin P .shl t (.val (.int k x)) (.val (.int k' y)) u ↔ u = .val (.int k (k.wrap (x * 2 ^ (min y.toNat k.bits)))) := aBin_val fun _ _ w => by
 have : ¬ y < 0 := by omega
 simp [eqGuard, binOp, Op.shift, this]
theorem r_shr {t : TypeId} {k k' : IntKind} {x y : Int} {u : AV} (h : 0 ≤ y) : aBin P .shr t (.val (.int k x)) (.val (.int k' y)) u ↔ u = .val (.int k (x.fdiv (2 ^ (min y.toNat k.bits)))) := aBin_val fun _ _ w => by
 have : ¬ y < 0 := by omega
 simp [eqGuard, binOp, Op.shift, this]
theorem r_conv {s d : TypeId} {k k' : IntKind} {x : Int} {u : AV} (hd : P.underlying d = some (.int k')) (hs : P.underlying s = some (.int k)) : aConvN s d (.val (.int k x)) u P ↔ u = .val (.int k' (k'.wrap x)) := by
 have run : ∀ w : World, (convert s d (.int k x)).run P w = .ok (.int k' (k'.wrap x)) w := by
  intro w
  simp [convert, run_underlying hd, run_underlying hs, Conv.intToInt]
 unfold aConvN
 constructor
 ·rintro ⟨v, hu, hr⟩
  have := hr world0
  rw [run] at this
  cases this
  exact hu
 ·intro hu; exact ⟨_, hu, run⟩

theorem wrap_i64 {x : Int} (h1 : -9223372036854775808 ≤ x) (h2 : x ≤ 9223372036854775807) : IntKind.wrap .i64 x = x := by
 simp only [IntKind.wrap, IntKind.bits, IntKind.signed]
 simp
 split <;> omega
theorem wrap_u64 {x : Int} (h1 : 0 ≤ x) (h2 : x < 18446744073709551616) : IntKind.wrap .u64 x = x := by
 simp only [IntKind.wrap, IntKind.bits, IntKind.signed]; simp; omega
theorem wrap_u8' (x : Int) : IntKind.wrap .u8 x = x % 256 := by simp only [IntKind.wrap, IntKind.bits, IntKind.signed]; simp
theorem wrap_u32' (x : Int) : IntKind.wrap .u32 x = x % 4294967296 := by simp only [IntKind.wrap, IntKind.bits, IntKind.signed]; simp
theorem wrap_u64' (x : Int) : IntKind.wrap .u64 x = x % 18446744073709551616 := by simp only [IntKind.wrap, IntKind.bits, IntKind.signed]; simp

theorem r_not {b : Bool} {u : AV} : aUn P .not (.val (.bool b)) u ↔ u = .val (.bool (!b)) := by
 unfold aUn
 constructor
 ·rintro ⟨v, hu, hr⟩
  have := hr world0
  simp [Op.unary] at this
  rw [hu, this]
 ·intro hu; exact ⟨_, hu, fun w => by simp [Op.unary]⟩
theorem r_guard {b w : Bool} {X : AV → Prop} {u : AV} : aGuard (.val (.bool b)) w X u ↔ if b = w then X u else u = .val Go.undef := by
 unfold aGuard wantedA
 cases b <;> cases w <;> simp
theorem ex_guard {b w : Bool} {X K : AV → Prop} : (∃ u, aGuard (.val (.bool b)) w X u ∧ K u) ↔ (b = w → ∃ u, X u ∧ K u) ∧ (b = !w → K (.val Go.undef)) := by
 simp only [r_guard]
 cases b <;> cases w <;> simp
theorem ex_guardU {w : Bool} {X K : AV → Prop} (hK : K (.val Go.undef)) : ∃ u, aGuard (.val Go.undef) w X u ∧ K u := ⟨.val Go.undef, ⟨false, rfl, rfl⟩, hK⟩
theorem r_cond {b : Bool} {x y : Prop} : aCond (.val (.bool b)) x y ↔ (b = true → x) ∧ (b = false → y) := by
 unfold aCond
 cases b <;> simp
theorem ba_size (l : List UInt8) : (ByteArray.mk l.toArray).size = l.length := by
 show l.toArray.size = _; simp
theorem bdec (a b : List UInt8) : (a == b) = decide (a = b) := by by_cases h : a = b <;> simp [h]
theorem r_s_eql {t : TypeId} {a b : List UInt8} {u : AV} : aBin P .eql t (.val (.string ⟨a.toArray⟩)) (.val (.string ⟨b.toArray⟩)) u ↔ u = .val (.bool (decide (a = b))) := aBin_val fun _ _ w => by simp [eqGuard, binOp, Op.stringOp, bdec, bne]
theorem r_s_neq {t : TypeId} {a b : List UInt8} {u : AV} : aBin P .neq t (.val (.string ⟨a.toArray⟩)) (.val (.string ⟨b.toArray⟩)) u ↔ u = .val (.bool (decide (a ≠ b))) := aBin_val fun _ _ w => by simp [eqGuard, binOp, Op.stringOp, bdec, bne]
theorem r_s_lss {t : TypeId} {a b : List UInt8} {u : AV} : aBin P .lss t (.val (.string ⟨a.toArray⟩)) (.val (.string ⟨b.toArray⟩)) u ↔ u = .val (.bool (Op.bytesLess a b)) := aBin_val fun _ _ w => by simp [eqGuard, binOp, Op.stringOp]
theorem r_s_geq {t : TypeId} {a b : List UInt8} {u : AV} : aBin P .geq t (.val (.string ⟨a.toArray⟩)) (.val (.string ⟨b.toArray⟩)) u ↔ u = .val (.bool (!Op.bytesLess a b)) := aBin_val fun _ _ w => by simp [eqGuard, binOp, Op.stringOp]
theorem r_s_leq {t : TypeId} {a b : List UInt8} {u : AV} : aBin P .leq t (.val (.string ⟨a.toArray⟩)) (.val (.string ⟨b.toArray⟩)) u ↔ u = .val (.bool (Op.bytesLess a b || decide (a = b))) := aBin_val fun _ _ w => by simp [eqGuard, binOp, Op.stringOp, bdec, bne]
theorem r_s_gtr {t : TypeId} {a b : List UInt8} {u : AV} : aBin P .gtr t (.val (.string ⟨a.toArray⟩)) (.val (.string ⟨b.toArray⟩)) u ↔ u = .val (.bool (!(Op.bytesLess a b || decide (a = b)))) := aBin_val fun _ _ w => by simp [eqGuard, binOp, Op.stringOp, bdec, bne]
theorem r_s_add {t : TypeId} {a b : List UInt8} {u : AV} (h : a.length + b.length ≤ 9223372036854775807) : aBin P .add t (.val (.string ⟨a.toArray⟩)) (.val (.string ⟨b.toArray⟩)) u ↔ u = .val (.string ⟨(a ++ b).toArray⟩) := aBin_val fun _ _ w => by
 have e : (ByteArray.mk a.toArray ++ ByteArray.mk b.toArray) = ByteArray.mk (a ++ b).toArray := by
  apply ByteArray.ext
  simp
 have hs : ¬ (((ByteArray.mk a.toArray).size + (ByteArray.mk b.toArray).size : Nat) : Int) > IntKind.i64.max := by
  rw [ba_size, ba_size]
  simp only [IntKind.max, IntKind.signed, IntKind.bits]
  simp; omega
 simp only [eqGuard, binOp, Op.stringOp, e, if_neg hs, Sem.run_bind]
 rfl
def isSl (P : Program) (t : TypeId) : Bool := match P.underlying t with
 | some (.slice _) => true
 | _ => false
theorem isSl_run {t : TypeId} (h : isSl P t = true) : ∃ d, P.underlying t = some (.slice d) := by
 unfold isSl at h
 split at h
 ·rename_i d hd; exact ⟨d, hd⟩
 ·cases h
theorem r_len_lst {t : TypeId} (h : isSl P t = true) {z : Nat} {l : List AV} {m : SM} {u : AV} : aBuiltin P .len #[t] [.lst z l m] u ↔ u = .val (.int .i64 l.length) := by
 unfold aBuiltin
 exact ⟨fun h => h.2, fun hu => ⟨⟨t, rfl, isSl_run h⟩, hu⟩⟩
theorem r_len_own {t : TypeId} (h : isSl P t = true) {v : Value} {n : Nat} {u : AV} : aBuiltin P .len #[t] [.own v n] u ↔ u = .val (.int .i64 n) := by
 unfold aBuiltin
 exact ⟨fun h => h.2, fun hu => ⟨⟨t, rfl, isSl_run h⟩, hu⟩⟩
def isLmm : Builtin → Prop
 | .len | .min | .max | .cap => True
 | _ => False
theorem isLmm_match : ∀ b : Builtin, isLmm b → (match b with | .len | .min | .max | .cap => True | _ => False : Prop) := fun b hb => by cases b <;> first | trivial | exact hb.elim
theorem aBuiltin_vals {b : Builtin} {ts : Array TypeId} {vs : List Value} {v : Value} {u : AV} (hb : isLmm b) (h : ∀ (ty : TypeId) (cs : Array Bool) (w : World), (builtin b ts ty cs vs.toArray).run P w = .ok (.value v) w) :
  aBuiltin P b ts (vs.map .val) u ↔ u = .val v := by
 have ha : ∀ vs : List Value, allVals (vs.map .val) = some vs := by
  intro vs
  induction vs with
  | nil => rfl
  | cons v vs ih => simp [allVals, ih]
 unfold aBuiltin
 split
 ·rename_i h1; cases vs <;> simp at h1
 ·rename_i h1; cases vs <;> simp at h1
 ·rename_i h1; cases vs <;> simp at h1
 ·rename_i h1; cases vs <;> simp at h1
 ·rename_i h1; cases vs <;> simp at h1
 ·constructor
  ·rintro ⟨_, vs', v', h1, h2, h3⟩
   rw [ha] at h1
   cases h1
   have h4 := h3 0 #[] world0
   rw [h] at h4
   cases h4
   exact h2
  ·intro hu
   exact ⟨isLmm_match _ hb, vs, v, ha vs, hu, h⟩
theorem r_len_S {t : TypeId} (h : P.underlying t = some .string) {l : List UInt8} {u : AV} : aBuiltin P .len #[t] [.val (.string ⟨l.toArray⟩)] u ↔ u = .val (.int .i64 l.length) :=
 aBuiltin_vals (vs := [_]) trivial fun ty cs w => by simp [builtin, run_len_string w t ty _ h, goInt, ba_size]
theorem r_len_nil {t : TypeId} (h : isSl P t = true) {u : AV} : aBuiltin P .len #[t] [.val (.slice none 0 0)] u ↔ u = .val (.int .i64 0) :=
 aBuiltin_vals (vs := [_]) trivial fun ty cs w => by
  obtain ⟨d, hd⟩ := isSl_run h
  simp [builtin, Builtin.len_, run_underlying hd, goInt]
theorem r_min {t t' : TypeId} {k : IntKind} {x y : Int} {u : AV} : aBuiltin P .min #[t, t'] [.val (.int k x), .val (.int k y)] u ↔ u = .val (.int k (min x y)) :=
 aBuiltin_vals (vs := [_, _]) trivial fun ty cs w => by
  have e : (if y < x then y else x) = min x y := by simp only [Int.min_def]; split <;> split <;> omega
  simp [builtin, Builtin.min_, Builtin.min2, e]
theorem r_max {t t' : TypeId} {k : IntKind} {x y : Int} {u : AV} : aBuiltin P .max #[t, t'] [.val (.int k x), .val (.int k y)] u ↔ u = .val (.int k (max x y)) :=
 aBuiltin_vals (vs := [_, _]) trivial fun ty cs w => by
  have e : (if y > x then y else x) = max x y := by simp only [Int.max_def]; split <;> split <;> omega
  simp [builtin, Builtin.max_, Builtin.max2, e]

theorem r_index_S {l : List UInt8} {k : IntKind} {i : Int} {u : AV} : aIndex .string false 1 (.val (.string ⟨l.toArray⟩)) (.val (.int k i)) u ↔ (0 ≤ i ∧ i < l.length) ∧ u = .val (.int .u8 (l.getD i.toNat 0).toNat) := by
 simp only [aIndex, ixOf]
 constructor
 ·rintro ⟨h0, h1, hu⟩
  rw [ba_size] at h1
  refine ⟨⟨h0, by omega⟩, ?_⟩
  rw [hu]
  have e : l.getD i.toNat 0 = (ByteArray.mk l.toArray)[i.toNat]'(by rw [ba_size]; exact h1) := by
   show _ = (l.toArray)[i.toNat]
   rw [List.getElem_toArray, List.getD_eq_getElem?_getD, List.getElem?_eq_getElem h1]; rfl
  rw [e]
 ·rintro ⟨⟨h0, h1⟩, hu⟩
  refine ⟨h0, by rw [ba_size]; omega, ?_⟩
  rw [hu]
  have h2 : i.toNat < l.length := by omega
  have e : l.getD i.toNat 0 = (ByteArray.mk l.toArray)[i.toNat]'(by rw [ba_size]; exact h2) := by
   show _ = (l.toArray)[i.toNat]
   rw [List.getElem_toArray, List.getD_eq_getElem?_getD, List.getElem?_eq_getElem h2]; rfl
  rw [e]
theorem ba_extract (l : List UInt8) (a b : Nat) : (ByteArray.mk l.toArray).extract a b = ByteArray.mk ((l.take b).drop a).toArray := by
 apply ByteArray.ext
 simp
 rw [List.drop_take]
theorem r_slice_S {l : List UInt8} {k k' : IntKind} {a b : Int} {u : AV} : aSlice .string 1 (.val (.string ⟨l.toArray⟩)) (some (.val (.int k a))) (some (.val (.int k' b))) none u ↔ (0 ≤ a ∧ a ≤ b ∧ b ≤ l.length) ∧ u = .val (.string ⟨((l.take b.toNat).drop a.toNat).toArray⟩) := by
 simp only [aSlice, bdOf, ixOf, ba_size, ba_extract, and_assoc]
theorem r_slice_S1 {l : List UInt8} {k : IntKind} {a : Int} {u : AV} : aSlice .string 1 (.val (.string ⟨l.toArray⟩)) (some (.val (.int k a))) none none u ↔ (0 ≤ a ∧ a ≤ l.length) ∧ u = .val (.string ⟨(l.drop a.toNat).toArray⟩) := by
 simp only [aSlice, bdOf, ixOf, ba_size, ba_extract, and_assoc]
 have e : List.take (l.length : Int).toNat l = l := by simp
 rw [e]
 constructor
 ·rintro ⟨h1, h2, h3, h4⟩; exact ⟨h1, h2, h4⟩
 ·rintro ⟨h1, h2, h4⟩; exact ⟨h1, h2, Int.le_refl _, h4⟩
theorem r_slice_S2 {l : List UInt8} {k' : IntKind} {b : Int} {u : AV} : aSlice .string 1 (.val (.string ⟨l.toArray⟩)) none (some (.val (.int k' b))) none u ↔ (0 ≤ b ∧ b ≤ l.length) ∧ u = .val (.string ⟨(l.take b.toNat).toArray⟩) := by
 simp only [aSlice, bdOf, ixOf, ba_size, ba_extract, and_assoc]
 simp
theorem r_slice1 {sz : Nat} {l : List AV} {m : SM} {k : IntKind} {a : Int} {u : AV} : aSlice .slice sz (.lst sz l m) (some (.val (.int k a))) none none u ↔ (0 ≤ a ∧ a ≤ l.length) ∧ u = .lst sz (l.drop a.toNat) .ro := by
 simp [aSlice, bdOf, ixOf, and_assoc]
theorem r_slice2 {sz : Nat} {l : List AV} {m : SM} {k' : IntKind} {b : Int} {u : AV} : aSlice .slice sz (.lst sz l m) none (some (.val (.int k' b))) none u ↔ (0 ≤ b ∧ b ≤ l.length) ∧ u = .lst sz (l.take b.toNat) .ro := by
 simp [aSlice, bdOf, ixOf, and_assoc]
theorem r_slice3 {sz : Nat} {l : List AV} {m : SM} {k k' : IntKind} {b c : Int} {u : AV} : aSlice .slice sz (.lst sz l m) none (some (.val (.int k b))) (some (.val (.int k' c))) u ↔ (0 ≤ b ∧ b ≤ l.length ∧ c = b) ∧ u = .lst sz (l.take b.toNat) .full := by
 simp [aSlice, bdOf, ixOf, and_assoc]
theorem r_ixa {sz : Nat} {l : List AV} {m : SM} {k : IntKind} {i : Int} {u : AV} : aIndexAddr .slice sz (.lst sz l m) (.val (.int k i)) u ↔ (0 ≤ i ∧ i < l.length) ∧ u = .rptr (l.getD i.toNat .undef).cells := by
 simp [aIndexAddr, ixOf, and_assoc]
theorem getD_map {α : Type} {f : α → AV} {l : List α} {n : Nat} (d : α) (h : n < l.length) : (l.map f).getD n .undef = f (l.getD n d) := by
 simp [List.getD_eq_getElem?_getD, h]
end Go.Ab
