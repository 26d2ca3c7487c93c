/- A logic over abstract states (part 2): frames, operations, regions (drawn ones, too), code; the rules, each proved over the model's own wp. -/
import Derived.Test.YtopmpooglnfalaaAb1
set_option linter.unusedVariables false
set_option linter.unusedSimpArgs false
namespace Go.Ab

inductive AX where
  | norm | exit (id : Nat) | ret | pan (u : AV)
def EXR (R : RO) : Exit → AX → Prop
  | .normal, .norm => True
  | .exit i, .exit j => i = j
  | .ret, .ret => True
  | .panic chain, .pan u => ∃ v, chain = [{ v, recovered := false }] ∧ VR R v u
  | _, _ => False

abbrev Fr := Nat → AV
def upd (fr : Fr) (d : Nat) (u : AV) : Fr := fun j => bif Nat.beq j d then u else fr j
def updo (fr : Fr) : Option Nat → AV → Fr
  | none, _ => fr
  | some d, u => upd fr d u
theorem upd_same (fr : Fr) (d : Nat) (u : AV) : upd fr d u d = u := by simp [upd]
theorem upd_other (fr : Fr) {d j : Nat} (u : AV) (h : j ≠ d) : upd fr d u j = fr j := by
  have hb : Nat.beq j d = false := by
    cases hb : Nat.beq j d with
    | false => rfl
    | true => exact absurd (Nat.eq_of_beq_eq_true hb) h
  simp [upd, hb]
theorem upd_comm (fr : Fr) {d e : Nat} (u v : AV) (h : d ≠ e) : upd (upd fr d u) e v = upd (upd fr e v) d u := by
  funext j
  by_cases h1 : j = e
  · subst h1; rw [upd_same, upd_other _ _ (fun h' => h h'.symm), upd_same]
  · rw [upd_other _ _ h1]
    by_cases h2 : j = d
    · subst h2; rw [upd_same, upd_same]
    · rw [upd_other _ _ h2, upd_other _ _ h2, upd_other _ _ h1]

/-- What an operand is in a frame. -/
def evA (fr : Fr) : Operand → AV
  | .tmp t => fr t
  | .const v => ofV v
  | .global g => .val (.pointer (some ⟨g, 0, none⟩))
  | .func f => .val (.func (.func f) #[] #[])

structure ActR (R : RO) (N : Nat) (D : List Deferred) (a : Act) (fr : Fr) : Prop where
  size : a.tmps.size = N
  defers : a.defers = D
  tmps : ∀ t, VR R (a.tmps.getD t Go.undef) (fr t)
theorem ActR.eval {R : RO} {N : Nat} {D : List Deferred} {a : Act} {fr : Fr} (h : ActR R N D a fr) (x : Operand) : VR R (a.eval x) (evA fr x) := by
  cases x with
  | tmp t => exact h.tmps t
  | const v =>
    show VR R v (ofV v)
    cases v with
    | agg cs => exact .agg (by simp) (fun j u v hu hv => by
        simp only [List.getElem?_map, hv, Option.map_some, Option.some.injEq] at hu
        subst hu
        exact .val v)
    | _ => exact .val _
  | global g => exact .val _
  | func f => exact .val _
theorem ActR.mono {R R' : RO} {N : Nat} {D : List Deferred} {a : Act} {fr : Fr} (h : ActR R N D a fr) (hR : R.le R') : ActR R' N D a fr := ⟨h.size, h.defers, fun t => (h.tmps t).mono hR⟩
theorem ActR.put {R : RO} {N : Nat} {D : List Deferred} {a : Act} {fr : Fr} (h : ActR R N D a fr) {dst : Option Nat} (hd : ∀ d, dst = some d → d < N) {v : Value} {u : AV} (hv : VR R v u) : ActR R N D (a.put dst v) (updo fr dst u) := by
  cases dst with
  | none => exact h
  | some d =>
    refine ⟨by simp [Act.put, h.size], h.defers, fun t => ?_⟩
    have hdN : d < a.tmps.size := by rw [h.size]; exact hd d rfl
    by_cases ht : t = d
    · subst ht
      simp only [Act.put, updo, upd_same]
      rw [Array.getD_eq_getD_getElem?, Array.getElem?_setIfInBounds_self_of_lt hdN]
      exact hv
    · simp only [Act.put, updo, upd_other _ _ ht]
      rw [Array.getD_eq_getD_getElem?, Array.getElem?_setIfInBounds_ne (fun e => ht e.symm), ← Array.getD_eq_getD_getElem?]
      exact h.tmps t

/-- One operation, told of abstract states: k: how it may go on; kp: how it may panic. -/
def AOp (P : Program) (o : Oper) (ρ : Operand → AV) (σ : Store) (k kp : AV → Store → Prop) : Prop :=
  ∀ (R : RO) (w : World) (a : Act), (∀ x, VR R (a.eval x) (ρ x)) → St R w σ → ∀ (next : Act → World → Prop) (Q : Exit → Act → World → Prop),
    (∀ v u w' R' σ', k u σ' → VR R' v u → St R' w' σ' → Ext R w σ R' w' σ' → next (a.put o.dst v) w') →
    (∀ v u w' R' σ', kp u σ' → VR R' v u → St R' w' σ' → Ext R w σ R' w' σ' → Q (.panic [{ v, recovered := false }]) a w') → o.wp P a w next Q

/-- The commonest form: the operation runs to a value. -/
theorem AOp.ofRun {P : Program} {o : Oper} {ρ : Operand → AV} {σ : Store} {k kp : AV → Store → Prop}
    (h : ∀ (R : RO) (w : World) (ev : Operand → Value), (∀ x, VR R (ev x) (ρ x)) → St R w σ → ∃ v w' u R' σ', (execOp ev o).run P w = .ok (.value v) w' ∧ k u σ' ∧ VR R' v u ∧ St R' w' σ' ∧ Ext R w σ R' w' σ') : AOp P o ρ σ k kp := by
  intro R w a ha hs next Q hn hp
  obtain ⟨v, w', u, R', σ', hr, hk, hv, hs', hx⟩ := h R w a.eval ha hs
  unfold Oper.wp
  rw [hr]
  exact hn v u w' R' σ' hk hv hs' hx
/-- Likewise of one that yields nothing. -/
theorem AOp.ofSkip {P : Program} {o : Oper} {ρ : Operand → AV} {σ : Store} {k kp : AV → Store → Prop}
    (h : ∀ (R : RO) (w : World) (ev : Operand → Value), (∀ x, VR R (ev x) (ρ x)) → St R w σ → ∃ w' R' σ', (execOp ev o).run P w = .ok .skip w' ∧ k .undef σ' ∧ St R' w' σ' ∧ Ext R w σ R' w' σ') : AOp P o ρ σ k kp := by
  intro R w a ha hs next Q hn hp
  obtain ⟨w', R', σ', hr, hk, hs', hx⟩ := h R w a.eval ha hs
  unfold Oper.wp
  rw [hr]
  exact hn Go.undef .undef w' R' σ' hk (.undef _) hs' hx

/-! ### What the kinds of operations mean is given by three relations -/
inductive Cls where
  | pure | read | eff
  deriving DecidableEq, Inhabited

structure Sem' (P : Program) where
  cls : Oper → Cls
  pure : Oper → (Operand → AV) → AV → Prop
  read : Oper → (Operand → AV) → Store → AV → Prop
  eff : Oper → (Operand → AV) → Store → (AV → Store → Prop) → (AV → Store → Prop) → Prop
  pureOk : ∀ o ρ u σ k kp, pure o ρ u → k u σ → AOp P o ρ σ k kp
  readOk : ∀ o ρ u σ k kp, read o ρ σ u → k u σ → AOp P o ρ σ k kp
  effOk : ∀ o ρ σ k kp, eff o ρ σ k kp → AOp P o ρ σ k kp
  mono : ∀ o ρ σ k k' kp, (∀ u σ', k u σ' → k' u σ') → eff o ρ σ k kp → eff o ρ σ k' kp
  pureOn : ∀ o ρ ρ' u, (∀ x ∈ o.op.operands, ρ x = ρ' x) → pure o ρ u → pure o ρ' u
  readOn : ∀ o ρ ρ' σ u, (∀ x ∈ o.op.operands, ρ x = ρ' x) → read o ρ σ u → read o ρ' σ u
  effOn : ∀ o ρ ρ' σ k kp, (∀ x ∈ o.op.operands, ρ x = ρ' x) → eff o ρ σ k kp → eff o ρ' σ k kp
  /-- what is told at once -/
  fn : Oper → (Operand → AV) → Option AV
  fnOk : ∀ o ρ u, fn o ρ = some u → cls o = .pure ∧ pure o ρ u

variable {P : Program}

/-- The guard of an operation: the temporary of another one of the region. -/
def guardTmp (ops : Array Oper) (o : Oper) : Option (Nat × Bool) :=
  match o.guard with
  | none => none
  | some (j, want) => some (((ops[j]?).bind (·.dst)).getD 0, want)
def guardOk (ops : Array Oper) (N : Nat) (o : Oper) : Bool :=
  match o.guard with
  | none => true
  | some (j, _) => match (ops[j]?).bind (·.dst) with
    | some d => Nat.blt d N
    | none => false

/-- Is an operation under a guard wanted. -/
def wantedA (g : AV) (want : Bool) : Option Bool := match g with
  | .val (.bool t) => some (t == want)
  | .val (.tuple _) => some false
  | _ => none
/-- What an operation that has no effect yields. -/
def gives (S : Sem' P) (ops : Array Oper) (o : Oper) (fr : Fr) (σ : Store) (u : AV) : Prop :=
  match o.guard with
  | none => (match S.cls o with
    | .pure => S.pure o (evA fr) u
    | _ => S.read o (evA fr) σ u)
  | some (j, want) => ∃ t, wantedA (fr (((ops[j]?).bind (·.dst)).getD 0)) want = some t ∧ if t = true then (match S.cls o with
    | .pure => S.pure o (evA fr) u
    | _ => S.read o (evA fr) σ u) else u = .val Go.undef
/-- One operation of a region, its guard looked at. -/
def vcOp (S : Sem' P) (N : Nat) (ops : Array Oper) (o : Oper) (K : Fr → Store → Prop) (kp : Fr → AV → Store → Prop) (fr : Fr) (σ : Store) : Prop :=
  match S.cls o with
  | .eff => (match o.guard with
    | none => S.eff o (evA fr) σ (fun u σ' => K (updo fr o.dst u) σ') (kp fr)
    | some (j, want) => ∃ t, wantedA (fr (((ops[j]?).bind (·.dst)).getD 0)) want = some t ∧
        if t = true then S.eff o (evA fr) σ (fun u σ' => K (updo fr o.dst u) σ') (kp fr) else K (updo fr o.dst (.val Go.undef)) σ)
  | _ => ∃ u, gives S ops o fr σ u ∧ K (updo fr o.dst u) σ
theorem vcOp_gives {S : Sem' P} {N : Nat} {ops : Array Oper} {o : Oper} (hc : S.cls o ≠ .eff) {K : Fr → Store → Prop} {kp : Fr → AV → Store → Prop} {fr : Fr} {σ : Store} :
    vcOp S N ops o K kp fr σ ↔ ∃ u, gives S ops o fr σ u ∧ K (updo fr o.dst u) σ := by
  unfold vcOp
  cases h : S.cls o with
  | eff => exact absurd h hc
  | _ => exact Iff.rfl

def opFine (N : Nat) (ops : Array Oper) (o : Oper) : Bool := (match o.dst with | some d => Nat.blt d N | none => true) && guardOk ops N o

theorem vcOp_mono {S : Sem' P} {N : Nat} {ops : Array Oper} {o : Oper} {K K' : Fr → Store → Prop} {kp : Fr → AV → Store → Prop} {fr : Fr} {σ : Store} (hK : ∀ fr σ, K fr σ → K' fr σ) (h : vcOp S N ops o K kp fr σ) : vcOp S N ops o K' kp fr σ := by
  by_cases hc : S.cls o = .eff
  · unfold vcOp at h ⊢
    simp only [hc] at h ⊢
    split at h
    · exact S.mono _ _ _ _ _ _ (fun u σ' hk => hK _ _ hk) h
    · obtain ⟨t, ht, h⟩ := h
      refine ⟨t, ht, ?_⟩
      split at h
      · rename_i he; rw [if_pos he]; exact S.mono _ _ _ _ _ _ (fun u σ' hk => hK _ _ hk) h
      · rename_i he; rw [if_neg he]; exact hK _ _ h
  · obtain ⟨u, h1, h2⟩ := (vcOp_gives hc).1 h
    exact (vcOp_gives hc).2 ⟨u, h1, hK _ _ h2⟩

/-- The concrete side of one operation. -/
theorem vcOp_sound {S : Sem' P} {N : Nat} {D : List Deferred} {ops : Array Oper} {o : Oper} (hf : opFine N ops o = true) {K : Fr → Store → Prop} {kp : Fr → AV → Store → Prop} {fr : Fr} {σ : Store}
    (h : vcOp S N ops o K kp fr σ) {R : RO} {w : World} {a : Act} (ha : ActR R N D a fr) (hs : St R w σ) {next : Act → World → Prop} {Q : Exit → Act → World → Prop}
    (hn : ∀ a' w' fr' σ' R', K fr' σ' → ActR R' N D a' fr' → St R' w' σ' → Ext R w σ R' w' σ' → next a' w')
    (hp : ∀ v u w' σ' R', kp fr u σ' → VR R' v u → St R' w' σ' → Ext R w σ R' w' σ' → Q (.panic [{ v, recovered := false }]) a w') :
    if Region.wanted o (yielded ops a.tmps) then o.wp P a w next Q else next (a.put o.dst Go.undef) w := by
  have hd : ∀ d, o.dst = some d → d < N := by
    intro d hd
    simp only [opFine, hd, Bool.and_eq_true] at hf
    simpa [Nat.blt_eq] using hf.1
  have hq : ∀ v u w' R' σ', K (updo fr o.dst u) σ' → VR R' v u → St R' w' σ' → Ext R w σ R' w' σ' → next (a.put o.dst v) w' := fun v u w' R' σ' hk hv hs' hx => hn _ _ _ _ _ hk ((ha.mono hx.ro).put hd hv) hs' hx
  have hpp : ∀ v u w' R' σ', kp fr u σ' → VR R' v u → St R' w' σ' → Ext R w σ R' w' σ' → Q (.panic [{ v, recovered := false }]) a w' := fun v u w' R' σ' hk hv hs' hx => hp _ _ _ _ _ hk hv hs' hx
  have hy : ∀ j want t, o.guard = some (j, want) → wantedA (fr (((ops[j]?).bind (·.dst)).getD 0)) want = some t → (yielded ops a.tmps j == some want) = t := by
    intro j want t hg ht
    simp only [opFine, guardOk, hg, Bool.and_eq_true] at hf
    cases hd' : (ops[j]?).bind (·.dst) with
    | none => simp [hd'] at hf
    | some d =>
      simp only [hd', Nat.blt_eq] at hf
      simp only [hd', Option.getD_some] at ht
      have hv := ha.tmps d
      have hlt : d < a.tmps.size := by rw [ha.size]; exact hf.2
      rw [Array.getD_eq_getD_getElem?, Array.getElem?_eq_getElem hlt, Option.getD_some] at hv
      unfold wantedA at ht
      split at ht
      · rename_i b hb
        rw [hb] at hv
        have he := hv.val_inv
        cases ht
        simp [yielded, hd', Array.getElem?_eq_getElem hlt, he]
      · rename_i b hb
        rw [hb] at hv
        have he := hv.val_inv
        cases ht
        simp [yielded, hd', Array.getElem?_eq_getElem hlt, he]
      · cases ht
  by_cases hc : S.cls o = .eff
  · unfold vcOp at h
    simp only [hc] at h
    cases hg : o.guard with
    | none =>
      simp only [hg] at h
      simp only [Region.wanted, hg, if_true]
      exact S.effOk _ _ _ _ _ h R w a (fun x => ha.eval x) hs next Q hq hpp
    | some jw =>
      obtain ⟨j, want⟩ := jw
      simp only [hg] at h
      obtain ⟨t, ht, h⟩ := h
      simp only [Region.wanted, hg, hy j want t hg ht]
      cases t with
      | true =>
        rw [if_pos rfl] at h
        simp only [if_true]
        exact S.effOk _ _ _ _ _ h R w a (fun x => ha.eval x) hs next Q hq hpp
      | false =>
        simp only [Bool.false_eq_true, if_false] at h ⊢
        exact hn _ _ _ _ _ h (ha.put hd (.val _)) hs (Ext.refl _ _ _)
  · obtain ⟨u, hu, hK⟩ := (vcOp_gives hc).1 h
    have hrun : (match S.cls o with | .pure => S.pure o (evA fr) u | _ => S.read o (evA fr) σ u) → o.wp P a w next Q := by
      intro hr
      cases hcl : S.cls o with
      | eff => exact absurd hcl hc
      | pure => rw [hcl] at hr; exact S.pureOk _ _ _ _ _ _ hr hK R w a (fun x => ha.eval x) hs next Q hq hpp
      | read => rw [hcl] at hr; exact S.readOk _ _ _ _ _ _ hr hK R w a (fun x => ha.eval x) hs next Q hq hpp
    unfold gives at hu
    cases hg : o.guard with
    | none =>
      simp only [hg] at hu
      simp only [Region.wanted, hg, if_true]
      exact hrun hu
    | some jw =>
      obtain ⟨j, want⟩ := jw
      simp only [hg] at hu
      obtain ⟨t, ht, hu⟩ := hu
      simp only [Region.wanted, hg, hy j want t hg ht]
      cases t with
      | true =>
        rw [if_pos rfl] at hu
        simp only [if_true]
        exact hrun hu
      | false =>
        simp only [Bool.false_eq_true, if_false] at hu ⊢
        subst hu
        exact hn _ _ _ _ _ hK (ha.put hd (.val _)) hs (Ext.refl _ _ _)

/-- The operations of a region in the order of the text. -/
def vcOps (S : Sem' P) (N : Nat) (ops : Array Oper) (K : AX → Fr → Store → Prop) : List Oper → Fr → Store → Prop
  | [], fr, σ => K .norm fr σ
  | o :: rest, fr, σ => vcOp S N ops o (vcOps S N ops K rest) (fun fr u σ => K (.pan u) fr σ) fr σ

/-- What is left of a wp's post, in abstract words. -/
def Post (N : Nat) (D : List Deferred) (R : RO) (w : World) (σ : Store) (K : AX → Fr → Store → Prop) (e : Exit) (a' : Act) (w' : World) : Prop :=
  ∃ x fr' σ' R', EXR R' e x ∧ K x fr' σ' ∧ ActR R' N D a' fr' ∧ St R' w' σ' ∧ Ext R w σ R' w' σ'
theorem Post.trans {N : Nat} {D : List Deferred} {R R1 : RO} {w w1 : World} {σ σ1 : Store} {K : AX → Fr → Store → Prop} {e : Exit} {a' : Act} {w' : World} (hx : Ext R w σ R1 w1 σ1) (h : Post N D R1 w1 σ1 K e a' w') : Post N D R w σ K e a' w' := by
  obtain ⟨x, fr', σ', R', h1, h2, h3, h4, h5⟩ := h
  exact ⟨x, fr', σ', R', h1, h2, h3, h4, hx.trans h5⟩

theorem vcOps_sound {S : Sem' P} {N : Nat} {D : List Deferred} {ops : Array Oper} {K : AX → Fr → Store → Prop} (l : List Oper) (hf : ∀ o ∈ l, opFine N ops o = true) :
    ∀ {fr : Fr} {σ : Store}, vcOps S N ops K l fr σ → ∀ {R : RO} {w : World} {a : Act}, ActR R N D a fr → St R w σ → ∀ {Q : Exit → Act → World → Prop}, (∀ e a' w', Post N D R w σ K e a' w' → Q e a' w') → wpList P ops Q l a w := by
  induction l with
  | nil =>
    intro fr σ h R w a ha hs Q hQ
    exact hQ _ _ _ ⟨.norm, fr, σ, R, trivial, h, ha, hs, Ext.refl _ _ _⟩
  | cons o rest ih =>
    intro fr σ h R w a ha hs Q hQ
    have := vcOp_sound (D := D) (hf o (List.mem_cons_self ..)) (next := wpList P ops Q rest) (Q := Q) h ha hs
      (fun a' w' fr' σ' R' hk ha' hs' hx => ih (fun o ho => hf o (List.mem_cons_of_mem _ ho)) hk ha' hs' fun e a'' w'' hp => hQ _ _ _ (hp.trans hx))
      (fun v u w' σ' R' hk hv hs' hx => hQ _ _ _ ⟨.pan u, fr, σ', R', ⟨v, rfl, hv⟩, hk, ha.mono hx.ro, hs', hx⟩)
    unfold wpList
    split
    · rename_i hw; rw [if_pos hw] at this; exact .inl this
    · rename_i hw; rw [if_neg hw] at this; exact this

/-! ### A region whose order is drawn -/
/-- Two operations that may change places: neither looks at or writes what the other one writes; and one of them is told by its operands alone, or both only read. -/
def apart (ops : Array Oper) (x y : Oper) : Bool := x.apart ops y
def swaps (S : Sem' P) (x y : Oper) : Bool :=
  match S.cls x, S.cls y with
  | .pure, _ => true
  | .read, .read => true
  | .read, .pure => true
  | _, _ => false

def readyAt (ops : Array Oper) (listed : Array Bool) (i : Nat) : Bool :=
  !listed.getD i true && ((ops[i]?).map (·.after.all fun e => !Region.binds .any e || listed.getD e.on false)).getD false
/-- An operation that may be carried out first, whatever the others do. -/
def frees (S : Sem' P) (ops : Array Oper) (listed : Array Bool) (i : Nat) : Bool :=
  readyAt ops listed i && (List.range ops.size).all fun j =>
    listed.getD j true || Nat.beq i j || (match ops[i]?, ops[j]? with
      | some x, some y => (apart ops x y && swaps S x y) || y.after.any (fun e => Region.binds .any e && Nat.beq e.on i)
      | _, _ => false)

/-- All orders: where some operation is free, it goes first; else each that is ready. -/
def vcAny (S : Sem' P) (N : Nat) (ops : Array Oper) (K : Fr → Store → Prop) : Nat → Array Bool → Fr → Store → Prop
  | 0, listed, fr, σ => K fr σ
  | n + 1, listed, fr, σ =>
    match (List.range ops.size).find? (frees S ops listed) with
    | some i => match ops[i]? with
      | some o => vcOp S N ops o (vcAny S N ops K n (listed.setIfInBounds i true)) (fun _ _ _ => False) fr σ
      | none => False
    | none => match (List.range ops.size).filter (readyAt ops listed) with
      | [] => K fr σ
      | rs => ∀ i, i ∈ rs → match ops[i]? with
          | some o => vcOp S N ops o (vcAny S N ops K n (listed.setIfInBounds i true)) (fun _ _ _ => False) fr σ
          | none => False

def agree (ops : Array Oper) (o : Oper) (fr fr' : Fr) : Prop := ∀ t ∈ o.looksAt ops, fr t = fr' t
theorem agree.eval {ops : Array Oper} {o : Oper} {fr fr' : Fr} (h : agree ops o fr fr') : ∀ x ∈ o.op.operands, evA fr x = evA fr' x := by
  intro x hx
  cases x with
  | tmp t =>
    refine h t (List.mem_append.2 (.inl ?_))
    exact List.mem_filterMap.2 ⟨.tmp t, Array.mem_toList_iff.2 hx, rfl⟩
  | _ => rfl
theorem agree.guard {ops : Array Oper} {o : Oper} {N : Nat} (hf : opFine N ops o = true) {fr fr' : Fr} (h : agree ops o fr fr') {j : Nat} {want : Bool} (hg : o.guard = some (j, want)) :
    fr (((ops[j]?).bind (·.dst)).getD 0) = fr' (((ops[j]?).bind (·.dst)).getD 0) := by
  simp only [opFine, guardOk, hg, Bool.and_eq_true] at hf
  cases hd : (ops[j]?).bind (·.dst) with
  | none => simp [hd] at hf
  | some d => exact h d (List.mem_append.2 (.inr (by simp [hg, hd])))
theorem gives_on {S : Sem' P} {ops : Array Oper} {o : Oper} {N : Nat} (hf : opFine N ops o = true) {fr fr' : Fr} (h : agree ops o fr fr') {σ : Store} {u : AV} (hu : gives S ops o fr σ u) : gives S ops o fr' σ u := by
  have hx : (match S.cls o with | .pure => S.pure o (evA fr) u | _ => S.read o (evA fr) σ u) → (match S.cls o with | .pure => S.pure o (evA fr') u | _ => S.read o (evA fr') σ u) := by
    intro hr
    cases hc : S.cls o with
    | pure => rw [hc] at hr; exact S.pureOn _ _ _ _ h.eval hr
    | read => rw [hc] at hr; exact S.readOn _ _ _ _ _ h.eval hr
    | eff => rw [hc] at hr; exact S.readOn _ _ _ _ _ h.eval hr
  unfold gives at hu ⊢
  cases hg : o.guard with
  | none => simp only [hg] at hu ⊢; exact hx hu
  | some jw =>
    obtain ⟨j, want⟩ := jw
    simp only [hg] at hu ⊢
    obtain ⟨t, ht, hr⟩ := hu
    refine ⟨t, by rw [← h.guard hf hg]; exact ht, ?_⟩
    split at hr
    · rename_i he; rw [if_pos he]; exact hx hr
    · rename_i he; rw [if_neg he]; exact hr
theorem vcOp_on {S : Sem' P} {N : Nat} {ops : Array Oper} {o : Oper} (hf : opFine N ops o = true) {fr fr' : Fr} (h : agree ops o fr fr') {K K' : Fr → Store → Prop} {σ : Store}
    (hK : ∀ u σ', K (updo fr o.dst u) σ' → K' (updo fr' o.dst u) σ') (hv : vcOp S N ops o K (fun _ _ _ => False) fr σ) : vcOp S N ops o K' (fun _ _ _ => False) fr' σ := by
  by_cases hc : S.cls o = .eff
  · unfold vcOp at hv ⊢
    simp only [hc] at hv ⊢
    cases hg : o.guard with
    | none => simp only [hg] at hv ⊢; exact S.mono _ _ _ _ _ _ (fun u σ' => hK u σ') (S.effOn _ _ _ _ _ _ h.eval hv)
    | some jw =>
      obtain ⟨j, want⟩ := jw
      simp only [hg] at hv ⊢
      obtain ⟨t, ht, hr⟩ := hv
      refine ⟨t, by rw [← h.guard hf hg]; exact ht, ?_⟩
      split at hr
      · rename_i he; rw [if_pos he]; exact S.mono _ _ _ _ _ _ (fun u σ' => hK u σ') (S.effOn _ _ _ _ _ _ h.eval hr)
      · rename_i he; rw [if_neg he]; exact hK _ _ hr
  · obtain ⟨u, h1, h2⟩ := (vcOp_gives hc).1 hv
    exact (vcOp_gives hc).2 ⟨u, gives_on hf h h1, hK _ _ h2⟩

theorem agree_upd {ops : Array Oper} {o : Oper} {dst : Option Nat} (h : ∀ d, dst = some d → d ∉ o.looksAt ops) (fr : Fr) (u : AV) : agree ops o (updo fr dst u) fr := by
  intro t ht
  cases dst with
  | none => rfl
  | some d => exact upd_other _ _ (fun e => h d rfl (e ▸ ht))
theorem agree.symm {ops : Array Oper} {o : Oper} {fr fr' : Fr} (h : agree ops o fr fr') : agree ops o fr' fr := fun t ht => (h t ht).symm
theorem updo_comm (fr : Fr) {x y : Option Nat} (u v : AV) (h : ∀ d, x = some d → y ≠ some d) : updo (updo fr x u) y v = updo (updo fr y v) x u := by
  cases x with
  | none => rfl
  | some d =>
    cases y with
    | none => rfl
    | some e => exact upd_comm fr u v (fun he => h d rfl (by rw [he]))

theorem swap_sound {S : Sem' P} {N : Nat} {ops : Array Oper} {x y : Oper} (hfx : opFine N ops x = true) (hfy : opFine N ops y = true) (ha : apart ops x y = true) (hs : swaps S x y = true) {X : Fr → Store → Prop} {fr : Fr} {σ : Store}
    (h : vcOp S N ops x (vcOp S N ops y X fun _ _ _ => False) (fun _ _ _ => False) fr σ) : vcOp S N ops y (vcOp S N ops x X fun _ _ _ => False) (fun _ _ _ => False) fr σ := by
  obtain ⟨a1, a2, a3⟩ := Oper.apart_spec ha
  have hxc : S.cls x ≠ .eff := by intro hc; simp [swaps, hc] at hs
  obtain ⟨u, hu, hy⟩ := (vcOp_gives hxc).1 h
  have ag : agree ops y (updo fr x.dst u) fr := agree_upd a1 fr u
  by_cases hp : S.cls x = .pure
  · refine vcOp_on hfy ag (fun v σ' hX => ?_) hy
    refine (vcOp_gives hxc).2 ⟨u, ?_, by rw [← updo_comm fr u v a2]; exact hX⟩
    have hu' : gives S ops x fr σ' u := by
      unfold gives at hu ⊢
      rw [hp] at hu ⊢
      exact hu
    exact gives_on hfx (agree_upd a3 fr v).symm hu'
  · have hyc : S.cls y ≠ .eff := by
      intro hc
      unfold swaps at hs
      rw [hc] at hs
      cases hx : S.cls x with
      | pure => exact hp hx
      | read => rw [hx] at hs; cases hs
      | eff => exact hxc hx
    obtain ⟨v, hv, hX⟩ := (vcOp_gives hyc).1 hy
    refine (vcOp_gives hyc).2 ⟨v, gives_on hfy ag hv, (vcOp_gives hxc).2 ⟨u, gives_on hfx (agree_upd a3 fr v).symm hu, ?_⟩⟩
    rw [← updo_comm fr u v a2]; exact hX

/-! Listing -/
def open_ (ops : Array Oper) (listed : Array Bool) : List Nat := (List.range ops.size).filter fun i => !listed.getD i true
theorem getD_list (listed : Array Bool) (i j : Nat) (h : listed.getD i true = false) : (listed.setIfInBounds i true).getD j true = (if i = j then true else listed.getD j true) := by
  have hi : i < listed.size := by
    rcases Nat.lt_or_ge i listed.size with h' | h'
    · exact h'
    · simp [Array.getD, Nat.not_lt.2 h'] at h
  by_cases hij : i = j
  · subst hij
    simp [Array.getD_eq_getD_getElem?, Array.getElem?_setIfInBounds_self_of_lt hi]
  · simp [Array.getD_eq_getD_getElem?, Array.getElem?_setIfInBounds_ne hij, hij]
theorem getD_false (listed : Array Bool) (i j : Nat) (h : listed.getD i true = false) : (listed.setIfInBounds i true).getD j false = (if i = j then true else listed.getD j false) := by
  have hi : i < listed.size := by
    rcases Nat.lt_or_ge i listed.size with h' | h'
    · exact h'
    · simp [Array.getD, Nat.not_lt.2 h'] at h
  by_cases hij : i = j
  · subst hij
    simp [Array.getD_eq_getD_getElem?, Array.getElem?_setIfInBounds_self_of_lt hi]
  · simp [Array.getD_eq_getD_getElem?, Array.getElem?_setIfInBounds_ne hij, hij]
theorem ready_open {ops : Array Oper} {listed : Array Bool} {i : Nat} (h : readyAt ops listed i = true) : listed.getD i true = false := by
  simp only [readyAt, Bool.and_eq_true, Bool.not_eq_true'] at h
  exact h.1
theorem ready_lt {ops : Array Oper} {listed : Array Bool} {i : Nat} (h : readyAt ops listed i = true) : ∃ o, ops[i]? = some o ∧ (o.after.all fun e => !Region.binds .any e || listed.getD e.on false) = true := by
  simp only [readyAt, Bool.and_eq_true] at h
  cases ho : ops[i]? with
  | none => simp [ho] at h
  | some o => exact ⟨o, rfl, by simpa [ho] using h.2⟩
theorem ready_more {ops : Array Oper} {listed : Array Bool} {i j : Nat} (hi : listed.getD i true = false) (hij : i ≠ j) (h : readyAt ops listed j = true) : readyAt ops (listed.setIfInBounds i true) j = true := by
  obtain ⟨o, ho, ha⟩ := ready_lt h
  have h0 := ready_open h
  simp only [readyAt, getD_list _ _ _ hi, if_neg hij, h0, ho, Option.map_some, Option.getD_some, Bool.not_false, Bool.true_and]
  rw [Array.all_eq_true_iff_forall_mem] at ha ⊢
  intro e he
  have := ha e he
  simp only [Bool.or_eq_true, Bool.not_eq_true'] at this ⊢
  refine this.imp id fun h => ?_
  rw [getD_false _ _ _ hi]
  split
  · rfl
  · exact h
theorem frees_ready {S : Sem' P} {ops : Array Oper} {listed : Array Bool} {i : Nat} (h : frees S ops listed i = true) : readyAt ops listed i = true := by
  simp only [frees, Bool.and_eq_true] at h
  exact h.1
theorem frees_more {S : Sem' P} {ops : Array Oper} {listed : Array Bool} {i j : Nat} (hj : listed.getD j true = false) (hij : j ≠ i) (h : frees S ops listed i = true) : frees S ops (listed.setIfInBounds j true) i = true := by
  simp only [frees, Bool.and_eq_true] at h ⊢
  refine ⟨ready_more hj hij h.1, ?_⟩
  rw [List.all_eq_true] at h ⊢
  intro k hk
  have := h.2 k hk
  simp only [Bool.or_eq_true, getD_list _ _ _ hj] at this ⊢
  rcases this with (h1 | h1) | h1
  · left; left; split
    · rfl
    · exact h1
  · exact .inl (.inr h1)
  · exact .inr h1
theorem frees_swap {S : Sem' P} {ops : Array Oper} {listed : Array Bool} {i j : Nat} (h : frees S ops listed i = true) (hj : readyAt ops listed j = true) (hij : i ≠ j) {x y : Oper} (hx : ops[i]? = some x) (hy : ops[j]? = some y) :
    apart ops x y = true ∧ swaps S x y = true := by
  have hi := frees_ready h
  simp only [frees, Bool.and_eq_true, List.all_eq_true] at h
  obtain ⟨o, ho, ha⟩ := ready_lt hj
  rw [hy] at ho; cases ho
  have hlt : j < ops.size := (Array.getElem?_eq_some_iff.1 hy).1
  have := h.2 j (List.mem_range.2 hlt)
  simp only [ready_open hj, hx, hy, Bool.false_or, Bool.or_eq_true, Bool.and_eq_true] at this
  rcases this with h1 | h1 | h1
  · exact absurd (Nat.eq_of_beq_eq_true h1) hij
  · exact h1
  · exfalso
    rw [← Array.any_toList, List.any_eq_true] at h1
    obtain ⟨e, he, hb⟩ := h1
    replace he := Array.mem_toList_iff.1 he
    simp only [Bool.and_eq_true] at hb
    rw [Array.all_eq_true_iff_forall_mem] at ha
    have h2 := ha e he
    simp only [hb.1, Bool.not_true, Bool.false_or] at h2
    have hon : e.on = i := Nat.eq_of_beq_eq_true hb.2
    rw [hon] at h2
    have h3 := ready_open hi
    rw [Array.getD_eq_getD_getElem?] at h2 h3
    cases hl : listed[i]? with
    | none => simp [hl] at h2
    | some b => simp [hl] at h2 h3; rw [h2] at h3; cases h3
theorem mem_open {ops : Array Oper} {listed : Array Bool} {i : Nat} : i ∈ open_ ops listed ↔ i < ops.size ∧ listed.getD i true = false := by
  simp only [open_, List.mem_filter, List.mem_range, Bool.not_eq_true']
theorem open_list {ops : Array Oper} {listed : Array Bool} {i : Nat} (hi : listed.getD i true = false) (hlt : i < ops.size) : (open_ ops (listed.setIfInBounds i true)).length < (open_ ops listed).length := by
  have hsub : (open_ ops (listed.setIfInBounds i true)).Sublist (open_ ops listed) := by
    unfold open_
    have : (List.range ops.size).filter (fun j => !(listed.setIfInBounds i true).getD j true) = ((List.range ops.size).filter fun j => !listed.getD j true).filter (fun j => !decide (i = j)) := by
      rw [List.filter_filter]
      refine List.filter_congr fun j _ => ?_
      rw [getD_list _ _ _ hi]
      by_cases h : i = j <;> simp [h]
    rw [this]
    exact List.filter_sublist
  rcases Nat.lt_or_ge (open_ ops (listed.setIfInBounds i true)).length (open_ ops listed).length with h | h
  · exact h
  · exfalso
    have heq := hsub.eq_of_length (Nat.le_antisymm hsub.length_le h)
    have hm : i ∈ open_ ops listed := mem_open.2 ⟨hlt, hi⟩
    rw [← heq, mem_open, getD_list _ _ _ hi] at hm
    simp at hm
theorem set_comm (listed : Array Bool) (i j : Nat) : (listed.setIfInBounds i true).setIfInBounds j true = (listed.setIfInBounds j true).setIfInBounds i true := by
  by_cases h : i = j
  · subst h; rfl
  · exact Array.setIfInBounds_comm _ _ h

theorem vcAny_both {S : Sem' P} {N : Nat} {ops : Array Oper} (hf : ∀ (i : Nat) (o : Oper), ops[i]? = some o → opFine N ops o = true) {K : Fr → Store → Prop} (n : Nat) :
    (∀ (listed : Array Bool) (fr : Fr) (σ : Store), (open_ ops listed).length ≤ n + 1 → ∀ i o, frees S ops listed i = true → ops[i]? = some o →
      vcOp S N ops o (vcAny S N ops K n (listed.setIfInBounds i true)) (fun _ _ _ => False) fr σ → vcAny S N ops K (n + 1) listed fr σ) ∧
    (∀ (listed : Array Bool) (fr : Fr) (σ : Store), (open_ ops listed).length ≤ n + 1 → ∀ i o, readyAt ops listed i = true → ops[i]? = some o →
      vcAny S N ops K (n + 1) listed fr σ → vcOp S N ops o (vcAny S N ops K n (listed.setIfInBounds i true)) (fun _ _ _ => False) fr σ) := by
  have pos : ∀ (n : Nat) (listed : Array Bool) (i j : Nat), (open_ ops listed).length ≤ n + 1 → readyAt ops listed i = true → readyAt ops listed j = true → i ≠ j → ∃ m, n = m + 1 := by
    intro n listed i j hl hi hj hij
    cases n with
    | succ m => exact ⟨m, rfl⟩
    | zero =>
      exfalso
      obtain ⟨x, hx, _⟩ := ready_lt hi
      obtain ⟨y, hy, _⟩ := ready_lt hj
      have h1 := open_list (ops := ops) (ready_open hi) (Array.getElem?_eq_some_iff.1 hx).1
      have h2 : j ∈ open_ ops (listed.setIfInBounds i true) := mem_open.2 ⟨(Array.getElem?_eq_some_iff.1 hy).1, by rw [getD_list _ _ _ (ready_open hi), if_neg hij]; exact ready_open hj⟩
      have := List.length_pos_of_mem h2
      omega
  have less : ∀ (n : Nat) (listed : Array Bool) (i : Nat), (open_ ops listed).length ≤ n + 1 → readyAt ops listed i = true → (open_ ops (listed.setIfInBounds i true)).length ≤ n := by
    intro n listed i hl hi
    obtain ⟨x, hx, _⟩ := ready_lt hi
    have h1 := open_list (ops := ops) (ready_open hi) (Array.getElem?_eq_some_iff.1 hx).1
    omega
  induction n with
  | zero =>
    constructor
    · intro listed fr σ hl i o hi ho h
      unfold vcAny
      cases hfind : (List.range ops.size).find? (frees S ops listed) with
      | none =>
        have := List.find?_eq_none.1 hfind i (List.mem_range.2 (Array.getElem?_eq_some_iff.1 ho).1)
        exact absurd hi this
      | some i0 =>
        have h0 := List.find?_some hfind
        by_cases he : i0 = i
        · subst he; simp only [ho]; exact h
        · obtain ⟨m, hm⟩ := pos 0 listed i0 i hl (frees_ready h0) (frees_ready hi) he
          cases hm
    · intro listed fr σ hl i o hi ho h
      unfold vcAny at h
      cases hfind : (List.range ops.size).find? (frees S ops listed) with
      | none =>
        rw [hfind] at h
        simp only at h
        have hmem : i ∈ (List.range ops.size).filter (readyAt ops listed) := by simp [hi, (Array.getElem?_eq_some_iff.1 ho).1]
        split at h
        · rename_i heq; rw [heq] at hmem; cases hmem
        · have := h i hmem
          simpa only [ho] using this
      | some i0 =>
        have h0 := List.find?_some hfind
        by_cases he : i0 = i
        · subst he; rw [hfind] at h; simpa only [ho] using h
        · obtain ⟨m, hm⟩ := pos 0 listed i0 i hl (frees_ready h0) hi he
          cases hm
  | succ n ih =>
    obtain ⟨ihA, ihB⟩ := ih
    constructor
    · intro listed fr σ hl i o hi ho h
      rw [vcAny]
      cases hfind : (List.range ops.size).find? (frees S ops listed) with
      | none =>
        have := List.find?_eq_none.1 hfind i (List.mem_range.2 (Array.getElem?_eq_some_iff.1 ho).1)
        exact absurd hi this
      | some i0 =>
        have h0 := List.find?_some hfind
        obtain ⟨o0, ho0, _⟩ := ready_lt (frees_ready h0)
        by_cases he : i0 = i
        · subst he; simp only [ho]; exact h
        · simp only [ho0]
          have hi' := ready_open (frees_ready hi)
          have h0' := ready_open (frees_ready h0)
          have h1 : vcOp S N ops o (vcOp S N ops o0 (vcAny S N ops K n ((listed.setIfInBounds i true).setIfInBounds i0 true)) fun _ _ _ => False) (fun _ _ _ => False) fr σ :=
            vcOp_mono (fun fr σ hv => ihB _ fr σ (less _ _ _ hl (frees_ready hi)) i0 o0 (ready_more hi' (fun e => he e.symm) (frees_ready h0)) ho0 hv) h
          obtain ⟨s1, s2⟩ := frees_swap hi (frees_ready h0) (fun e => he e.symm) ho ho0
          have h2 := swap_sound (hf _ _ ho) (hf _ _ ho0) s1 s2 h1
          refine vcOp_mono (fun fr σ hv => ihA _ fr σ (less _ _ _ hl (frees_ready h0)) i o (frees_more h0' he hi) ho ?_) h2
          rw [set_comm]; exact hv
    · intro listed fr σ hl i o hi ho h
      rw [vcAny] at h
      cases hfind : (List.range ops.size).find? (frees S ops listed) with
      | none =>
        rw [hfind] at h
        simp only at h
        have hmem : i ∈ (List.range ops.size).filter (readyAt ops listed) := by simp [hi, (Array.getElem?_eq_some_iff.1 ho).1]
        split at h
        · rename_i heq; rw [heq] at hmem; cases hmem
        · have := h i hmem
          simpa only [ho] using this
      | some i0 =>
        have h0 := List.find?_some hfind
        obtain ⟨o0, ho0, _⟩ := ready_lt (frees_ready h0)
        by_cases he : i0 = i
        · subst he; rw [hfind] at h; simpa only [ho] using h
        · rw [hfind] at h
          simp only [ho0] at h
          have hi' := ready_open hi
          have h0' := ready_open (frees_ready h0)
          have h1 : vcOp S N ops o0 (vcOp S N ops o (vcAny S N ops K n ((listed.setIfInBounds i0 true).setIfInBounds i true)) fun _ _ _ => False) (fun _ _ _ => False) fr σ :=
            vcOp_mono (fun fr σ hv => ihB _ fr σ (less _ _ _ hl (frees_ready h0)) i o (ready_more h0' he hi) ho hv) h
          obtain ⟨s1, s2⟩ := frees_swap h0 hi he ho0 ho
          have h2 := swap_sound (hf _ _ ho0) (hf _ _ ho) s1 s2 h1
          refine vcOp_mono (fun fr σ hv => ihA _ fr σ (less _ _ _ hl hi) i0 o0 (frees_more hi' (fun e => he e.symm) h0) ho0 ?_) h2
          rw [set_comm]; exact hv

theorem ready_eq (ops : Array Oper) (listed : Array Bool) : Region.ready .any ops listed = (List.range ops.size).filter (readyAt ops listed) := rfl

theorem vcAny_sound {S : Sem' P} {N : Nat} {D : List Deferred} {ops : Array Oper} (hf : ∀ (i : Nat) (o : Oper), ops[i]? = some o → opFine N ops o = true) {K : AX → Fr → Store → Prop} (n : Nat) :
    ∀ {listed : Array Bool} {fr : Fr} {σ : Store}, (open_ ops listed).length ≤ n → vcAny S N ops (K .norm) n listed fr σ → ∀ {R : RO} {w : World} {a : Act}, ActR R N D a fr → St R w σ →
    ∀ {Q : Exit → Act → World → Prop}, (∀ e a' w', Post N D R w σ K e a' w' → Q e a' w') → wpAny P .any ops Q n listed a w := by
  have fin : ∀ {fr : Fr} {σ : Store} {R : RO} {w : World} {a : Act} {Q : Exit → Act → World → Prop}, K .norm fr σ → ActR R N D a fr → St R w σ → (∀ e a' w', Post N D R w σ K e a' w' → Q e a' w') → Q .normal a w :=
    fun h ha hs hQ => hQ _ _ _ ⟨.norm, _, _, _, trivial, h, ha, hs, Ext.refl _ _ _⟩
  induction n with
  | zero =>
    intro listed fr σ hl h R w a ha hs Q hQ
    refine ⟨?_, fin h ha hs hQ⟩
    rw [ready_eq]
    apply List.eq_nil_iff_forall_not_mem.2
    intro i hi
    obtain ⟨h1, h2⟩ := List.mem_filter.1 hi
    have : i ∈ open_ ops listed := mem_open.2 ⟨List.mem_range.1 h1, ready_open h2⟩
    have := List.length_pos_of_mem this
    omega
  | succ n ih =>
    intro listed fr σ hl h R w a ha hs Q hQ
    refine ⟨fun hr => ?_, fun i hi => ?_⟩
    · rw [ready_eq] at hr
      unfold vcAny at h
      cases hfind : (List.range ops.size).find? (frees S ops listed) with
      | none => rw [hfind] at h; simp only [hr] at h; exact fin h ha hs hQ
      | some i0 =>
        exfalso
        have h0 := List.find?_some hfind
        obtain ⟨o0, ho0, _⟩ := ready_lt (frees_ready h0)
        have : i0 ∈ (List.range ops.size).filter (readyAt ops listed) := by simp [frees_ready h0, (Array.getElem?_eq_some_iff.1 ho0).1]
        rw [hr] at this
        cases this
    · rw [ready_eq] at hi
      obtain ⟨h1, h2⟩ := List.mem_filter.1 hi
      obtain ⟨o, ho, _⟩ := ready_lt h2
      have hv := (vcAny_both hf n).2 listed fr σ hl i o h2 ho h
      have hlt := open_list (ops := ops) (ready_open h2) (List.mem_range.1 h1)
      have := vcOp_sound (D := D) (hf i o ho) (next := wpAny P .any ops Q n (listed.setIfInBounds i true)) (Q := Q) hv ha hs
        (fun a' w' fr' σ' R' hk ha' hs' hx => ih (by omega) hk ha' hs' fun e a'' w'' hp => hQ _ _ _ (hp.trans hx))
        (fun v u w' σ' R' hk hv hs' hx => hk.elim)
      unfold wpOp
      simp only [ho]
      split
      · rename_i hw; rw [if_pos hw] at this; exact .inl this
      · rename_i hw; rw [if_neg hw] at this; exact this

/-- One operation; what is told at once is not asked for. -/
def vcOp1 (S : Sem' P) (N : Nat) (ops : Array Oper) (o : Oper) (K : Fr → Store → Prop) (kp : Fr → AV → Store → Prop) (fr : Fr) (σ : Store) : Prop :=
  match o.guard with
  | none => (match S.fn o (evA fr) with
    | some u => K (updo fr o.dst u) σ
    | none => vcOp S N ops o K kp fr σ)
  | some _ => vcOp S N ops o K kp fr σ
theorem vcOp1_vcOp {S : Sem' P} {N : Nat} {ops : Array Oper} {o : Oper} {K K' : Fr → Store → Prop} (hK : ∀ fr σ, K fr σ → K' fr σ) {kp : Fr → AV → Store → Prop} {fr : Fr} {σ : Store} (h : vcOp1 S N ops o K kp fr σ) : vcOp S N ops o K' kp fr σ := by
  unfold vcOp1 at h
  split at h
  · rename_i hg
    split at h
    · rename_i u hf
      obtain ⟨h1, h2⟩ := S.fnOk _ _ _ hf
      refine (vcOp_gives (by rw [h1]; intro e; cases e)).2 ⟨u, ?_, hK _ _ h⟩
      unfold gives
      rw [hg, h1]
      exact h2
    · exact vcOp_mono hK h
  · exact vcOp_mono hK h
def vcOps1 (S : Sem' P) (N : Nat) (ops : Array Oper) (K : AX → Fr → Store → Prop) : List Oper → Fr → Store → Prop
  | [], fr, σ => K .norm fr σ
  | o :: rest, fr, σ => vcOp1 S N ops o (vcOps1 S N ops K rest) (fun fr u σ => K (.pan u) fr σ) fr σ
theorem vcOps1_vcOps {S : Sem' P} {N : Nat} {ops : Array Oper} {K : AX → Fr → Store → Prop} : ∀ (l : List Oper) (fr : Fr) (σ : Store), vcOps1 S N ops K l fr σ → vcOps S N ops K l fr σ
  | [], _, _, h => h
  | _ :: rest, _, _, h => vcOp1_vcOp (vcOps1_vcOps rest) h
def vcAny1 (S : Sem' P) (N : Nat) (ops : Array Oper) (K : Fr → Store → Prop) : Nat → Array Bool → Fr → Store → Prop
  | 0, listed, fr, σ => K fr σ
  | n + 1, listed, fr, σ =>
    match (List.range ops.size).find? (frees S ops listed) with
    | some i => match ops[i]? with
      | some o => vcOp1 S N ops o (vcAny1 S N ops K n (listed.setIfInBounds i true)) (fun _ _ _ => False) fr σ
      | none => False
    | none => match (List.range ops.size).filter (readyAt ops listed) with
      | [] => K fr σ
      | rs => vcAll (fun i fr σ => match ops[i]? with
          | some o => vcOp1 S N ops o (vcAny1 S N ops K n (listed.setIfInBounds i true)) (fun _ _ _ => False) fr σ
          | none => False) rs fr σ
where vcAll (f : Nat → Fr → Store → Prop) : List Nat → Fr → Store → Prop
    | [], _, _ => True
    | [i], fr, σ => f i fr σ
    | i :: rs, fr, σ => f i fr σ ∧ vcAll f rs fr σ
theorem vcAll_mem {f : Nat → Fr → Store → Prop} : ∀ (rs : List Nat) (fr : Fr) (σ : Store), vcAny1.vcAll f rs fr σ → ∀ i ∈ rs, f i fr σ
  | [], _, _, _, i, hi => by cases hi
  | [j], _, _, h, i, hi => by rw [List.mem_singleton.1 hi]; exact h
  | j :: k :: rs, fr, σ, h, i, hi => by
    rcases List.mem_cons.1 hi with rfl | hi
    · exact h.1
    · exact vcAll_mem (k :: rs) fr σ h.2 i hi
theorem vcAny1_vcAny {S : Sem' P} {N : Nat} {ops : Array Oper} {K : Fr → Store → Prop} : ∀ (n : Nat) (listed : Array Bool) (fr : Fr) (σ : Store), vcAny1 S N ops K n listed fr σ → vcAny S N ops K n listed fr σ
  | 0, _, _, _, h => h
  | n + 1, listed, fr, σ, h => by
    unfold vcAny1 at h
    unfold vcAny
    cases hf : (List.range ops.size).find? (frees S ops listed) with
    | some i =>
      rw [hf] at h
      simp only at h ⊢
      cases ho : ops[i]? with
      | none => rw [ho] at h; exact h
      | some o => rw [ho] at h; exact vcOp1_vcOp (vcAny1_vcAny n _) h
    | none =>
      rw [hf] at h
      simp only at h ⊢
      cases hr : (List.range ops.size).filter (readyAt ops listed) with
      | nil => rw [hr] at h; exact h
      | cons r rs =>
        rw [hr] at h
        simp only at h ⊢
        intro i hi
        have := vcAll_mem _ _ _ h i hi
        cases ho : ops[i]? with
        | none => rw [ho] at this; exact this
        | some o => rw [ho] at this; exact vcOp1_vcOp (vcAny1_vcAny n _) this

end Go.Ab
