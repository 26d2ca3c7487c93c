/- A logic over abstract states (part 13): the words in which a function's condition is printed. -/
import Derived.Test.YtopmpooglnfalaaAb12
set_option linter.unusedVariables false
set_option linter.unusedSimpArgs false
namespace Go.Ab

/-- What an operation under a guard gives. -/
def aGuard (g : AV) (want : Bool) (X : AV → Prop) (u : AV) : Prop := ∃ t, wantedA g want = some t ∧ if t = true then X u else u = .val Go.undef
/-- Calls of function values. -/
def aCallV (P : Program) (x : AV) (args : List AV) (σ : Store) (k kp : AV → Store → Prop) : Prop := match calleeOf x with
  | some (f, a, b) => aCall P f (a ++ args ++ b) σ k kp
  | none => False
def aPureV (P : Program) (x : AV) (args : List AV) (u : AV) : Prop := match calleeOf x with
  | some (f, a, b) => aPureC P f (a ++ args ++ b) u
  | none => False
/-- Conversions. -/
def aConvSB (x u : AV) : Prop := match x with
  | .val (.string str) => str.size ≤ maxLen ∧ u = .lst 1 (str.data.toList.map byt) .ro
  | _ => False
def aConvBS (x u : AV) : Prop := match x with
  | .lst _ l _ => ∃ bs : List UInt8, l = bs.map byt ∧ u = .val (.string ⟨bs.toArray⟩)
  | _ => False
def aConvN (s d : TypeId) (x u : AV) (P : Program) : Prop := match x with
  | .val a => ∃ v, u = .val v ∧ ∀ w : World, (convert s d a).run P w = .ok v w
  | _ => False
def aSlLit (z : AV) (s n : Nat) (parts : List (Nat × AV)) (u : AV) : Prop := partsOne parts ∧ aBuildSl z s n parts u ∧ (∀ l : List AV, u = .lst s l .full → ∀ c ∈ flat l, c.one = true)
def aLit (zs : List AV) (pl : List (Nat × Nat)) (parts : List (Nat × AV)) (u : AV) : Prop := partsOne parts ∧ aBuild zs (pl[·]?) parts u
def aRowL (E : TypeId) (z : AV) (s n : Nat) (parts : List (Nat × AV)) (σ : Store) (k : AV → Store → Prop) : Prop := partsOne parts ∧ aRowLit E z s n parts σ k
def aPanic (x : AV) (σ : Store) (kp : AV → Store → Prop) : Prop := (∃ t u, x = .ifc t u) ∧ kp x σ
/-- A function's code. -/
def bodyOf (fn : Func) : Code := fn.body.getD .skip
theorem load_at {P : Program} {R : RO} {w : World} {σ : Store} (hs : St R w σ) {t : TypeId} {ag : Bool} {s : Nat} (hsh : shapeOf P t = some (ag, s)) {p u : AV} (h : loadA ag s p σ u) {v : Value} (hx : VR R v p) :
    ∃ a x, v = .pointer (some a) ∧ (loadVar t a).run P w = .ok x w ∧ VR R x u := by
  obtain ⟨hs0, hag, h⟩ := h
  have fin : ∀ (a : Addr) (vs : List Value) (cs : List AV), v = .pointer (some a) → VRs R vs cs → cs.length = s → u = mkV ag cs → (∀ (j : Nat) (v : Value), vs[j]? = some v → w.cell? (a.add j) = some v) →
      ∃ a x, v = .pointer (some a) ∧ (loadVar t a).run P w = .ok x w ∧ VR R x u := by
    intro a vs cs hv hr hl hu hc
    exact ⟨a, mkC ag vs, hv, load_run hsh hc (hr.1.trans hl) hag, by rw [hu]; exact mkV_rel hr ag⟩
  split at h
  · rename_i cs
    obtain ⟨a, vs, hv, hr, hR⟩ := hx.rptr_inv
    have hh := cells_at (w := w) (a := a) (vs := vs) (fun j v hj => hs.ro _ _ (hR j v hj)) 0 s
    rw [addr_add_zero, List.drop_zero] at hh
    exact fin a _ _ hv (hr.take s) (by rw [List.length_take]; omega) h.2 hh
  · rename_i a
    obtain ⟨hsp, t', cs, hm, hl, hu⟩ := h
    obtain ⟨vs, hr, _, _, hc⟩ := var_cells hs hm
    obtain ⟨b, off, sp⟩ := a
    simp only at hsp hl hu hm hc
    subst hsp
    have hh := cells_at hc off s
    rw [addr_lit_add, Nat.zero_add] at hh
    exact fin _ _ _ hx.val_inv ((hr.drop off).take s) (by rw [List.length_take, List.length_drop]; omega) hu hh
  · rename_i v' sz i j
    obtain ⟨E, l, fl, hm, hi, hj, hu⟩ := h
    obtain ⟨g, n, cap, hv, he⟩ := VR.eptr_inv hx
    obtain ⟨vs, hr, _, _, hsz0, hsz, hc⟩ := row_cells hs hm
    have hh := cells_at (hc g n cap hv) (i * sz) sz
    have hr' := (hr.drop (i * sz)).take sz
    rw [flat_get hsz i hi] at hr'
    have hh2 := cells_at hh j s
    rw [addr_lit_add, addr_lit_add, Nat.zero_add] at hh2
    have hlen : (l.getD i .undef).cells.length = sz := by
      have hmem : l.getD i .undef ∈ l := by rw [List.getD_eq_getElem?_getD, List.getElem?_eq_getElem hi]; exact List.getElem_mem _
      exact hsz _ hmem
    exact fin _ _ _ he ((hr'.drop j).take s) (by rw [List.length_take, List.length_drop, hlen]; omega) hu hh2
  · exact h.elim

/-! ### What a function hands back, variables among it -/
inductive RS where
  | tmp (t : Nat) | cell (a : Nat) (ag : Bool) (s : Nat)
def resOf (P : Program) : List ResultVar → Option (List RS)
  | [] => some []
  | .tmp t :: rs => (resOf P rs).map (.tmp t :: ·)
  | .cell a t :: rs => match shapeOf P t with
    | some (ag, s) => (resOf P rs).map (.cell a ag s :: ·)
    | none => none
def resVs (fr : Fr) (σ : Store) : List RS → (List AV → Prop) → Prop
  | [], k => k []
  | .tmp t :: rs, k => resVs fr σ rs fun us => k (fr t :: us)
  | .cell a ag s :: rs, k => ∃ u, loadA ag s (fr a) σ u ∧ resVs fr σ rs fun us => k (u :: us)
def oneA : List AV → AV
  | [u] => u
  | us => .tuple us
theorem asAddr_run {P : Program} (a : Addr) (w : World) : (asAddr (.pointer (some a))).run P w = .ok a w := by simp [asAddr]
theorem resVs_run {P : Program} {R : RO} {w : World} {σ : Store} (hs : St R w σ) {tmps : Array Value} {fr : Fr} (hf : ∀ t, VR R (tmps.getD t Go.undef) (fr t)) (g : ResultVar → Sem Value)
    (hg1 : ∀ t, g (.tmp t) = pure (tmps.getD t Go.undef)) (hg2 : ∀ a t, g (.cell a t) = (asAddr (tmps.getD a Go.undef) >>= fun x => loadVar t x)) :
    ∀ (rs : List ResultVar) (l : List RS), resOf P rs = some l → ∀ k : List AV → Prop, resVs fr σ l k → ∃ vs us, (rs.mapM g).run P w = .ok vs w ∧ VRs R vs us ∧ k us := by
  intro rs
  induction rs with
  | nil => intro l hl k hk; simp [resOf] at hl; subst hl; exact ⟨[], [], by simp, VRs.nil R, hk⟩
  | cons r rs ih =>
    intro l hl k hk
    cases r with
    | tmp t =>
      simp only [resOf, Option.map_eq_some_iff] at hl
      obtain ⟨l', hl', rfl⟩ := hl
      obtain ⟨vs, us, h1, h2, h3⟩ := ih l' hl' _ hk
      exact ⟨_ :: vs, _ :: us, by simp only [List.mapM_cons, hg1, Sem.run_bind, Sem.run_pure, Result.andThen_ok, h1], VRs.cons (hf t) h2, h3⟩
    | cell a t =>
      simp only [resOf] at hl
      split at hl
      · rename_i ag s hsh
        simp only [Option.map_eq_some_iff] at hl
        obtain ⟨l', hl', rfl⟩ := hl
        obtain ⟨u, hu, hk⟩ := hk
        obtain ⟨ad, x, e1, e2, e3⟩ := load_at hs hsh hu (hf a)
        obtain ⟨vs, us, h1, h2, h3⟩ := ih l' hl' _ hk
        refine ⟨x :: vs, u :: us, ?_, VRs.cons e3 h2, h3⟩
        simp only [List.mapM_cons, hg2, e1, Sem.run_bind, asAddr_run, Sem.run_pure, Result.andThen_ok, e2, h1]
      · cases hl

def resG (tmps : Array Value) : ResultVar → Sem Value
  | .tmp t => pure (tmps.getD t Go.undef)
  | .cell a t => do loadVar t (← asAddr (tmps.getD a Go.undef))
theorem results_eq (fn : Func) (tmps : Array Value) : results fn tmps = (fn.results.mapM (resG tmps) >>= fun vs => pure (if h : vs.size = 1 then vs[0] else .tuple vs)) := by
  unfold results
  congr 1
/-- What is left at a function's end. -/
def endK (l : List RS) (Q : AEnd → Store → Prop) : AX → Fr → Store → Prop := fun x fr σ => match x with
  | .norm => resVs fr σ l fun us => Q (.ret (oneA us)) σ
  | .ret => resVs fr σ l fun us => Q (.ret (oneA us)) σ
  | .pan u => Q (.pan u) σ
  | .exit _ => False
theorem acalls_of_eq {P : Program} {S : Sem' P} {A : Ann} {f : FuncId} {fn : Func} {args : List AV} {σ : Store} {Q : AEnd → Store → Prop} (l : List RS) {X : Prop}
    (hf : P.funcs[f]? = some fn) (hb : fn.body = some (bodyOf fn)) (hn : (fn.name == "runtime.NumGoroutine") = false) (hN : Nat.ble args.length fn.ntmps = true) (hr : resOf P fn.results.toList = some l)
    (he : vc S fn.ntmps A (bodyOf fn) (endK l Q) (argFr args) σ = X) (h : X) : ACalls P f args σ Q := by
  rw [← he] at h
  refine ⟨⟨fn, _, hf, hb, hn⟩, fun R w vs hv hs => calls_of_wp hf hb ?_⟩
  refine vc_sound (D := []) _ h (calls_args hv _ (Nat.le_of_ble_eq_true hN)) hs ?_
  have fin : ∀ {a' : Act} {w' : World} {fr' : Fr} {σ' : Store} {R' : RO}, resVs fr' σ' l (fun us => Q (.ret (oneA us)) σ') → ActR R' fn.ntmps [] a' fr' → St R' w' σ' → Ext R w σ R' w' σ' →
      a'.defers = [] ∧ ∃ v, (results fn a'.tmps).run P w' = .ok v w' ∧ ∃ x R' σ', EndR R' (.returned v) x ∧ Q x σ' ∧ St R' w' σ' ∧ Ext R w σ R' w' σ' := by
    intro a' w' fr' σ' R' hq ha hs hx
    obtain ⟨vs, us, h1, h2, h3⟩ := resVs_run hs ha.tmps (resG a'.tmps) (fun t => rfl) (fun a t => rfl) _ _ hr _ hq
    refine ⟨ha.defers, (if h : vs.toArray.size = 1 then vs.toArray[0] else .tuple vs.toArray), ?_, .ret (oneA us), R', σ', ?_, h3, hs, hx⟩
    · rw [results_eq]
      rw [Array.mapM_eq_mapM_toList]
      simp only [Sem.run_bind, Sem.run_map]
      rw [h1]
      simp only [Result.andThen_ok, Sem.run_pure]
    · show VR R' _ _
      have gen := VR.tuple' h2
      cases us with
      | nil => cases vs with
        | nil => exact gen
        | cons v vs => have := h2.1; simp at this
      | cons u us => cases vs with
        | nil => have := h2.1; simp at this
        | cons v vs => cases us with
          | nil => cases vs with
            | nil => exact h2.2 0 u v rfl rfl
            | cons _ _ => have := h2.1; simp at this
          | cons _ _ => cases vs with
            | nil => have := h2.1; simp at this
            | cons _ _ => simpa [oneA] using gen
  rintro e a' w' ⟨x, fr', σ', R', h1, h2, h3, h4, h5⟩
  cases e with
  | normal =>
    cases x with
    | norm => exact fin h2 h3 h4 h5
    | _ => exact h1.elim
  | ret =>
    cases x with
    | ret => exact fin h2 h3 h4 h5
    | _ => exact h1.elim
  | panic ch =>
    cases x with
    | pan u => exact ⟨h3.defers, .pan u, R', σ', h1, h2, h4, h5⟩
    | _ => exact h1.elim
  | exit i =>
    cases x with
    | exit j => exact h2.elim
    | _ => exact h1.elim
  | goto i => cases x <;> exact h1.elim
  | outgrown => cases x <;> exact h1.elim

end Go.Ab
