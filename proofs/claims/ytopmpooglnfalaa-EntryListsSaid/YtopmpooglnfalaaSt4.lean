/- Steps (part 4): calls; what is handed over. No program in sight. -/
import Derived.Test.YtopmpooglnfalaaSt3
set_option linter.unusedVariables false
set_option linter.unusedSimpArgs false
namespace Go.Ab
variable {P : Program}

/-- What is handed over, with rows of one's own told as memory that turns no more. -/
class Give (σ : Store) (us : List AV) (σ' : outParam Store) (us' : outParam (List AV)) : Prop where
  sub : Sub σ us σ' us'
instance giveNil (σ : Store) : Give σ [] σ [] := ⟨Sub.refl _ _⟩
theorem Sub.cons_same {σ σ' : Store} {us us' : List AV} (u : AV) (h : Sub σ us σ' us') : Sub σ (u :: us) σ' (u :: us') := by
  intro R w vs hv hs
  obtain ⟨hl, hr⟩ := hv
  match vs, hl with
  | v :: vs, hl =>
    have h0 : VR R v u := hr 0 u v rfl rfl
    have hv' : VRs R vs us := ⟨by simpa using hl, fun j x y hx hy => hr (j + 1) x y (by simpa using hx) (by simpa using hy)⟩
    obtain ⟨R', h1, h2, h3⟩ := h R w vs hv' hs
    exact ⟨R', VRs.cons (h0.mono h3.ro) h1, h2, h3⟩
instance (priority := 50) giveKeep (σ σ' : Store) (u : AV) (us us' : List AV) [h : Give σ us σ' us'] : Give σ (u :: us) σ' (u :: us') := ⟨Sub.cons_same u h.sub⟩
theorem Sub.cons_own {σ1 σ2 σ' : Store} {v : Value} {E : TypeId} {sz fl n : Nat} {l us us' : List AV} (h : Sub (σ1 ++ σ2) us σ' us') : Sub (σ1 ++ .row v E sz l fl :: σ2) (.own v n :: us) σ' (.lst sz l .ro :: us') := by
  refine Sub.trans (Sub.freeze (σ1 := σ1) (σ2 := σ2) (args' := .lst sz l .ro :: us) ⟨.inr ⟨⟨n, rfl⟩, rfl⟩, Frzs.refl _ _ _⟩) (Sub.cons_same _ h)
instance giveOwn (σ rest σ' : Store) (v : Value) (n : Nat) (E : TypeId) (sz : Nat) (l : List AV) (fl : Nat) (put : Ent → Store) (us us' : List AV) [hr : RowAt v σ E sz l fl put rest] [h : Give rest us σ' us'] : Give σ (.own v n :: us) σ' (.lst sz l .ro :: us') := ⟨by
  obtain ⟨σ1, σ2, e, _, e3⟩ := hr.at_
  subst e; have := h.sub; rw [e3] at this
  exact Sub.cons_own this⟩

/-- A function that is told by its arguments alone. -/
class PC (P : Program) (f : FuncId) (args : List AV) (pre : outParam Prop) (u : outParam AV) : Prop where
  ct : pre → ∃ args1, SubVs args args1 ∧ aPure P f args1 u
/-- A function without a body. -/
class XC (P : Program) (f : FuncId) (args : List AV) (u : outParam AV) : Prop where
  ct : aPureC P f args u
theorem aPureC.of {f : FuncId} {args : List AV} {u : AV} (h : aPure P f args u) : aPureC P f args u := .inl ⟨args, SubVs.refl _, h⟩
theorem PC.of {f : FuncId} {args : List AV} {u : AV} (h : aPure P f args u) : ∃ args1, SubVs args args1 ∧ aPure P f args1 u := ⟨args, SubVs.refl _, h⟩
section calls
variable {f : FuncId} {args args' a b : List AV} {pre : Prop} {u : AV} {K : AV → Prop} {σ σ' : Store} {k kp : AV → Store → Prop}
instance pcall [h : PC P f args pre u] : Stp (Do (aPureC P f args) K) (Need pre (K u)) := ⟨fun ⟨h1, h2⟩ => ⟨u, .inl (h.ct h1), h2⟩⟩
instance xcall [h : XC P f args u] : Stp (Do (aPureC P f args) K) (K u) := ⟨fun h2 => ⟨u, h.ct, h2⟩⟩
instance pcallV {g : FuncId} : Stp (Do (aPureV P (.val (.func (.func g) #[] #[])) args) K) (Do (aPureC P g args) K) := ⟨fun ⟨v, h1, h2⟩ => ⟨v, by
  have e : ([] ++ args ++ [] : List AV) = args := by simp
  unfold aPureV calleeOf
  simp only [List.toList_toArray, List.map_nil, e]
  simpa using h1, h2⟩⟩
instance pcallF {g : FuncId} : Stp (Do (aPureV P (.fn (.func g) a b) args) K) (Do (aPureC P g (a ++ args ++ b)) K) := ⟨fun ⟨v, h1, h2⟩ => ⟨v, h1, h2⟩⟩
instance ecallV {g : FuncId} : Stp (aCallV P (.val (.func (.func g) #[] #[])) args σ k kp) (aCall P g args σ k kp) := ⟨fun h => by
  have e : ([] ++ args ++ [] : List AV) = args := by simp
  unfold aCallV calleeOf
  simp only [List.toList_toArray, List.map_nil, e]
  simpa using h⟩
instance ecallF {g : FuncId} : Stp (aCallV P (.fn (.func g) a b) args σ k kp) (aCall P g (a ++ args ++ b) σ k kp) := ⟨fun h => h⟩

/-- What is told without memory. -/
class Ground (u : AV) : Prop where
  g : ∀ R R' v, VR R v u → VR R' v u
instance (v : Value) : Ground (.val v) := ⟨fun R R' w h => by rw [h.val_inv]; exact .val v⟩
theorem VRs.ground {us : List AV} (h : ∀ u ∈ us, Ground u) {R R' : RO} {vs : List Value} (hv : VRs R vs us) : VRs R' vs us := ⟨hv.1, fun j u v hu hv' => (h u (List.mem_of_getElem? hu)).g R R' v (hv.2 j u v hu hv')⟩
class Grounds (us : List AV) : Prop where
  g : ∀ u ∈ us, Ground u
instance : Grounds [] := ⟨by simp⟩
instance (u : AV) (us : List AV) [h : Ground u] [k : Grounds us] : Grounds (u :: us) := ⟨fun x hx => by
  rcases List.mem_cons.1 hx with rfl | hx
  · exact h
  · exact k.g x hx⟩
instance (us vs : List AV) [h : Grounds us] [k : Grounds vs] : Grounds (us ++ vs) := ⟨fun x hx => by
  rcases List.mem_append.1 hx with hx | hx
  · exact h.g x hx
  · exact k.g x hx⟩
instance (b : UInt8) : Ground (byt b) := ⟨fun R R' w h => by rw [show w = _ from h.val_inv]; exact .val _⟩
instance (l : List UInt8) : Grounds (l.map byt) := ⟨fun x hx => by
  obtain ⟨b, _, rfl⟩ := List.mem_map.1 hx
  exact inferInstance⟩
instance (us : List AV) [h : Grounds us] : Ground (.tuple us) := ⟨fun R R' w hw => by
  obtain ⟨vs, rfl, hv⟩ := hw.tuple_inv
  exact VR.tuple' (hv.ground h.g)⟩
instance (us : List AV) [h : Grounds us] : Ground (.agg us) := ⟨fun R R' w hw => by
  obtain ⟨vs, rfl, hv⟩ := hw.agg_inv
  exact VR.agg' (hv.ground h.g)⟩

/-- A function with memory of its own: what it asks, what it hands back and leaves. -/
class EC (P : Program) (f : FuncId) (args : List AV) (σ : Store) (pre : outParam Prop) (β : outParam Type) (r : outParam (β → AV)) (s : outParam (β → Store)) : Prop where
  ct : pre → ACalls P f args σ fun x σ' => ∃ y, x = .ret (r y) ∧ σ' = s y
instance (priority := 100) ecallP [h : PC P f args pre u] : Stp (aCall P f args σ k kp) (Need pre (k u σ)) := ⟨fun ⟨h1, h2⟩ => by
  obtain ⟨args1, hs, hp⟩ := h.ct h1
  refine ⟨σ, args1, Sub.vals hs, ?_⟩
  have hf := hp.frame σ
  exact hf.mono fun x τ ⟨σ1, e1, _, e2, e3⟩ => by
    rw [e2, e1, e3]
    exact h2⟩
instance (priority := 90) ecallB [hg : Give σ args σ' args'] [h : PC P f args' pre u] [hu : Ground u] : Stp (aCall P f args σ k kp) (Need pre (k u σ)) := ⟨fun ⟨h1, h2⟩ =>
  ⟨σ, args, Sub.refl _ _, by
    obtain ⟨args1, hs, hp⟩ := h.ct h1
    exact (borrow_ (hg.sub.trans (Sub.vals hs)) hp hu.g).mono fun x τ ⟨e1, e2⟩ => by rw [e1, e2]; exact h2⟩⟩
instance (priority := 80) ecallG [hg : Give σ args σ' args'] [h : PC P f args' pre u] : Stp (aCall P f args σ k kp) (Need pre (k u σ')) := ⟨fun ⟨h1, h2⟩ => by
  obtain ⟨args1, hs, hp⟩ := h.ct h1
  refine ⟨σ', args1, hg.sub.trans (Sub.vals hs), ?_⟩
  have hf := hp.frame σ'
  exact hf.mono fun x τ ⟨σ1, e1, _, e2, e3⟩ => by
    rw [e2, e1, e3]
    exact h2⟩
instance (priority := 110) ecallE {β : Type} {r : β → AV} {s : β → Store} [h : EC P f args σ pre β r s] : Stp (aCall P f args σ k kp) (Need pre (All fun y => k (r y) (s y))) := ⟨fun ⟨h1, h2⟩ =>
  ⟨σ, args, Sub.refl _ _, (h.ct h1).mono fun x τ ⟨y, e1, e2⟩ => by rw [e1, e2]; exact h2 y⟩⟩
instance (priority := 70) ecallEG {β : Type} {r : β → AV} {s : β → Store} [hg : Give σ args σ' args'] [h : EC P f args' σ' pre β r s] : Stp (aCall P f args σ k kp) (Need pre (All fun y => k (r y) (s y))) := ⟨fun ⟨h1, h2⟩ =>
  ⟨σ', args', hg.sub, (h.ct h1).mono fun x τ ⟨y, e1, e2⟩ => by rw [e1, e2]; exact h2 y⟩⟩
/-- .. and what is known of what it hands back. -/
class EQ (P : Program) (f : FuncId) (args : List AV) (σ : Store) (pre : outParam Prop) (β : outParam Type) (c : outParam (β → Prop)) (r : outParam (β → AV)) (s : outParam (β → Store)) : Prop where
  ct : pre → ACalls P f args σ fun x σ' => ∃ y, c y ∧ x = .ret (r y) ∧ σ' = s y
instance (priority := 120) ecallQ {β : Type} {c : β → Prop} {r : β → AV} {s : β → Store} [h : EQ P f args σ pre β c r s] : Stp (aCall P f args σ k kp) (Need pre (All fun y => Imp (c y) (k (r y) (s y)))) := ⟨fun ⟨h1, h2⟩ =>
  ⟨σ, args, Sub.refl _ _, (h.ct h1).mono fun x τ ⟨y, e0, e1, e2⟩ => by rw [e1, e2]; exact h2 y e0⟩⟩
theorem ACalls.subV {Q : AEnd → Store → Prop} (h : ACalls P f args' σ Q) (hs : SubVs args args') : ACalls P f args σ Q := ⟨h.1, fun R w vs hv hst => h.2 R w vs (hs.rel hv) hst⟩
instance panic_ {t : TypeId} : Stp (aPanic (.ifc t u) σ kp) (kp (.ifc t u) σ) := ⟨fun h => ⟨⟨t, u, rfl⟩, h⟩⟩
end calls
end Go.Ab
